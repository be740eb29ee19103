/- The functions of the program as Lean functions, printed by a program of ours; each with its proof. -/
import Derived.Test.YtehmkckpbknodaaDoorProg
import Derived.Test.YtehmkckpbknodaaDoorEvE
import Derived.KernelRfl
namespace Go.Proofs.YtehmkckpbknodaaDoor
open Go Go.Ev
set_option maxRecDepth 100000
set_option linter.all false
/-! ### 6 turnkey/turnkeyworld.Number -/
noncomputable def E6 (v4 : Value) (h : AH) : Res := some (v4, h)
noncomputable def J6_0 (F : CallH) (M : Nat) (v5 : Value) (h : AH) : Res :=
  E6 v5 h
theorem J6_0_ok (F : CallH) (M : Nat) : ∀ r h, kcode Tryd.prog F 15 M (Code.sub [true, true, true] (bodyOf Tryd.prog 6)) r h (KX (fun r h => E6 (r 4) h) (exitsOf []) (fun r h => E6 (r 4) h)) = J6_0 F M (r 5) h := fun r h => by kernel_rfl
noncomputable def J6_1 (F : CallH) (M : Nat) (v1 : Value) (v5 : Value) (h : AH) : Res :=
  bindO (ibin .lss v5 (.int .i64 0)) fun v10 =>
  condO v10 (
  bindO (ibin .add v5 v1) fun v13 =>
  J6_0 F M v13 h) (
  J6_0 F M v5 h)
theorem J6_1_ok (F : CallH) (M : Nat) : ∀ r h, kcode Tryd.prog F 15 M (Code.sub [true, true, false] (bodyOf Tryd.prog 6)) r h (KX (fun r h => J6_0 F M (r 5) h) (exitsOf []) (fun r h => E6 (r 4) h)) = J6_1 F M (r 1) (r 5) h := fun r h => by kernel_rfl
theorem J6_2_ok (F : CallH) (M : Nat) : ∀ r h, kcode Tryd.prog F 15 M (Code.sub [true, true] (bodyOf Tryd.prog 6)) r h (KX (fun r h => E6 (r 4) h) (exitsOf []) (fun r h => E6 (r 4) h)) = J6_1 F M (r 1) (r 5) h :=
  seq_pt (a := (Code.sub [true, true, false] (bodyOf Tryd.prog 6))) (b := (Code.sub [true, true, true] (bodyOf Tryd.prog 6))) (T := (fun r h => J6_1 F M (r 1) (r 5) h)) (g := (fun r h => J6_0 F M (r 5) h)) (by kernel_rfl) (J6_0_ok F M) (J6_1_ok F M)
noncomputable def J6_3 (F : CallH) (M : Nat) (v0 : Value) (v1 : Value) (h : AH) : Res :=
  bindO (ibin .rem v0 v1) fun v8 =>
  J6_1 F M v1 v8 h
theorem J6_3_ok (F : CallH) (M : Nat) : ∀ r h, kcode Tryd.prog F 15 M (Code.sub [true] (bodyOf Tryd.prog 6)) r h (KX (fun r h => E6 (r 4) h) (exitsOf []) (fun r h => E6 (r 4) h)) = J6_3 F M (r 0) (r 1) h :=
  seq_pt (a := (Code.sub [true, false] (bodyOf Tryd.prog 6))) (b := (Code.sub [true, true] (bodyOf Tryd.prog 6))) (T := (fun r h => J6_3 F M (r 0) (r 1) h)) (g := (fun r h => J6_1 F M (r 1) (r 5) h)) (by kernel_rfl) (J6_2_ok F M) (fun r h => by kernel_rfl)
noncomputable def J6_4 (F : CallH) (M : Nat) (v0 : Value) (v1 : Value) (h : AH) : Res :=
  J6_3 F M v0 v1 h
theorem J6_4_ok (F : CallH) (M : Nat) : ∀ r h, kcode Tryd.prog F 15 M (Code.sub [] (bodyOf Tryd.prog 6)) r h (KX (fun r h => E6 (r 4) h) (exitsOf []) (fun r h => E6 (r 4) h)) = J6_4 F M (r 0) (r 1) h :=
  seq_pt (a := (Code.sub [false] (bodyOf Tryd.prog 6))) (b := (Code.sub [true] (bodyOf Tryd.prog 6))) (T := (fun r h => J6_4 F M (r 0) (r 1) h)) (g := (fun r h => J6_3 F M (r 0) (r 1) h)) (by kernel_rfl) (J6_3_ok F M) (fun r h => by kernel_rfl)
noncomputable def R6 (F : CallH) (M : Nat) (x0 x1 : Value) (h : AH) : Res := J6_4 F M x0 x1 h
theorem R6_ok (F : CallH) (M : Nat) (x0 x1 : Value) (h : AH) : kfn Tryd.prog F M 6 [x0, x1] h = R6 F M x0 x1 h :=
  (fn_pt (N := 15) (E := (fun r h => E6 (r 4) h)) (T := (fun r h => J6_4 F M (r 0) (r 1) h)) Tryd.func6 (by kernel_rfl) (by kernel_rfl) (fun r h => by kernel_rfl) (J6_4_ok F M)).trans (by kernel_rfl)
/-! ### 10 turnkey/turnkeyref.Placed -/
noncomputable def E10 (v4 : Value) (h : AH) : Res := bindO (ldn 3 h v4) fun x4 => some (x4, h)
noncomputable def J10_0 (F : CallH) (M : Nat) (v0 : Value) (v1 : Value) (v4 : Value) (h : AH) : Res :=
  bindO (xbuild [(.int .i64 0), (.bool false), (.int .i64 0)] [(0, 1, v0), (1, 1, (.bool true)), (2, 1, v1)]) fun v10 =>
  bindO (xst 3 h v4 v10) fun h1 =>
  E10 v4 h1
theorem J10_0_ok (F : CallH) (M : Nat) : ∀ r h, kcode Tryd.prog F 11 M (Code.sub [true, true] (bodyOf Tryd.prog 10)) r h (KX (fun r h => E10 (r 4) h) (exitsOf []) (fun r h => E10 (r 4) h)) = J10_0 F M (r 0) (r 1) (r 4) h := fun r h => by kernel_rfl
noncomputable def J10_1 (F : CallH) (M : Nat) (v0 : Value) (v1 : Value) (v4 : Value) (h : AH) : Res :=
  bindO (ibin .eql v0 (.int .i64 0)) fun v6 =>
  condO v6 (
  bindO (F 22 [] h) fun pv7 =>
  bindO (xst 3 pv7.2 v4 pv7.1) fun h3 =>
  E10 v4 h3) (
  J10_0 F M v0 v1 v4 h)
theorem J10_1_ok (F : CallH) (M : Nat) : ∀ r h, kcode Tryd.prog F 11 M (Code.sub [true, false] (bodyOf Tryd.prog 10)) r h (KX (fun r h => J10_0 F M (r 0) (r 1) (r 4) h) (exitsOf []) (fun r h => E10 (r 4) h)) = J10_1 F M (r 0) (r 1) (r 4) h := fun r h => by kernel_rfl
theorem J10_2_ok (F : CallH) (M : Nat) : ∀ r h, kcode Tryd.prog F 11 M (Code.sub [true] (bodyOf Tryd.prog 10)) r h (KX (fun r h => E10 (r 4) h) (exitsOf []) (fun r h => E10 (r 4) h)) = J10_1 F M (r 0) (r 1) (r 4) h :=
  seq_pt (a := (Code.sub [true, false] (bodyOf Tryd.prog 10))) (b := (Code.sub [true, true] (bodyOf Tryd.prog 10))) (T := (fun r h => J10_1 F M (r 0) (r 1) (r 4) h)) (g := (fun r h => J10_0 F M (r 0) (r 1) (r 4) h)) (by kernel_rfl) (J10_0_ok F M) (J10_1_ok F M)
noncomputable def J10_3 (F : CallH) (M : Nat) (v0 : Value) (v1 : Value) (h : AH) : Res :=
  newK h (.cells [(.int .i64 0), (.bool false), (.int .i64 0)] 3) fun iv4 h4 =>
  J10_1 F M v0 v1 (ptrTo iv4) h4
theorem J10_3_ok (F : CallH) (M : Nat) : ∀ r h, kcode Tryd.prog F 11 M (Code.sub [] (bodyOf Tryd.prog 10)) r h (KX (fun r h => E10 (r 4) h) (exitsOf []) (fun r h => E10 (r 4) h)) = J10_3 F M (r 0) (r 1) h :=
  seq_pt (a := (Code.sub [false] (bodyOf Tryd.prog 10))) (b := (Code.sub [true] (bodyOf Tryd.prog 10))) (T := (fun r h => J10_3 F M (r 0) (r 1) h)) (g := (fun r h => J10_1 F M (r 0) (r 1) (r 4) h)) (by kernel_rfl) (J10_2_ok F M) (fun r h => by kernel_rfl)
noncomputable def R10 (F : CallH) (M : Nat) (x0 x1 : Value) (h : AH) : Res := J10_3 F M x0 x1 h
theorem R10_ok (F : CallH) (M : Nat) (x0 x1 : Value) (h : AH) : kfn Tryd.prog F M 10 [x0, x1] h = R10 F M x0 x1 h :=
  (fn_pt (N := 11) (E := (fun r h => E10 (r 4) h)) (T := (fun r h => J10_3 F M (r 0) (r 1) h)) Tryd.func10 (by kernel_rfl) (by kernel_rfl) (fun r h => by kernel_rfl) (J10_3_ok F M)).trans (by kernel_rfl)
/-! ### 14 turnkey/asm.labels -/
noncomputable def E14 (v2 : Value) (v3 : Value) (h : AH) : Res := some ((.tuple #[v2, v3]), h)
noncomputable def J14_0 (F : CallH) (M : Nat) (v4 : Value) (v5 : Value) (h : AH) : Res :=
  E14 v4 v5 h
theorem J14_0_ok (F : CallH) (M : Nat) : ∀ r h, kcode Tryd.prog F 49 M (Code.sub [true, true, true, true, true] (bodyOf Tryd.prog 14)) r h (KX (fun r h => E14 (r 2) (r 3) h) (exitsOf []) (fun r h => E14 (r 2) (r 3) h)) = J14_0 F M (r 4) (r 5) h := fun r h => by kernel_rfl
noncomputable def J14_2 (F : CallH) (M : Nat) (L1 : Value → Value → Value → Value → Value → Value → AH → Res) (v4 : Value) (v5 : Value) (v6 : Value) (v14 : Value) (v15 : Value) (v16 : Value) (h : AH) : Res :=
  bindO (ibin .add v16 (.int .i64 1)) fun v46 =>
  L1 v4 v5 v6 v14 v15 v46 h
theorem J14_2_ok (F : CallH) (M : Nat) (L1 : Value → Value → Value → Value → Value → Value → AH → Res) : ∀ r h, kcode Tryd.prog F 49 M (Code.sub [true, true, true, true, false, true, false, false, true, true, true] (bodyOf Tryd.prog 14)) r h (KX (fun r h => L1 (r 4) (r 5) (r 6) (r 14) (r 15) (r 16) h) (exitsOf [(0, (fun r h => J14_0 F M (r 4) (r 5) h))]) (fun r h => E14 (r 2) (r 3) h)) = J14_2 F M L1 (r 4) (r 5) (r 6) (r 14) (r 15) (r 16) h := fun r h => by kernel_rfl
noncomputable def J14_3 (F : CallH) (M : Nat) (L1 : Value → Value → Value → Value → Value → Value → AH → Res) (v4 : Value) (v5 : Value) (v6 : Value) (v9 : Value) (v14 : Value) (v15 : Value) (v16 : Value) (h : AH) : Res :=
  bindO (xmup Tryd.prog h 46 v4 v9 v6) fun pw14_3 =>
  J14_2 F M L1 v4 v5 v6 v14 v15 v16 pw14_3.2
theorem J14_3_ok (F : CallH) (M : Nat) (L1 : Value → Value → Value → Value → Value → Value → AH → Res) : ∀ r h, kcode Tryd.prog F 49 M (Code.sub [true, true, true, true, false, true, false, false, true, true, false, false, true, true, true, true, true] (bodyOf Tryd.prog 14)) r h (KX (fun r h => J14_2 F M L1 (r 4) (r 5) (r 6) (r 14) (r 15) (r 16) h) (exitsOf [(1, (fun r h => J14_2 F M L1 (r 4) (r 5) (r 6) (r 14) (r 15) (r 16) h)), (0, (fun r h => J14_0 F M (r 4) (r 5) h))]) (fun r h => E14 (r 2) (r 3) h)) = J14_3 F M L1 (r 4) (r 5) (r 6) (r 9) (r 14) (r 15) (r 16) h := fun r h => by kernel_rfl
noncomputable def J14_4 (F : CallH) (M : Nat) (L1 : Value → Value → Value → Value → Value → Value → AH → Res) (v4 : Value) (v5 : Value) (v6 : Value) (v7 : Value) (v9 : Value) (v14 : Value) (v15 : Value) (v16 : Value) (h : AH) : Res :=
  bindO (lookup Tryd.prog h 46 v4 v9 true) fun v35 =>
  bindO (xext 0 v35) fun v36 =>
  bindO (xext 1 v35) fun v37 =>
  condO v37 (
  bindO (xrow [(.int .i64 0)] [(0, 1, v7)]) fun v41 => newK h (.cells v41 1) fun iv41 h2 =>
  bindO (xapp 8 1 h2 v5 (slOf iv41 1 1)) fun pv42 =>
  J14_2 F M L1 v4 pv42.1 v6 v14 v15 v16 pv42.2) (
  J14_3 F M L1 v4 v5 v6 v9 v14 v15 v16 h)
theorem J14_4_ok (F : CallH) (M : Nat) (L1 : Value → Value → Value → Value → Value → Value → AH → Res) : ∀ r h, kcode Tryd.prog F 49 M (Code.sub [true, true, true, true, false, true, false, false, true, true, false, false, true, true, true, true, false] (bodyOf Tryd.prog 14)) r h (KX (fun r h => J14_3 F M L1 (r 4) (r 5) (r 6) (r 9) (r 14) (r 15) (r 16) h) (exitsOf [(1, (fun r h => J14_2 F M L1 (r 4) (r 5) (r 6) (r 14) (r 15) (r 16) h)), (0, (fun r h => J14_0 F M (r 4) (r 5) h))]) (fun r h => E14 (r 2) (r 3) h)) = J14_4 F M L1 (r 4) (r 5) (r 6) (r 7) (r 9) (r 14) (r 15) (r 16) h := fun r h => by kernel_rfl
theorem J14_5_ok (F : CallH) (M : Nat) (L1 : Value → Value → Value → Value → Value → Value → AH → Res) : ∀ r h, kcode Tryd.prog F 49 M (Code.sub [true, true, true, true, false, true, false, false, true, true, false, false, true, true, true, true] (bodyOf Tryd.prog 14)) r h (KX (fun r h => J14_2 F M L1 (r 4) (r 5) (r 6) (r 14) (r 15) (r 16) h) (exitsOf [(1, (fun r h => J14_2 F M L1 (r 4) (r 5) (r 6) (r 14) (r 15) (r 16) h)), (0, (fun r h => J14_0 F M (r 4) (r 5) h))]) (fun r h => E14 (r 2) (r 3) h)) = J14_4 F M L1 (r 4) (r 5) (r 6) (r 7) (r 9) (r 14) (r 15) (r 16) h :=
  seq_pt (a := (Code.sub [true, true, true, true, false, true, false, false, true, true, false, false, true, true, true, true, false] (bodyOf Tryd.prog 14))) (b := (Code.sub [true, true, true, true, false, true, false, false, true, true, false, false, true, true, true, true, true] (bodyOf Tryd.prog 14))) (T := (fun r h => J14_4 F M L1 (r 4) (r 5) (r 6) (r 7) (r 9) (r 14) (r 15) (r 16) h)) (g := (fun r h => J14_3 F M L1 (r 4) (r 5) (r 6) (r 9) (r 14) (r 15) (r 16) h)) (by kernel_rfl) (J14_3_ok F M L1) (J14_4_ok F M L1)
noncomputable def J14_6 (F : CallH) (M : Nat) (L1 : Value → Value → Value → Value → Value → Value → AH → Res) (v4 : Value) (v5 : Value) (v6 : Value) (v7 : Value) (v9 : Value) (v10 : Value) (v14 : Value) (v15 : Value) (v16 : Value) (h : AH) : Res :=
  bindO (xnot v10) fun v29 =>
  condO v29 (
  bindO (ibin .add v6 (.int .i64 1)) fun v31 =>
  J14_2 F M L1 v4 v5 v31 v14 v15 v16 h) (
  J14_4 F M L1 v4 v5 v6 v7 v9 v14 v15 v16 h)
theorem J14_6_ok (F : CallH) (M : Nat) (L1 : Value → Value → Value → Value → Value → Value → AH → Res) : ∀ r h, kcode Tryd.prog F 49 M (Code.sub [true, true, true, true, false, true, false, false, true, true, false, false, true, true, true, false] (bodyOf Tryd.prog 14)) r h (KX (fun r h => J14_4 F M L1 (r 4) (r 5) (r 6) (r 7) (r 9) (r 14) (r 15) (r 16) h) (exitsOf [(1, (fun r h => J14_2 F M L1 (r 4) (r 5) (r 6) (r 14) (r 15) (r 16) h)), (0, (fun r h => J14_0 F M (r 4) (r 5) h))]) (fun r h => E14 (r 2) (r 3) h)) = J14_6 F M L1 (r 4) (r 5) (r 6) (r 7) (r 9) (r 10) (r 14) (r 15) (r 16) h := fun r h => by kernel_rfl
theorem J14_7_ok (F : CallH) (M : Nat) (L1 : Value → Value → Value → Value → Value → Value → AH → Res) : ∀ r h, kcode Tryd.prog F 49 M (Code.sub [true, true, true, true, false, true, false, false, true, true, false, false, true, true, true] (bodyOf Tryd.prog 14)) r h (KX (fun r h => J14_2 F M L1 (r 4) (r 5) (r 6) (r 14) (r 15) (r 16) h) (exitsOf [(1, (fun r h => J14_2 F M L1 (r 4) (r 5) (r 6) (r 14) (r 15) (r 16) h)), (0, (fun r h => J14_0 F M (r 4) (r 5) h))]) (fun r h => E14 (r 2) (r 3) h)) = J14_6 F M L1 (r 4) (r 5) (r 6) (r 7) (r 9) (r 10) (r 14) (r 15) (r 16) h :=
  seq_pt (a := (Code.sub [true, true, true, true, false, true, false, false, true, true, false, false, true, true, true, false] (bodyOf Tryd.prog 14))) (b := (Code.sub [true, true, true, true, false, true, false, false, true, true, false, false, true, true, true, true] (bodyOf Tryd.prog 14))) (T := (fun r h => J14_6 F M L1 (r 4) (r 5) (r 6) (r 7) (r 9) (r 10) (r 14) (r 15) (r 16) h)) (g := (fun r h => J14_4 F M L1 (r 4) (r 5) (r 6) (r 7) (r 9) (r 14) (r 15) (r 16) h)) (by kernel_rfl) (J14_5_ok F M L1) (J14_6_ok F M L1)
noncomputable def J14_8 (F : CallH) (M : Nat) (L1 : Value → Value → Value → Value → Value → Value → AH → Res) (v4 : Value) (v5 : Value) (v6 : Value) (v7 : Value) (v8 : Value) (v14 : Value) (v15 : Value) (v16 : Value) (h : AH) : Res :=
  bindO (F 16 [v8] h) fun pv25 =>
  bindO (xext 0 pv25.1) fun v26 =>
  bindO (xext 1 pv25.1) fun v27 =>
  J14_6 F M L1 v4 v5 v6 v7 v26 v27 v14 v15 v16 pv25.2
theorem J14_8_ok (F : CallH) (M : Nat) (L1 : Value → Value → Value → Value → Value → Value → AH → Res) : ∀ r h, kcode Tryd.prog F 49 M (Code.sub [true, true, true, true, false, true, false, false, true, true, false, false, true, true] (bodyOf Tryd.prog 14)) r h (KX (fun r h => J14_2 F M L1 (r 4) (r 5) (r 6) (r 14) (r 15) (r 16) h) (exitsOf [(1, (fun r h => J14_2 F M L1 (r 4) (r 5) (r 6) (r 14) (r 15) (r 16) h)), (0, (fun r h => J14_0 F M (r 4) (r 5) h))]) (fun r h => E14 (r 2) (r 3) h)) = J14_8 F M L1 (r 4) (r 5) (r 6) (r 7) (r 8) (r 14) (r 15) (r 16) h :=
  seq_pt (a := (Code.sub [true, true, true, true, false, true, false, false, true, true, false, false, true, true, false] (bodyOf Tryd.prog 14))) (b := (Code.sub [true, true, true, true, false, true, false, false, true, true, false, false, true, true, true] (bodyOf Tryd.prog 14))) (T := (fun r h => J14_8 F M L1 (r 4) (r 5) (r 6) (r 7) (r 8) (r 14) (r 15) (r 16) h)) (g := (fun r h => J14_6 F M L1 (r 4) (r 5) (r 6) (r 7) (r 9) (r 10) (r 14) (r 15) (r 16) h)) (by kernel_rfl) (J14_7_ok F M L1) (fun r h => by kernel_rfl)
noncomputable def J14_9 (F : CallH) (M : Nat) (L1 : Value → Value → Value → Value → Value → Value → AH → Res) (v4 : Value) (v5 : Value) (v6 : Value) (v7 : Value) (v8 : Value) (v14 : Value) (v15 : Value) (v16 : Value) (h : AH) : Res :=
  bindO (F 17 [v8] h) fun pv22 =>
  condO pv22.1 (
  J14_2 F M L1 v4 v5 v6 v14 v15 v16 pv22.2) (
  J14_8 F M L1 v4 v5 v6 v7 v8 v14 v15 v16 pv22.2)
theorem J14_9_ok (F : CallH) (M : Nat) (L1 : Value → Value → Value → Value → Value → Value → AH → Res) : ∀ r h, kcode Tryd.prog F 49 M (Code.sub [true, true, true, true, false, true, false, false, true, true, false, false, true, false] (bodyOf Tryd.prog 14)) r h (KX (fun r h => J14_8 F M L1 (r 4) (r 5) (r 6) (r 7) (r 8) (r 14) (r 15) (r 16) h) (exitsOf [(1, (fun r h => J14_2 F M L1 (r 4) (r 5) (r 6) (r 14) (r 15) (r 16) h)), (0, (fun r h => J14_0 F M (r 4) (r 5) h))]) (fun r h => E14 (r 2) (r 3) h)) = J14_9 F M L1 (r 4) (r 5) (r 6) (r 7) (r 8) (r 14) (r 15) (r 16) h := fun r h => by kernel_rfl
theorem J14_10_ok (F : CallH) (M : Nat) (L1 : Value → Value → Value → Value → Value → Value → AH → Res) : ∀ r h, kcode Tryd.prog F 49 M (Code.sub [true, true, true, true, false, true, false, false, true, true, false, false, true] (bodyOf Tryd.prog 14)) r h (KX (fun r h => J14_2 F M L1 (r 4) (r 5) (r 6) (r 14) (r 15) (r 16) h) (exitsOf [(1, (fun r h => J14_2 F M L1 (r 4) (r 5) (r 6) (r 14) (r 15) (r 16) h)), (0, (fun r h => J14_0 F M (r 4) (r 5) h))]) (fun r h => E14 (r 2) (r 3) h)) = J14_9 F M L1 (r 4) (r 5) (r 6) (r 7) (r 8) (r 14) (r 15) (r 16) h :=
  seq_pt (a := (Code.sub [true, true, true, true, false, true, false, false, true, true, false, false, true, false] (bodyOf Tryd.prog 14))) (b := (Code.sub [true, true, true, true, false, true, false, false, true, true, false, false, true, true] (bodyOf Tryd.prog 14))) (T := (fun r h => J14_9 F M L1 (r 4) (r 5) (r 6) (r 7) (r 8) (r 14) (r 15) (r 16) h)) (g := (fun r h => J14_8 F M L1 (r 4) (r 5) (r 6) (r 7) (r 8) (r 14) (r 15) (r 16) h)) (by kernel_rfl) (J14_8_ok F M L1) (J14_9_ok F M L1)
noncomputable def J14_11 (F : CallH) (M : Nat) (L1 : Value → Value → Value → Value → Value → Value → AH → Res) (v4 : Value) (v5 : Value) (v6 : Value) (v14 : Value) (v15 : Value) (v16 : Value) (h : AH) : Res :=
  bindO (xia 1 v14 v16) fun v19 =>
  bindO (ld1 h v19) fun v20 =>
  J14_9 F M L1 v4 v5 v6 v16 v20 v14 v15 v16 h
theorem J14_11_ok (F : CallH) (M : Nat) (L1 : Value → Value → Value → Value → Value → Value → AH → Res) : ∀ r h, kcode Tryd.prog F 49 M (Code.sub [true, true, true, true, false, true, false, false, true, true, false, false] (bodyOf Tryd.prog 14)) r h (KX (fun r h => J14_2 F M L1 (r 4) (r 5) (r 6) (r 14) (r 15) (r 16) h) (exitsOf [(1, (fun r h => J14_2 F M L1 (r 4) (r 5) (r 6) (r 14) (r 15) (r 16) h)), (0, (fun r h => J14_0 F M (r 4) (r 5) h))]) (fun r h => E14 (r 2) (r 3) h)) = J14_11 F M L1 (r 4) (r 5) (r 6) (r 14) (r 15) (r 16) h :=
  seq_pt (a := (Code.sub [true, true, true, true, false, true, false, false, true, true, false, false, false] (bodyOf Tryd.prog 14))) (b := (Code.sub [true, true, true, true, false, true, false, false, true, true, false, false, true] (bodyOf Tryd.prog 14))) (T := (fun r h => J14_11 F M L1 (r 4) (r 5) (r 6) (r 14) (r 15) (r 16) h)) (g := (fun r h => J14_9 F M L1 (r 4) (r 5) (r 6) (r 7) (r 8) (r 14) (r 15) (r 16) h)) (by kernel_rfl) (J14_10_ok F M L1) (fun r h => by kernel_rfl)
theorem J14_12_ok (F : CallH) (M : Nat) (L1 : Value → Value → Value → Value → Value → Value → AH → Res) : ∀ r h, kcode Tryd.prog F 49 M (Code.sub [true, true, true, true, false, true, false, false, true, true, false] (bodyOf Tryd.prog 14)) r h (KX (fun r h => J14_2 F M L1 (r 4) (r 5) (r 6) (r 14) (r 15) (r 16) h) (exitsOf [(0, (fun r h => J14_0 F M (r 4) (r 5) h))]) (fun r h => E14 (r 2) (r 3) h)) = J14_11 F M L1 (r 4) (r 5) (r 6) (r 14) (r 15) (r 16) h :=
  block_pt (b := (Code.sub [true, true, true, true, false, true, false, false, true, true, false, false] (bodyOf Tryd.prog 14))) (T := (fun r h => J14_11 F M L1 (r 4) (r 5) (r 6) (r 14) (r 15) (r 16) h)) (id := 1) (by kernel_rfl) (J14_11_ok F M L1)
theorem J14_13_ok (F : CallH) (M : Nat) (L1 : Value → Value → Value → Value → Value → Value → AH → Res) : ∀ r h, kcode Tryd.prog F 49 M (Code.sub [true, true, true, true, false, true, false, false, true, true] (bodyOf Tryd.prog 14)) r h (KX (fun r h => L1 (r 4) (r 5) (r 6) (r 14) (r 15) (r 16) h) (exitsOf [(0, (fun r h => J14_0 F M (r 4) (r 5) h))]) (fun r h => E14 (r 2) (r 3) h)) = J14_11 F M L1 (r 4) (r 5) (r 6) (r 14) (r 15) (r 16) h :=
  seq_pt (a := (Code.sub [true, true, true, true, false, true, false, false, true, true, false] (bodyOf Tryd.prog 14))) (b := (Code.sub [true, true, true, true, false, true, false, false, true, true, true] (bodyOf Tryd.prog 14))) (T := (fun r h => J14_11 F M L1 (r 4) (r 5) (r 6) (r 14) (r 15) (r 16) h)) (g := (fun r h => J14_2 F M L1 (r 4) (r 5) (r 6) (r 14) (r 15) (r 16) h)) (by kernel_rfl) (J14_2_ok F M L1) (J14_12_ok F M L1)
noncomputable def J14_14 (F : CallH) (M : Nat) (L1 : Value → Value → Value → Value → Value → Value → AH → Res) (v4 : Value) (v5 : Value) (v6 : Value) (v14 : Value) (v15 : Value) (v16 : Value) (v17 : Value) (h : AH) : Res :=
  condO v17 (
  J14_11 F M L1 v4 v5 v6 v14 v15 v16 h) (
  J14_0 F M v4 v5 h)
theorem J14_14_ok (F : CallH) (M : Nat) (L1 : Value → Value → Value → Value → Value → Value → AH → Res) : ∀ r h, kcode Tryd.prog F 49 M (Code.sub [true, true, true, true, false, true, false, false, true, false] (bodyOf Tryd.prog 14)) r h (KX (fun r h => J14_11 F M L1 (r 4) (r 5) (r 6) (r 14) (r 15) (r 16) h) (exitsOf [(0, (fun r h => J14_0 F M (r 4) (r 5) h))]) (fun r h => E14 (r 2) (r 3) h)) = J14_14 F M L1 (r 4) (r 5) (r 6) (r 14) (r 15) (r 16) (r 17) h := fun r h => by kernel_rfl
theorem J14_15_ok (F : CallH) (M : Nat) (L1 : Value → Value → Value → Value → Value → Value → AH → Res) : ∀ r h, kcode Tryd.prog F 49 M (Code.sub [true, true, true, true, false, true, false, false, true] (bodyOf Tryd.prog 14)) r h (KX (fun r h => L1 (r 4) (r 5) (r 6) (r 14) (r 15) (r 16) h) (exitsOf [(0, (fun r h => J14_0 F M (r 4) (r 5) h))]) (fun r h => E14 (r 2) (r 3) h)) = J14_14 F M L1 (r 4) (r 5) (r 6) (r 14) (r 15) (r 16) (r 17) h :=
  seq_pt (a := (Code.sub [true, true, true, true, false, true, false, false, true, false] (bodyOf Tryd.prog 14))) (b := (Code.sub [true, true, true, true, false, true, false, false, true, true] (bodyOf Tryd.prog 14))) (T := (fun r h => J14_14 F M L1 (r 4) (r 5) (r 6) (r 14) (r 15) (r 16) (r 17) h)) (g := (fun r h => J14_11 F M L1 (r 4) (r 5) (r 6) (r 14) (r 15) (r 16) h)) (by kernel_rfl) (J14_13_ok F M L1) (J14_14_ok F M L1)
noncomputable def J14_16 (F : CallH) (M : Nat) (L1 : Value → Value → Value → Value → Value → Value → AH → Res) (v4 : Value) (v5 : Value) (v6 : Value) (v14 : Value) (v15 : Value) (v16 : Value) (h : AH) : Res :=
  bindO (ibin .lss v16 v15) fun v17 =>
  J14_14 F M L1 v4 v5 v6 v14 v15 v16 v17 h
theorem J14_16_ok (F : CallH) (M : Nat) (L1 : Value → Value → Value → Value → Value → Value → AH → Res) : ∀ r h, kcode Tryd.prog F 49 M (Code.sub [true, true, true, true, false, true, false, false] (bodyOf Tryd.prog 14)) r h (KX (fun r h => L1 (r 4) (r 5) (r 6) (r 14) (r 15) (r 16) h) (exitsOf [(0, (fun r h => J14_0 F M (r 4) (r 5) h))]) (fun r h => E14 (r 2) (r 3) h)) = J14_16 F M L1 (r 4) (r 5) (r 6) (r 14) (r 15) (r 16) h :=
  seq_pt (a := (Code.sub [true, true, true, true, false, true, false, false, false] (bodyOf Tryd.prog 14))) (b := (Code.sub [true, true, true, true, false, true, false, false, true] (bodyOf Tryd.prog 14))) (T := (fun r h => J14_16 F M L1 (r 4) (r 5) (r 6) (r 14) (r 15) (r 16) h)) (g := (fun r h => J14_14 F M L1 (r 4) (r 5) (r 6) (r 14) (r 15) (r 16) (r 17) h)) (by kernel_rfl) (J14_15_ok F M L1) (fun r h => by kernel_rfl)
noncomputable def L14_1 (F : CallH) (M : Nat) : Nat → Value → Value → Value → Value → Value → Value → AH → Res
  | 0, _, _, _, _, _, _, _ => none
  | m + 1, v4, v5, v6, v14, v15, v16, h => J14_16 F M (L14_1 F M m) v4 v5 v6 v14 v15 v16 h
theorem L14_1_ok (F : CallH) (M : Nat) : ∀ r h, kcode Tryd.prog F 49 M (Code.sub [true, true, true, true, false, true, false] (bodyOf Tryd.prog 14)) r h (KX (fun r h => J14_0 F M (r 4) (r 5) h) (exitsOf [(0, (fun r h => J14_0 F M (r 4) (r 5) h))]) (fun r h => E14 (r 2) (r 3) h)) = L14_1 F M M (r 4) (r 5) (r 6) (r 14) (r 15) (r 16) h :=
  loop_pt (b := (Code.sub [true, true, true, true, false, true, false, false] (bodyOf Tryd.prog 14))) (by kernel_rfl) (fun m r h => L14_1 F M m (r 4) (r 5) (r 6) (r 14) (r 15) (r 16) h) (fun _ _ => rfl) (fun m r h => ((J14_16_ok F M (L14_1 F M m)) r h).trans rfl)
theorem J14_17_ok (F : CallH) (M : Nat) : ∀ r h, kcode Tryd.prog F 49 M (Code.sub [true, true, true, true, false, true] (bodyOf Tryd.prog 14)) r h (KX (fun r h => J14_0 F M (r 4) (r 5) h) (exitsOf []) (fun r h => E14 (r 2) (r 3) h)) = L14_1 F M M (r 4) (r 5) (r 6) (r 14) (r 15) (r 16) h :=
  block_pt (b := (Code.sub [true, true, true, true, false, true, false] (bodyOf Tryd.prog 14))) (T := (fun r h => L14_1 F M M (r 4) (r 5) (r 6) (r 14) (r 15) (r 16) h)) (id := 0) (by kernel_rfl) (L14_1_ok F M)
noncomputable def J14_18 (F : CallH) (M : Nat) (v0 : Value) (v4 : Value) (v5 : Value) (v6 : Value) (h : AH) : Res :=
  bindO (xlenL v0) fun v15 =>
  L14_1 F M M v4 v5 v6 v0 v15 (.int .i64 0) h
theorem J14_18_ok (F : CallH) (M : Nat) : ∀ r h, kcode Tryd.prog F 49 M (Code.sub [true, true, true, true, false] (bodyOf Tryd.prog 14)) r h (KX (fun r h => J14_0 F M (r 4) (r 5) h) (exitsOf []) (fun r h => E14 (r 2) (r 3) h)) = J14_18 F M (r 0) (r 4) (r 5) (r 6) h :=
  seq_pt (a := (Code.sub [true, true, true, true, false, false] (bodyOf Tryd.prog 14))) (b := (Code.sub [true, true, true, true, false, true] (bodyOf Tryd.prog 14))) (T := (fun r h => J14_18 F M (r 0) (r 4) (r 5) (r 6) h)) (g := (fun r h => L14_1 F M M (r 4) (r 5) (r 6) (r 14) (r 15) (r 16) h)) (by kernel_rfl) (J14_17_ok F M) (fun r h => by kernel_rfl)
theorem J14_19_ok (F : CallH) (M : Nat) : ∀ r h, kcode Tryd.prog F 49 M (Code.sub [true, true, true, true] (bodyOf Tryd.prog 14)) r h (KX (fun r h => E14 (r 2) (r 3) h) (exitsOf []) (fun r h => E14 (r 2) (r 3) h)) = J14_18 F M (r 0) (r 4) (r 5) (r 6) h :=
  seq_pt (a := (Code.sub [true, true, true, true, false] (bodyOf Tryd.prog 14))) (b := (Code.sub [true, true, true, true, true] (bodyOf Tryd.prog 14))) (T := (fun r h => J14_18 F M (r 0) (r 4) (r 5) (r 6) h)) (g := (fun r h => J14_0 F M (r 4) (r 5) h)) (by kernel_rfl) (J14_0_ok F M) (J14_18_ok F M)
noncomputable def J14_20 (F : CallH) (M : Nat) (v0 : Value) (v4 : Value) (v5 : Value) (h : AH) : Res :=
  J14_18 F M v0 v4 v5 (.int .i64 0) h
theorem J14_20_ok (F : CallH) (M : Nat) : ∀ r h, kcode Tryd.prog F 49 M (Code.sub [true, true, true] (bodyOf Tryd.prog 14)) r h (KX (fun r h => E14 (r 2) (r 3) h) (exitsOf []) (fun r h => E14 (r 2) (r 3) h)) = J14_20 F M (r 0) (r 4) (r 5) h :=
  seq_pt (a := (Code.sub [true, true, true, false] (bodyOf Tryd.prog 14))) (b := (Code.sub [true, true, true, true] (bodyOf Tryd.prog 14))) (T := (fun r h => J14_20 F M (r 0) (r 4) (r 5) h)) (g := (fun r h => J14_18 F M (r 0) (r 4) (r 5) (r 6) h)) (by kernel_rfl) (J14_19_ok F M) (fun r h => by kernel_rfl)
noncomputable def J14_21 (F : CallH) (M : Nat) (v0 : Value) (v4 : Value) (h : AH) : Res :=
  J14_20 F M v0 v4 (.slice none 0 0) h
theorem J14_21_ok (F : CallH) (M : Nat) : ∀ r h, kcode Tryd.prog F 49 M (Code.sub [true, true] (bodyOf Tryd.prog 14)) r h (KX (fun r h => E14 (r 2) (r 3) h) (exitsOf []) (fun r h => E14 (r 2) (r 3) h)) = J14_21 F M (r 0) (r 4) h :=
  seq_pt (a := (Code.sub [true, true, false] (bodyOf Tryd.prog 14))) (b := (Code.sub [true, true, true] (bodyOf Tryd.prog 14))) (T := (fun r h => J14_21 F M (r 0) (r 4) h)) (g := (fun r h => J14_20 F M (r 0) (r 4) (r 5) h)) (by kernel_rfl) (J14_20_ok F M) (fun r h => by kernel_rfl)
noncomputable def J14_22 (F : CallH) (M : Nat) (v0 : Value) (h : AH) : Res :=
  newK h (.map []) fun iv13 h6 =>
  J14_21 F M v0 (.map (some iv13)) h6
theorem J14_22_ok (F : CallH) (M : Nat) : ∀ r h, kcode Tryd.prog F 49 M (Code.sub [true] (bodyOf Tryd.prog 14)) r h (KX (fun r h => E14 (r 2) (r 3) h) (exitsOf []) (fun r h => E14 (r 2) (r 3) h)) = J14_22 F M (r 0) h :=
  seq_pt (a := (Code.sub [true, false] (bodyOf Tryd.prog 14))) (b := (Code.sub [true, true] (bodyOf Tryd.prog 14))) (T := (fun r h => J14_22 F M (r 0) h)) (g := (fun r h => J14_21 F M (r 0) (r 4) h)) (by kernel_rfl) (J14_21_ok F M) (fun r h => by kernel_rfl)
noncomputable def J14_23 (F : CallH) (M : Nat) (v0 : Value) (h : AH) : Res :=
  J14_22 F M v0 h
theorem J14_23_ok (F : CallH) (M : Nat) : ∀ r h, kcode Tryd.prog F 49 M (Code.sub [] (bodyOf Tryd.prog 14)) r h (KX (fun r h => E14 (r 2) (r 3) h) (exitsOf []) (fun r h => E14 (r 2) (r 3) h)) = J14_23 F M (r 0) h :=
  seq_pt (a := (Code.sub [false] (bodyOf Tryd.prog 14))) (b := (Code.sub [true] (bodyOf Tryd.prog 14))) (T := (fun r h => J14_23 F M (r 0) h)) (g := (fun r h => J14_22 F M (r 0) h)) (by kernel_rfl) (J14_22_ok F M) (fun r h => by kernel_rfl)
noncomputable def R14 (F : CallH) (M : Nat) (x0 : Value) (h : AH) : Res := J14_23 F M x0 h
theorem R14_ok (F : CallH) (M : Nat) (x0 : Value) (h : AH) : kfn Tryd.prog F M 14 [x0] h = R14 F M x0 h :=
  (fn_pt (N := 49) (E := (fun r h => E14 (r 2) (r 3) h)) (T := (fun r h => J14_23 F M (r 0) h)) Tryd.func14 (by kernel_rfl) (by kernel_rfl) (fun r h => by kernel_rfl) (J14_23_ok F M)).trans (by kernel_rfl)
/-! ### 18 turnkey/asm.one -/
noncomputable def E18 (v4 : Value) (v5 : Value) (h : AH) : Res := some ((.tuple #[v4, v5]), h)
noncomputable def J18_0 (F : CallH) (M : Nat) (v8 : Value) (h : AH) : Res :=
  bindO (ldn 5 h v8) fun v39 =>
  bindO (F 8 [v39] h) fun pv40 =>
  bindO (xext 0 pv40.1) fun v41 =>
  bindO (xext 1 pv40.1) fun v42 =>
  E18 v41 v42 pv40.2
theorem J18_0_ok (F : CallH) (M : Nat) : ∀ r h, kcode Tryd.prog F 43 M (Code.sub [true, true, true, true] (bodyOf Tryd.prog 18)) r h (KX (fun r h => E18 (r 4) (r 5) h) (exitsOf []) (fun r h => E18 (r 4) (r 5) h)) = J18_0 F M (r 8) h := fun r h => by kernel_rfl
noncomputable def J18_1 (F : CallH) (M : Nat) (v8 : Value) (v9 : Value) (h : AH) : Res :=
  bindO (xnilI .neq v9) fun v37 =>
  condO v37 (
  E18 (.int .u32 0) v9 h) (
  J18_0 F M v8 h)
theorem J18_1_ok (F : CallH) (M : Nat) : ∀ r h, kcode Tryd.prog F 43 M (Code.sub [true, true, true, false] (bodyOf Tryd.prog 18)) r h (KX (fun r h => J18_0 F M (r 8) h) (exitsOf []) (fun r h => E18 (r 4) (r 5) h)) = J18_1 F M (r 8) (r 9) h := fun r h => by kernel_rfl
theorem J18_2_ok (F : CallH) (M : Nat) : ∀ r h, kcode Tryd.prog F 43 M (Code.sub [true, true, true] (bodyOf Tryd.prog 18)) r h (KX (fun r h => E18 (r 4) (r 5) h) (exitsOf []) (fun r h => E18 (r 4) (r 5) h)) = J18_1 F M (r 8) (r 9) h :=
  seq_pt (a := (Code.sub [true, true, true, false] (bodyOf Tryd.prog 18))) (b := (Code.sub [true, true, true, true] (bodyOf Tryd.prog 18))) (T := (fun r h => J18_1 F M (r 8) (r 9) h)) (g := (fun r h => J18_0 F M (r 8) h)) (by kernel_rfl) (J18_0_ok F M) (J18_1_ok F M)
noncomputable def J18_3 (F : CallH) (M : Nat) (v0 : Value) (v1 : Value) (h : AH) : Res :=
  bindO (F 23 [v0, v1] h) fun pv33 =>
  bindO (xext 0 pv33.1) fun v34 =>
  bindO (xext 1 pv33.1) fun v35 =>
  newK pv33.2 (.cells [(.int .i64 0), (.int .i64 0), (.int .i64 0), (.int .i64 0), (.int .i64 0)] 5) fun iv8 h3 =>
  bindO (xst 5 h3 (ptrTo iv8) v34) fun h4 =>
  J18_1 F M (ptrTo iv8) v35 h4
theorem J18_3_ok (F : CallH) (M : Nat) : ∀ r h, kcode Tryd.prog F 43 M (Code.sub [true, true] (bodyOf Tryd.prog 18)) r h (KX (fun r h => E18 (r 4) (r 5) h) (exitsOf []) (fun r h => E18 (r 4) (r 5) h)) = J18_3 F M (r 0) (r 1) h :=
  seq_pt (a := (Code.sub [true, true, false] (bodyOf Tryd.prog 18))) (b := (Code.sub [true, true, true] (bodyOf Tryd.prog 18))) (T := (fun r h => J18_3 F M (r 0) (r 1) h)) (g := (fun r h => J18_1 F M (r 8) (r 9) h)) (by kernel_rfl) (J18_2_ok F M) (fun r h => by kernel_rfl)
noncomputable def J18_4 (F : CallH) (M : Nat) (v6 : Value) (h : AH) : Res :=
  bindO (xconv .u32 v6) fun v29 =>
  E18 v29 .nilIface h
theorem J18_4_ok (F : CallH) (M : Nat) : ∀ r h, kcode Tryd.prog F 43 M (Code.sub [true, false, true, false, true, true, true] (bodyOf Tryd.prog 18)) r h (KX (fun r h => J18_3 F M (r 0) (r 1) h) (exitsOf []) (fun r h => E18 (r 4) (r 5) h)) = J18_4 F M (r 6) h := fun r h => by kernel_rfl
noncomputable def J18_5 (F : CallH) (M : Nat) (v6 : Value) (v7 : Value) (h : AH) : Res :=
  bindO (xnot v7) fun v26 =>
  condO v26 (
  withH (bump h 3) fun h5 =>
  bindO (ld1 h5 (glob 2)) fun v27 =>
  E18 (.int .u32 0) v27 h5) (
  J18_4 F M v6 h)
theorem J18_5_ok (F : CallH) (M : Nat) : ∀ r h, kcode Tryd.prog F 43 M (Code.sub [true, false, true, false, true, true, false] (bodyOf Tryd.prog 18)) r h (KX (fun r h => J18_4 F M (r 6) h) (exitsOf []) (fun r h => E18 (r 4) (r 5) h)) = J18_5 F M (r 6) (r 7) h := fun r h => by kernel_rfl
theorem J18_6_ok (F : CallH) (M : Nat) : ∀ r h, kcode Tryd.prog F 43 M (Code.sub [true, false, true, false, true, true] (bodyOf Tryd.prog 18)) r h (KX (fun r h => J18_3 F M (r 0) (r 1) h) (exitsOf []) (fun r h => E18 (r 4) (r 5) h)) = J18_5 F M (r 6) (r 7) h :=
  seq_pt (a := (Code.sub [true, false, true, false, true, true, false] (bodyOf Tryd.prog 18))) (b := (Code.sub [true, false, true, false, true, true, true] (bodyOf Tryd.prog 18))) (T := (fun r h => J18_5 F M (r 6) (r 7) h)) (g := (fun r h => J18_4 F M (r 6) h)) (by kernel_rfl) (J18_4_ok F M) (J18_5_ok F M)
noncomputable def J18_7 (F : CallH) (M : Nat) (v0 : Value) (h : AH) : Res :=
  bindO (xia 1 v0 (.int .i64 1)) fun v20 =>
  bindO (ld1 h v20) fun v21 =>
  bindO (F 29 [v21] h) fun pv22 =>
  bindO (xext 0 pv22.1) fun v23 =>
  bindO (xext 1 pv22.1) fun v24 =>
  J18_5 F M v23 v24 pv22.2
theorem J18_7_ok (F : CallH) (M : Nat) : ∀ r h, kcode Tryd.prog F 43 M (Code.sub [true, false, true, false, true] (bodyOf Tryd.prog 18)) r h (KX (fun r h => J18_3 F M (r 0) (r 1) h) (exitsOf []) (fun r h => E18 (r 4) (r 5) h)) = J18_7 F M (r 0) h :=
  seq_pt (a := (Code.sub [true, false, true, false, true, false] (bodyOf Tryd.prog 18))) (b := (Code.sub [true, false, true, false, true, true] (bodyOf Tryd.prog 18))) (T := (fun r h => J18_7 F M (r 0) h)) (g := (fun r h => J18_5 F M (r 6) (r 7) h)) (by kernel_rfl) (J18_6_ok F M) (fun r h => by kernel_rfl)
noncomputable def J18_8 (F : CallH) (M : Nat) (v0 : Value) (h : AH) : Res :=
  bindO (xlenL v0) fun v15 =>
  bindO (ibin .neq v15 (.int .i64 2)) fun v16 =>
  condO v16 (
  withH (bump h 3) fun h7 =>
  bindO (ld1 h7 (glob 1)) fun v17 =>
  E18 (.int .u32 0) v17 h7) (
  J18_7 F M v0 h)
theorem J18_8_ok (F : CallH) (M : Nat) : ∀ r h, kcode Tryd.prog F 43 M (Code.sub [true, false, true, false, false] (bodyOf Tryd.prog 18)) r h (KX (fun r h => J18_7 F M (r 0) h) (exitsOf []) (fun r h => E18 (r 4) (r 5) h)) = J18_8 F M (r 0) h := fun r h => by kernel_rfl
theorem J18_9_ok (F : CallH) (M : Nat) : ∀ r h, kcode Tryd.prog F 43 M (Code.sub [true, false, true, false] (bodyOf Tryd.prog 18)) r h (KX (fun r h => J18_3 F M (r 0) (r 1) h) (exitsOf []) (fun r h => E18 (r 4) (r 5) h)) = J18_8 F M (r 0) h :=
  seq_pt (a := (Code.sub [true, false, true, false, false] (bodyOf Tryd.prog 18))) (b := (Code.sub [true, false, true, false, true] (bodyOf Tryd.prog 18))) (T := (fun r h => J18_8 F M (r 0) h)) (g := (fun r h => J18_7 F M (r 0) h)) (by kernel_rfl) (J18_7_ok F M) (J18_8_ok F M)
noncomputable def J18_10 (F : CallH) (M : Nat) (v0 : Value) (v1 : Value) (h : AH) : Res :=
  J18_3 F M v0 v1 h
theorem J18_10_ok (F : CallH) (M : Nat) : ∀ r h, kcode Tryd.prog F 43 M (Code.sub [true, false, true, true] (bodyOf Tryd.prog 18)) r h (KX (fun r h => J18_3 F M (r 0) (r 1) h) (exitsOf []) (fun r h => E18 (r 4) (r 5) h)) = J18_10 F M (r 0) (r 1) h := fun r h => by kernel_rfl
noncomputable def J18_11 (F : CallH) (M : Nat) (v0 : Value) (v1 : Value) (v13 : Value) (h : AH) : Res :=
  condO v13 (J18_8 F M v0 h) (J18_10 F M v0 v1 h)
theorem J18_11_ok (F : CallH) (M : Nat) : ∀ r h, kcode Tryd.prog F 43 M (Code.sub [true, false, true] (bodyOf Tryd.prog 18)) r h (KX (fun r h => J18_3 F M (r 0) (r 1) h) (exitsOf []) (fun r h => E18 (r 4) (r 5) h)) = J18_11 F M (r 0) (r 1) (r 13) h :=
  fun r h => (cond_pt (a := (Code.sub [true, false, true, false] (bodyOf Tryd.prog 18))) (b := (Code.sub [true, false, true, true] (bodyOf Tryd.prog 18))) (A := (fun r h => J18_8 F M (r 0) h)) (B := (fun r h => J18_10 F M (r 0) (r 1) h)) (y := .tmp 13) (by kernel_rfl) (J18_9_ok F M) (J18_10_ok F M) r h).trans (by kernel_rfl)
noncomputable def J18_12 (F : CallH) (M : Nat) (v0 : Value) (v1 : Value) (h : AH) : Res :=
  bindO (xia 1 v0 (.int .i64 0)) fun v11 =>
  bindO (ld1 h v11) fun v12 =>
  bindO (sbin .eql v12 (str [119, 111, 114, 100])) fun v13 =>
  J18_11 F M v0 v1 v13 h
theorem J18_12_ok (F : CallH) (M : Nat) : ∀ r h, kcode Tryd.prog F 43 M (Code.sub [true, false] (bodyOf Tryd.prog 18)) r h (KX (fun r h => J18_3 F M (r 0) (r 1) h) (exitsOf []) (fun r h => E18 (r 4) (r 5) h)) = J18_12 F M (r 0) (r 1) h :=
  seq_pt (a := (Code.sub [true, false, false] (bodyOf Tryd.prog 18))) (b := (Code.sub [true, false, true] (bodyOf Tryd.prog 18))) (T := (fun r h => J18_12 F M (r 0) (r 1) h)) (g := (fun r h => J18_11 F M (r 0) (r 1) (r 13) h)) (by kernel_rfl) (J18_11_ok F M) (fun r h => by kernel_rfl)
theorem J18_13_ok (F : CallH) (M : Nat) : ∀ r h, kcode Tryd.prog F 43 M (Code.sub [true] (bodyOf Tryd.prog 18)) r h (KX (fun r h => E18 (r 4) (r 5) h) (exitsOf []) (fun r h => E18 (r 4) (r 5) h)) = J18_12 F M (r 0) (r 1) h :=
  seq_pt (a := (Code.sub [true, false] (bodyOf Tryd.prog 18))) (b := (Code.sub [true, true] (bodyOf Tryd.prog 18))) (T := (fun r h => J18_12 F M (r 0) (r 1) h)) (g := (fun r h => J18_3 F M (r 0) (r 1) h)) (by kernel_rfl) (J18_3_ok F M) (J18_12_ok F M)
noncomputable def J18_14 (F : CallH) (M : Nat) (v0 : Value) (v1 : Value) (h : AH) : Res :=
  J18_12 F M v0 v1 h
theorem J18_14_ok (F : CallH) (M : Nat) : ∀ r h, kcode Tryd.prog F 43 M (Code.sub [] (bodyOf Tryd.prog 18)) r h (KX (fun r h => E18 (r 4) (r 5) h) (exitsOf []) (fun r h => E18 (r 4) (r 5) h)) = J18_14 F M (r 0) (r 1) h :=
  seq_pt (a := (Code.sub [false] (bodyOf Tryd.prog 18))) (b := (Code.sub [true] (bodyOf Tryd.prog 18))) (T := (fun r h => J18_14 F M (r 0) (r 1) h)) (g := (fun r h => J18_12 F M (r 0) (r 1) h)) (by kernel_rfl) (J18_13_ok F M) (fun r h => by kernel_rfl)
noncomputable def R18 (F : CallH) (M : Nat) (x0 x1 : Value) (h : AH) : Res := J18_14 F M x0 x1 h
theorem R18_ok (F : CallH) (M : Nat) (x0 x1 : Value) (h : AH) : kfn Tryd.prog F M 18 [x0, x1] h = R18 F M x0 x1 h :=
  (fn_pt (N := 43) (E := (fun r h => E18 (r 4) (r 5) h)) (T := (fun r h => J18_14 F M (r 0) (r 1) h)) Tryd.func18 (by kernel_rfl) (by kernel_rfl) (fun r h => by kernel_rfl) (J18_14_ok F M)).trans (by kernel_rfl)
/-! ### 22 turnkey/turnkeyref.None -/
noncomputable def E22 (v0 : Value) (h : AH) : Res := bindO (ldn 3 h v0) fun x0 => some (x0, h)
noncomputable def J22_0 (F : CallH) (M : Nat) (h : AH) : Res :=
  newK h (.cells [(.int .i64 0), (.bool false), (.int .i64 0)] 3) fun iv0 h1 =>
  bindO (xbuild [(.int .i64 0), (.bool false), (.int .i64 0)] []) fun v1 =>
  bindO (xst 3 h1 (ptrTo iv0) v1) fun h2 =>
  E22 (ptrTo iv0) h2
theorem J22_0_ok (F : CallH) (M : Nat) : ∀ r h, kcode Tryd.prog F 2 M (Code.sub [] (bodyOf Tryd.prog 22)) r h (KX (fun r h => E22 (r 0) h) (exitsOf []) (fun r h => E22 (r 0) h)) = J22_0 F M h := fun r h => by kernel_rfl
noncomputable def R22 (F : CallH) (M : Nat) (h : AH) : Res := J22_0 F M h
theorem R22_ok (F : CallH) (M : Nat) (h : AH) : kfn Tryd.prog F M 22 [] h = R22 F M h :=
  (fn_pt (N := 2) (E := (fun r h => E22 (r 0) h)) (T := (fun r h => J22_0 F M h)) Tryd.func22 (by kernel_rfl) (by kernel_rfl) (fun r h => by kernel_rfl) (J22_0_ok F M)).trans (by kernel_rfl)
/-! ### 26 slices.Index[[]int,int] -/
noncomputable def E26 (v4 : Value) (h : AH) : Res := some (v4, h)
noncomputable def J26_0 (F : CallH) (M : Nat) (h : AH) : Res :=
  E26 (.int .i64 (-1)) h
theorem J26_0_ok (F : CallH) (M : Nat) : ∀ r h, kcode Tryd.prog F 19 M (Code.sub [true, true] (bodyOf Tryd.prog 26)) r h (KX (fun r h => E26 (r 4) h) (exitsOf []) (fun r h => E26 (r 4) h)) = J26_0 F M h := fun r h => by kernel_rfl
noncomputable def J26_2 (F : CallH) (M : Nat) (L1 : Value → Value → Value → Value → AH → Res) (v0 : Value) (v1 : Value) (v7 : Value) (v8 : Value) (h : AH) : Res :=
  bindO (ibin .add v8 (.int .i64 1)) fun v18 =>
  L1 v0 v1 v7 v18 h
theorem J26_2_ok (F : CallH) (M : Nat) (L1 : Value → Value → Value → Value → AH → Res) : ∀ r h, kcode Tryd.prog F 19 M (Code.sub [true, false, true, false, false, true, true, true] (bodyOf Tryd.prog 26)) r h (KX (fun r h => L1 (r 0) (r 1) (r 7) (r 8) h) (exitsOf [(0, (fun r h => J26_0 F M h))]) (fun r h => E26 (r 4) h)) = J26_2 F M L1 (r 0) (r 1) (r 7) (r 8) h := fun r h => by kernel_rfl
noncomputable def J26_3 (F : CallH) (M : Nat) (L1 : Value → Value → Value → Value → AH → Res) (v0 : Value) (v1 : Value) (v7 : Value) (v8 : Value) (h : AH) : Res :=
  bindO (xia 1 v0 v8) fun v14 =>
  bindO (ld1 h v14) fun v15 =>
  bindO (ibin .eql v1 v15) fun v16 =>
  condO v16 (
  E26 v8 h) (
  J26_2 F M L1 v0 v1 v7 v8 h)
theorem J26_3_ok (F : CallH) (M : Nat) (L1 : Value → Value → Value → Value → AH → Res) : ∀ r h, kcode Tryd.prog F 19 M (Code.sub [true, false, true, false, false, true, true, false] (bodyOf Tryd.prog 26)) r h (KX (fun r h => J26_2 F M L1 (r 0) (r 1) (r 7) (r 8) h) (exitsOf [(0, (fun r h => J26_0 F M h))]) (fun r h => E26 (r 4) h)) = J26_3 F M L1 (r 0) (r 1) (r 7) (r 8) h := fun r h => by kernel_rfl
theorem J26_4_ok (F : CallH) (M : Nat) (L1 : Value → Value → Value → Value → AH → Res) : ∀ r h, kcode Tryd.prog F 19 M (Code.sub [true, false, true, false, false, true, true] (bodyOf Tryd.prog 26)) r h (KX (fun r h => L1 (r 0) (r 1) (r 7) (r 8) h) (exitsOf [(0, (fun r h => J26_0 F M h))]) (fun r h => E26 (r 4) h)) = J26_3 F M L1 (r 0) (r 1) (r 7) (r 8) h :=
  seq_pt (a := (Code.sub [true, false, true, false, false, true, true, false] (bodyOf Tryd.prog 26))) (b := (Code.sub [true, false, true, false, false, true, true, true] (bodyOf Tryd.prog 26))) (T := (fun r h => J26_3 F M L1 (r 0) (r 1) (r 7) (r 8) h)) (g := (fun r h => J26_2 F M L1 (r 0) (r 1) (r 7) (r 8) h)) (by kernel_rfl) (J26_2_ok F M L1) (J26_3_ok F M L1)
noncomputable def J26_5 (F : CallH) (M : Nat) (L1 : Value → Value → Value → Value → AH → Res) (v0 : Value) (v1 : Value) (v7 : Value) (v8 : Value) (v9 : Value) (h : AH) : Res :=
  condO v9 (
  J26_3 F M L1 v0 v1 v7 v8 h) (
  J26_0 F M h)
theorem J26_5_ok (F : CallH) (M : Nat) (L1 : Value → Value → Value → Value → AH → Res) : ∀ r h, kcode Tryd.prog F 19 M (Code.sub [true, false, true, false, false, true, false] (bodyOf Tryd.prog 26)) r h (KX (fun r h => J26_3 F M L1 (r 0) (r 1) (r 7) (r 8) h) (exitsOf [(0, (fun r h => J26_0 F M h))]) (fun r h => E26 (r 4) h)) = J26_5 F M L1 (r 0) (r 1) (r 7) (r 8) (r 9) h := fun r h => by kernel_rfl
theorem J26_6_ok (F : CallH) (M : Nat) (L1 : Value → Value → Value → Value → AH → Res) : ∀ r h, kcode Tryd.prog F 19 M (Code.sub [true, false, true, false, false, true] (bodyOf Tryd.prog 26)) r h (KX (fun r h => L1 (r 0) (r 1) (r 7) (r 8) h) (exitsOf [(0, (fun r h => J26_0 F M h))]) (fun r h => E26 (r 4) h)) = J26_5 F M L1 (r 0) (r 1) (r 7) (r 8) (r 9) h :=
  seq_pt (a := (Code.sub [true, false, true, false, false, true, false] (bodyOf Tryd.prog 26))) (b := (Code.sub [true, false, true, false, false, true, true] (bodyOf Tryd.prog 26))) (T := (fun r h => J26_5 F M L1 (r 0) (r 1) (r 7) (r 8) (r 9) h)) (g := (fun r h => J26_3 F M L1 (r 0) (r 1) (r 7) (r 8) h)) (by kernel_rfl) (J26_4_ok F M L1) (J26_5_ok F M L1)
noncomputable def J26_7 (F : CallH) (M : Nat) (L1 : Value → Value → Value → Value → AH → Res) (v0 : Value) (v1 : Value) (v7 : Value) (v8 : Value) (h : AH) : Res :=
  bindO (ibin .lss v8 v7) fun v9 =>
  J26_5 F M L1 v0 v1 v7 v8 v9 h
theorem J26_7_ok (F : CallH) (M : Nat) (L1 : Value → Value → Value → Value → AH → Res) : ∀ r h, kcode Tryd.prog F 19 M (Code.sub [true, false, true, false, false] (bodyOf Tryd.prog 26)) r h (KX (fun r h => L1 (r 0) (r 1) (r 7) (r 8) h) (exitsOf [(0, (fun r h => J26_0 F M h))]) (fun r h => E26 (r 4) h)) = J26_7 F M L1 (r 0) (r 1) (r 7) (r 8) h :=
  seq_pt (a := (Code.sub [true, false, true, false, false, false] (bodyOf Tryd.prog 26))) (b := (Code.sub [true, false, true, false, false, true] (bodyOf Tryd.prog 26))) (T := (fun r h => J26_7 F M L1 (r 0) (r 1) (r 7) (r 8) h)) (g := (fun r h => J26_5 F M L1 (r 0) (r 1) (r 7) (r 8) (r 9) h)) (by kernel_rfl) (J26_6_ok F M L1) (fun r h => by kernel_rfl)
noncomputable def L26_1 (F : CallH) (M : Nat) : Nat → Value → Value → Value → Value → AH → Res
  | 0, _, _, _, _, _ => none
  | m + 1, v0, v1, v7, v8, h => J26_7 F M (L26_1 F M m) v0 v1 v7 v8 h
theorem L26_1_ok (F : CallH) (M : Nat) : ∀ r h, kcode Tryd.prog F 19 M (Code.sub [true, false, true, false] (bodyOf Tryd.prog 26)) r h (KX (fun r h => J26_0 F M h) (exitsOf [(0, (fun r h => J26_0 F M h))]) (fun r h => E26 (r 4) h)) = L26_1 F M M (r 0) (r 1) (r 7) (r 8) h :=
  loop_pt (b := (Code.sub [true, false, true, false, false] (bodyOf Tryd.prog 26))) (by kernel_rfl) (fun m r h => L26_1 F M m (r 0) (r 1) (r 7) (r 8) h) (fun _ _ => rfl) (fun m r h => ((J26_7_ok F M (L26_1 F M m)) r h).trans rfl)
theorem J26_8_ok (F : CallH) (M : Nat) : ∀ r h, kcode Tryd.prog F 19 M (Code.sub [true, false, true] (bodyOf Tryd.prog 26)) r h (KX (fun r h => J26_0 F M h) (exitsOf []) (fun r h => E26 (r 4) h)) = L26_1 F M M (r 0) (r 1) (r 7) (r 8) h :=
  block_pt (b := (Code.sub [true, false, true, false] (bodyOf Tryd.prog 26))) (T := (fun r h => L26_1 F M M (r 0) (r 1) (r 7) (r 8) h)) (id := 0) (by kernel_rfl) (L26_1_ok F M)
noncomputable def J26_9 (F : CallH) (M : Nat) (v0 : Value) (v1 : Value) (h : AH) : Res :=
  bindO (xlenL v0) fun v7 =>
  L26_1 F M M v0 v1 v7 (.int .i64 0) h
theorem J26_9_ok (F : CallH) (M : Nat) : ∀ r h, kcode Tryd.prog F 19 M (Code.sub [true, false] (bodyOf Tryd.prog 26)) r h (KX (fun r h => J26_0 F M h) (exitsOf []) (fun r h => E26 (r 4) h)) = J26_9 F M (r 0) (r 1) h :=
  seq_pt (a := (Code.sub [true, false, false] (bodyOf Tryd.prog 26))) (b := (Code.sub [true, false, true] (bodyOf Tryd.prog 26))) (T := (fun r h => J26_9 F M (r 0) (r 1) h)) (g := (fun r h => L26_1 F M M (r 0) (r 1) (r 7) (r 8) h)) (by kernel_rfl) (J26_8_ok F M) (fun r h => by kernel_rfl)
theorem J26_10_ok (F : CallH) (M : Nat) : ∀ r h, kcode Tryd.prog F 19 M (Code.sub [true] (bodyOf Tryd.prog 26)) r h (KX (fun r h => E26 (r 4) h) (exitsOf []) (fun r h => E26 (r 4) h)) = J26_9 F M (r 0) (r 1) h :=
  seq_pt (a := (Code.sub [true, false] (bodyOf Tryd.prog 26))) (b := (Code.sub [true, true] (bodyOf Tryd.prog 26))) (T := (fun r h => J26_9 F M (r 0) (r 1) h)) (g := (fun r h => J26_0 F M h)) (by kernel_rfl) (J26_0_ok F M) (J26_9_ok F M)
noncomputable def J26_11 (F : CallH) (M : Nat) (v0 : Value) (v1 : Value) (h : AH) : Res :=
  J26_9 F M v0 v1 h
theorem J26_11_ok (F : CallH) (M : Nat) : ∀ r h, kcode Tryd.prog F 19 M (Code.sub [] (bodyOf Tryd.prog 26)) r h (KX (fun r h => E26 (r 4) h) (exitsOf []) (fun r h => E26 (r 4) h)) = J26_11 F M (r 0) (r 1) h :=
  seq_pt (a := (Code.sub [false] (bodyOf Tryd.prog 26))) (b := (Code.sub [true] (bodyOf Tryd.prog 26))) (T := (fun r h => J26_11 F M (r 0) (r 1) h)) (g := (fun r h => J26_9 F M (r 0) (r 1) h)) (by kernel_rfl) (J26_10_ok F M) (fun r h => by kernel_rfl)
noncomputable def R26 (F : CallH) (M : Nat) (x0 x1 : Value) (h : AH) : Res := J26_11 F M x0 x1 h
theorem R26_ok (F : CallH) (M : Nat) (x0 x1 : Value) (h : AH) : kfn Tryd.prog F M 26 [x0, x1] h = R26 F M x0 x1 h :=
  (fn_pt (N := 19) (E := (fun r h => E26 (r 4) h)) (T := (fun r h => J26_11 F M (r 0) (r 1) h)) Tryd.func26 (by kernel_rfl) (by kernel_rfl) (fun r h => by kernel_rfl) (J26_11_ok F M)).trans (by kernel_rfl)
/-! ### 30 turnkey/code.fits -/
noncomputable def E30 (v2 : Value) (h : AH) : Res := some (v2, h)
noncomputable def J30_0 (F : CallH) (M : Nat) (v1 : Value) (v3 : Value) (v4 : Value) (h : AH) : Res :=
  bindO (xfa 4 v1) fun v54 =>
  bindO (ld1 h v54) fun v55 =>
  bindO (ibin .geq v55 (.int .i64 0)) fun v56 =>
  condO v56 (
  bindO (xfa 4 v1) fun v58 =>
  bindO (ld1 h v58) fun v59 =>
  bindO (ibin .leq v59 v4) fun v61 =>
  condO v61 (
  bindO (F 45 [v3, (fnv 46)] h) fun pv65 =>
  bindO (xnot pv65.1) fun v66 =>
  E30 v66 pv65.2) (
  E30 (.bool false) h)) (
  E30 (.bool false) h)
theorem J30_0_ok (F : CallH) (M : Nat) : ∀ r h, kcode Tryd.prog F 68 M (Code.sub [true, true, true, true, true] (bodyOf Tryd.prog 30)) r h (KX (fun r h => E30 (r 2) h) (exitsOf []) (fun r h => E30 (r 2) h)) = J30_0 F M (r 1) (r 3) (r 4) h := fun r h => by kernel_rfl
noncomputable def J30_1 (F : CallH) (M : Nat) (v1 : Value) (v3 : Value) (v4 : Value) (v5 : Value) (h : AH) : Res :=
  bindO (xfa 0 v1) fun v40 =>
  bindO (ld1 h v40) fun v41 =>
  bindO (ibin .eql v41 (.int .i64 11)) fun v42 =>
  condO v42 (
  bindO (xfa 1 v1) fun v44 =>
  bindO (ld1 h v44) fun v45 =>
  bindO (ibin .lss v45 (.int .i64 0)) fun v46 =>
  condO v46 (
  E30 (.bool false) h) (
  bindO (xfa 1 v1) fun v48 =>
  bindO (ld1 h v48) fun v49 =>
  bindO (ibin .gtr v49 v5) fun v51 =>
  condO v51 (
  E30 (.bool false) h) (
  J30_0 F M v1 v3 v4 h))) (
  J30_0 F M v1 v3 v4 h)
theorem J30_1_ok (F : CallH) (M : Nat) : ∀ r h, kcode Tryd.prog F 68 M (Code.sub [true, true, true, true, false] (bodyOf Tryd.prog 30)) r h (KX (fun r h => J30_0 F M (r 1) (r 3) (r 4) h) (exitsOf []) (fun r h => E30 (r 2) h)) = J30_1 F M (r 1) (r 3) (r 4) (r 5) h := fun r h => by kernel_rfl
theorem J30_2_ok (F : CallH) (M : Nat) : ∀ r h, kcode Tryd.prog F 68 M (Code.sub [true, true, true, true] (bodyOf Tryd.prog 30)) r h (KX (fun r h => E30 (r 2) h) (exitsOf []) (fun r h => E30 (r 2) h)) = J30_1 F M (r 1) (r 3) (r 4) (r 5) h :=
  seq_pt (a := (Code.sub [true, true, true, true, false] (bodyOf Tryd.prog 30))) (b := (Code.sub [true, true, true, true, true] (bodyOf Tryd.prog 30))) (T := (fun r h => J30_1 F M (r 1) (r 3) (r 4) (r 5) h)) (g := (fun r h => J30_0 F M (r 1) (r 3) (r 4) h)) (by kernel_rfl) (J30_0_ok F M) (J30_1_ok F M)
noncomputable def J30_4 (F : CallH) (M : Nat) (L3 : Value → Value → Value → Value → Value → AH → Res) (v1 : Value) (v3 : Value) (v4 : Value) (v5 : Value) (v14 : Value) (h : AH) : Res :=
  bindO (xsl 1 h v3 (some (.int .i64 1)) none none) fun v39 =>
  L3 v1 v39 v4 v5 v14 h
theorem J30_4_ok (F : CallH) (M : Nat) (L3 : Value → Value → Value → Value → Value → AH → Res) : ∀ r h, kcode Tryd.prog F 68 M (Code.sub [true, true, true, false, true, false, false, true, true, false, true, true, true, true] (bodyOf Tryd.prog 30)) r h (KX (fun r h => L3 (r 1) (r 3) (r 4) (r 5) (r 14) h) (exitsOf [(1, (fun r h => L3 (r 1) (r 3) (r 4) (r 5) (r 14) h)), (0, (fun r h => J30_1 F M (r 1) (r 3) (r 4) (r 5) h))]) (fun r h => E30 (r 2) h)) = J30_4 F M L3 (r 1) (r 3) (r 4) (r 5) (r 14) h := fun r h => by kernel_rfl
noncomputable def J30_5 (F : CallH) (M : Nat) (L3 : Value → Value → Value → Value → Value → AH → Res) (v1 : Value) (v3 : Value) (v4 : Value) (v5 : Value) (v8 : Value) (v14 : Value) (h : AH) : Res :=
  bindO (xia 1 v3 (.int .i64 0)) fun v28 =>
  bindO (ld1 h v28) fun v29 =>
  bindO (ibin .lss v29 (.int .i64 0)) fun v30 =>
  condO v30 (
  E30 (.bool false) h) (
  bindO (xia 1 v3 (.int .i64 0)) fun v33 =>
  bindO (ld1 h v33) fun v34 =>
  bindO (ibin .geq v34 v8) fun v36 =>
  condO v36 (
  E30 (.bool false) h) (
  J30_4 F M L3 v1 v3 v4 v5 v14 h))
theorem J30_5_ok (F : CallH) (M : Nat) (L3 : Value → Value → Value → Value → Value → AH → Res) : ∀ r h, kcode Tryd.prog F 68 M (Code.sub [true, true, true, false, true, false, false, true, true, false, true, true, true, false] (bodyOf Tryd.prog 30)) r h (KX (fun r h => J30_4 F M L3 (r 1) (r 3) (r 4) (r 5) (r 14) h) (exitsOf [(1, (fun r h => L3 (r 1) (r 3) (r 4) (r 5) (r 14) h)), (0, (fun r h => J30_1 F M (r 1) (r 3) (r 4) (r 5) h))]) (fun r h => E30 (r 2) h)) = J30_5 F M L3 (r 1) (r 3) (r 4) (r 5) (r 8) (r 14) h := fun r h => by kernel_rfl
theorem J30_6_ok (F : CallH) (M : Nat) (L3 : Value → Value → Value → Value → Value → AH → Res) : ∀ r h, kcode Tryd.prog F 68 M (Code.sub [true, true, true, false, true, false, false, true, true, false, true, true, true] (bodyOf Tryd.prog 30)) r h (KX (fun r h => L3 (r 1) (r 3) (r 4) (r 5) (r 14) h) (exitsOf [(1, (fun r h => L3 (r 1) (r 3) (r 4) (r 5) (r 14) h)), (0, (fun r h => J30_1 F M (r 1) (r 3) (r 4) (r 5) h))]) (fun r h => E30 (r 2) h)) = J30_5 F M L3 (r 1) (r 3) (r 4) (r 5) (r 8) (r 14) h :=
  seq_pt (a := (Code.sub [true, true, true, false, true, false, false, true, true, false, true, true, true, false] (bodyOf Tryd.prog 30))) (b := (Code.sub [true, true, true, false, true, false, false, true, true, false, true, true, true, true] (bodyOf Tryd.prog 30))) (T := (fun r h => J30_5 F M L3 (r 1) (r 3) (r 4) (r 5) (r 8) (r 14) h)) (g := (fun r h => J30_4 F M L3 (r 1) (r 3) (r 4) (r 5) (r 14) h)) (by kernel_rfl) (J30_4_ok F M L3) (J30_5_ok F M L3)
noncomputable def J30_7 (F : CallH) (M : Nat) (L3 : Value → Value → Value → Value → Value → AH → Res) (v1 : Value) (v3 : Value) (v4 : Value) (v5 : Value) (v7 : Value) (v8 : Value) (v14 : Value) (h : AH) : Res :=
  bindO (ibin .eql v7 (.int .i32 110)) fun v20 =>
  condO v20 (
  L3 v1 v3 (.int .i64 4095) v5 v14 h) (
  bindO (ibin .eql v7 (.int .i32 111)) fun v22 =>
  condO v22 (
  L3 v1 v3 (.int .i64 11) v5 v14 h) (
  bindO (ibin .eql v7 (.int .i32 104)) fun v24 =>
  condO v24 (
  L3 v1 v3 v4 (.int .i64 2) v14 h) (
  bindO (ibin .eql v7 (.int .i32 107)) fun v26 =>
  condO v26 (
  J30_5 F M L3 v1 v3 v4 v5 (.int .i64 16) v14 h) (
  J30_5 F M L3 v1 v3 v4 v5 v8 v14 h))))
theorem J30_7_ok (F : CallH) (M : Nat) (L3 : Value → Value → Value → Value → Value → AH → Res) : ∀ r h, kcode Tryd.prog F 68 M (Code.sub [true, true, true, false, true, false, false, true, true, false, true, true, false] (bodyOf Tryd.prog 30)) r h (KX (fun r h => J30_5 F M L3 (r 1) (r 3) (r 4) (r 5) (r 8) (r 14) h) (exitsOf [(1, (fun r h => L3 (r 1) (r 3) (r 4) (r 5) (r 14) h)), (0, (fun r h => J30_1 F M (r 1) (r 3) (r 4) (r 5) h))]) (fun r h => E30 (r 2) h)) = J30_7 F M L3 (r 1) (r 3) (r 4) (r 5) (r 7) (r 8) (r 14) h := fun r h => by kernel_rfl
theorem J30_8_ok (F : CallH) (M : Nat) (L3 : Value → Value → Value → Value → Value → AH → Res) : ∀ r h, kcode Tryd.prog F 68 M (Code.sub [true, true, true, false, true, false, false, true, true, false, true, true] (bodyOf Tryd.prog 30)) r h (KX (fun r h => L3 (r 1) (r 3) (r 4) (r 5) (r 14) h) (exitsOf [(1, (fun r h => L3 (r 1) (r 3) (r 4) (r 5) (r 14) h)), (0, (fun r h => J30_1 F M (r 1) (r 3) (r 4) (r 5) h))]) (fun r h => E30 (r 2) h)) = J30_7 F M L3 (r 1) (r 3) (r 4) (r 5) (r 7) (r 8) (r 14) h :=
  seq_pt (a := (Code.sub [true, true, true, false, true, false, false, true, true, false, true, true, false] (bodyOf Tryd.prog 30))) (b := (Code.sub [true, true, true, false, true, false, false, true, true, false, true, true, true] (bodyOf Tryd.prog 30))) (T := (fun r h => J30_7 F M L3 (r 1) (r 3) (r 4) (r 5) (r 7) (r 8) (r 14) h)) (g := (fun r h => J30_5 F M L3 (r 1) (r 3) (r 4) (r 5) (r 8) (r 14) h)) (by kernel_rfl) (J30_6_ok F M L3) (J30_7_ok F M L3)
noncomputable def J30_9 (F : CallH) (M : Nat) (L3 : Value → Value → Value → Value → Value → AH → Res) (v1 : Value) (v3 : Value) (v4 : Value) (v5 : Value) (v7 : Value) (v14 : Value) (h : AH) : Res :=
  J30_7 F M L3 v1 v3 v4 v5 v7 (.int .i64 8) v14 h
theorem J30_9_ok (F : CallH) (M : Nat) (L3 : Value → Value → Value → Value → Value → AH → Res) : ∀ r h, kcode Tryd.prog F 68 M (Code.sub [true, true, true, false, true, false, false, true, true, false, true] (bodyOf Tryd.prog 30)) r h (KX (fun r h => L3 (r 1) (r 3) (r 4) (r 5) (r 14) h) (exitsOf [(1, (fun r h => L3 (r 1) (r 3) (r 4) (r 5) (r 14) h)), (0, (fun r h => J30_1 F M (r 1) (r 3) (r 4) (r 5) h))]) (fun r h => E30 (r 2) h)) = J30_9 F M L3 (r 1) (r 3) (r 4) (r 5) (r 7) (r 14) h :=
  seq_pt (a := (Code.sub [true, true, true, false, true, false, false, true, true, false, true, false] (bodyOf Tryd.prog 30))) (b := (Code.sub [true, true, true, false, true, false, false, true, true, false, true, true] (bodyOf Tryd.prog 30))) (T := (fun r h => J30_9 F M L3 (r 1) (r 3) (r 4) (r 5) (r 7) (r 14) h)) (g := (fun r h => J30_7 F M L3 (r 1) (r 3) (r 4) (r 5) (r 7) (r 8) (r 14) h)) (by kernel_rfl) (J30_8_ok F M L3) (fun r h => by kernel_rfl)
noncomputable def J30_10 (F : CallH) (M : Nat) (L3 : Value → Value → Value → Value → Value → AH → Res) (v1 : Value) (v3 : Value) (v4 : Value) (v5 : Value) (v14 : Value) (v15 : Value) (h : AH) : Res :=
  bindO (xext 2 v15) fun v17 =>
  J30_9 F M L3 v1 v3 v4 v5 v17 v14 h
theorem J30_10_ok (F : CallH) (M : Nat) (L3 : Value → Value → Value → Value → Value → AH → Res) : ∀ r h, kcode Tryd.prog F 68 M (Code.sub [true, true, true, false, true, false, false, true, true, false] (bodyOf Tryd.prog 30)) r h (KX (fun r h => L3 (r 1) (r 3) (r 4) (r 5) (r 14) h) (exitsOf [(1, (fun r h => L3 (r 1) (r 3) (r 4) (r 5) (r 14) h)), (0, (fun r h => J30_1 F M (r 1) (r 3) (r 4) (r 5) h))]) (fun r h => E30 (r 2) h)) = J30_10 F M L3 (r 1) (r 3) (r 4) (r 5) (r 14) (r 15) h :=
  seq_pt (a := (Code.sub [true, true, true, false, true, false, false, true, true, false, false] (bodyOf Tryd.prog 30))) (b := (Code.sub [true, true, true, false, true, false, false, true, true, false, true] (bodyOf Tryd.prog 30))) (T := (fun r h => J30_10 F M L3 (r 1) (r 3) (r 4) (r 5) (r 14) (r 15) h)) (g := (fun r h => J30_9 F M L3 (r 1) (r 3) (r 4) (r 5) (r 7) (r 14) h)) (by kernel_rfl) (J30_9_ok F M L3) (fun r h => by kernel_rfl)
theorem J30_11_ok (F : CallH) (M : Nat) (L3 : Value → Value → Value → Value → Value → AH → Res) : ∀ r h, kcode Tryd.prog F 68 M (Code.sub [true, true, true, false, true, false, false, true, true] (bodyOf Tryd.prog 30)) r h (KX (fun r h => L3 (r 1) (r 3) (r 4) (r 5) (r 14) h) (exitsOf [(0, (fun r h => J30_1 F M (r 1) (r 3) (r 4) (r 5) h))]) (fun r h => E30 (r 2) h)) = J30_10 F M L3 (r 1) (r 3) (r 4) (r 5) (r 14) (r 15) h :=
  block_pt (b := (Code.sub [true, true, true, false, true, false, false, true, true, false] (bodyOf Tryd.prog 30))) (T := (fun r h => J30_10 F M L3 (r 1) (r 3) (r 4) (r 5) (r 14) (r 15) h)) (id := 1) (by kernel_rfl) (J30_10_ok F M L3)
noncomputable def J30_12 (F : CallH) (M : Nat) (L3 : Value → Value → Value → Value → Value → AH → Res) (v1 : Value) (v3 : Value) (v4 : Value) (v5 : Value) (v14 : Value) (v15 : Value) (v16 : Value) (h : AH) : Res :=
  condO v16 (
  J30_10 F M L3 v1 v3 v4 v5 v14 v15 h) (
  J30_1 F M v1 v3 v4 v5 h)
theorem J30_12_ok (F : CallH) (M : Nat) (L3 : Value → Value → Value → Value → Value → AH → Res) : ∀ r h, kcode Tryd.prog F 68 M (Code.sub [true, true, true, false, true, false, false, true, false] (bodyOf Tryd.prog 30)) r h (KX (fun r h => J30_10 F M L3 (r 1) (r 3) (r 4) (r 5) (r 14) (r 15) h) (exitsOf [(0, (fun r h => J30_1 F M (r 1) (r 3) (r 4) (r 5) h))]) (fun r h => E30 (r 2) h)) = J30_12 F M L3 (r 1) (r 3) (r 4) (r 5) (r 14) (r 15) (r 16) h := fun r h => by kernel_rfl
theorem J30_13_ok (F : CallH) (M : Nat) (L3 : Value → Value → Value → Value → Value → AH → Res) : ∀ r h, kcode Tryd.prog F 68 M (Code.sub [true, true, true, false, true, false, false, true] (bodyOf Tryd.prog 30)) r h (KX (fun r h => L3 (r 1) (r 3) (r 4) (r 5) (r 14) h) (exitsOf [(0, (fun r h => J30_1 F M (r 1) (r 3) (r 4) (r 5) h))]) (fun r h => E30 (r 2) h)) = J30_12 F M L3 (r 1) (r 3) (r 4) (r 5) (r 14) (r 15) (r 16) h :=
  seq_pt (a := (Code.sub [true, true, true, false, true, false, false, true, false] (bodyOf Tryd.prog 30))) (b := (Code.sub [true, true, true, false, true, false, false, true, true] (bodyOf Tryd.prog 30))) (T := (fun r h => J30_12 F M L3 (r 1) (r 3) (r 4) (r 5) (r 14) (r 15) (r 16) h)) (g := (fun r h => J30_10 F M L3 (r 1) (r 3) (r 4) (r 5) (r 14) (r 15) h)) (by kernel_rfl) (J30_11_ok F M L3) (J30_12_ok F M L3)
noncomputable def J30_14 (F : CallH) (M : Nat) (L3 : Value → Value → Value → Value → Value → AH → Res) (v1 : Value) (v3 : Value) (v4 : Value) (v5 : Value) (v14 : Value) (h : AH) : Res :=
  bindO (xnext v14 h) fun pv15 =>
  bindO (xext 0 pv15.1) fun v16 =>
  J30_12 F M L3 v1 v3 v4 v5 v14 pv15.1 v16 pv15.2
theorem J30_14_ok (F : CallH) (M : Nat) (L3 : Value → Value → Value → Value → Value → AH → Res) : ∀ r h, kcode Tryd.prog F 68 M (Code.sub [true, true, true, false, true, false, false] (bodyOf Tryd.prog 30)) r h (KX (fun r h => L3 (r 1) (r 3) (r 4) (r 5) (r 14) h) (exitsOf [(0, (fun r h => J30_1 F M (r 1) (r 3) (r 4) (r 5) h))]) (fun r h => E30 (r 2) h)) = J30_14 F M L3 (r 1) (r 3) (r 4) (r 5) (r 14) h :=
  seq_pt (a := (Code.sub [true, true, true, false, true, false, false, false] (bodyOf Tryd.prog 30))) (b := (Code.sub [true, true, true, false, true, false, false, true] (bodyOf Tryd.prog 30))) (T := (fun r h => J30_14 F M L3 (r 1) (r 3) (r 4) (r 5) (r 14) h)) (g := (fun r h => J30_12 F M L3 (r 1) (r 3) (r 4) (r 5) (r 14) (r 15) (r 16) h)) (by kernel_rfl) (J30_13_ok F M L3) (fun r h => by kernel_rfl)
noncomputable def L30_3 (F : CallH) (M : Nat) : Nat → Value → Value → Value → Value → Value → AH → Res
  | 0, _, _, _, _, _, _ => none
  | m + 1, v1, v3, v4, v5, v14, h => J30_14 F M (L30_3 F M m) v1 v3 v4 v5 v14 h
theorem L30_3_ok (F : CallH) (M : Nat) : ∀ r h, kcode Tryd.prog F 68 M (Code.sub [true, true, true, false, true, false] (bodyOf Tryd.prog 30)) r h (KX (fun r h => J30_1 F M (r 1) (r 3) (r 4) (r 5) h) (exitsOf [(0, (fun r h => J30_1 F M (r 1) (r 3) (r 4) (r 5) h))]) (fun r h => E30 (r 2) h)) = L30_3 F M M (r 1) (r 3) (r 4) (r 5) (r 14) h :=
  loop_pt (b := (Code.sub [true, true, true, false, true, false, false] (bodyOf Tryd.prog 30))) (by kernel_rfl) (fun m r h => L30_3 F M m (r 1) (r 3) (r 4) (r 5) (r 14) h) (fun _ _ => rfl) (fun m r h => ((J30_14_ok F M (L30_3 F M m)) r h).trans rfl)
theorem J30_15_ok (F : CallH) (M : Nat) : ∀ r h, kcode Tryd.prog F 68 M (Code.sub [true, true, true, false, true] (bodyOf Tryd.prog 30)) r h (KX (fun r h => J30_1 F M (r 1) (r 3) (r 4) (r 5) h) (exitsOf []) (fun r h => E30 (r 2) h)) = L30_3 F M M (r 1) (r 3) (r 4) (r 5) (r 14) h :=
  block_pt (b := (Code.sub [true, true, true, false, true, false] (bodyOf Tryd.prog 30))) (T := (fun r h => L30_3 F M M (r 1) (r 3) (r 4) (r 5) (r 14) h)) (id := 0) (by kernel_rfl) (L30_3_ok F M)
noncomputable def J30_16 (F : CallH) (M : Nat) (v1 : Value) (v3 : Value) (v4 : Value) (v5 : Value) (h : AH) : Res :=
  bindO (xfa 0 v1) fun v11 =>
  bindO (ld1 h v11) fun v12 =>
  bindO (F 33 [v12] h) fun pv13 =>
  bindO (xrange pv13.1 pv13.2) fun pv14 =>
  L30_3 F M M v1 v3 v4 v5 pv14.1 pv14.2
theorem J30_16_ok (F : CallH) (M : Nat) : ∀ r h, kcode Tryd.prog F 68 M (Code.sub [true, true, true, false] (bodyOf Tryd.prog 30)) r h (KX (fun r h => J30_1 F M (r 1) (r 3) (r 4) (r 5) h) (exitsOf []) (fun r h => E30 (r 2) h)) = J30_16 F M (r 1) (r 3) (r 4) (r 5) h :=
  seq_pt (a := (Code.sub [true, true, true, false, false] (bodyOf Tryd.prog 30))) (b := (Code.sub [true, true, true, false, true] (bodyOf Tryd.prog 30))) (T := (fun r h => J30_16 F M (r 1) (r 3) (r 4) (r 5) h)) (g := (fun r h => L30_3 F M M (r 1) (r 3) (r 4) (r 5) (r 14) h)) (by kernel_rfl) (J30_15_ok F M) (fun r h => by kernel_rfl)
theorem J30_17_ok (F : CallH) (M : Nat) : ∀ r h, kcode Tryd.prog F 68 M (Code.sub [true, true, true] (bodyOf Tryd.prog 30)) r h (KX (fun r h => E30 (r 2) h) (exitsOf []) (fun r h => E30 (r 2) h)) = J30_16 F M (r 1) (r 3) (r 4) (r 5) h :=
  seq_pt (a := (Code.sub [true, true, true, false] (bodyOf Tryd.prog 30))) (b := (Code.sub [true, true, true, true] (bodyOf Tryd.prog 30))) (T := (fun r h => J30_16 F M (r 1) (r 3) (r 4) (r 5) h)) (g := (fun r h => J30_1 F M (r 1) (r 3) (r 4) (r 5) h)) (by kernel_rfl) (J30_2_ok F M) (J30_16_ok F M)
noncomputable def J30_18 (F : CallH) (M : Nat) (v1 : Value) (v3 : Value) (h : AH) : Res :=
  J30_16 F M v1 v3 (.int .i64 0) (.int .i64 0) h
theorem J30_18_ok (F : CallH) (M : Nat) : ∀ r h, kcode Tryd.prog F 68 M (Code.sub [true, true] (bodyOf Tryd.prog 30)) r h (KX (fun r h => E30 (r 2) h) (exitsOf []) (fun r h => E30 (r 2) h)) = J30_18 F M (r 1) (r 3) h :=
  seq_pt (a := (Code.sub [true, true, false] (bodyOf Tryd.prog 30))) (b := (Code.sub [true, true, true] (bodyOf Tryd.prog 30))) (T := (fun r h => J30_18 F M (r 1) (r 3) h)) (g := (fun r h => J30_16 F M (r 1) (r 3) (r 4) (r 5) h)) (by kernel_rfl) (J30_17_ok F M) (fun r h => by kernel_rfl)
noncomputable def J30_19 (F : CallH) (M : Nat) (v1 : Value) (h : AH) : Res :=
  bindO (ldn 5 h v1) fun v9 =>
  bindO (F 44 [v9] h) fun pv10 =>
  J30_18 F M v1 pv10.1 pv10.2
theorem J30_19_ok (F : CallH) (M : Nat) : ∀ r h, kcode Tryd.prog F 68 M (Code.sub [true] (bodyOf Tryd.prog 30)) r h (KX (fun r h => E30 (r 2) h) (exitsOf []) (fun r h => E30 (r 2) h)) = J30_19 F M (r 1) h :=
  seq_pt (a := (Code.sub [true, false] (bodyOf Tryd.prog 30))) (b := (Code.sub [true, true] (bodyOf Tryd.prog 30))) (T := (fun r h => J30_19 F M (r 1) h)) (g := (fun r h => J30_18 F M (r 1) (r 3) h)) (by kernel_rfl) (J30_18_ok F M) (fun r h => by kernel_rfl)
noncomputable def J30_20 (F : CallH) (M : Nat) (v0 : Value) (h : AH) : Res :=
  bindO (xcells 5 v0) fun v1 => newK h (.cells v1 5) fun iv1 h6 =>
  J30_19 F M (ptrTo iv1) h6
theorem J30_20_ok (F : CallH) (M : Nat) : ∀ r h, kcode Tryd.prog F 68 M (Code.sub [] (bodyOf Tryd.prog 30)) r h (KX (fun r h => E30 (r 2) h) (exitsOf []) (fun r h => E30 (r 2) h)) = J30_20 F M (r 0) h :=
  seq_pt (a := (Code.sub [false] (bodyOf Tryd.prog 30))) (b := (Code.sub [true] (bodyOf Tryd.prog 30))) (T := (fun r h => J30_20 F M (r 0) h)) (g := (fun r h => J30_19 F M (r 1) h)) (by kernel_rfl) (J30_19_ok F M) (fun r h => by kernel_rfl)
noncomputable def R30 (F : CallH) (M : Nat) (x0 : Value) (h : AH) : Res := J30_20 F M x0 h
theorem R30_ok (F : CallH) (M : Nat) (x0 : Value) (h : AH) : kfn Tryd.prog F M 30 [x0] h = R30 F M x0 h :=
  (fn_pt (N := 68) (E := (fun r h => E30 (r 2) h)) (T := (fun r h => J30_20 F M (r 0) h)) Tryd.func30 (by kernel_rfl) (by kernel_rfl) (fun r h => by kernel_rfl) (J30_20_ok F M)).trans (by kernel_rfl)
/-! ### 34 turnkey/asm.op -/
noncomputable def E34 (v2 : Value) (h : AH) : Res := some (v2, h)
noncomputable def J34_0 (F : CallH) (M : Nat) (h : AH) : Res :=
  E34 (.int .i64 (-1)) h
theorem J34_0_ok (F : CallH) (M : Nat) : ∀ r h, kcode Tryd.prog F 13 M (Code.sub [true, true] (bodyOf Tryd.prog 34)) r h (KX (fun r h => E34 (r 2) h) (exitsOf []) (fun r h => E34 (r 2) h)) = J34_0 F M h := fun r h => by kernel_rfl
noncomputable def J34_2 (F : CallH) (M : Nat) (L1 : Value → Value → AH → Res) (v0 : Value) (v3 : Value) (h : AH) : Res :=
  bindO (ibin .add v3 (.int .i64 1)) fun v7 =>
  L1 v0 v7 h
theorem J34_2_ok (F : CallH) (M : Nat) (L1 : Value → Value → AH → Res) : ∀ r h, kcode Tryd.prog F 13 M (Code.sub [true, false, true, false, false, true, true] (bodyOf Tryd.prog 34)) r h (KX (fun r h => L1 (r 0) (r 3) h) (exitsOf [(0, (fun r h => J34_0 F M h))]) (fun r h => E34 (r 2) h)) = J34_2 F M L1 (r 0) (r 3) h := fun r h => by kernel_rfl
noncomputable def J34_3 (F : CallH) (M : Nat) (L1 : Value → Value → AH → Res) (v0 : Value) (v3 : Value) (h : AH) : Res :=
  bindO (F 51 [v3] h) fun pv9 =>
  bindO (sbin .eql pv9.1 v0) fun v11 =>
  condO v11 (
  E34 v3 pv9.2) (
  J34_2 F M L1 v0 v3 pv9.2)
theorem J34_3_ok (F : CallH) (M : Nat) (L1 : Value → Value → AH → Res) : ∀ r h, kcode Tryd.prog F 13 M (Code.sub [true, false, true, false, false, true, false] (bodyOf Tryd.prog 34)) r h (KX (fun r h => J34_2 F M L1 (r 0) (r 3) h) (exitsOf [(0, (fun r h => J34_0 F M h))]) (fun r h => E34 (r 2) h)) = J34_3 F M L1 (r 0) (r 3) h := fun r h => by kernel_rfl
theorem J34_4_ok (F : CallH) (M : Nat) (L1 : Value → Value → AH → Res) : ∀ r h, kcode Tryd.prog F 13 M (Code.sub [true, false, true, false, false, true] (bodyOf Tryd.prog 34)) r h (KX (fun r h => L1 (r 0) (r 3) h) (exitsOf [(0, (fun r h => J34_0 F M h))]) (fun r h => E34 (r 2) h)) = J34_3 F M L1 (r 0) (r 3) h :=
  seq_pt (a := (Code.sub [true, false, true, false, false, true, false] (bodyOf Tryd.prog 34))) (b := (Code.sub [true, false, true, false, false, true, true] (bodyOf Tryd.prog 34))) (T := (fun r h => J34_3 F M L1 (r 0) (r 3) h)) (g := (fun r h => J34_2 F M L1 (r 0) (r 3) h)) (by kernel_rfl) (J34_2_ok F M L1) (J34_3_ok F M L1)
noncomputable def J34_5 (F : CallH) (M : Nat) (L1 : Value → Value → AH → Res) (v0 : Value) (v3 : Value) (h : AH) : Res :=
  bindO (ibin .leq v3 (.int .i64 11)) fun v5 =>
  condO v5 (
  J34_3 F M L1 v0 v3 h) (
  J34_0 F M h)
theorem J34_5_ok (F : CallH) (M : Nat) (L1 : Value → Value → AH → Res) : ∀ r h, kcode Tryd.prog F 13 M (Code.sub [true, false, true, false, false, false] (bodyOf Tryd.prog 34)) r h (KX (fun r h => J34_3 F M L1 (r 0) (r 3) h) (exitsOf [(0, (fun r h => J34_0 F M h))]) (fun r h => E34 (r 2) h)) = J34_5 F M L1 (r 0) (r 3) h := fun r h => by kernel_rfl
theorem J34_6_ok (F : CallH) (M : Nat) (L1 : Value → Value → AH → Res) : ∀ r h, kcode Tryd.prog F 13 M (Code.sub [true, false, true, false, false] (bodyOf Tryd.prog 34)) r h (KX (fun r h => L1 (r 0) (r 3) h) (exitsOf [(0, (fun r h => J34_0 F M h))]) (fun r h => E34 (r 2) h)) = J34_5 F M L1 (r 0) (r 3) h :=
  seq_pt (a := (Code.sub [true, false, true, false, false, false] (bodyOf Tryd.prog 34))) (b := (Code.sub [true, false, true, false, false, true] (bodyOf Tryd.prog 34))) (T := (fun r h => J34_5 F M L1 (r 0) (r 3) h)) (g := (fun r h => J34_3 F M L1 (r 0) (r 3) h)) (by kernel_rfl) (J34_4_ok F M L1) (J34_5_ok F M L1)
noncomputable def L34_1 (F : CallH) (M : Nat) : Nat → Value → Value → AH → Res
  | 0, _, _, _ => none
  | m + 1, v0, v3, h => J34_5 F M (L34_1 F M m) v0 v3 h
theorem L34_1_ok (F : CallH) (M : Nat) : ∀ r h, kcode Tryd.prog F 13 M (Code.sub [true, false, true, false] (bodyOf Tryd.prog 34)) r h (KX (fun r h => J34_0 F M h) (exitsOf [(0, (fun r h => J34_0 F M h))]) (fun r h => E34 (r 2) h)) = L34_1 F M M (r 0) (r 3) h :=
  loop_pt (b := (Code.sub [true, false, true, false, false] (bodyOf Tryd.prog 34))) (by kernel_rfl) (fun m r h => L34_1 F M m (r 0) (r 3) h) (fun _ _ => rfl) (fun m r h => ((J34_6_ok F M (L34_1 F M m)) r h).trans rfl)
theorem J34_7_ok (F : CallH) (M : Nat) : ∀ r h, kcode Tryd.prog F 13 M (Code.sub [true, false, true] (bodyOf Tryd.prog 34)) r h (KX (fun r h => J34_0 F M h) (exitsOf []) (fun r h => E34 (r 2) h)) = L34_1 F M M (r 0) (r 3) h :=
  block_pt (b := (Code.sub [true, false, true, false] (bodyOf Tryd.prog 34))) (T := (fun r h => L34_1 F M M (r 0) (r 3) h)) (id := 0) (by kernel_rfl) (L34_1_ok F M)
noncomputable def J34_8 (F : CallH) (M : Nat) (v0 : Value) (h : AH) : Res :=
  L34_1 F M M v0 (.int .i64 0) h
theorem J34_8_ok (F : CallH) (M : Nat) : ∀ r h, kcode Tryd.prog F 13 M (Code.sub [true, false] (bodyOf Tryd.prog 34)) r h (KX (fun r h => J34_0 F M h) (exitsOf []) (fun r h => E34 (r 2) h)) = J34_8 F M (r 0) h :=
  seq_pt (a := (Code.sub [true, false, false] (bodyOf Tryd.prog 34))) (b := (Code.sub [true, false, true] (bodyOf Tryd.prog 34))) (T := (fun r h => J34_8 F M (r 0) h)) (g := (fun r h => L34_1 F M M (r 0) (r 3) h)) (by kernel_rfl) (J34_7_ok F M) (fun r h => by kernel_rfl)
theorem J34_9_ok (F : CallH) (M : Nat) : ∀ r h, kcode Tryd.prog F 13 M (Code.sub [true] (bodyOf Tryd.prog 34)) r h (KX (fun r h => E34 (r 2) h) (exitsOf []) (fun r h => E34 (r 2) h)) = J34_8 F M (r 0) h :=
  seq_pt (a := (Code.sub [true, false] (bodyOf Tryd.prog 34))) (b := (Code.sub [true, true] (bodyOf Tryd.prog 34))) (T := (fun r h => J34_8 F M (r 0) h)) (g := (fun r h => J34_0 F M h)) (by kernel_rfl) (J34_0_ok F M) (J34_8_ok F M)
noncomputable def J34_10 (F : CallH) (M : Nat) (v0 : Value) (h : AH) : Res :=
  J34_8 F M v0 h
theorem J34_10_ok (F : CallH) (M : Nat) : ∀ r h, kcode Tryd.prog F 13 M (Code.sub [] (bodyOf Tryd.prog 34)) r h (KX (fun r h => E34 (r 2) h) (exitsOf []) (fun r h => E34 (r 2) h)) = J34_10 F M (r 0) h :=
  seq_pt (a := (Code.sub [false] (bodyOf Tryd.prog 34))) (b := (Code.sub [true] (bodyOf Tryd.prog 34))) (T := (fun r h => J34_10 F M (r 0) h)) (g := (fun r h => J34_8 F M (r 0) h)) (by kernel_rfl) (J34_9_ok F M) (fun r h => by kernel_rfl)
noncomputable def R34 (F : CallH) (M : Nat) (x0 : Value) (h : AH) : Res := J34_10 F M x0 h
theorem R34_ok (F : CallH) (M : Nat) (x0 : Value) (h : AH) : kfn Tryd.prog F M 34 [x0] h = R34 F M x0 h :=
  (fn_pt (N := 13) (E := (fun r h => E34 (r 2) h)) (T := (fun r h => J34_10 F M (r 0) h)) Tryd.func34 (by kernel_rfl) (by kernel_rfl) (fun r h => by kernel_rfl) (J34_10_ok F M)).trans (by kernel_rfl)
/-! ### 38 strings.genSplit -/
noncomputable def E38 (v8 : Value) (h : AH) : Res := some (v8, h)
noncomputable def J38_0 (F : CallH) (M : Nat) (v0 : Value) (v9 : Value) (v10 : Value) (h : AH) : Res :=
  bindO (xia 1 v9 v10) fun v61 =>
  bindO (xst 1 h v61 v0) fun h1 =>
  bindO (ibin .add v10 (.int .i64 1)) fun v64 =>
  bindO (xsl 1 h1 v9 none (some v64) none) fun v65 =>
  E38 v65 h1
theorem J38_0_ok (F : CallH) (M : Nat) : ∀ r h, kcode Tryd.prog F 66 M (Code.sub [true, true, true, true, true, true, true, true, true] (bodyOf Tryd.prog 38)) r h (KX (fun r h => E38 (r 8) h) (exitsOf []) (fun r h => E38 (r 8) h)) = J38_0 F M (r 0) (r 9) (r 10) h := fun r h => by kernel_rfl
noncomputable def J38_2 (F : CallH) (M : Nat) (L1 : Value → Value → Value → Value → Value → Value → AH → Res) (v0 : Value) (v1 : Value) (v2 : Value) (v3 : Value) (v9 : Value) (v10 : Value) (v11 : Value) (h : AH) : Res :=
  bindO (ibin .add v11 v2) fun v47 =>
  bindO (xslS v0 none (some v47)) fun v48 =>
  bindO (xia 1 v9 v10) fun v49 =>
  bindO (xst 1 h v49 v48) fun h2 =>
  bindO (xlenS v1) fun v53 =>
  bindO (ibin .add v11 v53) fun v54 =>
  bindO (xslS v0 (some v54) none) fun v55 =>
  bindO (ibin .add v10 (.int .i64 1)) fun v57 =>
  L1 v55 v1 v2 v3 v9 v57 h2
theorem J38_2_ok (F : CallH) (M : Nat) (L1 : Value → Value → Value → Value → Value → Value → AH → Res) : ∀ r h, kcode Tryd.prog F 66 M (Code.sub [true, true, true, true, true, true, true, true, false, false, false, true, false, true, true] (bodyOf Tryd.prog 38)) r h (KX (fun r h => L1 (r 0) (r 1) (r 2) (r 3) (r 9) (r 10) h) (exitsOf [(1, (fun r h => L1 (r 0) (r 1) (r 2) (r 3) (r 9) (r 10) h)), (0, (fun r h => J38_0 F M (r 0) (r 9) (r 10) h))]) (fun r h => E38 (r 8) h)) = J38_2 F M L1 (r 0) (r 1) (r 2) (r 3) (r 9) (r 10) (r 11) h := fun r h => by kernel_rfl
noncomputable def J38_3 (F : CallH) (M : Nat) (L1 : Value → Value → Value → Value → Value → Value → AH → Res) (v0 : Value) (v1 : Value) (v2 : Value) (v3 : Value) (v9 : Value) (v10 : Value) (v11 : Value) (h : AH) : Res :=
  bindO (ibin .lss v11 (.int .i64 0)) fun v41 =>
  condO v41 (
  J38_0 F M v0 v9 v10 h) (
  J38_2 F M L1 v0 v1 v2 v3 v9 v10 v11 h)
theorem J38_3_ok (F : CallH) (M : Nat) (L1 : Value → Value → Value → Value → Value → Value → AH → Res) : ∀ r h, kcode Tryd.prog F 66 M (Code.sub [true, true, true, true, true, true, true, true, false, false, false, true, false, true, false] (bodyOf Tryd.prog 38)) r h (KX (fun r h => J38_2 F M L1 (r 0) (r 1) (r 2) (r 3) (r 9) (r 10) (r 11) h) (exitsOf [(1, (fun r h => L1 (r 0) (r 1) (r 2) (r 3) (r 9) (r 10) h)), (0, (fun r h => J38_0 F M (r 0) (r 9) (r 10) h))]) (fun r h => E38 (r 8) h)) = J38_3 F M L1 (r 0) (r 1) (r 2) (r 3) (r 9) (r 10) (r 11) h := fun r h => by kernel_rfl
theorem J38_4_ok (F : CallH) (M : Nat) (L1 : Value → Value → Value → Value → Value → Value → AH → Res) : ∀ r h, kcode Tryd.prog F 66 M (Code.sub [true, true, true, true, true, true, true, true, false, false, false, true, false, true] (bodyOf Tryd.prog 38)) r h (KX (fun r h => L1 (r 0) (r 1) (r 2) (r 3) (r 9) (r 10) h) (exitsOf [(1, (fun r h => L1 (r 0) (r 1) (r 2) (r 3) (r 9) (r 10) h)), (0, (fun r h => J38_0 F M (r 0) (r 9) (r 10) h))]) (fun r h => E38 (r 8) h)) = J38_3 F M L1 (r 0) (r 1) (r 2) (r 3) (r 9) (r 10) (r 11) h :=
  seq_pt (a := (Code.sub [true, true, true, true, true, true, true, true, false, false, false, true, false, true, false] (bodyOf Tryd.prog 38))) (b := (Code.sub [true, true, true, true, true, true, true, true, false, false, false, true, false, true, true] (bodyOf Tryd.prog 38))) (T := (fun r h => J38_3 F M L1 (r 0) (r 1) (r 2) (r 3) (r 9) (r 10) (r 11) h)) (g := (fun r h => J38_2 F M L1 (r 0) (r 1) (r 2) (r 3) (r 9) (r 10) (r 11) h)) (by kernel_rfl) (J38_2_ok F M L1) (J38_3_ok F M L1)
noncomputable def J38_5 (F : CallH) (M : Nat) (L1 : Value → Value → Value → Value → Value → Value → AH → Res) (v0 : Value) (v1 : Value) (v2 : Value) (v3 : Value) (v9 : Value) (v10 : Value) (h : AH) : Res :=
  bindO (F 55 [v0, v1] h) fun pv39 =>
  J38_3 F M L1 v0 v1 v2 v3 v9 v10 pv39.1 pv39.2
theorem J38_5_ok (F : CallH) (M : Nat) (L1 : Value → Value → Value → Value → Value → Value → AH → Res) : ∀ r h, kcode Tryd.prog F 66 M (Code.sub [true, true, true, true, true, true, true, true, false, false, false, true, false] (bodyOf Tryd.prog 38)) r h (KX (fun r h => L1 (r 0) (r 1) (r 2) (r 3) (r 9) (r 10) h) (exitsOf [(1, (fun r h => L1 (r 0) (r 1) (r 2) (r 3) (r 9) (r 10) h)), (0, (fun r h => J38_0 F M (r 0) (r 9) (r 10) h))]) (fun r h => E38 (r 8) h)) = J38_5 F M L1 (r 0) (r 1) (r 2) (r 3) (r 9) (r 10) h :=
  seq_pt (a := (Code.sub [true, true, true, true, true, true, true, true, false, false, false, true, false, false] (bodyOf Tryd.prog 38))) (b := (Code.sub [true, true, true, true, true, true, true, true, false, false, false, true, false, true] (bodyOf Tryd.prog 38))) (T := (fun r h => J38_5 F M L1 (r 0) (r 1) (r 2) (r 3) (r 9) (r 10) h)) (g := (fun r h => J38_3 F M L1 (r 0) (r 1) (r 2) (r 3) (r 9) (r 10) (r 11) h)) (by kernel_rfl) (J38_4_ok F M L1) (fun r h => by kernel_rfl)
theorem J38_6_ok (F : CallH) (M : Nat) (L1 : Value → Value → Value → Value → Value → Value → AH → Res) : ∀ r h, kcode Tryd.prog F 66 M (Code.sub [true, true, true, true, true, true, true, true, false, false, false, true] (bodyOf Tryd.prog 38)) r h (KX (fun r h => L1 (r 0) (r 1) (r 2) (r 3) (r 9) (r 10) h) (exitsOf [(0, (fun r h => J38_0 F M (r 0) (r 9) (r 10) h))]) (fun r h => E38 (r 8) h)) = J38_5 F M L1 (r 0) (r 1) (r 2) (r 3) (r 9) (r 10) h :=
  block_pt (b := (Code.sub [true, true, true, true, true, true, true, true, false, false, false, true, false] (bodyOf Tryd.prog 38))) (T := (fun r h => J38_5 F M L1 (r 0) (r 1) (r 2) (r 3) (r 9) (r 10) h)) (id := 1) (by kernel_rfl) (J38_5_ok F M L1)
noncomputable def J38_7 (F : CallH) (M : Nat) (L1 : Value → Value → Value → Value → Value → Value → AH → Res) (v0 : Value) (v1 : Value) (v2 : Value) (v3 : Value) (v9 : Value) (v10 : Value) (h : AH) : Res :=
  bindO (ibin .lss v10 v3) fun v36 =>
  condO v36 (
  J38_5 F M L1 v0 v1 v2 v3 v9 v10 h) (
  J38_0 F M v0 v9 v10 h)
theorem J38_7_ok (F : CallH) (M : Nat) (L1 : Value → Value → Value → Value → Value → Value → AH → Res) : ∀ r h, kcode Tryd.prog F 66 M (Code.sub [true, true, true, true, true, true, true, true, false, false, false, false] (bodyOf Tryd.prog 38)) r h (KX (fun r h => J38_5 F M L1 (r 0) (r 1) (r 2) (r 3) (r 9) (r 10) h) (exitsOf [(0, (fun r h => J38_0 F M (r 0) (r 9) (r 10) h))]) (fun r h => E38 (r 8) h)) = J38_7 F M L1 (r 0) (r 1) (r 2) (r 3) (r 9) (r 10) h := fun r h => by kernel_rfl
theorem J38_8_ok (F : CallH) (M : Nat) (L1 : Value → Value → Value → Value → Value → Value → AH → Res) : ∀ r h, kcode Tryd.prog F 66 M (Code.sub [true, true, true, true, true, true, true, true, false, false, false] (bodyOf Tryd.prog 38)) r h (KX (fun r h => L1 (r 0) (r 1) (r 2) (r 3) (r 9) (r 10) h) (exitsOf [(0, (fun r h => J38_0 F M (r 0) (r 9) (r 10) h))]) (fun r h => E38 (r 8) h)) = J38_7 F M L1 (r 0) (r 1) (r 2) (r 3) (r 9) (r 10) h :=
  seq_pt (a := (Code.sub [true, true, true, true, true, true, true, true, false, false, false, false] (bodyOf Tryd.prog 38))) (b := (Code.sub [true, true, true, true, true, true, true, true, false, false, false, true] (bodyOf Tryd.prog 38))) (T := (fun r h => J38_7 F M L1 (r 0) (r 1) (r 2) (r 3) (r 9) (r 10) h)) (g := (fun r h => J38_5 F M L1 (r 0) (r 1) (r 2) (r 3) (r 9) (r 10) h)) (by kernel_rfl) (J38_6_ok F M L1) (J38_7_ok F M L1)
noncomputable def L38_1 (F : CallH) (M : Nat) : Nat → Value → Value → Value → Value → Value → Value → AH → Res
  | 0, _, _, _, _, _, _, _ => none
  | m + 1, v0, v1, v2, v3, v9, v10, h => J38_7 F M (L38_1 F M m) v0 v1 v2 v3 v9 v10 h
theorem L38_1_ok (F : CallH) (M : Nat) : ∀ r h, kcode Tryd.prog F 66 M (Code.sub [true, true, true, true, true, true, true, true, false, false] (bodyOf Tryd.prog 38)) r h (KX (fun r h => J38_0 F M (r 0) (r 9) (r 10) h) (exitsOf [(0, (fun r h => J38_0 F M (r 0) (r 9) (r 10) h))]) (fun r h => E38 (r 8) h)) = L38_1 F M M (r 0) (r 1) (r 2) (r 3) (r 9) (r 10) h :=
  loop_pt (b := (Code.sub [true, true, true, true, true, true, true, true, false, false, false] (bodyOf Tryd.prog 38))) (by kernel_rfl) (fun m r h => L38_1 F M m (r 0) (r 1) (r 2) (r 3) (r 9) (r 10) h) (fun _ _ => rfl) (fun m r h => ((J38_8_ok F M (L38_1 F M m)) r h).trans rfl)
theorem J38_9_ok (F : CallH) (M : Nat) : ∀ r h, kcode Tryd.prog F 66 M (Code.sub [true, true, true, true, true, true, true, true, false] (bodyOf Tryd.prog 38)) r h (KX (fun r h => J38_0 F M (r 0) (r 9) (r 10) h) (exitsOf []) (fun r h => E38 (r 8) h)) = L38_1 F M M (r 0) (r 1) (r 2) (r 3) (r 9) (r 10) h :=
  block_pt (b := (Code.sub [true, true, true, true, true, true, true, true, false, false] (bodyOf Tryd.prog 38))) (T := (fun r h => L38_1 F M M (r 0) (r 1) (r 2) (r 3) (r 9) (r 10) h)) (id := 0) (by kernel_rfl) (L38_1_ok F M)
theorem J38_10_ok (F : CallH) (M : Nat) : ∀ r h, kcode Tryd.prog F 66 M (Code.sub [true, true, true, true, true, true, true, true] (bodyOf Tryd.prog 38)) r h (KX (fun r h => E38 (r 8) h) (exitsOf []) (fun r h => E38 (r 8) h)) = L38_1 F M M (r 0) (r 1) (r 2) (r 3) (r 9) (r 10) h :=
  seq_pt (a := (Code.sub [true, true, true, true, true, true, true, true, false] (bodyOf Tryd.prog 38))) (b := (Code.sub [true, true, true, true, true, true, true, true, true] (bodyOf Tryd.prog 38))) (T := (fun r h => L38_1 F M M (r 0) (r 1) (r 2) (r 3) (r 9) (r 10) h)) (g := (fun r h => J38_0 F M (r 0) (r 9) (r 10) h)) (by kernel_rfl) (J38_0_ok F M) (J38_9_ok F M)
noncomputable def J38_11 (F : CallH) (M : Nat) (v0 : Value) (v1 : Value) (v2 : Value) (v3 : Value) (v9 : Value) (h : AH) : Res :=
  L38_1 F M M v0 v1 v2 v3 v9 (.int .i64 0) h
theorem J38_11_ok (F : CallH) (M : Nat) : ∀ r h, kcode Tryd.prog F 66 M (Code.sub [true, true, true, true, true, true, true] (bodyOf Tryd.prog 38)) r h (KX (fun r h => E38 (r 8) h) (exitsOf []) (fun r h => E38 (r 8) h)) = J38_11 F M (r 0) (r 1) (r 2) (r 3) (r 9) h :=
  seq_pt (a := (Code.sub [true, true, true, true, true, true, true, false] (bodyOf Tryd.prog 38))) (b := (Code.sub [true, true, true, true, true, true, true, true] (bodyOf Tryd.prog 38))) (T := (fun r h => J38_11 F M (r 0) (r 1) (r 2) (r 3) (r 9) h)) (g := (fun r h => L38_1 F M M (r 0) (r 1) (r 2) (r 3) (r 9) (r 10) h)) (by kernel_rfl) (J38_10_ok F M) (fun r h => by kernel_rfl)
noncomputable def J38_12 (F : CallH) (M : Nat) (v0 : Value) (v1 : Value) (v2 : Value) (v3 : Value) (v9 : Value) (h : AH) : Res :=
  bindO (ibin .sub v3 (.int .i64 1)) fun v33 =>
  J38_11 F M v0 v1 v2 v33 v9 h
theorem J38_12_ok (F : CallH) (M : Nat) : ∀ r h, kcode Tryd.prog F 66 M (Code.sub [true, true, true, true, true, true] (bodyOf Tryd.prog 38)) r h (KX (fun r h => E38 (r 8) h) (exitsOf []) (fun r h => E38 (r 8) h)) = J38_12 F M (r 0) (r 1) (r 2) (r 3) (r 9) h :=
  seq_pt (a := (Code.sub [true, true, true, true, true, true, false] (bodyOf Tryd.prog 38))) (b := (Code.sub [true, true, true, true, true, true, true] (bodyOf Tryd.prog 38))) (T := (fun r h => J38_12 F M (r 0) (r 1) (r 2) (r 3) (r 9) h)) (g := (fun r h => J38_11 F M (r 0) (r 1) (r 2) (r 3) (r 9) h)) (by kernel_rfl) (J38_11_ok F M) (fun r h => by kernel_rfl)
noncomputable def J38_13 (F : CallH) (M : Nat) (v0 : Value) (v1 : Value) (v2 : Value) (v3 : Value) (h : AH) : Res :=
  bindO (xmks 1 16 [(str [])] v3 v3) fun v31 => newK h v31.1 fun iv31 h4 =>
  J38_12 F M v0 v1 v2 v3 (slOf iv31 v31.2.1 v31.2.2) h4
theorem J38_13_ok (F : CallH) (M : Nat) : ∀ r h, kcode Tryd.prog F 66 M (Code.sub [true, true, true, true, true] (bodyOf Tryd.prog 38)) r h (KX (fun r h => E38 (r 8) h) (exitsOf []) (fun r h => E38 (r 8) h)) = J38_13 F M (r 0) (r 1) (r 2) (r 3) h :=
  seq_pt (a := (Code.sub [true, true, true, true, true, false] (bodyOf Tryd.prog 38))) (b := (Code.sub [true, true, true, true, true, true] (bodyOf Tryd.prog 38))) (T := (fun r h => J38_13 F M (r 0) (r 1) (r 2) (r 3) h)) (g := (fun r h => J38_12 F M (r 0) (r 1) (r 2) (r 3) (r 9) h)) (by kernel_rfl) (J38_12_ok F M) (fun r h => by kernel_rfl)
noncomputable def J38_14 (F : CallH) (M : Nat) (v0 : Value) (v1 : Value) (v2 : Value) (v3 : Value) (h : AH) : Res :=
  bindO (xlenS v0) fun v27 =>
  bindO (ibin .add v27 (.int .i64 1)) fun v28 =>
  bindO (xmm false v3 v28) fun v29 =>
  J38_13 F M v0 v1 v2 v29 h
theorem J38_14_ok (F : CallH) (M : Nat) : ∀ r h, kcode Tryd.prog F 66 M (Code.sub [true, true, true, true] (bodyOf Tryd.prog 38)) r h (KX (fun r h => E38 (r 8) h) (exitsOf []) (fun r h => E38 (r 8) h)) = J38_14 F M (r 0) (r 1) (r 2) (r 3) h :=
  seq_pt (a := (Code.sub [true, true, true, true, false] (bodyOf Tryd.prog 38))) (b := (Code.sub [true, true, true, true, true] (bodyOf Tryd.prog 38))) (T := (fun r h => J38_14 F M (r 0) (r 1) (r 2) (r 3) h)) (g := (fun r h => J38_13 F M (r 0) (r 1) (r 2) (r 3) h)) (by kernel_rfl) (J38_13_ok F M) (fun r h => by kernel_rfl)
noncomputable def J38_15 (F : CallH) (M : Nat) (v0 : Value) (v1 : Value) (v2 : Value) (v3 : Value) (h : AH) : Res :=
  bindO (ibin .lss v3 (.int .i64 0)) fun v20 =>
  condO v20 (
  bindO (F 54 [v0, v1] h) fun pv23 =>
  bindO (ibin .add pv23.1 (.int .i64 1)) fun v24 =>
  J38_14 F M v0 v1 v2 v24 pv23.2) (
  J38_14 F M v0 v1 v2 v3 h)
theorem J38_15_ok (F : CallH) (M : Nat) : ∀ r h, kcode Tryd.prog F 66 M (Code.sub [true, true, true, false] (bodyOf Tryd.prog 38)) r h (KX (fun r h => J38_14 F M (r 0) (r 1) (r 2) (r 3) h) (exitsOf []) (fun r h => E38 (r 8) h)) = J38_15 F M (r 0) (r 1) (r 2) (r 3) h := fun r h => by kernel_rfl
theorem J38_16_ok (F : CallH) (M : Nat) : ∀ r h, kcode Tryd.prog F 66 M (Code.sub [true, true, true] (bodyOf Tryd.prog 38)) r h (KX (fun r h => E38 (r 8) h) (exitsOf []) (fun r h => E38 (r 8) h)) = J38_15 F M (r 0) (r 1) (r 2) (r 3) h :=
  seq_pt (a := (Code.sub [true, true, true, false] (bodyOf Tryd.prog 38))) (b := (Code.sub [true, true, true, true] (bodyOf Tryd.prog 38))) (T := (fun r h => J38_15 F M (r 0) (r 1) (r 2) (r 3) h)) (g := (fun r h => J38_14 F M (r 0) (r 1) (r 2) (r 3) h)) (by kernel_rfl) (J38_14_ok F M) (J38_15_ok F M)
noncomputable def J38_17 (F : CallH) (M : Nat) (v0 : Value) (v1 : Value) (v2 : Value) (v3 : Value) (h : AH) : Res :=
  bindO (sbin .eql v1 (str [])) fun v15 =>
  condO v15 (
  bindO (F 53 [v0, v3] h) fun pv18 =>
  E38 pv18.1 pv18.2) (
  J38_15 F M v0 v1 v2 v3 h)
theorem J38_17_ok (F : CallH) (M : Nat) : ∀ r h, kcode Tryd.prog F 66 M (Code.sub [true, true, false] (bodyOf Tryd.prog 38)) r h (KX (fun r h => J38_15 F M (r 0) (r 1) (r 2) (r 3) h) (exitsOf []) (fun r h => E38 (r 8) h)) = J38_17 F M (r 0) (r 1) (r 2) (r 3) h := fun r h => by kernel_rfl
theorem J38_18_ok (F : CallH) (M : Nat) : ∀ r h, kcode Tryd.prog F 66 M (Code.sub [true, true] (bodyOf Tryd.prog 38)) r h (KX (fun r h => E38 (r 8) h) (exitsOf []) (fun r h => E38 (r 8) h)) = J38_17 F M (r 0) (r 1) (r 2) (r 3) h :=
  seq_pt (a := (Code.sub [true, true, false] (bodyOf Tryd.prog 38))) (b := (Code.sub [true, true, true] (bodyOf Tryd.prog 38))) (T := (fun r h => J38_17 F M (r 0) (r 1) (r 2) (r 3) h)) (g := (fun r h => J38_15 F M (r 0) (r 1) (r 2) (r 3) h)) (by kernel_rfl) (J38_16_ok F M) (J38_17_ok F M)
noncomputable def J38_19 (F : CallH) (M : Nat) (v0 : Value) (v1 : Value) (v2 : Value) (v3 : Value) (h : AH) : Res :=
  bindO (ibin .eql v3 (.int .i64 0)) fun v13 =>
  condO v13 (
  E38 (.slice none 0 0) h) (
  J38_17 F M v0 v1 v2 v3 h)
theorem J38_19_ok (F : CallH) (M : Nat) : ∀ r h, kcode Tryd.prog F 66 M (Code.sub [true, false] (bodyOf Tryd.prog 38)) r h (KX (fun r h => J38_17 F M (r 0) (r 1) (r 2) (r 3) h) (exitsOf []) (fun r h => E38 (r 8) h)) = J38_19 F M (r 0) (r 1) (r 2) (r 3) h := fun r h => by kernel_rfl
theorem J38_20_ok (F : CallH) (M : Nat) : ∀ r h, kcode Tryd.prog F 66 M (Code.sub [true] (bodyOf Tryd.prog 38)) r h (KX (fun r h => E38 (r 8) h) (exitsOf []) (fun r h => E38 (r 8) h)) = J38_19 F M (r 0) (r 1) (r 2) (r 3) h :=
  seq_pt (a := (Code.sub [true, false] (bodyOf Tryd.prog 38))) (b := (Code.sub [true, true] (bodyOf Tryd.prog 38))) (T := (fun r h => J38_19 F M (r 0) (r 1) (r 2) (r 3) h)) (g := (fun r h => J38_17 F M (r 0) (r 1) (r 2) (r 3) h)) (by kernel_rfl) (J38_18_ok F M) (J38_19_ok F M)
noncomputable def J38_21 (F : CallH) (M : Nat) (v0 : Value) (v1 : Value) (v2 : Value) (v3 : Value) (h : AH) : Res :=
  J38_19 F M v0 v1 v2 v3 h
theorem J38_21_ok (F : CallH) (M : Nat) : ∀ r h, kcode Tryd.prog F 66 M (Code.sub [] (bodyOf Tryd.prog 38)) r h (KX (fun r h => E38 (r 8) h) (exitsOf []) (fun r h => E38 (r 8) h)) = J38_21 F M (r 0) (r 1) (r 2) (r 3) h :=
  seq_pt (a := (Code.sub [false] (bodyOf Tryd.prog 38))) (b := (Code.sub [true] (bodyOf Tryd.prog 38))) (T := (fun r h => J38_21 F M (r 0) (r 1) (r 2) (r 3) h)) (g := (fun r h => J38_19 F M (r 0) (r 1) (r 2) (r 3) h)) (by kernel_rfl) (J38_20_ok F M) (fun r h => by kernel_rfl)
noncomputable def R38 (F : CallH) (M : Nat) (x0 x1 x2 x3 : Value) (h : AH) : Res := J38_21 F M x0 x1 x2 x3 h
theorem R38_ok (F : CallH) (M : Nat) (x0 x1 x2 x3 : Value) (h : AH) : kfn Tryd.prog F M 38 [x0, x1, x2, x3] h = R38 F M x0 x1 x2 x3 h :=
  (fn_pt (N := 66) (E := (fun r h => E38 (r 8) h)) (T := (fun r h => J38_21 F M (r 0) (r 1) (r 2) (r 3) h)) Tryd.func38 (by kernel_rfl) (by kernel_rfl) (fun r h => by kernel_rfl) (J38_21_ok F M)).trans (by kernel_rfl)
/-! ### 42 strconv.Atoi -/
noncomputable def E42 (v2 : Value) (v3 : Value) (h : AH) : Res := some ((.tuple #[v2, v3]), h)
noncomputable def J42_0 (F : CallH) (M : Nat) (v4 : Value) (h : AH) : Res :=
  E42 v4 .nilIface h
theorem J42_0_ok (F : CallH) (M : Nat) : ∀ r h, kcode Tryd.prog F 18 M (Code.sub [true, true, true] (bodyOf Tryd.prog 42)) r h (KX (fun r h => E42 (r 2) (r 3) h) (exitsOf []) (fun r h => E42 (r 2) (r 3) h)) = J42_0 F M (r 4) h := fun r h => by kernel_rfl
noncomputable def J42_1 (F : CallH) (M : Nat) (v0 : Value) (v4 : Value) (v5 : Value) (h : AH) : Res :=
  bindO (xnilI .neq v5) fun v12 =>
  condO v12 (
  bindO (F 59 [(str [65, 116, 111, 105]), v0, (.int .i64 0), (.int .i64 0), v5] h) fun pv16 =>
  E42 v4 pv16.1 pv16.2) (
  J42_0 F M v4 h)
theorem J42_1_ok (F : CallH) (M : Nat) : ∀ r h, kcode Tryd.prog F 18 M (Code.sub [true, true, false] (bodyOf Tryd.prog 42)) r h (KX (fun r h => J42_0 F M (r 4) h) (exitsOf []) (fun r h => E42 (r 2) (r 3) h)) = J42_1 F M (r 0) (r 4) (r 5) h := fun r h => by kernel_rfl
theorem J42_2_ok (F : CallH) (M : Nat) : ∀ r h, kcode Tryd.prog F 18 M (Code.sub [true, true] (bodyOf Tryd.prog 42)) r h (KX (fun r h => E42 (r 2) (r 3) h) (exitsOf []) (fun r h => E42 (r 2) (r 3) h)) = J42_1 F M (r 0) (r 4) (r 5) h :=
  seq_pt (a := (Code.sub [true, true, false] (bodyOf Tryd.prog 42))) (b := (Code.sub [true, true, true] (bodyOf Tryd.prog 42))) (T := (fun r h => J42_1 F M (r 0) (r 4) (r 5) h)) (g := (fun r h => J42_0 F M (r 4) h)) (by kernel_rfl) (J42_0_ok F M) (J42_1_ok F M)
noncomputable def J42_3 (F : CallH) (M : Nat) (v0 : Value) (h : AH) : Res :=
  bindO (F 58 [v0] h) fun pv8 =>
  bindO (xext 0 pv8.1) fun v9 =>
  bindO (xext 1 pv8.1) fun v10 =>
  J42_1 F M v0 v9 v10 pv8.2
theorem J42_3_ok (F : CallH) (M : Nat) : ∀ r h, kcode Tryd.prog F 18 M (Code.sub [true] (bodyOf Tryd.prog 42)) r h (KX (fun r h => E42 (r 2) (r 3) h) (exitsOf []) (fun r h => E42 (r 2) (r 3) h)) = J42_3 F M (r 0) h :=
  seq_pt (a := (Code.sub [true, false] (bodyOf Tryd.prog 42))) (b := (Code.sub [true, true] (bodyOf Tryd.prog 42))) (T := (fun r h => J42_3 F M (r 0) h)) (g := (fun r h => J42_1 F M (r 0) (r 4) (r 5) h)) (by kernel_rfl) (J42_2_ok F M) (fun r h => by kernel_rfl)
noncomputable def J42_4 (F : CallH) (M : Nat) (v0 : Value) (h : AH) : Res :=
  J42_3 F M v0 h
theorem J42_4_ok (F : CallH) (M : Nat) : ∀ r h, kcode Tryd.prog F 18 M (Code.sub [] (bodyOf Tryd.prog 42)) r h (KX (fun r h => E42 (r 2) (r 3) h) (exitsOf []) (fun r h => E42 (r 2) (r 3) h)) = J42_4 F M (r 0) h :=
  seq_pt (a := (Code.sub [false] (bodyOf Tryd.prog 42))) (b := (Code.sub [true] (bodyOf Tryd.prog 42))) (T := (fun r h => J42_4 F M (r 0) h)) (g := (fun r h => J42_3 F M (r 0) h)) (by kernel_rfl) (J42_3_ok F M) (fun r h => by kernel_rfl)
noncomputable def R42 (F : CallH) (M : Nat) (x0 : Value) (h : AH) : Res := J42_4 F M x0 h
theorem R42_ok (F : CallH) (M : Nat) (x0 : Value) (h : AH) : kfn Tryd.prog F M 42 [x0] h = R42 F M x0 h :=
  (fn_pt (N := 18) (E := (fun r h => E42 (r 2) (r 3) h)) (T := (fun r h => J42_4 F M (r 0) h)) Tryd.func42 (by kernel_rfl) (by kernel_rfl) (fun r h => by kernel_rfl) (J42_4_ok F M)).trans (by kernel_rfl)
/-! ### 46 turnkey/code.fits$1 -/
noncomputable def E46 (v2 : Value) (h : AH) : Res := some (v2, h)
noncomputable def J46_0 (F : CallH) (M : Nat) (v0 : Value) (h : AH) : Res :=
  bindO (ibin .neq v0 (.int .i64 0)) fun v4 =>
  E46 v4 h
theorem J46_0_ok (F : CallH) (M : Nat) : ∀ r h, kcode Tryd.prog F 5 M (Code.sub [] (bodyOf Tryd.prog 46)) r h (KX (fun r h => E46 (r 2) h) (exitsOf []) (fun r h => E46 (r 2) h)) = J46_0 F M (r 0) h := fun r h => by kernel_rfl
noncomputable def R46 (F : CallH) (M : Nat) (x0 : Value) (h : AH) : Res := J46_0 F M x0 h
theorem R46_ok (F : CallH) (M : Nat) (x0 : Value) (h : AH) : kfn Tryd.prog F M 46 [x0] h = R46 F M x0 h :=
  (fn_pt (N := 5) (E := (fun r h => E46 (r 2) h)) (T := (fun r h => J46_0 F M (r 0) h)) Tryd.func46 (by kernel_rfl) (by kernel_rfl) (fun r h => by kernel_rfl) (J46_0_ok F M)).trans (by kernel_rfl)
/-! ### 50 slices.Contains[[]string,string] -/
noncomputable def E50 (v4 : Value) (h : AH) : Res := some (v4, h)
noncomputable def J50_0 (F : CallH) (M : Nat) (v0 : Value) (v1 : Value) (h : AH) : Res :=
  bindO (F 35 [v0, v1] h) fun pv7 =>
  bindO (ibin .geq pv7.1 (.int .i64 0)) fun v8 =>
  E50 v8 pv7.2
theorem J50_0_ok (F : CallH) (M : Nat) : ∀ r h, kcode Tryd.prog F 9 M (Code.sub [] (bodyOf Tryd.prog 50)) r h (KX (fun r h => E50 (r 4) h) (exitsOf []) (fun r h => E50 (r 4) h)) = J50_0 F M (r 0) (r 1) h := fun r h => by kernel_rfl
noncomputable def R50 (F : CallH) (M : Nat) (x0 x1 : Value) (h : AH) : Res := J50_0 F M x0 x1 h
theorem R50_ok (F : CallH) (M : Nat) (x0 x1 : Value) (h : AH) : kfn Tryd.prog F M 50 [x0, x1] h = R50 F M x0 x1 h :=
  (fn_pt (N := 9) (E := (fun r h => E50 (r 4) h)) (T := (fun r h => J50_0 F M (r 0) (r 1) h)) Tryd.func50 (by kernel_rfl) (by kernel_rfl) (fun r h => by kernel_rfl) (J50_0_ok F M)).trans (by kernel_rfl)
/-! ### 54 strings.Count -/
noncomputable def E54 (v4 : Value) (h : AH) : Res := some (v4, h)
noncomputable def J54_1 (F : CallH) (M : Nat) (L0 : Value → Value → Value → AH → Res) (v0 : Value) (v1 : Value) (v5 : Value) (v6 : Value) (h : AH) : Res :=
  bindO (ibin .add v5 (.int .i64 1)) fun v27 =>
  bindO (xlenS v1) fun v31 =>
  bindO (ibin .add v6 v31) fun v32 =>
  bindO (xslS v0 (some v32) none) fun v33 =>
  L0 v33 v1 v27 h
theorem J54_1_ok (F : CallH) (M : Nat) (L0 : Value → Value → Value → AH → Res) : ∀ r h, kcode Tryd.prog F 34 M (Code.sub [true, true, true, true, false, false, false, true, true] (bodyOf Tryd.prog 54)) r h (KX (fun r h => L0 (r 0) (r 1) (r 5) h) (exitsOf [(1, (fun r h => L0 (r 0) (r 1) (r 5) h)), (0, (fun r h => E54 (r 4) h))]) (fun r h => E54 (r 4) h)) = J54_1 F M L0 (r 0) (r 1) (r 5) (r 6) h := fun r h => by kernel_rfl
noncomputable def J54_2 (F : CallH) (M : Nat) (L0 : Value → Value → Value → AH → Res) (v0 : Value) (v1 : Value) (v5 : Value) (v6 : Value) (h : AH) : Res :=
  bindO (ibin .eql v6 (.int .i64 (-1))) fun v24 =>
  condO v24 (
  E54 v5 h) (
  J54_1 F M L0 v0 v1 v5 v6 h)
theorem J54_2_ok (F : CallH) (M : Nat) (L0 : Value → Value → Value → AH → Res) : ∀ r h, kcode Tryd.prog F 34 M (Code.sub [true, true, true, true, false, false, false, true, false] (bodyOf Tryd.prog 54)) r h (KX (fun r h => J54_1 F M L0 (r 0) (r 1) (r 5) (r 6) h) (exitsOf [(1, (fun r h => L0 (r 0) (r 1) (r 5) h)), (0, (fun r h => E54 (r 4) h))]) (fun r h => E54 (r 4) h)) = J54_2 F M L0 (r 0) (r 1) (r 5) (r 6) h := fun r h => by kernel_rfl
theorem J54_3_ok (F : CallH) (M : Nat) (L0 : Value → Value → Value → AH → Res) : ∀ r h, kcode Tryd.prog F 34 M (Code.sub [true, true, true, true, false, false, false, true] (bodyOf Tryd.prog 54)) r h (KX (fun r h => L0 (r 0) (r 1) (r 5) h) (exitsOf [(1, (fun r h => L0 (r 0) (r 1) (r 5) h)), (0, (fun r h => E54 (r 4) h))]) (fun r h => E54 (r 4) h)) = J54_2 F M L0 (r 0) (r 1) (r 5) (r 6) h :=
  seq_pt (a := (Code.sub [true, true, true, true, false, false, false, true, false] (bodyOf Tryd.prog 54))) (b := (Code.sub [true, true, true, true, false, false, false, true, true] (bodyOf Tryd.prog 54))) (T := (fun r h => J54_2 F M L0 (r 0) (r 1) (r 5) (r 6) h)) (g := (fun r h => J54_1 F M L0 (r 0) (r 1) (r 5) (r 6) h)) (by kernel_rfl) (J54_1_ok F M L0) (J54_2_ok F M L0)
noncomputable def J54_4 (F : CallH) (M : Nat) (L0 : Value → Value → Value → AH → Res) (v0 : Value) (v1 : Value) (v5 : Value) (h : AH) : Res :=
  bindO (F 55 [v0, v1] h) fun pv22 =>
  J54_2 F M L0 v0 v1 v5 pv22.1 pv22.2
theorem J54_4_ok (F : CallH) (M : Nat) (L0 : Value → Value → Value → AH → Res) : ∀ r h, kcode Tryd.prog F 34 M (Code.sub [true, true, true, true, false, false, false] (bodyOf Tryd.prog 54)) r h (KX (fun r h => L0 (r 0) (r 1) (r 5) h) (exitsOf [(1, (fun r h => L0 (r 0) (r 1) (r 5) h)), (0, (fun r h => E54 (r 4) h))]) (fun r h => E54 (r 4) h)) = J54_4 F M L0 (r 0) (r 1) (r 5) h :=
  seq_pt (a := (Code.sub [true, true, true, true, false, false, false, false] (bodyOf Tryd.prog 54))) (b := (Code.sub [true, true, true, true, false, false, false, true] (bodyOf Tryd.prog 54))) (T := (fun r h => J54_4 F M L0 (r 0) (r 1) (r 5) h)) (g := (fun r h => J54_2 F M L0 (r 0) (r 1) (r 5) (r 6) h)) (by kernel_rfl) (J54_3_ok F M L0) (fun r h => by kernel_rfl)
theorem J54_5_ok (F : CallH) (M : Nat) (L0 : Value → Value → Value → AH → Res) : ∀ r h, kcode Tryd.prog F 34 M (Code.sub [true, true, true, true, false, false] (bodyOf Tryd.prog 54)) r h (KX (fun r h => L0 (r 0) (r 1) (r 5) h) (exitsOf [(0, (fun r h => E54 (r 4) h))]) (fun r h => E54 (r 4) h)) = J54_4 F M L0 (r 0) (r 1) (r 5) h :=
  block_pt (b := (Code.sub [true, true, true, true, false, false, false] (bodyOf Tryd.prog 54))) (T := (fun r h => J54_4 F M L0 (r 0) (r 1) (r 5) h)) (id := 1) (by kernel_rfl) (J54_4_ok F M L0)
noncomputable def L54_0 (F : CallH) (M : Nat) : Nat → Value → Value → Value → AH → Res
  | 0, _, _, _, _ => none
  | m + 1, v0, v1, v5, h => J54_4 F M (L54_0 F M m) v0 v1 v5 h
theorem L54_0_ok (F : CallH) (M : Nat) : ∀ r h, kcode Tryd.prog F 34 M (Code.sub [true, true, true, true, false] (bodyOf Tryd.prog 54)) r h (KX (fun r h => E54 (r 4) h) (exitsOf [(0, (fun r h => E54 (r 4) h))]) (fun r h => E54 (r 4) h)) = L54_0 F M M (r 0) (r 1) (r 5) h :=
  loop_pt (b := (Code.sub [true, true, true, true, false, false] (bodyOf Tryd.prog 54))) (by kernel_rfl) (fun m r h => L54_0 F M m (r 0) (r 1) (r 5) h) (fun _ _ => rfl) (fun m r h => ((J54_5_ok F M (L54_0 F M m)) r h).trans rfl)
theorem J54_6_ok (F : CallH) (M : Nat) : ∀ r h, kcode Tryd.prog F 34 M (Code.sub [true, true, true, true] (bodyOf Tryd.prog 54)) r h (KX (fun r h => E54 (r 4) h) (exitsOf []) (fun r h => E54 (r 4) h)) = L54_0 F M M (r 0) (r 1) (r 5) h :=
  block_pt (b := (Code.sub [true, true, true, true, false] (bodyOf Tryd.prog 54))) (T := (fun r h => L54_0 F M M (r 0) (r 1) (r 5) h)) (id := 0) (by kernel_rfl) (L54_0_ok F M)
noncomputable def J54_7 (F : CallH) (M : Nat) (v0 : Value) (v1 : Value) (h : AH) : Res :=
  L54_0 F M M v0 v1 (.int .i64 0) h
theorem J54_7_ok (F : CallH) (M : Nat) : ∀ r h, kcode Tryd.prog F 34 M (Code.sub [true, true, true] (bodyOf Tryd.prog 54)) r h (KX (fun r h => E54 (r 4) h) (exitsOf []) (fun r h => E54 (r 4) h)) = J54_7 F M (r 0) (r 1) h :=
  seq_pt (a := (Code.sub [true, true, true, false] (bodyOf Tryd.prog 54))) (b := (Code.sub [true, true, true, true] (bodyOf Tryd.prog 54))) (T := (fun r h => J54_7 F M (r 0) (r 1) h)) (g := (fun r h => L54_0 F M M (r 0) (r 1) (r 5) h)) (by kernel_rfl) (J54_6_ok F M) (fun r h => by kernel_rfl)
noncomputable def J54_8 (F : CallH) (M : Nat) (v0 : Value) (v1 : Value) (h : AH) : Res :=
  bindO (xlenS v1) fun v14 =>
  bindO (ibin .eql v14 (.int .i64 1)) fun v15 =>
  condO v15 (
  bindO (ixS v1 (.int .i64 0)) fun v18 =>
  bindO (F 65 [v0, v18] h) fun pv19 =>
  E54 pv19.1 pv19.2) (
  J54_7 F M v0 v1 h)
theorem J54_8_ok (F : CallH) (M : Nat) : ∀ r h, kcode Tryd.prog F 34 M (Code.sub [true, true, false] (bodyOf Tryd.prog 54)) r h (KX (fun r h => J54_7 F M (r 0) (r 1) h) (exitsOf []) (fun r h => E54 (r 4) h)) = J54_8 F M (r 0) (r 1) h := fun r h => by kernel_rfl
theorem J54_9_ok (F : CallH) (M : Nat) : ∀ r h, kcode Tryd.prog F 34 M (Code.sub [true, true] (bodyOf Tryd.prog 54)) r h (KX (fun r h => E54 (r 4) h) (exitsOf []) (fun r h => E54 (r 4) h)) = J54_8 F M (r 0) (r 1) h :=
  seq_pt (a := (Code.sub [true, true, false] (bodyOf Tryd.prog 54))) (b := (Code.sub [true, true, true] (bodyOf Tryd.prog 54))) (T := (fun r h => J54_8 F M (r 0) (r 1) h)) (g := (fun r h => J54_7 F M (r 0) (r 1) h)) (by kernel_rfl) (J54_7_ok F M) (J54_8_ok F M)
noncomputable def J54_10 (F : CallH) (M : Nat) (v0 : Value) (v1 : Value) (h : AH) : Res :=
  bindO (xlenS v1) fun v8 =>
  bindO (ibin .eql v8 (.int .i64 0)) fun v9 =>
  condO v9 (
  bindO (F 63 [v0] h) fun pv11 =>
  bindO (ibin .add pv11.1 (.int .i64 1)) fun v12 =>
  E54 v12 pv11.2) (
  J54_8 F M v0 v1 h)
theorem J54_10_ok (F : CallH) (M : Nat) : ∀ r h, kcode Tryd.prog F 34 M (Code.sub [true, false] (bodyOf Tryd.prog 54)) r h (KX (fun r h => J54_8 F M (r 0) (r 1) h) (exitsOf []) (fun r h => E54 (r 4) h)) = J54_10 F M (r 0) (r 1) h := fun r h => by kernel_rfl
theorem J54_11_ok (F : CallH) (M : Nat) : ∀ r h, kcode Tryd.prog F 34 M (Code.sub [true] (bodyOf Tryd.prog 54)) r h (KX (fun r h => E54 (r 4) h) (exitsOf []) (fun r h => E54 (r 4) h)) = J54_10 F M (r 0) (r 1) h :=
  seq_pt (a := (Code.sub [true, false] (bodyOf Tryd.prog 54))) (b := (Code.sub [true, true] (bodyOf Tryd.prog 54))) (T := (fun r h => J54_10 F M (r 0) (r 1) h)) (g := (fun r h => J54_8 F M (r 0) (r 1) h)) (by kernel_rfl) (J54_9_ok F M) (J54_10_ok F M)
noncomputable def J54_12 (F : CallH) (M : Nat) (v0 : Value) (v1 : Value) (h : AH) : Res :=
  J54_10 F M v0 v1 h
theorem J54_12_ok (F : CallH) (M : Nat) : ∀ r h, kcode Tryd.prog F 34 M (Code.sub [] (bodyOf Tryd.prog 54)) r h (KX (fun r h => E54 (r 4) h) (exitsOf []) (fun r h => E54 (r 4) h)) = J54_12 F M (r 0) (r 1) h :=
  seq_pt (a := (Code.sub [false] (bodyOf Tryd.prog 54))) (b := (Code.sub [true] (bodyOf Tryd.prog 54))) (T := (fun r h => J54_12 F M (r 0) (r 1) h)) (g := (fun r h => J54_10 F M (r 0) (r 1) h)) (by kernel_rfl) (J54_11_ok F M) (fun r h => by kernel_rfl)
noncomputable def R54 (F : CallH) (M : Nat) (x0 x1 : Value) (h : AH) : Res := J54_12 F M x0 x1 h
theorem R54_ok (F : CallH) (M : Nat) (x0 x1 : Value) (h : AH) : kfn Tryd.prog F M 54 [x0, x1] h = R54 F M x0 x1 h :=
  (fn_pt (N := 34) (E := (fun r h => E54 (r 4) h)) (T := (fun r h => J54_12 F M (r 0) (r 1) h)) Tryd.func54 (by kernel_rfl) (by kernel_rfl) (fun r h => by kernel_rfl) (J54_12_ok F M)).trans (by kernel_rfl)
/-! ### 58 internal/strconv.Atoi -/
noncomputable def E58 (v2 : Value) (v3 : Value) (h : AH) : Res := some ((.tuple #[v2, v3]), h)
noncomputable def J58_0 (F : CallH) (M : Nat) (v0 : Value) (h : AH) : Res :=
  bindO (F 68 [v0, (.int .i64 10), (.int .i64 0)] h) fun pv72 =>
  bindO (xext 0 pv72.1) fun v73 =>
  bindO (xext 1 pv72.1) fun v74 =>
  E58 v73 v74 pv72.2
theorem J58_0_ok (F : CallH) (M : Nat) : ∀ r h, kcode Tryd.prog F 77 M (Code.sub [true, true, true] (bodyOf Tryd.prog 58)) r h (KX (fun r h => E58 (r 2) (r 3) h) (exitsOf []) (fun r h => E58 (r 2) (r 3) h)) = J58_0 F M (r 0) h := fun r h => by kernel_rfl
noncomputable def J58_1 (F : CallH) (M : Nat) (v6 : Value) (h : AH) : Res :=
  E58 v6 .nilIface h
theorem J58_1_ok (F : CallH) (M : Nat) : ∀ r h, kcode Tryd.prog F 77 M (Code.sub [true, true, false, true, false, true, true, true, true, true] (bodyOf Tryd.prog 58)) r h (KX (fun r h => J58_0 F M (r 0) h) (exitsOf []) (fun r h => E58 (r 2) (r 3) h)) = J58_1 F M (r 6) h := fun r h => by kernel_rfl
noncomputable def J58_2 (F : CallH) (M : Nat) (v5 : Value) (v6 : Value) (h : AH) : Res :=
  bindO (ixS v5 (.int .i64 0)) fun v65 =>
  bindO (ibin .eql v65 (.int .u8 45)) fun v66 =>
  condO v66 (
  bindO (xneg v6) fun v68 =>
  J58_1 F M v68 h) (
  J58_1 F M v6 h)
theorem J58_2_ok (F : CallH) (M : Nat) : ∀ r h, kcode Tryd.prog F 77 M (Code.sub [true, true, false, true, false, true, true, true, true, false] (bodyOf Tryd.prog 58)) r h (KX (fun r h => J58_1 F M (r 6) h) (exitsOf []) (fun r h => E58 (r 2) (r 3) h)) = J58_2 F M (r 5) (r 6) h := fun r h => by kernel_rfl
theorem J58_3_ok (F : CallH) (M : Nat) : ∀ r h, kcode Tryd.prog F 77 M (Code.sub [true, true, false, true, false, true, true, true, true] (bodyOf Tryd.prog 58)) r h (KX (fun r h => J58_0 F M (r 0) h) (exitsOf []) (fun r h => E58 (r 2) (r 3) h)) = J58_2 F M (r 5) (r 6) h :=
  seq_pt (a := (Code.sub [true, true, false, true, false, true, true, true, true, false] (bodyOf Tryd.prog 58))) (b := (Code.sub [true, true, false, true, false, true, true, true, true, true] (bodyOf Tryd.prog 58))) (T := (fun r h => J58_2 F M (r 5) (r 6) h)) (g := (fun r h => J58_1 F M (r 6) h)) (by kernel_rfl) (J58_1_ok F M) (J58_2_ok F M)
noncomputable def J58_5 (F : CallH) (M : Nat) (L4 : Value → Value → Value → Value → Value → AH → Res) (v5 : Value) (v6 : Value) (v47 : Value) (v48 : Value) (v49 : Value) (h : AH) : Res :=
  bindO (ibin .add v49 (.int .i64 1)) fun v63 =>
  L4 v5 v6 v47 v48 v63 h
theorem J58_5_ok (F : CallH) (M : Nat) (L4 : Value → Value → Value → Value → Value → AH → Res) : ∀ r h, kcode Tryd.prog F 77 M (Code.sub [true, true, false, true, false, true, true, true, false, true, false, false, true, true, true] (bodyOf Tryd.prog 58)) r h (KX (fun r h => L4 (r 5) (r 6) (r 47) (r 48) (r 49) h) (exitsOf [(0, (fun r h => J58_2 F M (r 5) (r 6) h))]) (fun r h => E58 (r 2) (r 3) h)) = J58_5 F M L4 (r 5) (r 6) (r 47) (r 48) (r 49) h := fun r h => by kernel_rfl
noncomputable def J58_6 (F : CallH) (M : Nat) (L4 : Value → Value → Value → Value → Value → AH → Res) (v5 : Value) (v6 : Value) (v8 : Value) (v47 : Value) (v48 : Value) (v49 : Value) (h : AH) : Res :=
  bindO (ibin .mul v6 (.int .i64 10)) fun v59 =>
  bindO (xconv .i64 v8) fun v61 =>
  bindO (ibin .add v59 v61) fun v62 =>
  J58_5 F M L4 v5 v62 v47 v48 v49 h
theorem J58_6_ok (F : CallH) (M : Nat) (L4 : Value → Value → Value → Value → Value → AH → Res) : ∀ r h, kcode Tryd.prog F 77 M (Code.sub [true, true, false, true, false, true, true, true, false, true, false, false, true, true, false, false, true, true, true] (bodyOf Tryd.prog 58)) r h (KX (fun r h => J58_5 F M L4 (r 5) (r 6) (r 47) (r 48) (r 49) h) (exitsOf [(1, (fun r h => J58_5 F M L4 (r 5) (r 6) (r 47) (r 48) (r 49) h)), (0, (fun r h => J58_2 F M (r 5) (r 6) h))]) (fun r h => E58 (r 2) (r 3) h)) = J58_6 F M L4 (r 5) (r 6) (r 8) (r 47) (r 48) (r 49) h := fun r h => by kernel_rfl
noncomputable def J58_7 (F : CallH) (M : Nat) (L4 : Value → Value → Value → Value → Value → AH → Res) (v5 : Value) (v6 : Value) (v8 : Value) (v47 : Value) (v48 : Value) (v49 : Value) (h : AH) : Res :=
  bindO (ibin .gtr v8 (.int .u8 9)) fun v56 =>
  condO v56 (
  E58 (.int .i64 0) (.iface 103 (.int .i64 2)) h) (
  J58_6 F M L4 v5 v6 v8 v47 v48 v49 h)
theorem J58_7_ok (F : CallH) (M : Nat) (L4 : Value → Value → Value → Value → Value → AH → Res) : ∀ r h, kcode Tryd.prog F 77 M (Code.sub [true, true, false, true, false, true, true, true, false, true, false, false, true, true, false, false, true, true, false] (bodyOf Tryd.prog 58)) r h (KX (fun r h => J58_6 F M L4 (r 5) (r 6) (r 8) (r 47) (r 48) (r 49) h) (exitsOf [(1, (fun r h => J58_5 F M L4 (r 5) (r 6) (r 47) (r 48) (r 49) h)), (0, (fun r h => J58_2 F M (r 5) (r 6) h))]) (fun r h => E58 (r 2) (r 3) h)) = J58_7 F M L4 (r 5) (r 6) (r 8) (r 47) (r 48) (r 49) h := fun r h => by kernel_rfl
theorem J58_8_ok (F : CallH) (M : Nat) (L4 : Value → Value → Value → Value → Value → AH → Res) : ∀ r h, kcode Tryd.prog F 77 M (Code.sub [true, true, false, true, false, true, true, true, false, true, false, false, true, true, false, false, true, true] (bodyOf Tryd.prog 58)) r h (KX (fun r h => J58_5 F M L4 (r 5) (r 6) (r 47) (r 48) (r 49) h) (exitsOf [(1, (fun r h => J58_5 F M L4 (r 5) (r 6) (r 47) (r 48) (r 49) h)), (0, (fun r h => J58_2 F M (r 5) (r 6) h))]) (fun r h => E58 (r 2) (r 3) h)) = J58_7 F M L4 (r 5) (r 6) (r 8) (r 47) (r 48) (r 49) h :=
  seq_pt (a := (Code.sub [true, true, false, true, false, true, true, true, false, true, false, false, true, true, false, false, true, true, false] (bodyOf Tryd.prog 58))) (b := (Code.sub [true, true, false, true, false, true, true, true, false, true, false, false, true, true, false, false, true, true, true] (bodyOf Tryd.prog 58))) (T := (fun r h => J58_7 F M L4 (r 5) (r 6) (r 8) (r 47) (r 48) (r 49) h)) (g := (fun r h => J58_6 F M L4 (r 5) (r 6) (r 8) (r 47) (r 48) (r 49) h)) (by kernel_rfl) (J58_6_ok F M L4) (J58_7_ok F M L4)
noncomputable def J58_9 (F : CallH) (M : Nat) (L4 : Value → Value → Value → Value → Value → AH → Res) (v5 : Value) (v6 : Value) (v8 : Value) (v47 : Value) (v48 : Value) (v49 : Value) (h : AH) : Res :=
  bindO (ibin .sub v8 (.int .u8 48)) fun v54 =>
  J58_7 F M L4 v5 v6 v54 v47 v48 v49 h
theorem J58_9_ok (F : CallH) (M : Nat) (L4 : Value → Value → Value → Value → Value → AH → Res) : ∀ r h, kcode Tryd.prog F 77 M (Code.sub [true, true, false, true, false, true, true, true, false, true, false, false, true, true, false, false, true] (bodyOf Tryd.prog 58)) r h (KX (fun r h => J58_5 F M L4 (r 5) (r 6) (r 47) (r 48) (r 49) h) (exitsOf [(1, (fun r h => J58_5 F M L4 (r 5) (r 6) (r 47) (r 48) (r 49) h)), (0, (fun r h => J58_2 F M (r 5) (r 6) h))]) (fun r h => E58 (r 2) (r 3) h)) = J58_9 F M L4 (r 5) (r 6) (r 8) (r 47) (r 48) (r 49) h :=
  seq_pt (a := (Code.sub [true, true, false, true, false, true, true, true, false, true, false, false, true, true, false, false, true, false] (bodyOf Tryd.prog 58))) (b := (Code.sub [true, true, false, true, false, true, true, true, false, true, false, false, true, true, false, false, true, true] (bodyOf Tryd.prog 58))) (T := (fun r h => J58_9 F M L4 (r 5) (r 6) (r 8) (r 47) (r 48) (r 49) h)) (g := (fun r h => J58_7 F M L4 (r 5) (r 6) (r 8) (r 47) (r 48) (r 49) h)) (by kernel_rfl) (J58_8_ok F M L4) (fun r h => by kernel_rfl)
noncomputable def J58_10 (F : CallH) (M : Nat) (L4 : Value → Value → Value → Value → Value → AH → Res) (v5 : Value) (v6 : Value) (v47 : Value) (v48 : Value) (v49 : Value) (h : AH) : Res :=
  bindO (xia 1 v47 v49) fun v51 =>
  bindO (ld1 h v51) fun v52 =>
  J58_9 F M L4 v5 v6 v52 v47 v48 v49 h
theorem J58_10_ok (F : CallH) (M : Nat) (L4 : Value → Value → Value → Value → Value → AH → Res) : ∀ r h, kcode Tryd.prog F 77 M (Code.sub [true, true, false, true, false, true, true, true, false, true, false, false, true, true, false, false] (bodyOf Tryd.prog 58)) r h (KX (fun r h => J58_5 F M L4 (r 5) (r 6) (r 47) (r 48) (r 49) h) (exitsOf [(1, (fun r h => J58_5 F M L4 (r 5) (r 6) (r 47) (r 48) (r 49) h)), (0, (fun r h => J58_2 F M (r 5) (r 6) h))]) (fun r h => E58 (r 2) (r 3) h)) = J58_10 F M L4 (r 5) (r 6) (r 47) (r 48) (r 49) h :=
  seq_pt (a := (Code.sub [true, true, false, true, false, true, true, true, false, true, false, false, true, true, false, false, false] (bodyOf Tryd.prog 58))) (b := (Code.sub [true, true, false, true, false, true, true, true, false, true, false, false, true, true, false, false, true] (bodyOf Tryd.prog 58))) (T := (fun r h => J58_10 F M L4 (r 5) (r 6) (r 47) (r 48) (r 49) h)) (g := (fun r h => J58_9 F M L4 (r 5) (r 6) (r 8) (r 47) (r 48) (r 49) h)) (by kernel_rfl) (J58_9_ok F M L4) (fun r h => by kernel_rfl)
theorem J58_11_ok (F : CallH) (M : Nat) (L4 : Value → Value → Value → Value → Value → AH → Res) : ∀ r h, kcode Tryd.prog F 77 M (Code.sub [true, true, false, true, false, true, true, true, false, true, false, false, true, true, false] (bodyOf Tryd.prog 58)) r h (KX (fun r h => J58_5 F M L4 (r 5) (r 6) (r 47) (r 48) (r 49) h) (exitsOf [(0, (fun r h => J58_2 F M (r 5) (r 6) h))]) (fun r h => E58 (r 2) (r 3) h)) = J58_10 F M L4 (r 5) (r 6) (r 47) (r 48) (r 49) h :=
  block_pt (b := (Code.sub [true, true, false, true, false, true, true, true, false, true, false, false, true, true, false, false] (bodyOf Tryd.prog 58))) (T := (fun r h => J58_10 F M L4 (r 5) (r 6) (r 47) (r 48) (r 49) h)) (id := 1) (by kernel_rfl) (J58_10_ok F M L4)
theorem J58_12_ok (F : CallH) (M : Nat) (L4 : Value → Value → Value → Value → Value → AH → Res) : ∀ r h, kcode Tryd.prog F 77 M (Code.sub [true, true, false, true, false, true, true, true, false, true, false, false, true, true] (bodyOf Tryd.prog 58)) r h (KX (fun r h => L4 (r 5) (r 6) (r 47) (r 48) (r 49) h) (exitsOf [(0, (fun r h => J58_2 F M (r 5) (r 6) h))]) (fun r h => E58 (r 2) (r 3) h)) = J58_10 F M L4 (r 5) (r 6) (r 47) (r 48) (r 49) h :=
  seq_pt (a := (Code.sub [true, true, false, true, false, true, true, true, false, true, false, false, true, true, false] (bodyOf Tryd.prog 58))) (b := (Code.sub [true, true, false, true, false, true, true, true, false, true, false, false, true, true, true] (bodyOf Tryd.prog 58))) (T := (fun r h => J58_10 F M L4 (r 5) (r 6) (r 47) (r 48) (r 49) h)) (g := (fun r h => J58_5 F M L4 (r 5) (r 6) (r 47) (r 48) (r 49) h)) (by kernel_rfl) (J58_5_ok F M L4) (J58_11_ok F M L4)
noncomputable def J58_13 (F : CallH) (M : Nat) (L4 : Value → Value → Value → Value → Value → AH → Res) (v5 : Value) (v6 : Value) (v47 : Value) (v48 : Value) (v49 : Value) (v50 : Value) (h : AH) : Res :=
  condO v50 (
  J58_10 F M L4 v5 v6 v47 v48 v49 h) (
  J58_2 F M v5 v6 h)
theorem J58_13_ok (F : CallH) (M : Nat) (L4 : Value → Value → Value → Value → Value → AH → Res) : ∀ r h, kcode Tryd.prog F 77 M (Code.sub [true, true, false, true, false, true, true, true, false, true, false, false, true, false] (bodyOf Tryd.prog 58)) r h (KX (fun r h => J58_10 F M L4 (r 5) (r 6) (r 47) (r 48) (r 49) h) (exitsOf [(0, (fun r h => J58_2 F M (r 5) (r 6) h))]) (fun r h => E58 (r 2) (r 3) h)) = J58_13 F M L4 (r 5) (r 6) (r 47) (r 48) (r 49) (r 50) h := fun r h => by kernel_rfl
theorem J58_14_ok (F : CallH) (M : Nat) (L4 : Value → Value → Value → Value → Value → AH → Res) : ∀ r h, kcode Tryd.prog F 77 M (Code.sub [true, true, false, true, false, true, true, true, false, true, false, false, true] (bodyOf Tryd.prog 58)) r h (KX (fun r h => L4 (r 5) (r 6) (r 47) (r 48) (r 49) h) (exitsOf [(0, (fun r h => J58_2 F M (r 5) (r 6) h))]) (fun r h => E58 (r 2) (r 3) h)) = J58_13 F M L4 (r 5) (r 6) (r 47) (r 48) (r 49) (r 50) h :=
  seq_pt (a := (Code.sub [true, true, false, true, false, true, true, true, false, true, false, false, true, false] (bodyOf Tryd.prog 58))) (b := (Code.sub [true, true, false, true, false, true, true, true, false, true, false, false, true, true] (bodyOf Tryd.prog 58))) (T := (fun r h => J58_13 F M L4 (r 5) (r 6) (r 47) (r 48) (r 49) (r 50) h)) (g := (fun r h => J58_10 F M L4 (r 5) (r 6) (r 47) (r 48) (r 49) h)) (by kernel_rfl) (J58_12_ok F M L4) (J58_13_ok F M L4)
noncomputable def J58_15 (F : CallH) (M : Nat) (L4 : Value → Value → Value → Value → Value → AH → Res) (v5 : Value) (v6 : Value) (v47 : Value) (v48 : Value) (v49 : Value) (h : AH) : Res :=
  bindO (ibin .lss v49 v48) fun v50 =>
  J58_13 F M L4 v5 v6 v47 v48 v49 v50 h
theorem J58_15_ok (F : CallH) (M : Nat) (L4 : Value → Value → Value → Value → Value → AH → Res) : ∀ r h, kcode Tryd.prog F 77 M (Code.sub [true, true, false, true, false, true, true, true, false, true, false, false] (bodyOf Tryd.prog 58)) r h (KX (fun r h => L4 (r 5) (r 6) (r 47) (r 48) (r 49) h) (exitsOf [(0, (fun r h => J58_2 F M (r 5) (r 6) h))]) (fun r h => E58 (r 2) (r 3) h)) = J58_15 F M L4 (r 5) (r 6) (r 47) (r 48) (r 49) h :=
  seq_pt (a := (Code.sub [true, true, false, true, false, true, true, true, false, true, false, false, false] (bodyOf Tryd.prog 58))) (b := (Code.sub [true, true, false, true, false, true, true, true, false, true, false, false, true] (bodyOf Tryd.prog 58))) (T := (fun r h => J58_15 F M L4 (r 5) (r 6) (r 47) (r 48) (r 49) h)) (g := (fun r h => J58_13 F M L4 (r 5) (r 6) (r 47) (r 48) (r 49) (r 50) h)) (by kernel_rfl) (J58_14_ok F M L4) (fun r h => by kernel_rfl)
noncomputable def L58_4 (F : CallH) (M : Nat) : Nat → Value → Value → Value → Value → Value → AH → Res
  | 0, _, _, _, _, _, _ => none
  | m + 1, v5, v6, v47, v48, v49, h => J58_15 F M (L58_4 F M m) v5 v6 v47 v48 v49 h
theorem L58_4_ok (F : CallH) (M : Nat) : ∀ r h, kcode Tryd.prog F 77 M (Code.sub [true, true, false, true, false, true, true, true, false, true, false] (bodyOf Tryd.prog 58)) r h (KX (fun r h => J58_2 F M (r 5) (r 6) h) (exitsOf [(0, (fun r h => J58_2 F M (r 5) (r 6) h))]) (fun r h => E58 (r 2) (r 3) h)) = L58_4 F M M (r 5) (r 6) (r 47) (r 48) (r 49) h :=
  loop_pt (b := (Code.sub [true, true, false, true, false, true, true, true, false, true, false, false] (bodyOf Tryd.prog 58))) (by kernel_rfl) (fun m r h => L58_4 F M m (r 5) (r 6) (r 47) (r 48) (r 49) h) (fun _ _ => rfl) (fun m r h => ((J58_15_ok F M (L58_4 F M m)) r h).trans rfl)
theorem J58_16_ok (F : CallH) (M : Nat) : ∀ r h, kcode Tryd.prog F 77 M (Code.sub [true, true, false, true, false, true, true, true, false, true] (bodyOf Tryd.prog 58)) r h (KX (fun r h => J58_2 F M (r 5) (r 6) h) (exitsOf []) (fun r h => E58 (r 2) (r 3) h)) = L58_4 F M M (r 5) (r 6) (r 47) (r 48) (r 49) h :=
  block_pt (b := (Code.sub [true, true, false, true, false, true, true, true, false, true, false] (bodyOf Tryd.prog 58))) (T := (fun r h => L58_4 F M M (r 5) (r 6) (r 47) (r 48) (r 49) h)) (id := 0) (by kernel_rfl) (L58_4_ok F M)
noncomputable def J58_17 (F : CallH) (M : Nat) (v0 : Value) (v5 : Value) (v6 : Value) (h : AH) : Res :=
  bindO (xsb v0) fun v47 => newK h (.ro v47.1) fun iv47 h2 =>
  bindO (xlenL (.slice (some ⟨iv47, 0, none⟩) v47.2 (UNK + 1))) fun v48 =>
  L58_4 F M M v5 v6 (.slice (some ⟨iv47, 0, none⟩) v47.2 (UNK + 1)) v48 (.int .i64 0) h2
theorem J58_17_ok (F : CallH) (M : Nat) : ∀ r h, kcode Tryd.prog F 77 M (Code.sub [true, true, false, true, false, true, true, true, false] (bodyOf Tryd.prog 58)) r h (KX (fun r h => J58_2 F M (r 5) (r 6) h) (exitsOf []) (fun r h => E58 (r 2) (r 3) h)) = J58_17 F M (r 0) (r 5) (r 6) h :=
  seq_pt (a := (Code.sub [true, true, false, true, false, true, true, true, false, false] (bodyOf Tryd.prog 58))) (b := (Code.sub [true, true, false, true, false, true, true, true, false, true] (bodyOf Tryd.prog 58))) (T := (fun r h => J58_17 F M (r 0) (r 5) (r 6) h)) (g := (fun r h => L58_4 F M M (r 5) (r 6) (r 47) (r 48) (r 49) h)) (by kernel_rfl) (J58_16_ok F M) (fun r h => by kernel_rfl)
theorem J58_18_ok (F : CallH) (M : Nat) : ∀ r h, kcode Tryd.prog F 77 M (Code.sub [true, true, false, true, false, true, true, true] (bodyOf Tryd.prog 58)) r h (KX (fun r h => J58_0 F M (r 0) h) (exitsOf []) (fun r h => E58 (r 2) (r 3) h)) = J58_17 F M (r 0) (r 5) (r 6) h :=
  seq_pt (a := (Code.sub [true, true, false, true, false, true, true, true, false] (bodyOf Tryd.prog 58))) (b := (Code.sub [true, true, false, true, false, true, true, true, true] (bodyOf Tryd.prog 58))) (T := (fun r h => J58_17 F M (r 0) (r 5) (r 6) h)) (g := (fun r h => J58_2 F M (r 5) (r 6) h)) (by kernel_rfl) (J58_3_ok F M) (J58_17_ok F M)
noncomputable def J58_19 (F : CallH) (M : Nat) (v0 : Value) (v5 : Value) (h : AH) : Res :=
  J58_17 F M v0 v5 (.int .i64 0) h
theorem J58_19_ok (F : CallH) (M : Nat) : ∀ r h, kcode Tryd.prog F 77 M (Code.sub [true, true, false, true, false, true, true] (bodyOf Tryd.prog 58)) r h (KX (fun r h => J58_0 F M (r 0) h) (exitsOf []) (fun r h => E58 (r 2) (r 3) h)) = J58_19 F M (r 0) (r 5) h :=
  seq_pt (a := (Code.sub [true, true, false, true, false, true, true, false] (bodyOf Tryd.prog 58))) (b := (Code.sub [true, true, false, true, false, true, true, true] (bodyOf Tryd.prog 58))) (T := (fun r h => J58_19 F M (r 0) (r 5) h)) (g := (fun r h => J58_17 F M (r 0) (r 5) (r 6) h)) (by kernel_rfl) (J58_18_ok F M) (fun r h => by kernel_rfl)
noncomputable def J58_20 (F : CallH) (M : Nat) (v0 : Value) (v5 : Value) (h : AH) : Res :=
  bindO (ixS v0 (.int .i64 0)) fun v33 =>
  bindO (ibin .eql v33 (.int .u8 45)) fun v34 =>
  condO v34 (
  bindO (xslS v0 (some (.int .i64 1)) none) fun v41 =>
  bindO (xlenS v41) fun v43 =>
  bindO (ibin .lss v43 (.int .i64 1)) fun v44 =>
  condO v44 (
  E58 (.int .i64 0) (.iface 103 (.int .i64 2)) h) (
  J58_19 F M v41 v5 h)) (
  bindO (ixS v0 (.int .i64 0)) fun v37 =>
  bindO (ibin .eql v37 (.int .u8 43)) fun v38 =>
  condO v38 (
  bindO (xslS v0 (some (.int .i64 1)) none) fun v41 =>
  bindO (xlenS v41) fun v43 =>
  bindO (ibin .lss v43 (.int .i64 1)) fun v44 =>
  condO v44 (
  E58 (.int .i64 0) (.iface 103 (.int .i64 2)) h) (
  J58_19 F M v41 v5 h)) (
  J58_19 F M v0 v5 h))
theorem J58_20_ok (F : CallH) (M : Nat) : ∀ r h, kcode Tryd.prog F 77 M (Code.sub [true, true, false, true, false, true, false] (bodyOf Tryd.prog 58)) r h (KX (fun r h => J58_19 F M (r 0) (r 5) h) (exitsOf []) (fun r h => E58 (r 2) (r 3) h)) = J58_20 F M (r 0) (r 5) h := fun r h => by kernel_rfl
theorem J58_21_ok (F : CallH) (M : Nat) : ∀ r h, kcode Tryd.prog F 77 M (Code.sub [true, true, false, true, false, true] (bodyOf Tryd.prog 58)) r h (KX (fun r h => J58_0 F M (r 0) h) (exitsOf []) (fun r h => E58 (r 2) (r 3) h)) = J58_20 F M (r 0) (r 5) h :=
  seq_pt (a := (Code.sub [true, true, false, true, false, true, false] (bodyOf Tryd.prog 58))) (b := (Code.sub [true, true, false, true, false, true, true] (bodyOf Tryd.prog 58))) (T := (fun r h => J58_20 F M (r 0) (r 5) h)) (g := (fun r h => J58_19 F M (r 0) (r 5) h)) (by kernel_rfl) (J58_19_ok F M) (J58_20_ok F M)
noncomputable def J58_22 (F : CallH) (M : Nat) (v0 : Value) (h : AH) : Res :=
  J58_20 F M v0 v0 h
theorem J58_22_ok (F : CallH) (M : Nat) : ∀ r h, kcode Tryd.prog F 77 M (Code.sub [true, true, false, true, false] (bodyOf Tryd.prog 58)) r h (KX (fun r h => J58_0 F M (r 0) h) (exitsOf []) (fun r h => E58 (r 2) (r 3) h)) = J58_22 F M (r 0) h :=
  seq_pt (a := (Code.sub [true, true, false, true, false, false] (bodyOf Tryd.prog 58))) (b := (Code.sub [true, true, false, true, false, true] (bodyOf Tryd.prog 58))) (T := (fun r h => J58_22 F M (r 0) h)) (g := (fun r h => J58_20 F M (r 0) (r 5) h)) (by kernel_rfl) (J58_21_ok F M) (fun r h => by kernel_rfl)
noncomputable def J58_23 (F : CallH) (M : Nat) (v0 : Value) (h : AH) : Res :=
  J58_0 F M v0 h
theorem J58_23_ok (F : CallH) (M : Nat) : ∀ r h, kcode Tryd.prog F 77 M (Code.sub [true, true, false, true, true] (bodyOf Tryd.prog 58)) r h (KX (fun r h => J58_0 F M (r 0) h) (exitsOf []) (fun r h => E58 (r 2) (r 3) h)) = J58_23 F M (r 0) h := fun r h => by kernel_rfl
noncomputable def J58_24 (F : CallH) (M : Nat) (v0 : Value) (v30 : Value) (h : AH) : Res :=
  condO v30 (J58_22 F M v0 h) (J58_23 F M v0 h)
theorem J58_24_ok (F : CallH) (M : Nat) : ∀ r h, kcode Tryd.prog F 77 M (Code.sub [true, true, false, true] (bodyOf Tryd.prog 58)) r h (KX (fun r h => J58_0 F M (r 0) h) (exitsOf []) (fun r h => E58 (r 2) (r 3) h)) = J58_24 F M (r 0) (r 30) h :=
  fun r h => (cond_pt (a := (Code.sub [true, true, false, true, false] (bodyOf Tryd.prog 58))) (b := (Code.sub [true, true, false, true, true] (bodyOf Tryd.prog 58))) (A := (fun r h => J58_22 F M (r 0) h)) (B := (fun r h => J58_23 F M (r 0) h)) (y := .tmp 30) (by kernel_rfl) (J58_22_ok F M) (J58_23_ok F M) r h).trans (by kernel_rfl)
noncomputable def J58_25 (F : CallH) (M : Nat) (v0 : Value) (v4 : Value) (h : AH) : Res :=
  bindO (ibin .lss (.int .i64 0) v4) fun v24 =>
  condO v24 (
  bindO (ibin .lss v4 (.int .i64 19)) fun v27 =>
  J58_24 F M v0 v27 h) (
  J58_24 F M v0 (.bool false) h)
theorem J58_25_ok (F : CallH) (M : Nat) : ∀ r h, kcode Tryd.prog F 77 M (Code.sub [true, true, false] (bodyOf Tryd.prog 58)) r h (KX (fun r h => J58_0 F M (r 0) h) (exitsOf []) (fun r h => E58 (r 2) (r 3) h)) = J58_25 F M (r 0) (r 4) h :=
  seq_pt (a := (Code.sub [true, true, false, false] (bodyOf Tryd.prog 58))) (b := (Code.sub [true, true, false, true] (bodyOf Tryd.prog 58))) (T := (fun r h => J58_25 F M (r 0) (r 4) h)) (g := (fun r h => J58_24 F M (r 0) (r 30) h)) (by kernel_rfl) (J58_24_ok F M) (fun r h => by kernel_rfl)
theorem J58_26_ok (F : CallH) (M : Nat) : ∀ r h, kcode Tryd.prog F 77 M (Code.sub [true, true] (bodyOf Tryd.prog 58)) r h (KX (fun r h => E58 (r 2) (r 3) h) (exitsOf []) (fun r h => E58 (r 2) (r 3) h)) = J58_25 F M (r 0) (r 4) h :=
  seq_pt (a := (Code.sub [true, true, false] (bodyOf Tryd.prog 58))) (b := (Code.sub [true, true, true] (bodyOf Tryd.prog 58))) (T := (fun r h => J58_25 F M (r 0) (r 4) h)) (g := (fun r h => J58_0 F M (r 0) h)) (by kernel_rfl) (J58_0_ok F M) (J58_25_ok F M)
noncomputable def J58_27 (F : CallH) (M : Nat) (v0 : Value) (h : AH) : Res :=
  bindO (xlenS v0) fun v12 =>
  J58_25 F M v0 v12 h
theorem J58_27_ok (F : CallH) (M : Nat) : ∀ r h, kcode Tryd.prog F 77 M (Code.sub [true] (bodyOf Tryd.prog 58)) r h (KX (fun r h => E58 (r 2) (r 3) h) (exitsOf []) (fun r h => E58 (r 2) (r 3) h)) = J58_27 F M (r 0) h :=
  seq_pt (a := (Code.sub [true, false] (bodyOf Tryd.prog 58))) (b := (Code.sub [true, true] (bodyOf Tryd.prog 58))) (T := (fun r h => J58_27 F M (r 0) h)) (g := (fun r h => J58_25 F M (r 0) (r 4) h)) (by kernel_rfl) (J58_26_ok F M) (fun r h => by kernel_rfl)
noncomputable def J58_28 (F : CallH) (M : Nat) (v0 : Value) (h : AH) : Res :=
  J58_27 F M v0 h
theorem J58_28_ok (F : CallH) (M : Nat) : ∀ r h, kcode Tryd.prog F 77 M (Code.sub [] (bodyOf Tryd.prog 58)) r h (KX (fun r h => E58 (r 2) (r 3) h) (exitsOf []) (fun r h => E58 (r 2) (r 3) h)) = J58_28 F M (r 0) h :=
  seq_pt (a := (Code.sub [false] (bodyOf Tryd.prog 58))) (b := (Code.sub [true] (bodyOf Tryd.prog 58))) (T := (fun r h => J58_28 F M (r 0) h)) (g := (fun r h => J58_27 F M (r 0) h)) (by kernel_rfl) (J58_27_ok F M) (fun r h => by kernel_rfl)
noncomputable def R58 (F : CallH) (M : Nat) (x0 : Value) (h : AH) : Res := J58_28 F M x0 h
theorem R58_ok (F : CallH) (M : Nat) (x0 : Value) (h : AH) : kfn Tryd.prog F M 58 [x0] h = R58 F M x0 h :=
  (fn_pt (N := 77) (E := (fun r h => E58 (r 2) (r 3) h)) (T := (fun r h => J58_28 F M (r 0) h)) Tryd.func58 (by kernel_rfl) (by kernel_rfl) (fun r h => by kernel_rfl) (J58_28_ok F M)).trans (by kernel_rfl)
/-! ### 62 internal/stringslite.CutPrefix -/
noncomputable def E62 (v4 : Value) (v5 : Value) (h : AH) : Res := some ((.tuple #[v4, v5]), h)
noncomputable def J62_0 (F : CallH) (M : Nat) (v0 : Value) (v1 : Value) (h : AH) : Res :=
  bindO (xlenS v1) fun v13 =>
  bindO (xslS v0 (some v13) none) fun v14 =>
  E62 v14 (.bool true) h
theorem J62_0_ok (F : CallH) (M : Nat) : ∀ r h, kcode Tryd.prog F 15 M (Code.sub [true, true] (bodyOf Tryd.prog 62)) r h (KX (fun r h => E62 (r 4) (r 5) h) (exitsOf []) (fun r h => E62 (r 4) (r 5) h)) = J62_0 F M (r 0) (r 1) h := fun r h => by kernel_rfl
noncomputable def J62_1 (F : CallH) (M : Nat) (v0 : Value) (v1 : Value) (h : AH) : Res :=
  bindO (F 74 [v0, v1] h) fun pv8 =>
  bindO (xnot pv8.1) fun v9 =>
  condO v9 (
  E62 v0 (.bool false) pv8.2) (
  J62_0 F M v0 v1 pv8.2)
theorem J62_1_ok (F : CallH) (M : Nat) : ∀ r h, kcode Tryd.prog F 15 M (Code.sub [true, false] (bodyOf Tryd.prog 62)) r h (KX (fun r h => J62_0 F M (r 0) (r 1) h) (exitsOf []) (fun r h => E62 (r 4) (r 5) h)) = J62_1 F M (r 0) (r 1) h := fun r h => by kernel_rfl
theorem J62_2_ok (F : CallH) (M : Nat) : ∀ r h, kcode Tryd.prog F 15 M (Code.sub [true] (bodyOf Tryd.prog 62)) r h (KX (fun r h => E62 (r 4) (r 5) h) (exitsOf []) (fun r h => E62 (r 4) (r 5) h)) = J62_1 F M (r 0) (r 1) h :=
  seq_pt (a := (Code.sub [true, false] (bodyOf Tryd.prog 62))) (b := (Code.sub [true, true] (bodyOf Tryd.prog 62))) (T := (fun r h => J62_1 F M (r 0) (r 1) h)) (g := (fun r h => J62_0 F M (r 0) (r 1) h)) (by kernel_rfl) (J62_0_ok F M) (J62_1_ok F M)
noncomputable def J62_3 (F : CallH) (M : Nat) (v0 : Value) (v1 : Value) (h : AH) : Res :=
  J62_1 F M v0 v1 h
theorem J62_3_ok (F : CallH) (M : Nat) : ∀ r h, kcode Tryd.prog F 15 M (Code.sub [] (bodyOf Tryd.prog 62)) r h (KX (fun r h => E62 (r 4) (r 5) h) (exitsOf []) (fun r h => E62 (r 4) (r 5) h)) = J62_3 F M (r 0) (r 1) h :=
  seq_pt (a := (Code.sub [false] (bodyOf Tryd.prog 62))) (b := (Code.sub [true] (bodyOf Tryd.prog 62))) (T := (fun r h => J62_3 F M (r 0) (r 1) h)) (g := (fun r h => J62_1 F M (r 0) (r 1) h)) (by kernel_rfl) (J62_2_ok F M) (fun r h => by kernel_rfl)
noncomputable def R62 (F : CallH) (M : Nat) (x0 x1 : Value) (h : AH) : Res := J62_3 F M x0 x1 h
theorem R62_ok (F : CallH) (M : Nat) (x0 x1 : Value) (h : AH) : kfn Tryd.prog F M 62 [x0, x1] h = R62 F M x0 x1 h :=
  (fn_pt (N := 15) (E := (fun r h => E62 (r 4) (r 5) h)) (T := (fun r h => J62_3 F M (r 0) (r 1) h)) Tryd.func62 (by kernel_rfl) (by kernel_rfl) (fun r h => by kernel_rfl) (J62_3_ok F M)).trans (by kernel_rfl)
/-! ### 66 internal/stringslite.Index -/
noncomputable def E66 (v4 : Value) (h : AH) : Res := some (v4, h)
noncomputable def J66_0 (F : CallH) (M : Nat) (h : AH) : Res :=
  E66 (.int .i64 (-1)) h
theorem J66_0_ok (F : CallH) (M : Nat) : ∀ r h, kcode Tryd.prog F 143 M (Code.sub [true, true, true, true, true, true, true, true, true] (bodyOf Tryd.prog 66)) r h (KX (fun r h => E66 (r 4) h) (exitsOf []) (fun r h => E66 (r 4) h)) = J66_0 F M h := fun r h => by kernel_rfl
noncomputable def J66_2 (F : CallH) (M : Nat) (L1 : Value → Value → Value → Value → Value → Value → Value → Value → AH → Res) (h : AH) : Res :=
  E66 (.int .i64 (-1)) h
theorem J66_2_ok (F : CallH) (M : Nat) (L1 : Value → Value → Value → Value → Value → Value → Value → Value → AH → Res) : ∀ r h, kcode Tryd.prog F 143 M (Code.sub [true, true, true, true, true, true, true, true, false, false, false, true, false, true, true, true, true, true, false, true, true] (bodyOf Tryd.prog 66)) r h (KX (fun r h => L1 (r 0) (r 1) (r 5) (r 6) (r 7) (r 8) (r 9) (r 10) h) (exitsOf [(2, (fun r h => L1 (r 0) (r 1) (r 5) (r 6) (r 7) (r 8) (r 9) (r 10) h)), (1, (fun r h => J66_0 F M h))]) (fun r h => E66 (r 4) h)) = J66_2 F M L1 h := fun r h => by kernel_rfl
noncomputable def J66_3 (F : CallH) (M : Nat) (L1 : Value → Value → Value → Value → Value → Value → Value → Value → AH → Res) (v8 : Value) (v12 : Value) (h : AH) : Res :=
  bindO (ibin .geq v12 (.int .i64 0)) fun v114 =>
  condO v114 (
  bindO (ibin .add v12 v8) fun v117 =>
  E66 v117 h) (
  J66_2 F M L1 h)
theorem J66_3_ok (F : CallH) (M : Nat) (L1 : Value → Value → Value → Value → Value → Value → Value → Value → AH → Res) : ∀ r h, kcode Tryd.prog F 143 M (Code.sub [true, true, true, true, true, true, true, true, false, false, false, true, false, true, true, true, true, true, false, true, false] (bodyOf Tryd.prog 66)) r h (KX (fun r h => J66_2 F M L1 h) (exitsOf [(2, (fun r h => L1 (r 0) (r 1) (r 5) (r 6) (r 7) (r 8) (r 9) (r 10) h)), (1, (fun r h => J66_0 F M h))]) (fun r h => E66 (r 4) h)) = J66_3 F M L1 (r 8) (r 12) h := fun r h => by kernel_rfl
theorem J66_4_ok (F : CallH) (M : Nat) (L1 : Value → Value → Value → Value → Value → Value → Value → Value → AH → Res) : ∀ r h, kcode Tryd.prog F 143 M (Code.sub [true, true, true, true, true, true, true, true, false, false, false, true, false, true, true, true, true, true, false, true] (bodyOf Tryd.prog 66)) r h (KX (fun r h => L1 (r 0) (r 1) (r 5) (r 6) (r 7) (r 8) (r 9) (r 10) h) (exitsOf [(2, (fun r h => L1 (r 0) (r 1) (r 5) (r 6) (r 7) (r 8) (r 9) (r 10) h)), (1, (fun r h => J66_0 F M h))]) (fun r h => E66 (r 4) h)) = J66_3 F M L1 (r 8) (r 12) h :=
  seq_pt (a := (Code.sub [true, true, true, true, true, true, true, true, false, false, false, true, false, true, true, true, true, true, false, true, false] (bodyOf Tryd.prog 66))) (b := (Code.sub [true, true, true, true, true, true, true, true, false, false, false, true, false, true, true, true, true, true, false, true, true] (bodyOf Tryd.prog 66))) (T := (fun r h => J66_3 F M L1 (r 8) (r 12) h)) (g := (fun r h => J66_2 F M L1 h)) (by kernel_rfl) (J66_2_ok F M L1) (J66_3_ok F M L1)
noncomputable def J66_5 (F : CallH) (M : Nat) (L1 : Value → Value → Value → Value → Value → Value → Value → Value → AH → Res) (v0 : Value) (v1 : Value) (v8 : Value) (h : AH) : Res :=
  bindO (xslS v0 (some v8) none) fun v110 =>
  bindO (F 77 [v110, v1] h) fun pv112 =>
  J66_3 F M L1 v8 pv112.1 pv112.2
theorem J66_5_ok (F : CallH) (M : Nat) (L1 : Value → Value → Value → Value → Value → Value → Value → Value → AH → Res) : ∀ r h, kcode Tryd.prog F 143 M (Code.sub [true, true, true, true, true, true, true, true, false, false, false, true, false, true, true, true, true, true, false] (bodyOf Tryd.prog 66)) r h (KX (fun r h => L1 (r 0) (r 1) (r 5) (r 6) (r 7) (r 8) (r 9) (r 10) h) (exitsOf [(2, (fun r h => L1 (r 0) (r 1) (r 5) (r 6) (r 7) (r 8) (r 9) (r 10) h)), (1, (fun r h => J66_0 F M h))]) (fun r h => E66 (r 4) h)) = J66_5 F M L1 (r 0) (r 1) (r 8) h :=
  seq_pt (a := (Code.sub [true, true, true, true, true, true, true, true, false, false, false, true, false, true, true, true, true, true, false, false] (bodyOf Tryd.prog 66))) (b := (Code.sub [true, true, true, true, true, true, true, true, false, false, false, true, false, true, true, true, true, true, false, true] (bodyOf Tryd.prog 66))) (T := (fun r h => J66_5 F M L1 (r 0) (r 1) (r 8) h)) (g := (fun r h => J66_3 F M L1 (r 8) (r 12) h)) (by kernel_rfl) (J66_4_ok F M L1) (fun r h => by kernel_rfl)
noncomputable def J66_6 (F : CallH) (M : Nat) (L1 : Value → Value → Value → Value → Value → Value → Value → Value → AH → Res) (v8 : Value) (v13 : Value) (h : AH) : Res :=
  bindO (ibin .add v8 v13) fun v142 =>
  E66 v142 h
theorem J66_6_ok (F : CallH) (M : Nat) (L1 : Value → Value → Value → Value → Value → Value → Value → Value → AH → Res) : ∀ r h, kcode Tryd.prog F 143 M (Code.sub [true, true, true, true, true, true, true, true, false, false, false, true, false, true, true, true, true, true, true, true, false, true, true] (bodyOf Tryd.prog 66)) r h (KX (fun r h => L1 (r 0) (r 1) (r 5) (r 6) (r 7) (r 8) (r 9) (r 10) h) (exitsOf [(2, (fun r h => L1 (r 0) (r 1) (r 5) (r 6) (r 7) (r 8) (r 9) (r 10) h)), (1, (fun r h => J66_0 F M h))]) (fun r h => E66 (r 4) h)) = J66_6 F M L1 (r 8) (r 13) h := fun r h => by kernel_rfl
noncomputable def J66_7 (F : CallH) (M : Nat) (L1 : Value → Value → Value → Value → Value → Value → Value → Value → AH → Res) (v8 : Value) (v13 : Value) (h : AH) : Res :=
  bindO (ibin .lss v13 (.int .i64 0)) fun v139 =>
  condO v139 (
  E66 (.int .i64 (-1)) h) (
  J66_6 F M L1 v8 v13 h)
theorem J66_7_ok (F : CallH) (M : Nat) (L1 : Value → Value → Value → Value → Value → Value → Value → Value → AH → Res) : ∀ r h, kcode Tryd.prog F 143 M (Code.sub [true, true, true, true, true, true, true, true, false, false, false, true, false, true, true, true, true, true, true, true, false, true, false] (bodyOf Tryd.prog 66)) r h (KX (fun r h => J66_6 F M L1 (r 8) (r 13) h) (exitsOf [(2, (fun r h => L1 (r 0) (r 1) (r 5) (r 6) (r 7) (r 8) (r 9) (r 10) h)), (1, (fun r h => J66_0 F M h))]) (fun r h => E66 (r 4) h)) = J66_7 F M L1 (r 8) (r 13) h := fun r h => by kernel_rfl
theorem J66_8_ok (F : CallH) (M : Nat) (L1 : Value → Value → Value → Value → Value → Value → Value → Value → AH → Res) : ∀ r h, kcode Tryd.prog F 143 M (Code.sub [true, true, true, true, true, true, true, true, false, false, false, true, false, true, true, true, true, true, true, true, false, true] (bodyOf Tryd.prog 66)) r h (KX (fun r h => L1 (r 0) (r 1) (r 5) (r 6) (r 7) (r 8) (r 9) (r 10) h) (exitsOf [(2, (fun r h => L1 (r 0) (r 1) (r 5) (r 6) (r 7) (r 8) (r 9) (r 10) h)), (1, (fun r h => J66_0 F M h))]) (fun r h => E66 (r 4) h)) = J66_7 F M L1 (r 8) (r 13) h :=
  seq_pt (a := (Code.sub [true, true, true, true, true, true, true, true, false, false, false, true, false, true, true, true, true, true, true, true, false, true, false] (bodyOf Tryd.prog 66))) (b := (Code.sub [true, true, true, true, true, true, true, true, false, false, false, true, false, true, true, true, true, true, true, true, false, true, true] (bodyOf Tryd.prog 66))) (T := (fun r h => J66_7 F M L1 (r 8) (r 13) h)) (g := (fun r h => J66_6 F M L1 (r 8) (r 13) h)) (by kernel_rfl) (J66_6_ok F M L1) (J66_7_ok F M L1)
noncomputable def J66_9 (F : CallH) (M : Nat) (L1 : Value → Value → Value → Value → Value → Value → Value → Value → AH → Res) (v0 : Value) (v1 : Value) (v8 : Value) (h : AH) : Res :=
  bindO (xslS v0 (some v8) none) fun v135 =>
  bindO (F 79 [v135, v1] h) fun pv137 =>
  J66_7 F M L1 v8 pv137.1 pv137.2
theorem J66_9_ok (F : CallH) (M : Nat) (L1 : Value → Value → Value → Value → Value → Value → Value → Value → AH → Res) : ∀ r h, kcode Tryd.prog F 143 M (Code.sub [true, true, true, true, true, true, true, true, false, false, false, true, false, true, true, true, true, true, true, true, false] (bodyOf Tryd.prog 66)) r h (KX (fun r h => L1 (r 0) (r 1) (r 5) (r 6) (r 7) (r 8) (r 9) (r 10) h) (exitsOf [(2, (fun r h => L1 (r 0) (r 1) (r 5) (r 6) (r 7) (r 8) (r 9) (r 10) h)), (1, (fun r h => J66_0 F M h))]) (fun r h => E66 (r 4) h)) = J66_9 F M L1 (r 0) (r 1) (r 8) h :=
  seq_pt (a := (Code.sub [true, true, true, true, true, true, true, true, false, false, false, true, false, true, true, true, true, true, true, true, false, false] (bodyOf Tryd.prog 66))) (b := (Code.sub [true, true, true, true, true, true, true, true, false, false, false, true, false, true, true, true, true, true, true, true, false, true] (bodyOf Tryd.prog 66))) (T := (fun r h => J66_9 F M L1 (r 0) (r 1) (r 8) h)) (g := (fun r h => J66_7 F M L1 (r 8) (r 13) h)) (by kernel_rfl) (J66_8_ok F M L1) (fun r h => by kernel_rfl)
noncomputable def J66_10 (F : CallH) (M : Nat) (L1 : Value → Value → Value → Value → Value → Value → Value → Value → AH → Res) (v0 : Value) (v1 : Value) (v5 : Value) (v6 : Value) (v7 : Value) (v8 : Value) (v9 : Value) (v10 : Value) (h : AH) : Res :=
  L1 v0 v1 v5 v6 v7 v8 v9 v10 h
theorem J66_10_ok (F : CallH) (M : Nat) (L1 : Value → Value → Value → Value → Value → Value → Value → Value → AH → Res) : ∀ r h, kcode Tryd.prog F 143 M (Code.sub [true, true, true, true, true, true, true, true, false, false, false, true, false, true, true, true, true, true, true, true, true] (bodyOf Tryd.prog 66)) r h (KX (fun r h => L1 (r 0) (r 1) (r 5) (r 6) (r 7) (r 8) (r 9) (r 10) h) (exitsOf [(2, (fun r h => L1 (r 0) (r 1) (r 5) (r 6) (r 7) (r 8) (r 9) (r 10) h)), (1, (fun r h => J66_0 F M h))]) (fun r h => E66 (r 4) h)) = J66_10 F M L1 (r 0) (r 1) (r 5) (r 6) (r 7) (r 8) (r 9) (r 10) h := fun r h => by kernel_rfl
noncomputable def J66_11 (F : CallH) (M : Nat) (L1 : Value → Value → Value → Value → Value → Value → Value → Value → AH → Res) (v0 : Value) (v1 : Value) (v5 : Value) (v6 : Value) (v7 : Value) (v8 : Value) (v9 : Value) (v10 : Value) (v132 : Value) (h : AH) : Res :=
  condO v132 (J66_9 F M L1 v0 v1 v8 h) (J66_10 F M L1 v0 v1 v5 v6 v7 v8 v9 v10 h)
theorem J66_11_ok (F : CallH) (M : Nat) (L1 : Value → Value → Value → Value → Value → Value → Value → Value → AH → Res) : ∀ r h, kcode Tryd.prog F 143 M (Code.sub [true, true, true, true, true, true, true, true, false, false, false, true, false, true, true, true, true, true, true, true] (bodyOf Tryd.prog 66)) r h (KX (fun r h => L1 (r 0) (r 1) (r 5) (r 6) (r 7) (r 8) (r 9) (r 10) h) (exitsOf [(2, (fun r h => L1 (r 0) (r 1) (r 5) (r 6) (r 7) (r 8) (r 9) (r 10) h)), (1, (fun r h => J66_0 F M h))]) (fun r h => E66 (r 4) h)) = J66_11 F M L1 (r 0) (r 1) (r 5) (r 6) (r 7) (r 8) (r 9) (r 10) (r 132) h :=
  fun r h => (cond_pt (a := (Code.sub [true, true, true, true, true, true, true, true, false, false, false, true, false, true, true, true, true, true, true, true, false] (bodyOf Tryd.prog 66))) (b := (Code.sub [true, true, true, true, true, true, true, true, false, false, false, true, false, true, true, true, true, true, true, true, true] (bodyOf Tryd.prog 66))) (A := (fun r h => J66_9 F M L1 (r 0) (r 1) (r 8) h)) (B := (fun r h => J66_10 F M L1 (r 0) (r 1) (r 5) (r 6) (r 7) (r 8) (r 9) (r 10) h)) (y := .tmp 132) (by kernel_rfl) (J66_9_ok F M L1) (J66_10_ok F M L1) r h).trans (by kernel_rfl)
noncomputable def J66_12 (F : CallH) (M : Nat) (L1 : Value → Value → Value → Value → Value → Value → Value → Value → AH → Res) (v0 : Value) (v1 : Value) (v5 : Value) (v6 : Value) (v7 : Value) (v8 : Value) (v9 : Value) (v10 : Value) (h : AH) : Res :=
  bindO (ld1 h (glob 12)) fun v119 =>
  bindO (ibin .gtr v5 v119) fun v120 =>
  condO v120 (
  bindO (ibin .shr v8 (.int .u64 4)) fun v124 =>
  bindO (ibin .add (.int .i64 4) v124) fun v125 =>
  bindO (ibin .geq v10 v125) fun v126 =>
  condO v126 (
  bindO (ibin .lss v8 v9) fun v131 =>
  J66_11 F M L1 v0 v1 v5 v6 v7 v8 v9 v10 v131 h) (
  J66_11 F M L1 v0 v1 v5 v6 v7 v8 v9 v10 (.bool false) h)) (
  J66_11 F M L1 v0 v1 v5 v6 v7 v8 v9 v10 (.bool false) h)
theorem J66_12_ok (F : CallH) (M : Nat) (L1 : Value → Value → Value → Value → Value → Value → Value → Value → AH → Res) : ∀ r h, kcode Tryd.prog F 143 M (Code.sub [true, true, true, true, true, true, true, true, false, false, false, true, false, true, true, true, true, true, true] (bodyOf Tryd.prog 66)) r h (KX (fun r h => L1 (r 0) (r 1) (r 5) (r 6) (r 7) (r 8) (r 9) (r 10) h) (exitsOf [(2, (fun r h => L1 (r 0) (r 1) (r 5) (r 6) (r 7) (r 8) (r 9) (r 10) h)), (1, (fun r h => J66_0 F M h))]) (fun r h => E66 (r 4) h)) = J66_12 F M L1 (r 0) (r 1) (r 5) (r 6) (r 7) (r 8) (r 9) (r 10) h :=
  seq_pt (a := (Code.sub [true, true, true, true, true, true, true, true, false, false, false, true, false, true, true, true, true, true, true, false] (bodyOf Tryd.prog 66))) (b := (Code.sub [true, true, true, true, true, true, true, true, false, false, false, true, false, true, true, true, true, true, true, true] (bodyOf Tryd.prog 66))) (T := (fun r h => J66_12 F M L1 (r 0) (r 1) (r 5) (r 6) (r 7) (r 8) (r 9) (r 10) h)) (g := (fun r h => J66_11 F M L1 (r 0) (r 1) (r 5) (r 6) (r 7) (r 8) (r 9) (r 10) (r 132) h)) (by kernel_rfl) (J66_11_ok F M L1) (fun r h => by kernel_rfl)
noncomputable def J66_13 (F : CallH) (M : Nat) (L1 : Value → Value → Value → Value → Value → Value → Value → Value → AH → Res) (v0 : Value) (v1 : Value) (v5 : Value) (v6 : Value) (v7 : Value) (v8 : Value) (v9 : Value) (v10 : Value) (v107 : Value) (h : AH) : Res :=
  condO v107 (J66_5 F M L1 v0 v1 v8 h) (J66_12 F M L1 v0 v1 v5 v6 v7 v8 v9 v10 h)
theorem J66_13_ok (F : CallH) (M : Nat) (L1 : Value → Value → Value → Value → Value → Value → Value → Value → AH → Res) : ∀ r h, kcode Tryd.prog F 143 M (Code.sub [true, true, true, true, true, true, true, true, false, false, false, true, false, true, true, true, true, true] (bodyOf Tryd.prog 66)) r h (KX (fun r h => L1 (r 0) (r 1) (r 5) (r 6) (r 7) (r 8) (r 9) (r 10) h) (exitsOf [(2, (fun r h => L1 (r 0) (r 1) (r 5) (r 6) (r 7) (r 8) (r 9) (r 10) h)), (1, (fun r h => J66_0 F M h))]) (fun r h => E66 (r 4) h)) = J66_13 F M L1 (r 0) (r 1) (r 5) (r 6) (r 7) (r 8) (r 9) (r 10) (r 107) h :=
  fun r h => (cond_pt (a := (Code.sub [true, true, true, true, true, true, true, true, false, false, false, true, false, true, true, true, true, true, false] (bodyOf Tryd.prog 66))) (b := (Code.sub [true, true, true, true, true, true, true, true, false, false, false, true, false, true, true, true, true, true, true] (bodyOf Tryd.prog 66))) (A := (fun r h => J66_5 F M L1 (r 0) (r 1) (r 8) h)) (B := (fun r h => J66_12 F M L1 (r 0) (r 1) (r 5) (r 6) (r 7) (r 8) (r 9) (r 10) h)) (y := .tmp 107) (by kernel_rfl) (J66_5_ok F M L1) (J66_12_ok F M L1) r h).trans (by kernel_rfl)
noncomputable def J66_14 (F : CallH) (M : Nat) (L1 : Value → Value → Value → Value → Value → Value → Value → Value → AH → Res) (v0 : Value) (v1 : Value) (v5 : Value) (v6 : Value) (v7 : Value) (v8 : Value) (v9 : Value) (v10 : Value) (h : AH) : Res :=
  bindO (ld1 h (glob 12)) fun v100 =>
  bindO (ibin .leq v5 v100) fun v101 =>
  condO v101 (
  bindO (F 78 [v8] h) fun pv105 =>
  bindO (ibin .gtr v10 pv105.1) fun v106 =>
  J66_13 F M L1 v0 v1 v5 v6 v7 v8 v9 v10 v106 pv105.2) (
  J66_13 F M L1 v0 v1 v5 v6 v7 v8 v9 v10 (.bool false) h)
theorem J66_14_ok (F : CallH) (M : Nat) (L1 : Value → Value → Value → Value → Value → Value → Value → Value → AH → Res) : ∀ r h, kcode Tryd.prog F 143 M (Code.sub [true, true, true, true, true, true, true, true, false, false, false, true, false, true, true, true, true] (bodyOf Tryd.prog 66)) r h (KX (fun r h => L1 (r 0) (r 1) (r 5) (r 6) (r 7) (r 8) (r 9) (r 10) h) (exitsOf [(2, (fun r h => L1 (r 0) (r 1) (r 5) (r 6) (r 7) (r 8) (r 9) (r 10) h)), (1, (fun r h => J66_0 F M h))]) (fun r h => E66 (r 4) h)) = J66_14 F M L1 (r 0) (r 1) (r 5) (r 6) (r 7) (r 8) (r 9) (r 10) h :=
  seq_pt (a := (Code.sub [true, true, true, true, true, true, true, true, false, false, false, true, false, true, true, true, true, false] (bodyOf Tryd.prog 66))) (b := (Code.sub [true, true, true, true, true, true, true, true, false, false, false, true, false, true, true, true, true, true] (bodyOf Tryd.prog 66))) (T := (fun r h => J66_14 F M L1 (r 0) (r 1) (r 5) (r 6) (r 7) (r 8) (r 9) (r 10) h)) (g := (fun r h => J66_13 F M L1 (r 0) (r 1) (r 5) (r 6) (r 7) (r 8) (r 9) (r 10) (r 107) h)) (by kernel_rfl) (J66_13_ok F M L1) (fun r h => by kernel_rfl)
noncomputable def J66_15 (F : CallH) (M : Nat) (L1 : Value → Value → Value → Value → Value → Value → Value → Value → AH → Res) (v0 : Value) (v1 : Value) (v5 : Value) (v6 : Value) (v7 : Value) (v8 : Value) (v9 : Value) (v10 : Value) (h : AH) : Res :=
  bindO (ibin .add v10 (.int .i64 1)) fun v98 =>
  J66_14 F M L1 v0 v1 v5 v6 v7 v8 v9 v98 h
theorem J66_15_ok (F : CallH) (M : Nat) (L1 : Value → Value → Value → Value → Value → Value → Value → Value → AH → Res) : ∀ r h, kcode Tryd.prog F 143 M (Code.sub [true, true, true, true, true, true, true, true, false, false, false, true, false, true, true, true] (bodyOf Tryd.prog 66)) r h (KX (fun r h => L1 (r 0) (r 1) (r 5) (r 6) (r 7) (r 8) (r 9) (r 10) h) (exitsOf [(2, (fun r h => L1 (r 0) (r 1) (r 5) (r 6) (r 7) (r 8) (r 9) (r 10) h)), (1, (fun r h => J66_0 F M h))]) (fun r h => E66 (r 4) h)) = J66_15 F M L1 (r 0) (r 1) (r 5) (r 6) (r 7) (r 8) (r 9) (r 10) h :=
  seq_pt (a := (Code.sub [true, true, true, true, true, true, true, true, false, false, false, true, false, true, true, true, false] (bodyOf Tryd.prog 66))) (b := (Code.sub [true, true, true, true, true, true, true, true, false, false, false, true, false, true, true, true, true] (bodyOf Tryd.prog 66))) (T := (fun r h => J66_15 F M L1 (r 0) (r 1) (r 5) (r 6) (r 7) (r 8) (r 9) (r 10) h)) (g := (fun r h => J66_14 F M L1 (r 0) (r 1) (r 5) (r 6) (r 7) (r 8) (r 9) (r 10) h)) (by kernel_rfl) (J66_14_ok F M L1) (fun r h => by kernel_rfl)
noncomputable def J66_16 (F : CallH) (M : Nat) (L1 : Value → Value → Value → Value → Value → Value → Value → Value → AH → Res) (v0 : Value) (v1 : Value) (v5 : Value) (v6 : Value) (v7 : Value) (v8 : Value) (v9 : Value) (v10 : Value) (h : AH) : Res :=
  bindO (ibin .add v8 (.int .i64 1)) fun v96 =>
  J66_15 F M L1 v0 v1 v5 v6 v7 v96 v9 v10 h
theorem J66_16_ok (F : CallH) (M : Nat) (L1 : Value → Value → Value → Value → Value → Value → Value → Value → AH → Res) : ∀ r h, kcode Tryd.prog F 143 M (Code.sub [true, true, true, true, true, true, true, true, false, false, false, true, false, true, true] (bodyOf Tryd.prog 66)) r h (KX (fun r h => L1 (r 0) (r 1) (r 5) (r 6) (r 7) (r 8) (r 9) (r 10) h) (exitsOf [(2, (fun r h => L1 (r 0) (r 1) (r 5) (r 6) (r 7) (r 8) (r 9) (r 10) h)), (1, (fun r h => J66_0 F M h))]) (fun r h => E66 (r 4) h)) = J66_16 F M L1 (r 0) (r 1) (r 5) (r 6) (r 7) (r 8) (r 9) (r 10) h :=
  seq_pt (a := (Code.sub [true, true, true, true, true, true, true, true, false, false, false, true, false, true, true, false] (bodyOf Tryd.prog 66))) (b := (Code.sub [true, true, true, true, true, true, true, true, false, false, false, true, false, true, true, true] (bodyOf Tryd.prog 66))) (T := (fun r h => J66_16 F M L1 (r 0) (r 1) (r 5) (r 6) (r 7) (r 8) (r 9) (r 10) h)) (g := (fun r h => J66_15 F M L1 (r 0) (r 1) (r 5) (r 6) (r 7) (r 8) (r 9) (r 10) h)) (by kernel_rfl) (J66_15_ok F M L1) (fun r h => by kernel_rfl)
noncomputable def J66_17 (F : CallH) (M : Nat) (L1 : Value → Value → Value → Value → Value → Value → Value → Value → AH → Res) (v0 : Value) (v1 : Value) (v5 : Value) (v6 : Value) (v7 : Value) (v8 : Value) (v9 : Value) (v10 : Value) (h : AH) : Res :=
  bindO (ibin .add v8 (.int .i64 1)) fun v80 =>
  bindO (ixS v0 v80) fun v81 =>
  bindO (ibin .eql v81 v7) fun v83 =>
  condO v83 (
  bindO (ibin .add v8 v5) fun v89 =>
  bindO (xslS v0 (some v8) (some v89)) fun v90 =>
  bindO (sbin .eql v90 v1) fun v92 =>
  condO v92 (
  E66 v8 h) (
  J66_16 F M L1 v0 v1 v5 v6 v7 v8 v9 v10 h)) (
  J66_16 F M L1 v0 v1 v5 v6 v7 v8 v9 v10 h)
theorem J66_17_ok (F : CallH) (M : Nat) (L1 : Value → Value → Value → Value → Value → Value → Value → Value → AH → Res) : ∀ r h, kcode Tryd.prog F 143 M (Code.sub [true, true, true, true, true, true, true, true, false, false, false, true, false, true, false] (bodyOf Tryd.prog 66)) r h (KX (fun r h => J66_16 F M L1 (r 0) (r 1) (r 5) (r 6) (r 7) (r 8) (r 9) (r 10) h) (exitsOf [(2, (fun r h => L1 (r 0) (r 1) (r 5) (r 6) (r 7) (r 8) (r 9) (r 10) h)), (1, (fun r h => J66_0 F M h))]) (fun r h => E66 (r 4) h)) = J66_17 F M L1 (r 0) (r 1) (r 5) (r 6) (r 7) (r 8) (r 9) (r 10) h := fun r h => by kernel_rfl
theorem J66_18_ok (F : CallH) (M : Nat) (L1 : Value → Value → Value → Value → Value → Value → Value → Value → AH → Res) : ∀ r h, kcode Tryd.prog F 143 M (Code.sub [true, true, true, true, true, true, true, true, false, false, false, true, false, true] (bodyOf Tryd.prog 66)) r h (KX (fun r h => L1 (r 0) (r 1) (r 5) (r 6) (r 7) (r 8) (r 9) (r 10) h) (exitsOf [(2, (fun r h => L1 (r 0) (r 1) (r 5) (r 6) (r 7) (r 8) (r 9) (r 10) h)), (1, (fun r h => J66_0 F M h))]) (fun r h => E66 (r 4) h)) = J66_17 F M L1 (r 0) (r 1) (r 5) (r 6) (r 7) (r 8) (r 9) (r 10) h :=
  seq_pt (a := (Code.sub [true, true, true, true, true, true, true, true, false, false, false, true, false, true, false] (bodyOf Tryd.prog 66))) (b := (Code.sub [true, true, true, true, true, true, true, true, false, false, false, true, false, true, true] (bodyOf Tryd.prog 66))) (T := (fun r h => J66_17 F M L1 (r 0) (r 1) (r 5) (r 6) (r 7) (r 8) (r 9) (r 10) h)) (g := (fun r h => J66_16 F M L1 (r 0) (r 1) (r 5) (r 6) (r 7) (r 8) (r 9) (r 10) h)) (by kernel_rfl) (J66_16_ok F M L1) (J66_17_ok F M L1)
noncomputable def J66_19 (F : CallH) (M : Nat) (L1 : Value → Value → Value → Value → Value → Value → Value → Value → AH → Res) (v0 : Value) (v1 : Value) (v5 : Value) (v6 : Value) (v7 : Value) (v8 : Value) (v9 : Value) (v10 : Value) (v11 : Value) (h : AH) : Res :=
  bindO (ibin .add v11 (.int .i64 1)) fun v76 =>
  bindO (ibin .add v8 v76) fun v77 =>
  J66_17 F M L1 v0 v1 v5 v6 v7 v77 v9 v10 h
theorem J66_19_ok (F : CallH) (M : Nat) (L1 : Value → Value → Value → Value → Value → Value → Value → Value → AH → Res) : ∀ r h, kcode Tryd.prog F 143 M (Code.sub [true, true, true, true, true, true, true, true, false, false, false, true, false, false, true, false, true, true] (bodyOf Tryd.prog 66)) r h (KX (fun r h => J66_17 F M L1 (r 0) (r 1) (r 5) (r 6) (r 7) (r 8) (r 9) (r 10) h) (exitsOf [(2, (fun r h => L1 (r 0) (r 1) (r 5) (r 6) (r 7) (r 8) (r 9) (r 10) h)), (1, (fun r h => J66_0 F M h))]) (fun r h => E66 (r 4) h)) = J66_19 F M L1 (r 0) (r 1) (r 5) (r 6) (r 7) (r 8) (r 9) (r 10) (r 11) h := fun r h => by kernel_rfl
noncomputable def J66_20 (F : CallH) (M : Nat) (L1 : Value → Value → Value → Value → Value → Value → Value → Value → AH → Res) (v0 : Value) (v1 : Value) (v5 : Value) (v6 : Value) (v7 : Value) (v8 : Value) (v9 : Value) (v10 : Value) (v11 : Value) (h : AH) : Res :=
  bindO (ibin .lss v11 (.int .i64 0)) fun v73 =>
  condO v73 (
  E66 (.int .i64 (-1)) h) (
  J66_19 F M L1 v0 v1 v5 v6 v7 v8 v9 v10 v11 h)
theorem J66_20_ok (F : CallH) (M : Nat) (L1 : Value → Value → Value → Value → Value → Value → Value → Value → AH → Res) : ∀ r h, kcode Tryd.prog F 143 M (Code.sub [true, true, true, true, true, true, true, true, false, false, false, true, false, false, true, false, true, false] (bodyOf Tryd.prog 66)) r h (KX (fun r h => J66_19 F M L1 (r 0) (r 1) (r 5) (r 6) (r 7) (r 8) (r 9) (r 10) (r 11) h) (exitsOf [(2, (fun r h => L1 (r 0) (r 1) (r 5) (r 6) (r 7) (r 8) (r 9) (r 10) h)), (1, (fun r h => J66_0 F M h))]) (fun r h => E66 (r 4) h)) = J66_20 F M L1 (r 0) (r 1) (r 5) (r 6) (r 7) (r 8) (r 9) (r 10) (r 11) h := fun r h => by kernel_rfl
theorem J66_21_ok (F : CallH) (M : Nat) (L1 : Value → Value → Value → Value → Value → Value → Value → Value → AH → Res) : ∀ r h, kcode Tryd.prog F 143 M (Code.sub [true, true, true, true, true, true, true, true, false, false, false, true, false, false, true, false, true] (bodyOf Tryd.prog 66)) r h (KX (fun r h => J66_17 F M L1 (r 0) (r 1) (r 5) (r 6) (r 7) (r 8) (r 9) (r 10) h) (exitsOf [(2, (fun r h => L1 (r 0) (r 1) (r 5) (r 6) (r 7) (r 8) (r 9) (r 10) h)), (1, (fun r h => J66_0 F M h))]) (fun r h => E66 (r 4) h)) = J66_20 F M L1 (r 0) (r 1) (r 5) (r 6) (r 7) (r 8) (r 9) (r 10) (r 11) h :=
  seq_pt (a := (Code.sub [true, true, true, true, true, true, true, true, false, false, false, true, false, false, true, false, true, false] (bodyOf Tryd.prog 66))) (b := (Code.sub [true, true, true, true, true, true, true, true, false, false, false, true, false, false, true, false, true, true] (bodyOf Tryd.prog 66))) (T := (fun r h => J66_20 F M L1 (r 0) (r 1) (r 5) (r 6) (r 7) (r 8) (r 9) (r 10) (r 11) h)) (g := (fun r h => J66_19 F M L1 (r 0) (r 1) (r 5) (r 6) (r 7) (r 8) (r 9) (r 10) (r 11) h)) (by kernel_rfl) (J66_19_ok F M L1) (J66_20_ok F M L1)
noncomputable def J66_22 (F : CallH) (M : Nat) (L1 : Value → Value → Value → Value → Value → Value → Value → Value → AH → Res) (v0 : Value) (v1 : Value) (v5 : Value) (v6 : Value) (v7 : Value) (v8 : Value) (v9 : Value) (v10 : Value) (h : AH) : Res :=
  bindO (ibin .add v8 (.int .i64 1)) fun v67 =>
  bindO (xslS v0 (some v67) (some v9)) fun v69 =>
  bindO (F 76 [v69, v6] h) fun pv71 =>
  J66_20 F M L1 v0 v1 v5 v6 v7 v8 v9 v10 pv71.1 pv71.2
theorem J66_22_ok (F : CallH) (M : Nat) (L1 : Value → Value → Value → Value → Value → Value → Value → Value → AH → Res) : ∀ r h, kcode Tryd.prog F 143 M (Code.sub [true, true, true, true, true, true, true, true, false, false, false, true, false, false, true, false] (bodyOf Tryd.prog 66)) r h (KX (fun r h => J66_17 F M L1 (r 0) (r 1) (r 5) (r 6) (r 7) (r 8) (r 9) (r 10) h) (exitsOf [(2, (fun r h => L1 (r 0) (r 1) (r 5) (r 6) (r 7) (r 8) (r 9) (r 10) h)), (1, (fun r h => J66_0 F M h))]) (fun r h => E66 (r 4) h)) = J66_22 F M L1 (r 0) (r 1) (r 5) (r 6) (r 7) (r 8) (r 9) (r 10) h :=
  seq_pt (a := (Code.sub [true, true, true, true, true, true, true, true, false, false, false, true, false, false, true, false, false] (bodyOf Tryd.prog 66))) (b := (Code.sub [true, true, true, true, true, true, true, true, false, false, false, true, false, false, true, false, true] (bodyOf Tryd.prog 66))) (T := (fun r h => J66_22 F M L1 (r 0) (r 1) (r 5) (r 6) (r 7) (r 8) (r 9) (r 10) h)) (g := (fun r h => J66_20 F M L1 (r 0) (r 1) (r 5) (r 6) (r 7) (r 8) (r 9) (r 10) (r 11) h)) (by kernel_rfl) (J66_21_ok F M L1) (fun r h => by kernel_rfl)
noncomputable def J66_23 (F : CallH) (M : Nat) (L1 : Value → Value → Value → Value → Value → Value → Value → Value → AH → Res) (v0 : Value) (v1 : Value) (v5 : Value) (v6 : Value) (v7 : Value) (v8 : Value) (v9 : Value) (v10 : Value) (h : AH) : Res :=
  J66_17 F M L1 v0 v1 v5 v6 v7 v8 v9 v10 h
theorem J66_23_ok (F : CallH) (M : Nat) (L1 : Value → Value → Value → Value → Value → Value → Value → Value → AH → Res) : ∀ r h, kcode Tryd.prog F 143 M (Code.sub [true, true, true, true, true, true, true, true, false, false, false, true, false, false, true, true] (bodyOf Tryd.prog 66)) r h (KX (fun r h => J66_17 F M L1 (r 0) (r 1) (r 5) (r 6) (r 7) (r 8) (r 9) (r 10) h) (exitsOf [(2, (fun r h => L1 (r 0) (r 1) (r 5) (r 6) (r 7) (r 8) (r 9) (r 10) h)), (1, (fun r h => J66_0 F M h))]) (fun r h => E66 (r 4) h)) = J66_23 F M L1 (r 0) (r 1) (r 5) (r 6) (r 7) (r 8) (r 9) (r 10) h := fun r h => by kernel_rfl
noncomputable def J66_24 (F : CallH) (M : Nat) (L1 : Value → Value → Value → Value → Value → Value → Value → Value → AH → Res) (v0 : Value) (v1 : Value) (v5 : Value) (v6 : Value) (v7 : Value) (v8 : Value) (v9 : Value) (v10 : Value) (v64 : Value) (h : AH) : Res :=
  condO v64 (J66_22 F M L1 v0 v1 v5 v6 v7 v8 v9 v10 h) (J66_23 F M L1 v0 v1 v5 v6 v7 v8 v9 v10 h)
theorem J66_24_ok (F : CallH) (M : Nat) (L1 : Value → Value → Value → Value → Value → Value → Value → Value → AH → Res) : ∀ r h, kcode Tryd.prog F 143 M (Code.sub [true, true, true, true, true, true, true, true, false, false, false, true, false, false, true] (bodyOf Tryd.prog 66)) r h (KX (fun r h => J66_17 F M L1 (r 0) (r 1) (r 5) (r 6) (r 7) (r 8) (r 9) (r 10) h) (exitsOf [(2, (fun r h => L1 (r 0) (r 1) (r 5) (r 6) (r 7) (r 8) (r 9) (r 10) h)), (1, (fun r h => J66_0 F M h))]) (fun r h => E66 (r 4) h)) = J66_24 F M L1 (r 0) (r 1) (r 5) (r 6) (r 7) (r 8) (r 9) (r 10) (r 64) h :=
  fun r h => (cond_pt (a := (Code.sub [true, true, true, true, true, true, true, true, false, false, false, true, false, false, true, false] (bodyOf Tryd.prog 66))) (b := (Code.sub [true, true, true, true, true, true, true, true, false, false, false, true, false, false, true, true] (bodyOf Tryd.prog 66))) (A := (fun r h => J66_22 F M L1 (r 0) (r 1) (r 5) (r 6) (r 7) (r 8) (r 9) (r 10) h)) (B := (fun r h => J66_23 F M L1 (r 0) (r 1) (r 5) (r 6) (r 7) (r 8) (r 9) (r 10) h)) (y := .tmp 64) (by kernel_rfl) (J66_22_ok F M L1) (J66_23_ok F M L1) r h).trans (by kernel_rfl)
noncomputable def J66_25 (F : CallH) (M : Nat) (L1 : Value → Value → Value → Value → Value → Value → Value → Value → AH → Res) (v0 : Value) (v1 : Value) (v5 : Value) (v6 : Value) (v7 : Value) (v8 : Value) (v9 : Value) (v10 : Value) (h : AH) : Res :=
  bindO (ixS v0 v8) fun v62 =>
  bindO (ibin .neq v62 v6) fun v64 =>
  J66_24 F M L1 v0 v1 v5 v6 v7 v8 v9 v10 v64 h
theorem J66_25_ok (F : CallH) (M : Nat) (L1 : Value → Value → Value → Value → Value → Value → Value → Value → AH → Res) : ∀ r h, kcode Tryd.prog F 143 M (Code.sub [true, true, true, true, true, true, true, true, false, false, false, true, false, false] (bodyOf Tryd.prog 66)) r h (KX (fun r h => J66_17 F M L1 (r 0) (r 1) (r 5) (r 6) (r 7) (r 8) (r 9) (r 10) h) (exitsOf [(2, (fun r h => L1 (r 0) (r 1) (r 5) (r 6) (r 7) (r 8) (r 9) (r 10) h)), (1, (fun r h => J66_0 F M h))]) (fun r h => E66 (r 4) h)) = J66_25 F M L1 (r 0) (r 1) (r 5) (r 6) (r 7) (r 8) (r 9) (r 10) h :=
  seq_pt (a := (Code.sub [true, true, true, true, true, true, true, true, false, false, false, true, false, false, false] (bodyOf Tryd.prog 66))) (b := (Code.sub [true, true, true, true, true, true, true, true, false, false, false, true, false, false, true] (bodyOf Tryd.prog 66))) (T := (fun r h => J66_25 F M L1 (r 0) (r 1) (r 5) (r 6) (r 7) (r 8) (r 9) (r 10) h)) (g := (fun r h => J66_24 F M L1 (r 0) (r 1) (r 5) (r 6) (r 7) (r 8) (r 9) (r 10) (r 64) h)) (by kernel_rfl) (J66_24_ok F M L1) (fun r h => by kernel_rfl)
theorem J66_26_ok (F : CallH) (M : Nat) (L1 : Value → Value → Value → Value → Value → Value → Value → Value → AH → Res) : ∀ r h, kcode Tryd.prog F 143 M (Code.sub [true, true, true, true, true, true, true, true, false, false, false, true, false] (bodyOf Tryd.prog 66)) r h (KX (fun r h => L1 (r 0) (r 1) (r 5) (r 6) (r 7) (r 8) (r 9) (r 10) h) (exitsOf [(2, (fun r h => L1 (r 0) (r 1) (r 5) (r 6) (r 7) (r 8) (r 9) (r 10) h)), (1, (fun r h => J66_0 F M h))]) (fun r h => E66 (r 4) h)) = J66_25 F M L1 (r 0) (r 1) (r 5) (r 6) (r 7) (r 8) (r 9) (r 10) h :=
  seq_pt (a := (Code.sub [true, true, true, true, true, true, true, true, false, false, false, true, false, false] (bodyOf Tryd.prog 66))) (b := (Code.sub [true, true, true, true, true, true, true, true, false, false, false, true, false, true] (bodyOf Tryd.prog 66))) (T := (fun r h => J66_25 F M L1 (r 0) (r 1) (r 5) (r 6) (r 7) (r 8) (r 9) (r 10) h)) (g := (fun r h => J66_17 F M L1 (r 0) (r 1) (r 5) (r 6) (r 7) (r 8) (r 9) (r 10) h)) (by kernel_rfl) (J66_18_ok F M L1) (J66_25_ok F M L1)
theorem J66_27_ok (F : CallH) (M : Nat) (L1 : Value → Value → Value → Value → Value → Value → Value → Value → AH → Res) : ∀ r h, kcode Tryd.prog F 143 M (Code.sub [true, true, true, true, true, true, true, true, false, false, false, true] (bodyOf Tryd.prog 66)) r h (KX (fun r h => L1 (r 0) (r 1) (r 5) (r 6) (r 7) (r 8) (r 9) (r 10) h) (exitsOf [(1, (fun r h => J66_0 F M h))]) (fun r h => E66 (r 4) h)) = J66_25 F M L1 (r 0) (r 1) (r 5) (r 6) (r 7) (r 8) (r 9) (r 10) h :=
  block_pt (b := (Code.sub [true, true, true, true, true, true, true, true, false, false, false, true, false] (bodyOf Tryd.prog 66))) (T := (fun r h => J66_25 F M L1 (r 0) (r 1) (r 5) (r 6) (r 7) (r 8) (r 9) (r 10) h)) (id := 2) (by kernel_rfl) (J66_26_ok F M L1)
noncomputable def J66_28 (F : CallH) (M : Nat) (L1 : Value → Value → Value → Value → Value → Value → Value → Value → AH → Res) (v0 : Value) (v1 : Value) (v5 : Value) (v6 : Value) (v7 : Value) (v8 : Value) (v9 : Value) (v10 : Value) (h : AH) : Res :=
  bindO (ibin .lss v8 v9) fun v59 =>
  condO v59 (
  J66_25 F M L1 v0 v1 v5 v6 v7 v8 v9 v10 h) (
  J66_0 F M h)
theorem J66_28_ok (F : CallH) (M : Nat) (L1 : Value → Value → Value → Value → Value → Value → Value → Value → AH → Res) : ∀ r h, kcode Tryd.prog F 143 M (Code.sub [true, true, true, true, true, true, true, true, false, false, false, false] (bodyOf Tryd.prog 66)) r h (KX (fun r h => J66_25 F M L1 (r 0) (r 1) (r 5) (r 6) (r 7) (r 8) (r 9) (r 10) h) (exitsOf [(1, (fun r h => J66_0 F M h))]) (fun r h => E66 (r 4) h)) = J66_28 F M L1 (r 0) (r 1) (r 5) (r 6) (r 7) (r 8) (r 9) (r 10) h := fun r h => by kernel_rfl
theorem J66_29_ok (F : CallH) (M : Nat) (L1 : Value → Value → Value → Value → Value → Value → Value → Value → AH → Res) : ∀ r h, kcode Tryd.prog F 143 M (Code.sub [true, true, true, true, true, true, true, true, false, false, false] (bodyOf Tryd.prog 66)) r h (KX (fun r h => L1 (r 0) (r 1) (r 5) (r 6) (r 7) (r 8) (r 9) (r 10) h) (exitsOf [(1, (fun r h => J66_0 F M h))]) (fun r h => E66 (r 4) h)) = J66_28 F M L1 (r 0) (r 1) (r 5) (r 6) (r 7) (r 8) (r 9) (r 10) h :=
  seq_pt (a := (Code.sub [true, true, true, true, true, true, true, true, false, false, false, false] (bodyOf Tryd.prog 66))) (b := (Code.sub [true, true, true, true, true, true, true, true, false, false, false, true] (bodyOf Tryd.prog 66))) (T := (fun r h => J66_28 F M L1 (r 0) (r 1) (r 5) (r 6) (r 7) (r 8) (r 9) (r 10) h)) (g := (fun r h => J66_25 F M L1 (r 0) (r 1) (r 5) (r 6) (r 7) (r 8) (r 9) (r 10) h)) (by kernel_rfl) (J66_27_ok F M L1) (J66_28_ok F M L1)
noncomputable def L66_1 (F : CallH) (M : Nat) : Nat → Value → Value → Value → Value → Value → Value → Value → Value → AH → Res
  | 0, _, _, _, _, _, _, _, _, _ => none
  | m + 1, v0, v1, v5, v6, v7, v8, v9, v10, h => J66_28 F M (L66_1 F M m) v0 v1 v5 v6 v7 v8 v9 v10 h
theorem L66_1_ok (F : CallH) (M : Nat) : ∀ r h, kcode Tryd.prog F 143 M (Code.sub [true, true, true, true, true, true, true, true, false, false] (bodyOf Tryd.prog 66)) r h (KX (fun r h => J66_0 F M h) (exitsOf [(1, (fun r h => J66_0 F M h))]) (fun r h => E66 (r 4) h)) = L66_1 F M M (r 0) (r 1) (r 5) (r 6) (r 7) (r 8) (r 9) (r 10) h :=
  loop_pt (b := (Code.sub [true, true, true, true, true, true, true, true, false, false, false] (bodyOf Tryd.prog 66))) (by kernel_rfl) (fun m r h => L66_1 F M m (r 0) (r 1) (r 5) (r 6) (r 7) (r 8) (r 9) (r 10) h) (fun _ _ => rfl) (fun m r h => ((J66_29_ok F M (L66_1 F M m)) r h).trans rfl)
theorem J66_30_ok (F : CallH) (M : Nat) : ∀ r h, kcode Tryd.prog F 143 M (Code.sub [true, true, true, true, true, true, true, true, false] (bodyOf Tryd.prog 66)) r h (KX (fun r h => J66_0 F M h) (exitsOf []) (fun r h => E66 (r 4) h)) = L66_1 F M M (r 0) (r 1) (r 5) (r 6) (r 7) (r 8) (r 9) (r 10) h :=
  block_pt (b := (Code.sub [true, true, true, true, true, true, true, true, false, false] (bodyOf Tryd.prog 66))) (T := (fun r h => L66_1 F M M (r 0) (r 1) (r 5) (r 6) (r 7) (r 8) (r 9) (r 10) h)) (id := 1) (by kernel_rfl) (L66_1_ok F M)
theorem J66_31_ok (F : CallH) (M : Nat) : ∀ r h, kcode Tryd.prog F 143 M (Code.sub [true, true, true, true, true, true, true, true] (bodyOf Tryd.prog 66)) r h (KX (fun r h => E66 (r 4) h) (exitsOf []) (fun r h => E66 (r 4) h)) = L66_1 F M M (r 0) (r 1) (r 5) (r 6) (r 7) (r 8) (r 9) (r 10) h :=
  seq_pt (a := (Code.sub [true, true, true, true, true, true, true, true, false] (bodyOf Tryd.prog 66))) (b := (Code.sub [true, true, true, true, true, true, true, true, true] (bodyOf Tryd.prog 66))) (T := (fun r h => L66_1 F M M (r 0) (r 1) (r 5) (r 6) (r 7) (r 8) (r 9) (r 10) h)) (g := (fun r h => J66_0 F M h)) (by kernel_rfl) (J66_0_ok F M) (J66_30_ok F M)
noncomputable def J66_32 (F : CallH) (M : Nat) (v0 : Value) (v1 : Value) (v5 : Value) (v6 : Value) (v7 : Value) (v8 : Value) (v9 : Value) (h : AH) : Res :=
  L66_1 F M M v0 v1 v5 v6 v7 v8 v9 (.int .i64 0) h
theorem J66_32_ok (F : CallH) (M : Nat) : ∀ r h, kcode Tryd.prog F 143 M (Code.sub [true, true, true, true, true, true, true] (bodyOf Tryd.prog 66)) r h (KX (fun r h => E66 (r 4) h) (exitsOf []) (fun r h => E66 (r 4) h)) = J66_32 F M (r 0) (r 1) (r 5) (r 6) (r 7) (r 8) (r 9) h :=
  seq_pt (a := (Code.sub [true, true, true, true, true, true, true, false] (bodyOf Tryd.prog 66))) (b := (Code.sub [true, true, true, true, true, true, true, true] (bodyOf Tryd.prog 66))) (T := (fun r h => J66_32 F M (r 0) (r 1) (r 5) (r 6) (r 7) (r 8) (r 9) h)) (g := (fun r h => L66_1 F M M (r 0) (r 1) (r 5) (r 6) (r 7) (r 8) (r 9) (r 10) h)) (by kernel_rfl) (J66_31_ok F M) (fun r h => by kernel_rfl)
noncomputable def J66_33 (F : CallH) (M : Nat) (v0 : Value) (v1 : Value) (v5 : Value) (v6 : Value) (v7 : Value) (v8 : Value) (h : AH) : Res :=
  bindO (xlenS v0) fun v53 =>
  bindO (ibin .sub v53 v5) fun v55 =>
  bindO (ibin .add v55 (.int .i64 1)) fun v56 =>
  J66_32 F M v0 v1 v5 v6 v7 v8 v56 h
theorem J66_33_ok (F : CallH) (M : Nat) : ∀ r h, kcode Tryd.prog F 143 M (Code.sub [true, true, true, true, true, true] (bodyOf Tryd.prog 66)) r h (KX (fun r h => E66 (r 4) h) (exitsOf []) (fun r h => E66 (r 4) h)) = J66_33 F M (r 0) (r 1) (r 5) (r 6) (r 7) (r 8) h :=
  seq_pt (a := (Code.sub [true, true, true, true, true, true, false] (bodyOf Tryd.prog 66))) (b := (Code.sub [true, true, true, true, true, true, true] (bodyOf Tryd.prog 66))) (T := (fun r h => J66_33 F M (r 0) (r 1) (r 5) (r 6) (r 7) (r 8) h)) (g := (fun r h => J66_32 F M (r 0) (r 1) (r 5) (r 6) (r 7) (r 8) (r 9) h)) (by kernel_rfl) (J66_32_ok F M) (fun r h => by kernel_rfl)
noncomputable def J66_34 (F : CallH) (M : Nat) (v0 : Value) (v1 : Value) (v5 : Value) (v6 : Value) (v7 : Value) (h : AH) : Res :=
  J66_33 F M v0 v1 v5 v6 v7 (.int .i64 0) h
theorem J66_34_ok (F : CallH) (M : Nat) : ∀ r h, kcode Tryd.prog F 143 M (Code.sub [true, true, true, true, true] (bodyOf Tryd.prog 66)) r h (KX (fun r h => E66 (r 4) h) (exitsOf []) (fun r h => E66 (r 4) h)) = J66_34 F M (r 0) (r 1) (r 5) (r 6) (r 7) h :=
  seq_pt (a := (Code.sub [true, true, true, true, true, false] (bodyOf Tryd.prog 66))) (b := (Code.sub [true, true, true, true, true, true] (bodyOf Tryd.prog 66))) (T := (fun r h => J66_34 F M (r 0) (r 1) (r 5) (r 6) (r 7) h)) (g := (fun r h => J66_33 F M (r 0) (r 1) (r 5) (r 6) (r 7) (r 8) h)) (by kernel_rfl) (J66_33_ok F M) (fun r h => by kernel_rfl)
noncomputable def J66_35 (F : CallH) (M : Nat) (v0 : Value) (v1 : Value) (v5 : Value) (v6 : Value) (h : AH) : Res :=
  bindO (ixS v1 (.int .i64 1)) fun v51 =>
  J66_34 F M v0 v1 v5 v6 v51 h
theorem J66_35_ok (F : CallH) (M : Nat) : ∀ r h, kcode Tryd.prog F 143 M (Code.sub [true, true, true, true] (bodyOf Tryd.prog 66)) r h (KX (fun r h => E66 (r 4) h) (exitsOf []) (fun r h => E66 (r 4) h)) = J66_35 F M (r 0) (r 1) (r 5) (r 6) h :=
  seq_pt (a := (Code.sub [true, true, true, true, false] (bodyOf Tryd.prog 66))) (b := (Code.sub [true, true, true, true, true] (bodyOf Tryd.prog 66))) (T := (fun r h => J66_35 F M (r 0) (r 1) (r 5) (r 6) h)) (g := (fun r h => J66_34 F M (r 0) (r 1) (r 5) (r 6) (r 7) h)) (by kernel_rfl) (J66_34_ok F M) (fun r h => by kernel_rfl)
noncomputable def J66_36 (F : CallH) (M : Nat) (v0 : Value) (v1 : Value) (v5 : Value) (h : AH) : Res :=
  bindO (ixS v1 (.int .i64 0)) fun v49 =>
  J66_35 F M v0 v1 v5 v49 h
theorem J66_36_ok (F : CallH) (M : Nat) : ∀ r h, kcode Tryd.prog F 143 M (Code.sub [true, true, true] (bodyOf Tryd.prog 66)) r h (KX (fun r h => E66 (r 4) h) (exitsOf []) (fun r h => E66 (r 4) h)) = J66_36 F M (r 0) (r 1) (r 5) h :=
  seq_pt (a := (Code.sub [true, true, true, false] (bodyOf Tryd.prog 66))) (b := (Code.sub [true, true, true, true] (bodyOf Tryd.prog 66))) (T := (fun r h => J66_36 F M (r 0) (r 1) (r 5) h)) (g := (fun r h => J66_35 F M (r 0) (r 1) (r 5) (r 6) h)) (by kernel_rfl) (J66_35_ok F M) (fun r h => by kernel_rfl)
noncomputable def J66_37 (F : CallH) (M : Nat) (v0 : Value) (v1 : Value) (v5 : Value) (h : AH) : Res :=
  bindO (ibin .eql v5 (.int .i64 0)) fun v18 =>
  condO v18 (
  E66 (.int .i64 0) h) (
  bindO (sbin .eql v1 v0) fun v22 =>
  condO v22 (
  E66 (.int .i64 0) h) (
  bindO (ibin .eql v5 (.int .i64 1)) fun v26 =>
  condO v26 (
  bindO (ixS v1 (.int .i64 0)) fun v29 =>
  bindO (F 76 [v0, v29] h) fun pv30 =>
  E66 pv30.1 pv30.2) (
  bindO (xlenS v0) fun v34 =>
  bindO (ibin .geq v5 v34) fun v35 =>
  condO v35 (
  E66 (.int .i64 (-1)) h) (
  bindO (ld1 h (glob 12)) fun v38 =>
  bindO (ibin .leq v5 v38) fun v39 =>
  condO v39 (
  bindO (xlenS v0) fun v42 =>
  bindO (ibin .leq v42 (.int .i64 64)) fun v43 =>
  condO v43 (
  bindO (F 77 [v0, v1] h) fun pv47 =>
  E66 pv47.1 pv47.2) (
  J66_36 F M v0 v1 v5 h)) (
  J66_36 F M v0 v1 v5 h)))))
theorem J66_37_ok (F : CallH) (M : Nat) : ∀ r h, kcode Tryd.prog F 143 M (Code.sub [true, true, false] (bodyOf Tryd.prog 66)) r h (KX (fun r h => J66_36 F M (r 0) (r 1) (r 5) h) (exitsOf []) (fun r h => E66 (r 4) h)) = J66_37 F M (r 0) (r 1) (r 5) h := fun r h => by kernel_rfl
theorem J66_38_ok (F : CallH) (M : Nat) : ∀ r h, kcode Tryd.prog F 143 M (Code.sub [true, true] (bodyOf Tryd.prog 66)) r h (KX (fun r h => E66 (r 4) h) (exitsOf []) (fun r h => E66 (r 4) h)) = J66_37 F M (r 0) (r 1) (r 5) h :=
  seq_pt (a := (Code.sub [true, true, false] (bodyOf Tryd.prog 66))) (b := (Code.sub [true, true, true] (bodyOf Tryd.prog 66))) (T := (fun r h => J66_37 F M (r 0) (r 1) (r 5) h)) (g := (fun r h => J66_36 F M (r 0) (r 1) (r 5) h)) (by kernel_rfl) (J66_36_ok F M) (J66_37_ok F M)
noncomputable def J66_39 (F : CallH) (M : Nat) (v0 : Value) (v1 : Value) (h : AH) : Res :=
  bindO (xlenS v1) fun v15 =>
  J66_37 F M v0 v1 v15 h
theorem J66_39_ok (F : CallH) (M : Nat) : ∀ r h, kcode Tryd.prog F 143 M (Code.sub [true] (bodyOf Tryd.prog 66)) r h (KX (fun r h => E66 (r 4) h) (exitsOf []) (fun r h => E66 (r 4) h)) = J66_39 F M (r 0) (r 1) h :=
  seq_pt (a := (Code.sub [true, false] (bodyOf Tryd.prog 66))) (b := (Code.sub [true, true] (bodyOf Tryd.prog 66))) (T := (fun r h => J66_39 F M (r 0) (r 1) h)) (g := (fun r h => J66_37 F M (r 0) (r 1) (r 5) h)) (by kernel_rfl) (J66_38_ok F M) (fun r h => by kernel_rfl)
noncomputable def J66_40 (F : CallH) (M : Nat) (v0 : Value) (v1 : Value) (h : AH) : Res :=
  J66_39 F M v0 v1 h
theorem J66_40_ok (F : CallH) (M : Nat) : ∀ r h, kcode Tryd.prog F 143 M (Code.sub [] (bodyOf Tryd.prog 66)) r h (KX (fun r h => E66 (r 4) h) (exitsOf []) (fun r h => E66 (r 4) h)) = J66_40 F M (r 0) (r 1) h :=
  seq_pt (a := (Code.sub [false] (bodyOf Tryd.prog 66))) (b := (Code.sub [true] (bodyOf Tryd.prog 66))) (T := (fun r h => J66_40 F M (r 0) (r 1) h)) (g := (fun r h => J66_39 F M (r 0) (r 1) h)) (by kernel_rfl) (J66_39_ok F M) (fun r h => by kernel_rfl)
noncomputable def R66 (F : CallH) (M : Nat) (x0 x1 : Value) (h : AH) : Res := J66_40 F M x0 x1 h
theorem R66_ok (F : CallH) (M : Nat) (x0 x1 : Value) (h : AH) : kfn Tryd.prog F M 66 [x0, x1] h = R66 F M x0 x1 h :=
  (fn_pt (N := 143) (E := (fun r h => E66 (r 4) h)) (T := (fun r h => J66_40 F M (r 0) (r 1) h)) Tryd.func66 (by kernel_rfl) (by kernel_rfl) (fun r h => by kernel_rfl) (J66_40_ok F M)).trans (by kernel_rfl)
/-! ### 70 strconv.rangeError -/
noncomputable def E70 (v4 : Value) (h : AH) : Res := some (v4, h)
noncomputable def J70_0 (F : CallH) (M : Nat) (v0 : Value) (v1 : Value) (h : AH) : Res :=
  withH (bump h 7) fun h1 =>
  bindO (F 81 [v1] h1) fun pv7 =>
  bindO (ld1 pv7.2 (glob 14)) fun v8 =>
  bindO (xbuild [(str []), (str []), .nilIface] [(0, 1, v0), (1, 1, pv7.1), (2, 1, v8)]) fun v9 =>
  bindO (xcells 3 v9) fun v10 =>
  andO (rdok (ld1 h1 (glob 14)) v8) <|
  withH (putAt pv7.2 (h.next + 5) (.cells v10 3)) fun h3 =>
  E70 (ptrTo (h.next + 5)) h3
theorem J70_0_ok (F : CallH) (M : Nat) : ∀ r h, kcode Tryd.prog F 11 M (Code.sub [] (bodyOf Tryd.prog 70)) r h (KX (fun r h => E70 (r 4) h) (exitsOf []) (fun r h => E70 (r 4) h)) = J70_0 F M (r 0) (r 1) h := fun r h => by kernel_rfl
noncomputable def R70 (F : CallH) (M : Nat) (x0 x1 : Value) (h : AH) : Res := J70_0 F M x0 x1 h
theorem R70_ok (F : CallH) (M : Nat) (x0 x1 : Value) (h : AH) : kfn Tryd.prog F M 70 [x0, x1] h = R70 F M x0 x1 h :=
  (fn_pt (N := 11) (E := (fun r h => E70 (r 4) h)) (T := (fun r h => J70_0 F M (r 0) (r 1) h)) Tryd.func70 (by kernel_rfl) (by kernel_rfl) (fun r h => by kernel_rfl) (J70_0_ok F M)).trans (by kernel_rfl)
/-! ### 74 internal/stringslite.HasPrefix -/
noncomputable def E74 (v4 : Value) (h : AH) : Res := some (v4, h)
noncomputable def J74_0 (F : CallH) (M : Nat) (v0 : Value) (v1 : Value) (h : AH) : Res :=
  bindO (xlenS v0) fun v6 =>
  bindO (xlenS v1) fun v8 =>
  bindO (ibin .geq v6 v8) fun v9 =>
  condO v9 (
  bindO (xlenS v1) fun v13 =>
  bindO (xslS v0 none (some v13)) fun v14 =>
  bindO (sbin .eql v14 v1) fun v16 =>
  E74 v16 h) (
  E74 (.bool false) h)
theorem J74_0_ok (F : CallH) (M : Nat) : ∀ r h, kcode Tryd.prog F 18 M (Code.sub [] (bodyOf Tryd.prog 74)) r h (KX (fun r h => E74 (r 4) h) (exitsOf []) (fun r h => E74 (r 4) h)) = J74_0 F M (r 0) (r 1) h := fun r h => by kernel_rfl
noncomputable def R74 (F : CallH) (M : Nat) (x0 x1 : Value) (h : AH) : Res := J74_0 F M x0 x1 h
theorem R74_ok (F : CallH) (M : Nat) (x0 x1 : Value) (h : AH) : kfn Tryd.prog F M 74 [x0, x1] h = R74 F M x0 x1 h :=
  (fn_pt (N := 18) (E := (fun r h => E74 (r 4) h)) (T := (fun r h => J74_0 F M (r 0) (r 1) h)) Tryd.func74 (by kernel_rfl) (by kernel_rfl) (fun r h => by kernel_rfl) (J74_0_ok F M)).trans (by kernel_rfl)
/-! ### 78 internal/bytealg.Cutover -/
noncomputable def E78 (v2 : Value) (h : AH) : Res := some (v2, h)
noncomputable def J78_0 (F : CallH) (M : Nat) (v0 : Value) (h : AH) : Res :=
  bindO (ibin .add v0 (.int .i64 16)) fun v4 =>
  bindO (ibin .quo v4 (.int .i64 8)) fun v5 =>
  E78 v5 h
theorem J78_0_ok (F : CallH) (M : Nat) : ∀ r h, kcode Tryd.prog F 6 M (Code.sub [] (bodyOf Tryd.prog 78)) r h (KX (fun r h => E78 (r 2) h) (exitsOf []) (fun r h => E78 (r 2) h)) = J78_0 F M (r 0) h := fun r h => by kernel_rfl
noncomputable def R78 (F : CallH) (M : Nat) (x0 : Value) (h : AH) : Res := J78_0 F M x0 h
theorem R78_ok (F : CallH) (M : Nat) (x0 : Value) (h : AH) : kfn Tryd.prog F M 78 [x0] h = R78 F M x0 h :=
  (fn_pt (N := 6) (E := (fun r h => E78 (r 2) h)) (T := (fun r h => J78_0 F M (r 0) h)) Tryd.func78 (by kernel_rfl) (by kernel_rfl) (fun r h => by kernel_rfl) (J78_0_ok F M)).trans (by kernel_rfl)
/-! ### 82 errors.New -/
noncomputable def E82 (v2 : Value) (h : AH) : Res := some (v2, h)
noncomputable def J82_0 (F : CallH) (M : Nat) (v0 : Value) (h : AH) : Res :=
  bindO (xbuild [(str [])] [(0, 1, v0)]) fun v4 =>
  bindO (xcells 1 v4) fun v5 => newK h (.cells v5 1) fun iv5 h1 =>
  E82 (.iface 132 (ptrTo iv5)) h1
theorem J82_0_ok (F : CallH) (M : Nat) : ∀ r h, kcode Tryd.prog F 7 M (Code.sub [] (bodyOf Tryd.prog 82)) r h (KX (fun r h => E82 (r 2) h) (exitsOf []) (fun r h => E82 (r 2) h)) = J82_0 F M (r 0) h := fun r h => by kernel_rfl
noncomputable def R82 (F : CallH) (M : Nat) (x0 : Value) (h : AH) : Res := J82_0 F M x0 h
theorem R82_ok (F : CallH) (M : Nat) (x0 : Value) (h : AH) : kfn Tryd.prog F M 82 [x0] h = R82 F M x0 h :=
  (fn_pt (N := 7) (E := (fun r h => E82 (r 2) h)) (T := (fun r h => J82_0 F M (r 0) h)) Tryd.func82 (by kernel_rfl) (by kernel_rfl) (fun r h => by kernel_rfl) (J82_0_ok F M)).trans (by kernel_rfl)
/-! ### 86 internal/strconv.formatBits -/
noncomputable def E86 (v10 : Value) (v11 : Value) (h : AH) : Res := some ((.tuple #[v10, v11]), h)
noncomputable def J86_0 (F : CallH) (M : Nat) (v10 : Value) (v12 : Value) (v13 : Value) (h : AH) : Res :=
  bindO (xslA 65 1 v12 (some v13) none none) fun v100 =>
  bindO (xb2s h v100) fun v101 =>
  E86 v10 v101 h
theorem J86_0_ok (F : CallH) (M : Nat) : ∀ r h, kcode Tryd.prog F 102 M (Code.sub [true, true, true, true, true, true, true, true] (bodyOf Tryd.prog 86)) r h (KX (fun r h => E86 (r 10) (r 11) h) (exitsOf []) (fun r h => E86 (r 10) (r 11) h)) = J86_0 F M (r 10) (r 12) (r 13) h := fun r h => by kernel_rfl
noncomputable def J86_1 (F : CallH) (M : Nat) (v0 : Value) (v4 : Value) (v10 : Value) (v11 : Value) (v12 : Value) (v13 : Value) (h : AH) : Res :=
  condO v4 (
  bindO (xslA 65 1 v12 (some v13) none none) fun v97 =>
  bindO (xapp 1 1 h v0 v97) fun pv98 =>
  E86 pv98.1 v11 pv98.2) (
  J86_0 F M v10 v12 v13 h)
theorem J86_1_ok (F : CallH) (M : Nat) : ∀ r h, kcode Tryd.prog F 102 M (Code.sub [true, true, true, true, true, true, true, false] (bodyOf Tryd.prog 86)) r h (KX (fun r h => J86_0 F M (r 10) (r 12) (r 13) h) (exitsOf []) (fun r h => E86 (r 10) (r 11) h)) = J86_1 F M (r 0) (r 4) (r 10) (r 11) (r 12) (r 13) h := fun r h => by kernel_rfl
theorem J86_2_ok (F : CallH) (M : Nat) : ∀ r h, kcode Tryd.prog F 102 M (Code.sub [true, true, true, true, true, true, true] (bodyOf Tryd.prog 86)) r h (KX (fun r h => E86 (r 10) (r 11) h) (exitsOf []) (fun r h => E86 (r 10) (r 11) h)) = J86_1 F M (r 0) (r 4) (r 10) (r 11) (r 12) (r 13) h :=
  seq_pt (a := (Code.sub [true, true, true, true, true, true, true, false] (bodyOf Tryd.prog 86))) (b := (Code.sub [true, true, true, true, true, true, true, true] (bodyOf Tryd.prog 86))) (T := (fun r h => J86_1 F M (r 0) (r 4) (r 10) (r 11) (r 12) (r 13) h)) (g := (fun r h => J86_0 F M (r 10) (r 12) (r 13) h)) (by kernel_rfl) (J86_0_ok F M) (J86_1_ok F M)
noncomputable def J86_3 (F : CallH) (M : Nat) (v0 : Value) (v3 : Value) (v4 : Value) (v10 : Value) (v11 : Value) (v12 : Value) (v13 : Value) (h : AH) : Res :=
  condO v3 (
  bindO (ibin .sub v13 (.int .i64 1)) fun v91 =>
  bindO (xiaA 65 1 v12 v91) fun v93 =>
  bindO (xst 1 h v93 (.int .u8 45)) fun h2 =>
  J86_1 F M v0 v4 v10 v11 v12 v91 h2) (
  J86_1 F M v0 v4 v10 v11 v12 v13 h)
theorem J86_3_ok (F : CallH) (M : Nat) : ∀ r h, kcode Tryd.prog F 102 M (Code.sub [true, true, true, true, true, true, false] (bodyOf Tryd.prog 86)) r h (KX (fun r h => J86_1 F M (r 0) (r 4) (r 10) (r 11) (r 12) (r 13) h) (exitsOf []) (fun r h => E86 (r 10) (r 11) h)) = J86_3 F M (r 0) (r 3) (r 4) (r 10) (r 11) (r 12) (r 13) h := fun r h => by kernel_rfl
theorem J86_4_ok (F : CallH) (M : Nat) : ∀ r h, kcode Tryd.prog F 102 M (Code.sub [true, true, true, true, true, true] (bodyOf Tryd.prog 86)) r h (KX (fun r h => E86 (r 10) (r 11) h) (exitsOf []) (fun r h => E86 (r 10) (r 11) h)) = J86_3 F M (r 0) (r 3) (r 4) (r 10) (r 11) (r 12) (r 13) h :=
  seq_pt (a := (Code.sub [true, true, true, true, true, true, false] (bodyOf Tryd.prog 86))) (b := (Code.sub [true, true, true, true, true, true, true] (bodyOf Tryd.prog 86))) (T := (fun r h => J86_3 F M (r 0) (r 3) (r 4) (r 10) (r 11) (r 12) (r 13) h)) (g := (fun r h => J86_1 F M (r 0) (r 4) (r 10) (r 11) (r 12) (r 13) h)) (by kernel_rfl) (J86_2_ok F M) (J86_3_ok F M)
noncomputable def J86_5 (F : CallH) (M : Nat) (v0 : Value) (v1 : Value) (v3 : Value) (v4 : Value) (v10 : Value) (v11 : Value) (v12 : Value) (v13 : Value) (h : AH) : Res :=
  bindO (ibin .sub v13 (.int .i64 1)) fun v59 =>
  bindO (ixS (str [48, 49, 50, 51, 52, 53, 54, 55, 56, 57, 97, 98, 99, 100, 101, 102, 103, 104, 105, 106, 107, 108, 109, 110, 111, 112, 113, 114, 115, 116, 117, 118, 119, 120, 121, 122]) v1) fun v62 =>
  bindO (xiaA 65 1 v12 v59) fun v63 =>
  bindO (xst 1 h v63 v62) fun h3 =>
  J86_3 F M v0 v3 v4 v10 v11 v12 v59 h3
theorem J86_5_ok (F : CallH) (M : Nat) : ∀ r h, kcode Tryd.prog F 102 M (Code.sub [true, true, true, true, true, false, true, false, true, true, true, true] (bodyOf Tryd.prog 86)) r h (KX (fun r h => J86_3 F M (r 0) (r 3) (r 4) (r 10) (r 11) (r 12) (r 13) h) (exitsOf []) (fun r h => E86 (r 10) (r 11) h)) = J86_5 F M (r 0) (r 1) (r 3) (r 4) (r 10) (r 11) (r 12) (r 13) h := fun r h => by kernel_rfl
noncomputable def J86_7 (F : CallH) (M : Nat) (L6 : Value → Value → Value → Value → Value → Value → Value → Value → Value → Value → Value → AH → Res) (v0 : Value) (v1 : Value) (v3 : Value) (v4 : Value) (v10 : Value) (v11 : Value) (v12 : Value) (v13 : Value) (v14 : Value) (v15 : Value) (v16 : Value) (h : AH) : Res :=
  bindO (ibin .sub v13 (.int .i64 1)) fun v48 =>
  bindO (ibin .and v1 v16) fun v52 =>
  bindO (ixS (str [48, 49, 50, 51, 52, 53, 54, 55, 56, 57, 97, 98, 99, 100, 101, 102, 103, 104, 105, 106, 107, 108, 109, 110, 111, 112, 113, 114, 115, 116, 117, 118, 119, 120, 121, 122]) v52) fun v53 =>
  bindO (xiaA 65 1 v12 v48) fun v54 =>
  bindO (xst 1 h v54 v53) fun h4 =>
  bindO (ibin .shr v1 v14) fun v57 =>
  L6 v0 v57 v3 v4 v10 v11 v12 v48 v14 v15 v16 h4
theorem J86_7_ok (F : CallH) (M : Nat) (L6 : Value → Value → Value → Value → Value → Value → Value → Value → Value → Value → Value → AH → Res) : ∀ r h, kcode Tryd.prog F 102 M (Code.sub [true, true, true, true, true, false, true, false, true, true, true, false, false, false, true] (bodyOf Tryd.prog 86)) r h (KX (fun r h => L6 (r 0) (r 1) (r 3) (r 4) (r 10) (r 11) (r 12) (r 13) (r 14) (r 15) (r 16) h) (exitsOf [(0, (fun r h => J86_5 F M (r 0) (r 1) (r 3) (r 4) (r 10) (r 11) (r 12) (r 13) h))]) (fun r h => E86 (r 10) (r 11) h)) = J86_7 F M L6 (r 0) (r 1) (r 3) (r 4) (r 10) (r 11) (r 12) (r 13) (r 14) (r 15) (r 16) h := fun r h => by kernel_rfl
noncomputable def J86_8 (F : CallH) (M : Nat) (L6 : Value → Value → Value → Value → Value → Value → Value → Value → Value → Value → Value → AH → Res) (v0 : Value) (v1 : Value) (v3 : Value) (v4 : Value) (v10 : Value) (v11 : Value) (v12 : Value) (v13 : Value) (v14 : Value) (v15 : Value) (v16 : Value) (h : AH) : Res :=
  bindO (ibin .geq v1 v15) fun v46 =>
  condO v46 (
  J86_7 F M L6 v0 v1 v3 v4 v10 v11 v12 v13 v14 v15 v16 h) (
  J86_5 F M v0 v1 v3 v4 v10 v11 v12 v13 h)
theorem J86_8_ok (F : CallH) (M : Nat) (L6 : Value → Value → Value → Value → Value → Value → Value → Value → Value → Value → Value → AH → Res) : ∀ r h, kcode Tryd.prog F 102 M (Code.sub [true, true, true, true, true, false, true, false, true, true, true, false, false, false, false] (bodyOf Tryd.prog 86)) r h (KX (fun r h => J86_7 F M L6 (r 0) (r 1) (r 3) (r 4) (r 10) (r 11) (r 12) (r 13) (r 14) (r 15) (r 16) h) (exitsOf [(0, (fun r h => J86_5 F M (r 0) (r 1) (r 3) (r 4) (r 10) (r 11) (r 12) (r 13) h))]) (fun r h => E86 (r 10) (r 11) h)) = J86_8 F M L6 (r 0) (r 1) (r 3) (r 4) (r 10) (r 11) (r 12) (r 13) (r 14) (r 15) (r 16) h := fun r h => by kernel_rfl
theorem J86_9_ok (F : CallH) (M : Nat) (L6 : Value → Value → Value → Value → Value → Value → Value → Value → Value → Value → Value → AH → Res) : ∀ r h, kcode Tryd.prog F 102 M (Code.sub [true, true, true, true, true, false, true, false, true, true, true, false, false, false] (bodyOf Tryd.prog 86)) r h (KX (fun r h => L6 (r 0) (r 1) (r 3) (r 4) (r 10) (r 11) (r 12) (r 13) (r 14) (r 15) (r 16) h) (exitsOf [(0, (fun r h => J86_5 F M (r 0) (r 1) (r 3) (r 4) (r 10) (r 11) (r 12) (r 13) h))]) (fun r h => E86 (r 10) (r 11) h)) = J86_8 F M L6 (r 0) (r 1) (r 3) (r 4) (r 10) (r 11) (r 12) (r 13) (r 14) (r 15) (r 16) h :=
  seq_pt (a := (Code.sub [true, true, true, true, true, false, true, false, true, true, true, false, false, false, false] (bodyOf Tryd.prog 86))) (b := (Code.sub [true, true, true, true, true, false, true, false, true, true, true, false, false, false, true] (bodyOf Tryd.prog 86))) (T := (fun r h => J86_8 F M L6 (r 0) (r 1) (r 3) (r 4) (r 10) (r 11) (r 12) (r 13) (r 14) (r 15) (r 16) h)) (g := (fun r h => J86_7 F M L6 (r 0) (r 1) (r 3) (r 4) (r 10) (r 11) (r 12) (r 13) (r 14) (r 15) (r 16) h)) (by kernel_rfl) (J86_7_ok F M L6) (J86_8_ok F M L6)
noncomputable def L86_6 (F : CallH) (M : Nat) : Nat → Value → Value → Value → Value → Value → Value → Value → Value → Value → Value → Value → AH → Res
  | 0, _, _, _, _, _, _, _, _, _, _, _, _ => none
  | m + 1, v0, v1, v3, v4, v10, v11, v12, v13, v14, v15, v16, h => J86_8 F M (L86_6 F M m) v0 v1 v3 v4 v10 v11 v12 v13 v14 v15 v16 h
theorem L86_6_ok (F : CallH) (M : Nat) : ∀ r h, kcode Tryd.prog F 102 M (Code.sub [true, true, true, true, true, false, true, false, true, true, true, false, false] (bodyOf Tryd.prog 86)) r h (KX (fun r h => J86_5 F M (r 0) (r 1) (r 3) (r 4) (r 10) (r 11) (r 12) (r 13) h) (exitsOf [(0, (fun r h => J86_5 F M (r 0) (r 1) (r 3) (r 4) (r 10) (r 11) (r 12) (r 13) h))]) (fun r h => E86 (r 10) (r 11) h)) = L86_6 F M M (r 0) (r 1) (r 3) (r 4) (r 10) (r 11) (r 12) (r 13) (r 14) (r 15) (r 16) h :=
  loop_pt (b := (Code.sub [true, true, true, true, true, false, true, false, true, true, true, false, false, false] (bodyOf Tryd.prog 86))) (by kernel_rfl) (fun m r h => L86_6 F M m (r 0) (r 1) (r 3) (r 4) (r 10) (r 11) (r 12) (r 13) (r 14) (r 15) (r 16) h) (fun _ _ => rfl) (fun m r h => ((J86_9_ok F M (L86_6 F M m)) r h).trans rfl)
theorem J86_10_ok (F : CallH) (M : Nat) : ∀ r h, kcode Tryd.prog F 102 M (Code.sub [true, true, true, true, true, false, true, false, true, true, true, false] (bodyOf Tryd.prog 86)) r h (KX (fun r h => J86_5 F M (r 0) (r 1) (r 3) (r 4) (r 10) (r 11) (r 12) (r 13) h) (exitsOf []) (fun r h => E86 (r 10) (r 11) h)) = L86_6 F M M (r 0) (r 1) (r 3) (r 4) (r 10) (r 11) (r 12) (r 13) (r 14) (r 15) (r 16) h :=
  block_pt (b := (Code.sub [true, true, true, true, true, false, true, false, true, true, true, false, false] (bodyOf Tryd.prog 86))) (T := (fun r h => L86_6 F M M (r 0) (r 1) (r 3) (r 4) (r 10) (r 11) (r 12) (r 13) (r 14) (r 15) (r 16) h)) (id := 0) (by kernel_rfl) (L86_6_ok F M)
theorem J86_11_ok (F : CallH) (M : Nat) : ∀ r h, kcode Tryd.prog F 102 M (Code.sub [true, true, true, true, true, false, true, false, true, true, true] (bodyOf Tryd.prog 86)) r h (KX (fun r h => J86_3 F M (r 0) (r 3) (r 4) (r 10) (r 11) (r 12) (r 13) h) (exitsOf []) (fun r h => E86 (r 10) (r 11) h)) = L86_6 F M M (r 0) (r 1) (r 3) (r 4) (r 10) (r 11) (r 12) (r 13) (r 14) (r 15) (r 16) h :=
  seq_pt (a := (Code.sub [true, true, true, true, true, false, true, false, true, true, true, false] (bodyOf Tryd.prog 86))) (b := (Code.sub [true, true, true, true, true, false, true, false, true, true, true, true] (bodyOf Tryd.prog 86))) (T := (fun r h => L86_6 F M M (r 0) (r 1) (r 3) (r 4) (r 10) (r 11) (r 12) (r 13) (r 14) (r 15) (r 16) h)) (g := (fun r h => J86_5 F M (r 0) (r 1) (r 3) (r 4) (r 10) (r 11) (r 12) (r 13) h)) (by kernel_rfl) (J86_5_ok F M) (J86_10_ok F M)
noncomputable def J86_12 (F : CallH) (M : Nat) (v0 : Value) (v1 : Value) (v2 : Value) (v3 : Value) (v4 : Value) (v10 : Value) (v11 : Value) (v12 : Value) (v13 : Value) (v14 : Value) (v15 : Value) (h : AH) : Res :=
  bindO (xconv .u64 v2) fun v42 =>
  bindO (ibin .sub v42 (.int .u64 1)) fun v43 =>
  L86_6 F M M v0 v1 v3 v4 v10 v11 v12 v13 v14 v15 v43 h
theorem J86_12_ok (F : CallH) (M : Nat) : ∀ r h, kcode Tryd.prog F 102 M (Code.sub [true, true, true, true, true, false, true, false, true, true] (bodyOf Tryd.prog 86)) r h (KX (fun r h => J86_3 F M (r 0) (r 3) (r 4) (r 10) (r 11) (r 12) (r 13) h) (exitsOf []) (fun r h => E86 (r 10) (r 11) h)) = J86_12 F M (r 0) (r 1) (r 2) (r 3) (r 4) (r 10) (r 11) (r 12) (r 13) (r 14) (r 15) h :=
  seq_pt (a := (Code.sub [true, true, true, true, true, false, true, false, true, true, false] (bodyOf Tryd.prog 86))) (b := (Code.sub [true, true, true, true, true, false, true, false, true, true, true] (bodyOf Tryd.prog 86))) (T := (fun r h => J86_12 F M (r 0) (r 1) (r 2) (r 3) (r 4) (r 10) (r 11) (r 12) (r 13) (r 14) (r 15) h)) (g := (fun r h => L86_6 F M M (r 0) (r 1) (r 3) (r 4) (r 10) (r 11) (r 12) (r 13) (r 14) (r 15) (r 16) h)) (by kernel_rfl) (J86_11_ok F M) (fun r h => by kernel_rfl)
noncomputable def J86_13 (F : CallH) (M : Nat) (v0 : Value) (v1 : Value) (v2 : Value) (v3 : Value) (v4 : Value) (v10 : Value) (v11 : Value) (v12 : Value) (v13 : Value) (v14 : Value) (h : AH) : Res :=
  bindO (xconv .u64 v2) fun v40 =>
  J86_12 F M v0 v1 v2 v3 v4 v10 v11 v12 v13 v14 v40 h
theorem J86_13_ok (F : CallH) (M : Nat) : ∀ r h, kcode Tryd.prog F 102 M (Code.sub [true, true, true, true, true, false, true, false, true] (bodyOf Tryd.prog 86)) r h (KX (fun r h => J86_3 F M (r 0) (r 3) (r 4) (r 10) (r 11) (r 12) (r 13) h) (exitsOf []) (fun r h => E86 (r 10) (r 11) h)) = J86_13 F M (r 0) (r 1) (r 2) (r 3) (r 4) (r 10) (r 11) (r 12) (r 13) (r 14) h :=
  seq_pt (a := (Code.sub [true, true, true, true, true, false, true, false, true, false] (bodyOf Tryd.prog 86))) (b := (Code.sub [true, true, true, true, true, false, true, false, true, true] (bodyOf Tryd.prog 86))) (T := (fun r h => J86_13 F M (r 0) (r 1) (r 2) (r 3) (r 4) (r 10) (r 11) (r 12) (r 13) (r 14) h)) (g := (fun r h => J86_12 F M (r 0) (r 1) (r 2) (r 3) (r 4) (r 10) (r 11) (r 12) (r 13) (r 14) (r 15) h)) (by kernel_rfl) (J86_12_ok F M) (fun r h => by kernel_rfl)
noncomputable def J86_14 (F : CallH) (M : Nat) (v0 : Value) (v1 : Value) (v2 : Value) (v3 : Value) (v4 : Value) (v10 : Value) (v11 : Value) (v12 : Value) (v13 : Value) (h : AH) : Res :=
  bindO (xconv .u64 v2) fun v36 =>
  bindO (F 95 [v36] h) fun pv37 =>
  bindO (xconv .u64 pv37.1) fun v38 =>
  J86_13 F M v0 v1 v2 v3 v4 v10 v11 v12 v13 v38 pv37.2
theorem J86_14_ok (F : CallH) (M : Nat) : ∀ r h, kcode Tryd.prog F 102 M (Code.sub [true, true, true, true, true, false, true, false] (bodyOf Tryd.prog 86)) r h (KX (fun r h => J86_3 F M (r 0) (r 3) (r 4) (r 10) (r 11) (r 12) (r 13) h) (exitsOf []) (fun r h => E86 (r 10) (r 11) h)) = J86_14 F M (r 0) (r 1) (r 2) (r 3) (r 4) (r 10) (r 11) (r 12) (r 13) h :=
  seq_pt (a := (Code.sub [true, true, true, true, true, false, true, false, false] (bodyOf Tryd.prog 86))) (b := (Code.sub [true, true, true, true, true, false, true, false, true] (bodyOf Tryd.prog 86))) (T := (fun r h => J86_14 F M (r 0) (r 1) (r 2) (r 3) (r 4) (r 10) (r 11) (r 12) (r 13) h)) (g := (fun r h => J86_13 F M (r 0) (r 1) (r 2) (r 3) (r 4) (r 10) (r 11) (r 12) (r 13) (r 14) h)) (by kernel_rfl) (J86_13_ok F M) (fun r h => by kernel_rfl)
noncomputable def J86_15 (F : CallH) (M : Nat) (v0 : Value) (v1 : Value) (v3 : Value) (v4 : Value) (v10 : Value) (v11 : Value) (v12 : Value) (v13 : Value) (h : AH) : Res :=
  bindO (ibin .sub v13 (.int .i64 1)) fun v84 =>
  bindO (ixS (str [48, 49, 50, 51, 52, 53, 54, 55, 56, 57, 97, 98, 99, 100, 101, 102, 103, 104, 105, 106, 107, 108, 109, 110, 111, 112, 113, 114, 115, 116, 117, 118, 119, 120, 121, 122]) v1) fun v87 =>
  bindO (xiaA 65 1 v12 v84) fun v88 =>
  bindO (xst 1 h v88 v87) fun h6 =>
  J86_3 F M v0 v3 v4 v10 v11 v12 v84 h6
theorem J86_15_ok (F : CallH) (M : Nat) : ∀ r h, kcode Tryd.prog F 102 M (Code.sub [true, true, true, true, true, false, true, true, true, true] (bodyOf Tryd.prog 86)) r h (KX (fun r h => J86_3 F M (r 0) (r 3) (r 4) (r 10) (r 11) (r 12) (r 13) h) (exitsOf []) (fun r h => E86 (r 10) (r 11) h)) = J86_15 F M (r 0) (r 1) (r 3) (r 4) (r 10) (r 11) (r 12) (r 13) h := fun r h => by kernel_rfl
noncomputable def J86_17 (F : CallH) (M : Nat) (L16 : Value → Value → Value → Value → Value → Value → Value → Value → Value → AH → Res) (v0 : Value) (v1 : Value) (v3 : Value) (v4 : Value) (v10 : Value) (v11 : Value) (v12 : Value) (v13 : Value) (v17 : Value) (h : AH) : Res :=
  bindO (ibin .sub v13 (.int .i64 1)) fun v70 =>
  bindO (ibin .quo v1 v17) fun v73 =>
  bindO (ibin .mul v73 v17) fun v78 =>
  bindO (ibin .sub v1 v78) fun v79 =>
  bindO (ixS (str [48, 49, 50, 51, 52, 53, 54, 55, 56, 57, 97, 98, 99, 100, 101, 102, 103, 104, 105, 106, 107, 108, 109, 110, 111, 112, 113, 114, 115, 116, 117, 118, 119, 120, 121, 122]) v79) fun v80 =>
  bindO (xiaA 65 1 v12 v70) fun v81 =>
  bindO (xst 1 h v81 v80) fun h7 =>
  L16 v0 v73 v3 v4 v10 v11 v12 v70 v17 h7
theorem J86_17_ok (F : CallH) (M : Nat) (L16 : Value → Value → Value → Value → Value → Value → Value → Value → Value → AH → Res) : ∀ r h, kcode Tryd.prog F 102 M (Code.sub [true, true, true, true, true, false, true, true, true, false, false, false, true] (bodyOf Tryd.prog 86)) r h (KX (fun r h => L16 (r 0) (r 1) (r 3) (r 4) (r 10) (r 11) (r 12) (r 13) (r 17) h) (exitsOf [(2, (fun r h => J86_15 F M (r 0) (r 1) (r 3) (r 4) (r 10) (r 11) (r 12) (r 13) h))]) (fun r h => E86 (r 10) (r 11) h)) = J86_17 F M L16 (r 0) (r 1) (r 3) (r 4) (r 10) (r 11) (r 12) (r 13) (r 17) h := fun r h => by kernel_rfl
noncomputable def J86_18 (F : CallH) (M : Nat) (L16 : Value → Value → Value → Value → Value → Value → Value → Value → Value → AH → Res) (v0 : Value) (v1 : Value) (v3 : Value) (v4 : Value) (v10 : Value) (v11 : Value) (v12 : Value) (v13 : Value) (v17 : Value) (h : AH) : Res :=
  bindO (ibin .geq v1 v17) fun v68 =>
  condO v68 (
  J86_17 F M L16 v0 v1 v3 v4 v10 v11 v12 v13 v17 h) (
  J86_15 F M v0 v1 v3 v4 v10 v11 v12 v13 h)
theorem J86_18_ok (F : CallH) (M : Nat) (L16 : Value → Value → Value → Value → Value → Value → Value → Value → Value → AH → Res) : ∀ r h, kcode Tryd.prog F 102 M (Code.sub [true, true, true, true, true, false, true, true, true, false, false, false, false] (bodyOf Tryd.prog 86)) r h (KX (fun r h => J86_17 F M L16 (r 0) (r 1) (r 3) (r 4) (r 10) (r 11) (r 12) (r 13) (r 17) h) (exitsOf [(2, (fun r h => J86_15 F M (r 0) (r 1) (r 3) (r 4) (r 10) (r 11) (r 12) (r 13) h))]) (fun r h => E86 (r 10) (r 11) h)) = J86_18 F M L16 (r 0) (r 1) (r 3) (r 4) (r 10) (r 11) (r 12) (r 13) (r 17) h := fun r h => by kernel_rfl
theorem J86_19_ok (F : CallH) (M : Nat) (L16 : Value → Value → Value → Value → Value → Value → Value → Value → Value → AH → Res) : ∀ r h, kcode Tryd.prog F 102 M (Code.sub [true, true, true, true, true, false, true, true, true, false, false, false] (bodyOf Tryd.prog 86)) r h (KX (fun r h => L16 (r 0) (r 1) (r 3) (r 4) (r 10) (r 11) (r 12) (r 13) (r 17) h) (exitsOf [(2, (fun r h => J86_15 F M (r 0) (r 1) (r 3) (r 4) (r 10) (r 11) (r 12) (r 13) h))]) (fun r h => E86 (r 10) (r 11) h)) = J86_18 F M L16 (r 0) (r 1) (r 3) (r 4) (r 10) (r 11) (r 12) (r 13) (r 17) h :=
  seq_pt (a := (Code.sub [true, true, true, true, true, false, true, true, true, false, false, false, false] (bodyOf Tryd.prog 86))) (b := (Code.sub [true, true, true, true, true, false, true, true, true, false, false, false, true] (bodyOf Tryd.prog 86))) (T := (fun r h => J86_18 F M L16 (r 0) (r 1) (r 3) (r 4) (r 10) (r 11) (r 12) (r 13) (r 17) h)) (g := (fun r h => J86_17 F M L16 (r 0) (r 1) (r 3) (r 4) (r 10) (r 11) (r 12) (r 13) (r 17) h)) (by kernel_rfl) (J86_17_ok F M L16) (J86_18_ok F M L16)
noncomputable def L86_16 (F : CallH) (M : Nat) : Nat → Value → Value → Value → Value → Value → Value → Value → Value → Value → AH → Res
  | 0, _, _, _, _, _, _, _, _, _, _ => none
  | m + 1, v0, v1, v3, v4, v10, v11, v12, v13, v17, h => J86_18 F M (L86_16 F M m) v0 v1 v3 v4 v10 v11 v12 v13 v17 h
theorem L86_16_ok (F : CallH) (M : Nat) : ∀ r h, kcode Tryd.prog F 102 M (Code.sub [true, true, true, true, true, false, true, true, true, false, false] (bodyOf Tryd.prog 86)) r h (KX (fun r h => J86_15 F M (r 0) (r 1) (r 3) (r 4) (r 10) (r 11) (r 12) (r 13) h) (exitsOf [(2, (fun r h => J86_15 F M (r 0) (r 1) (r 3) (r 4) (r 10) (r 11) (r 12) (r 13) h))]) (fun r h => E86 (r 10) (r 11) h)) = L86_16 F M M (r 0) (r 1) (r 3) (r 4) (r 10) (r 11) (r 12) (r 13) (r 17) h :=
  loop_pt (b := (Code.sub [true, true, true, true, true, false, true, true, true, false, false, false] (bodyOf Tryd.prog 86))) (by kernel_rfl) (fun m r h => L86_16 F M m (r 0) (r 1) (r 3) (r 4) (r 10) (r 11) (r 12) (r 13) (r 17) h) (fun _ _ => rfl) (fun m r h => ((J86_19_ok F M (L86_16 F M m)) r h).trans rfl)
theorem J86_20_ok (F : CallH) (M : Nat) : ∀ r h, kcode Tryd.prog F 102 M (Code.sub [true, true, true, true, true, false, true, true, true, false] (bodyOf Tryd.prog 86)) r h (KX (fun r h => J86_15 F M (r 0) (r 1) (r 3) (r 4) (r 10) (r 11) (r 12) (r 13) h) (exitsOf []) (fun r h => E86 (r 10) (r 11) h)) = L86_16 F M M (r 0) (r 1) (r 3) (r 4) (r 10) (r 11) (r 12) (r 13) (r 17) h :=
  block_pt (b := (Code.sub [true, true, true, true, true, false, true, true, true, false, false] (bodyOf Tryd.prog 86))) (T := (fun r h => L86_16 F M M (r 0) (r 1) (r 3) (r 4) (r 10) (r 11) (r 12) (r 13) (r 17) h)) (id := 2) (by kernel_rfl) (L86_16_ok F M)
theorem J86_21_ok (F : CallH) (M : Nat) : ∀ r h, kcode Tryd.prog F 102 M (Code.sub [true, true, true, true, true, false, true, true, true] (bodyOf Tryd.prog 86)) r h (KX (fun r h => J86_3 F M (r 0) (r 3) (r 4) (r 10) (r 11) (r 12) (r 13) h) (exitsOf []) (fun r h => E86 (r 10) (r 11) h)) = L86_16 F M M (r 0) (r 1) (r 3) (r 4) (r 10) (r 11) (r 12) (r 13) (r 17) h :=
  seq_pt (a := (Code.sub [true, true, true, true, true, false, true, true, true, false] (bodyOf Tryd.prog 86))) (b := (Code.sub [true, true, true, true, true, false, true, true, true, true] (bodyOf Tryd.prog 86))) (T := (fun r h => L86_16 F M M (r 0) (r 1) (r 3) (r 4) (r 10) (r 11) (r 12) (r 13) (r 17) h)) (g := (fun r h => J86_15 F M (r 0) (r 1) (r 3) (r 4) (r 10) (r 11) (r 12) (r 13) h)) (by kernel_rfl) (J86_15_ok F M) (J86_20_ok F M)
noncomputable def J86_22 (F : CallH) (M : Nat) (v0 : Value) (v1 : Value) (v2 : Value) (v3 : Value) (v4 : Value) (v10 : Value) (v11 : Value) (v12 : Value) (v13 : Value) (h : AH) : Res :=
  bindO (xconv .u64 v2) fun v65 =>
  L86_16 F M M v0 v1 v3 v4 v10 v11 v12 v13 v65 h
theorem J86_22_ok (F : CallH) (M : Nat) : ∀ r h, kcode Tryd.prog F 102 M (Code.sub [true, true, true, true, true, false, true, true] (bodyOf Tryd.prog 86)) r h (KX (fun r h => J86_3 F M (r 0) (r 3) (r 4) (r 10) (r 11) (r 12) (r 13) h) (exitsOf []) (fun r h => E86 (r 10) (r 11) h)) = J86_22 F M (r 0) (r 1) (r 2) (r 3) (r 4) (r 10) (r 11) (r 12) (r 13) h :=
  seq_pt (a := (Code.sub [true, true, true, true, true, false, true, true, false] (bodyOf Tryd.prog 86))) (b := (Code.sub [true, true, true, true, true, false, true, true, true] (bodyOf Tryd.prog 86))) (T := (fun r h => J86_22 F M (r 0) (r 1) (r 2) (r 3) (r 4) (r 10) (r 11) (r 12) (r 13) h)) (g := (fun r h => L86_16 F M M (r 0) (r 1) (r 3) (r 4) (r 10) (r 11) (r 12) (r 13) (r 17) h)) (by kernel_rfl) (J86_21_ok F M) (fun r h => by kernel_rfl)
noncomputable def J86_23 (F : CallH) (M : Nat) (v0 : Value) (v1 : Value) (v2 : Value) (v3 : Value) (v4 : Value) (v10 : Value) (v11 : Value) (v12 : Value) (v13 : Value) (v34 : Value) (h : AH) : Res :=
  condO v34 (J86_14 F M v0 v1 v2 v3 v4 v10 v11 v12 v13 h) (J86_22 F M v0 v1 v2 v3 v4 v10 v11 v12 v13 h)
theorem J86_23_ok (F : CallH) (M : Nat) : ∀ r h, kcode Tryd.prog F 102 M (Code.sub [true, true, true, true, true, false, true] (bodyOf Tryd.prog 86)) r h (KX (fun r h => J86_3 F M (r 0) (r 3) (r 4) (r 10) (r 11) (r 12) (r 13) h) (exitsOf []) (fun r h => E86 (r 10) (r 11) h)) = J86_23 F M (r 0) (r 1) (r 2) (r 3) (r 4) (r 10) (r 11) (r 12) (r 13) (r 34) h :=
  fun r h => (cond_pt (a := (Code.sub [true, true, true, true, true, false, true, false] (bodyOf Tryd.prog 86))) (b := (Code.sub [true, true, true, true, true, false, true, true] (bodyOf Tryd.prog 86))) (A := (fun r h => J86_14 F M (r 0) (r 1) (r 2) (r 3) (r 4) (r 10) (r 11) (r 12) (r 13) h)) (B := (fun r h => J86_22 F M (r 0) (r 1) (r 2) (r 3) (r 4) (r 10) (r 11) (r 12) (r 13) h)) (y := .tmp 34) (by kernel_rfl) (J86_14_ok F M) (J86_22_ok F M) r h).trans (by kernel_rfl)
noncomputable def J86_24 (F : CallH) (M : Nat) (v0 : Value) (v1 : Value) (v2 : Value) (v3 : Value) (v4 : Value) (v10 : Value) (v11 : Value) (v12 : Value) (v13 : Value) (h : AH) : Res :=
  bindO (F 94 [v2] h) fun pv34 =>
  J86_23 F M v0 v1 v2 v3 v4 v10 v11 v12 v13 pv34.1 pv34.2
theorem J86_24_ok (F : CallH) (M : Nat) : ∀ r h, kcode Tryd.prog F 102 M (Code.sub [true, true, true, true, true, false] (bodyOf Tryd.prog 86)) r h (KX (fun r h => J86_3 F M (r 0) (r 3) (r 4) (r 10) (r 11) (r 12) (r 13) h) (exitsOf []) (fun r h => E86 (r 10) (r 11) h)) = J86_24 F M (r 0) (r 1) (r 2) (r 3) (r 4) (r 10) (r 11) (r 12) (r 13) h :=
  seq_pt (a := (Code.sub [true, true, true, true, true, false, false] (bodyOf Tryd.prog 86))) (b := (Code.sub [true, true, true, true, true, false, true] (bodyOf Tryd.prog 86))) (T := (fun r h => J86_24 F M (r 0) (r 1) (r 2) (r 3) (r 4) (r 10) (r 11) (r 12) (r 13) h)) (g := (fun r h => J86_23 F M (r 0) (r 1) (r 2) (r 3) (r 4) (r 10) (r 11) (r 12) (r 13) (r 34) h)) (by kernel_rfl) (J86_23_ok F M) (fun r h => by kernel_rfl)
theorem J86_25_ok (F : CallH) (M : Nat) : ∀ r h, kcode Tryd.prog F 102 M (Code.sub [true, true, true, true, true] (bodyOf Tryd.prog 86)) r h (KX (fun r h => E86 (r 10) (r 11) h) (exitsOf []) (fun r h => E86 (r 10) (r 11) h)) = J86_24 F M (r 0) (r 1) (r 2) (r 3) (r 4) (r 10) (r 11) (r 12) (r 13) h :=
  seq_pt (a := (Code.sub [true, true, true, true, true, false] (bodyOf Tryd.prog 86))) (b := (Code.sub [true, true, true, true, true, true] (bodyOf Tryd.prog 86))) (T := (fun r h => J86_24 F M (r 0) (r 1) (r 2) (r 3) (r 4) (r 10) (r 11) (r 12) (r 13) h)) (g := (fun r h => J86_3 F M (r 0) (r 3) (r 4) (r 10) (r 11) (r 12) (r 13) h)) (by kernel_rfl) (J86_4_ok F M) (J86_24_ok F M)
noncomputable def J86_26 (F : CallH) (M : Nat) (v0 : Value) (v1 : Value) (v2 : Value) (v3 : Value) (v4 : Value) (v10 : Value) (v11 : Value) (v12 : Value) (v13 : Value) (h : AH) : Res :=
  condO v3 (
  bindO (xneg v1) fun v32 =>
  J86_24 F M v0 v32 v2 v3 v4 v10 v11 v12 v13 h) (
  J86_24 F M v0 v1 v2 v3 v4 v10 v11 v12 v13 h)
theorem J86_26_ok (F : CallH) (M : Nat) : ∀ r h, kcode Tryd.prog F 102 M (Code.sub [true, true, true, true, false] (bodyOf Tryd.prog 86)) r h (KX (fun r h => J86_24 F M (r 0) (r 1) (r 2) (r 3) (r 4) (r 10) (r 11) (r 12) (r 13) h) (exitsOf []) (fun r h => E86 (r 10) (r 11) h)) = J86_26 F M (r 0) (r 1) (r 2) (r 3) (r 4) (r 10) (r 11) (r 12) (r 13) h := fun r h => by kernel_rfl
theorem J86_27_ok (F : CallH) (M : Nat) : ∀ r h, kcode Tryd.prog F 102 M (Code.sub [true, true, true, true] (bodyOf Tryd.prog 86)) r h (KX (fun r h => E86 (r 10) (r 11) h) (exitsOf []) (fun r h => E86 (r 10) (r 11) h)) = J86_26 F M (r 0) (r 1) (r 2) (r 3) (r 4) (r 10) (r 11) (r 12) (r 13) h :=
  seq_pt (a := (Code.sub [true, true, true, true, false] (bodyOf Tryd.prog 86))) (b := (Code.sub [true, true, true, true, true] (bodyOf Tryd.prog 86))) (T := (fun r h => J86_26 F M (r 0) (r 1) (r 2) (r 3) (r 4) (r 10) (r 11) (r 12) (r 13) h)) (g := (fun r h => J86_24 F M (r 0) (r 1) (r 2) (r 3) (r 4) (r 10) (r 11) (r 12) (r 13) h)) (by kernel_rfl) (J86_25_ok F M) (J86_26_ok F M)
noncomputable def J86_28 (F : CallH) (M : Nat) (v0 : Value) (v1 : Value) (v2 : Value) (v3 : Value) (v4 : Value) (v10 : Value) (v11 : Value) (v12 : Value) (h : AH) : Res :=
  J86_26 F M v0 v1 v2 v3 v4 v10 v11 v12 (.int .i64 65) h
theorem J86_28_ok (F : CallH) (M : Nat) : ∀ r h, kcode Tryd.prog F 102 M (Code.sub [true, true, true] (bodyOf Tryd.prog 86)) r h (KX (fun r h => E86 (r 10) (r 11) h) (exitsOf []) (fun r h => E86 (r 10) (r 11) h)) = J86_28 F M (r 0) (r 1) (r 2) (r 3) (r 4) (r 10) (r 11) (r 12) h :=
  seq_pt (a := (Code.sub [true, true, true, false] (bodyOf Tryd.prog 86))) (b := (Code.sub [true, true, true, true] (bodyOf Tryd.prog 86))) (T := (fun r h => J86_28 F M (r 0) (r 1) (r 2) (r 3) (r 4) (r 10) (r 11) (r 12) h)) (g := (fun r h => J86_26 F M (r 0) (r 1) (r 2) (r 3) (r 4) (r 10) (r 11) (r 12) (r 13) h)) (by kernel_rfl) (J86_27_ok F M) (fun r h => by kernel_rfl)
noncomputable def J86_29 (F : CallH) (M : Nat) (v0 : Value) (v1 : Value) (v2 : Value) (v3 : Value) (v4 : Value) (v10 : Value) (v11 : Value) (h : AH) : Res :=
  newK h (.cells [(.int .u8 0), (.int .u8 0), (.int .u8 0), (.int .u8 0), (.int .u8 0), (.int .u8 0), (.int .u8 0), (.int .u8 0), (.int .u8 0), (.int .u8 0), (.int .u8 0), (.int .u8 0), (.int .u8 0), (.int .u8 0), (.int .u8 0), (.int .u8 0), (.int .u8 0), (.int .u8 0), (.int .u8 0), (.int .u8 0), (.int .u8 0), (.int .u8 0), (.int .u8 0), (.int .u8 0), (.int .u8 0), (.int .u8 0), (.int .u8 0), (.int .u8 0), (.int .u8 0), (.int .u8 0), (.int .u8 0), (.int .u8 0), (.int .u8 0), (.int .u8 0), (.int .u8 0), (.int .u8 0), (.int .u8 0), (.int .u8 0), (.int .u8 0), (.int .u8 0), (.int .u8 0), (.int .u8 0), (.int .u8 0), (.int .u8 0), (.int .u8 0), (.int .u8 0), (.int .u8 0), (.int .u8 0), (.int .u8 0), (.int .u8 0), (.int .u8 0), (.int .u8 0), (.int .u8 0), (.int .u8 0), (.int .u8 0), (.int .u8 0), (.int .u8 0), (.int .u8 0), (.int .u8 0), (.int .u8 0), (.int .u8 0), (.int .u8 0), (.int .u8 0), (.int .u8 0), (.int .u8 0)] 65) fun iv12 h9 =>
  J86_28 F M v0 v1 v2 v3 v4 v10 v11 (ptrTo iv12) h9
theorem J86_29_ok (F : CallH) (M : Nat) : ∀ r h, kcode Tryd.prog F 102 M (Code.sub [true, true] (bodyOf Tryd.prog 86)) r h (KX (fun r h => E86 (r 10) (r 11) h) (exitsOf []) (fun r h => E86 (r 10) (r 11) h)) = J86_29 F M (r 0) (r 1) (r 2) (r 3) (r 4) (r 10) (r 11) h :=
  seq_pt (a := (Code.sub [true, true, false] (bodyOf Tryd.prog 86))) (b := (Code.sub [true, true, true] (bodyOf Tryd.prog 86))) (T := (fun r h => J86_29 F M (r 0) (r 1) (r 2) (r 3) (r 4) (r 10) (r 11) h)) (g := (fun r h => J86_28 F M (r 0) (r 1) (r 2) (r 3) (r 4) (r 10) (r 11) (r 12) h)) (by kernel_rfl) (J86_28_ok F M) (fun r h => by kernel_rfl)
noncomputable def J86_30 (F : CallH) (M : Nat) (v0 : Value) (v1 : Value) (v2 : Value) (v3 : Value) (v4 : Value) (v10 : Value) (v11 : Value) (h : AH) : Res :=
  bindO (ibin .lss v2 (.int .i64 2)) fun v20 =>
  condO v20 (
  none) (
  bindO (ibin .eql v2 (.int .i64 10)) fun v23 =>
  condO v23 (
  none) (
  bindO (ibin .gtr v2 (.int .i64 36)) fun v27 =>
  condO v27 (
  none) (
  J86_29 F M v0 v1 v2 v3 v4 v10 v11 h)))
theorem J86_30_ok (F : CallH) (M : Nat) : ∀ r h, kcode Tryd.prog F 102 M (Code.sub [true, false] (bodyOf Tryd.prog 86)) r h (KX (fun r h => J86_29 F M (r 0) (r 1) (r 2) (r 3) (r 4) (r 10) (r 11) h) (exitsOf []) (fun r h => E86 (r 10) (r 11) h)) = J86_30 F M (r 0) (r 1) (r 2) (r 3) (r 4) (r 10) (r 11) h := fun r h => by kernel_rfl
theorem J86_31_ok (F : CallH) (M : Nat) : ∀ r h, kcode Tryd.prog F 102 M (Code.sub [true] (bodyOf Tryd.prog 86)) r h (KX (fun r h => E86 (r 10) (r 11) h) (exitsOf []) (fun r h => E86 (r 10) (r 11) h)) = J86_30 F M (r 0) (r 1) (r 2) (r 3) (r 4) (r 10) (r 11) h :=
  seq_pt (a := (Code.sub [true, false] (bodyOf Tryd.prog 86))) (b := (Code.sub [true, true] (bodyOf Tryd.prog 86))) (T := (fun r h => J86_30 F M (r 0) (r 1) (r 2) (r 3) (r 4) (r 10) (r 11) h)) (g := (fun r h => J86_29 F M (r 0) (r 1) (r 2) (r 3) (r 4) (r 10) (r 11) h)) (by kernel_rfl) (J86_29_ok F M) (J86_30_ok F M)
noncomputable def J86_32 (F : CallH) (M : Nat) (v0 : Value) (v1 : Value) (v2 : Value) (v3 : Value) (v4 : Value) (h : AH) : Res :=
  J86_30 F M v0 v1 v2 v3 v4 (.slice none 0 0) (str []) h
theorem J86_32_ok (F : CallH) (M : Nat) : ∀ r h, kcode Tryd.prog F 102 M (Code.sub [] (bodyOf Tryd.prog 86)) r h (KX (fun r h => E86 (r 10) (r 11) h) (exitsOf []) (fun r h => E86 (r 10) (r 11) h)) = J86_32 F M (r 0) (r 1) (r 2) (r 3) (r 4) h :=
  seq_pt (a := (Code.sub [false] (bodyOf Tryd.prog 86))) (b := (Code.sub [true] (bodyOf Tryd.prog 86))) (T := (fun r h => J86_32 F M (r 0) (r 1) (r 2) (r 3) (r 4) h)) (g := (fun r h => J86_30 F M (r 0) (r 1) (r 2) (r 3) (r 4) (r 10) (r 11) h)) (by kernel_rfl) (J86_31_ok F M) (fun r h => by kernel_rfl)
noncomputable def R86 (F : CallH) (M : Nat) (x0 x1 x2 x3 x4 : Value) (h : AH) : Res := J86_32 F M x0 x1 x2 x3 x4 h
theorem R86_ok (F : CallH) (M : Nat) (x0 x1 x2 x3 x4 : Value) (h : AH) : kfn Tryd.prog F M 86 [x0, x1, x2, x3, x4] h = R86 F M x0 x1 x2 x3 x4 h :=
  (fn_pt (N := 102) (E := (fun r h => E86 (r 10) (r 11) h)) (T := (fun r h => J86_32 F M (r 0) (r 1) (r 2) (r 3) (r 4) h)) Tryd.func86 (by kernel_rfl) (by kernel_rfl) (fun r h => by kernel_rfl) (J86_32_ok F M)).trans (by kernel_rfl)
/-! ### 90 internal/strconv.underscoreOK -/
noncomputable def E90 (v2 : Value) (h : AH) : Res := some (v2, h)
noncomputable def J90_0 (F : CallH) (M : Nat) (v3 : Value) (h : AH) : Res :=
  bindO (ibin .neq v3 (.int .i32 95)) fun v93 =>
  E90 v93 h
theorem J90_0_ok (F : CallH) (M : Nat) : ∀ r h, kcode Tryd.prog F 94 M (Code.sub [true, true, true, true, true, true, true] (bodyOf Tryd.prog 90)) r h (KX (fun r h => E90 (r 2) h) (exitsOf []) (fun r h => E90 (r 2) h)) = J90_0 F M (r 3) h := fun r h => by kernel_rfl
noncomputable def J90_2 (F : CallH) (M : Nat) (L1 : Value → Value → Value → Value → AH → Res) (v0 : Value) (v3 : Value) (v4 : Value) (v5 : Value) (h : AH) : Res :=
  bindO (ibin .add v4 (.int .i64 1)) fun v56 =>
  L1 v0 v3 v56 v5 h
theorem J90_2_ok (F : CallH) (M : Nat) (L1 : Value → Value → Value → Value → AH → Res) : ∀ r h, kcode Tryd.prog F 94 M (Code.sub [true, true, true, true, true, true, false, false, false, true, true] (bodyOf Tryd.prog 90)) r h (KX (fun r h => L1 (r 0) (r 3) (r 4) (r 5) h) (exitsOf [(0, (fun r h => J90_0 F M (r 3) h))]) (fun r h => E90 (r 2) h)) = J90_2 F M L1 (r 0) (r 3) (r 4) (r 5) h := fun r h => by kernel_rfl
noncomputable def J90_3 (F : CallH) (M : Nat) (L1 : Value → Value → Value → Value → AH → Res) (v0 : Value) (v4 : Value) (v5 : Value) (h : AH) : Res :=
  J90_2 F M L1 v0 (.int .i32 33) v4 v5 h
theorem J90_3_ok (F : CallH) (M : Nat) (L1 : Value → Value → Value → Value → AH → Res) : ∀ r h, kcode Tryd.prog F 94 M (Code.sub [true, true, true, true, true, true, false, false, false, true, false, false, true, true, true] (bodyOf Tryd.prog 90)) r h (KX (fun r h => J90_2 F M L1 (r 0) (r 3) (r 4) (r 5) h) (exitsOf [(1, (fun r h => J90_2 F M L1 (r 0) (r 3) (r 4) (r 5) h)), (0, (fun r h => J90_0 F M (r 3) h))]) (fun r h => E90 (r 2) h)) = J90_3 F M L1 (r 0) (r 4) (r 5) h := fun r h => by kernel_rfl
noncomputable def J90_4 (F : CallH) (M : Nat) (L1 : Value → Value → Value → Value → AH → Res) (v0 : Value) (v3 : Value) (v4 : Value) (v5 : Value) (h : AH) : Res :=
  bindO (ibin .eql v3 (.int .i32 95)) fun v91 =>
  condO v91 (
  E90 (.bool false) h) (
  J90_3 F M L1 v0 v4 v5 h)
theorem J90_4_ok (F : CallH) (M : Nat) (L1 : Value → Value → Value → Value → AH → Res) : ∀ r h, kcode Tryd.prog F 94 M (Code.sub [true, true, true, true, true, true, false, false, false, true, false, false, true, true, false] (bodyOf Tryd.prog 90)) r h (KX (fun r h => J90_3 F M L1 (r 0) (r 4) (r 5) h) (exitsOf [(1, (fun r h => J90_2 F M L1 (r 0) (r 3) (r 4) (r 5) h)), (0, (fun r h => J90_0 F M (r 3) h))]) (fun r h => E90 (r 2) h)) = J90_4 F M L1 (r 0) (r 3) (r 4) (r 5) h := fun r h => by kernel_rfl
theorem J90_5_ok (F : CallH) (M : Nat) (L1 : Value → Value → Value → Value → AH → Res) : ∀ r h, kcode Tryd.prog F 94 M (Code.sub [true, true, true, true, true, true, false, false, false, true, false, false, true, true] (bodyOf Tryd.prog 90)) r h (KX (fun r h => J90_2 F M L1 (r 0) (r 3) (r 4) (r 5) h) (exitsOf [(1, (fun r h => J90_2 F M L1 (r 0) (r 3) (r 4) (r 5) h)), (0, (fun r h => J90_0 F M (r 3) h))]) (fun r h => E90 (r 2) h)) = J90_4 F M L1 (r 0) (r 3) (r 4) (r 5) h :=
  seq_pt (a := (Code.sub [true, true, true, true, true, true, false, false, false, true, false, false, true, true, false] (bodyOf Tryd.prog 90))) (b := (Code.sub [true, true, true, true, true, true, false, false, false, true, false, false, true, true, true] (bodyOf Tryd.prog 90))) (T := (fun r h => J90_4 F M L1 (r 0) (r 3) (r 4) (r 5) h)) (g := (fun r h => J90_3 F M L1 (r 0) (r 4) (r 5) h)) (by kernel_rfl) (J90_3_ok F M L1) (J90_4_ok F M L1)
noncomputable def J90_6 (F : CallH) (M : Nat) (L1 : Value → Value → Value → Value → AH → Res) (v0 : Value) (v4 : Value) (v5 : Value) (h : AH) : Res :=
  J90_2 F M L1 v0 (.int .i32 95) v4 v5 h
theorem J90_6_ok (F : CallH) (M : Nat) (L1 : Value → Value → Value → Value → AH → Res) : ∀ r h, kcode Tryd.prog F 94 M (Code.sub [true, true, true, true, true, true, false, false, false, true, false, false, true, false, true, false, true] (bodyOf Tryd.prog 90)) r h (KX (fun r h => J90_4 F M L1 (r 0) (r 3) (r 4) (r 5) h) (exitsOf [(1, (fun r h => J90_2 F M L1 (r 0) (r 3) (r 4) (r 5) h)), (0, (fun r h => J90_0 F M (r 3) h))]) (fun r h => E90 (r 2) h)) = J90_6 F M L1 (r 0) (r 4) (r 5) h := fun r h => by kernel_rfl
noncomputable def J90_7 (F : CallH) (M : Nat) (L1 : Value → Value → Value → Value → AH → Res) (v0 : Value) (v3 : Value) (v4 : Value) (v5 : Value) (h : AH) : Res :=
  bindO (ibin .neq v3 (.int .i32 48)) fun v89 =>
  condO v89 (
  E90 (.bool false) h) (
  J90_6 F M L1 v0 v4 v5 h)
theorem J90_7_ok (F : CallH) (M : Nat) (L1 : Value → Value → Value → Value → AH → Res) : ∀ r h, kcode Tryd.prog F 94 M (Code.sub [true, true, true, true, true, true, false, false, false, true, false, false, true, false, true, false, false] (bodyOf Tryd.prog 90)) r h (KX (fun r h => J90_6 F M L1 (r 0) (r 4) (r 5) h) (exitsOf [(1, (fun r h => J90_2 F M L1 (r 0) (r 3) (r 4) (r 5) h)), (0, (fun r h => J90_0 F M (r 3) h))]) (fun r h => E90 (r 2) h)) = J90_7 F M L1 (r 0) (r 3) (r 4) (r 5) h := fun r h => by kernel_rfl
theorem J90_8_ok (F : CallH) (M : Nat) (L1 : Value → Value → Value → Value → AH → Res) : ∀ r h, kcode Tryd.prog F 94 M (Code.sub [true, true, true, true, true, true, false, false, false, true, false, false, true, false, true, false] (bodyOf Tryd.prog 90)) r h (KX (fun r h => J90_4 F M L1 (r 0) (r 3) (r 4) (r 5) h) (exitsOf [(1, (fun r h => J90_2 F M L1 (r 0) (r 3) (r 4) (r 5) h)), (0, (fun r h => J90_0 F M (r 3) h))]) (fun r h => E90 (r 2) h)) = J90_7 F M L1 (r 0) (r 3) (r 4) (r 5) h :=
  seq_pt (a := (Code.sub [true, true, true, true, true, true, false, false, false, true, false, false, true, false, true, false, false] (bodyOf Tryd.prog 90))) (b := (Code.sub [true, true, true, true, true, true, false, false, false, true, false, false, true, false, true, false, true] (bodyOf Tryd.prog 90))) (T := (fun r h => J90_7 F M L1 (r 0) (r 3) (r 4) (r 5) h)) (g := (fun r h => J90_6 F M L1 (r 0) (r 4) (r 5) h)) (by kernel_rfl) (J90_6_ok F M L1) (J90_7_ok F M L1)
noncomputable def J90_9 (F : CallH) (M : Nat) (L1 : Value → Value → Value → Value → AH → Res) (v0 : Value) (v3 : Value) (v4 : Value) (v5 : Value) (h : AH) : Res :=
  J90_4 F M L1 v0 v3 v4 v5 h
theorem J90_9_ok (F : CallH) (M : Nat) (L1 : Value → Value → Value → Value → AH → Res) : ∀ r h, kcode Tryd.prog F 94 M (Code.sub [true, true, true, true, true, true, false, false, false, true, false, false, true, false, true, true] (bodyOf Tryd.prog 90)) r h (KX (fun r h => J90_4 F M L1 (r 0) (r 3) (r 4) (r 5) h) (exitsOf [(1, (fun r h => J90_2 F M L1 (r 0) (r 3) (r 4) (r 5) h)), (0, (fun r h => J90_0 F M (r 3) h))]) (fun r h => E90 (r 2) h)) = J90_9 F M L1 (r 0) (r 3) (r 4) (r 5) h := fun r h => by kernel_rfl
noncomputable def J90_10 (F : CallH) (M : Nat) (L1 : Value → Value → Value → Value → AH → Res) (v0 : Value) (v3 : Value) (v4 : Value) (v5 : Value) (v87 : Value) (h : AH) : Res :=
  condO v87 (J90_7 F M L1 v0 v3 v4 v5 h) (J90_9 F M L1 v0 v3 v4 v5 h)
theorem J90_10_ok (F : CallH) (M : Nat) (L1 : Value → Value → Value → Value → AH → Res) : ∀ r h, kcode Tryd.prog F 94 M (Code.sub [true, true, true, true, true, true, false, false, false, true, false, false, true, false, true] (bodyOf Tryd.prog 90)) r h (KX (fun r h => J90_4 F M L1 (r 0) (r 3) (r 4) (r 5) h) (exitsOf [(1, (fun r h => J90_2 F M L1 (r 0) (r 3) (r 4) (r 5) h)), (0, (fun r h => J90_0 F M (r 3) h))]) (fun r h => E90 (r 2) h)) = J90_10 F M L1 (r 0) (r 3) (r 4) (r 5) (r 87) h :=
  fun r h => (cond_pt (a := (Code.sub [true, true, true, true, true, true, false, false, false, true, false, false, true, false, true, false] (bodyOf Tryd.prog 90))) (b := (Code.sub [true, true, true, true, true, true, false, false, false, true, false, false, true, false, true, true] (bodyOf Tryd.prog 90))) (A := (fun r h => J90_7 F M L1 (r 0) (r 3) (r 4) (r 5) h)) (B := (fun r h => J90_9 F M L1 (r 0) (r 3) (r 4) (r 5) h)) (y := .tmp 87) (by kernel_rfl) (J90_8_ok F M L1) (J90_9_ok F M L1) r h).trans (by kernel_rfl)
noncomputable def J90_11 (F : CallH) (M : Nat) (L1 : Value → Value → Value → Value → AH → Res) (v0 : Value) (v3 : Value) (v4 : Value) (v5 : Value) (h : AH) : Res :=
  bindO (ixS v0 v4) fun v86 =>
  bindO (ibin .eql v86 (.int .u8 95)) fun v87 =>
  J90_10 F M L1 v0 v3 v4 v5 v87 h
theorem J90_11_ok (F : CallH) (M : Nat) (L1 : Value → Value → Value → Value → AH → Res) : ∀ r h, kcode Tryd.prog F 94 M (Code.sub [true, true, true, true, true, true, false, false, false, true, false, false, true, false] (bodyOf Tryd.prog 90)) r h (KX (fun r h => J90_4 F M L1 (r 0) (r 3) (r 4) (r 5) h) (exitsOf [(1, (fun r h => J90_2 F M L1 (r 0) (r 3) (r 4) (r 5) h)), (0, (fun r h => J90_0 F M (r 3) h))]) (fun r h => E90 (r 2) h)) = J90_11 F M L1 (r 0) (r 3) (r 4) (r 5) h :=
  seq_pt (a := (Code.sub [true, true, true, true, true, true, false, false, false, true, false, false, true, false, false] (bodyOf Tryd.prog 90))) (b := (Code.sub [true, true, true, true, true, true, false, false, false, true, false, false, true, false, true] (bodyOf Tryd.prog 90))) (T := (fun r h => J90_11 F M L1 (r 0) (r 3) (r 4) (r 5) h)) (g := (fun r h => J90_10 F M L1 (r 0) (r 3) (r 4) (r 5) (r 87) h)) (by kernel_rfl) (J90_10_ok F M L1) (fun r h => by kernel_rfl)
theorem J90_12_ok (F : CallH) (M : Nat) (L1 : Value → Value → Value → Value → AH → Res) : ∀ r h, kcode Tryd.prog F 94 M (Code.sub [true, true, true, true, true, true, false, false, false, true, false, false, true] (bodyOf Tryd.prog 90)) r h (KX (fun r h => J90_2 F M L1 (r 0) (r 3) (r 4) (r 5) h) (exitsOf [(1, (fun r h => J90_2 F M L1 (r 0) (r 3) (r 4) (r 5) h)), (0, (fun r h => J90_0 F M (r 3) h))]) (fun r h => E90 (r 2) h)) = J90_11 F M L1 (r 0) (r 3) (r 4) (r 5) h :=
  seq_pt (a := (Code.sub [true, true, true, true, true, true, false, false, false, true, false, false, true, false] (bodyOf Tryd.prog 90))) (b := (Code.sub [true, true, true, true, true, true, false, false, false, true, false, false, true, true] (bodyOf Tryd.prog 90))) (T := (fun r h => J90_11 F M L1 (r 0) (r 3) (r 4) (r 5) h)) (g := (fun r h => J90_4 F M L1 (r 0) (r 3) (r 4) (r 5) h)) (by kernel_rfl) (J90_5_ok F M L1) (J90_11_ok F M L1)
noncomputable def J90_13 (F : CallH) (M : Nat) (L1 : Value → Value → Value → Value → AH → Res) (v0 : Value) (v3 : Value) (v4 : Value) (v5 : Value) (h : AH) : Res :=
  bindO (ixS v0 v4) fun v59 =>
  bindO (ibin .leq (.int .u8 48) v59) fun v60 =>
  condO v60 (
  bindO (ixS v0 v4) fun v64 =>
  bindO (ibin .leq v64 (.int .u8 57)) fun v65 =>
  condO v65 (
  J90_2 F M L1 v0 (.int .i32 48) v4 v5 h) (
  condO v5 (
  bindO (ixS v0 v4) fun v72 =>
  bindO (F 89 [v72] h) fun pv73 =>
  bindO (ibin .leq (.int .u8 97) pv73.1) fun v74 =>
  condO v74 (
  bindO (ixS v0 v4) fun v79 =>
  bindO (F 89 [v79] pv73.2) fun pv80 =>
  bindO (ibin .leq pv80.1 (.int .u8 102)) fun v81 =>
  condO v81 (
  J90_2 F M L1 v0 (.int .i32 48) v4 v5 pv80.2) (
  J90_11 F M L1 v0 v3 v4 v5 pv80.2)) (
  J90_11 F M L1 v0 v3 v4 v5 pv73.2)) (
  J90_11 F M L1 v0 v3 v4 v5 h))) (
  condO v5 (
  bindO (ixS v0 v4) fun v72 =>
  bindO (F 89 [v72] h) fun pv73 =>
  bindO (ibin .leq (.int .u8 97) pv73.1) fun v74 =>
  condO v74 (
  bindO (ixS v0 v4) fun v79 =>
  bindO (F 89 [v79] pv73.2) fun pv80 =>
  bindO (ibin .leq pv80.1 (.int .u8 102)) fun v81 =>
  condO v81 (
  J90_2 F M L1 v0 (.int .i32 48) v4 v5 pv80.2) (
  J90_11 F M L1 v0 v3 v4 v5 pv80.2)) (
  J90_11 F M L1 v0 v3 v4 v5 pv73.2)) (
  J90_11 F M L1 v0 v3 v4 v5 h))
theorem J90_13_ok (F : CallH) (M : Nat) (L1 : Value → Value → Value → Value → AH → Res) : ∀ r h, kcode Tryd.prog F 94 M (Code.sub [true, true, true, true, true, true, false, false, false, true, false, false, false] (bodyOf Tryd.prog 90)) r h (KX (fun r h => J90_11 F M L1 (r 0) (r 3) (r 4) (r 5) h) (exitsOf [(1, (fun r h => J90_2 F M L1 (r 0) (r 3) (r 4) (r 5) h)), (0, (fun r h => J90_0 F M (r 3) h))]) (fun r h => E90 (r 2) h)) = J90_13 F M L1 (r 0) (r 3) (r 4) (r 5) h := fun r h => by kernel_rfl
theorem J90_14_ok (F : CallH) (M : Nat) (L1 : Value → Value → Value → Value → AH → Res) : ∀ r h, kcode Tryd.prog F 94 M (Code.sub [true, true, true, true, true, true, false, false, false, true, false, false] (bodyOf Tryd.prog 90)) r h (KX (fun r h => J90_2 F M L1 (r 0) (r 3) (r 4) (r 5) h) (exitsOf [(1, (fun r h => J90_2 F M L1 (r 0) (r 3) (r 4) (r 5) h)), (0, (fun r h => J90_0 F M (r 3) h))]) (fun r h => E90 (r 2) h)) = J90_13 F M L1 (r 0) (r 3) (r 4) (r 5) h :=
  seq_pt (a := (Code.sub [true, true, true, true, true, true, false, false, false, true, false, false, false] (bodyOf Tryd.prog 90))) (b := (Code.sub [true, true, true, true, true, true, false, false, false, true, false, false, true] (bodyOf Tryd.prog 90))) (T := (fun r h => J90_13 F M L1 (r 0) (r 3) (r 4) (r 5) h)) (g := (fun r h => J90_11 F M L1 (r 0) (r 3) (r 4) (r 5) h)) (by kernel_rfl) (J90_12_ok F M L1) (J90_13_ok F M L1)
theorem J90_15_ok (F : CallH) (M : Nat) (L1 : Value → Value → Value → Value → AH → Res) : ∀ r h, kcode Tryd.prog F 94 M (Code.sub [true, true, true, true, true, true, false, false, false, true, false] (bodyOf Tryd.prog 90)) r h (KX (fun r h => J90_2 F M L1 (r 0) (r 3) (r 4) (r 5) h) (exitsOf [(0, (fun r h => J90_0 F M (r 3) h))]) (fun r h => E90 (r 2) h)) = J90_13 F M L1 (r 0) (r 3) (r 4) (r 5) h :=
  block_pt (b := (Code.sub [true, true, true, true, true, true, false, false, false, true, false, false] (bodyOf Tryd.prog 90))) (T := (fun r h => J90_13 F M L1 (r 0) (r 3) (r 4) (r 5) h)) (id := 1) (by kernel_rfl) (J90_14_ok F M L1)
theorem J90_16_ok (F : CallH) (M : Nat) (L1 : Value → Value → Value → Value → AH → Res) : ∀ r h, kcode Tryd.prog F 94 M (Code.sub [true, true, true, true, true, true, false, false, false, true] (bodyOf Tryd.prog 90)) r h (KX (fun r h => L1 (r 0) (r 3) (r 4) (r 5) h) (exitsOf [(0, (fun r h => J90_0 F M (r 3) h))]) (fun r h => E90 (r 2) h)) = J90_13 F M L1 (r 0) (r 3) (r 4) (r 5) h :=
  seq_pt (a := (Code.sub [true, true, true, true, true, true, false, false, false, true, false] (bodyOf Tryd.prog 90))) (b := (Code.sub [true, true, true, true, true, true, false, false, false, true, true] (bodyOf Tryd.prog 90))) (T := (fun r h => J90_13 F M L1 (r 0) (r 3) (r 4) (r 5) h)) (g := (fun r h => J90_2 F M L1 (r 0) (r 3) (r 4) (r 5) h)) (by kernel_rfl) (J90_2_ok F M L1) (J90_15_ok F M L1)
noncomputable def J90_17 (F : CallH) (M : Nat) (L1 : Value → Value → Value → Value → AH → Res) (v0 : Value) (v3 : Value) (v4 : Value) (v5 : Value) (h : AH) : Res :=
  bindO (xlenS v0) fun v53 =>
  bindO (ibin .lss v4 v53) fun v54 =>
  condO v54 (
  J90_13 F M L1 v0 v3 v4 v5 h) (
  J90_0 F M v3 h)
theorem J90_17_ok (F : CallH) (M : Nat) (L1 : Value → Value → Value → Value → AH → Res) : ∀ r h, kcode Tryd.prog F 94 M (Code.sub [true, true, true, true, true, true, false, false, false, false] (bodyOf Tryd.prog 90)) r h (KX (fun r h => J90_13 F M L1 (r 0) (r 3) (r 4) (r 5) h) (exitsOf [(0, (fun r h => J90_0 F M (r 3) h))]) (fun r h => E90 (r 2) h)) = J90_17 F M L1 (r 0) (r 3) (r 4) (r 5) h := fun r h => by kernel_rfl
theorem J90_18_ok (F : CallH) (M : Nat) (L1 : Value → Value → Value → Value → AH → Res) : ∀ r h, kcode Tryd.prog F 94 M (Code.sub [true, true, true, true, true, true, false, false, false] (bodyOf Tryd.prog 90)) r h (KX (fun r h => L1 (r 0) (r 3) (r 4) (r 5) h) (exitsOf [(0, (fun r h => J90_0 F M (r 3) h))]) (fun r h => E90 (r 2) h)) = J90_17 F M L1 (r 0) (r 3) (r 4) (r 5) h :=
  seq_pt (a := (Code.sub [true, true, true, true, true, true, false, false, false, false] (bodyOf Tryd.prog 90))) (b := (Code.sub [true, true, true, true, true, true, false, false, false, true] (bodyOf Tryd.prog 90))) (T := (fun r h => J90_17 F M L1 (r 0) (r 3) (r 4) (r 5) h)) (g := (fun r h => J90_13 F M L1 (r 0) (r 3) (r 4) (r 5) h)) (by kernel_rfl) (J90_16_ok F M L1) (J90_17_ok F M L1)
noncomputable def L90_1 (F : CallH) (M : Nat) : Nat → Value → Value → Value → Value → AH → Res
  | 0, _, _, _, _, _ => none
  | m + 1, v0, v3, v4, v5, h => J90_17 F M (L90_1 F M m) v0 v3 v4 v5 h
theorem L90_1_ok (F : CallH) (M : Nat) : ∀ r h, kcode Tryd.prog F 94 M (Code.sub [true, true, true, true, true, true, false, false] (bodyOf Tryd.prog 90)) r h (KX (fun r h => J90_0 F M (r 3) h) (exitsOf [(0, (fun r h => J90_0 F M (r 3) h))]) (fun r h => E90 (r 2) h)) = L90_1 F M M (r 0) (r 3) (r 4) (r 5) h :=
  loop_pt (b := (Code.sub [true, true, true, true, true, true, false, false, false] (bodyOf Tryd.prog 90))) (by kernel_rfl) (fun m r h => L90_1 F M m (r 0) (r 3) (r 4) (r 5) h) (fun _ _ => rfl) (fun m r h => ((J90_18_ok F M (L90_1 F M m)) r h).trans rfl)
theorem J90_19_ok (F : CallH) (M : Nat) : ∀ r h, kcode Tryd.prog F 94 M (Code.sub [true, true, true, true, true, true, false] (bodyOf Tryd.prog 90)) r h (KX (fun r h => J90_0 F M (r 3) h) (exitsOf []) (fun r h => E90 (r 2) h)) = L90_1 F M M (r 0) (r 3) (r 4) (r 5) h :=
  block_pt (b := (Code.sub [true, true, true, true, true, true, false, false] (bodyOf Tryd.prog 90))) (T := (fun r h => L90_1 F M M (r 0) (r 3) (r 4) (r 5) h)) (id := 0) (by kernel_rfl) (L90_1_ok F M)
theorem J90_20_ok (F : CallH) (M : Nat) : ∀ r h, kcode Tryd.prog F 94 M (Code.sub [true, true, true, true, true, true] (bodyOf Tryd.prog 90)) r h (KX (fun r h => E90 (r 2) h) (exitsOf []) (fun r h => E90 (r 2) h)) = L90_1 F M M (r 0) (r 3) (r 4) (r 5) h :=
  seq_pt (a := (Code.sub [true, true, true, true, true, true, false] (bodyOf Tryd.prog 90))) (b := (Code.sub [true, true, true, true, true, true, true] (bodyOf Tryd.prog 90))) (T := (fun r h => L90_1 F M M (r 0) (r 3) (r 4) (r 5) h)) (g := (fun r h => J90_0 F M (r 3) h)) (by kernel_rfl) (J90_0_ok F M) (J90_19_ok F M)
noncomputable def J90_21 (F : CallH) (M : Nat) (v0 : Value) (v3 : Value) (v4 : Value) (v5 : Value) (h : AH) : Res :=
  bindO (xlenS v0) fun v22 =>
  bindO (ibin .geq v22 (.int .i64 2)) fun v23 =>
  condO v23 (
  bindO (ixS v0 (.int .i64 0)) fun v26 =>
  bindO (ibin .eql v26 (.int .u8 48)) fun v27 =>
  condO v27 (
  bindO (ixS v0 (.int .i64 1)) fun v31 =>
  bindO (F 89 [v31] h) fun pv32 =>
  bindO (ibin .eql pv32.1 (.int .u8 98)) fun v33 =>
  condO v33 (
  bindO (ixS v0 (.int .i64 1)) fun v48 =>
  bindO (F 89 [v48] pv32.2) fun pv49 =>
  bindO (ibin .eql pv49.1 (.int .u8 120)) fun v50 =>
  L90_1 F M M v0 (.int .i32 48) (.int .i64 2) v50 pv49.2) (
  bindO (ixS v0 (.int .i64 1)) fun v36 =>
  bindO (F 89 [v36] pv32.2) fun pv37 =>
  bindO (ibin .eql pv37.1 (.int .u8 111)) fun v38 =>
  condO v38 (
  bindO (ixS v0 (.int .i64 1)) fun v48 =>
  bindO (F 89 [v48] pv37.2) fun pv49 =>
  bindO (ibin .eql pv49.1 (.int .u8 120)) fun v50 =>
  L90_1 F M M v0 (.int .i32 48) (.int .i64 2) v50 pv49.2) (
  bindO (ixS v0 (.int .i64 1)) fun v42 =>
  bindO (F 89 [v42] pv37.2) fun pv43 =>
  bindO (ibin .eql pv43.1 (.int .u8 120)) fun v44 =>
  condO v44 (
  bindO (ixS v0 (.int .i64 1)) fun v48 =>
  bindO (F 89 [v48] pv43.2) fun pv49 =>
  bindO (ibin .eql pv49.1 (.int .u8 120)) fun v50 =>
  L90_1 F M M v0 (.int .i32 48) (.int .i64 2) v50 pv49.2) (
  L90_1 F M M v0 v3 v4 v5 pv43.2)))) (
  L90_1 F M M v0 v3 v4 v5 h)) (
  L90_1 F M M v0 v3 v4 v5 h)
theorem J90_21_ok (F : CallH) (M : Nat) : ∀ r h, kcode Tryd.prog F 94 M (Code.sub [true, true, true, true, true, false] (bodyOf Tryd.prog 90)) r h (KX (fun r h => L90_1 F M M (r 0) (r 3) (r 4) (r 5) h) (exitsOf []) (fun r h => E90 (r 2) h)) = J90_21 F M (r 0) (r 3) (r 4) (r 5) h := fun r h => by kernel_rfl
theorem J90_22_ok (F : CallH) (M : Nat) : ∀ r h, kcode Tryd.prog F 94 M (Code.sub [true, true, true, true, true] (bodyOf Tryd.prog 90)) r h (KX (fun r h => E90 (r 2) h) (exitsOf []) (fun r h => E90 (r 2) h)) = J90_21 F M (r 0) (r 3) (r 4) (r 5) h :=
  seq_pt (a := (Code.sub [true, true, true, true, true, false] (bodyOf Tryd.prog 90))) (b := (Code.sub [true, true, true, true, true, true] (bodyOf Tryd.prog 90))) (T := (fun r h => J90_21 F M (r 0) (r 3) (r 4) (r 5) h)) (g := (fun r h => L90_1 F M M (r 0) (r 3) (r 4) (r 5) h)) (by kernel_rfl) (J90_20_ok F M) (J90_21_ok F M)
noncomputable def J90_23 (F : CallH) (M : Nat) (v0 : Value) (v3 : Value) (v4 : Value) (h : AH) : Res :=
  J90_21 F M v0 v3 v4 (.bool false) h
theorem J90_23_ok (F : CallH) (M : Nat) : ∀ r h, kcode Tryd.prog F 94 M (Code.sub [true, true, true, true] (bodyOf Tryd.prog 90)) r h (KX (fun r h => E90 (r 2) h) (exitsOf []) (fun r h => E90 (r 2) h)) = J90_23 F M (r 0) (r 3) (r 4) h :=
  seq_pt (a := (Code.sub [true, true, true, true, false] (bodyOf Tryd.prog 90))) (b := (Code.sub [true, true, true, true, true] (bodyOf Tryd.prog 90))) (T := (fun r h => J90_23 F M (r 0) (r 3) (r 4) h)) (g := (fun r h => J90_21 F M (r 0) (r 3) (r 4) (r 5) h)) (by kernel_rfl) (J90_22_ok F M) (fun r h => by kernel_rfl)
noncomputable def J90_24 (F : CallH) (M : Nat) (v0 : Value) (v3 : Value) (v4 : Value) (h : AH) : Res :=
  bindO (xlenS v0) fun v7 =>
  bindO (ibin .geq v7 (.int .i64 1)) fun v8 =>
  condO v8 (
  bindO (ixS v0 (.int .i64 0)) fun v11 =>
  bindO (ibin .eql v11 (.int .u8 45)) fun v12 =>
  condO v12 (
  bindO (xslS v0 (some (.int .i64 1)) none) fun v20 =>
  J90_23 F M v20 v3 v4 h) (
  bindO (ixS v0 (.int .i64 0)) fun v15 =>
  bindO (ibin .eql v15 (.int .u8 43)) fun v16 =>
  condO v16 (
  bindO (xslS v0 (some (.int .i64 1)) none) fun v20 =>
  J90_23 F M v20 v3 v4 h) (
  J90_23 F M v0 v3 v4 h))) (
  J90_23 F M v0 v3 v4 h)
theorem J90_24_ok (F : CallH) (M : Nat) : ∀ r h, kcode Tryd.prog F 94 M (Code.sub [true, true, true, false] (bodyOf Tryd.prog 90)) r h (KX (fun r h => J90_23 F M (r 0) (r 3) (r 4) h) (exitsOf []) (fun r h => E90 (r 2) h)) = J90_24 F M (r 0) (r 3) (r 4) h := fun r h => by kernel_rfl
theorem J90_25_ok (F : CallH) (M : Nat) : ∀ r h, kcode Tryd.prog F 94 M (Code.sub [true, true, true] (bodyOf Tryd.prog 90)) r h (KX (fun r h => E90 (r 2) h) (exitsOf []) (fun r h => E90 (r 2) h)) = J90_24 F M (r 0) (r 3) (r 4) h :=
  seq_pt (a := (Code.sub [true, true, true, false] (bodyOf Tryd.prog 90))) (b := (Code.sub [true, true, true, true] (bodyOf Tryd.prog 90))) (T := (fun r h => J90_24 F M (r 0) (r 3) (r 4) h)) (g := (fun r h => J90_23 F M (r 0) (r 3) (r 4) h)) (by kernel_rfl) (J90_23_ok F M) (J90_24_ok F M)
noncomputable def J90_26 (F : CallH) (M : Nat) (v0 : Value) (v3 : Value) (h : AH) : Res :=
  J90_24 F M v0 v3 (.int .i64 0) h
theorem J90_26_ok (F : CallH) (M : Nat) : ∀ r h, kcode Tryd.prog F 94 M (Code.sub [true, true] (bodyOf Tryd.prog 90)) r h (KX (fun r h => E90 (r 2) h) (exitsOf []) (fun r h => E90 (r 2) h)) = J90_26 F M (r 0) (r 3) h :=
  seq_pt (a := (Code.sub [true, true, false] (bodyOf Tryd.prog 90))) (b := (Code.sub [true, true, true] (bodyOf Tryd.prog 90))) (T := (fun r h => J90_26 F M (r 0) (r 3) h)) (g := (fun r h => J90_24 F M (r 0) (r 3) (r 4) h)) (by kernel_rfl) (J90_25_ok F M) (fun r h => by kernel_rfl)
noncomputable def J90_27 (F : CallH) (M : Nat) (v0 : Value) (h : AH) : Res :=
  J90_26 F M v0 (.int .i32 94) h
theorem J90_27_ok (F : CallH) (M : Nat) : ∀ r h, kcode Tryd.prog F 94 M (Code.sub [true] (bodyOf Tryd.prog 90)) r h (KX (fun r h => E90 (r 2) h) (exitsOf []) (fun r h => E90 (r 2) h)) = J90_27 F M (r 0) h :=
  seq_pt (a := (Code.sub [true, false] (bodyOf Tryd.prog 90))) (b := (Code.sub [true, true] (bodyOf Tryd.prog 90))) (T := (fun r h => J90_27 F M (r 0) h)) (g := (fun r h => J90_26 F M (r 0) (r 3) h)) (by kernel_rfl) (J90_26_ok F M) (fun r h => by kernel_rfl)
noncomputable def J90_28 (F : CallH) (M : Nat) (v0 : Value) (h : AH) : Res :=
  J90_27 F M v0 h
theorem J90_28_ok (F : CallH) (M : Nat) : ∀ r h, kcode Tryd.prog F 94 M (Code.sub [] (bodyOf Tryd.prog 90)) r h (KX (fun r h => E90 (r 2) h) (exitsOf []) (fun r h => E90 (r 2) h)) = J90_28 F M (r 0) h :=
  seq_pt (a := (Code.sub [false] (bodyOf Tryd.prog 90))) (b := (Code.sub [true] (bodyOf Tryd.prog 90))) (T := (fun r h => J90_28 F M (r 0) h)) (g := (fun r h => J90_27 F M (r 0) h)) (by kernel_rfl) (J90_27_ok F M) (fun r h => by kernel_rfl)
noncomputable def R90 (F : CallH) (M : Nat) (x0 : Value) (h : AH) : Res := J90_28 F M x0 h
theorem R90_ok (F : CallH) (M : Nat) (x0 : Value) (h : AH) : kfn Tryd.prog F M 90 [x0] h = R90 F M x0 h :=
  (fn_pt (N := 94) (E := (fun r h => E90 (r 2) h)) (T := (fun r h => J90_28 F M (r 0) h)) Tryd.func90 (by kernel_rfl) (by kernel_rfl) (fun r h => by kernel_rfl) (J90_28_ok F M)).trans (by kernel_rfl)
/-! ### 94 internal/strconv.isPowerOfTwo -/
noncomputable def E94 (v2 : Value) (h : AH) : Res := some (v2, h)
noncomputable def J94_0 (F : CallH) (M : Nat) (v0 : Value) (h : AH) : Res :=
  bindO (ibin .sub v0 (.int .i64 1)) fun v5 =>
  bindO (ibin .and v0 v5) fun v6 =>
  bindO (ibin .eql v6 (.int .i64 0)) fun v7 =>
  E94 v7 h
theorem J94_0_ok (F : CallH) (M : Nat) : ∀ r h, kcode Tryd.prog F 8 M (Code.sub [] (bodyOf Tryd.prog 94)) r h (KX (fun r h => E94 (r 2) h) (exitsOf []) (fun r h => E94 (r 2) h)) = J94_0 F M (r 0) h := fun r h => by kernel_rfl
noncomputable def R94 (F : CallH) (M : Nat) (x0 : Value) (h : AH) : Res := J94_0 F M x0 h
theorem R94_ok (F : CallH) (M : Nat) (x0 : Value) (h : AH) : kfn Tryd.prog F M 94 [x0] h = R94 F M x0 h :=
  (fn_pt (N := 8) (E := (fun r h => E94 (r 2) h)) (T := (fun r h => J94_0 F M (r 0) h)) Tryd.func94 (by kernel_rfl) (by kernel_rfl) (fun r h => by kernel_rfl) (J94_0_ok F M)).trans (by kernel_rfl)
-- 98 (runtime.boundsError).Error has no body
-- 102 (runtime.plainError).Error has no body
-- 106 (*runtime.TypeAssertionError).Error has no body
-- 110 (*internal/abi.Type).Align has no body
-- 114 (internal/strconv.Error).Error has no body
-- 118 var's door: gosem.cut.vars holds initialisers alone; see the manifest's row cutvarsword (look 11, test files too) has no body
-- 122 var's door: strconv.ErrRange is laid by its own call of errors.New on one literal (look 11) has no body
-- 126 var's door: turnkey/api.ErrFull is laid by its own call of errors.New on one literal (look 11) has no body
-- 130 var's door: turnkey/api.ErrNumber is laid by its own call of errors.New on one literal (look 11) has no body
-- 134 var's door: turnkey/api.ErrShape is laid by its own call of errors.New on one literal (look 11) has no body
-- 138 var's door: unicode/utf8.first is laid by its text alone (pinned 1) has no body
end Go.Proofs.YtehmkckpbknodaaDoor
