/- The functions of the program as Lean functions, printed by a program of ours; each with its proof. -/
import Derived.Test.YtehmkckpbknodaaDoorProg
import Derived.Test.YtehmkckpbknodaaDoorEvE
import Derived.KernelRfl
namespace Go.Proofs.YtehmkckpbknodaaDoor
open Go Go.Ev
set_option maxRecDepth 100000
set_option linter.all false
/-! ### 3 turnkey/turnkeylaw15.AsmNames -/
noncomputable def E3 (v8 : Value) (h : AH) : Res := some (v8, h)
noncomputable def J3_0 (F : CallH) (M : Nat) (v9 : Value) (h : AH) : Res :=
  E3 v9 h
theorem J3_0_ok (F : CallH) (M : Nat) : ∀ r h, kcode Tryd.prog F 123 M (Code.sub [true, true, true, true, true, true, true, true, true, true, true, true, true] (bodyOf Tryd.prog 3)) r h (KX (fun r h => E3 (r 8) h) (exitsOf []) (fun r h => E3 (r 8) h)) = J3_0 F M (r 9) h := fun r h => by kernel_rfl
noncomputable def J3_1 (F : CallH) (M : Nat) (v3 : Value) (v9 : Value) (v10 : Value) (v11 : Value) (h : AH) : Res :=
  bindO (ibin .rem v3 (.int .i64 3)) fun v87 =>
  bindO (ibin .eql v87 (.int .i64 0)) fun v89 =>
  condO v89 (
  bindO (xrow [(str [])] [(0, 1, (str [104, 101, 114, 101, 58]))]) fun v92 => newK h (.cells v92 1) fun iv92 h1 =>
  bindO (xapp 16 1 h1 v10 (slOf iv92 1 1)) fun pv93 =>
  bindO (F 7 [pv93.1] pv93.2) fun pv94 =>
  bindO (xext 0 pv94.1) fun v95 =>
  bindO (xext 1 pv94.1) fun v96 =>
  condO v9 (
  bindO (xlenL v10) fun v101 =>
  bindO (F 10 [(.int .i64 104), v101] pv94.2) fun pv102 =>
  bindO (F 9 [v96, pv102.1] pv102.2) fun pv103 =>
  E3 pv103.1 pv103.2) (
  E3 (.bool false) pv94.2)) (
  bindO (ibin .eql v87 (.int .i64 1)) fun v106 =>
  condO v106 (
  bindO (xia 1 v10 v11) fun v109 =>
  bindO (xst 1 h v109 (str [106, 109, 112, 32, 116, 104, 101, 114, 101])) fun h6 =>
  bindO (F 7 [v10] h6) fun pv112 =>
  bindO (xext 0 pv112.1) fun v113 =>
  bindO (xext 1 pv112.1) fun v114 =>
  condO v9 (
  bindO (F 10 [(.int .i64 105), v11] pv112.2) fun pv119 =>
  bindO (F 9 [v114, pv119.1] pv119.2) fun pv120 =>
  E3 pv120.1 pv120.2) (
  E3 (.bool false) pv112.2)) (
  J3_0 F M v9 h))
theorem J3_1_ok (F : CallH) (M : Nat) : ∀ r h, kcode Tryd.prog F 123 M (Code.sub [true, true, true, true, true, true, true, true, true, true, true, true, false] (bodyOf Tryd.prog 3)) r h (KX (fun r h => J3_0 F M (r 9) h) (exitsOf []) (fun r h => E3 (r 8) h)) = J3_1 F M (r 3) (r 9) (r 10) (r 11) h := fun r h => by kernel_rfl
theorem J3_2_ok (F : CallH) (M : Nat) : ∀ r h, kcode Tryd.prog F 123 M (Code.sub [true, true, true, true, true, true, true, true, true, true, true, true] (bodyOf Tryd.prog 3)) r h (KX (fun r h => E3 (r 8) h) (exitsOf []) (fun r h => E3 (r 8) h)) = J3_1 F M (r 3) (r 9) (r 10) (r 11) h :=
  seq_pt (a := (Code.sub [true, true, true, true, true, true, true, true, true, true, true, true, false] (bodyOf Tryd.prog 3))) (b := (Code.sub [true, true, true, true, true, true, true, true, true, true, true, true, true] (bodyOf Tryd.prog 3))) (T := (fun r h => J3_1 F M (r 3) (r 9) (r 10) (r 11) h)) (g := (fun r h => J3_0 F M (r 9) h)) (by kernel_rfl) (J3_0_ok F M) (J3_1_ok F M)
noncomputable def J3_3 (F : CallH) (M : Nat) (v0 : Value) (v2 : Value) (v3 : Value) (v9 : Value) (v10 : Value) (v11 : Value) (v13 : Value) (v14 : Value) (v15 : Value) (h : AH) : Res :=
  bindO (xnilI .neq v14) fun v71 =>
  condO v71 (
  E3 (.bool false) h) (
  bindO (xlenL v13) fun v74 =>
  bindO (ibin .neq v74 v0) fun v76 =>
  condO v76 (
  E3 (.bool false) h) (
  bindO (xia 1 v13 v2) fun v81 =>
  bindO (ld1 h v81) fun v82 =>
  bindO (ibin .neq v82 v15) fun v84 =>
  condO v84 (
  E3 (.bool false) h) (
  J3_1 F M v3 v9 v10 v11 h)))
theorem J3_3_ok (F : CallH) (M : Nat) : ∀ r h, kcode Tryd.prog F 123 M (Code.sub [true, true, true, true, true, true, true, true, true, true, true, false] (bodyOf Tryd.prog 3)) r h (KX (fun r h => J3_1 F M (r 3) (r 9) (r 10) (r 11) h) (exitsOf []) (fun r h => E3 (r 8) h)) = J3_3 F M (r 0) (r 2) (r 3) (r 9) (r 10) (r 11) (r 13) (r 14) (r 15) h := fun r h => by kernel_rfl
theorem J3_4_ok (F : CallH) (M : Nat) : ∀ r h, kcode Tryd.prog F 123 M (Code.sub [true, true, true, true, true, true, true, true, true, true, true] (bodyOf Tryd.prog 3)) r h (KX (fun r h => E3 (r 8) h) (exitsOf []) (fun r h => E3 (r 8) h)) = J3_3 F M (r 0) (r 2) (r 3) (r 9) (r 10) (r 11) (r 13) (r 14) (r 15) h :=
  seq_pt (a := (Code.sub [true, true, true, true, true, true, true, true, true, true, true, false] (bodyOf Tryd.prog 3))) (b := (Code.sub [true, true, true, true, true, true, true, true, true, true, true, true] (bodyOf Tryd.prog 3))) (T := (fun r h => J3_3 F M (r 0) (r 2) (r 3) (r 9) (r 10) (r 11) (r 13) (r 14) (r 15) h)) (g := (fun r h => J3_1 F M (r 3) (r 9) (r 10) (r 11) h)) (by kernel_rfl) (J3_2_ok F M) (J3_3_ok F M)
noncomputable def J3_5 (F : CallH) (M : Nat) (v0 : Value) (v1 : Value) (v2 : Value) (v3 : Value) (v9 : Value) (v10 : Value) (v11 : Value) (v13 : Value) (v14 : Value) (h : AH) : Res :=
  bindO (xbuild [(.int .i64 0), (.int .i64 0), (.int .i64 0), (.int .i64 0), (.int .i64 0)] [(0, 1, (.int .i64 5)), (1, 1, (.int .i64 3)), (4, 1, v1)]) fun v66 =>
  bindO (F 8 [v66] h) fun pv67 =>
  bindO (xext 0 pv67.1) fun v68 =>
  bindO (xext 1 pv67.1) fun v69 =>
  J3_3 F M v0 v2 v3 v9 v10 v11 v13 v14 v68 pv67.2
theorem J3_5_ok (F : CallH) (M : Nat) : ∀ r h, kcode Tryd.prog F 123 M (Code.sub [true, true, true, true, true, true, true, true, true, true] (bodyOf Tryd.prog 3)) r h (KX (fun r h => E3 (r 8) h) (exitsOf []) (fun r h => E3 (r 8) h)) = J3_5 F M (r 0) (r 1) (r 2) (r 3) (r 9) (r 10) (r 11) (r 13) (r 14) h :=
  seq_pt (a := (Code.sub [true, true, true, true, true, true, true, true, true, true, false] (bodyOf Tryd.prog 3))) (b := (Code.sub [true, true, true, true, true, true, true, true, true, true, true] (bodyOf Tryd.prog 3))) (T := (fun r h => J3_5 F M (r 0) (r 1) (r 2) (r 3) (r 9) (r 10) (r 11) (r 13) (r 14) h)) (g := (fun r h => J3_3 F M (r 0) (r 2) (r 3) (r 9) (r 10) (r 11) (r 13) (r 14) (r 15) h)) (by kernel_rfl) (J3_4_ok F M) (fun r h => by kernel_rfl)
noncomputable def J3_6 (F : CallH) (M : Nat) (v0 : Value) (v1 : Value) (v2 : Value) (v3 : Value) (v9 : Value) (v10 : Value) (v11 : Value) (h : AH) : Res :=
  bindO (F 7 [v10] h) fun pv61 =>
  bindO (xext 0 pv61.1) fun v62 =>
  bindO (xext 1 pv61.1) fun v63 =>
  J3_5 F M v0 v1 v2 v3 v9 v10 v11 v62 v63 pv61.2
theorem J3_6_ok (F : CallH) (M : Nat) : ∀ r h, kcode Tryd.prog F 123 M (Code.sub [true, true, true, true, true, true, true, true, true] (bodyOf Tryd.prog 3)) r h (KX (fun r h => E3 (r 8) h) (exitsOf []) (fun r h => E3 (r 8) h)) = J3_6 F M (r 0) (r 1) (r 2) (r 3) (r 9) (r 10) (r 11) h :=
  seq_pt (a := (Code.sub [true, true, true, true, true, true, true, true, true, false] (bodyOf Tryd.prog 3))) (b := (Code.sub [true, true, true, true, true, true, true, true, true, true] (bodyOf Tryd.prog 3))) (T := (fun r h => J3_6 F M (r 0) (r 1) (r 2) (r 3) (r 9) (r 10) (r 11) h)) (g := (fun r h => J3_5 F M (r 0) (r 1) (r 2) (r 3) (r 9) (r 10) (r 11) (r 13) (r 14) h)) (by kernel_rfl) (J3_5_ok F M) (fun r h => by kernel_rfl)
noncomputable def J3_8 (F : CallH) (M : Nat) (L7 : Value → Value → Value → Value → Value → Value → Value → Value → AH → Res) (v0 : Value) (v1 : Value) (v2 : Value) (v3 : Value) (v9 : Value) (v10 : Value) (v11 : Value) (v12 : Value) (h : AH) : Res :=
  bindO (ibin .add v12 (.int .i64 1)) fun v38 =>
  L7 v0 v1 v2 v3 v9 v10 v11 v38 h
theorem J3_8_ok (F : CallH) (M : Nat) (L7 : Value → Value → Value → Value → Value → Value → Value → Value → AH → Res) : ∀ r h, kcode Tryd.prog F 123 M (Code.sub [true, true, true, true, true, true, true, true, false, true, false, false, true, true] (bodyOf Tryd.prog 3)) r h (KX (fun r h => L7 (r 0) (r 1) (r 2) (r 3) (r 9) (r 10) (r 11) (r 12) h) (exitsOf [(0, (fun r h => J3_6 F M (r 0) (r 1) (r 2) (r 3) (r 9) (r 10) (r 11) h))]) (fun r h => E3 (r 8) h)) = J3_8 F M L7 (r 0) (r 1) (r 2) (r 3) (r 9) (r 10) (r 11) (r 12) h := fun r h => by kernel_rfl
noncomputable def J3_9 (F : CallH) (M : Nat) (L7 : Value → Value → Value → Value → Value → Value → Value → Value → AH → Res) (v0 : Value) (v1 : Value) (v2 : Value) (v3 : Value) (v9 : Value) (v10 : Value) (v11 : Value) (v12 : Value) (h : AH) : Res :=
  bindO (ibin .eql v12 v2) fun v50 =>
  condO v50 (
  bindO (xlenL v10) fun v52 =>
  bindO (xrow [(str [])] [(0, 1, (str [106, 122, 32, 114, 51, 32, 104, 101, 114, 101]))]) fun v54 => newK h (.cells v54 1) fun iv54 h12 =>
  bindO (xapp 16 1 h12 v10 (slOf iv54 1 1)) fun pv55 =>
  J3_8 F M L7 v0 v1 v2 v3 v9 pv55.1 v52 v12 pv55.2) (
  bindO (xrow [(str [])] [(0, 1, (str [121, 105, 101, 108, 100]))]) fun v57 => newK h (.cells v57 1) fun iv57 h14 =>
  bindO (xapp 16 1 h14 v10 (slOf iv57 1 1)) fun pv58 =>
  J3_8 F M L7 v0 v1 v2 v3 v9 pv58.1 v11 v12 pv58.2)
theorem J3_9_ok (F : CallH) (M : Nat) (L7 : Value → Value → Value → Value → Value → Value → Value → Value → AH → Res) : ∀ r h, kcode Tryd.prog F 123 M (Code.sub [true, true, true, true, true, true, true, true, false, true, false, false, true, false, false, true, true] (bodyOf Tryd.prog 3)) r h (KX (fun r h => J3_8 F M L7 (r 0) (r 1) (r 2) (r 3) (r 9) (r 10) (r 11) (r 12) h) (exitsOf [(1, (fun r h => J3_8 F M L7 (r 0) (r 1) (r 2) (r 3) (r 9) (r 10) (r 11) (r 12) h)), (0, (fun r h => J3_6 F M (r 0) (r 1) (r 2) (r 3) (r 9) (r 10) (r 11) h))]) (fun r h => E3 (r 8) h)) = J3_9 F M L7 (r 0) (r 1) (r 2) (r 3) (r 9) (r 10) (r 11) (r 12) h := fun r h => by kernel_rfl
noncomputable def J3_10 (F : CallH) (M : Nat) (L7 : Value → Value → Value → Value → Value → Value → Value → Value → AH → Res) (v0 : Value) (v1 : Value) (v2 : Value) (v3 : Value) (v9 : Value) (v10 : Value) (v11 : Value) (v12 : Value) (h : AH) : Res :=
  bindO (ibin .eql v12 v0) fun v47 =>
  condO v47 (
  J3_6 F M v0 v1 v2 v3 v9 v10 v11 h) (
  J3_9 F M L7 v0 v1 v2 v3 v9 v10 v11 v12 h)
theorem J3_10_ok (F : CallH) (M : Nat) (L7 : Value → Value → Value → Value → Value → Value → Value → Value → AH → Res) : ∀ r h, kcode Tryd.prog F 123 M (Code.sub [true, true, true, true, true, true, true, true, false, true, false, false, true, false, false, true, false] (bodyOf Tryd.prog 3)) r h (KX (fun r h => J3_9 F M L7 (r 0) (r 1) (r 2) (r 3) (r 9) (r 10) (r 11) (r 12) h) (exitsOf [(1, (fun r h => J3_8 F M L7 (r 0) (r 1) (r 2) (r 3) (r 9) (r 10) (r 11) (r 12) h)), (0, (fun r h => J3_6 F M (r 0) (r 1) (r 2) (r 3) (r 9) (r 10) (r 11) h))]) (fun r h => E3 (r 8) h)) = J3_10 F M L7 (r 0) (r 1) (r 2) (r 3) (r 9) (r 10) (r 11) (r 12) h := fun r h => by kernel_rfl
theorem J3_11_ok (F : CallH) (M : Nat) (L7 : Value → Value → Value → Value → Value → Value → Value → Value → AH → Res) : ∀ r h, kcode Tryd.prog F 123 M (Code.sub [true, true, true, true, true, true, true, true, false, true, false, false, true, false, false, true] (bodyOf Tryd.prog 3)) r h (KX (fun r h => J3_8 F M L7 (r 0) (r 1) (r 2) (r 3) (r 9) (r 10) (r 11) (r 12) h) (exitsOf [(1, (fun r h => J3_8 F M L7 (r 0) (r 1) (r 2) (r 3) (r 9) (r 10) (r 11) (r 12) h)), (0, (fun r h => J3_6 F M (r 0) (r 1) (r 2) (r 3) (r 9) (r 10) (r 11) h))]) (fun r h => E3 (r 8) h)) = J3_10 F M L7 (r 0) (r 1) (r 2) (r 3) (r 9) (r 10) (r 11) (r 12) h :=
  seq_pt (a := (Code.sub [true, true, true, true, true, true, true, true, false, true, false, false, true, false, false, true, false] (bodyOf Tryd.prog 3))) (b := (Code.sub [true, true, true, true, true, true, true, true, false, true, false, false, true, false, false, true, true] (bodyOf Tryd.prog 3))) (T := (fun r h => J3_10 F M L7 (r 0) (r 1) (r 2) (r 3) (r 9) (r 10) (r 11) (r 12) h)) (g := (fun r h => J3_9 F M L7 (r 0) (r 1) (r 2) (r 3) (r 9) (r 10) (r 11) (r 12) h)) (by kernel_rfl) (J3_9_ok F M L7) (J3_10_ok F M L7)
noncomputable def J3_12 (F : CallH) (M : Nat) (L7 : Value → Value → Value → Value → Value → Value → Value → Value → AH → Res) (v0 : Value) (v1 : Value) (v2 : Value) (v3 : Value) (v9 : Value) (v10 : Value) (v11 : Value) (v12 : Value) (h : AH) : Res :=
  bindO (ibin .eql v12 v1) fun v41 =>
  condO v41 (
  bindO (xrow [(str []), (str []), (str [])] [(0, 1, (str [35, 32, 104, 101, 114, 101])), (1, 1, (str [104, 101, 114, 101, 58])), (2, 1, (str []))]) fun v43 => newK h (.cells v43 1) fun iv43 h16 =>
  bindO (xapp 16 1 h16 v10 (slOf iv43 3 3)) fun pv44 =>
  J3_10 F M L7 v0 v1 v2 v3 v9 pv44.1 v11 v12 pv44.2) (
  J3_10 F M L7 v0 v1 v2 v3 v9 v10 v11 v12 h)
theorem J3_12_ok (F : CallH) (M : Nat) (L7 : Value → Value → Value → Value → Value → Value → Value → Value → AH → Res) : ∀ r h, kcode Tryd.prog F 123 M (Code.sub [true, true, true, true, true, true, true, true, false, true, false, false, true, false, false, false] (bodyOf Tryd.prog 3)) r h (KX (fun r h => J3_10 F M L7 (r 0) (r 1) (r 2) (r 3) (r 9) (r 10) (r 11) (r 12) h) (exitsOf [(1, (fun r h => J3_8 F M L7 (r 0) (r 1) (r 2) (r 3) (r 9) (r 10) (r 11) (r 12) h)), (0, (fun r h => J3_6 F M (r 0) (r 1) (r 2) (r 3) (r 9) (r 10) (r 11) h))]) (fun r h => E3 (r 8) h)) = J3_12 F M L7 (r 0) (r 1) (r 2) (r 3) (r 9) (r 10) (r 11) (r 12) h := fun r h => by kernel_rfl
theorem J3_13_ok (F : CallH) (M : Nat) (L7 : Value → Value → Value → Value → Value → Value → Value → Value → AH → Res) : ∀ r h, kcode Tryd.prog F 123 M (Code.sub [true, true, true, true, true, true, true, true, false, true, false, false, true, false, false] (bodyOf Tryd.prog 3)) r h (KX (fun r h => J3_8 F M L7 (r 0) (r 1) (r 2) (r 3) (r 9) (r 10) (r 11) (r 12) h) (exitsOf [(1, (fun r h => J3_8 F M L7 (r 0) (r 1) (r 2) (r 3) (r 9) (r 10) (r 11) (r 12) h)), (0, (fun r h => J3_6 F M (r 0) (r 1) (r 2) (r 3) (r 9) (r 10) (r 11) h))]) (fun r h => E3 (r 8) h)) = J3_12 F M L7 (r 0) (r 1) (r 2) (r 3) (r 9) (r 10) (r 11) (r 12) h :=
  seq_pt (a := (Code.sub [true, true, true, true, true, true, true, true, false, true, false, false, true, false, false, false] (bodyOf Tryd.prog 3))) (b := (Code.sub [true, true, true, true, true, true, true, true, false, true, false, false, true, false, false, true] (bodyOf Tryd.prog 3))) (T := (fun r h => J3_12 F M L7 (r 0) (r 1) (r 2) (r 3) (r 9) (r 10) (r 11) (r 12) h)) (g := (fun r h => J3_10 F M L7 (r 0) (r 1) (r 2) (r 3) (r 9) (r 10) (r 11) (r 12) h)) (by kernel_rfl) (J3_11_ok F M L7) (J3_12_ok F M L7)
theorem J3_14_ok (F : CallH) (M : Nat) (L7 : Value → Value → Value → Value → Value → Value → Value → Value → AH → Res) : ∀ r h, kcode Tryd.prog F 123 M (Code.sub [true, true, true, true, true, true, true, true, false, true, false, false, true, false] (bodyOf Tryd.prog 3)) r h (KX (fun r h => J3_8 F M L7 (r 0) (r 1) (r 2) (r 3) (r 9) (r 10) (r 11) (r 12) h) (exitsOf [(0, (fun r h => J3_6 F M (r 0) (r 1) (r 2) (r 3) (r 9) (r 10) (r 11) h))]) (fun r h => E3 (r 8) h)) = J3_12 F M L7 (r 0) (r 1) (r 2) (r 3) (r 9) (r 10) (r 11) (r 12) h :=
  block_pt (b := (Code.sub [true, true, true, true, true, true, true, true, false, true, false, false, true, false, false] (bodyOf Tryd.prog 3))) (T := (fun r h => J3_12 F M L7 (r 0) (r 1) (r 2) (r 3) (r 9) (r 10) (r 11) (r 12) h)) (id := 1) (by kernel_rfl) (J3_13_ok F M L7)
theorem J3_15_ok (F : CallH) (M : Nat) (L7 : Value → Value → Value → Value → Value → Value → Value → Value → AH → Res) : ∀ r h, kcode Tryd.prog F 123 M (Code.sub [true, true, true, true, true, true, true, true, false, true, false, false, true] (bodyOf Tryd.prog 3)) r h (KX (fun r h => L7 (r 0) (r 1) (r 2) (r 3) (r 9) (r 10) (r 11) (r 12) h) (exitsOf [(0, (fun r h => J3_6 F M (r 0) (r 1) (r 2) (r 3) (r 9) (r 10) (r 11) h))]) (fun r h => E3 (r 8) h)) = J3_12 F M L7 (r 0) (r 1) (r 2) (r 3) (r 9) (r 10) (r 11) (r 12) h :=
  seq_pt (a := (Code.sub [true, true, true, true, true, true, true, true, false, true, false, false, true, false] (bodyOf Tryd.prog 3))) (b := (Code.sub [true, true, true, true, true, true, true, true, false, true, false, false, true, true] (bodyOf Tryd.prog 3))) (T := (fun r h => J3_12 F M L7 (r 0) (r 1) (r 2) (r 3) (r 9) (r 10) (r 11) (r 12) h)) (g := (fun r h => J3_8 F M L7 (r 0) (r 1) (r 2) (r 3) (r 9) (r 10) (r 11) (r 12) h)) (by kernel_rfl) (J3_8_ok F M L7) (J3_14_ok F M L7)
noncomputable def J3_16 (F : CallH) (M : Nat) (L7 : Value → Value → Value → Value → Value → Value → Value → Value → AH → Res) (v0 : Value) (v1 : Value) (v2 : Value) (v3 : Value) (v9 : Value) (v10 : Value) (v11 : Value) (v12 : Value) (h : AH) : Res :=
  bindO (ibin .leq v12 v0) fun v36 =>
  condO v36 (
  J3_12 F M L7 v0 v1 v2 v3 v9 v10 v11 v12 h) (
  J3_6 F M v0 v1 v2 v3 v9 v10 v11 h)
theorem J3_16_ok (F : CallH) (M : Nat) (L7 : Value → Value → Value → Value → Value → Value → Value → Value → AH → Res) : ∀ r h, kcode Tryd.prog F 123 M (Code.sub [true, true, true, true, true, true, true, true, false, true, false, false, false] (bodyOf Tryd.prog 3)) r h (KX (fun r h => J3_12 F M L7 (r 0) (r 1) (r 2) (r 3) (r 9) (r 10) (r 11) (r 12) h) (exitsOf [(0, (fun r h => J3_6 F M (r 0) (r 1) (r 2) (r 3) (r 9) (r 10) (r 11) h))]) (fun r h => E3 (r 8) h)) = J3_16 F M L7 (r 0) (r 1) (r 2) (r 3) (r 9) (r 10) (r 11) (r 12) h := fun r h => by kernel_rfl
theorem J3_17_ok (F : CallH) (M : Nat) (L7 : Value → Value → Value → Value → Value → Value → Value → Value → AH → Res) : ∀ r h, kcode Tryd.prog F 123 M (Code.sub [true, true, true, true, true, true, true, true, false, true, false, false] (bodyOf Tryd.prog 3)) r h (KX (fun r h => L7 (r 0) (r 1) (r 2) (r 3) (r 9) (r 10) (r 11) (r 12) h) (exitsOf [(0, (fun r h => J3_6 F M (r 0) (r 1) (r 2) (r 3) (r 9) (r 10) (r 11) h))]) (fun r h => E3 (r 8) h)) = J3_16 F M L7 (r 0) (r 1) (r 2) (r 3) (r 9) (r 10) (r 11) (r 12) h :=
  seq_pt (a := (Code.sub [true, true, true, true, true, true, true, true, false, true, false, false, false] (bodyOf Tryd.prog 3))) (b := (Code.sub [true, true, true, true, true, true, true, true, false, true, false, false, true] (bodyOf Tryd.prog 3))) (T := (fun r h => J3_16 F M L7 (r 0) (r 1) (r 2) (r 3) (r 9) (r 10) (r 11) (r 12) h)) (g := (fun r h => J3_12 F M L7 (r 0) (r 1) (r 2) (r 3) (r 9) (r 10) (r 11) (r 12) h)) (by kernel_rfl) (J3_15_ok F M L7) (J3_16_ok F M L7)
noncomputable def L3_7 (F : CallH) (M : Nat) : Nat → Value → Value → Value → Value → Value → Value → Value → Value → AH → Res
  | 0, _, _, _, _, _, _, _, _, _ => none
  | m + 1, v0, v1, v2, v3, v9, v10, v11, v12, h => J3_16 F M (L3_7 F M m) v0 v1 v2 v3 v9 v10 v11 v12 h
theorem L3_7_ok (F : CallH) (M : Nat) : ∀ r h, kcode Tryd.prog F 123 M (Code.sub [true, true, true, true, true, true, true, true, false, true, false] (bodyOf Tryd.prog 3)) r h (KX (fun r h => J3_6 F M (r 0) (r 1) (r 2) (r 3) (r 9) (r 10) (r 11) h) (exitsOf [(0, (fun r h => J3_6 F M (r 0) (r 1) (r 2) (r 3) (r 9) (r 10) (r 11) h))]) (fun r h => E3 (r 8) h)) = L3_7 F M M (r 0) (r 1) (r 2) (r 3) (r 9) (r 10) (r 11) (r 12) h :=
  loop_pt (b := (Code.sub [true, true, true, true, true, true, true, true, false, true, false, false] (bodyOf Tryd.prog 3))) (by kernel_rfl) (fun m r h => L3_7 F M m (r 0) (r 1) (r 2) (r 3) (r 9) (r 10) (r 11) (r 12) h) (fun _ _ => rfl) (fun m r h => ((J3_17_ok F M (L3_7 F M m)) r h).trans rfl)
theorem J3_18_ok (F : CallH) (M : Nat) : ∀ r h, kcode Tryd.prog F 123 M (Code.sub [true, true, true, true, true, true, true, true, false, true] (bodyOf Tryd.prog 3)) r h (KX (fun r h => J3_6 F M (r 0) (r 1) (r 2) (r 3) (r 9) (r 10) (r 11) h) (exitsOf []) (fun r h => E3 (r 8) h)) = L3_7 F M M (r 0) (r 1) (r 2) (r 3) (r 9) (r 10) (r 11) (r 12) h :=
  block_pt (b := (Code.sub [true, true, true, true, true, true, true, true, false, true, false] (bodyOf Tryd.prog 3))) (T := (fun r h => L3_7 F M M (r 0) (r 1) (r 2) (r 3) (r 9) (r 10) (r 11) (r 12) h)) (id := 0) (by kernel_rfl) (L3_7_ok F M)
noncomputable def J3_19 (F : CallH) (M : Nat) (v0 : Value) (v1 : Value) (v2 : Value) (v3 : Value) (v9 : Value) (v10 : Value) (v11 : Value) (h : AH) : Res :=
  L3_7 F M M v0 v1 v2 v3 v9 v10 v11 (.int .i64 0) h
theorem J3_19_ok (F : CallH) (M : Nat) : ∀ r h, kcode Tryd.prog F 123 M (Code.sub [true, true, true, true, true, true, true, true, false] (bodyOf Tryd.prog 3)) r h (KX (fun r h => J3_6 F M (r 0) (r 1) (r 2) (r 3) (r 9) (r 10) (r 11) h) (exitsOf []) (fun r h => E3 (r 8) h)) = J3_19 F M (r 0) (r 1) (r 2) (r 3) (r 9) (r 10) (r 11) h :=
  seq_pt (a := (Code.sub [true, true, true, true, true, true, true, true, false, false] (bodyOf Tryd.prog 3))) (b := (Code.sub [true, true, true, true, true, true, true, true, false, true] (bodyOf Tryd.prog 3))) (T := (fun r h => J3_19 F M (r 0) (r 1) (r 2) (r 3) (r 9) (r 10) (r 11) h)) (g := (fun r h => L3_7 F M M (r 0) (r 1) (r 2) (r 3) (r 9) (r 10) (r 11) (r 12) h)) (by kernel_rfl) (J3_18_ok F M) (fun r h => by kernel_rfl)
theorem J3_20_ok (F : CallH) (M : Nat) : ∀ r h, kcode Tryd.prog F 123 M (Code.sub [true, true, true, true, true, true, true, true] (bodyOf Tryd.prog 3)) r h (KX (fun r h => E3 (r 8) h) (exitsOf []) (fun r h => E3 (r 8) h)) = J3_19 F M (r 0) (r 1) (r 2) (r 3) (r 9) (r 10) (r 11) h :=
  seq_pt (a := (Code.sub [true, true, true, true, true, true, true, true, false] (bodyOf Tryd.prog 3))) (b := (Code.sub [true, true, true, true, true, true, true, true, true] (bodyOf Tryd.prog 3))) (T := (fun r h => J3_19 F M (r 0) (r 1) (r 2) (r 3) (r 9) (r 10) (r 11) h)) (g := (fun r h => J3_6 F M (r 0) (r 1) (r 2) (r 3) (r 9) (r 10) (r 11) h)) (by kernel_rfl) (J3_6_ok F M) (J3_19_ok F M)
noncomputable def J3_21 (F : CallH) (M : Nat) (v0 : Value) (v1 : Value) (v2 : Value) (v3 : Value) (v9 : Value) (v10 : Value) (h : AH) : Res :=
  J3_19 F M v0 v1 v2 v3 v9 v10 (.int .i64 (-1)) h
theorem J3_21_ok (F : CallH) (M : Nat) : ∀ r h, kcode Tryd.prog F 123 M (Code.sub [true, true, true, true, true, true, true] (bodyOf Tryd.prog 3)) r h (KX (fun r h => E3 (r 8) h) (exitsOf []) (fun r h => E3 (r 8) h)) = J3_21 F M (r 0) (r 1) (r 2) (r 3) (r 9) (r 10) h :=
  seq_pt (a := (Code.sub [true, true, true, true, true, true, true, false] (bodyOf Tryd.prog 3))) (b := (Code.sub [true, true, true, true, true, true, true, true] (bodyOf Tryd.prog 3))) (T := (fun r h => J3_21 F M (r 0) (r 1) (r 2) (r 3) (r 9) (r 10) h)) (g := (fun r h => J3_19 F M (r 0) (r 1) (r 2) (r 3) (r 9) (r 10) (r 11) h)) (by kernel_rfl) (J3_20_ok F M) (fun r h => by kernel_rfl)
noncomputable def J3_22 (F : CallH) (M : Nat) (v0 : Value) (v1 : Value) (v2 : Value) (v3 : Value) (v9 : Value) (h : AH) : Res :=
  J3_21 F M v0 v1 v2 v3 v9 (.slice none 0 0) h
theorem J3_22_ok (F : CallH) (M : Nat) : ∀ r h, kcode Tryd.prog F 123 M (Code.sub [true, true, true, true, true, true] (bodyOf Tryd.prog 3)) r h (KX (fun r h => E3 (r 8) h) (exitsOf []) (fun r h => E3 (r 8) h)) = J3_22 F M (r 0) (r 1) (r 2) (r 3) (r 9) h :=
  seq_pt (a := (Code.sub [true, true, true, true, true, true, false] (bodyOf Tryd.prog 3))) (b := (Code.sub [true, true, true, true, true, true, true] (bodyOf Tryd.prog 3))) (T := (fun r h => J3_22 F M (r 0) (r 1) (r 2) (r 3) (r 9) h)) (g := (fun r h => J3_21 F M (r 0) (r 1) (r 2) (r 3) (r 9) (r 10) h)) (by kernel_rfl) (J3_21_ok F M) (fun r h => by kernel_rfl)
noncomputable def J3_23 (F : CallH) (M : Nat) (v0 : Value) (v1 : Value) (v2 : Value) (v3 : Value) (v9 : Value) (h : AH) : Res :=
  bindO (F 6 [v2, v0] h) fun pv33 =>
  J3_22 F M v0 v1 pv33.1 v3 v9 pv33.2
theorem J3_23_ok (F : CallH) (M : Nat) : ∀ r h, kcode Tryd.prog F 123 M (Code.sub [true, true, true, true, true] (bodyOf Tryd.prog 3)) r h (KX (fun r h => E3 (r 8) h) (exitsOf []) (fun r h => E3 (r 8) h)) = J3_23 F M (r 0) (r 1) (r 2) (r 3) (r 9) h :=
  seq_pt (a := (Code.sub [true, true, true, true, true, false] (bodyOf Tryd.prog 3))) (b := (Code.sub [true, true, true, true, true, true] (bodyOf Tryd.prog 3))) (T := (fun r h => J3_23 F M (r 0) (r 1) (r 2) (r 3) (r 9) h)) (g := (fun r h => J3_22 F M (r 0) (r 1) (r 2) (r 3) (r 9) h)) (by kernel_rfl) (J3_22_ok F M) (fun r h => by kernel_rfl)
noncomputable def J3_24 (F : CallH) (M : Nat) (v0 : Value) (v1 : Value) (v2 : Value) (v3 : Value) (v9 : Value) (h : AH) : Res :=
  bindO (ibin .add v0 (.int .i64 1)) fun v29 =>
  bindO (F 6 [v1, v29] h) fun pv30 =>
  J3_23 F M v0 pv30.1 v2 v3 v9 pv30.2
theorem J3_24_ok (F : CallH) (M : Nat) : ∀ r h, kcode Tryd.prog F 123 M (Code.sub [true, true, true, true] (bodyOf Tryd.prog 3)) r h (KX (fun r h => E3 (r 8) h) (exitsOf []) (fun r h => E3 (r 8) h)) = J3_24 F M (r 0) (r 1) (r 2) (r 3) (r 9) h :=
  seq_pt (a := (Code.sub [true, true, true, true, false] (bodyOf Tryd.prog 3))) (b := (Code.sub [true, true, true, true, true] (bodyOf Tryd.prog 3))) (T := (fun r h => J3_24 F M (r 0) (r 1) (r 2) (r 3) (r 9) h)) (g := (fun r h => J3_23 F M (r 0) (r 1) (r 2) (r 3) (r 9) h)) (by kernel_rfl) (J3_23_ok F M) (fun r h => by kernel_rfl)
noncomputable def J3_25 (F : CallH) (M : Nat) (v0 : Value) (v1 : Value) (v2 : Value) (v3 : Value) (v9 : Value) (h : AH) : Res :=
  bindO (F 6 [v0, (.int .i64 20)] h) fun pv25 =>
  bindO (ibin .add pv25.1 (.int .i64 1)) fun v26 =>
  J3_24 F M v26 v1 v2 v3 v9 pv25.2
theorem J3_25_ok (F : CallH) (M : Nat) : ∀ r h, kcode Tryd.prog F 123 M (Code.sub [true, true, true] (bodyOf Tryd.prog 3)) r h (KX (fun r h => E3 (r 8) h) (exitsOf []) (fun r h => E3 (r 8) h)) = J3_25 F M (r 0) (r 1) (r 2) (r 3) (r 9) h :=
  seq_pt (a := (Code.sub [true, true, true, false] (bodyOf Tryd.prog 3))) (b := (Code.sub [true, true, true, true] (bodyOf Tryd.prog 3))) (T := (fun r h => J3_25 F M (r 0) (r 1) (r 2) (r 3) (r 9) h)) (g := (fun r h => J3_24 F M (r 0) (r 1) (r 2) (r 3) (r 9) h)) (by kernel_rfl) (J3_24_ok F M) (fun r h => by kernel_rfl)
noncomputable def J3_26 (F : CallH) (M : Nat) (v0 : Value) (v1 : Value) (v2 : Value) (v3 : Value) (v9 : Value) (h : AH) : Res :=
  bindO (xnot v9) fun v23 =>
  condO v23 (
  E3 (.bool false) h) (
  J3_25 F M v0 v1 v2 v3 v9 h)
theorem J3_26_ok (F : CallH) (M : Nat) : ∀ r h, kcode Tryd.prog F 123 M (Code.sub [true, true, false] (bodyOf Tryd.prog 3)) r h (KX (fun r h => J3_25 F M (r 0) (r 1) (r 2) (r 3) (r 9) h) (exitsOf []) (fun r h => E3 (r 8) h)) = J3_26 F M (r 0) (r 1) (r 2) (r 3) (r 9) h := fun r h => by kernel_rfl
theorem J3_27_ok (F : CallH) (M : Nat) : ∀ r h, kcode Tryd.prog F 123 M (Code.sub [true, true] (bodyOf Tryd.prog 3)) r h (KX (fun r h => E3 (r 8) h) (exitsOf []) (fun r h => E3 (r 8) h)) = J3_26 F M (r 0) (r 1) (r 2) (r 3) (r 9) h :=
  seq_pt (a := (Code.sub [true, true, false] (bodyOf Tryd.prog 3))) (b := (Code.sub [true, true, true] (bodyOf Tryd.prog 3))) (T := (fun r h => J3_26 F M (r 0) (r 1) (r 2) (r 3) (r 9) h)) (g := (fun r h => J3_25 F M (r 0) (r 1) (r 2) (r 3) (r 9) h)) (by kernel_rfl) (J3_25_ok F M) (J3_26_ok F M)
noncomputable def J3_28 (F : CallH) (M : Nat) (v0 : Value) (v1 : Value) (v2 : Value) (v3 : Value) (h : AH) : Res :=
  bindO (F 5 [] h) fun pv21 =>
  J3_26 F M v0 v1 v2 v3 pv21.1 pv21.2
theorem J3_28_ok (F : CallH) (M : Nat) : ∀ r h, kcode Tryd.prog F 123 M (Code.sub [true] (bodyOf Tryd.prog 3)) r h (KX (fun r h => E3 (r 8) h) (exitsOf []) (fun r h => E3 (r 8) h)) = J3_28 F M (r 0) (r 1) (r 2) (r 3) h :=
  seq_pt (a := (Code.sub [true, false] (bodyOf Tryd.prog 3))) (b := (Code.sub [true, true] (bodyOf Tryd.prog 3))) (T := (fun r h => J3_28 F M (r 0) (r 1) (r 2) (r 3) h)) (g := (fun r h => J3_26 F M (r 0) (r 1) (r 2) (r 3) (r 9) h)) (by kernel_rfl) (J3_27_ok F M) (fun r h => by kernel_rfl)
noncomputable def J3_29 (F : CallH) (M : Nat) (v0 : Value) (v1 : Value) (v2 : Value) (v3 : Value) (h : AH) : Res :=
  J3_28 F M v0 v1 v2 v3 h
theorem J3_29_ok (F : CallH) (M : Nat) : ∀ r h, kcode Tryd.prog F 123 M (Code.sub [] (bodyOf Tryd.prog 3)) r h (KX (fun r h => E3 (r 8) h) (exitsOf []) (fun r h => E3 (r 8) h)) = J3_29 F M (r 0) (r 1) (r 2) (r 3) h :=
  seq_pt (a := (Code.sub [false] (bodyOf Tryd.prog 3))) (b := (Code.sub [true] (bodyOf Tryd.prog 3))) (T := (fun r h => J3_29 F M (r 0) (r 1) (r 2) (r 3) h)) (g := (fun r h => J3_28 F M (r 0) (r 1) (r 2) (r 3) h)) (by kernel_rfl) (J3_28_ok F M) (fun r h => by kernel_rfl)
noncomputable def R3 (F : CallH) (M : Nat) (x0 x1 x2 x3 : Value) (h : AH) : Res := J3_29 F M x0 x1 x2 x3 h
theorem R3_ok (F : CallH) (M : Nat) (x0 x1 x2 x3 : Value) (h : AH) : kfn Tryd.prog F M 3 [x0, x1, x2, x3] h = R3 F M x0 x1 x2 x3 h :=
  (fn_pt (N := 123) (E := (fun r h => E3 (r 8) h)) (T := (fun r h => J3_29 F M (r 0) (r 1) (r 2) (r 3) h)) Tryd.func3 (by kernel_rfl) (by kernel_rfl) (fun r h => by kernel_rfl) (J3_29_ok F M)).trans (by kernel_rfl)
/-! ### 7 turnkey/asm.Text -/
noncomputable def E7 (v2 : Value) (v3 : Value) (h : AH) : Res := some ((.tuple #[v2, v3]), h)
noncomputable def J7_0 (F : CallH) (M : Nat) (v9 : Value) (h : AH) : Res :=
  E7 v9 .nilIface h
theorem J7_0_ok (F : CallH) (M : Nat) : ∀ r h, kcode Tryd.prog F 77 M (Code.sub [true, true, true, true, true, true] (bodyOf Tryd.prog 7)) r h (KX (fun r h => E7 (r 2) (r 3) h) (exitsOf []) (fun r h => E7 (r 2) (r 3) h)) = J7_0 F M (r 9) h := fun r h => by kernel_rfl
noncomputable def J7_2 (F : CallH) (M : Nat) (L1 : Value → Value → Value → Value → Value → Value → AH → Res) (v7 : Value) (v8 : Value) (v9 : Value) (v33 : Value) (v34 : Value) (v35 : Value) (h : AH) : Res :=
  bindO (ibin .add v35 (.int .i64 1)) fun v75 =>
  L1 v7 v8 v9 v33 v34 v75 h
theorem J7_2_ok (F : CallH) (M : Nat) (L1 : Value → Value → Value → Value → Value → Value → AH → Res) : ∀ r h, kcode Tryd.prog F 77 M (Code.sub [true, true, true, true, true, false, true, false, false, true, true, true] (bodyOf Tryd.prog 7)) r h (KX (fun r h => L1 (r 7) (r 8) (r 9) (r 33) (r 34) (r 35) h) (exitsOf [(2, (fun r h => J7_0 F M (r 9) h))]) (fun r h => E7 (r 2) (r 3) h)) = J7_2 F M L1 (r 7) (r 8) (r 9) (r 33) (r 34) (r 35) h := fun r h => by kernel_rfl
noncomputable def J7_3 (F : CallH) (M : Nat) (L1 : Value → Value → Value → Value → Value → Value → AH → Res) (v7 : Value) (v8 : Value) (v9 : Value) (v14 : Value) (v33 : Value) (v34 : Value) (v35 : Value) (h : AH) : Res :=
  bindO (xrow [(.int .u32 0)] [(0, 1, v14)]) fun v73 => newK h (.cells v73 1) fun iv73 h1 =>
  bindO (xapp 4 1 h1 v9 (slOf iv73 1 1)) fun pv74 =>
  J7_2 F M L1 v7 v8 pv74.1 v33 v34 v35 pv74.2
theorem J7_3_ok (F : CallH) (M : Nat) (L1 : Value → Value → Value → Value → Value → Value → AH → Res) : ∀ r h, kcode Tryd.prog F 77 M (Code.sub [true, true, true, true, true, false, true, false, false, true, true, false, false, true, true, true, true, true] (bodyOf Tryd.prog 7)) r h (KX (fun r h => J7_2 F M L1 (r 7) (r 8) (r 9) (r 33) (r 34) (r 35) h) (exitsOf [(3, (fun r h => J7_2 F M L1 (r 7) (r 8) (r 9) (r 33) (r 34) (r 35) h)), (2, (fun r h => J7_0 F M (r 9) h))]) (fun r h => E7 (r 2) (r 3) h)) = J7_3 F M L1 (r 7) (r 8) (r 9) (r 14) (r 33) (r 34) (r 35) h := fun r h => by kernel_rfl
noncomputable def J7_4 (F : CallH) (M : Nat) (L1 : Value → Value → Value → Value → Value → Value → AH → Res) (v7 : Value) (v8 : Value) (v9 : Value) (v10 : Value) (v14 : Value) (v15 : Value) (v33 : Value) (v34 : Value) (v35 : Value) (h : AH) : Res :=
  bindO (xnilI .neq v15) fun v65 =>
  condO v65 (
  bindO (xbuild [(.int .i64 0), .nilIface] [(0, 1, v10), (1, 1, v15)]) fun v68 =>
  bindO (xcells 2 v68) fun v69 => newK h (.cells v69 2) fun iv69 h3 =>
  E7 (.slice none 0 0) (.iface 51 (ptrTo iv69)) h3) (
  J7_3 F M L1 v7 v8 v9 v14 v33 v34 v35 h)
theorem J7_4_ok (F : CallH) (M : Nat) (L1 : Value → Value → Value → Value → Value → Value → AH → Res) : ∀ r h, kcode Tryd.prog F 77 M (Code.sub [true, true, true, true, true, false, true, false, false, true, true, false, false, true, true, true, true, false] (bodyOf Tryd.prog 7)) r h (KX (fun r h => J7_3 F M L1 (r 7) (r 8) (r 9) (r 14) (r 33) (r 34) (r 35) h) (exitsOf [(3, (fun r h => J7_2 F M L1 (r 7) (r 8) (r 9) (r 33) (r 34) (r 35) h)), (2, (fun r h => J7_0 F M (r 9) h))]) (fun r h => E7 (r 2) (r 3) h)) = J7_4 F M L1 (r 7) (r 8) (r 9) (r 10) (r 14) (r 15) (r 33) (r 34) (r 35) h := fun r h => by kernel_rfl
theorem J7_5_ok (F : CallH) (M : Nat) (L1 : Value → Value → Value → Value → Value → Value → AH → Res) : ∀ r h, kcode Tryd.prog F 77 M (Code.sub [true, true, true, true, true, false, true, false, false, true, true, false, false, true, true, true, true] (bodyOf Tryd.prog 7)) r h (KX (fun r h => J7_2 F M L1 (r 7) (r 8) (r 9) (r 33) (r 34) (r 35) h) (exitsOf [(3, (fun r h => J7_2 F M L1 (r 7) (r 8) (r 9) (r 33) (r 34) (r 35) h)), (2, (fun r h => J7_0 F M (r 9) h))]) (fun r h => E7 (r 2) (r 3) h)) = J7_4 F M L1 (r 7) (r 8) (r 9) (r 10) (r 14) (r 15) (r 33) (r 34) (r 35) h :=
  seq_pt (a := (Code.sub [true, true, true, true, true, false, true, false, false, true, true, false, false, true, true, true, true, false] (bodyOf Tryd.prog 7))) (b := (Code.sub [true, true, true, true, true, false, true, false, false, true, true, false, false, true, true, true, true, true] (bodyOf Tryd.prog 7))) (T := (fun r h => J7_4 F M L1 (r 7) (r 8) (r 9) (r 10) (r 14) (r 15) (r 33) (r 34) (r 35) h)) (g := (fun r h => J7_3 F M L1 (r 7) (r 8) (r 9) (r 14) (r 33) (r 34) (r 35) h)) (by kernel_rfl) (J7_3_ok F M L1) (J7_4_ok F M L1)
noncomputable def J7_6 (F : CallH) (M : Nat) (L1 : Value → Value → Value → Value → Value → Value → AH → Res) (v7 : Value) (v8 : Value) (v9 : Value) (v10 : Value) (v11 : Value) (v33 : Value) (v34 : Value) (v35 : Value) (h : AH) : Res :=
  bindO (F 18 [v11, v7] h) fun pv61 =>
  bindO (xext 0 pv61.1) fun v62 =>
  bindO (xext 1 pv61.1) fun v63 =>
  J7_4 F M L1 v7 v8 v9 v10 v62 v63 v33 v34 v35 pv61.2
theorem J7_6_ok (F : CallH) (M : Nat) (L1 : Value → Value → Value → Value → Value → Value → AH → Res) : ∀ r h, kcode Tryd.prog F 77 M (Code.sub [true, true, true, true, true, false, true, false, false, true, true, false, false, true, true, true] (bodyOf Tryd.prog 7)) r h (KX (fun r h => J7_2 F M L1 (r 7) (r 8) (r 9) (r 33) (r 34) (r 35) h) (exitsOf [(3, (fun r h => J7_2 F M L1 (r 7) (r 8) (r 9) (r 33) (r 34) (r 35) h)), (2, (fun r h => J7_0 F M (r 9) h))]) (fun r h => E7 (r 2) (r 3) h)) = J7_6 F M L1 (r 7) (r 8) (r 9) (r 10) (r 11) (r 33) (r 34) (r 35) h :=
  seq_pt (a := (Code.sub [true, true, true, true, true, false, true, false, false, true, true, false, false, true, true, true, false] (bodyOf Tryd.prog 7))) (b := (Code.sub [true, true, true, true, true, false, true, false, false, true, true, false, false, true, true, true, true] (bodyOf Tryd.prog 7))) (T := (fun r h => J7_6 F M L1 (r 7) (r 8) (r 9) (r 10) (r 11) (r 33) (r 34) (r 35) h)) (g := (fun r h => J7_4 F M L1 (r 7) (r 8) (r 9) (r 10) (r 14) (r 15) (r 33) (r 34) (r 35) h)) (by kernel_rfl) (J7_5_ok F M L1) (fun r h => by kernel_rfl)
noncomputable def J7_7 (F : CallH) (M : Nat) (L1 : Value → Value → Value → Value → Value → Value → AH → Res) (v7 : Value) (v8 : Value) (v9 : Value) (v10 : Value) (v11 : Value) (v33 : Value) (v34 : Value) (v35 : Value) (h : AH) : Res :=
  bindO (F 16 [v11] h) fun pv50 =>
  bindO (xext 0 pv50.1) fun v51 =>
  bindO (xext 1 pv50.1) fun v52 =>
  condO v52 (
  J7_2 F M L1 v7 v8 v9 v33 v34 v35 pv50.2) (
  bindO (F 17 [v11] pv50.2) fun pv56 =>
  condO pv56.1 (
  J7_2 F M L1 v7 v8 v9 v33 v34 v35 pv56.2) (
  J7_6 F M L1 v7 v8 v9 v10 v11 v33 v34 v35 pv56.2))
theorem J7_7_ok (F : CallH) (M : Nat) (L1 : Value → Value → Value → Value → Value → Value → AH → Res) : ∀ r h, kcode Tryd.prog F 77 M (Code.sub [true, true, true, true, true, false, true, false, false, true, true, false, false, true, true, false] (bodyOf Tryd.prog 7)) r h (KX (fun r h => J7_6 F M L1 (r 7) (r 8) (r 9) (r 10) (r 11) (r 33) (r 34) (r 35) h) (exitsOf [(3, (fun r h => J7_2 F M L1 (r 7) (r 8) (r 9) (r 33) (r 34) (r 35) h)), (2, (fun r h => J7_0 F M (r 9) h))]) (fun r h => E7 (r 2) (r 3) h)) = J7_7 F M L1 (r 7) (r 8) (r 9) (r 10) (r 11) (r 33) (r 34) (r 35) h := fun r h => by kernel_rfl
theorem J7_8_ok (F : CallH) (M : Nat) (L1 : Value → Value → Value → Value → Value → Value → AH → Res) : ∀ r h, kcode Tryd.prog F 77 M (Code.sub [true, true, true, true, true, false, true, false, false, true, true, false, false, true, true] (bodyOf Tryd.prog 7)) r h (KX (fun r h => J7_2 F M L1 (r 7) (r 8) (r 9) (r 33) (r 34) (r 35) h) (exitsOf [(3, (fun r h => J7_2 F M L1 (r 7) (r 8) (r 9) (r 33) (r 34) (r 35) h)), (2, (fun r h => J7_0 F M (r 9) h))]) (fun r h => E7 (r 2) (r 3) h)) = J7_7 F M L1 (r 7) (r 8) (r 9) (r 10) (r 11) (r 33) (r 34) (r 35) h :=
  seq_pt (a := (Code.sub [true, true, true, true, true, false, true, false, false, true, true, false, false, true, true, false] (bodyOf Tryd.prog 7))) (b := (Code.sub [true, true, true, true, true, false, true, false, false, true, true, false, false, true, true, true] (bodyOf Tryd.prog 7))) (T := (fun r h => J7_7 F M L1 (r 7) (r 8) (r 9) (r 10) (r 11) (r 33) (r 34) (r 35) h)) (g := (fun r h => J7_6 F M L1 (r 7) (r 8) (r 9) (r 10) (r 11) (r 33) (r 34) (r 35) h)) (by kernel_rfl) (J7_6_ok F M L1) (J7_7_ok F M L1)
noncomputable def J7_9 (F : CallH) (M : Nat) (L1 : Value → Value → Value → Value → Value → Value → AH → Res) (v7 : Value) (v8 : Value) (v9 : Value) (v10 : Value) (v11 : Value) (v33 : Value) (v34 : Value) (v35 : Value) (h : AH) : Res :=
  bindO (F 15 [v8, v10] h) fun pv42 =>
  condO pv42.1 (
  withH (bump pv42.2 7) fun h8 =>
  bindO (ld1 h8 (glob 0)) fun v44 =>
  bindO (xbuild [(.int .i64 0), .nilIface] [(0, 1, v10), (1, 1, v44)]) fun v45 =>
  bindO (xcells 2 v45) fun v46 =>
  withH (putAt h8 (pv42.2.next + 3) (.cells v46 2)) fun h9 =>
  E7 (.slice none 0 0) (.iface 51 (ptrTo (pv42.2.next + 3))) h9) (
  J7_7 F M L1 v7 v8 v9 v10 v11 v33 v34 v35 pv42.2)
theorem J7_9_ok (F : CallH) (M : Nat) (L1 : Value → Value → Value → Value → Value → Value → AH → Res) : ∀ r h, kcode Tryd.prog F 77 M (Code.sub [true, true, true, true, true, false, true, false, false, true, true, false, false, true, false] (bodyOf Tryd.prog 7)) r h (KX (fun r h => J7_7 F M L1 (r 7) (r 8) (r 9) (r 10) (r 11) (r 33) (r 34) (r 35) h) (exitsOf [(3, (fun r h => J7_2 F M L1 (r 7) (r 8) (r 9) (r 33) (r 34) (r 35) h)), (2, (fun r h => J7_0 F M (r 9) h))]) (fun r h => E7 (r 2) (r 3) h)) = J7_9 F M L1 (r 7) (r 8) (r 9) (r 10) (r 11) (r 33) (r 34) (r 35) h := fun r h => by kernel_rfl
theorem J7_10_ok (F : CallH) (M : Nat) (L1 : Value → Value → Value → Value → Value → Value → AH → Res) : ∀ r h, kcode Tryd.prog F 77 M (Code.sub [true, true, true, true, true, false, true, false, false, true, true, false, false, true] (bodyOf Tryd.prog 7)) r h (KX (fun r h => J7_2 F M L1 (r 7) (r 8) (r 9) (r 33) (r 34) (r 35) h) (exitsOf [(3, (fun r h => J7_2 F M L1 (r 7) (r 8) (r 9) (r 33) (r 34) (r 35) h)), (2, (fun r h => J7_0 F M (r 9) h))]) (fun r h => E7 (r 2) (r 3) h)) = J7_9 F M L1 (r 7) (r 8) (r 9) (r 10) (r 11) (r 33) (r 34) (r 35) h :=
  seq_pt (a := (Code.sub [true, true, true, true, true, false, true, false, false, true, true, false, false, true, false] (bodyOf Tryd.prog 7))) (b := (Code.sub [true, true, true, true, true, false, true, false, false, true, true, false, false, true, true] (bodyOf Tryd.prog 7))) (T := (fun r h => J7_9 F M L1 (r 7) (r 8) (r 9) (r 10) (r 11) (r 33) (r 34) (r 35) h)) (g := (fun r h => J7_7 F M L1 (r 7) (r 8) (r 9) (r 10) (r 11) (r 33) (r 34) (r 35) h)) (by kernel_rfl) (J7_8_ok F M L1) (J7_9_ok F M L1)
noncomputable def J7_11 (F : CallH) (M : Nat) (L1 : Value → Value → Value → Value → Value → Value → AH → Res) (v7 : Value) (v8 : Value) (v9 : Value) (v33 : Value) (v34 : Value) (v35 : Value) (h : AH) : Res :=
  bindO (xia 1 v33 v35) fun v38 =>
  bindO (ld1 h v38) fun v39 =>
  J7_9 F M L1 v7 v8 v9 v35 v39 v33 v34 v35 h
theorem J7_11_ok (F : CallH) (M : Nat) (L1 : Value → Value → Value → Value → Value → Value → AH → Res) : ∀ r h, kcode Tryd.prog F 77 M (Code.sub [true, true, true, true, true, false, true, false, false, true, true, false, false] (bodyOf Tryd.prog 7)) r h (KX (fun r h => J7_2 F M L1 (r 7) (r 8) (r 9) (r 33) (r 34) (r 35) h) (exitsOf [(3, (fun r h => J7_2 F M L1 (r 7) (r 8) (r 9) (r 33) (r 34) (r 35) h)), (2, (fun r h => J7_0 F M (r 9) h))]) (fun r h => E7 (r 2) (r 3) h)) = J7_11 F M L1 (r 7) (r 8) (r 9) (r 33) (r 34) (r 35) h :=
  seq_pt (a := (Code.sub [true, true, true, true, true, false, true, false, false, true, true, false, false, false] (bodyOf Tryd.prog 7))) (b := (Code.sub [true, true, true, true, true, false, true, false, false, true, true, false, false, true] (bodyOf Tryd.prog 7))) (T := (fun r h => J7_11 F M L1 (r 7) (r 8) (r 9) (r 33) (r 34) (r 35) h)) (g := (fun r h => J7_9 F M L1 (r 7) (r 8) (r 9) (r 10) (r 11) (r 33) (r 34) (r 35) h)) (by kernel_rfl) (J7_10_ok F M L1) (fun r h => by kernel_rfl)
theorem J7_12_ok (F : CallH) (M : Nat) (L1 : Value → Value → Value → Value → Value → Value → AH → Res) : ∀ r h, kcode Tryd.prog F 77 M (Code.sub [true, true, true, true, true, false, true, false, false, true, true, false] (bodyOf Tryd.prog 7)) r h (KX (fun r h => J7_2 F M L1 (r 7) (r 8) (r 9) (r 33) (r 34) (r 35) h) (exitsOf [(2, (fun r h => J7_0 F M (r 9) h))]) (fun r h => E7 (r 2) (r 3) h)) = J7_11 F M L1 (r 7) (r 8) (r 9) (r 33) (r 34) (r 35) h :=
  block_pt (b := (Code.sub [true, true, true, true, true, false, true, false, false, true, true, false, false] (bodyOf Tryd.prog 7))) (T := (fun r h => J7_11 F M L1 (r 7) (r 8) (r 9) (r 33) (r 34) (r 35) h)) (id := 3) (by kernel_rfl) (J7_11_ok F M L1)
theorem J7_13_ok (F : CallH) (M : Nat) (L1 : Value → Value → Value → Value → Value → Value → AH → Res) : ∀ r h, kcode Tryd.prog F 77 M (Code.sub [true, true, true, true, true, false, true, false, false, true, true] (bodyOf Tryd.prog 7)) r h (KX (fun r h => L1 (r 7) (r 8) (r 9) (r 33) (r 34) (r 35) h) (exitsOf [(2, (fun r h => J7_0 F M (r 9) h))]) (fun r h => E7 (r 2) (r 3) h)) = J7_11 F M L1 (r 7) (r 8) (r 9) (r 33) (r 34) (r 35) h :=
  seq_pt (a := (Code.sub [true, true, true, true, true, false, true, false, false, true, true, false] (bodyOf Tryd.prog 7))) (b := (Code.sub [true, true, true, true, true, false, true, false, false, true, true, true] (bodyOf Tryd.prog 7))) (T := (fun r h => J7_11 F M L1 (r 7) (r 8) (r 9) (r 33) (r 34) (r 35) h)) (g := (fun r h => J7_2 F M L1 (r 7) (r 8) (r 9) (r 33) (r 34) (r 35) h)) (by kernel_rfl) (J7_2_ok F M L1) (J7_12_ok F M L1)
noncomputable def J7_14 (F : CallH) (M : Nat) (L1 : Value → Value → Value → Value → Value → Value → AH → Res) (v7 : Value) (v8 : Value) (v9 : Value) (v33 : Value) (v34 : Value) (v35 : Value) (v36 : Value) (h : AH) : Res :=
  condO v36 (
  J7_11 F M L1 v7 v8 v9 v33 v34 v35 h) (
  J7_0 F M v9 h)
theorem J7_14_ok (F : CallH) (M : Nat) (L1 : Value → Value → Value → Value → Value → Value → AH → Res) : ∀ r h, kcode Tryd.prog F 77 M (Code.sub [true, true, true, true, true, false, true, false, false, true, false] (bodyOf Tryd.prog 7)) r h (KX (fun r h => J7_11 F M L1 (r 7) (r 8) (r 9) (r 33) (r 34) (r 35) h) (exitsOf [(2, (fun r h => J7_0 F M (r 9) h))]) (fun r h => E7 (r 2) (r 3) h)) = J7_14 F M L1 (r 7) (r 8) (r 9) (r 33) (r 34) (r 35) (r 36) h := fun r h => by kernel_rfl
theorem J7_15_ok (F : CallH) (M : Nat) (L1 : Value → Value → Value → Value → Value → Value → AH → Res) : ∀ r h, kcode Tryd.prog F 77 M (Code.sub [true, true, true, true, true, false, true, false, false, true] (bodyOf Tryd.prog 7)) r h (KX (fun r h => L1 (r 7) (r 8) (r 9) (r 33) (r 34) (r 35) h) (exitsOf [(2, (fun r h => J7_0 F M (r 9) h))]) (fun r h => E7 (r 2) (r 3) h)) = J7_14 F M L1 (r 7) (r 8) (r 9) (r 33) (r 34) (r 35) (r 36) h :=
  seq_pt (a := (Code.sub [true, true, true, true, true, false, true, false, false, true, false] (bodyOf Tryd.prog 7))) (b := (Code.sub [true, true, true, true, true, false, true, false, false, true, true] (bodyOf Tryd.prog 7))) (T := (fun r h => J7_14 F M L1 (r 7) (r 8) (r 9) (r 33) (r 34) (r 35) (r 36) h)) (g := (fun r h => J7_11 F M L1 (r 7) (r 8) (r 9) (r 33) (r 34) (r 35) h)) (by kernel_rfl) (J7_13_ok F M L1) (J7_14_ok F M L1)
noncomputable def J7_16 (F : CallH) (M : Nat) (L1 : Value → Value → Value → Value → Value → Value → AH → Res) (v7 : Value) (v8 : Value) (v9 : Value) (v33 : Value) (v34 : Value) (v35 : Value) (h : AH) : Res :=
  bindO (ibin .lss v35 v34) fun v36 =>
  J7_14 F M L1 v7 v8 v9 v33 v34 v35 v36 h
theorem J7_16_ok (F : CallH) (M : Nat) (L1 : Value → Value → Value → Value → Value → Value → AH → Res) : ∀ r h, kcode Tryd.prog F 77 M (Code.sub [true, true, true, true, true, false, true, false, false] (bodyOf Tryd.prog 7)) r h (KX (fun r h => L1 (r 7) (r 8) (r 9) (r 33) (r 34) (r 35) h) (exitsOf [(2, (fun r h => J7_0 F M (r 9) h))]) (fun r h => E7 (r 2) (r 3) h)) = J7_16 F M L1 (r 7) (r 8) (r 9) (r 33) (r 34) (r 35) h :=
  seq_pt (a := (Code.sub [true, true, true, true, true, false, true, false, false, false] (bodyOf Tryd.prog 7))) (b := (Code.sub [true, true, true, true, true, false, true, false, false, true] (bodyOf Tryd.prog 7))) (T := (fun r h => J7_16 F M L1 (r 7) (r 8) (r 9) (r 33) (r 34) (r 35) h)) (g := (fun r h => J7_14 F M L1 (r 7) (r 8) (r 9) (r 33) (r 34) (r 35) (r 36) h)) (by kernel_rfl) (J7_15_ok F M L1) (fun r h => by kernel_rfl)
noncomputable def L7_1 (F : CallH) (M : Nat) : Nat → Value → Value → Value → Value → Value → Value → AH → Res
  | 0, _, _, _, _, _, _, _ => none
  | m + 1, v7, v8, v9, v33, v34, v35, h => J7_16 F M (L7_1 F M m) v7 v8 v9 v33 v34 v35 h
theorem L7_1_ok (F : CallH) (M : Nat) : ∀ r h, kcode Tryd.prog F 77 M (Code.sub [true, true, true, true, true, false, true, false] (bodyOf Tryd.prog 7)) r h (KX (fun r h => J7_0 F M (r 9) h) (exitsOf [(2, (fun r h => J7_0 F M (r 9) h))]) (fun r h => E7 (r 2) (r 3) h)) = L7_1 F M M (r 7) (r 8) (r 9) (r 33) (r 34) (r 35) h :=
  loop_pt (b := (Code.sub [true, true, true, true, true, false, true, false, false] (bodyOf Tryd.prog 7))) (by kernel_rfl) (fun m r h => L7_1 F M m (r 7) (r 8) (r 9) (r 33) (r 34) (r 35) h) (fun _ _ => rfl) (fun m r h => ((J7_16_ok F M (L7_1 F M m)) r h).trans rfl)
theorem J7_17_ok (F : CallH) (M : Nat) : ∀ r h, kcode Tryd.prog F 77 M (Code.sub [true, true, true, true, true, false, true] (bodyOf Tryd.prog 7)) r h (KX (fun r h => J7_0 F M (r 9) h) (exitsOf []) (fun r h => E7 (r 2) (r 3) h)) = L7_1 F M M (r 7) (r 8) (r 9) (r 33) (r 34) (r 35) h :=
  block_pt (b := (Code.sub [true, true, true, true, true, false, true, false] (bodyOf Tryd.prog 7))) (T := (fun r h => L7_1 F M M (r 7) (r 8) (r 9) (r 33) (r 34) (r 35) h)) (id := 2) (by kernel_rfl) (L7_1_ok F M)
noncomputable def J7_18 (F : CallH) (M : Nat) (v4 : Value) (v7 : Value) (v8 : Value) (v9 : Value) (h : AH) : Res :=
  bindO (xlenL v4) fun v34 =>
  L7_1 F M M v7 v8 v9 v4 v34 (.int .i64 0) h
theorem J7_18_ok (F : CallH) (M : Nat) : ∀ r h, kcode Tryd.prog F 77 M (Code.sub [true, true, true, true, true, false] (bodyOf Tryd.prog 7)) r h (KX (fun r h => J7_0 F M (r 9) h) (exitsOf []) (fun r h => E7 (r 2) (r 3) h)) = J7_18 F M (r 4) (r 7) (r 8) (r 9) h :=
  seq_pt (a := (Code.sub [true, true, true, true, true, false, false] (bodyOf Tryd.prog 7))) (b := (Code.sub [true, true, true, true, true, false, true] (bodyOf Tryd.prog 7))) (T := (fun r h => J7_18 F M (r 4) (r 7) (r 8) (r 9) h)) (g := (fun r h => L7_1 F M M (r 7) (r 8) (r 9) (r 33) (r 34) (r 35) h)) (by kernel_rfl) (J7_17_ok F M) (fun r h => by kernel_rfl)
theorem J7_19_ok (F : CallH) (M : Nat) : ∀ r h, kcode Tryd.prog F 77 M (Code.sub [true, true, true, true, true] (bodyOf Tryd.prog 7)) r h (KX (fun r h => E7 (r 2) (r 3) h) (exitsOf []) (fun r h => E7 (r 2) (r 3) h)) = J7_18 F M (r 4) (r 7) (r 8) (r 9) h :=
  seq_pt (a := (Code.sub [true, true, true, true, true, false] (bodyOf Tryd.prog 7))) (b := (Code.sub [true, true, true, true, true, true] (bodyOf Tryd.prog 7))) (T := (fun r h => J7_18 F M (r 4) (r 7) (r 8) (r 9) h)) (g := (fun r h => J7_0 F M (r 9) h)) (by kernel_rfl) (J7_0_ok F M) (J7_18_ok F M)
noncomputable def J7_20 (F : CallH) (M : Nat) (v4 : Value) (v7 : Value) (v8 : Value) (h : AH) : Res :=
  J7_18 F M v4 v7 v8 (.slice none 0 0) h
theorem J7_20_ok (F : CallH) (M : Nat) : ∀ r h, kcode Tryd.prog F 77 M (Code.sub [true, true, true, true] (bodyOf Tryd.prog 7)) r h (KX (fun r h => E7 (r 2) (r 3) h) (exitsOf []) (fun r h => E7 (r 2) (r 3) h)) = J7_20 F M (r 4) (r 7) (r 8) h :=
  seq_pt (a := (Code.sub [true, true, true, true, false] (bodyOf Tryd.prog 7))) (b := (Code.sub [true, true, true, true, true] (bodyOf Tryd.prog 7))) (T := (fun r h => J7_20 F M (r 4) (r 7) (r 8) h)) (g := (fun r h => J7_18 F M (r 4) (r 7) (r 8) (r 9) h)) (by kernel_rfl) (J7_19_ok F M) (fun r h => by kernel_rfl)
noncomputable def J7_21 (F : CallH) (M : Nat) (v4 : Value) (h : AH) : Res :=
  bindO (F 14 [v4] h) fun pv30 =>
  bindO (xext 0 pv30.1) fun v31 =>
  bindO (xext 1 pv30.1) fun v32 =>
  J7_20 F M v4 v31 v32 pv30.2
theorem J7_21_ok (F : CallH) (M : Nat) : ∀ r h, kcode Tryd.prog F 77 M (Code.sub [true, true, true] (bodyOf Tryd.prog 7)) r h (KX (fun r h => E7 (r 2) (r 3) h) (exitsOf []) (fun r h => E7 (r 2) (r 3) h)) = J7_21 F M (r 4) h :=
  seq_pt (a := (Code.sub [true, true, true, false] (bodyOf Tryd.prog 7))) (b := (Code.sub [true, true, true, true] (bodyOf Tryd.prog 7))) (T := (fun r h => J7_21 F M (r 4) h)) (g := (fun r h => J7_20 F M (r 4) (r 7) (r 8) h)) (by kernel_rfl) (J7_20_ok F M) (fun r h => by kernel_rfl)
noncomputable def J7_23 (F : CallH) (M : Nat) (L22 : Value → Value → Value → Value → AH → Res) (v4 : Value) (v16 : Value) (v17 : Value) (v18 : Value) (h : AH) : Res :=
  bindO (ibin .add v18 (.int .i64 1)) fun v27 =>
  L22 v4 v16 v17 v27 h
theorem J7_23_ok (F : CallH) (M : Nat) (L22 : Value → Value → Value → Value → AH → Res) : ∀ r h, kcode Tryd.prog F 77 M (Code.sub [true, true, false, true, false, false, true, true, true] (bodyOf Tryd.prog 7)) r h (KX (fun r h => L22 (r 4) (r 16) (r 17) (r 18) h) (exitsOf [(0, (fun r h => J7_21 F M (r 4) h))]) (fun r h => E7 (r 2) (r 3) h)) = J7_23 F M L22 (r 4) (r 16) (r 17) (r 18) h := fun r h => by kernel_rfl
noncomputable def J7_24 (F : CallH) (M : Nat) (L22 : Value → Value → Value → Value → AH → Res) (v4 : Value) (v16 : Value) (v17 : Value) (v18 : Value) (h : AH) : Res :=
  bindO (xia 1 v16 v18) fun v20 =>
  bindO (ld1 h v20) fun v21 =>
  bindO (F 13 [v21] h) fun pv24 =>
  bindO (xrow [(.slice none 0 0)] [(0, 1, pv24.1)]) fun v25 => newK pv24.2 (.cells v25 1) fun iv25 h12 =>
  bindO (xapp 24 1 h12 v4 (slOf iv25 1 1)) fun pv26 =>
  J7_23 F M L22 pv26.1 v16 v17 v18 pv26.2
theorem J7_24_ok (F : CallH) (M : Nat) (L22 : Value → Value → Value → Value → AH → Res) : ∀ r h, kcode Tryd.prog F 77 M (Code.sub [true, true, false, true, false, false, true, true, false] (bodyOf Tryd.prog 7)) r h (KX (fun r h => J7_23 F M L22 (r 4) (r 16) (r 17) (r 18) h) (exitsOf [(0, (fun r h => J7_21 F M (r 4) h))]) (fun r h => E7 (r 2) (r 3) h)) = J7_24 F M L22 (r 4) (r 16) (r 17) (r 18) h := fun r h => by kernel_rfl
theorem J7_25_ok (F : CallH) (M : Nat) (L22 : Value → Value → Value → Value → AH → Res) : ∀ r h, kcode Tryd.prog F 77 M (Code.sub [true, true, false, true, false, false, true, true] (bodyOf Tryd.prog 7)) r h (KX (fun r h => L22 (r 4) (r 16) (r 17) (r 18) h) (exitsOf [(0, (fun r h => J7_21 F M (r 4) h))]) (fun r h => E7 (r 2) (r 3) h)) = J7_24 F M L22 (r 4) (r 16) (r 17) (r 18) h :=
  seq_pt (a := (Code.sub [true, true, false, true, false, false, true, true, false] (bodyOf Tryd.prog 7))) (b := (Code.sub [true, true, false, true, false, false, true, true, true] (bodyOf Tryd.prog 7))) (T := (fun r h => J7_24 F M L22 (r 4) (r 16) (r 17) (r 18) h)) (g := (fun r h => J7_23 F M L22 (r 4) (r 16) (r 17) (r 18) h)) (by kernel_rfl) (J7_23_ok F M L22) (J7_24_ok F M L22)
noncomputable def J7_26 (F : CallH) (M : Nat) (L22 : Value → Value → Value → Value → AH → Res) (v4 : Value) (v16 : Value) (v17 : Value) (v18 : Value) (v19 : Value) (h : AH) : Res :=
  condO v19 (
  J7_24 F M L22 v4 v16 v17 v18 h) (
  J7_21 F M v4 h)
theorem J7_26_ok (F : CallH) (M : Nat) (L22 : Value → Value → Value → Value → AH → Res) : ∀ r h, kcode Tryd.prog F 77 M (Code.sub [true, true, false, true, false, false, true, false] (bodyOf Tryd.prog 7)) r h (KX (fun r h => J7_24 F M L22 (r 4) (r 16) (r 17) (r 18) h) (exitsOf [(0, (fun r h => J7_21 F M (r 4) h))]) (fun r h => E7 (r 2) (r 3) h)) = J7_26 F M L22 (r 4) (r 16) (r 17) (r 18) (r 19) h := fun r h => by kernel_rfl
theorem J7_27_ok (F : CallH) (M : Nat) (L22 : Value → Value → Value → Value → AH → Res) : ∀ r h, kcode Tryd.prog F 77 M (Code.sub [true, true, false, true, false, false, true] (bodyOf Tryd.prog 7)) r h (KX (fun r h => L22 (r 4) (r 16) (r 17) (r 18) h) (exitsOf [(0, (fun r h => J7_21 F M (r 4) h))]) (fun r h => E7 (r 2) (r 3) h)) = J7_26 F M L22 (r 4) (r 16) (r 17) (r 18) (r 19) h :=
  seq_pt (a := (Code.sub [true, true, false, true, false, false, true, false] (bodyOf Tryd.prog 7))) (b := (Code.sub [true, true, false, true, false, false, true, true] (bodyOf Tryd.prog 7))) (T := (fun r h => J7_26 F M L22 (r 4) (r 16) (r 17) (r 18) (r 19) h)) (g := (fun r h => J7_24 F M L22 (r 4) (r 16) (r 17) (r 18) h)) (by kernel_rfl) (J7_25_ok F M L22) (J7_26_ok F M L22)
noncomputable def J7_28 (F : CallH) (M : Nat) (L22 : Value → Value → Value → Value → AH → Res) (v4 : Value) (v16 : Value) (v17 : Value) (v18 : Value) (h : AH) : Res :=
  bindO (ibin .lss v18 v17) fun v19 =>
  J7_26 F M L22 v4 v16 v17 v18 v19 h
theorem J7_28_ok (F : CallH) (M : Nat) (L22 : Value → Value → Value → Value → AH → Res) : ∀ r h, kcode Tryd.prog F 77 M (Code.sub [true, true, false, true, false, false] (bodyOf Tryd.prog 7)) r h (KX (fun r h => L22 (r 4) (r 16) (r 17) (r 18) h) (exitsOf [(0, (fun r h => J7_21 F M (r 4) h))]) (fun r h => E7 (r 2) (r 3) h)) = J7_28 F M L22 (r 4) (r 16) (r 17) (r 18) h :=
  seq_pt (a := (Code.sub [true, true, false, true, false, false, false] (bodyOf Tryd.prog 7))) (b := (Code.sub [true, true, false, true, false, false, true] (bodyOf Tryd.prog 7))) (T := (fun r h => J7_28 F M L22 (r 4) (r 16) (r 17) (r 18) h)) (g := (fun r h => J7_26 F M L22 (r 4) (r 16) (r 17) (r 18) (r 19) h)) (by kernel_rfl) (J7_27_ok F M L22) (fun r h => by kernel_rfl)
noncomputable def L7_22 (F : CallH) (M : Nat) : Nat → Value → Value → Value → Value → AH → Res
  | 0, _, _, _, _, _ => none
  | m + 1, v4, v16, v17, v18, h => J7_28 F M (L7_22 F M m) v4 v16 v17 v18 h
theorem L7_22_ok (F : CallH) (M : Nat) : ∀ r h, kcode Tryd.prog F 77 M (Code.sub [true, true, false, true, false] (bodyOf Tryd.prog 7)) r h (KX (fun r h => J7_21 F M (r 4) h) (exitsOf [(0, (fun r h => J7_21 F M (r 4) h))]) (fun r h => E7 (r 2) (r 3) h)) = L7_22 F M M (r 4) (r 16) (r 17) (r 18) h :=
  loop_pt (b := (Code.sub [true, true, false, true, false, false] (bodyOf Tryd.prog 7))) (by kernel_rfl) (fun m r h => L7_22 F M m (r 4) (r 16) (r 17) (r 18) h) (fun _ _ => rfl) (fun m r h => ((J7_28_ok F M (L7_22 F M m)) r h).trans rfl)
theorem J7_29_ok (F : CallH) (M : Nat) : ∀ r h, kcode Tryd.prog F 77 M (Code.sub [true, true, false, true] (bodyOf Tryd.prog 7)) r h (KX (fun r h => J7_21 F M (r 4) h) (exitsOf []) (fun r h => E7 (r 2) (r 3) h)) = L7_22 F M M (r 4) (r 16) (r 17) (r 18) h :=
  block_pt (b := (Code.sub [true, true, false, true, false] (bodyOf Tryd.prog 7))) (T := (fun r h => L7_22 F M M (r 4) (r 16) (r 17) (r 18) h)) (id := 0) (by kernel_rfl) (L7_22_ok F M)
noncomputable def J7_30 (F : CallH) (M : Nat) (v0 : Value) (v4 : Value) (h : AH) : Res :=
  bindO (xlenL v0) fun v17 =>
  L7_22 F M M v4 v0 v17 (.int .i64 0) h
theorem J7_30_ok (F : CallH) (M : Nat) : ∀ r h, kcode Tryd.prog F 77 M (Code.sub [true, true, false] (bodyOf Tryd.prog 7)) r h (KX (fun r h => J7_21 F M (r 4) h) (exitsOf []) (fun r h => E7 (r 2) (r 3) h)) = J7_30 F M (r 0) (r 4) h :=
  seq_pt (a := (Code.sub [true, true, false, false] (bodyOf Tryd.prog 7))) (b := (Code.sub [true, true, false, true] (bodyOf Tryd.prog 7))) (T := (fun r h => J7_30 F M (r 0) (r 4) h)) (g := (fun r h => L7_22 F M M (r 4) (r 16) (r 17) (r 18) h)) (by kernel_rfl) (J7_29_ok F M) (fun r h => by kernel_rfl)
theorem J7_31_ok (F : CallH) (M : Nat) : ∀ r h, kcode Tryd.prog F 77 M (Code.sub [true, true] (bodyOf Tryd.prog 7)) r h (KX (fun r h => E7 (r 2) (r 3) h) (exitsOf []) (fun r h => E7 (r 2) (r 3) h)) = J7_30 F M (r 0) (r 4) h :=
  seq_pt (a := (Code.sub [true, true, false] (bodyOf Tryd.prog 7))) (b := (Code.sub [true, true, true] (bodyOf Tryd.prog 7))) (T := (fun r h => J7_30 F M (r 0) (r 4) h)) (g := (fun r h => J7_21 F M (r 4) h)) (by kernel_rfl) (J7_21_ok F M) (J7_30_ok F M)
noncomputable def J7_32 (F : CallH) (M : Nat) (v0 : Value) (h : AH) : Res :=
  J7_30 F M v0 (.slice none 0 0) h
theorem J7_32_ok (F : CallH) (M : Nat) : ∀ r h, kcode Tryd.prog F 77 M (Code.sub [true] (bodyOf Tryd.prog 7)) r h (KX (fun r h => E7 (r 2) (r 3) h) (exitsOf []) (fun r h => E7 (r 2) (r 3) h)) = J7_32 F M (r 0) h :=
  seq_pt (a := (Code.sub [true, false] (bodyOf Tryd.prog 7))) (b := (Code.sub [true, true] (bodyOf Tryd.prog 7))) (T := (fun r h => J7_32 F M (r 0) h)) (g := (fun r h => J7_30 F M (r 0) (r 4) h)) (by kernel_rfl) (J7_31_ok F M) (fun r h => by kernel_rfl)
noncomputable def J7_33 (F : CallH) (M : Nat) (v0 : Value) (h : AH) : Res :=
  J7_32 F M v0 h
theorem J7_33_ok (F : CallH) (M : Nat) : ∀ r h, kcode Tryd.prog F 77 M (Code.sub [] (bodyOf Tryd.prog 7)) r h (KX (fun r h => E7 (r 2) (r 3) h) (exitsOf []) (fun r h => E7 (r 2) (r 3) h)) = J7_33 F M (r 0) h :=
  seq_pt (a := (Code.sub [false] (bodyOf Tryd.prog 7))) (b := (Code.sub [true] (bodyOf Tryd.prog 7))) (T := (fun r h => J7_33 F M (r 0) h)) (g := (fun r h => J7_32 F M (r 0) h)) (by kernel_rfl) (J7_32_ok F M) (fun r h => by kernel_rfl)
noncomputable def R7 (F : CallH) (M : Nat) (x0 : Value) (h : AH) : Res := J7_33 F M x0 h
theorem R7_ok (F : CallH) (M : Nat) (x0 : Value) (h : AH) : kfn Tryd.prog F M 7 [x0] h = R7 F M x0 h :=
  (fn_pt (N := 77) (E := (fun r h => E7 (r 2) (r 3) h)) (T := (fun r h => J7_33 F M (r 0) h)) Tryd.func7 (by kernel_rfl) (by kernel_rfl) (fun r h => by kernel_rfl) (J7_33_ok F M)).trans (by kernel_rfl)
/-! ### 11 turnkey/asm.Line -/
noncomputable def E11 (v2 : Value) (v3 : Value) (h : AH) : Res := bindO (ldn 5 h v2) fun x2 => some ((.tuple #[x2, v3]), h)
noncomputable def J11_0 (F : CallH) (M : Nat) (v0 : Value) (h : AH) : Res :=
  newK h (.cells [(.int .i64 0), (.int .i64 0), (.int .i64 0), (.int .i64 0), (.int .i64 0)] 5) fun iv2 h1 =>
  bindO (F 13 [v0] h1) fun pv5 =>
  bindO (F 23 [pv5.1, (.map none)] pv5.2) fun pv6 =>
  bindO (xext 0 pv6.1) fun v7 =>
  bindO (xext 1 pv6.1) fun v8 =>
  bindO (xst 5 pv6.2 (ptrTo iv2) v7) fun h4 =>
  E11 (ptrTo iv2) v8 h4
theorem J11_0_ok (F : CallH) (M : Nat) : ∀ r h, kcode Tryd.prog F 9 M (Code.sub [] (bodyOf Tryd.prog 11)) r h (KX (fun r h => E11 (r 2) (r 3) h) (exitsOf []) (fun r h => E11 (r 2) (r 3) h)) = J11_0 F M (r 0) h := fun r h => by kernel_rfl
noncomputable def R11 (F : CallH) (M : Nat) (x0 : Value) (h : AH) : Res := J11_0 F M x0 h
theorem R11_ok (F : CallH) (M : Nat) (x0 : Value) (h : AH) : kfn Tryd.prog F M 11 [x0] h = R11 F M x0 h :=
  (fn_pt (N := 9) (E := (fun r h => E11 (r 2) (r 3) h)) (T := (fun r h => J11_0 F M (r 0) h)) Tryd.func11 (by kernel_rfl) (by kernel_rfl) (fun r h => by kernel_rfl) (J11_0_ok F M)).trans (by kernel_rfl)
/-! ### 15 slices.Contains[[]int,int] -/
noncomputable def E15 (v4 : Value) (h : AH) : Res := some (v4, h)
noncomputable def J15_0 (F : CallH) (M : Nat) (v0 : Value) (v1 : Value) (h : AH) : Res :=
  bindO (F 26 [v0, v1] h) fun pv7 =>
  bindO (ibin .geq pv7.1 (.int .i64 0)) fun v8 =>
  E15 v8 pv7.2
theorem J15_0_ok (F : CallH) (M : Nat) : ∀ r h, kcode Tryd.prog F 9 M (Code.sub [] (bodyOf Tryd.prog 15)) r h (KX (fun r h => E15 (r 4) h) (exitsOf []) (fun r h => E15 (r 4) h)) = J15_0 F M (r 0) (r 1) h := fun r h => by kernel_rfl
noncomputable def R15 (F : CallH) (M : Nat) (x0 x1 : Value) (h : AH) : Res := J15_0 F M x0 x1 h
theorem R15_ok (F : CallH) (M : Nat) (x0 x1 : Value) (h : AH) : kfn Tryd.prog F M 15 [x0, x1] h = R15 F M x0 x1 h :=
  (fn_pt (N := 9) (E := (fun r h => E15 (r 4) h)) (T := (fun r h => J15_0 F M (r 0) (r 1) h)) Tryd.func15 (by kernel_rfl) (by kernel_rfl) (fun r h => by kernel_rfl) (J15_0_ok F M)).trans (by kernel_rfl)
/-! ### 19 turnkey/code.Valid -/
noncomputable def E19 (v2 : Value) (h : AH) : Res := some (v2, h)
noncomputable def J19_0 (F : CallH) (M : Nat) (h : AH) : Res :=
  E19 .nilIface h
theorem J19_0_ok (F : CallH) (M : Nat) : ∀ r h, kcode Tryd.prog F 18 M (Code.sub [true, true] (bodyOf Tryd.prog 19)) r h (KX (fun r h => E19 (r 2) h) (exitsOf []) (fun r h => E19 (r 2) h)) = J19_0 F M h := fun r h => by kernel_rfl
noncomputable def J19_1 (F : CallH) (M : Nat) (v1 : Value) (h : AH) : Res :=
  bindO (xfa 0 v1) fun v4 =>
  bindO (ld1 h v4) fun v5 =>
  bindO (ibin .lss v5 (.int .i64 1)) fun v6 =>
  condO v6 (
  bindO (ld1 h (glob 1)) fun v12 =>
  E19 v12 h) (
  bindO (xfa 0 v1) fun v8 =>
  bindO (ld1 h v8) fun v9 =>
  bindO (ibin .gtr v9 (.int .i64 13)) fun v10 =>
  condO v10 (
  bindO (ld1 h (glob 1)) fun v12 =>
  E19 v12 h) (
  bindO (ldn 5 h v1) fun v14 =>
  bindO (F 30 [v14] h) fun pv15 =>
  bindO (xnot pv15.1) fun v16 =>
  condO v16 (
  bindO (ld1 pv15.2 (glob 3)) fun v17 =>
  E19 v17 pv15.2) (
  J19_0 F M pv15.2)))
theorem J19_1_ok (F : CallH) (M : Nat) : ∀ r h, kcode Tryd.prog F 18 M (Code.sub [true, false] (bodyOf Tryd.prog 19)) r h (KX (fun r h => J19_0 F M h) (exitsOf []) (fun r h => E19 (r 2) h)) = J19_1 F M (r 1) h := fun r h => by kernel_rfl
theorem J19_2_ok (F : CallH) (M : Nat) : ∀ r h, kcode Tryd.prog F 18 M (Code.sub [true] (bodyOf Tryd.prog 19)) r h (KX (fun r h => E19 (r 2) h) (exitsOf []) (fun r h => E19 (r 2) h)) = J19_1 F M (r 1) h :=
  seq_pt (a := (Code.sub [true, false] (bodyOf Tryd.prog 19))) (b := (Code.sub [true, true] (bodyOf Tryd.prog 19))) (T := (fun r h => J19_1 F M (r 1) h)) (g := (fun r h => J19_0 F M h)) (by kernel_rfl) (J19_0_ok F M) (J19_1_ok F M)
noncomputable def J19_3 (F : CallH) (M : Nat) (v0 : Value) (h : AH) : Res :=
  bindO (xcells 5 v0) fun v1 => newK h (.cells v1 5) fun iv1 h2 =>
  J19_1 F M (ptrTo iv1) h2
theorem J19_3_ok (F : CallH) (M : Nat) : ∀ r h, kcode Tryd.prog F 18 M (Code.sub [] (bodyOf Tryd.prog 19)) r h (KX (fun r h => E19 (r 2) h) (exitsOf []) (fun r h => E19 (r 2) h)) = J19_3 F M (r 0) h :=
  seq_pt (a := (Code.sub [false] (bodyOf Tryd.prog 19))) (b := (Code.sub [true] (bodyOf Tryd.prog 19))) (T := (fun r h => J19_3 F M (r 0) h)) (g := (fun r h => J19_1 F M (r 1) h)) (by kernel_rfl) (J19_2_ok F M) (fun r h => by kernel_rfl)
noncomputable def R19 (F : CallH) (M : Nat) (x0 : Value) (h : AH) : Res := J19_3 F M x0 h
theorem R19_ok (F : CallH) (M : Nat) (x0 : Value) (h : AH) : kfn Tryd.prog F M 19 [x0] h = R19 F M x0 h :=
  (fn_pt (N := 18) (E := (fun r h => E19 (r 2) h)) (T := (fun r h => J19_3 F M (r 0) h)) Tryd.func19 (by kernel_rfl) (by kernel_rfl) (fun r h => by kernel_rfl) (J19_3_ok F M)).trans (by kernel_rfl)
/-! ### 23 turnkey/asm.line -/
noncomputable def E23 (v4 : Value) (v5 : Value) (h : AH) : Res := bindO (ldn 5 h v4) fun x4 => some ((.tuple #[x4, v5]), h)
noncomputable def J23_0 (F : CallH) (M : Nat) (v4 : Value) (v8 : Value) (h : AH) : Res :=
  bindO (ldn 5 h v8) fun v116 =>
  bindO (xst 5 h v4 v116) fun h1 =>
  E23 v4 .nilIface h1
theorem J23_0_ok (F : CallH) (M : Nat) : ∀ r h, kcode Tryd.prog F 117 M (Code.sub [true, true, true, true, true, true, true, true] (bodyOf Tryd.prog 23)) r h (KX (fun r h => E23 (r 4) (r 5) h) (exitsOf []) (fun r h => E23 (r 4) (r 5) h)) = J23_0 F M (r 4) (r 8) h := fun r h => by kernel_rfl
noncomputable def J23_1 (F : CallH) (M : Nat) (v4 : Value) (v8 : Value) (h : AH) : Res :=
  bindO (ldn 5 h v8) fun v110 =>
  bindO (F 19 [v110] h) fun pv111 =>
  bindO (xnilI .neq pv111.1) fun v113 =>
  condO v113 (
  bindO (xbuild [(.int .i64 0), (.int .i64 0), (.int .i64 0), (.int .i64 0), (.int .i64 0)] []) fun v114 =>
  bindO (xst 5 pv111.2 v4 v114) fun h3 =>
  E23 v4 pv111.1 h3) (
  J23_0 F M v4 v8 pv111.2)
theorem J23_1_ok (F : CallH) (M : Nat) : ∀ r h, kcode Tryd.prog F 117 M (Code.sub [true, true, true, true, true, true, true, false] (bodyOf Tryd.prog 23)) r h (KX (fun r h => J23_0 F M (r 4) (r 8) h) (exitsOf []) (fun r h => E23 (r 4) (r 5) h)) = J23_1 F M (r 4) (r 8) h := fun r h => by kernel_rfl
theorem J23_2_ok (F : CallH) (M : Nat) : ∀ r h, kcode Tryd.prog F 117 M (Code.sub [true, true, true, true, true, true, true] (bodyOf Tryd.prog 23)) r h (KX (fun r h => E23 (r 4) (r 5) h) (exitsOf []) (fun r h => E23 (r 4) (r 5) h)) = J23_1 F M (r 4) (r 8) h :=
  seq_pt (a := (Code.sub [true, true, true, true, true, true, true, false] (bodyOf Tryd.prog 23))) (b := (Code.sub [true, true, true, true, true, true, true, true] (bodyOf Tryd.prog 23))) (T := (fun r h => J23_1 F M (r 4) (r 8) h)) (g := (fun r h => J23_0 F M (r 4) (r 8) h)) (by kernel_rfl) (J23_0_ok F M) (J23_1_ok F M)
noncomputable def J23_4 (F : CallH) (M : Nat) (L3 : Value → Value → Value → Value → Value → Value → Value → AH → Res) (v0 : Value) (v1 : Value) (v4 : Value) (v6 : Value) (v8 : Value) (v9 : Value) (v13 : Value) (v38 : Value) (h : AH) : Res :=
  bindO (xnot v13) fun v107 =>
  condO v107 (
  withH (bump h 4) fun h4 =>
  bindO (xbuild [(.int .i64 0), (.int .i64 0), (.int .i64 0), (.int .i64 0), (.int .i64 0)] []) fun v108 =>
  bindO (ld1 h4 (glob 2)) fun v109 =>
  bindO (xst 5 h4 v4 v108) fun h5 =>
  andO (rdok (ld1 h5 (glob 2)) v109) <|
  E23 v4 v109 h5) (
  L3 v0 v1 v4 v6 v8 v9 v38 h)
theorem J23_4_ok (F : CallH) (M : Nat) (L3 : Value → Value → Value → Value → Value → Value → Value → AH → Res) : ∀ r h, kcode Tryd.prog F 117 M (Code.sub [true, true, true, true, true, true, false, true, false, false, true, true, false, true, true, true, true] (bodyOf Tryd.prog 23)) r h (KX (fun r h => L3 (r 0) (r 1) (r 4) (r 6) (r 8) (r 9) (r 38) h) (exitsOf [(1, (fun r h => L3 (r 0) (r 1) (r 4) (r 6) (r 8) (r 9) (r 38) h)), (0, (fun r h => J23_1 F M (r 4) (r 8) h))]) (fun r h => E23 (r 4) (r 5) h)) = J23_4 F M L3 (r 0) (r 1) (r 4) (r 6) (r 8) (r 9) (r 13) (r 38) h := fun r h => by kernel_rfl
noncomputable def J23_5 (F : CallH) (M : Nat) (L3 : Value → Value → Value → Value → Value → Value → Value → AH → Res) (v0 : Value) (v1 : Value) (v4 : Value) (v6 : Value) (v8 : Value) (v9 : Value) (v12 : Value) (v13 : Value) (v38 : Value) (h : AH) : Res :=
  bindO (F 34 [v12] h) fun pv64 =>
  bindO (xfa 4 v8) fun v65 =>
  bindO (xst 1 pv64.2 v65 pv64.1) fun h7 =>
  J23_4 F M L3 v0 v1 v4 v6 v8 v9 v13 v38 h7
theorem J23_5_ok (F : CallH) (M : Nat) (L3 : Value → Value → Value → Value → Value → Value → Value → AH → Res) : ∀ r h, kcode Tryd.prog F 117 M (Code.sub [true, true, true, true, true, true, false, true, false, false, true, true, false, true, true, true, false, true, false, true, false] (bodyOf Tryd.prog 23)) r h (KX (fun r h => J23_4 F M L3 (r 0) (r 1) (r 4) (r 6) (r 8) (r 9) (r 13) (r 38) h) (exitsOf [(2, (fun r h => J23_4 F M L3 (r 0) (r 1) (r 4) (r 6) (r 8) (r 9) (r 13) (r 38) h)), (1, (fun r h => L3 (r 0) (r 1) (r 4) (r 6) (r 8) (r 9) (r 38) h)), (0, (fun r h => J23_1 F M (r 4) (r 8) h))]) (fun r h => E23 (r 4) (r 5) h)) = J23_5 F M L3 (r 0) (r 1) (r 4) (r 6) (r 8) (r 9) (r 12) (r 13) (r 38) h := fun r h => by kernel_rfl
noncomputable def J23_6 (F : CallH) (M : Nat) (L3 : Value → Value → Value → Value → Value → Value → Value → AH → Res) (v0 : Value) (v1 : Value) (v4 : Value) (v6 : Value) (v8 : Value) (v9 : Value) (v12 : Value) (v13 : Value) (v38 : Value) (h : AH) : Res :=
  bindO (F 36 [] h) fun pv68 =>
  bindO (F 35 [pv68.1, v12] pv68.2) fun pv70 =>
  bindO (xfa 1 v8) fun v71 =>
  bindO (xst 1 pv70.2 v71 pv70.1) fun h10 =>
  J23_4 F M L3 v0 v1 v4 v6 v8 v9 v13 v38 h10
theorem J23_6_ok (F : CallH) (M : Nat) (L3 : Value → Value → Value → Value → Value → Value → Value → AH → Res) : ∀ r h, kcode Tryd.prog F 117 M (Code.sub [true, true, true, true, true, true, false, true, false, false, true, true, false, true, true, true, false, true, false, true, true, true, false] (bodyOf Tryd.prog 23)) r h (KX (fun r h => J23_4 F M L3 (r 0) (r 1) (r 4) (r 6) (r 8) (r 9) (r 13) (r 38) h) (exitsOf [(2, (fun r h => J23_4 F M L3 (r 0) (r 1) (r 4) (r 6) (r 8) (r 9) (r 13) (r 38) h)), (1, (fun r h => L3 (r 0) (r 1) (r 4) (r 6) (r 8) (r 9) (r 38) h)), (0, (fun r h => J23_1 F M (r 4) (r 8) h))]) (fun r h => E23 (r 4) (r 5) h)) = J23_6 F M L3 (r 0) (r 1) (r 4) (r 6) (r 8) (r 9) (r 12) (r 13) (r 38) h := fun r h => by kernel_rfl
noncomputable def J23_7 (F : CallH) (M : Nat) (L3 : Value → Value → Value → Value → Value → Value → Value → AH → Res) (v0 : Value) (v1 : Value) (v4 : Value) (v6 : Value) (v8 : Value) (v9 : Value) (v12 : Value) (v38 : Value) (h : AH) : Res :=
  bindO (F 29 [v12] h) fun pv102 =>
  bindO (xext 0 pv102.1) fun v103 =>
  bindO (xext 1 pv102.1) fun v104 =>
  bindO (xfa 4 v8) fun v105 =>
  bindO (xst 1 pv102.2 v105 v103) fun h12 =>
  J23_4 F M L3 v0 v1 v4 v6 v8 v9 v104 v38 h12
theorem J23_7_ok (F : CallH) (M : Nat) (L3 : Value → Value → Value → Value → Value → Value → Value → AH → Res) : ∀ r h, kcode Tryd.prog F 117 M (Code.sub [true, true, true, true, true, true, false, true, false, false, true, true, false, true, true, true, false, true, false, true, true, true, true, true, false, true] (bodyOf Tryd.prog 23)) r h (KX (fun r h => J23_4 F M L3 (r 0) (r 1) (r 4) (r 6) (r 8) (r 9) (r 13) (r 38) h) (exitsOf [(2, (fun r h => J23_4 F M L3 (r 0) (r 1) (r 4) (r 6) (r 8) (r 9) (r 13) (r 38) h)), (1, (fun r h => L3 (r 0) (r 1) (r 4) (r 6) (r 8) (r 9) (r 38) h)), (0, (fun r h => J23_1 F M (r 4) (r 8) h))]) (fun r h => E23 (r 4) (r 5) h)) = J23_7 F M L3 (r 0) (r 1) (r 4) (r 6) (r 8) (r 9) (r 12) (r 38) h := fun r h => by kernel_rfl
noncomputable def J23_8 (F : CallH) (M : Nat) (L3 : Value → Value → Value → Value → Value → Value → Value → AH → Res) (v0 : Value) (v1 : Value) (v4 : Value) (v6 : Value) (v8 : Value) (v9 : Value) (v14 : Value) (v38 : Value) (h : AH) : Res :=
  bindO (xfa 4 v8) fun v99 =>
  bindO (xst 1 h v99 v14) fun h13 =>
  L3 v0 v1 v4 v6 v8 v9 v38 h13
theorem J23_8_ok (F : CallH) (M : Nat) (L3 : Value → Value → Value → Value → Value → Value → Value → AH → Res) : ∀ r h, kcode Tryd.prog F 117 M (Code.sub [true, true, true, true, true, true, false, true, false, false, true, true, false, true, true, true, false, true, false, true, true, true, true, true, false, false, true, false, true, true] (bodyOf Tryd.prog 23)) r h (KX (fun r h => J23_7 F M L3 (r 0) (r 1) (r 4) (r 6) (r 8) (r 9) (r 12) (r 38) h) (exitsOf [(2, (fun r h => J23_4 F M L3 (r 0) (r 1) (r 4) (r 6) (r 8) (r 9) (r 13) (r 38) h)), (1, (fun r h => L3 (r 0) (r 1) (r 4) (r 6) (r 8) (r 9) (r 38) h)), (0, (fun r h => J23_1 F M (r 4) (r 8) h))]) (fun r h => E23 (r 4) (r 5) h)) = J23_8 F M L3 (r 0) (r 1) (r 4) (r 6) (r 8) (r 9) (r 14) (r 38) h := fun r h => by kernel_rfl
noncomputable def J23_9 (F : CallH) (M : Nat) (L3 : Value → Value → Value → Value → Value → Value → Value → AH → Res) (v0 : Value) (v1 : Value) (v4 : Value) (v6 : Value) (v8 : Value) (v9 : Value) (v14 : Value) (v15 : Value) (v38 : Value) (h : AH) : Res :=
  bindO (xnot v15) fun v95 =>
  condO v95 (
  withH (bump h 4) fun h14 =>
  bindO (xbuild [(.int .i64 0), (.int .i64 0), (.int .i64 0), (.int .i64 0), (.int .i64 0)] []) fun v96 =>
  bindO (ld1 h14 (glob 4)) fun v97 =>
  bindO (xst 5 h14 v4 v96) fun h15 =>
  andO (rdok (ld1 h15 (glob 4)) v97) <|
  E23 v4 v97 h15) (
  J23_8 F M L3 v0 v1 v4 v6 v8 v9 v14 v38 h)
theorem J23_9_ok (F : CallH) (M : Nat) (L3 : Value → Value → Value → Value → Value → Value → Value → AH → Res) : ∀ r h, kcode Tryd.prog F 117 M (Code.sub [true, true, true, true, true, true, false, true, false, false, true, true, false, true, true, true, false, true, false, true, true, true, true, true, false, false, true, false, true, false] (bodyOf Tryd.prog 23)) r h (KX (fun r h => J23_8 F M L3 (r 0) (r 1) (r 4) (r 6) (r 8) (r 9) (r 14) (r 38) h) (exitsOf [(2, (fun r h => J23_4 F M L3 (r 0) (r 1) (r 4) (r 6) (r 8) (r 9) (r 13) (r 38) h)), (1, (fun r h => L3 (r 0) (r 1) (r 4) (r 6) (r 8) (r 9) (r 38) h)), (0, (fun r h => J23_1 F M (r 4) (r 8) h))]) (fun r h => E23 (r 4) (r 5) h)) = J23_9 F M L3 (r 0) (r 1) (r 4) (r 6) (r 8) (r 9) (r 14) (r 15) (r 38) h := fun r h => by kernel_rfl
theorem J23_10_ok (F : CallH) (M : Nat) (L3 : Value → Value → Value → Value → Value → Value → Value → AH → Res) : ∀ r h, kcode Tryd.prog F 117 M (Code.sub [true, true, true, true, true, true, false, true, false, false, true, true, false, true, true, true, false, true, false, true, true, true, true, true, false, false, true, false, true] (bodyOf Tryd.prog 23)) r h (KX (fun r h => J23_7 F M L3 (r 0) (r 1) (r 4) (r 6) (r 8) (r 9) (r 12) (r 38) h) (exitsOf [(2, (fun r h => J23_4 F M L3 (r 0) (r 1) (r 4) (r 6) (r 8) (r 9) (r 13) (r 38) h)), (1, (fun r h => L3 (r 0) (r 1) (r 4) (r 6) (r 8) (r 9) (r 38) h)), (0, (fun r h => J23_1 F M (r 4) (r 8) h))]) (fun r h => E23 (r 4) (r 5) h)) = J23_9 F M L3 (r 0) (r 1) (r 4) (r 6) (r 8) (r 9) (r 14) (r 15) (r 38) h :=
  seq_pt (a := (Code.sub [true, true, true, true, true, true, false, true, false, false, true, true, false, true, true, true, false, true, false, true, true, true, true, true, false, false, true, false, true, false] (bodyOf Tryd.prog 23))) (b := (Code.sub [true, true, true, true, true, true, false, true, false, false, true, true, false, true, true, true, false, true, false, true, true, true, true, true, false, false, true, false, true, true] (bodyOf Tryd.prog 23))) (T := (fun r h => J23_9 F M L3 (r 0) (r 1) (r 4) (r 6) (r 8) (r 9) (r 14) (r 15) (r 38) h)) (g := (fun r h => J23_8 F M L3 (r 0) (r 1) (r 4) (r 6) (r 8) (r 9) (r 14) (r 38) h)) (by kernel_rfl) (J23_8_ok F M L3) (J23_9_ok F M L3)
noncomputable def J23_11 (F : CallH) (M : Nat) (L3 : Value → Value → Value → Value → Value → Value → Value → AH → Res) (v0 : Value) (v1 : Value) (v4 : Value) (v6 : Value) (v8 : Value) (v9 : Value) (v12 : Value) (v38 : Value) (h : AH) : Res :=
  bindO (lookup Tryd.prog h 46 v1 v12 true) fun v91 =>
  bindO (xext 0 v91) fun v92 =>
  bindO (xext 1 v91) fun v93 =>
  J23_9 F M L3 v0 v1 v4 v6 v8 v9 v92 v93 v38 h
theorem J23_11_ok (F : CallH) (M : Nat) (L3 : Value → Value → Value → Value → Value → Value → Value → AH → Res) : ∀ r h, kcode Tryd.prog F 117 M (Code.sub [true, true, true, true, true, true, false, true, false, false, true, true, false, true, true, true, false, true, false, true, true, true, true, true, false, false, true, false] (bodyOf Tryd.prog 23)) r h (KX (fun r h => J23_7 F M L3 (r 0) (r 1) (r 4) (r 6) (r 8) (r 9) (r 12) (r 38) h) (exitsOf [(2, (fun r h => J23_4 F M L3 (r 0) (r 1) (r 4) (r 6) (r 8) (r 9) (r 13) (r 38) h)), (1, (fun r h => L3 (r 0) (r 1) (r 4) (r 6) (r 8) (r 9) (r 38) h)), (0, (fun r h => J23_1 F M (r 4) (r 8) h))]) (fun r h => E23 (r 4) (r 5) h)) = J23_11 F M L3 (r 0) (r 1) (r 4) (r 6) (r 8) (r 9) (r 12) (r 38) h :=
  seq_pt (a := (Code.sub [true, true, true, true, true, true, false, true, false, false, true, true, false, true, true, true, false, true, false, true, true, true, true, true, false, false, true, false, false] (bodyOf Tryd.prog 23))) (b := (Code.sub [true, true, true, true, true, true, false, true, false, false, true, true, false, true, true, true, false, true, false, true, true, true, true, true, false, false, true, false, true] (bodyOf Tryd.prog 23))) (T := (fun r h => J23_11 F M L3 (r 0) (r 1) (r 4) (r 6) (r 8) (r 9) (r 12) (r 38) h)) (g := (fun r h => J23_9 F M L3 (r 0) (r 1) (r 4) (r 6) (r 8) (r 9) (r 14) (r 15) (r 38) h)) (by kernel_rfl) (J23_10_ok F M L3) (fun r h => by kernel_rfl)
noncomputable def J23_12 (F : CallH) (M : Nat) (L3 : Value → Value → Value → Value → Value → Value → Value → AH → Res) (v0 : Value) (v1 : Value) (v4 : Value) (v6 : Value) (v8 : Value) (v9 : Value) (v12 : Value) (v38 : Value) (h : AH) : Res :=
  J23_7 F M L3 v0 v1 v4 v6 v8 v9 v12 v38 h
theorem J23_12_ok (F : CallH) (M : Nat) (L3 : Value → Value → Value → Value → Value → Value → Value → AH → Res) : ∀ r h, kcode Tryd.prog F 117 M (Code.sub [true, true, true, true, true, true, false, true, false, false, true, true, false, true, true, true, false, true, false, true, true, true, true, true, false, false, true, true] (bodyOf Tryd.prog 23)) r h (KX (fun r h => J23_7 F M L3 (r 0) (r 1) (r 4) (r 6) (r 8) (r 9) (r 12) (r 38) h) (exitsOf [(2, (fun r h => J23_4 F M L3 (r 0) (r 1) (r 4) (r 6) (r 8) (r 9) (r 13) (r 38) h)), (1, (fun r h => L3 (r 0) (r 1) (r 4) (r 6) (r 8) (r 9) (r 38) h)), (0, (fun r h => J23_1 F M (r 4) (r 8) h))]) (fun r h => E23 (r 4) (r 5) h)) = J23_12 F M L3 (r 0) (r 1) (r 4) (r 6) (r 8) (r 9) (r 12) (r 38) h := fun r h => by kernel_rfl
noncomputable def J23_13 (F : CallH) (M : Nat) (L3 : Value → Value → Value → Value → Value → Value → Value → AH → Res) (v0 : Value) (v1 : Value) (v4 : Value) (v6 : Value) (v8 : Value) (v9 : Value) (v12 : Value) (v38 : Value) (v87 : Value) (h : AH) : Res :=
  condO v87 (J23_11 F M L3 v0 v1 v4 v6 v8 v9 v12 v38 h) (J23_12 F M L3 v0 v1 v4 v6 v8 v9 v12 v38 h)
theorem J23_13_ok (F : CallH) (M : Nat) (L3 : Value → Value → Value → Value → Value → Value → Value → AH → Res) : ∀ r h, kcode Tryd.prog F 117 M (Code.sub [true, true, true, true, true, true, false, true, false, false, true, true, false, true, true, true, false, true, false, true, true, true, true, true, false, false, true] (bodyOf Tryd.prog 23)) r h (KX (fun r h => J23_7 F M L3 (r 0) (r 1) (r 4) (r 6) (r 8) (r 9) (r 12) (r 38) h) (exitsOf [(2, (fun r h => J23_4 F M L3 (r 0) (r 1) (r 4) (r 6) (r 8) (r 9) (r 13) (r 38) h)), (1, (fun r h => L3 (r 0) (r 1) (r 4) (r 6) (r 8) (r 9) (r 38) h)), (0, (fun r h => J23_1 F M (r 4) (r 8) h))]) (fun r h => E23 (r 4) (r 5) h)) = J23_13 F M L3 (r 0) (r 1) (r 4) (r 6) (r 8) (r 9) (r 12) (r 38) (r 87) h :=
  fun r h => (cond_pt (a := (Code.sub [true, true, true, true, true, true, false, true, false, false, true, true, false, true, true, true, false, true, false, true, true, true, true, true, false, false, true, false] (bodyOf Tryd.prog 23))) (b := (Code.sub [true, true, true, true, true, true, false, true, false, false, true, true, false, true, true, true, false, true, false, true, true, true, true, true, false, false, true, true] (bodyOf Tryd.prog 23))) (A := (fun r h => J23_11 F M L3 (r 0) (r 1) (r 4) (r 6) (r 8) (r 9) (r 12) (r 38) h)) (B := (fun r h => J23_12 F M L3 (r 0) (r 1) (r 4) (r 6) (r 8) (r 9) (r 12) (r 38) h)) (y := .tmp 87) (by kernel_rfl) (J23_11_ok F M L3) (J23_12_ok F M L3) r h).trans (by kernel_rfl)
noncomputable def J23_14 (F : CallH) (M : Nat) (L3 : Value → Value → Value → Value → Value → Value → Value → AH → Res) (v0 : Value) (v1 : Value) (v4 : Value) (v6 : Value) (v8 : Value) (v9 : Value) (v12 : Value) (v38 : Value) (h : AH) : Res :=
  bindO (xnilM .neq v1) fun v75 =>
  condO v75 (
  bindO (ibin .eql v6 (.int .i64 4)) fun v78 =>
  condO v78 (
  bindO (F 28 [v12] h) fun pv86 =>
  J23_13 F M L3 v0 v1 v4 v6 v8 v9 v12 v38 pv86.1 pv86.2) (
  bindO (ibin .eql v6 (.int .i64 5)) fun v81 =>
  condO v81 (
  bindO (F 28 [v12] h) fun pv86 =>
  J23_13 F M L3 v0 v1 v4 v6 v8 v9 v12 v38 pv86.1 pv86.2) (
  J23_13 F M L3 v0 v1 v4 v6 v8 v9 v12 v38 (.bool false) h))) (
  J23_13 F M L3 v0 v1 v4 v6 v8 v9 v12 v38 (.bool false) h)
theorem J23_14_ok (F : CallH) (M : Nat) (L3 : Value → Value → Value → Value → Value → Value → Value → AH → Res) : ∀ r h, kcode Tryd.prog F 117 M (Code.sub [true, true, true, true, true, true, false, true, false, false, true, true, false, true, true, true, false, true, false, true, true, true, true, true, false, false] (bodyOf Tryd.prog 23)) r h (KX (fun r h => J23_7 F M L3 (r 0) (r 1) (r 4) (r 6) (r 8) (r 9) (r 12) (r 38) h) (exitsOf [(2, (fun r h => J23_4 F M L3 (r 0) (r 1) (r 4) (r 6) (r 8) (r 9) (r 13) (r 38) h)), (1, (fun r h => L3 (r 0) (r 1) (r 4) (r 6) (r 8) (r 9) (r 38) h)), (0, (fun r h => J23_1 F M (r 4) (r 8) h))]) (fun r h => E23 (r 4) (r 5) h)) = J23_14 F M L3 (r 0) (r 1) (r 4) (r 6) (r 8) (r 9) (r 12) (r 38) h :=
  seq_pt (a := (Code.sub [true, true, true, true, true, true, false, true, false, false, true, true, false, true, true, true, false, true, false, true, true, true, true, true, false, false, false] (bodyOf Tryd.prog 23))) (b := (Code.sub [true, true, true, true, true, true, false, true, false, false, true, true, false, true, true, true, false, true, false, true, true, true, true, true, false, false, true] (bodyOf Tryd.prog 23))) (T := (fun r h => J23_14 F M L3 (r 0) (r 1) (r 4) (r 6) (r 8) (r 9) (r 12) (r 38) h)) (g := (fun r h => J23_13 F M L3 (r 0) (r 1) (r 4) (r 6) (r 8) (r 9) (r 12) (r 38) (r 87) h)) (by kernel_rfl) (J23_13_ok F M L3) (fun r h => by kernel_rfl)
theorem J23_15_ok (F : CallH) (M : Nat) (L3 : Value → Value → Value → Value → Value → Value → Value → AH → Res) : ∀ r h, kcode Tryd.prog F 117 M (Code.sub [true, true, true, true, true, true, false, true, false, false, true, true, false, true, true, true, false, true, false, true, true, true, true, true, false] (bodyOf Tryd.prog 23)) r h (KX (fun r h => J23_4 F M L3 (r 0) (r 1) (r 4) (r 6) (r 8) (r 9) (r 13) (r 38) h) (exitsOf [(2, (fun r h => J23_4 F M L3 (r 0) (r 1) (r 4) (r 6) (r 8) (r 9) (r 13) (r 38) h)), (1, (fun r h => L3 (r 0) (r 1) (r 4) (r 6) (r 8) (r 9) (r 38) h)), (0, (fun r h => J23_1 F M (r 4) (r 8) h))]) (fun r h => E23 (r 4) (r 5) h)) = J23_14 F M L3 (r 0) (r 1) (r 4) (r 6) (r 8) (r 9) (r 12) (r 38) h :=
  seq_pt (a := (Code.sub [true, true, true, true, true, true, false, true, false, false, true, true, false, true, true, true, false, true, false, true, true, true, true, true, false, false] (bodyOf Tryd.prog 23))) (b := (Code.sub [true, true, true, true, true, true, false, true, false, false, true, true, false, true, true, true, false, true, false, true, true, true, true, true, false, true] (bodyOf Tryd.prog 23))) (T := (fun r h => J23_14 F M L3 (r 0) (r 1) (r 4) (r 6) (r 8) (r 9) (r 12) (r 38) h)) (g := (fun r h => J23_7 F M L3 (r 0) (r 1) (r 4) (r 6) (r 8) (r 9) (r 12) (r 38) h)) (by kernel_rfl) (J23_7_ok F M L3) (J23_14_ok F M L3)
noncomputable def J23_16 (F : CallH) (M : Nat) (L3 : Value → Value → Value → Value → Value → Value → Value → AH → Res) (v0 : Value) (v1 : Value) (v4 : Value) (v6 : Value) (v8 : Value) (v9 : Value) (v11 : Value) (v12 : Value) (v38 : Value) (h : AH) : Res :=
  withH (bump h 12) fun h18 =>
  bindO (xia 1 v9 (.int .i64 0)) fun v51 =>
  bindO (ld1 h18 v51) fun v52 =>
  bindO (F 37 [v12, v11] h18) fun pv55 =>
  bindO (xext 0 pv55.1) fun v56 =>
  bindO (xext 1 pv55.1) fun v57 =>
  bindO (xnil v52) fun v58 =>
  bindO (xst 1 pv55.2 v58 v56) fun h20 =>
  andO (rdok (ld1 pv55.2 v51) v52) <|
  bindO (xsl 1 h20 v9 (some (.int .i64 1)) none none) fun v60 =>
  J23_4 F M L3 v0 v1 v4 v6 v8 v60 v57 v38 h20
theorem J23_16_ok (F : CallH) (M : Nat) (L3 : Value → Value → Value → Value → Value → Value → Value → AH → Res) : ∀ r h, kcode Tryd.prog F 117 M (Code.sub [true, true, true, true, true, true, false, true, false, false, true, true, false, true, true, true, false, true, false, true, true, true, true, true, true] (bodyOf Tryd.prog 23)) r h (KX (fun r h => J23_4 F M L3 (r 0) (r 1) (r 4) (r 6) (r 8) (r 9) (r 13) (r 38) h) (exitsOf [(2, (fun r h => J23_4 F M L3 (r 0) (r 1) (r 4) (r 6) (r 8) (r 9) (r 13) (r 38) h)), (1, (fun r h => L3 (r 0) (r 1) (r 4) (r 6) (r 8) (r 9) (r 38) h)), (0, (fun r h => J23_1 F M (r 4) (r 8) h))]) (fun r h => E23 (r 4) (r 5) h)) = J23_16 F M L3 (r 0) (r 1) (r 4) (r 6) (r 8) (r 9) (r 11) (r 12) (r 38) h := fun r h => by kernel_rfl
noncomputable def J23_17 (F : CallH) (M : Nat) (L3 : Value → Value → Value → Value → Value → Value → Value → AH → Res) (v0 : Value) (v1 : Value) (v4 : Value) (v6 : Value) (v8 : Value) (v9 : Value) (v11 : Value) (v12 : Value) (v38 : Value) (v72 : Value) (h : AH) : Res :=
  condO v72 (J23_14 F M L3 v0 v1 v4 v6 v8 v9 v12 v38 h) (J23_16 F M L3 v0 v1 v4 v6 v8 v9 v11 v12 v38 h)
theorem J23_17_ok (F : CallH) (M : Nat) (L3 : Value → Value → Value → Value → Value → Value → Value → AH → Res) : ∀ r h, kcode Tryd.prog F 117 M (Code.sub [true, true, true, true, true, true, false, true, false, false, true, true, false, true, true, true, false, true, false, true, true, true, true, true] (bodyOf Tryd.prog 23)) r h (KX (fun r h => J23_4 F M L3 (r 0) (r 1) (r 4) (r 6) (r 8) (r 9) (r 13) (r 38) h) (exitsOf [(2, (fun r h => J23_4 F M L3 (r 0) (r 1) (r 4) (r 6) (r 8) (r 9) (r 13) (r 38) h)), (1, (fun r h => L3 (r 0) (r 1) (r 4) (r 6) (r 8) (r 9) (r 38) h)), (0, (fun r h => J23_1 F M (r 4) (r 8) h))]) (fun r h => E23 (r 4) (r 5) h)) = J23_17 F M L3 (r 0) (r 1) (r 4) (r 6) (r 8) (r 9) (r 11) (r 12) (r 38) (r 72) h :=
  fun r h => (cond_pt (a := (Code.sub [true, true, true, true, true, true, false, true, false, false, true, true, false, true, true, true, false, true, false, true, true, true, true, true, false] (bodyOf Tryd.prog 23))) (b := (Code.sub [true, true, true, true, true, true, false, true, false, false, true, true, false, true, true, true, false, true, false, true, true, true, true, true, true] (bodyOf Tryd.prog 23))) (A := (fun r h => J23_14 F M L3 (r 0) (r 1) (r 4) (r 6) (r 8) (r 9) (r 12) (r 38) h)) (B := (fun r h => J23_16 F M L3 (r 0) (r 1) (r 4) (r 6) (r 8) (r 9) (r 11) (r 12) (r 38) h)) (y := .tmp 72) (by kernel_rfl) (J23_15_ok F M L3) (J23_16_ok F M L3) r h).trans (by kernel_rfl)
noncomputable def J23_18 (F : CallH) (M : Nat) (L3 : Value → Value → Value → Value → Value → Value → Value → AH → Res) (v0 : Value) (v1 : Value) (v4 : Value) (v6 : Value) (v8 : Value) (v9 : Value) (v11 : Value) (v12 : Value) (v38 : Value) (v48 : Value) (h : AH) : Res :=
  bindO (ibin .eql v48 (.int .i32 110)) fun v73 =>
  J23_17 F M L3 v0 v1 v4 v6 v8 v9 v11 v12 v38 v73 h
theorem J23_18_ok (F : CallH) (M : Nat) (L3 : Value → Value → Value → Value → Value → Value → Value → AH → Res) : ∀ r h, kcode Tryd.prog F 117 M (Code.sub [true, true, true, true, true, true, false, true, false, false, true, true, false, true, true, true, false, true, false, true, true, true, true] (bodyOf Tryd.prog 23)) r h (KX (fun r h => J23_4 F M L3 (r 0) (r 1) (r 4) (r 6) (r 8) (r 9) (r 13) (r 38) h) (exitsOf [(2, (fun r h => J23_4 F M L3 (r 0) (r 1) (r 4) (r 6) (r 8) (r 9) (r 13) (r 38) h)), (1, (fun r h => L3 (r 0) (r 1) (r 4) (r 6) (r 8) (r 9) (r 38) h)), (0, (fun r h => J23_1 F M (r 4) (r 8) h))]) (fun r h => E23 (r 4) (r 5) h)) = J23_18 F M L3 (r 0) (r 1) (r 4) (r 6) (r 8) (r 9) (r 11) (r 12) (r 38) (r 48) h :=
  seq_pt (a := (Code.sub [true, true, true, true, true, true, false, true, false, false, true, true, false, true, true, true, false, true, false, true, true, true, true, false] (bodyOf Tryd.prog 23))) (b := (Code.sub [true, true, true, true, true, true, false, true, false, false, true, true, false, true, true, true, false, true, false, true, true, true, true, true] (bodyOf Tryd.prog 23))) (T := (fun r h => J23_18 F M L3 (r 0) (r 1) (r 4) (r 6) (r 8) (r 9) (r 11) (r 12) (r 38) (r 48) h)) (g := (fun r h => J23_17 F M L3 (r 0) (r 1) (r 4) (r 6) (r 8) (r 9) (r 11) (r 12) (r 38) (r 72) h)) (by kernel_rfl) (J23_17_ok F M L3) (fun r h => by kernel_rfl)
noncomputable def J23_19 (F : CallH) (M : Nat) (L3 : Value → Value → Value → Value → Value → Value → Value → AH → Res) (v0 : Value) (v1 : Value) (v4 : Value) (v6 : Value) (v8 : Value) (v9 : Value) (v11 : Value) (v12 : Value) (v13 : Value) (v38 : Value) (v48 : Value) (v66 : Value) (h : AH) : Res :=
  condO v66 (J23_6 F M L3 v0 v1 v4 v6 v8 v9 v12 v13 v38 h) (J23_18 F M L3 v0 v1 v4 v6 v8 v9 v11 v12 v38 v48 h)
theorem J23_19_ok (F : CallH) (M : Nat) (L3 : Value → Value → Value → Value → Value → Value → Value → AH → Res) : ∀ r h, kcode Tryd.prog F 117 M (Code.sub [true, true, true, true, true, true, false, true, false, false, true, true, false, true, true, true, false, true, false, true, true, true] (bodyOf Tryd.prog 23)) r h (KX (fun r h => J23_4 F M L3 (r 0) (r 1) (r 4) (r 6) (r 8) (r 9) (r 13) (r 38) h) (exitsOf [(2, (fun r h => J23_4 F M L3 (r 0) (r 1) (r 4) (r 6) (r 8) (r 9) (r 13) (r 38) h)), (1, (fun r h => L3 (r 0) (r 1) (r 4) (r 6) (r 8) (r 9) (r 38) h)), (0, (fun r h => J23_1 F M (r 4) (r 8) h))]) (fun r h => E23 (r 4) (r 5) h)) = J23_19 F M L3 (r 0) (r 1) (r 4) (r 6) (r 8) (r 9) (r 11) (r 12) (r 13) (r 38) (r 48) (r 66) h :=
  fun r h => (cond_pt (a := (Code.sub [true, true, true, true, true, true, false, true, false, false, true, true, false, true, true, true, false, true, false, true, true, true, false] (bodyOf Tryd.prog 23))) (b := (Code.sub [true, true, true, true, true, true, false, true, false, false, true, true, false, true, true, true, false, true, false, true, true, true, true] (bodyOf Tryd.prog 23))) (A := (fun r h => J23_6 F M L3 (r 0) (r 1) (r 4) (r 6) (r 8) (r 9) (r 12) (r 13) (r 38) h)) (B := (fun r h => J23_18 F M L3 (r 0) (r 1) (r 4) (r 6) (r 8) (r 9) (r 11) (r 12) (r 38) (r 48) h)) (y := .tmp 66) (by kernel_rfl) (J23_6_ok F M L3) (J23_18_ok F M L3) r h).trans (by kernel_rfl)
noncomputable def J23_20 (F : CallH) (M : Nat) (L3 : Value → Value → Value → Value → Value → Value → Value → AH → Res) (v0 : Value) (v1 : Value) (v4 : Value) (v6 : Value) (v8 : Value) (v9 : Value) (v11 : Value) (v12 : Value) (v13 : Value) (v38 : Value) (v48 : Value) (h : AH) : Res :=
  bindO (ibin .eql v48 (.int .i32 104)) fun v67 =>
  J23_19 F M L3 v0 v1 v4 v6 v8 v9 v11 v12 v13 v38 v48 v67 h
theorem J23_20_ok (F : CallH) (M : Nat) (L3 : Value → Value → Value → Value → Value → Value → Value → AH → Res) : ∀ r h, kcode Tryd.prog F 117 M (Code.sub [true, true, true, true, true, true, false, true, false, false, true, true, false, true, true, true, false, true, false, true, true] (bodyOf Tryd.prog 23)) r h (KX (fun r h => J23_4 F M L3 (r 0) (r 1) (r 4) (r 6) (r 8) (r 9) (r 13) (r 38) h) (exitsOf [(2, (fun r h => J23_4 F M L3 (r 0) (r 1) (r 4) (r 6) (r 8) (r 9) (r 13) (r 38) h)), (1, (fun r h => L3 (r 0) (r 1) (r 4) (r 6) (r 8) (r 9) (r 38) h)), (0, (fun r h => J23_1 F M (r 4) (r 8) h))]) (fun r h => E23 (r 4) (r 5) h)) = J23_20 F M L3 (r 0) (r 1) (r 4) (r 6) (r 8) (r 9) (r 11) (r 12) (r 13) (r 38) (r 48) h :=
  seq_pt (a := (Code.sub [true, true, true, true, true, true, false, true, false, false, true, true, false, true, true, true, false, true, false, true, true, false] (bodyOf Tryd.prog 23))) (b := (Code.sub [true, true, true, true, true, true, false, true, false, false, true, true, false, true, true, true, false, true, false, true, true, true] (bodyOf Tryd.prog 23))) (T := (fun r h => J23_20 F M L3 (r 0) (r 1) (r 4) (r 6) (r 8) (r 9) (r 11) (r 12) (r 13) (r 38) (r 48) h)) (g := (fun r h => J23_19 F M L3 (r 0) (r 1) (r 4) (r 6) (r 8) (r 9) (r 11) (r 12) (r 13) (r 38) (r 48) (r 66) h)) (by kernel_rfl) (J23_19_ok F M L3) (fun r h => by kernel_rfl)
noncomputable def J23_21 (F : CallH) (M : Nat) (L3 : Value → Value → Value → Value → Value → Value → Value → AH → Res) (v0 : Value) (v1 : Value) (v4 : Value) (v6 : Value) (v8 : Value) (v9 : Value) (v11 : Value) (v12 : Value) (v13 : Value) (v38 : Value) (v48 : Value) (v61 : Value) (h : AH) : Res :=
  condO v61 (J23_5 F M L3 v0 v1 v4 v6 v8 v9 v12 v13 v38 h) (J23_20 F M L3 v0 v1 v4 v6 v8 v9 v11 v12 v13 v38 v48 h)
theorem J23_21_ok (F : CallH) (M : Nat) (L3 : Value → Value → Value → Value → Value → Value → Value → AH → Res) : ∀ r h, kcode Tryd.prog F 117 M (Code.sub [true, true, true, true, true, true, false, true, false, false, true, true, false, true, true, true, false, true, false, true] (bodyOf Tryd.prog 23)) r h (KX (fun r h => J23_4 F M L3 (r 0) (r 1) (r 4) (r 6) (r 8) (r 9) (r 13) (r 38) h) (exitsOf [(2, (fun r h => J23_4 F M L3 (r 0) (r 1) (r 4) (r 6) (r 8) (r 9) (r 13) (r 38) h)), (1, (fun r h => L3 (r 0) (r 1) (r 4) (r 6) (r 8) (r 9) (r 38) h)), (0, (fun r h => J23_1 F M (r 4) (r 8) h))]) (fun r h => E23 (r 4) (r 5) h)) = J23_21 F M L3 (r 0) (r 1) (r 4) (r 6) (r 8) (r 9) (r 11) (r 12) (r 13) (r 38) (r 48) (r 61) h :=
  fun r h => (cond_pt (a := (Code.sub [true, true, true, true, true, true, false, true, false, false, true, true, false, true, true, true, false, true, false, true, false] (bodyOf Tryd.prog 23))) (b := (Code.sub [true, true, true, true, true, true, false, true, false, false, true, true, false, true, true, true, false, true, false, true, true] (bodyOf Tryd.prog 23))) (A := (fun r h => J23_5 F M L3 (r 0) (r 1) (r 4) (r 6) (r 8) (r 9) (r 12) (r 13) (r 38) h)) (B := (fun r h => J23_20 F M L3 (r 0) (r 1) (r 4) (r 6) (r 8) (r 9) (r 11) (r 12) (r 13) (r 38) (r 48) h)) (y := .tmp 61) (by kernel_rfl) (J23_5_ok F M L3) (J23_20_ok F M L3) r h).trans (by kernel_rfl)
noncomputable def J23_22 (F : CallH) (M : Nat) (L3 : Value → Value → Value → Value → Value → Value → Value → AH → Res) (v0 : Value) (v1 : Value) (v4 : Value) (v6 : Value) (v8 : Value) (v9 : Value) (v11 : Value) (v12 : Value) (v13 : Value) (v38 : Value) (v48 : Value) (h : AH) : Res :=
  bindO (ibin .eql v48 (.int .i32 111)) fun v62 =>
  J23_21 F M L3 v0 v1 v4 v6 v8 v9 v11 v12 v13 v38 v48 v62 h
theorem J23_22_ok (F : CallH) (M : Nat) (L3 : Value → Value → Value → Value → Value → Value → Value → AH → Res) : ∀ r h, kcode Tryd.prog F 117 M (Code.sub [true, true, true, true, true, true, false, true, false, false, true, true, false, true, true, true, false, true, false] (bodyOf Tryd.prog 23)) r h (KX (fun r h => J23_4 F M L3 (r 0) (r 1) (r 4) (r 6) (r 8) (r 9) (r 13) (r 38) h) (exitsOf [(2, (fun r h => J23_4 F M L3 (r 0) (r 1) (r 4) (r 6) (r 8) (r 9) (r 13) (r 38) h)), (1, (fun r h => L3 (r 0) (r 1) (r 4) (r 6) (r 8) (r 9) (r 38) h)), (0, (fun r h => J23_1 F M (r 4) (r 8) h))]) (fun r h => E23 (r 4) (r 5) h)) = J23_22 F M L3 (r 0) (r 1) (r 4) (r 6) (r 8) (r 9) (r 11) (r 12) (r 13) (r 38) (r 48) h :=
  seq_pt (a := (Code.sub [true, true, true, true, true, true, false, true, false, false, true, true, false, true, true, true, false, true, false, false] (bodyOf Tryd.prog 23))) (b := (Code.sub [true, true, true, true, true, true, false, true, false, false, true, true, false, true, true, true, false, true, false, true] (bodyOf Tryd.prog 23))) (T := (fun r h => J23_22 F M L3 (r 0) (r 1) (r 4) (r 6) (r 8) (r 9) (r 11) (r 12) (r 13) (r 38) (r 48) h)) (g := (fun r h => J23_21 F M L3 (r 0) (r 1) (r 4) (r 6) (r 8) (r 9) (r 11) (r 12) (r 13) (r 38) (r 48) (r 61) h)) (by kernel_rfl) (J23_21_ok F M L3) (fun r h => by kernel_rfl)
theorem J23_23_ok (F : CallH) (M : Nat) (L3 : Value → Value → Value → Value → Value → Value → Value → AH → Res) : ∀ r h, kcode Tryd.prog F 117 M (Code.sub [true, true, true, true, true, true, false, true, false, false, true, true, false, true, true, true, false, true] (bodyOf Tryd.prog 23)) r h (KX (fun r h => J23_4 F M L3 (r 0) (r 1) (r 4) (r 6) (r 8) (r 9) (r 13) (r 38) h) (exitsOf [(1, (fun r h => L3 (r 0) (r 1) (r 4) (r 6) (r 8) (r 9) (r 38) h)), (0, (fun r h => J23_1 F M (r 4) (r 8) h))]) (fun r h => E23 (r 4) (r 5) h)) = J23_22 F M L3 (r 0) (r 1) (r 4) (r 6) (r 8) (r 9) (r 11) (r 12) (r 13) (r 38) (r 48) h :=
  block_pt (b := (Code.sub [true, true, true, true, true, true, false, true, false, false, true, true, false, true, true, true, false, true, false] (bodyOf Tryd.prog 23))) (T := (fun r h => J23_22 F M L3 (r 0) (r 1) (r 4) (r 6) (r 8) (r 9) (r 11) (r 12) (r 13) (r 38) (r 48) h)) (id := 2) (by kernel_rfl) (J23_22_ok F M L3)
noncomputable def J23_24 (F : CallH) (M : Nat) (L3 : Value → Value → Value → Value → Value → Value → Value → AH → Res) (v0 : Value) (v1 : Value) (v4 : Value) (v6 : Value) (v8 : Value) (v9 : Value) (v11 : Value) (v12 : Value) (v13 : Value) (v38 : Value) (h : AH) : Res :=
  J23_22 F M L3 v0 v1 v4 v6 v8 v9 v11 v12 v13 v38 v11 h
theorem J23_24_ok (F : CallH) (M : Nat) (L3 : Value → Value → Value → Value → Value → Value → Value → AH → Res) : ∀ r h, kcode Tryd.prog F 117 M (Code.sub [true, true, true, true, true, true, false, true, false, false, true, true, false, true, true, true, false] (bodyOf Tryd.prog 23)) r h (KX (fun r h => J23_4 F M L3 (r 0) (r 1) (r 4) (r 6) (r 8) (r 9) (r 13) (r 38) h) (exitsOf [(1, (fun r h => L3 (r 0) (r 1) (r 4) (r 6) (r 8) (r 9) (r 38) h)), (0, (fun r h => J23_1 F M (r 4) (r 8) h))]) (fun r h => E23 (r 4) (r 5) h)) = J23_24 F M L3 (r 0) (r 1) (r 4) (r 6) (r 8) (r 9) (r 11) (r 12) (r 13) (r 38) h :=
  seq_pt (a := (Code.sub [true, true, true, true, true, true, false, true, false, false, true, true, false, true, true, true, false, false] (bodyOf Tryd.prog 23))) (b := (Code.sub [true, true, true, true, true, true, false, true, false, false, true, true, false, true, true, true, false, true] (bodyOf Tryd.prog 23))) (T := (fun r h => J23_24 F M L3 (r 0) (r 1) (r 4) (r 6) (r 8) (r 9) (r 11) (r 12) (r 13) (r 38) h)) (g := (fun r h => J23_22 F M L3 (r 0) (r 1) (r 4) (r 6) (r 8) (r 9) (r 11) (r 12) (r 13) (r 38) (r 48) h)) (by kernel_rfl) (J23_23_ok F M L3) (fun r h => by kernel_rfl)
theorem J23_25_ok (F : CallH) (M : Nat) (L3 : Value → Value → Value → Value → Value → Value → Value → AH → Res) : ∀ r h, kcode Tryd.prog F 117 M (Code.sub [true, true, true, true, true, true, false, true, false, false, true, true, false, true, true, true] (bodyOf Tryd.prog 23)) r h (KX (fun r h => L3 (r 0) (r 1) (r 4) (r 6) (r 8) (r 9) (r 38) h) (exitsOf [(1, (fun r h => L3 (r 0) (r 1) (r 4) (r 6) (r 8) (r 9) (r 38) h)), (0, (fun r h => J23_1 F M (r 4) (r 8) h))]) (fun r h => E23 (r 4) (r 5) h)) = J23_24 F M L3 (r 0) (r 1) (r 4) (r 6) (r 8) (r 9) (r 11) (r 12) (r 13) (r 38) h :=
  seq_pt (a := (Code.sub [true, true, true, true, true, true, false, true, false, false, true, true, false, true, true, true, false] (bodyOf Tryd.prog 23))) (b := (Code.sub [true, true, true, true, true, true, false, true, false, false, true, true, false, true, true, true, true] (bodyOf Tryd.prog 23))) (T := (fun r h => J23_24 F M L3 (r 0) (r 1) (r 4) (r 6) (r 8) (r 9) (r 11) (r 12) (r 13) (r 38) h)) (g := (fun r h => J23_4 F M L3 (r 0) (r 1) (r 4) (r 6) (r 8) (r 9) (r 13) (r 38) h)) (by kernel_rfl) (J23_4_ok F M L3) (J23_24_ok F M L3)
noncomputable def J23_26 (F : CallH) (M : Nat) (L3 : Value → Value → Value → Value → Value → Value → Value → AH → Res) (v0 : Value) (v1 : Value) (v4 : Value) (v6 : Value) (v8 : Value) (v9 : Value) (v11 : Value) (v12 : Value) (v38 : Value) (h : AH) : Res :=
  J23_24 F M L3 v0 v1 v4 v6 v8 v9 v11 v12 (.bool true) v38 h
theorem J23_26_ok (F : CallH) (M : Nat) (L3 : Value → Value → Value → Value → Value → Value → Value → AH → Res) : ∀ r h, kcode Tryd.prog F 117 M (Code.sub [true, true, true, true, true, true, false, true, false, false, true, true, false, true, true] (bodyOf Tryd.prog 23)) r h (KX (fun r h => L3 (r 0) (r 1) (r 4) (r 6) (r 8) (r 9) (r 38) h) (exitsOf [(1, (fun r h => L3 (r 0) (r 1) (r 4) (r 6) (r 8) (r 9) (r 38) h)), (0, (fun r h => J23_1 F M (r 4) (r 8) h))]) (fun r h => E23 (r 4) (r 5) h)) = J23_26 F M L3 (r 0) (r 1) (r 4) (r 6) (r 8) (r 9) (r 11) (r 12) (r 38) h :=
  seq_pt (a := (Code.sub [true, true, true, true, true, true, false, true, false, false, true, true, false, true, true, false] (bodyOf Tryd.prog 23))) (b := (Code.sub [true, true, true, true, true, true, false, true, false, false, true, true, false, true, true, true] (bodyOf Tryd.prog 23))) (T := (fun r h => J23_26 F M L3 (r 0) (r 1) (r 4) (r 6) (r 8) (r 9) (r 11) (r 12) (r 38) h)) (g := (fun r h => J23_24 F M L3 (r 0) (r 1) (r 4) (r 6) (r 8) (r 9) (r 11) (r 12) (r 13) (r 38) h)) (by kernel_rfl) (J23_25_ok F M L3) (fun r h => by kernel_rfl)
noncomputable def J23_27 (F : CallH) (M : Nat) (L3 : Value → Value → Value → Value → Value → Value → Value → AH → Res) (v0 : Value) (v1 : Value) (v4 : Value) (v6 : Value) (v8 : Value) (v9 : Value) (v10 : Value) (v11 : Value) (v38 : Value) (h : AH) : Res :=
  bindO (ibin .add v10 (.int .i64 1)) fun v45 =>
  bindO (xia 1 v0 v45) fun v46 =>
  bindO (ld1 h v46) fun v47 =>
  J23_26 F M L3 v0 v1 v4 v6 v8 v9 v11 v47 v38 h
theorem J23_27_ok (F : CallH) (M : Nat) (L3 : Value → Value → Value → Value → Value → Value → Value → AH → Res) : ∀ r h, kcode Tryd.prog F 117 M (Code.sub [true, true, true, true, true, true, false, true, false, false, true, true, false, true] (bodyOf Tryd.prog 23)) r h (KX (fun r h => L3 (r 0) (r 1) (r 4) (r 6) (r 8) (r 9) (r 38) h) (exitsOf [(1, (fun r h => L3 (r 0) (r 1) (r 4) (r 6) (r 8) (r 9) (r 38) h)), (0, (fun r h => J23_1 F M (r 4) (r 8) h))]) (fun r h => E23 (r 4) (r 5) h)) = J23_27 F M L3 (r 0) (r 1) (r 4) (r 6) (r 8) (r 9) (r 10) (r 11) (r 38) h :=
  seq_pt (a := (Code.sub [true, true, true, true, true, true, false, true, false, false, true, true, false, true, false] (bodyOf Tryd.prog 23))) (b := (Code.sub [true, true, true, true, true, true, false, true, false, false, true, true, false, true, true] (bodyOf Tryd.prog 23))) (T := (fun r h => J23_27 F M L3 (r 0) (r 1) (r 4) (r 6) (r 8) (r 9) (r 10) (r 11) (r 38) h)) (g := (fun r h => J23_26 F M L3 (r 0) (r 1) (r 4) (r 6) (r 8) (r 9) (r 11) (r 12) (r 38) h)) (by kernel_rfl) (J23_26_ok F M L3) (fun r h => by kernel_rfl)
noncomputable def J23_28 (F : CallH) (M : Nat) (L3 : Value → Value → Value → Value → Value → Value → Value → AH → Res) (v0 : Value) (v1 : Value) (v4 : Value) (v6 : Value) (v8 : Value) (v9 : Value) (v38 : Value) (v39 : Value) (h : AH) : Res :=
  bindO (xext 1 v39) fun v41 =>
  bindO (xext 2 v39) fun v42 =>
  J23_27 F M L3 v0 v1 v4 v6 v8 v9 v41 v42 v38 h
theorem J23_28_ok (F : CallH) (M : Nat) (L3 : Value → Value → Value → Value → Value → Value → Value → AH → Res) : ∀ r h, kcode Tryd.prog F 117 M (Code.sub [true, true, true, true, true, true, false, true, false, false, true, true, false] (bodyOf Tryd.prog 23)) r h (KX (fun r h => L3 (r 0) (r 1) (r 4) (r 6) (r 8) (r 9) (r 38) h) (exitsOf [(1, (fun r h => L3 (r 0) (r 1) (r 4) (r 6) (r 8) (r 9) (r 38) h)), (0, (fun r h => J23_1 F M (r 4) (r 8) h))]) (fun r h => E23 (r 4) (r 5) h)) = J23_28 F M L3 (r 0) (r 1) (r 4) (r 6) (r 8) (r 9) (r 38) (r 39) h :=
  seq_pt (a := (Code.sub [true, true, true, true, true, true, false, true, false, false, true, true, false, false] (bodyOf Tryd.prog 23))) (b := (Code.sub [true, true, true, true, true, true, false, true, false, false, true, true, false, true] (bodyOf Tryd.prog 23))) (T := (fun r h => J23_28 F M L3 (r 0) (r 1) (r 4) (r 6) (r 8) (r 9) (r 38) (r 39) h)) (g := (fun r h => J23_27 F M L3 (r 0) (r 1) (r 4) (r 6) (r 8) (r 9) (r 10) (r 11) (r 38) h)) (by kernel_rfl) (J23_27_ok F M L3) (fun r h => by kernel_rfl)
theorem J23_29_ok (F : CallH) (M : Nat) (L3 : Value → Value → Value → Value → Value → Value → Value → AH → Res) : ∀ r h, kcode Tryd.prog F 117 M (Code.sub [true, true, true, true, true, true, false, true, false, false, true, true] (bodyOf Tryd.prog 23)) r h (KX (fun r h => L3 (r 0) (r 1) (r 4) (r 6) (r 8) (r 9) (r 38) h) (exitsOf [(0, (fun r h => J23_1 F M (r 4) (r 8) h))]) (fun r h => E23 (r 4) (r 5) h)) = J23_28 F M L3 (r 0) (r 1) (r 4) (r 6) (r 8) (r 9) (r 38) (r 39) h :=
  block_pt (b := (Code.sub [true, true, true, true, true, true, false, true, false, false, true, true, false] (bodyOf Tryd.prog 23))) (T := (fun r h => J23_28 F M L3 (r 0) (r 1) (r 4) (r 6) (r 8) (r 9) (r 38) (r 39) h)) (id := 1) (by kernel_rfl) (J23_28_ok F M L3)
noncomputable def J23_30 (F : CallH) (M : Nat) (L3 : Value → Value → Value → Value → Value → Value → Value → AH → Res) (v0 : Value) (v1 : Value) (v4 : Value) (v6 : Value) (v8 : Value) (v9 : Value) (v38 : Value) (v39 : Value) (v40 : Value) (h : AH) : Res :=
  condO v40 (
  J23_28 F M L3 v0 v1 v4 v6 v8 v9 v38 v39 h) (
  J23_1 F M v4 v8 h)
theorem J23_30_ok (F : CallH) (M : Nat) (L3 : Value → Value → Value → Value → Value → Value → Value → AH → Res) : ∀ r h, kcode Tryd.prog F 117 M (Code.sub [true, true, true, true, true, true, false, true, false, false, true, false] (bodyOf Tryd.prog 23)) r h (KX (fun r h => J23_28 F M L3 (r 0) (r 1) (r 4) (r 6) (r 8) (r 9) (r 38) (r 39) h) (exitsOf [(0, (fun r h => J23_1 F M (r 4) (r 8) h))]) (fun r h => E23 (r 4) (r 5) h)) = J23_30 F M L3 (r 0) (r 1) (r 4) (r 6) (r 8) (r 9) (r 38) (r 39) (r 40) h := fun r h => by kernel_rfl
theorem J23_31_ok (F : CallH) (M : Nat) (L3 : Value → Value → Value → Value → Value → Value → Value → AH → Res) : ∀ r h, kcode Tryd.prog F 117 M (Code.sub [true, true, true, true, true, true, false, true, false, false, true] (bodyOf Tryd.prog 23)) r h (KX (fun r h => L3 (r 0) (r 1) (r 4) (r 6) (r 8) (r 9) (r 38) h) (exitsOf [(0, (fun r h => J23_1 F M (r 4) (r 8) h))]) (fun r h => E23 (r 4) (r 5) h)) = J23_30 F M L3 (r 0) (r 1) (r 4) (r 6) (r 8) (r 9) (r 38) (r 39) (r 40) h :=
  seq_pt (a := (Code.sub [true, true, true, true, true, true, false, true, false, false, true, false] (bodyOf Tryd.prog 23))) (b := (Code.sub [true, true, true, true, true, true, false, true, false, false, true, true] (bodyOf Tryd.prog 23))) (T := (fun r h => J23_30 F M L3 (r 0) (r 1) (r 4) (r 6) (r 8) (r 9) (r 38) (r 39) (r 40) h)) (g := (fun r h => J23_28 F M L3 (r 0) (r 1) (r 4) (r 6) (r 8) (r 9) (r 38) (r 39) h)) (by kernel_rfl) (J23_29_ok F M L3) (J23_30_ok F M L3)
noncomputable def J23_32 (F : CallH) (M : Nat) (L3 : Value → Value → Value → Value → Value → Value → Value → AH → Res) (v0 : Value) (v1 : Value) (v4 : Value) (v6 : Value) (v8 : Value) (v9 : Value) (v38 : Value) (h : AH) : Res :=
  bindO (xnext v38 h) fun pv39 =>
  bindO (xext 0 pv39.1) fun v40 =>
  J23_30 F M L3 v0 v1 v4 v6 v8 v9 v38 pv39.1 v40 pv39.2
theorem J23_32_ok (F : CallH) (M : Nat) (L3 : Value → Value → Value → Value → Value → Value → Value → AH → Res) : ∀ r h, kcode Tryd.prog F 117 M (Code.sub [true, true, true, true, true, true, false, true, false, false] (bodyOf Tryd.prog 23)) r h (KX (fun r h => L3 (r 0) (r 1) (r 4) (r 6) (r 8) (r 9) (r 38) h) (exitsOf [(0, (fun r h => J23_1 F M (r 4) (r 8) h))]) (fun r h => E23 (r 4) (r 5) h)) = J23_32 F M L3 (r 0) (r 1) (r 4) (r 6) (r 8) (r 9) (r 38) h :=
  seq_pt (a := (Code.sub [true, true, true, true, true, true, false, true, false, false, false] (bodyOf Tryd.prog 23))) (b := (Code.sub [true, true, true, true, true, true, false, true, false, false, true] (bodyOf Tryd.prog 23))) (T := (fun r h => J23_32 F M L3 (r 0) (r 1) (r 4) (r 6) (r 8) (r 9) (r 38) h)) (g := (fun r h => J23_30 F M L3 (r 0) (r 1) (r 4) (r 6) (r 8) (r 9) (r 38) (r 39) (r 40) h)) (by kernel_rfl) (J23_31_ok F M L3) (fun r h => by kernel_rfl)
noncomputable def L23_3 (F : CallH) (M : Nat) : Nat → Value → Value → Value → Value → Value → Value → Value → AH → Res
  | 0, _, _, _, _, _, _, _, _ => none
  | m + 1, v0, v1, v4, v6, v8, v9, v38, h => J23_32 F M (L23_3 F M m) v0 v1 v4 v6 v8 v9 v38 h
theorem L23_3_ok (F : CallH) (M : Nat) : ∀ r h, kcode Tryd.prog F 117 M (Code.sub [true, true, true, true, true, true, false, true, false] (bodyOf Tryd.prog 23)) r h (KX (fun r h => J23_1 F M (r 4) (r 8) h) (exitsOf [(0, (fun r h => J23_1 F M (r 4) (r 8) h))]) (fun r h => E23 (r 4) (r 5) h)) = L23_3 F M M (r 0) (r 1) (r 4) (r 6) (r 8) (r 9) (r 38) h :=
  loop_pt (b := (Code.sub [true, true, true, true, true, true, false, true, false, false] (bodyOf Tryd.prog 23))) (by kernel_rfl) (fun m r h => L23_3 F M m (r 0) (r 1) (r 4) (r 6) (r 8) (r 9) (r 38) h) (fun _ _ => rfl) (fun m r h => ((J23_32_ok F M (L23_3 F M m)) r h).trans rfl)
theorem J23_33_ok (F : CallH) (M : Nat) : ∀ r h, kcode Tryd.prog F 117 M (Code.sub [true, true, true, true, true, true, false, true] (bodyOf Tryd.prog 23)) r h (KX (fun r h => J23_1 F M (r 4) (r 8) h) (exitsOf []) (fun r h => E23 (r 4) (r 5) h)) = L23_3 F M M (r 0) (r 1) (r 4) (r 6) (r 8) (r 9) (r 38) h :=
  block_pt (b := (Code.sub [true, true, true, true, true, true, false, true, false] (bodyOf Tryd.prog 23))) (T := (fun r h => L23_3 F M M (r 0) (r 1) (r 4) (r 6) (r 8) (r 9) (r 38) h)) (id := 0) (by kernel_rfl) (L23_3_ok F M)
noncomputable def J23_34 (F : CallH) (M : Nat) (v0 : Value) (v1 : Value) (v4 : Value) (v6 : Value) (v8 : Value) (v9 : Value) (h : AH) : Res :=
  bindO (F 33 [v6] h) fun pv37 =>
  bindO (xrange pv37.1 pv37.2) fun pv38 =>
  L23_3 F M M v0 v1 v4 v6 v8 v9 pv38.1 pv38.2
theorem J23_34_ok (F : CallH) (M : Nat) : ∀ r h, kcode Tryd.prog F 117 M (Code.sub [true, true, true, true, true, true, false] (bodyOf Tryd.prog 23)) r h (KX (fun r h => J23_1 F M (r 4) (r 8) h) (exitsOf []) (fun r h => E23 (r 4) (r 5) h)) = J23_34 F M (r 0) (r 1) (r 4) (r 6) (r 8) (r 9) h :=
  seq_pt (a := (Code.sub [true, true, true, true, true, true, false, false] (bodyOf Tryd.prog 23))) (b := (Code.sub [true, true, true, true, true, true, false, true] (bodyOf Tryd.prog 23))) (T := (fun r h => J23_34 F M (r 0) (r 1) (r 4) (r 6) (r 8) (r 9) h)) (g := (fun r h => L23_3 F M M (r 0) (r 1) (r 4) (r 6) (r 8) (r 9) (r 38) h)) (by kernel_rfl) (J23_33_ok F M) (fun r h => by kernel_rfl)
theorem J23_35_ok (F : CallH) (M : Nat) : ∀ r h, kcode Tryd.prog F 117 M (Code.sub [true, true, true, true, true, true] (bodyOf Tryd.prog 23)) r h (KX (fun r h => E23 (r 4) (r 5) h) (exitsOf []) (fun r h => E23 (r 4) (r 5) h)) = J23_34 F M (r 0) (r 1) (r 4) (r 6) (r 8) (r 9) h :=
  seq_pt (a := (Code.sub [true, true, true, true, true, true, false] (bodyOf Tryd.prog 23))) (b := (Code.sub [true, true, true, true, true, true, true] (bodyOf Tryd.prog 23))) (T := (fun r h => J23_34 F M (r 0) (r 1) (r 4) (r 6) (r 8) (r 9) h)) (g := (fun r h => J23_1 F M (r 4) (r 8) h)) (by kernel_rfl) (J23_2_ok F M) (J23_34_ok F M)
noncomputable def J23_36 (F : CallH) (M : Nat) (v0 : Value) (v1 : Value) (v4 : Value) (v6 : Value) (v8 : Value) (v9 : Value) (h : AH) : Res :=
  bindO (ibin .eql v6 (.int .i64 11)) fun v33 =>
  condO v33 (
  bindO (xsl 1 h v9 (some (.int .i64 1)) none none) fun v35 =>
  J23_34 F M v0 v1 v4 v6 v8 v35 h) (
  J23_34 F M v0 v1 v4 v6 v8 v9 h)
theorem J23_36_ok (F : CallH) (M : Nat) : ∀ r h, kcode Tryd.prog F 117 M (Code.sub [true, true, true, true, true, false] (bodyOf Tryd.prog 23)) r h (KX (fun r h => J23_34 F M (r 0) (r 1) (r 4) (r 6) (r 8) (r 9) h) (exitsOf []) (fun r h => E23 (r 4) (r 5) h)) = J23_36 F M (r 0) (r 1) (r 4) (r 6) (r 8) (r 9) h := fun r h => by kernel_rfl
theorem J23_37_ok (F : CallH) (M : Nat) : ∀ r h, kcode Tryd.prog F 117 M (Code.sub [true, true, true, true, true] (bodyOf Tryd.prog 23)) r h (KX (fun r h => E23 (r 4) (r 5) h) (exitsOf []) (fun r h => E23 (r 4) (r 5) h)) = J23_36 F M (r 0) (r 1) (r 4) (r 6) (r 8) (r 9) h :=
  seq_pt (a := (Code.sub [true, true, true, true, true, false] (bodyOf Tryd.prog 23))) (b := (Code.sub [true, true, true, true, true, true] (bodyOf Tryd.prog 23))) (T := (fun r h => J23_36 F M (r 0) (r 1) (r 4) (r 6) (r 8) (r 9) h)) (g := (fun r h => J23_34 F M (r 0) (r 1) (r 4) (r 6) (r 8) (r 9) h)) (by kernel_rfl) (J23_35_ok F M) (J23_36_ok F M)
noncomputable def J23_38 (F : CallH) (M : Nat) (v0 : Value) (v1 : Value) (v4 : Value) (v6 : Value) (v8 : Value) (h : AH) : Res :=
  bindO (xfa 1 v8) fun v28 =>
  bindO (xfa 2 v8) fun v29 =>
  bindO (xfa 3 v8) fun v30 =>
  bindO (xrow [(.pointer none), (.pointer none), (.pointer none)] [(0, 1, v28), (1, 1, v29), (2, 1, v30)]) fun v31 => newK h (.cells v31 1) fun iv31 h24 =>
  J23_36 F M v0 v1 v4 v6 v8 (slOf iv31 3 3) h24
theorem J23_38_ok (F : CallH) (M : Nat) : ∀ r h, kcode Tryd.prog F 117 M (Code.sub [true, true, true, true] (bodyOf Tryd.prog 23)) r h (KX (fun r h => E23 (r 4) (r 5) h) (exitsOf []) (fun r h => E23 (r 4) (r 5) h)) = J23_38 F M (r 0) (r 1) (r 4) (r 6) (r 8) h :=
  seq_pt (a := (Code.sub [true, true, true, true, false] (bodyOf Tryd.prog 23))) (b := (Code.sub [true, true, true, true, true] (bodyOf Tryd.prog 23))) (T := (fun r h => J23_38 F M (r 0) (r 1) (r 4) (r 6) (r 8) h)) (g := (fun r h => J23_36 F M (r 0) (r 1) (r 4) (r 6) (r 8) (r 9) h)) (by kernel_rfl) (J23_37_ok F M) (fun r h => by kernel_rfl)
noncomputable def J23_39 (F : CallH) (M : Nat) (v0 : Value) (v1 : Value) (v4 : Value) (v6 : Value) (h : AH) : Res :=
  bindO (xbuild [(.int .i64 0), (.int .i64 0), (.int .i64 0), (.int .i64 0), (.int .i64 0)] [(0, 1, v6)]) fun v27 =>
  newK h (.cells [(.int .i64 0), (.int .i64 0), (.int .i64 0), (.int .i64 0), (.int .i64 0)] 5) fun iv8 h25 =>
  bindO (xst 5 h25 (ptrTo iv8) v27) fun h26 =>
  J23_38 F M v0 v1 v4 v6 (ptrTo iv8) h26
theorem J23_39_ok (F : CallH) (M : Nat) : ∀ r h, kcode Tryd.prog F 117 M (Code.sub [true, true, true] (bodyOf Tryd.prog 23)) r h (KX (fun r h => E23 (r 4) (r 5) h) (exitsOf []) (fun r h => E23 (r 4) (r 5) h)) = J23_39 F M (r 0) (r 1) (r 4) (r 6) h :=
  seq_pt (a := (Code.sub [true, true, true, false] (bodyOf Tryd.prog 23))) (b := (Code.sub [true, true, true, true] (bodyOf Tryd.prog 23))) (T := (fun r h => J23_39 F M (r 0) (r 1) (r 4) (r 6) h)) (g := (fun r h => J23_38 F M (r 0) (r 1) (r 4) (r 6) (r 8) h)) (by kernel_rfl) (J23_38_ok F M) (fun r h => by kernel_rfl)
noncomputable def J23_40 (F : CallH) (M : Nat) (v0 : Value) (v1 : Value) (v4 : Value) (v6 : Value) (v7 : Value) (h : AH) : Res :=
  bindO (xnilI .neq v7) fun v23 =>
  condO v23 (
  bindO (xbuild [(.int .i64 0), (.int .i64 0), (.int .i64 0), (.int .i64 0), (.int .i64 0)] []) fun v24 =>
  bindO (xst 5 h v4 v24) fun h27 =>
  E23 v4 v7 h27) (
  J23_39 F M v0 v1 v4 v6 h)
theorem J23_40_ok (F : CallH) (M : Nat) : ∀ r h, kcode Tryd.prog F 117 M (Code.sub [true, true, false] (bodyOf Tryd.prog 23)) r h (KX (fun r h => J23_39 F M (r 0) (r 1) (r 4) (r 6) h) (exitsOf []) (fun r h => E23 (r 4) (r 5) h)) = J23_40 F M (r 0) (r 1) (r 4) (r 6) (r 7) h := fun r h => by kernel_rfl
theorem J23_41_ok (F : CallH) (M : Nat) : ∀ r h, kcode Tryd.prog F 117 M (Code.sub [true, true] (bodyOf Tryd.prog 23)) r h (KX (fun r h => E23 (r 4) (r 5) h) (exitsOf []) (fun r h => E23 (r 4) (r 5) h)) = J23_40 F M (r 0) (r 1) (r 4) (r 6) (r 7) h :=
  seq_pt (a := (Code.sub [true, true, false] (bodyOf Tryd.prog 23))) (b := (Code.sub [true, true, true] (bodyOf Tryd.prog 23))) (T := (fun r h => J23_40 F M (r 0) (r 1) (r 4) (r 6) (r 7) h)) (g := (fun r h => J23_39 F M (r 0) (r 1) (r 4) (r 6) h)) (by kernel_rfl) (J23_39_ok F M) (J23_40_ok F M)
noncomputable def J23_42 (F : CallH) (M : Nat) (v0 : Value) (v1 : Value) (v4 : Value) (h : AH) : Res :=
  bindO (F 32 [v0] h) fun pv19 =>
  bindO (xext 0 pv19.1) fun v20 =>
  bindO (xext 1 pv19.1) fun v21 =>
  J23_40 F M v0 v1 v4 v20 v21 pv19.2
theorem J23_42_ok (F : CallH) (M : Nat) : ∀ r h, kcode Tryd.prog F 117 M (Code.sub [true] (bodyOf Tryd.prog 23)) r h (KX (fun r h => E23 (r 4) (r 5) h) (exitsOf []) (fun r h => E23 (r 4) (r 5) h)) = J23_42 F M (r 0) (r 1) (r 4) h :=
  seq_pt (a := (Code.sub [true, false] (bodyOf Tryd.prog 23))) (b := (Code.sub [true, true] (bodyOf Tryd.prog 23))) (T := (fun r h => J23_42 F M (r 0) (r 1) (r 4) h)) (g := (fun r h => J23_40 F M (r 0) (r 1) (r 4) (r 6) (r 7) h)) (by kernel_rfl) (J23_41_ok F M) (fun r h => by kernel_rfl)
noncomputable def J23_43 (F : CallH) (M : Nat) (v0 : Value) (v1 : Value) (h : AH) : Res :=
  newK h (.cells [(.int .i64 0), (.int .i64 0), (.int .i64 0), (.int .i64 0), (.int .i64 0)] 5) fun iv4 h29 =>
  J23_42 F M v0 v1 (ptrTo iv4) h29
theorem J23_43_ok (F : CallH) (M : Nat) : ∀ r h, kcode Tryd.prog F 117 M (Code.sub [] (bodyOf Tryd.prog 23)) r h (KX (fun r h => E23 (r 4) (r 5) h) (exitsOf []) (fun r h => E23 (r 4) (r 5) h)) = J23_43 F M (r 0) (r 1) h :=
  seq_pt (a := (Code.sub [false] (bodyOf Tryd.prog 23))) (b := (Code.sub [true] (bodyOf Tryd.prog 23))) (T := (fun r h => J23_43 F M (r 0) (r 1) h)) (g := (fun r h => J23_42 F M (r 0) (r 1) (r 4) h)) (by kernel_rfl) (J23_42_ok F M) (fun r h => by kernel_rfl)
noncomputable def R23 (F : CallH) (M : Nat) (x0 x1 : Value) (h : AH) : Res := J23_43 F M x0 x1 h
theorem R23_ok (F : CallH) (M : Nat) (x0 x1 : Value) (h : AH) : kfn Tryd.prog F M 23 [x0, x1] h = R23 F M x0 x1 h :=
  (fn_pt (N := 117) (E := (fun r h => E23 (r 4) (r 5) h)) (T := (fun r h => J23_43 F M (r 0) (r 1) h)) Tryd.func23 (by kernel_rfl) (by kernel_rfl) (fun r h => by kernel_rfl) (J23_43_ok F M)).trans (by kernel_rfl)
/-! ### 27 strings.CutSuffix -/
noncomputable def E27 (v4 : Value) (v5 : Value) (h : AH) : Res := some ((.tuple #[v4, v5]), h)
noncomputable def J27_0 (F : CallH) (M : Nat) (v0 : Value) (v1 : Value) (h : AH) : Res :=
  bindO (F 39 [v0, v1] h) fun pv8 =>
  bindO (xext 0 pv8.1) fun v9 =>
  bindO (xext 1 pv8.1) fun v10 =>
  E27 v9 v10 pv8.2
theorem J27_0_ok (F : CallH) (M : Nat) : ∀ r h, kcode Tryd.prog F 11 M (Code.sub [] (bodyOf Tryd.prog 27)) r h (KX (fun r h => E27 (r 4) (r 5) h) (exitsOf []) (fun r h => E27 (r 4) (r 5) h)) = J27_0 F M (r 0) (r 1) h := fun r h => by kernel_rfl
noncomputable def R27 (F : CallH) (M : Nat) (x0 x1 : Value) (h : AH) : Res := J27_0 F M x0 x1 h
theorem R27_ok (F : CallH) (M : Nat) (x0 x1 : Value) (h : AH) : kfn Tryd.prog F M 27 [x0, x1] h = R27 F M x0 x1 h :=
  (fn_pt (N := 11) (E := (fun r h => E27 (r 4) (r 5) h)) (T := (fun r h => J27_0 F M (r 0) (r 1) h)) Tryd.func27 (by kernel_rfl) (by kernel_rfl) (fun r h => by kernel_rfl) (J27_0_ok F M)).trans (by kernel_rfl)
/-! ### 31 turnkey/turnkeysee.sentinel -/
noncomputable def E31 (v2 : Value) (h : AH) : Res := some (v2, h)
noncomputable def J31_0 (F : CallH) (M : Nat) (h : AH) : Res :=
  E31 (.int .i64 (-1)) h
theorem J31_0_ok (F : CallH) (M : Nat) : ∀ r h, kcode Tryd.prog F 20 M (Code.sub [true, true, true] (bodyOf Tryd.prog 31)) r h (KX (fun r h => E31 (r 2) h) (exitsOf []) (fun r h => E31 (r 2) h)) = J31_0 F M h := fun r h => by kernel_rfl
noncomputable def J31_2 (F : CallH) (M : Nat) (L1 : Value → Value → Value → AH → Res) (v0 : Value) (v3 : Value) (v4 : Value) (h : AH) : Res :=
  bindO (ibin .add v4 (.int .i64 1)) fun v11 =>
  L1 v0 v3 v11 h
theorem J31_2_ok (F : CallH) (M : Nat) (L1 : Value → Value → Value → AH → Res) : ∀ r h, kcode Tryd.prog F 20 M (Code.sub [true, true, false, true, false, false, true, true] (bodyOf Tryd.prog 31)) r h (KX (fun r h => L1 (r 0) (r 3) (r 4) h) (exitsOf [(0, (fun r h => J31_0 F M h))]) (fun r h => E31 (r 2) h)) = J31_2 F M L1 (r 0) (r 3) (r 4) h := fun r h => by kernel_rfl
noncomputable def J31_3 (F : CallH) (M : Nat) (L1 : Value → Value → Value → AH → Res) (v0 : Value) (v3 : Value) (v4 : Value) (h : AH) : Res :=
  bindO (xia 1 v3 v4) fun v15 =>
  bindO (ld1 h v15) fun v16 =>
  bindO (F 48 [v0, v16] h) fun pv17 =>
  condO pv17.1 (
  bindO (ibin .add (.int .i64 101) v4) fun v19 =>
  E31 v19 pv17.2) (
  J31_2 F M L1 v0 v3 v4 pv17.2)
theorem J31_3_ok (F : CallH) (M : Nat) (L1 : Value → Value → Value → AH → Res) : ∀ r h, kcode Tryd.prog F 20 M (Code.sub [true, true, false, true, false, false, true, false] (bodyOf Tryd.prog 31)) r h (KX (fun r h => J31_2 F M L1 (r 0) (r 3) (r 4) h) (exitsOf [(0, (fun r h => J31_0 F M h))]) (fun r h => E31 (r 2) h)) = J31_3 F M L1 (r 0) (r 3) (r 4) h := fun r h => by kernel_rfl
theorem J31_4_ok (F : CallH) (M : Nat) (L1 : Value → Value → Value → AH → Res) : ∀ r h, kcode Tryd.prog F 20 M (Code.sub [true, true, false, true, false, false, true] (bodyOf Tryd.prog 31)) r h (KX (fun r h => L1 (r 0) (r 3) (r 4) h) (exitsOf [(0, (fun r h => J31_0 F M h))]) (fun r h => E31 (r 2) h)) = J31_3 F M L1 (r 0) (r 3) (r 4) h :=
  seq_pt (a := (Code.sub [true, true, false, true, false, false, true, false] (bodyOf Tryd.prog 31))) (b := (Code.sub [true, true, false, true, false, false, true, true] (bodyOf Tryd.prog 31))) (T := (fun r h => J31_3 F M L1 (r 0) (r 3) (r 4) h)) (g := (fun r h => J31_2 F M L1 (r 0) (r 3) (r 4) h)) (by kernel_rfl) (J31_2_ok F M L1) (J31_3_ok F M L1)
noncomputable def J31_5 (F : CallH) (M : Nat) (L1 : Value → Value → Value → AH → Res) (v0 : Value) (v3 : Value) (v4 : Value) (h : AH) : Res :=
  bindO (xlenL v3) fun v8 =>
  bindO (ibin .lss v4 v8) fun v9 =>
  condO v9 (
  J31_3 F M L1 v0 v3 v4 h) (
  J31_0 F M h)
theorem J31_5_ok (F : CallH) (M : Nat) (L1 : Value → Value → Value → AH → Res) : ∀ r h, kcode Tryd.prog F 20 M (Code.sub [true, true, false, true, false, false, false] (bodyOf Tryd.prog 31)) r h (KX (fun r h => J31_3 F M L1 (r 0) (r 3) (r 4) h) (exitsOf [(0, (fun r h => J31_0 F M h))]) (fun r h => E31 (r 2) h)) = J31_5 F M L1 (r 0) (r 3) (r 4) h := fun r h => by kernel_rfl
theorem J31_6_ok (F : CallH) (M : Nat) (L1 : Value → Value → Value → AH → Res) : ∀ r h, kcode Tryd.prog F 20 M (Code.sub [true, true, false, true, false, false] (bodyOf Tryd.prog 31)) r h (KX (fun r h => L1 (r 0) (r 3) (r 4) h) (exitsOf [(0, (fun r h => J31_0 F M h))]) (fun r h => E31 (r 2) h)) = J31_5 F M L1 (r 0) (r 3) (r 4) h :=
  seq_pt (a := (Code.sub [true, true, false, true, false, false, false] (bodyOf Tryd.prog 31))) (b := (Code.sub [true, true, false, true, false, false, true] (bodyOf Tryd.prog 31))) (T := (fun r h => J31_5 F M L1 (r 0) (r 3) (r 4) h)) (g := (fun r h => J31_3 F M L1 (r 0) (r 3) (r 4) h)) (by kernel_rfl) (J31_4_ok F M L1) (J31_5_ok F M L1)
noncomputable def L31_1 (F : CallH) (M : Nat) : Nat → Value → Value → Value → AH → Res
  | 0, _, _, _, _ => none
  | m + 1, v0, v3, v4, h => J31_5 F M (L31_1 F M m) v0 v3 v4 h
theorem L31_1_ok (F : CallH) (M : Nat) : ∀ r h, kcode Tryd.prog F 20 M (Code.sub [true, true, false, true, false] (bodyOf Tryd.prog 31)) r h (KX (fun r h => J31_0 F M h) (exitsOf [(0, (fun r h => J31_0 F M h))]) (fun r h => E31 (r 2) h)) = L31_1 F M M (r 0) (r 3) (r 4) h :=
  loop_pt (b := (Code.sub [true, true, false, true, false, false] (bodyOf Tryd.prog 31))) (by kernel_rfl) (fun m r h => L31_1 F M m (r 0) (r 3) (r 4) h) (fun _ _ => rfl) (fun m r h => ((J31_6_ok F M (L31_1 F M m)) r h).trans rfl)
theorem J31_7_ok (F : CallH) (M : Nat) : ∀ r h, kcode Tryd.prog F 20 M (Code.sub [true, true, false, true] (bodyOf Tryd.prog 31)) r h (KX (fun r h => J31_0 F M h) (exitsOf []) (fun r h => E31 (r 2) h)) = L31_1 F M M (r 0) (r 3) (r 4) h :=
  block_pt (b := (Code.sub [true, true, false, true, false] (bodyOf Tryd.prog 31))) (T := (fun r h => L31_1 F M M (r 0) (r 3) (r 4) h)) (id := 0) (by kernel_rfl) (L31_1_ok F M)
noncomputable def J31_8 (F : CallH) (M : Nat) (v0 : Value) (v3 : Value) (h : AH) : Res :=
  L31_1 F M M v0 v3 (.int .i64 0) h
theorem J31_8_ok (F : CallH) (M : Nat) : ∀ r h, kcode Tryd.prog F 20 M (Code.sub [true, true, false] (bodyOf Tryd.prog 31)) r h (KX (fun r h => J31_0 F M h) (exitsOf []) (fun r h => E31 (r 2) h)) = J31_8 F M (r 0) (r 3) h :=
  seq_pt (a := (Code.sub [true, true, false, false] (bodyOf Tryd.prog 31))) (b := (Code.sub [true, true, false, true] (bodyOf Tryd.prog 31))) (T := (fun r h => J31_8 F M (r 0) (r 3) h)) (g := (fun r h => L31_1 F M M (r 0) (r 3) (r 4) h)) (by kernel_rfl) (J31_7_ok F M) (fun r h => by kernel_rfl)
theorem J31_9_ok (F : CallH) (M : Nat) : ∀ r h, kcode Tryd.prog F 20 M (Code.sub [true, true] (bodyOf Tryd.prog 31)) r h (KX (fun r h => E31 (r 2) h) (exitsOf []) (fun r h => E31 (r 2) h)) = J31_8 F M (r 0) (r 3) h :=
  seq_pt (a := (Code.sub [true, true, false] (bodyOf Tryd.prog 31))) (b := (Code.sub [true, true, true] (bodyOf Tryd.prog 31))) (T := (fun r h => J31_8 F M (r 0) (r 3) h)) (g := (fun r h => J31_0 F M h)) (by kernel_rfl) (J31_0_ok F M) (J31_8_ok F M)
noncomputable def J31_10 (F : CallH) (M : Nat) (v0 : Value) (h : AH) : Res :=
  bindO (F 47 [] h) fun pv5 =>
  J31_8 F M v0 pv5.1 pv5.2
theorem J31_10_ok (F : CallH) (M : Nat) : ∀ r h, kcode Tryd.prog F 20 M (Code.sub [true] (bodyOf Tryd.prog 31)) r h (KX (fun r h => E31 (r 2) h) (exitsOf []) (fun r h => E31 (r 2) h)) = J31_10 F M (r 0) h :=
  seq_pt (a := (Code.sub [true, false] (bodyOf Tryd.prog 31))) (b := (Code.sub [true, true] (bodyOf Tryd.prog 31))) (T := (fun r h => J31_10 F M (r 0) h)) (g := (fun r h => J31_8 F M (r 0) (r 3) h)) (by kernel_rfl) (J31_9_ok F M) (fun r h => by kernel_rfl)
noncomputable def J31_11 (F : CallH) (M : Nat) (v0 : Value) (h : AH) : Res :=
  J31_10 F M v0 h
theorem J31_11_ok (F : CallH) (M : Nat) : ∀ r h, kcode Tryd.prog F 20 M (Code.sub [] (bodyOf Tryd.prog 31)) r h (KX (fun r h => E31 (r 2) h) (exitsOf []) (fun r h => E31 (r 2) h)) = J31_11 F M (r 0) h :=
  seq_pt (a := (Code.sub [false] (bodyOf Tryd.prog 31))) (b := (Code.sub [true] (bodyOf Tryd.prog 31))) (T := (fun r h => J31_11 F M (r 0) h)) (g := (fun r h => J31_10 F M (r 0) h)) (by kernel_rfl) (J31_10_ok F M) (fun r h => by kernel_rfl)
noncomputable def R31 (F : CallH) (M : Nat) (x0 : Value) (h : AH) : Res := J31_11 F M x0 h
theorem R31_ok (F : CallH) (M : Nat) (x0 : Value) (h : AH) : kfn Tryd.prog F M 31 [x0] h = R31 F M x0 h :=
  (fn_pt (N := 20) (E := (fun r h => E31 (r 2) h)) (T := (fun r h => J31_11 F M (r 0) h)) Tryd.func31 (by kernel_rfl) (by kernel_rfl) (fun r h => by kernel_rfl) (J31_11_ok F M)).trans (by kernel_rfl)
/-! ### 35 slices.Index[[]string,string] -/
noncomputable def E35 (v4 : Value) (h : AH) : Res := some (v4, h)
noncomputable def J35_0 (F : CallH) (M : Nat) (h : AH) : Res :=
  E35 (.int .i64 (-1)) h
theorem J35_0_ok (F : CallH) (M : Nat) : ∀ r h, kcode Tryd.prog F 19 M (Code.sub [true, true] (bodyOf Tryd.prog 35)) r h (KX (fun r h => E35 (r 4) h) (exitsOf []) (fun r h => E35 (r 4) h)) = J35_0 F M h := fun r h => by kernel_rfl
noncomputable def J35_2 (F : CallH) (M : Nat) (L1 : Value → Value → Value → Value → AH → Res) (v0 : Value) (v1 : Value) (v7 : Value) (v8 : Value) (h : AH) : Res :=
  bindO (ibin .add v8 (.int .i64 1)) fun v18 =>
  L1 v0 v1 v7 v18 h
theorem J35_2_ok (F : CallH) (M : Nat) (L1 : Value → Value → Value → Value → AH → Res) : ∀ r h, kcode Tryd.prog F 19 M (Code.sub [true, false, true, false, false, true, true, true] (bodyOf Tryd.prog 35)) r h (KX (fun r h => L1 (r 0) (r 1) (r 7) (r 8) h) (exitsOf [(0, (fun r h => J35_0 F M h))]) (fun r h => E35 (r 4) h)) = J35_2 F M L1 (r 0) (r 1) (r 7) (r 8) h := fun r h => by kernel_rfl
noncomputable def J35_3 (F : CallH) (M : Nat) (L1 : Value → Value → Value → Value → AH → Res) (v0 : Value) (v1 : Value) (v7 : Value) (v8 : Value) (h : AH) : Res :=
  bindO (xia 1 v0 v8) fun v14 =>
  bindO (ld1 h v14) fun v15 =>
  bindO (sbin .eql v1 v15) fun v16 =>
  condO v16 (
  E35 v8 h) (
  J35_2 F M L1 v0 v1 v7 v8 h)
theorem J35_3_ok (F : CallH) (M : Nat) (L1 : Value → Value → Value → Value → AH → Res) : ∀ r h, kcode Tryd.prog F 19 M (Code.sub [true, false, true, false, false, true, true, false] (bodyOf Tryd.prog 35)) r h (KX (fun r h => J35_2 F M L1 (r 0) (r 1) (r 7) (r 8) h) (exitsOf [(0, (fun r h => J35_0 F M h))]) (fun r h => E35 (r 4) h)) = J35_3 F M L1 (r 0) (r 1) (r 7) (r 8) h := fun r h => by kernel_rfl
theorem J35_4_ok (F : CallH) (M : Nat) (L1 : Value → Value → Value → Value → AH → Res) : ∀ r h, kcode Tryd.prog F 19 M (Code.sub [true, false, true, false, false, true, true] (bodyOf Tryd.prog 35)) r h (KX (fun r h => L1 (r 0) (r 1) (r 7) (r 8) h) (exitsOf [(0, (fun r h => J35_0 F M h))]) (fun r h => E35 (r 4) h)) = J35_3 F M L1 (r 0) (r 1) (r 7) (r 8) h :=
  seq_pt (a := (Code.sub [true, false, true, false, false, true, true, false] (bodyOf Tryd.prog 35))) (b := (Code.sub [true, false, true, false, false, true, true, true] (bodyOf Tryd.prog 35))) (T := (fun r h => J35_3 F M L1 (r 0) (r 1) (r 7) (r 8) h)) (g := (fun r h => J35_2 F M L1 (r 0) (r 1) (r 7) (r 8) h)) (by kernel_rfl) (J35_2_ok F M L1) (J35_3_ok F M L1)
noncomputable def J35_5 (F : CallH) (M : Nat) (L1 : Value → Value → Value → Value → AH → Res) (v0 : Value) (v1 : Value) (v7 : Value) (v8 : Value) (v9 : Value) (h : AH) : Res :=
  condO v9 (
  J35_3 F M L1 v0 v1 v7 v8 h) (
  J35_0 F M h)
theorem J35_5_ok (F : CallH) (M : Nat) (L1 : Value → Value → Value → Value → AH → Res) : ∀ r h, kcode Tryd.prog F 19 M (Code.sub [true, false, true, false, false, true, false] (bodyOf Tryd.prog 35)) r h (KX (fun r h => J35_3 F M L1 (r 0) (r 1) (r 7) (r 8) h) (exitsOf [(0, (fun r h => J35_0 F M h))]) (fun r h => E35 (r 4) h)) = J35_5 F M L1 (r 0) (r 1) (r 7) (r 8) (r 9) h := fun r h => by kernel_rfl
theorem J35_6_ok (F : CallH) (M : Nat) (L1 : Value → Value → Value → Value → AH → Res) : ∀ r h, kcode Tryd.prog F 19 M (Code.sub [true, false, true, false, false, true] (bodyOf Tryd.prog 35)) r h (KX (fun r h => L1 (r 0) (r 1) (r 7) (r 8) h) (exitsOf [(0, (fun r h => J35_0 F M h))]) (fun r h => E35 (r 4) h)) = J35_5 F M L1 (r 0) (r 1) (r 7) (r 8) (r 9) h :=
  seq_pt (a := (Code.sub [true, false, true, false, false, true, false] (bodyOf Tryd.prog 35))) (b := (Code.sub [true, false, true, false, false, true, true] (bodyOf Tryd.prog 35))) (T := (fun r h => J35_5 F M L1 (r 0) (r 1) (r 7) (r 8) (r 9) h)) (g := (fun r h => J35_3 F M L1 (r 0) (r 1) (r 7) (r 8) h)) (by kernel_rfl) (J35_4_ok F M L1) (J35_5_ok F M L1)
noncomputable def J35_7 (F : CallH) (M : Nat) (L1 : Value → Value → Value → Value → AH → Res) (v0 : Value) (v1 : Value) (v7 : Value) (v8 : Value) (h : AH) : Res :=
  bindO (ibin .lss v8 v7) fun v9 =>
  J35_5 F M L1 v0 v1 v7 v8 v9 h
theorem J35_7_ok (F : CallH) (M : Nat) (L1 : Value → Value → Value → Value → AH → Res) : ∀ r h, kcode Tryd.prog F 19 M (Code.sub [true, false, true, false, false] (bodyOf Tryd.prog 35)) r h (KX (fun r h => L1 (r 0) (r 1) (r 7) (r 8) h) (exitsOf [(0, (fun r h => J35_0 F M h))]) (fun r h => E35 (r 4) h)) = J35_7 F M L1 (r 0) (r 1) (r 7) (r 8) h :=
  seq_pt (a := (Code.sub [true, false, true, false, false, false] (bodyOf Tryd.prog 35))) (b := (Code.sub [true, false, true, false, false, true] (bodyOf Tryd.prog 35))) (T := (fun r h => J35_7 F M L1 (r 0) (r 1) (r 7) (r 8) h)) (g := (fun r h => J35_5 F M L1 (r 0) (r 1) (r 7) (r 8) (r 9) h)) (by kernel_rfl) (J35_6_ok F M L1) (fun r h => by kernel_rfl)
noncomputable def L35_1 (F : CallH) (M : Nat) : Nat → Value → Value → Value → Value → AH → Res
  | 0, _, _, _, _, _ => none
  | m + 1, v0, v1, v7, v8, h => J35_7 F M (L35_1 F M m) v0 v1 v7 v8 h
theorem L35_1_ok (F : CallH) (M : Nat) : ∀ r h, kcode Tryd.prog F 19 M (Code.sub [true, false, true, false] (bodyOf Tryd.prog 35)) r h (KX (fun r h => J35_0 F M h) (exitsOf [(0, (fun r h => J35_0 F M h))]) (fun r h => E35 (r 4) h)) = L35_1 F M M (r 0) (r 1) (r 7) (r 8) h :=
  loop_pt (b := (Code.sub [true, false, true, false, false] (bodyOf Tryd.prog 35))) (by kernel_rfl) (fun m r h => L35_1 F M m (r 0) (r 1) (r 7) (r 8) h) (fun _ _ => rfl) (fun m r h => ((J35_7_ok F M (L35_1 F M m)) r h).trans rfl)
theorem J35_8_ok (F : CallH) (M : Nat) : ∀ r h, kcode Tryd.prog F 19 M (Code.sub [true, false, true] (bodyOf Tryd.prog 35)) r h (KX (fun r h => J35_0 F M h) (exitsOf []) (fun r h => E35 (r 4) h)) = L35_1 F M M (r 0) (r 1) (r 7) (r 8) h :=
  block_pt (b := (Code.sub [true, false, true, false] (bodyOf Tryd.prog 35))) (T := (fun r h => L35_1 F M M (r 0) (r 1) (r 7) (r 8) h)) (id := 0) (by kernel_rfl) (L35_1_ok F M)
noncomputable def J35_9 (F : CallH) (M : Nat) (v0 : Value) (v1 : Value) (h : AH) : Res :=
  bindO (xlenL v0) fun v7 =>
  L35_1 F M M v0 v1 v7 (.int .i64 0) h
theorem J35_9_ok (F : CallH) (M : Nat) : ∀ r h, kcode Tryd.prog F 19 M (Code.sub [true, false] (bodyOf Tryd.prog 35)) r h (KX (fun r h => J35_0 F M h) (exitsOf []) (fun r h => E35 (r 4) h)) = J35_9 F M (r 0) (r 1) h :=
  seq_pt (a := (Code.sub [true, false, false] (bodyOf Tryd.prog 35))) (b := (Code.sub [true, false, true] (bodyOf Tryd.prog 35))) (T := (fun r h => J35_9 F M (r 0) (r 1) h)) (g := (fun r h => L35_1 F M M (r 0) (r 1) (r 7) (r 8) h)) (by kernel_rfl) (J35_8_ok F M) (fun r h => by kernel_rfl)
theorem J35_10_ok (F : CallH) (M : Nat) : ∀ r h, kcode Tryd.prog F 19 M (Code.sub [true] (bodyOf Tryd.prog 35)) r h (KX (fun r h => E35 (r 4) h) (exitsOf []) (fun r h => E35 (r 4) h)) = J35_9 F M (r 0) (r 1) h :=
  seq_pt (a := (Code.sub [true, false] (bodyOf Tryd.prog 35))) (b := (Code.sub [true, true] (bodyOf Tryd.prog 35))) (T := (fun r h => J35_9 F M (r 0) (r 1) h)) (g := (fun r h => J35_0 F M h)) (by kernel_rfl) (J35_0_ok F M) (J35_9_ok F M)
noncomputable def J35_11 (F : CallH) (M : Nat) (v0 : Value) (v1 : Value) (h : AH) : Res :=
  J35_9 F M v0 v1 h
theorem J35_11_ok (F : CallH) (M : Nat) : ∀ r h, kcode Tryd.prog F 19 M (Code.sub [] (bodyOf Tryd.prog 35)) r h (KX (fun r h => E35 (r 4) h) (exitsOf []) (fun r h => E35 (r 4) h)) = J35_11 F M (r 0) (r 1) h :=
  seq_pt (a := (Code.sub [false] (bodyOf Tryd.prog 35))) (b := (Code.sub [true] (bodyOf Tryd.prog 35))) (T := (fun r h => J35_11 F M (r 0) (r 1) h)) (g := (fun r h => J35_9 F M (r 0) (r 1) h)) (by kernel_rfl) (J35_10_ok F M) (fun r h => by kernel_rfl)
noncomputable def R35 (F : CallH) (M : Nat) (x0 x1 : Value) (h : AH) : Res := J35_11 F M x0 x1 h
theorem R35_ok (F : CallH) (M : Nat) (x0 x1 : Value) (h : AH) : kfn Tryd.prog F M 35 [x0, x1] h = R35 F M x0 x1 h :=
  (fn_pt (N := 19) (E := (fun r h => E35 (r 4) h)) (T := (fun r h => J35_11 F M (r 0) (r 1) h)) Tryd.func35 (by kernel_rfl) (by kernel_rfl) (fun r h => by kernel_rfl) (J35_11_ok F M)).trans (by kernel_rfl)
/-! ### 39 internal/stringslite.CutSuffix -/
noncomputable def E39 (v4 : Value) (v5 : Value) (h : AH) : Res := some ((.tuple #[v4, v5]), h)
noncomputable def J39_0 (F : CallH) (M : Nat) (v0 : Value) (v1 : Value) (h : AH) : Res :=
  bindO (xlenS v0) fun v13 =>
  bindO (xlenS v1) fun v15 =>
  bindO (ibin .sub v13 v15) fun v16 =>
  bindO (xslS v0 none (some v16)) fun v17 =>
  E39 v17 (.bool true) h
theorem J39_0_ok (F : CallH) (M : Nat) : ∀ r h, kcode Tryd.prog F 18 M (Code.sub [true, true] (bodyOf Tryd.prog 39)) r h (KX (fun r h => E39 (r 4) (r 5) h) (exitsOf []) (fun r h => E39 (r 4) (r 5) h)) = J39_0 F M (r 0) (r 1) h := fun r h => by kernel_rfl
noncomputable def J39_1 (F : CallH) (M : Nat) (v0 : Value) (v1 : Value) (h : AH) : Res :=
  bindO (F 56 [v0, v1] h) fun pv8 =>
  bindO (xnot pv8.1) fun v9 =>
  condO v9 (
  E39 v0 (.bool false) pv8.2) (
  J39_0 F M v0 v1 pv8.2)
theorem J39_1_ok (F : CallH) (M : Nat) : ∀ r h, kcode Tryd.prog F 18 M (Code.sub [true, false] (bodyOf Tryd.prog 39)) r h (KX (fun r h => J39_0 F M (r 0) (r 1) h) (exitsOf []) (fun r h => E39 (r 4) (r 5) h)) = J39_1 F M (r 0) (r 1) h := fun r h => by kernel_rfl
theorem J39_2_ok (F : CallH) (M : Nat) : ∀ r h, kcode Tryd.prog F 18 M (Code.sub [true] (bodyOf Tryd.prog 39)) r h (KX (fun r h => E39 (r 4) (r 5) h) (exitsOf []) (fun r h => E39 (r 4) (r 5) h)) = J39_1 F M (r 0) (r 1) h :=
  seq_pt (a := (Code.sub [true, false] (bodyOf Tryd.prog 39))) (b := (Code.sub [true, true] (bodyOf Tryd.prog 39))) (T := (fun r h => J39_1 F M (r 0) (r 1) h)) (g := (fun r h => J39_0 F M (r 0) (r 1) h)) (by kernel_rfl) (J39_0_ok F M) (J39_1_ok F M)
noncomputable def J39_3 (F : CallH) (M : Nat) (v0 : Value) (v1 : Value) (h : AH) : Res :=
  J39_1 F M v0 v1 h
theorem J39_3_ok (F : CallH) (M : Nat) : ∀ r h, kcode Tryd.prog F 18 M (Code.sub [] (bodyOf Tryd.prog 39)) r h (KX (fun r h => E39 (r 4) (r 5) h) (exitsOf []) (fun r h => E39 (r 4) (r 5) h)) = J39_3 F M (r 0) (r 1) h :=
  seq_pt (a := (Code.sub [false] (bodyOf Tryd.prog 39))) (b := (Code.sub [true] (bodyOf Tryd.prog 39))) (T := (fun r h => J39_3 F M (r 0) (r 1) h)) (g := (fun r h => J39_1 F M (r 0) (r 1) h)) (by kernel_rfl) (J39_2_ok F M) (fun r h => by kernel_rfl)
noncomputable def R39 (F : CallH) (M : Nat) (x0 x1 : Value) (h : AH) : Res := J39_3 F M x0 x1 h
theorem R39_ok (F : CallH) (M : Nat) (x0 x1 : Value) (h : AH) : kfn Tryd.prog F M 39 [x0, x1] h = R39 F M x0 x1 h :=
  (fn_pt (N := 18) (E := (fun r h => E39 (r 4) (r 5) h)) (T := (fun r h => J39_3 F M (r 0) (r 1) h)) Tryd.func39 (by kernel_rfl) (by kernel_rfl) (fun r h => by kernel_rfl) (J39_3_ok F M)).trans (by kernel_rfl)
/-! ### 43 strconv.Itoa -/
noncomputable def E43 (v2 : Value) (h : AH) : Res := some (v2, h)
noncomputable def J43_0 (F : CallH) (M : Nat) (v0 : Value) (h : AH) : Res :=
  bindO (F 60 [v0] h) fun pv4 =>
  E43 pv4.1 pv4.2
theorem J43_0_ok (F : CallH) (M : Nat) : ∀ r h, kcode Tryd.prog F 5 M (Code.sub [] (bodyOf Tryd.prog 43)) r h (KX (fun r h => E43 (r 2) h) (exitsOf []) (fun r h => E43 (r 2) h)) = J43_0 F M (r 0) h := fun r h => by kernel_rfl
noncomputable def R43 (F : CallH) (M : Nat) (x0 : Value) (h : AH) : Res := J43_0 F M x0 h
theorem R43_ok (F : CallH) (M : Nat) (x0 : Value) (h : AH) : kfn Tryd.prog F M 43 [x0] h = R43 F M x0 h :=
  (fn_pt (N := 5) (E := (fun r h => E43 (r 2) h)) (T := (fun r h => J43_0 F M (r 0) h)) Tryd.func43 (by kernel_rfl) (by kernel_rfl) (fun r h => by kernel_rfl) (J43_0_ok F M)).trans (by kernel_rfl)
/-! ### 47 turnkey/turnkeysee.sentinels -/
noncomputable def E47 (v0 : Value) (h : AH) : Res := some (v0, h)
noncomputable def J47_0 (F : CallH) (M : Nat) (h : AH) : Res :=
  bindO (ld1 h (glob 5)) fun v1 =>
  bindO (ld1 h (glob 6)) fun v2 =>
  bindO (ld1 h (glob 3)) fun v3 =>
  bindO (ld1 h (glob 0)) fun v4 =>
  bindO (ld1 h (glob 4)) fun v5 =>
  bindO (ld1 h (glob 7)) fun v6 =>
  bindO (ld1 h (glob 8)) fun v7 =>
  bindO (ld1 h (glob 9)) fun v8 =>
  bindO (ld1 h (glob 10)) fun v9 =>
  bindO (ld1 h (glob 11)) fun v10 =>
  bindO (ld1 h (glob 1)) fun v11 =>
  bindO (ld1 h (glob 2)) fun v12 =>
  bindO (xrow (copies [.nilIface] 12) [(0, 1, v1), (1, 1, v2), (2, 1, v3), (3, 1, v4), (4, 1, v5), (5, 1, v6), (6, 1, v7), (7, 1, v8), (8, 1, v9), (9, 1, v10), (10, 1, v11), (11, 1, v12)]) fun v13 => newK h (.cells v13 1) fun iv13 h1 =>
  E47 (slOf iv13 12 12) h1
theorem J47_0_ok (F : CallH) (M : Nat) : ∀ r h, kcode Tryd.prog F 14 M (Code.sub [] (bodyOf Tryd.prog 47)) r h (KX (fun r h => E47 (r 0) h) (exitsOf []) (fun r h => E47 (r 0) h)) = J47_0 F M h := fun r h => by kernel_rfl
noncomputable def R47 (F : CallH) (M : Nat) (h : AH) : Res := J47_0 F M h
theorem R47_ok (F : CallH) (M : Nat) (h : AH) : kfn Tryd.prog F M 47 [] h = R47 F M h :=
  (fn_pt (N := 14) (E := (fun r h => E47 (r 0) h)) (T := (fun r h => J47_0 F M h)) Tryd.func47 (by kernel_rfl) (by kernel_rfl) (fun r h => by kernel_rfl) (J47_0_ok F M)).trans (by kernel_rfl)
/-! ### 51 turnkey/word.Name -/
noncomputable def E51 (v2 : Value) (h : AH) : Res := some (v2, h)
noncomputable def J51_0 (F : CallH) (M : Nat) (v0 : Value) (v3 : Value) (h : AH) : Res :=
  bindO (xia 1 v3 v0) fun v15 =>
  bindO (ld1 h v15) fun v16 =>
  E51 v16 h
theorem J51_0_ok (F : CallH) (M : Nat) : ∀ r h, kcode Tryd.prog F 17 M (Code.sub [true, true, true] (bodyOf Tryd.prog 51)) r h (KX (fun r h => E51 (r 2) h) (exitsOf []) (fun r h => E51 (r 2) h)) = J51_0 F M (r 0) (r 3) h := fun r h => by kernel_rfl
noncomputable def J51_1 (F : CallH) (M : Nat) (v0 : Value) (v3 : Value) (h : AH) : Res :=
  bindO (ibin .lss v0 (.int .i64 0)) fun v6 =>
  condO v6 (
  E51 (str []) h) (
  bindO (xlenL v3) fun v10 =>
  bindO (ibin .geq v0 v10) fun v11 =>
  condO v11 (
  E51 (str []) h) (
  J51_0 F M v0 v3 h))
theorem J51_1_ok (F : CallH) (M : Nat) : ∀ r h, kcode Tryd.prog F 17 M (Code.sub [true, true, false] (bodyOf Tryd.prog 51)) r h (KX (fun r h => J51_0 F M (r 0) (r 3) h) (exitsOf []) (fun r h => E51 (r 2) h)) = J51_1 F M (r 0) (r 3) h := fun r h => by kernel_rfl
theorem J51_2_ok (F : CallH) (M : Nat) : ∀ r h, kcode Tryd.prog F 17 M (Code.sub [true, true] (bodyOf Tryd.prog 51)) r h (KX (fun r h => E51 (r 2) h) (exitsOf []) (fun r h => E51 (r 2) h)) = J51_1 F M (r 0) (r 3) h :=
  seq_pt (a := (Code.sub [true, true, false] (bodyOf Tryd.prog 51))) (b := (Code.sub [true, true, true] (bodyOf Tryd.prog 51))) (T := (fun r h => J51_1 F M (r 0) (r 3) h)) (g := (fun r h => J51_0 F M (r 0) (r 3) h)) (by kernel_rfl) (J51_0_ok F M) (J51_1_ok F M)
noncomputable def J51_3 (F : CallH) (M : Nat) (v0 : Value) (h : AH) : Res :=
  bindO (xrow (copies [(str [])] 12) [(0, 1, (str [97, 100, 100])), (1, 1, (str [115, 117, 98])), (2, 1, (str [109, 117, 108])), (3, 1, (str [100, 105, 118])), (4, 1, (str [109, 111, 100])), (5, 1, (str [97, 110, 100])), (6, 1, (str [111, 114])), (7, 1, (str [120, 111, 114])), (8, 1, (str [115, 104, 108])), (9, 1, (str [115, 104, 114])), (10, 1, (str [108, 116])), (11, 1, (str [101, 113]))]) fun v4 => newK h (.cells v4 1) fun iv4 h1 =>
  J51_1 F M v0 (slOf iv4 12 12) h1
theorem J51_3_ok (F : CallH) (M : Nat) : ∀ r h, kcode Tryd.prog F 17 M (Code.sub [true] (bodyOf Tryd.prog 51)) r h (KX (fun r h => E51 (r 2) h) (exitsOf []) (fun r h => E51 (r 2) h)) = J51_3 F M (r 0) h :=
  seq_pt (a := (Code.sub [true, false] (bodyOf Tryd.prog 51))) (b := (Code.sub [true, true] (bodyOf Tryd.prog 51))) (T := (fun r h => J51_3 F M (r 0) h)) (g := (fun r h => J51_1 F M (r 0) (r 3) h)) (by kernel_rfl) (J51_2_ok F M) (fun r h => by kernel_rfl)
noncomputable def J51_4 (F : CallH) (M : Nat) (v0 : Value) (h : AH) : Res :=
  J51_3 F M v0 h
theorem J51_4_ok (F : CallH) (M : Nat) : ∀ r h, kcode Tryd.prog F 17 M (Code.sub [] (bodyOf Tryd.prog 51)) r h (KX (fun r h => E51 (r 2) h) (exitsOf []) (fun r h => E51 (r 2) h)) = J51_4 F M (r 0) h :=
  seq_pt (a := (Code.sub [false] (bodyOf Tryd.prog 51))) (b := (Code.sub [true] (bodyOf Tryd.prog 51))) (T := (fun r h => J51_4 F M (r 0) h)) (g := (fun r h => J51_3 F M (r 0) h)) (by kernel_rfl) (J51_3_ok F M) (fun r h => by kernel_rfl)
noncomputable def R51 (F : CallH) (M : Nat) (x0 : Value) (h : AH) : Res := J51_4 F M x0 h
theorem R51_ok (F : CallH) (M : Nat) (x0 : Value) (h : AH) : kfn Tryd.prog F M 51 [x0] h = R51 F M x0 h :=
  (fn_pt (N := 17) (E := (fun r h => E51 (r 2) h)) (T := (fun r h => J51_4 F M (r 0) h)) Tryd.func51 (by kernel_rfl) (by kernel_rfl) (fun r h => by kernel_rfl) (J51_4_ok F M)).trans (by kernel_rfl)
/-! ### 55 strings.Index -/
noncomputable def E55 (v4 : Value) (h : AH) : Res := some (v4, h)
noncomputable def J55_0 (F : CallH) (M : Nat) (v0 : Value) (v1 : Value) (h : AH) : Res :=
  bindO (F 66 [v0, v1] h) fun pv7 =>
  E55 pv7.1 pv7.2
theorem J55_0_ok (F : CallH) (M : Nat) : ∀ r h, kcode Tryd.prog F 8 M (Code.sub [] (bodyOf Tryd.prog 55)) r h (KX (fun r h => E55 (r 4) h) (exitsOf []) (fun r h => E55 (r 4) h)) = J55_0 F M (r 0) (r 1) h := fun r h => by kernel_rfl
noncomputable def R55 (F : CallH) (M : Nat) (x0 x1 : Value) (h : AH) : Res := J55_0 F M x0 x1 h
theorem R55_ok (F : CallH) (M : Nat) (x0 x1 : Value) (h : AH) : kfn Tryd.prog F M 55 [x0, x1] h = R55 F M x0 x1 h :=
  (fn_pt (N := 8) (E := (fun r h => E55 (r 4) h)) (T := (fun r h => J55_0 F M (r 0) (r 1) h)) Tryd.func55 (by kernel_rfl) (by kernel_rfl) (fun r h => by kernel_rfl) (J55_0_ok F M)).trans (by kernel_rfl)
/-! ### 59 strconv.toError -/
noncomputable def E59 (v10 : Value) (h : AH) : Res := some (v10, h)
noncomputable def J59_0 (F : CallH) (M : Nat) (v4 : Value) (h : AH) : Res :=
  E59 v4 h
theorem J59_0_ok (F : CallH) (M : Nat) : ∀ r h, kcode Tryd.prog F 43 M (Code.sub [true, true] (bodyOf Tryd.prog 59)) r h (KX (fun r h => E59 (r 10) h) (exitsOf []) (fun r h => E59 (r 10) h)) = J59_0 F M (r 4) h := fun r h => by kernel_rfl
noncomputable def J59_1 (F : CallH) (M : Nat) (v0 : Value) (v1 : Value) (v2 : Value) (v3 : Value) (v4 : Value) (h : AH) : Res :=
  bindO (xeqI Tryd.prog .eql h 27 v4 (.iface 103 (.int .i64 2))) fun v14 =>
  condO v14 (
  bindO (F 69 [v0, v1] h) fun pv17 =>
  E59 (.iface 107 pv17.1) pv17.2) (
  bindO (xeqI Tryd.prog .eql h 27 v4 (.iface 103 (.int .i64 1))) fun v21 =>
  condO v21 (
  bindO (F 70 [v0, v1] h) fun pv24 =>
  E59 (.iface 107 pv24.1) pv24.2) (
  bindO (xeqI Tryd.prog .eql h 27 v4 (.iface 103 (.int .i64 3))) fun v28 =>
  condO v28 (
  bindO (F 71 [v0, v1, v2] h) fun pv32 =>
  E59 (.iface 107 pv32.1) pv32.2) (
  bindO (xeqI Tryd.prog .eql h 27 v4 (.iface 103 (.int .i64 4))) fun v36 =>
  condO v36 (
  bindO (F 72 [v0, v1, v3] h) fun pv40 =>
  E59 (.iface 107 pv40.1) pv40.2) (
  J59_0 F M v4 h))))
theorem J59_1_ok (F : CallH) (M : Nat) : ∀ r h, kcode Tryd.prog F 43 M (Code.sub [true, false] (bodyOf Tryd.prog 59)) r h (KX (fun r h => J59_0 F M (r 4) h) (exitsOf []) (fun r h => E59 (r 10) h)) = J59_1 F M (r 0) (r 1) (r 2) (r 3) (r 4) h := fun r h => by kernel_rfl
theorem J59_2_ok (F : CallH) (M : Nat) : ∀ r h, kcode Tryd.prog F 43 M (Code.sub [true] (bodyOf Tryd.prog 59)) r h (KX (fun r h => E59 (r 10) h) (exitsOf []) (fun r h => E59 (r 10) h)) = J59_1 F M (r 0) (r 1) (r 2) (r 3) (r 4) h :=
  seq_pt (a := (Code.sub [true, false] (bodyOf Tryd.prog 59))) (b := (Code.sub [true, true] (bodyOf Tryd.prog 59))) (T := (fun r h => J59_1 F M (r 0) (r 1) (r 2) (r 3) (r 4) h)) (g := (fun r h => J59_0 F M (r 4) h)) (by kernel_rfl) (J59_0_ok F M) (J59_1_ok F M)
noncomputable def J59_3 (F : CallH) (M : Nat) (v0 : Value) (v1 : Value) (v2 : Value) (v3 : Value) (v4 : Value) (h : AH) : Res :=
  J59_1 F M v0 v1 v2 v3 v4 h
theorem J59_3_ok (F : CallH) (M : Nat) : ∀ r h, kcode Tryd.prog F 43 M (Code.sub [] (bodyOf Tryd.prog 59)) r h (KX (fun r h => E59 (r 10) h) (exitsOf []) (fun r h => E59 (r 10) h)) = J59_3 F M (r 0) (r 1) (r 2) (r 3) (r 4) h :=
  seq_pt (a := (Code.sub [false] (bodyOf Tryd.prog 59))) (b := (Code.sub [true] (bodyOf Tryd.prog 59))) (T := (fun r h => J59_3 F M (r 0) (r 1) (r 2) (r 3) (r 4) h)) (g := (fun r h => J59_1 F M (r 0) (r 1) (r 2) (r 3) (r 4) h)) (by kernel_rfl) (J59_2_ok F M) (fun r h => by kernel_rfl)
noncomputable def R59 (F : CallH) (M : Nat) (x0 x1 x2 x3 x4 : Value) (h : AH) : Res := J59_3 F M x0 x1 x2 x3 x4 h
theorem R59_ok (F : CallH) (M : Nat) (x0 x1 x2 x3 x4 : Value) (h : AH) : kfn Tryd.prog F M 59 [x0, x1, x2, x3, x4] h = R59 F M x0 x1 x2 x3 x4 h :=
  (fn_pt (N := 43) (E := (fun r h => E59 (r 10) h)) (T := (fun r h => J59_3 F M (r 0) (r 1) (r 2) (r 3) (r 4) h)) Tryd.func59 (by kernel_rfl) (by kernel_rfl) (fun r h => by kernel_rfl) (J59_3_ok F M)).trans (by kernel_rfl)
/-! ### 63 unicode/utf8.RuneCountInString -/
noncomputable def E63 (v2 : Value) (h : AH) : Res := some (v2, h)
noncomputable def J63_0 (F : CallH) (M : Nat) (v2 : Value) (h : AH) : Res :=
  E63 v2 h
theorem J63_0_ok (F : CallH) (M : Nat) : ∀ r h, kcode Tryd.prog F 10 M (Code.sub [true, true] (bodyOf Tryd.prog 63)) r h (KX (fun r h => E63 (r 2) h) (exitsOf []) (fun r h => E63 (r 2) h)) = J63_0 F M (r 2) h := fun r h => by kernel_rfl
noncomputable def J63_2 (F : CallH) (M : Nat) (L1 : Value → Value → AH → Res) (v2 : Value) (v4 : Value) (h : AH) : Res :=
  bindO (ibin .add v2 (.int .i64 1)) fun v8 =>
  L1 v8 v4 h
theorem J63_2_ok (F : CallH) (M : Nat) (L1 : Value → Value → AH → Res) : ∀ r h, kcode Tryd.prog F 10 M (Code.sub [true, false, true, false, false, true, true] (bodyOf Tryd.prog 63)) r h (KX (fun r h => L1 (r 2) (r 4) h) (exitsOf [(0, (fun r h => J63_0 F M (r 2) h))]) (fun r h => E63 (r 2) h)) = J63_2 F M L1 (r 2) (r 4) h := fun r h => by kernel_rfl
noncomputable def J63_3 (F : CallH) (M : Nat) (L1 : Value → Value → AH → Res) (v2 : Value) (v4 : Value) (v6 : Value) (h : AH) : Res :=
  condO v6 (
  J63_2 F M L1 v2 v4 h) (
  J63_0 F M v2 h)
theorem J63_3_ok (F : CallH) (M : Nat) (L1 : Value → Value → AH → Res) : ∀ r h, kcode Tryd.prog F 10 M (Code.sub [true, false, true, false, false, true, false] (bodyOf Tryd.prog 63)) r h (KX (fun r h => J63_2 F M L1 (r 2) (r 4) h) (exitsOf [(0, (fun r h => J63_0 F M (r 2) h))]) (fun r h => E63 (r 2) h)) = J63_3 F M L1 (r 2) (r 4) (r 6) h := fun r h => by kernel_rfl
theorem J63_4_ok (F : CallH) (M : Nat) (L1 : Value → Value → AH → Res) : ∀ r h, kcode Tryd.prog F 10 M (Code.sub [true, false, true, false, false, true] (bodyOf Tryd.prog 63)) r h (KX (fun r h => L1 (r 2) (r 4) h) (exitsOf [(0, (fun r h => J63_0 F M (r 2) h))]) (fun r h => E63 (r 2) h)) = J63_3 F M L1 (r 2) (r 4) (r 6) h :=
  seq_pt (a := (Code.sub [true, false, true, false, false, true, false] (bodyOf Tryd.prog 63))) (b := (Code.sub [true, false, true, false, false, true, true] (bodyOf Tryd.prog 63))) (T := (fun r h => J63_3 F M L1 (r 2) (r 4) (r 6) h)) (g := (fun r h => J63_2 F M L1 (r 2) (r 4) h)) (by kernel_rfl) (J63_2_ok F M L1) (J63_3_ok F M L1)
noncomputable def J63_5 (F : CallH) (M : Nat) (L1 : Value → Value → AH → Res) (v2 : Value) (v4 : Value) (h : AH) : Res :=
  bindO (xnext v4 h) fun pv5 =>
  bindO (xext 0 pv5.1) fun v6 =>
  J63_3 F M L1 v2 v4 v6 pv5.2
theorem J63_5_ok (F : CallH) (M : Nat) (L1 : Value → Value → AH → Res) : ∀ r h, kcode Tryd.prog F 10 M (Code.sub [true, false, true, false, false] (bodyOf Tryd.prog 63)) r h (KX (fun r h => L1 (r 2) (r 4) h) (exitsOf [(0, (fun r h => J63_0 F M (r 2) h))]) (fun r h => E63 (r 2) h)) = J63_5 F M L1 (r 2) (r 4) h :=
  seq_pt (a := (Code.sub [true, false, true, false, false, false] (bodyOf Tryd.prog 63))) (b := (Code.sub [true, false, true, false, false, true] (bodyOf Tryd.prog 63))) (T := (fun r h => J63_5 F M L1 (r 2) (r 4) h)) (g := (fun r h => J63_3 F M L1 (r 2) (r 4) (r 6) h)) (by kernel_rfl) (J63_4_ok F M L1) (fun r h => by kernel_rfl)
noncomputable def L63_1 (F : CallH) (M : Nat) : Nat → Value → Value → AH → Res
  | 0, _, _, _ => none
  | m + 1, v2, v4, h => J63_5 F M (L63_1 F M m) v2 v4 h
theorem L63_1_ok (F : CallH) (M : Nat) : ∀ r h, kcode Tryd.prog F 10 M (Code.sub [true, false, true, false] (bodyOf Tryd.prog 63)) r h (KX (fun r h => J63_0 F M (r 2) h) (exitsOf [(0, (fun r h => J63_0 F M (r 2) h))]) (fun r h => E63 (r 2) h)) = L63_1 F M M (r 2) (r 4) h :=
  loop_pt (b := (Code.sub [true, false, true, false, false] (bodyOf Tryd.prog 63))) (by kernel_rfl) (fun m r h => L63_1 F M m (r 2) (r 4) h) (fun _ _ => rfl) (fun m r h => ((J63_5_ok F M (L63_1 F M m)) r h).trans rfl)
theorem J63_6_ok (F : CallH) (M : Nat) : ∀ r h, kcode Tryd.prog F 10 M (Code.sub [true, false, true] (bodyOf Tryd.prog 63)) r h (KX (fun r h => J63_0 F M (r 2) h) (exitsOf []) (fun r h => E63 (r 2) h)) = L63_1 F M M (r 2) (r 4) h :=
  block_pt (b := (Code.sub [true, false, true, false] (bodyOf Tryd.prog 63))) (T := (fun r h => L63_1 F M M (r 2) (r 4) h)) (id := 0) (by kernel_rfl) (L63_1_ok F M)
noncomputable def J63_7 (F : CallH) (M : Nat) (v0 : Value) (v2 : Value) (h : AH) : Res :=
  bindO (xrange v0 h) fun pv4 =>
  L63_1 F M M v2 pv4.1 pv4.2
theorem J63_7_ok (F : CallH) (M : Nat) : ∀ r h, kcode Tryd.prog F 10 M (Code.sub [true, false] (bodyOf Tryd.prog 63)) r h (KX (fun r h => J63_0 F M (r 2) h) (exitsOf []) (fun r h => E63 (r 2) h)) = J63_7 F M (r 0) (r 2) h :=
  seq_pt (a := (Code.sub [true, false, false] (bodyOf Tryd.prog 63))) (b := (Code.sub [true, false, true] (bodyOf Tryd.prog 63))) (T := (fun r h => J63_7 F M (r 0) (r 2) h)) (g := (fun r h => L63_1 F M M (r 2) (r 4) h)) (by kernel_rfl) (J63_6_ok F M) (fun r h => by kernel_rfl)
theorem J63_8_ok (F : CallH) (M : Nat) : ∀ r h, kcode Tryd.prog F 10 M (Code.sub [true] (bodyOf Tryd.prog 63)) r h (KX (fun r h => E63 (r 2) h) (exitsOf []) (fun r h => E63 (r 2) h)) = J63_7 F M (r 0) (r 2) h :=
  seq_pt (a := (Code.sub [true, false] (bodyOf Tryd.prog 63))) (b := (Code.sub [true, true] (bodyOf Tryd.prog 63))) (T := (fun r h => J63_7 F M (r 0) (r 2) h)) (g := (fun r h => J63_0 F M (r 2) h)) (by kernel_rfl) (J63_0_ok F M) (J63_7_ok F M)
noncomputable def J63_9 (F : CallH) (M : Nat) (v0 : Value) (h : AH) : Res :=
  J63_7 F M v0 (.int .i64 0) h
theorem J63_9_ok (F : CallH) (M : Nat) : ∀ r h, kcode Tryd.prog F 10 M (Code.sub [] (bodyOf Tryd.prog 63)) r h (KX (fun r h => E63 (r 2) h) (exitsOf []) (fun r h => E63 (r 2) h)) = J63_9 F M (r 0) h :=
  seq_pt (a := (Code.sub [false] (bodyOf Tryd.prog 63))) (b := (Code.sub [true] (bodyOf Tryd.prog 63))) (T := (fun r h => J63_9 F M (r 0) h)) (g := (fun r h => J63_7 F M (r 0) (r 2) h)) (by kernel_rfl) (J63_8_ok F M) (fun r h => by kernel_rfl)
noncomputable def R63 (F : CallH) (M : Nat) (x0 : Value) (h : AH) : Res := J63_9 F M x0 h
theorem R63_ok (F : CallH) (M : Nat) (x0 : Value) (h : AH) : kfn Tryd.prog F M 63 [x0] h = R63 F M x0 h :=
  (fn_pt (N := 10) (E := (fun r h => E63 (r 2) h)) (T := (fun r h => J63_9 F M (r 0) h)) Tryd.func63 (by kernel_rfl) (by kernel_rfl) (fun r h => by kernel_rfl) (J63_9_ok F M)).trans (by kernel_rfl)
/-! ### 67 strings.indexFunc -/
noncomputable def E67 (v6 : Value) (h : AH) : Res := some (v6, h)
noncomputable def J67_0 (F : CallH) (M : Nat) (h : AH) : Res :=
  E67 (.int .i64 (-1)) h
theorem J67_0_ok (F : CallH) (M : Nat) : ∀ r h, kcode Tryd.prog F 21 M (Code.sub [true, true] (bodyOf Tryd.prog 67)) r h (KX (fun r h => E67 (r 6) h) (exitsOf []) (fun r h => E67 (r 6) h)) = J67_0 F M h := fun r h => by kernel_rfl
noncomputable def J67_2 (F : CallH) (M : Nat) (L1 : Value → Value → Value → AH → Res) (v1 : Value) (v2 : Value) (v10 : Value) (v11 : Value) (h : AH) : Res :=
  bindO (xext 1 v11) fun v13 =>
  bindO (xext 2 v11) fun v14 =>
  bindO (callFn F v1 [v14] h) fun pv17 =>
  bindO (bbin .eql pv17.1 v2) fun v19 =>
  condO v19 (
  E67 v13 pv17.2) (
  L1 v1 v2 v10 pv17.2)
theorem J67_2_ok (F : CallH) (M : Nat) (L1 : Value → Value → Value → AH → Res) : ∀ r h, kcode Tryd.prog F 21 M (Code.sub [true, false, true, false, false, true, true] (bodyOf Tryd.prog 67)) r h (KX (fun r h => L1 (r 1) (r 2) (r 10) h) (exitsOf [(0, (fun r h => J67_0 F M h))]) (fun r h => E67 (r 6) h)) = J67_2 F M L1 (r 1) (r 2) (r 10) (r 11) h := fun r h => by kernel_rfl
noncomputable def J67_3 (F : CallH) (M : Nat) (L1 : Value → Value → Value → AH → Res) (v1 : Value) (v2 : Value) (v10 : Value) (v11 : Value) (v12 : Value) (h : AH) : Res :=
  condO v12 (
  J67_2 F M L1 v1 v2 v10 v11 h) (
  J67_0 F M h)
theorem J67_3_ok (F : CallH) (M : Nat) (L1 : Value → Value → Value → AH → Res) : ∀ r h, kcode Tryd.prog F 21 M (Code.sub [true, false, true, false, false, true, false] (bodyOf Tryd.prog 67)) r h (KX (fun r h => J67_2 F M L1 (r 1) (r 2) (r 10) (r 11) h) (exitsOf [(0, (fun r h => J67_0 F M h))]) (fun r h => E67 (r 6) h)) = J67_3 F M L1 (r 1) (r 2) (r 10) (r 11) (r 12) h := fun r h => by kernel_rfl
theorem J67_4_ok (F : CallH) (M : Nat) (L1 : Value → Value → Value → AH → Res) : ∀ r h, kcode Tryd.prog F 21 M (Code.sub [true, false, true, false, false, true] (bodyOf Tryd.prog 67)) r h (KX (fun r h => L1 (r 1) (r 2) (r 10) h) (exitsOf [(0, (fun r h => J67_0 F M h))]) (fun r h => E67 (r 6) h)) = J67_3 F M L1 (r 1) (r 2) (r 10) (r 11) (r 12) h :=
  seq_pt (a := (Code.sub [true, false, true, false, false, true, false] (bodyOf Tryd.prog 67))) (b := (Code.sub [true, false, true, false, false, true, true] (bodyOf Tryd.prog 67))) (T := (fun r h => J67_3 F M L1 (r 1) (r 2) (r 10) (r 11) (r 12) h)) (g := (fun r h => J67_2 F M L1 (r 1) (r 2) (r 10) (r 11) h)) (by kernel_rfl) (J67_2_ok F M L1) (J67_3_ok F M L1)
noncomputable def J67_5 (F : CallH) (M : Nat) (L1 : Value → Value → Value → AH → Res) (v1 : Value) (v2 : Value) (v10 : Value) (h : AH) : Res :=
  bindO (xnext v10 h) fun pv11 =>
  bindO (xext 0 pv11.1) fun v12 =>
  J67_3 F M L1 v1 v2 v10 pv11.1 v12 pv11.2
theorem J67_5_ok (F : CallH) (M : Nat) (L1 : Value → Value → Value → AH → Res) : ∀ r h, kcode Tryd.prog F 21 M (Code.sub [true, false, true, false, false] (bodyOf Tryd.prog 67)) r h (KX (fun r h => L1 (r 1) (r 2) (r 10) h) (exitsOf [(0, (fun r h => J67_0 F M h))]) (fun r h => E67 (r 6) h)) = J67_5 F M L1 (r 1) (r 2) (r 10) h :=
  seq_pt (a := (Code.sub [true, false, true, false, false, false] (bodyOf Tryd.prog 67))) (b := (Code.sub [true, false, true, false, false, true] (bodyOf Tryd.prog 67))) (T := (fun r h => J67_5 F M L1 (r 1) (r 2) (r 10) h)) (g := (fun r h => J67_3 F M L1 (r 1) (r 2) (r 10) (r 11) (r 12) h)) (by kernel_rfl) (J67_4_ok F M L1) (fun r h => by kernel_rfl)
noncomputable def L67_1 (F : CallH) (M : Nat) : Nat → Value → Value → Value → AH → Res
  | 0, _, _, _, _ => none
  | m + 1, v1, v2, v10, h => J67_5 F M (L67_1 F M m) v1 v2 v10 h
theorem L67_1_ok (F : CallH) (M : Nat) : ∀ r h, kcode Tryd.prog F 21 M (Code.sub [true, false, true, false] (bodyOf Tryd.prog 67)) r h (KX (fun r h => J67_0 F M h) (exitsOf [(0, (fun r h => J67_0 F M h))]) (fun r h => E67 (r 6) h)) = L67_1 F M M (r 1) (r 2) (r 10) h :=
  loop_pt (b := (Code.sub [true, false, true, false, false] (bodyOf Tryd.prog 67))) (by kernel_rfl) (fun m r h => L67_1 F M m (r 1) (r 2) (r 10) h) (fun _ _ => rfl) (fun m r h => ((J67_5_ok F M (L67_1 F M m)) r h).trans rfl)
theorem J67_6_ok (F : CallH) (M : Nat) : ∀ r h, kcode Tryd.prog F 21 M (Code.sub [true, false, true] (bodyOf Tryd.prog 67)) r h (KX (fun r h => J67_0 F M h) (exitsOf []) (fun r h => E67 (r 6) h)) = L67_1 F M M (r 1) (r 2) (r 10) h :=
  block_pt (b := (Code.sub [true, false, true, false] (bodyOf Tryd.prog 67))) (T := (fun r h => L67_1 F M M (r 1) (r 2) (r 10) h)) (id := 0) (by kernel_rfl) (L67_1_ok F M)
noncomputable def J67_7 (F : CallH) (M : Nat) (v0 : Value) (v1 : Value) (v2 : Value) (h : AH) : Res :=
  bindO (xrange v0 h) fun pv10 =>
  L67_1 F M M v1 v2 pv10.1 pv10.2
theorem J67_7_ok (F : CallH) (M : Nat) : ∀ r h, kcode Tryd.prog F 21 M (Code.sub [true, false] (bodyOf Tryd.prog 67)) r h (KX (fun r h => J67_0 F M h) (exitsOf []) (fun r h => E67 (r 6) h)) = J67_7 F M (r 0) (r 1) (r 2) h :=
  seq_pt (a := (Code.sub [true, false, false] (bodyOf Tryd.prog 67))) (b := (Code.sub [true, false, true] (bodyOf Tryd.prog 67))) (T := (fun r h => J67_7 F M (r 0) (r 1) (r 2) h)) (g := (fun r h => L67_1 F M M (r 1) (r 2) (r 10) h)) (by kernel_rfl) (J67_6_ok F M) (fun r h => by kernel_rfl)
theorem J67_8_ok (F : CallH) (M : Nat) : ∀ r h, kcode Tryd.prog F 21 M (Code.sub [true] (bodyOf Tryd.prog 67)) r h (KX (fun r h => E67 (r 6) h) (exitsOf []) (fun r h => E67 (r 6) h)) = J67_7 F M (r 0) (r 1) (r 2) h :=
  seq_pt (a := (Code.sub [true, false] (bodyOf Tryd.prog 67))) (b := (Code.sub [true, true] (bodyOf Tryd.prog 67))) (T := (fun r h => J67_7 F M (r 0) (r 1) (r 2) h)) (g := (fun r h => J67_0 F M h)) (by kernel_rfl) (J67_0_ok F M) (J67_7_ok F M)
noncomputable def J67_9 (F : CallH) (M : Nat) (v0 : Value) (v1 : Value) (v2 : Value) (h : AH) : Res :=
  J67_7 F M v0 v1 v2 h
theorem J67_9_ok (F : CallH) (M : Nat) : ∀ r h, kcode Tryd.prog F 21 M (Code.sub [] (bodyOf Tryd.prog 67)) r h (KX (fun r h => E67 (r 6) h) (exitsOf []) (fun r h => E67 (r 6) h)) = J67_9 F M (r 0) (r 1) (r 2) h :=
  seq_pt (a := (Code.sub [false] (bodyOf Tryd.prog 67))) (b := (Code.sub [true] (bodyOf Tryd.prog 67))) (T := (fun r h => J67_9 F M (r 0) (r 1) (r 2) h)) (g := (fun r h => J67_7 F M (r 0) (r 1) (r 2) h)) (by kernel_rfl) (J67_8_ok F M) (fun r h => by kernel_rfl)
noncomputable def R67 (F : CallH) (M : Nat) (x0 x1 x2 : Value) (h : AH) : Res := J67_9 F M x0 x1 x2 h
theorem R67_ok (F : CallH) (M : Nat) (x0 x1 x2 : Value) (h : AH) : kfn Tryd.prog F M 67 [x0, x1, x2] h = R67 F M x0 x1 x2 h :=
  (fn_pt (N := 21) (E := (fun r h => E67 (r 6) h)) (T := (fun r h => J67_9 F M (r 0) (r 1) (r 2) h)) Tryd.func67 (by kernel_rfl) (by kernel_rfl) (fun r h => by kernel_rfl) (J67_9_ok F M)).trans (by kernel_rfl)
/-! ### 71 strconv.baseError -/
noncomputable def E71 (v6 : Value) (h : AH) : Res := some (v6, h)
noncomputable def J71_0 (F : CallH) (M : Nat) (v0 : Value) (v1 : Value) (v2 : Value) (h : AH) : Res :=
  bindO (F 81 [v1] h) fun pv9 =>
  bindO (F 43 [v2] pv9.2) fun pv11 =>
  bindO (sbin .add (str [105, 110, 118, 97, 108, 105, 100, 32, 98, 97, 115, 101, 32]) pv11.1) fun v12 =>
  bindO (F 82 [v12] pv11.2) fun pv13 =>
  bindO (xbuild [(str []), (str []), .nilIface] [(0, 1, v0), (1, 1, pv9.1), (2, 1, pv13.1)]) fun v14 =>
  bindO (xcells 3 v14) fun v15 => newK pv13.2 (.cells v15 3) fun iv15 h4 =>
  E71 (ptrTo iv15) h4
theorem J71_0_ok (F : CallH) (M : Nat) : ∀ r h, kcode Tryd.prog F 16 M (Code.sub [] (bodyOf Tryd.prog 71)) r h (KX (fun r h => E71 (r 6) h) (exitsOf []) (fun r h => E71 (r 6) h)) = J71_0 F M (r 0) (r 1) (r 2) h := fun r h => by kernel_rfl
noncomputable def R71 (F : CallH) (M : Nat) (x0 x1 x2 : Value) (h : AH) : Res := J71_0 F M x0 x1 x2 h
theorem R71_ok (F : CallH) (M : Nat) (x0 x1 x2 : Value) (h : AH) : kfn Tryd.prog F M 71 [x0, x1, x2] h = R71 F M x0 x1 x2 h :=
  (fn_pt (N := 16) (E := (fun r h => E71 (r 6) h)) (T := (fun r h => J71_0 F M (r 0) (r 1) (r 2) h)) Tryd.func71 (by kernel_rfl) (by kernel_rfl) (fun r h => by kernel_rfl) (J71_0_ok F M)).trans (by kernel_rfl)
/-! ### 75 unicode/utf8.decodeRuneInStringSlow -/
noncomputable def E75 (v2 : Value) (v3 : Value) (h : AH) : Res := some ((.tuple #[v2, v3]), h)
noncomputable def J75_0 (F : CallH) (M : Nat) (v5 : Value) (v10 : Value) (v11 : Value) (v12 : Value) (h : AH) : Res :=
  bindO (ibin .and v5 (.int .u8 7)) fun v100 =>
  bindO (xconv .i32 v100) fun v101 =>
  bindO (ibin .shl v101 (.int .u64 18)) fun v102 =>
  bindO (ibin .and v10 (.int .u8 63)) fun v104 =>
  bindO (xconv .i32 v104) fun v105 =>
  bindO (ibin .shl v105 (.int .u64 12)) fun v106 =>
  bindO (ibin .or v102 v106) fun v107 =>
  bindO (ibin .and v11 (.int .u8 63)) fun v109 =>
  bindO (xconv .i32 v109) fun v110 =>
  bindO (ibin .shl v110 (.int .u64 6)) fun v111 =>
  bindO (ibin .or v107 v111) fun v112 =>
  bindO (ibin .and v12 (.int .u8 63)) fun v114 =>
  bindO (xconv .i32 v114) fun v115 =>
  bindO (ibin .or v112 v115) fun v116 =>
  E75 v116 (.int .i64 4) h
theorem J75_0_ok (F : CallH) (M : Nat) : ∀ r h, kcode Tryd.prog F 117 M (Code.sub [true, true, true, true, true, true, true, true, true, true, true, true, true, true, true, true, true] (bodyOf Tryd.prog 75)) r h (KX (fun r h => E75 (r 2) (r 3) h) (exitsOf []) (fun r h => E75 (r 2) (r 3) h)) = J75_0 F M (r 5) (r 10) (r 11) (r 12) h := fun r h => by kernel_rfl
noncomputable def J75_1 (F : CallH) (M : Nat) (v5 : Value) (v10 : Value) (v11 : Value) (v12 : Value) (h : AH) : Res :=
  bindO (ibin .lss v12 (.int .u8 128)) fun v94 =>
  condO v94 (
  E75 (.int .i32 65533) (.int .i64 1) h) (
  bindO (ibin .lss (.int .u8 191) v12) fun v97 =>
  condO v97 (
  E75 (.int .i32 65533) (.int .i64 1) h) (
  J75_0 F M v5 v10 v11 v12 h))
theorem J75_1_ok (F : CallH) (M : Nat) : ∀ r h, kcode Tryd.prog F 117 M (Code.sub [true, true, true, true, true, true, true, true, true, true, true, true, true, true, true, true, false] (bodyOf Tryd.prog 75)) r h (KX (fun r h => J75_0 F M (r 5) (r 10) (r 11) (r 12) h) (exitsOf []) (fun r h => E75 (r 2) (r 3) h)) = J75_1 F M (r 5) (r 10) (r 11) (r 12) h := fun r h => by kernel_rfl
theorem J75_2_ok (F : CallH) (M : Nat) : ∀ r h, kcode Tryd.prog F 117 M (Code.sub [true, true, true, true, true, true, true, true, true, true, true, true, true, true, true, true] (bodyOf Tryd.prog 75)) r h (KX (fun r h => E75 (r 2) (r 3) h) (exitsOf []) (fun r h => E75 (r 2) (r 3) h)) = J75_1 F M (r 5) (r 10) (r 11) (r 12) h :=
  seq_pt (a := (Code.sub [true, true, true, true, true, true, true, true, true, true, true, true, true, true, true, true, false] (bodyOf Tryd.prog 75))) (b := (Code.sub [true, true, true, true, true, true, true, true, true, true, true, true, true, true, true, true, true] (bodyOf Tryd.prog 75))) (T := (fun r h => J75_1 F M (r 5) (r 10) (r 11) (r 12) h)) (g := (fun r h => J75_0 F M (r 5) (r 10) (r 11) (r 12) h)) (by kernel_rfl) (J75_0_ok F M) (J75_1_ok F M)
noncomputable def J75_3 (F : CallH) (M : Nat) (v0 : Value) (v5 : Value) (v10 : Value) (v11 : Value) (h : AH) : Res :=
  bindO (ixS v0 (.int .i64 3)) fun v92 =>
  J75_1 F M v5 v10 v11 v92 h
theorem J75_3_ok (F : CallH) (M : Nat) : ∀ r h, kcode Tryd.prog F 117 M (Code.sub [true, true, true, true, true, true, true, true, true, true, true, true, true, true, true] (bodyOf Tryd.prog 75)) r h (KX (fun r h => E75 (r 2) (r 3) h) (exitsOf []) (fun r h => E75 (r 2) (r 3) h)) = J75_3 F M (r 0) (r 5) (r 10) (r 11) h :=
  seq_pt (a := (Code.sub [true, true, true, true, true, true, true, true, true, true, true, true, true, true, true, false] (bodyOf Tryd.prog 75))) (b := (Code.sub [true, true, true, true, true, true, true, true, true, true, true, true, true, true, true, true] (bodyOf Tryd.prog 75))) (T := (fun r h => J75_3 F M (r 0) (r 5) (r 10) (r 11) h)) (g := (fun r h => J75_1 F M (r 5) (r 10) (r 11) (r 12) h)) (by kernel_rfl) (J75_2_ok F M) (fun r h => by kernel_rfl)
noncomputable def J75_4 (F : CallH) (M : Nat) (v0 : Value) (v5 : Value) (v8 : Value) (v10 : Value) (v11 : Value) (h : AH) : Res :=
  bindO (ibin .leq v8 (.int .i64 3)) fun v77 =>
  condO v77 (
  bindO (ibin .and v5 (.int .u8 15)) fun v79 =>
  bindO (xconv .i32 v79) fun v80 =>
  bindO (ibin .shl v80 (.int .u64 12)) fun v81 =>
  bindO (ibin .and v10 (.int .u8 63)) fun v83 =>
  bindO (xconv .i32 v83) fun v84 =>
  bindO (ibin .shl v84 (.int .u64 6)) fun v85 =>
  bindO (ibin .or v81 v85) fun v86 =>
  bindO (ibin .and v11 (.int .u8 63)) fun v88 =>
  bindO (xconv .i32 v88) fun v89 =>
  bindO (ibin .or v86 v89) fun v90 =>
  E75 v90 (.int .i64 3) h) (
  J75_3 F M v0 v5 v10 v11 h)
theorem J75_4_ok (F : CallH) (M : Nat) : ∀ r h, kcode Tryd.prog F 117 M (Code.sub [true, true, true, true, true, true, true, true, true, true, true, true, true, true, false] (bodyOf Tryd.prog 75)) r h (KX (fun r h => J75_3 F M (r 0) (r 5) (r 10) (r 11) h) (exitsOf []) (fun r h => E75 (r 2) (r 3) h)) = J75_4 F M (r 0) (r 5) (r 8) (r 10) (r 11) h := fun r h => by kernel_rfl
theorem J75_5_ok (F : CallH) (M : Nat) : ∀ r h, kcode Tryd.prog F 117 M (Code.sub [true, true, true, true, true, true, true, true, true, true, true, true, true, true] (bodyOf Tryd.prog 75)) r h (KX (fun r h => E75 (r 2) (r 3) h) (exitsOf []) (fun r h => E75 (r 2) (r 3) h)) = J75_4 F M (r 0) (r 5) (r 8) (r 10) (r 11) h :=
  seq_pt (a := (Code.sub [true, true, true, true, true, true, true, true, true, true, true, true, true, true, false] (bodyOf Tryd.prog 75))) (b := (Code.sub [true, true, true, true, true, true, true, true, true, true, true, true, true, true, true] (bodyOf Tryd.prog 75))) (T := (fun r h => J75_4 F M (r 0) (r 5) (r 8) (r 10) (r 11) h)) (g := (fun r h => J75_3 F M (r 0) (r 5) (r 10) (r 11) h)) (by kernel_rfl) (J75_3_ok F M) (J75_4_ok F M)
noncomputable def J75_6 (F : CallH) (M : Nat) (v0 : Value) (v5 : Value) (v8 : Value) (v10 : Value) (v11 : Value) (h : AH) : Res :=
  bindO (ibin .lss v11 (.int .u8 128)) fun v71 =>
  condO v71 (
  E75 (.int .i32 65533) (.int .i64 1) h) (
  bindO (ibin .lss (.int .u8 191) v11) fun v74 =>
  condO v74 (
  E75 (.int .i32 65533) (.int .i64 1) h) (
  J75_4 F M v0 v5 v8 v10 v11 h))
theorem J75_6_ok (F : CallH) (M : Nat) : ∀ r h, kcode Tryd.prog F 117 M (Code.sub [true, true, true, true, true, true, true, true, true, true, true, true, true, false] (bodyOf Tryd.prog 75)) r h (KX (fun r h => J75_4 F M (r 0) (r 5) (r 8) (r 10) (r 11) h) (exitsOf []) (fun r h => E75 (r 2) (r 3) h)) = J75_6 F M (r 0) (r 5) (r 8) (r 10) (r 11) h := fun r h => by kernel_rfl
theorem J75_7_ok (F : CallH) (M : Nat) : ∀ r h, kcode Tryd.prog F 117 M (Code.sub [true, true, true, true, true, true, true, true, true, true, true, true, true] (bodyOf Tryd.prog 75)) r h (KX (fun r h => E75 (r 2) (r 3) h) (exitsOf []) (fun r h => E75 (r 2) (r 3) h)) = J75_6 F M (r 0) (r 5) (r 8) (r 10) (r 11) h :=
  seq_pt (a := (Code.sub [true, true, true, true, true, true, true, true, true, true, true, true, true, false] (bodyOf Tryd.prog 75))) (b := (Code.sub [true, true, true, true, true, true, true, true, true, true, true, true, true, true] (bodyOf Tryd.prog 75))) (T := (fun r h => J75_6 F M (r 0) (r 5) (r 8) (r 10) (r 11) h)) (g := (fun r h => J75_4 F M (r 0) (r 5) (r 8) (r 10) (r 11) h)) (by kernel_rfl) (J75_5_ok F M) (J75_6_ok F M)
noncomputable def J75_8 (F : CallH) (M : Nat) (v0 : Value) (v5 : Value) (v8 : Value) (v10 : Value) (h : AH) : Res :=
  bindO (ixS v0 (.int .i64 2)) fun v69 =>
  J75_6 F M v0 v5 v8 v10 v69 h
theorem J75_8_ok (F : CallH) (M : Nat) : ∀ r h, kcode Tryd.prog F 117 M (Code.sub [true, true, true, true, true, true, true, true, true, true, true, true] (bodyOf Tryd.prog 75)) r h (KX (fun r h => E75 (r 2) (r 3) h) (exitsOf []) (fun r h => E75 (r 2) (r 3) h)) = J75_8 F M (r 0) (r 5) (r 8) (r 10) h :=
  seq_pt (a := (Code.sub [true, true, true, true, true, true, true, true, true, true, true, true, false] (bodyOf Tryd.prog 75))) (b := (Code.sub [true, true, true, true, true, true, true, true, true, true, true, true, true] (bodyOf Tryd.prog 75))) (T := (fun r h => J75_8 F M (r 0) (r 5) (r 8) (r 10) h)) (g := (fun r h => J75_6 F M (r 0) (r 5) (r 8) (r 10) (r 11) h)) (by kernel_rfl) (J75_7_ok F M) (fun r h => by kernel_rfl)
noncomputable def J75_9 (F : CallH) (M : Nat) (v0 : Value) (v5 : Value) (v8 : Value) (v10 : Value) (h : AH) : Res :=
  bindO (ibin .leq v8 (.int .i64 2)) fun v59 =>
  condO v59 (
  bindO (ibin .and v5 (.int .u8 31)) fun v61 =>
  bindO (xconv .i32 v61) fun v62 =>
  bindO (ibin .shl v62 (.int .u64 6)) fun v63 =>
  bindO (ibin .and v10 (.int .u8 63)) fun v65 =>
  bindO (xconv .i32 v65) fun v66 =>
  bindO (ibin .or v63 v66) fun v67 =>
  E75 v67 (.int .i64 2) h) (
  J75_8 F M v0 v5 v8 v10 h)
theorem J75_9_ok (F : CallH) (M : Nat) : ∀ r h, kcode Tryd.prog F 117 M (Code.sub [true, true, true, true, true, true, true, true, true, true, true, false] (bodyOf Tryd.prog 75)) r h (KX (fun r h => J75_8 F M (r 0) (r 5) (r 8) (r 10) h) (exitsOf []) (fun r h => E75 (r 2) (r 3) h)) = J75_9 F M (r 0) (r 5) (r 8) (r 10) h := fun r h => by kernel_rfl
theorem J75_10_ok (F : CallH) (M : Nat) : ∀ r h, kcode Tryd.prog F 117 M (Code.sub [true, true, true, true, true, true, true, true, true, true, true] (bodyOf Tryd.prog 75)) r h (KX (fun r h => E75 (r 2) (r 3) h) (exitsOf []) (fun r h => E75 (r 2) (r 3) h)) = J75_9 F M (r 0) (r 5) (r 8) (r 10) h :=
  seq_pt (a := (Code.sub [true, true, true, true, true, true, true, true, true, true, true, false] (bodyOf Tryd.prog 75))) (b := (Code.sub [true, true, true, true, true, true, true, true, true, true, true, true] (bodyOf Tryd.prog 75))) (T := (fun r h => J75_9 F M (r 0) (r 5) (r 8) (r 10) h)) (g := (fun r h => J75_8 F M (r 0) (r 5) (r 8) (r 10) h)) (by kernel_rfl) (J75_8_ok F M) (J75_9_ok F M)
noncomputable def J75_11 (F : CallH) (M : Nat) (v0 : Value) (v5 : Value) (v8 : Value) (v9 : Value) (v10 : Value) (h : AH) : Res :=
  bindO (xfa 0 v9) fun v49 =>
  bindO (ld1 h v49) fun v50 =>
  bindO (ibin .lss v10 v50) fun v51 =>
  condO v51 (
  E75 (.int .i32 65533) (.int .i64 1) h) (
  bindO (xfa 1 v9) fun v53 =>
  bindO (ld1 h v53) fun v54 =>
  bindO (ibin .lss v54 v10) fun v56 =>
  condO v56 (
  E75 (.int .i32 65533) (.int .i64 1) h) (
  J75_9 F M v0 v5 v8 v10 h))
theorem J75_11_ok (F : CallH) (M : Nat) : ∀ r h, kcode Tryd.prog F 117 M (Code.sub [true, true, true, true, true, true, true, true, true, true, false] (bodyOf Tryd.prog 75)) r h (KX (fun r h => J75_9 F M (r 0) (r 5) (r 8) (r 10) h) (exitsOf []) (fun r h => E75 (r 2) (r 3) h)) = J75_11 F M (r 0) (r 5) (r 8) (r 9) (r 10) h := fun r h => by kernel_rfl
theorem J75_12_ok (F : CallH) (M : Nat) : ∀ r h, kcode Tryd.prog F 117 M (Code.sub [true, true, true, true, true, true, true, true, true, true] (bodyOf Tryd.prog 75)) r h (KX (fun r h => E75 (r 2) (r 3) h) (exitsOf []) (fun r h => E75 (r 2) (r 3) h)) = J75_11 F M (r 0) (r 5) (r 8) (r 9) (r 10) h :=
  seq_pt (a := (Code.sub [true, true, true, true, true, true, true, true, true, true, false] (bodyOf Tryd.prog 75))) (b := (Code.sub [true, true, true, true, true, true, true, true, true, true, true] (bodyOf Tryd.prog 75))) (T := (fun r h => J75_11 F M (r 0) (r 5) (r 8) (r 9) (r 10) h)) (g := (fun r h => J75_9 F M (r 0) (r 5) (r 8) (r 10) h)) (by kernel_rfl) (J75_10_ok F M) (J75_11_ok F M)
noncomputable def J75_13 (F : CallH) (M : Nat) (v0 : Value) (v5 : Value) (v8 : Value) (v9 : Value) (h : AH) : Res :=
  bindO (ixS v0 (.int .i64 1)) fun v47 =>
  J75_11 F M v0 v5 v8 v9 v47 h
theorem J75_13_ok (F : CallH) (M : Nat) : ∀ r h, kcode Tryd.prog F 117 M (Code.sub [true, true, true, true, true, true, true, true, true] (bodyOf Tryd.prog 75)) r h (KX (fun r h => E75 (r 2) (r 3) h) (exitsOf []) (fun r h => E75 (r 2) (r 3) h)) = J75_13 F M (r 0) (r 5) (r 8) (r 9) h :=
  seq_pt (a := (Code.sub [true, true, true, true, true, true, true, true, true, false] (bodyOf Tryd.prog 75))) (b := (Code.sub [true, true, true, true, true, true, true, true, true, true] (bodyOf Tryd.prog 75))) (T := (fun r h => J75_13 F M (r 0) (r 5) (r 8) (r 9) h)) (g := (fun r h => J75_11 F M (r 0) (r 5) (r 8) (r 9) (r 10) h)) (by kernel_rfl) (J75_12_ok F M) (fun r h => by kernel_rfl)
noncomputable def J75_14 (F : CallH) (M : Nat) (v0 : Value) (v4 : Value) (v5 : Value) (v8 : Value) (v9 : Value) (h : AH) : Res :=
  bindO (ibin .lss v4 v8) fun v45 =>
  condO v45 (
  E75 (.int .i32 65533) (.int .i64 1) h) (
  J75_13 F M v0 v5 v8 v9 h)
theorem J75_14_ok (F : CallH) (M : Nat) : ∀ r h, kcode Tryd.prog F 117 M (Code.sub [true, true, true, true, true, true, true, true, false] (bodyOf Tryd.prog 75)) r h (KX (fun r h => J75_13 F M (r 0) (r 5) (r 8) (r 9) h) (exitsOf []) (fun r h => E75 (r 2) (r 3) h)) = J75_14 F M (r 0) (r 4) (r 5) (r 8) (r 9) h := fun r h => by kernel_rfl
theorem J75_15_ok (F : CallH) (M : Nat) : ∀ r h, kcode Tryd.prog F 117 M (Code.sub [true, true, true, true, true, true, true, true] (bodyOf Tryd.prog 75)) r h (KX (fun r h => E75 (r 2) (r 3) h) (exitsOf []) (fun r h => E75 (r 2) (r 3) h)) = J75_14 F M (r 0) (r 4) (r 5) (r 8) (r 9) h :=
  seq_pt (a := (Code.sub [true, true, true, true, true, true, true, true, false] (bodyOf Tryd.prog 75))) (b := (Code.sub [true, true, true, true, true, true, true, true, true] (bodyOf Tryd.prog 75))) (T := (fun r h => J75_14 F M (r 0) (r 4) (r 5) (r 8) (r 9) h)) (g := (fun r h => J75_13 F M (r 0) (r 5) (r 8) (r 9) h)) (by kernel_rfl) (J75_13_ok F M) (J75_14_ok F M)
noncomputable def J75_16 (F : CallH) (M : Nat) (v0 : Value) (v4 : Value) (v5 : Value) (v6 : Value) (v8 : Value) (h : AH) : Res :=
  bindO (ibin .shr v6 (.int .u64 4)) fun v40 =>
  bindO (xiaA 16 2 (glob 16) v40) fun v41 =>
  bindO (ldn 2 h v41) fun v42 =>
  newK h (.cells [(.int .u8 0), (.int .u8 0)] 2) fun iv9 h1 =>
  bindO (xst 2 h1 (ptrTo iv9) v42) fun h2 =>
  J75_14 F M v0 v4 v5 v8 (ptrTo iv9) h2
theorem J75_16_ok (F : CallH) (M : Nat) : ∀ r h, kcode Tryd.prog F 117 M (Code.sub [true, true, true, true, true, true, true] (bodyOf Tryd.prog 75)) r h (KX (fun r h => E75 (r 2) (r 3) h) (exitsOf []) (fun r h => E75 (r 2) (r 3) h)) = J75_16 F M (r 0) (r 4) (r 5) (r 6) (r 8) h :=
  seq_pt (a := (Code.sub [true, true, true, true, true, true, true, false] (bodyOf Tryd.prog 75))) (b := (Code.sub [true, true, true, true, true, true, true, true] (bodyOf Tryd.prog 75))) (T := (fun r h => J75_16 F M (r 0) (r 4) (r 5) (r 6) (r 8) h)) (g := (fun r h => J75_14 F M (r 0) (r 4) (r 5) (r 8) (r 9) h)) (by kernel_rfl) (J75_15_ok F M) (fun r h => by kernel_rfl)
noncomputable def J75_17 (F : CallH) (M : Nat) (v0 : Value) (v4 : Value) (v5 : Value) (v6 : Value) (h : AH) : Res :=
  bindO (ibin .and v6 (.int .u8 7)) fun v37 =>
  bindO (xconv .i64 v37) fun v38 =>
  J75_16 F M v0 v4 v5 v6 v38 h
theorem J75_17_ok (F : CallH) (M : Nat) : ∀ r h, kcode Tryd.prog F 117 M (Code.sub [true, true, true, true, true, true] (bodyOf Tryd.prog 75)) r h (KX (fun r h => E75 (r 2) (r 3) h) (exitsOf []) (fun r h => E75 (r 2) (r 3) h)) = J75_17 F M (r 0) (r 4) (r 5) (r 6) h :=
  seq_pt (a := (Code.sub [true, true, true, true, true, true, false] (bodyOf Tryd.prog 75))) (b := (Code.sub [true, true, true, true, true, true, true] (bodyOf Tryd.prog 75))) (T := (fun r h => J75_17 F M (r 0) (r 4) (r 5) (r 6) h)) (g := (fun r h => J75_16 F M (r 0) (r 4) (r 5) (r 6) (r 8) h)) (by kernel_rfl) (J75_16_ok F M) (fun r h => by kernel_rfl)
noncomputable def J75_18 (F : CallH) (M : Nat) (v0 : Value) (v4 : Value) (v5 : Value) (v6 : Value) (h : AH) : Res :=
  bindO (ibin .geq v6 (.int .u8 240)) fun v23 =>
  condO v23 (
  bindO (xconv .i32 v6) fun v25 =>
  bindO (ibin .shl v25 (.int .u64 31)) fun v26 =>
  bindO (ibin .shr v26 (.int .u64 31)) fun v27 =>
  bindO (ixS v0 (.int .i64 0)) fun v29 =>
  bindO (xconv .i32 v29) fun v30 =>
  bindO (ibin .andNot v30 v27) fun v32 =>
  bindO (ibin .and (.int .i32 65533) v27) fun v34 =>
  bindO (ibin .or v32 v34) fun v35 =>
  E75 v35 (.int .i64 1) h) (
  J75_17 F M v0 v4 v5 v6 h)
theorem J75_18_ok (F : CallH) (M : Nat) : ∀ r h, kcode Tryd.prog F 117 M (Code.sub [true, true, true, true, true, false] (bodyOf Tryd.prog 75)) r h (KX (fun r h => J75_17 F M (r 0) (r 4) (r 5) (r 6) h) (exitsOf []) (fun r h => E75 (r 2) (r 3) h)) = J75_18 F M (r 0) (r 4) (r 5) (r 6) h := fun r h => by kernel_rfl
theorem J75_19_ok (F : CallH) (M : Nat) : ∀ r h, kcode Tryd.prog F 117 M (Code.sub [true, true, true, true, true] (bodyOf Tryd.prog 75)) r h (KX (fun r h => E75 (r 2) (r 3) h) (exitsOf []) (fun r h => E75 (r 2) (r 3) h)) = J75_18 F M (r 0) (r 4) (r 5) (r 6) h :=
  seq_pt (a := (Code.sub [true, true, true, true, true, false] (bodyOf Tryd.prog 75))) (b := (Code.sub [true, true, true, true, true, true] (bodyOf Tryd.prog 75))) (T := (fun r h => J75_18 F M (r 0) (r 4) (r 5) (r 6) h)) (g := (fun r h => J75_17 F M (r 0) (r 4) (r 5) (r 6) h)) (by kernel_rfl) (J75_17_ok F M) (J75_18_ok F M)
noncomputable def J75_20 (F : CallH) (M : Nat) (v0 : Value) (v4 : Value) (v5 : Value) (h : AH) : Res :=
  bindO (xiaA 256 1 (glob 15) v5) fun v20 =>
  bindO (ld1 h v20) fun v21 =>
  J75_18 F M v0 v4 v5 v21 h
theorem J75_20_ok (F : CallH) (M : Nat) : ∀ r h, kcode Tryd.prog F 117 M (Code.sub [true, true, true, true] (bodyOf Tryd.prog 75)) r h (KX (fun r h => E75 (r 2) (r 3) h) (exitsOf []) (fun r h => E75 (r 2) (r 3) h)) = J75_20 F M (r 0) (r 4) (r 5) h :=
  seq_pt (a := (Code.sub [true, true, true, true, false] (bodyOf Tryd.prog 75))) (b := (Code.sub [true, true, true, true, true] (bodyOf Tryd.prog 75))) (T := (fun r h => J75_20 F M (r 0) (r 4) (r 5) h)) (g := (fun r h => J75_18 F M (r 0) (r 4) (r 5) (r 6) h)) (by kernel_rfl) (J75_19_ok F M) (fun r h => by kernel_rfl)
noncomputable def J75_21 (F : CallH) (M : Nat) (v0 : Value) (v4 : Value) (h : AH) : Res :=
  bindO (ixS v0 (.int .i64 0)) fun v18 =>
  J75_20 F M v0 v4 v18 h
theorem J75_21_ok (F : CallH) (M : Nat) : ∀ r h, kcode Tryd.prog F 117 M (Code.sub [true, true, true] (bodyOf Tryd.prog 75)) r h (KX (fun r h => E75 (r 2) (r 3) h) (exitsOf []) (fun r h => E75 (r 2) (r 3) h)) = J75_21 F M (r 0) (r 4) h :=
  seq_pt (a := (Code.sub [true, true, true, false] (bodyOf Tryd.prog 75))) (b := (Code.sub [true, true, true, true] (bodyOf Tryd.prog 75))) (T := (fun r h => J75_21 F M (r 0) (r 4) h)) (g := (fun r h => J75_20 F M (r 0) (r 4) (r 5) h)) (by kernel_rfl) (J75_20_ok F M) (fun r h => by kernel_rfl)
noncomputable def J75_22 (F : CallH) (M : Nat) (v0 : Value) (v4 : Value) (h : AH) : Res :=
  bindO (ibin .lss v4 (.int .i64 1)) fun v16 =>
  condO v16 (
  E75 (.int .i32 65533) (.int .i64 0) h) (
  J75_21 F M v0 v4 h)
theorem J75_22_ok (F : CallH) (M : Nat) : ∀ r h, kcode Tryd.prog F 117 M (Code.sub [true, true, false] (bodyOf Tryd.prog 75)) r h (KX (fun r h => J75_21 F M (r 0) (r 4) h) (exitsOf []) (fun r h => E75 (r 2) (r 3) h)) = J75_22 F M (r 0) (r 4) h := fun r h => by kernel_rfl
theorem J75_23_ok (F : CallH) (M : Nat) : ∀ r h, kcode Tryd.prog F 117 M (Code.sub [true, true] (bodyOf Tryd.prog 75)) r h (KX (fun r h => E75 (r 2) (r 3) h) (exitsOf []) (fun r h => E75 (r 2) (r 3) h)) = J75_22 F M (r 0) (r 4) h :=
  seq_pt (a := (Code.sub [true, true, false] (bodyOf Tryd.prog 75))) (b := (Code.sub [true, true, true] (bodyOf Tryd.prog 75))) (T := (fun r h => J75_22 F M (r 0) (r 4) h)) (g := (fun r h => J75_21 F M (r 0) (r 4) h)) (by kernel_rfl) (J75_21_ok F M) (J75_22_ok F M)
noncomputable def J75_24 (F : CallH) (M : Nat) (v0 : Value) (h : AH) : Res :=
  bindO (xlenS v0) fun v14 =>
  J75_22 F M v0 v14 h
theorem J75_24_ok (F : CallH) (M : Nat) : ∀ r h, kcode Tryd.prog F 117 M (Code.sub [true] (bodyOf Tryd.prog 75)) r h (KX (fun r h => E75 (r 2) (r 3) h) (exitsOf []) (fun r h => E75 (r 2) (r 3) h)) = J75_24 F M (r 0) h :=
  seq_pt (a := (Code.sub [true, false] (bodyOf Tryd.prog 75))) (b := (Code.sub [true, true] (bodyOf Tryd.prog 75))) (T := (fun r h => J75_24 F M (r 0) h)) (g := (fun r h => J75_22 F M (r 0) (r 4) h)) (by kernel_rfl) (J75_23_ok F M) (fun r h => by kernel_rfl)
noncomputable def J75_25 (F : CallH) (M : Nat) (v0 : Value) (h : AH) : Res :=
  J75_24 F M v0 h
theorem J75_25_ok (F : CallH) (M : Nat) : ∀ r h, kcode Tryd.prog F 117 M (Code.sub [] (bodyOf Tryd.prog 75)) r h (KX (fun r h => E75 (r 2) (r 3) h) (exitsOf []) (fun r h => E75 (r 2) (r 3) h)) = J75_25 F M (r 0) h :=
  seq_pt (a := (Code.sub [false] (bodyOf Tryd.prog 75))) (b := (Code.sub [true] (bodyOf Tryd.prog 75))) (T := (fun r h => J75_25 F M (r 0) h)) (g := (fun r h => J75_24 F M (r 0) h)) (by kernel_rfl) (J75_24_ok F M) (fun r h => by kernel_rfl)
noncomputable def R75 (F : CallH) (M : Nat) (x0 : Value) (h : AH) : Res := J75_25 F M x0 h
theorem R75_ok (F : CallH) (M : Nat) (x0 : Value) (h : AH) : kfn Tryd.prog F M 75 [x0] h = R75 F M x0 h :=
  (fn_pt (N := 117) (E := (fun r h => E75 (r 2) (r 3) h)) (T := (fun r h => J75_25 F M (r 0) h)) Tryd.func75 (by kernel_rfl) (by kernel_rfl) (fun r h => by kernel_rfl) (J75_25_ok F M)).trans (by kernel_rfl)
/-! ### 79 internal/bytealg.IndexRabinKarp[string] -/
noncomputable def E79 (v4 : Value) (h : AH) : Res := some (v4, h)
noncomputable def J79_0 (F : CallH) (M : Nat) (h : AH) : Res :=
  E79 (.int .i64 (-1)) h
theorem J79_0_ok (F : CallH) (M : Nat) : ∀ r h, kcode Tryd.prog F 81 M (Code.sub [true, true, true, true, true, true, true] (bodyOf Tryd.prog 79)) r h (KX (fun r h => E79 (r 4) h) (exitsOf []) (fun r h => E79 (r 4) h)) = J79_0 F M h := fun r h => by kernel_rfl
noncomputable def J79_2 (F : CallH) (M : Nat) (L1 : Value → Value → Value → Value → Value → Value → Value → AH → Res) (v0 : Value) (v1 : Value) (v5 : Value) (v6 : Value) (v7 : Value) (v8 : Value) (v10 : Value) (h : AH) : Res :=
  bindO (ibin .mul v8 (.int .u32 16777619)) fun v46 =>
  bindO (ixS v0 v10) fun v50 =>
  bindO (xconv .u32 v50) fun v51 =>
  bindO (ibin .add v46 v51) fun v52 =>
  bindO (ibin .sub v10 v7) fun v58 =>
  bindO (ixS v0 v58) fun v59 =>
  bindO (xconv .u32 v59) fun v60 =>
  bindO (ibin .mul v6 v60) fun v61 =>
  bindO (ibin .sub v52 v61) fun v62 =>
  bindO (ibin .add v10 (.int .i64 1)) fun v64 =>
  bindO (ibin .eql v62 v5) fun v67 =>
  condO v67 (
  bindO (ibin .sub v64 v7) fun v72 =>
  bindO (xslS v0 (some v72) (some v64)) fun v74 =>
  bindO (sbin .eql v74 v1) fun v76 =>
  condO v76 (
  bindO (ibin .sub v64 v7) fun v80 =>
  E79 v80 h) (
  L1 v0 v1 v5 v6 v7 v62 v64 h)) (
  L1 v0 v1 v5 v6 v7 v62 v64 h)
theorem J79_2_ok (F : CallH) (M : Nat) (L1 : Value → Value → Value → Value → Value → Value → Value → AH → Res) : ∀ r h, kcode Tryd.prog F 81 M (Code.sub [true, true, true, true, true, true, false, true, false, false, true] (bodyOf Tryd.prog 79)) r h (KX (fun r h => L1 (r 0) (r 1) (r 5) (r 6) (r 7) (r 8) (r 10) h) (exitsOf [(2, (fun r h => J79_0 F M h))]) (fun r h => E79 (r 4) h)) = J79_2 F M L1 (r 0) (r 1) (r 5) (r 6) (r 7) (r 8) (r 10) h := fun r h => by kernel_rfl
noncomputable def J79_3 (F : CallH) (M : Nat) (L1 : Value → Value → Value → Value → Value → Value → Value → AH → Res) (v0 : Value) (v1 : Value) (v5 : Value) (v6 : Value) (v7 : Value) (v8 : Value) (v10 : Value) (h : AH) : Res :=
  bindO (xlenS v0) fun v43 =>
  bindO (ibin .lss v10 v43) fun v44 =>
  condO v44 (
  J79_2 F M L1 v0 v1 v5 v6 v7 v8 v10 h) (
  J79_0 F M h)
theorem J79_3_ok (F : CallH) (M : Nat) (L1 : Value → Value → Value → Value → Value → Value → Value → AH → Res) : ∀ r h, kcode Tryd.prog F 81 M (Code.sub [true, true, true, true, true, true, false, true, false, false, false] (bodyOf Tryd.prog 79)) r h (KX (fun r h => J79_2 F M L1 (r 0) (r 1) (r 5) (r 6) (r 7) (r 8) (r 10) h) (exitsOf [(2, (fun r h => J79_0 F M h))]) (fun r h => E79 (r 4) h)) = J79_3 F M L1 (r 0) (r 1) (r 5) (r 6) (r 7) (r 8) (r 10) h := fun r h => by kernel_rfl
theorem J79_4_ok (F : CallH) (M : Nat) (L1 : Value → Value → Value → Value → Value → Value → Value → AH → Res) : ∀ r h, kcode Tryd.prog F 81 M (Code.sub [true, true, true, true, true, true, false, true, false, false] (bodyOf Tryd.prog 79)) r h (KX (fun r h => L1 (r 0) (r 1) (r 5) (r 6) (r 7) (r 8) (r 10) h) (exitsOf [(2, (fun r h => J79_0 F M h))]) (fun r h => E79 (r 4) h)) = J79_3 F M L1 (r 0) (r 1) (r 5) (r 6) (r 7) (r 8) (r 10) h :=
  seq_pt (a := (Code.sub [true, true, true, true, true, true, false, true, false, false, false] (bodyOf Tryd.prog 79))) (b := (Code.sub [true, true, true, true, true, true, false, true, false, false, true] (bodyOf Tryd.prog 79))) (T := (fun r h => J79_3 F M L1 (r 0) (r 1) (r 5) (r 6) (r 7) (r 8) (r 10) h)) (g := (fun r h => J79_2 F M L1 (r 0) (r 1) (r 5) (r 6) (r 7) (r 8) (r 10) h)) (by kernel_rfl) (J79_2_ok F M L1) (J79_3_ok F M L1)
noncomputable def L79_1 (F : CallH) (M : Nat) : Nat → Value → Value → Value → Value → Value → Value → Value → AH → Res
  | 0, _, _, _, _, _, _, _, _ => none
  | m + 1, v0, v1, v5, v6, v7, v8, v10, h => J79_3 F M (L79_1 F M m) v0 v1 v5 v6 v7 v8 v10 h
theorem L79_1_ok (F : CallH) (M : Nat) : ∀ r h, kcode Tryd.prog F 81 M (Code.sub [true, true, true, true, true, true, false, true, false] (bodyOf Tryd.prog 79)) r h (KX (fun r h => J79_0 F M h) (exitsOf [(2, (fun r h => J79_0 F M h))]) (fun r h => E79 (r 4) h)) = L79_1 F M M (r 0) (r 1) (r 5) (r 6) (r 7) (r 8) (r 10) h :=
  loop_pt (b := (Code.sub [true, true, true, true, true, true, false, true, false, false] (bodyOf Tryd.prog 79))) (by kernel_rfl) (fun m r h => L79_1 F M m (r 0) (r 1) (r 5) (r 6) (r 7) (r 8) (r 10) h) (fun _ _ => rfl) (fun m r h => ((J79_4_ok F M (L79_1 F M m)) r h).trans rfl)
theorem J79_5_ok (F : CallH) (M : Nat) : ∀ r h, kcode Tryd.prog F 81 M (Code.sub [true, true, true, true, true, true, false, true] (bodyOf Tryd.prog 79)) r h (KX (fun r h => J79_0 F M h) (exitsOf []) (fun r h => E79 (r 4) h)) = L79_1 F M M (r 0) (r 1) (r 5) (r 6) (r 7) (r 8) (r 10) h :=
  block_pt (b := (Code.sub [true, true, true, true, true, true, false, true, false] (bodyOf Tryd.prog 79))) (T := (fun r h => L79_1 F M M (r 0) (r 1) (r 5) (r 6) (r 7) (r 8) (r 10) h)) (id := 2) (by kernel_rfl) (L79_1_ok F M)
noncomputable def J79_6 (F : CallH) (M : Nat) (v0 : Value) (v1 : Value) (v5 : Value) (v6 : Value) (v7 : Value) (v8 : Value) (h : AH) : Res :=
  L79_1 F M M v0 v1 v5 v6 v7 v8 v7 h
theorem J79_6_ok (F : CallH) (M : Nat) : ∀ r h, kcode Tryd.prog F 81 M (Code.sub [true, true, true, true, true, true, false] (bodyOf Tryd.prog 79)) r h (KX (fun r h => J79_0 F M h) (exitsOf []) (fun r h => E79 (r 4) h)) = J79_6 F M (r 0) (r 1) (r 5) (r 6) (r 7) (r 8) h :=
  seq_pt (a := (Code.sub [true, true, true, true, true, true, false, false] (bodyOf Tryd.prog 79))) (b := (Code.sub [true, true, true, true, true, true, false, true] (bodyOf Tryd.prog 79))) (T := (fun r h => J79_6 F M (r 0) (r 1) (r 5) (r 6) (r 7) (r 8) h)) (g := (fun r h => L79_1 F M M (r 0) (r 1) (r 5) (r 6) (r 7) (r 8) (r 10) h)) (by kernel_rfl) (J79_5_ok F M) (fun r h => by kernel_rfl)
theorem J79_7_ok (F : CallH) (M : Nat) : ∀ r h, kcode Tryd.prog F 81 M (Code.sub [true, true, true, true, true, true] (bodyOf Tryd.prog 79)) r h (KX (fun r h => E79 (r 4) h) (exitsOf []) (fun r h => E79 (r 4) h)) = J79_6 F M (r 0) (r 1) (r 5) (r 6) (r 7) (r 8) h :=
  seq_pt (a := (Code.sub [true, true, true, true, true, true, false] (bodyOf Tryd.prog 79))) (b := (Code.sub [true, true, true, true, true, true, true] (bodyOf Tryd.prog 79))) (T := (fun r h => J79_6 F M (r 0) (r 1) (r 5) (r 6) (r 7) (r 8) h)) (g := (fun r h => J79_0 F M h)) (by kernel_rfl) (J79_0_ok F M) (J79_6_ok F M)
noncomputable def J79_8 (F : CallH) (M : Nat) (v0 : Value) (v1 : Value) (v5 : Value) (v6 : Value) (v7 : Value) (v8 : Value) (h : AH) : Res :=
  bindO (ibin .eql v8 v5) fun v32 =>
  condO v32 (
  bindO (xslS v0 none (some v7)) fun v36 =>
  bindO (sbin .eql v36 v1) fun v38 =>
  condO v38 (
  E79 (.int .i64 0) h) (
  J79_6 F M v0 v1 v5 v6 v7 v8 h)) (
  J79_6 F M v0 v1 v5 v6 v7 v8 h)
theorem J79_8_ok (F : CallH) (M : Nat) : ∀ r h, kcode Tryd.prog F 81 M (Code.sub [true, true, true, true, true, false] (bodyOf Tryd.prog 79)) r h (KX (fun r h => J79_6 F M (r 0) (r 1) (r 5) (r 6) (r 7) (r 8) h) (exitsOf []) (fun r h => E79 (r 4) h)) = J79_8 F M (r 0) (r 1) (r 5) (r 6) (r 7) (r 8) h := fun r h => by kernel_rfl
theorem J79_9_ok (F : CallH) (M : Nat) : ∀ r h, kcode Tryd.prog F 81 M (Code.sub [true, true, true, true, true] (bodyOf Tryd.prog 79)) r h (KX (fun r h => E79 (r 4) h) (exitsOf []) (fun r h => E79 (r 4) h)) = J79_8 F M (r 0) (r 1) (r 5) (r 6) (r 7) (r 8) h :=
  seq_pt (a := (Code.sub [true, true, true, true, true, false] (bodyOf Tryd.prog 79))) (b := (Code.sub [true, true, true, true, true, true] (bodyOf Tryd.prog 79))) (T := (fun r h => J79_8 F M (r 0) (r 1) (r 5) (r 6) (r 7) (r 8) h)) (g := (fun r h => J79_6 F M (r 0) (r 1) (r 5) (r 6) (r 7) (r 8) h)) (by kernel_rfl) (J79_7_ok F M) (J79_8_ok F M)
noncomputable def J79_11 (F : CallH) (M : Nat) (L10 : Value → Value → Value → Value → Value → Value → Value → AH → Res) (v0 : Value) (v1 : Value) (v5 : Value) (v6 : Value) (v7 : Value) (v8 : Value) (v9 : Value) (h : AH) : Res :=
  bindO (ibin .add v9 (.int .i64 1)) fun v22 =>
  L10 v0 v1 v5 v6 v7 v8 v22 h
theorem J79_11_ok (F : CallH) (M : Nat) (L10 : Value → Value → Value → Value → Value → Value → Value → AH → Res) : ∀ r h, kcode Tryd.prog F 81 M (Code.sub [true, true, true, true, false, true, false, false, true, true] (bodyOf Tryd.prog 79)) r h (KX (fun r h => L10 (r 0) (r 1) (r 5) (r 6) (r 7) (r 8) (r 9) h) (exitsOf [(0, (fun r h => J79_8 F M (r 0) (r 1) (r 5) (r 6) (r 7) (r 8) h))]) (fun r h => E79 (r 4) h)) = J79_11 F M L10 (r 0) (r 1) (r 5) (r 6) (r 7) (r 8) (r 9) h := fun r h => by kernel_rfl
noncomputable def J79_12 (F : CallH) (M : Nat) (L10 : Value → Value → Value → Value → Value → Value → Value → AH → Res) (v0 : Value) (v1 : Value) (v5 : Value) (v6 : Value) (v7 : Value) (v8 : Value) (v9 : Value) (h : AH) : Res :=
  bindO (ibin .mul v8 (.int .u32 16777619)) fun v24 =>
  bindO (ixS v0 v9) fun v27 =>
  bindO (xconv .u32 v27) fun v28 =>
  bindO (ibin .add v24 v28) fun v29 =>
  J79_11 F M L10 v0 v1 v5 v6 v7 v29 v9 h
theorem J79_12_ok (F : CallH) (M : Nat) (L10 : Value → Value → Value → Value → Value → Value → Value → AH → Res) : ∀ r h, kcode Tryd.prog F 81 M (Code.sub [true, true, true, true, false, true, false, false, true, false] (bodyOf Tryd.prog 79)) r h (KX (fun r h => J79_11 F M L10 (r 0) (r 1) (r 5) (r 6) (r 7) (r 8) (r 9) h) (exitsOf [(0, (fun r h => J79_8 F M (r 0) (r 1) (r 5) (r 6) (r 7) (r 8) h))]) (fun r h => E79 (r 4) h)) = J79_12 F M L10 (r 0) (r 1) (r 5) (r 6) (r 7) (r 8) (r 9) h := fun r h => by kernel_rfl
theorem J79_13_ok (F : CallH) (M : Nat) (L10 : Value → Value → Value → Value → Value → Value → Value → AH → Res) : ∀ r h, kcode Tryd.prog F 81 M (Code.sub [true, true, true, true, false, true, false, false, true] (bodyOf Tryd.prog 79)) r h (KX (fun r h => L10 (r 0) (r 1) (r 5) (r 6) (r 7) (r 8) (r 9) h) (exitsOf [(0, (fun r h => J79_8 F M (r 0) (r 1) (r 5) (r 6) (r 7) (r 8) h))]) (fun r h => E79 (r 4) h)) = J79_12 F M L10 (r 0) (r 1) (r 5) (r 6) (r 7) (r 8) (r 9) h :=
  seq_pt (a := (Code.sub [true, true, true, true, false, true, false, false, true, false] (bodyOf Tryd.prog 79))) (b := (Code.sub [true, true, true, true, false, true, false, false, true, true] (bodyOf Tryd.prog 79))) (T := (fun r h => J79_12 F M L10 (r 0) (r 1) (r 5) (r 6) (r 7) (r 8) (r 9) h)) (g := (fun r h => J79_11 F M L10 (r 0) (r 1) (r 5) (r 6) (r 7) (r 8) (r 9) h)) (by kernel_rfl) (J79_11_ok F M L10) (J79_12_ok F M L10)
noncomputable def J79_14 (F : CallH) (M : Nat) (L10 : Value → Value → Value → Value → Value → Value → Value → AH → Res) (v0 : Value) (v1 : Value) (v5 : Value) (v6 : Value) (v7 : Value) (v8 : Value) (v9 : Value) (h : AH) : Res :=
  bindO (ibin .lss v9 v7) fun v20 =>
  condO v20 (
  J79_12 F M L10 v0 v1 v5 v6 v7 v8 v9 h) (
  J79_8 F M v0 v1 v5 v6 v7 v8 h)
theorem J79_14_ok (F : CallH) (M : Nat) (L10 : Value → Value → Value → Value → Value → Value → Value → AH → Res) : ∀ r h, kcode Tryd.prog F 81 M (Code.sub [true, true, true, true, false, true, false, false, false] (bodyOf Tryd.prog 79)) r h (KX (fun r h => J79_12 F M L10 (r 0) (r 1) (r 5) (r 6) (r 7) (r 8) (r 9) h) (exitsOf [(0, (fun r h => J79_8 F M (r 0) (r 1) (r 5) (r 6) (r 7) (r 8) h))]) (fun r h => E79 (r 4) h)) = J79_14 F M L10 (r 0) (r 1) (r 5) (r 6) (r 7) (r 8) (r 9) h := fun r h => by kernel_rfl
theorem J79_15_ok (F : CallH) (M : Nat) (L10 : Value → Value → Value → Value → Value → Value → Value → AH → Res) : ∀ r h, kcode Tryd.prog F 81 M (Code.sub [true, true, true, true, false, true, false, false] (bodyOf Tryd.prog 79)) r h (KX (fun r h => L10 (r 0) (r 1) (r 5) (r 6) (r 7) (r 8) (r 9) h) (exitsOf [(0, (fun r h => J79_8 F M (r 0) (r 1) (r 5) (r 6) (r 7) (r 8) h))]) (fun r h => E79 (r 4) h)) = J79_14 F M L10 (r 0) (r 1) (r 5) (r 6) (r 7) (r 8) (r 9) h :=
  seq_pt (a := (Code.sub [true, true, true, true, false, true, false, false, false] (bodyOf Tryd.prog 79))) (b := (Code.sub [true, true, true, true, false, true, false, false, true] (bodyOf Tryd.prog 79))) (T := (fun r h => J79_14 F M L10 (r 0) (r 1) (r 5) (r 6) (r 7) (r 8) (r 9) h)) (g := (fun r h => J79_12 F M L10 (r 0) (r 1) (r 5) (r 6) (r 7) (r 8) (r 9) h)) (by kernel_rfl) (J79_13_ok F M L10) (J79_14_ok F M L10)
noncomputable def L79_10 (F : CallH) (M : Nat) : Nat → Value → Value → Value → Value → Value → Value → Value → AH → Res
  | 0, _, _, _, _, _, _, _, _ => none
  | m + 1, v0, v1, v5, v6, v7, v8, v9, h => J79_14 F M (L79_10 F M m) v0 v1 v5 v6 v7 v8 v9 h
theorem L79_10_ok (F : CallH) (M : Nat) : ∀ r h, kcode Tryd.prog F 81 M (Code.sub [true, true, true, true, false, true, false] (bodyOf Tryd.prog 79)) r h (KX (fun r h => J79_8 F M (r 0) (r 1) (r 5) (r 6) (r 7) (r 8) h) (exitsOf [(0, (fun r h => J79_8 F M (r 0) (r 1) (r 5) (r 6) (r 7) (r 8) h))]) (fun r h => E79 (r 4) h)) = L79_10 F M M (r 0) (r 1) (r 5) (r 6) (r 7) (r 8) (r 9) h :=
  loop_pt (b := (Code.sub [true, true, true, true, false, true, false, false] (bodyOf Tryd.prog 79))) (by kernel_rfl) (fun m r h => L79_10 F M m (r 0) (r 1) (r 5) (r 6) (r 7) (r 8) (r 9) h) (fun _ _ => rfl) (fun m r h => ((J79_15_ok F M (L79_10 F M m)) r h).trans rfl)
theorem J79_16_ok (F : CallH) (M : Nat) : ∀ r h, kcode Tryd.prog F 81 M (Code.sub [true, true, true, true, false, true] (bodyOf Tryd.prog 79)) r h (KX (fun r h => J79_8 F M (r 0) (r 1) (r 5) (r 6) (r 7) (r 8) h) (exitsOf []) (fun r h => E79 (r 4) h)) = L79_10 F M M (r 0) (r 1) (r 5) (r 6) (r 7) (r 8) (r 9) h :=
  block_pt (b := (Code.sub [true, true, true, true, false, true, false] (bodyOf Tryd.prog 79))) (T := (fun r h => L79_10 F M M (r 0) (r 1) (r 5) (r 6) (r 7) (r 8) (r 9) h)) (id := 0) (by kernel_rfl) (L79_10_ok F M)
noncomputable def J79_17 (F : CallH) (M : Nat) (v0 : Value) (v1 : Value) (v5 : Value) (v6 : Value) (v7 : Value) (v8 : Value) (h : AH) : Res :=
  L79_10 F M M v0 v1 v5 v6 v7 v8 (.int .i64 0) h
theorem J79_17_ok (F : CallH) (M : Nat) : ∀ r h, kcode Tryd.prog F 81 M (Code.sub [true, true, true, true, false] (bodyOf Tryd.prog 79)) r h (KX (fun r h => J79_8 F M (r 0) (r 1) (r 5) (r 6) (r 7) (r 8) h) (exitsOf []) (fun r h => E79 (r 4) h)) = J79_17 F M (r 0) (r 1) (r 5) (r 6) (r 7) (r 8) h :=
  seq_pt (a := (Code.sub [true, true, true, true, false, false] (bodyOf Tryd.prog 79))) (b := (Code.sub [true, true, true, true, false, true] (bodyOf Tryd.prog 79))) (T := (fun r h => J79_17 F M (r 0) (r 1) (r 5) (r 6) (r 7) (r 8) h)) (g := (fun r h => L79_10 F M M (r 0) (r 1) (r 5) (r 6) (r 7) (r 8) (r 9) h)) (by kernel_rfl) (J79_16_ok F M) (fun r h => by kernel_rfl)
theorem J79_18_ok (F : CallH) (M : Nat) : ∀ r h, kcode Tryd.prog F 81 M (Code.sub [true, true, true, true] (bodyOf Tryd.prog 79)) r h (KX (fun r h => E79 (r 4) h) (exitsOf []) (fun r h => E79 (r 4) h)) = J79_17 F M (r 0) (r 1) (r 5) (r 6) (r 7) (r 8) h :=
  seq_pt (a := (Code.sub [true, true, true, true, false] (bodyOf Tryd.prog 79))) (b := (Code.sub [true, true, true, true, true] (bodyOf Tryd.prog 79))) (T := (fun r h => J79_17 F M (r 0) (r 1) (r 5) (r 6) (r 7) (r 8) h)) (g := (fun r h => J79_8 F M (r 0) (r 1) (r 5) (r 6) (r 7) (r 8) h)) (by kernel_rfl) (J79_9_ok F M) (J79_17_ok F M)
noncomputable def J79_19 (F : CallH) (M : Nat) (v0 : Value) (v1 : Value) (v5 : Value) (v6 : Value) (v7 : Value) (h : AH) : Res :=
  J79_17 F M v0 v1 v5 v6 v7 (.int .u32 0) h
theorem J79_19_ok (F : CallH) (M : Nat) : ∀ r h, kcode Tryd.prog F 81 M (Code.sub [true, true, true] (bodyOf Tryd.prog 79)) r h (KX (fun r h => E79 (r 4) h) (exitsOf []) (fun r h => E79 (r 4) h)) = J79_19 F M (r 0) (r 1) (r 5) (r 6) (r 7) h :=
  seq_pt (a := (Code.sub [true, true, true, false] (bodyOf Tryd.prog 79))) (b := (Code.sub [true, true, true, true] (bodyOf Tryd.prog 79))) (T := (fun r h => J79_19 F M (r 0) (r 1) (r 5) (r 6) (r 7) h)) (g := (fun r h => J79_17 F M (r 0) (r 1) (r 5) (r 6) (r 7) (r 8) h)) (by kernel_rfl) (J79_18_ok F M) (fun r h => by kernel_rfl)
noncomputable def J79_20 (F : CallH) (M : Nat) (v0 : Value) (v1 : Value) (v5 : Value) (v6 : Value) (h : AH) : Res :=
  bindO (xlenS v1) fun v17 =>
  J79_19 F M v0 v1 v5 v6 v17 h
theorem J79_20_ok (F : CallH) (M : Nat) : ∀ r h, kcode Tryd.prog F 81 M (Code.sub [true, true] (bodyOf Tryd.prog 79)) r h (KX (fun r h => E79 (r 4) h) (exitsOf []) (fun r h => E79 (r 4) h)) = J79_20 F M (r 0) (r 1) (r 5) (r 6) h :=
  seq_pt (a := (Code.sub [true, true, false] (bodyOf Tryd.prog 79))) (b := (Code.sub [true, true, true] (bodyOf Tryd.prog 79))) (T := (fun r h => J79_20 F M (r 0) (r 1) (r 5) (r 6) h)) (g := (fun r h => J79_19 F M (r 0) (r 1) (r 5) (r 6) (r 7) h)) (by kernel_rfl) (J79_19_ok F M) (fun r h => by kernel_rfl)
noncomputable def J79_21 (F : CallH) (M : Nat) (v0 : Value) (v1 : Value) (h : AH) : Res :=
  bindO (F 88 [v1] h) fun pv13 =>
  bindO (xext 0 pv13.1) fun v14 =>
  bindO (xext 1 pv13.1) fun v15 =>
  J79_20 F M v0 v1 v14 v15 pv13.2
theorem J79_21_ok (F : CallH) (M : Nat) : ∀ r h, kcode Tryd.prog F 81 M (Code.sub [true] (bodyOf Tryd.prog 79)) r h (KX (fun r h => E79 (r 4) h) (exitsOf []) (fun r h => E79 (r 4) h)) = J79_21 F M (r 0) (r 1) h :=
  seq_pt (a := (Code.sub [true, false] (bodyOf Tryd.prog 79))) (b := (Code.sub [true, true] (bodyOf Tryd.prog 79))) (T := (fun r h => J79_21 F M (r 0) (r 1) h)) (g := (fun r h => J79_20 F M (r 0) (r 1) (r 5) (r 6) h)) (by kernel_rfl) (J79_20_ok F M) (fun r h => by kernel_rfl)
noncomputable def J79_22 (F : CallH) (M : Nat) (v0 : Value) (v1 : Value) (h : AH) : Res :=
  J79_21 F M v0 v1 h
theorem J79_22_ok (F : CallH) (M : Nat) : ∀ r h, kcode Tryd.prog F 81 M (Code.sub [] (bodyOf Tryd.prog 79)) r h (KX (fun r h => E79 (r 4) h) (exitsOf []) (fun r h => E79 (r 4) h)) = J79_22 F M (r 0) (r 1) h :=
  seq_pt (a := (Code.sub [false] (bodyOf Tryd.prog 79))) (b := (Code.sub [true] (bodyOf Tryd.prog 79))) (T := (fun r h => J79_22 F M (r 0) (r 1) h)) (g := (fun r h => J79_21 F M (r 0) (r 1) h)) (by kernel_rfl) (J79_21_ok F M) (fun r h => by kernel_rfl)
noncomputable def R79 (F : CallH) (M : Nat) (x0 x1 : Value) (h : AH) : Res := J79_22 F M x0 x1 h
theorem R79_ok (F : CallH) (M : Nat) (x0 x1 : Value) (h : AH) : kfn Tryd.prog F M 79 [x0, x1] h = R79 F M x0 x1 h :=
  (fn_pt (N := 81) (E := (fun r h => E79 (r 4) h)) (T := (fun r h => J79_22 F M (r 0) (r 1) h)) Tryd.func79 (by kernel_rfl) (by kernel_rfl) (fun r h => by kernel_rfl) (J79_22_ok F M)).trans (by kernel_rfl)
/-! ### 83 internal/strconv.small -/
noncomputable def E83 (v2 : Value) (h : AH) : Res := some (v2, h)
noncomputable def J83_0 (F : CallH) (M : Nat) (v0 : Value) (h : AH) : Res :=
  bindO (ibin .mul v0 (.int .i64 2)) fun v10 =>
  bindO (ibin .mul v0 (.int .i64 2)) fun v12 =>
  bindO (ibin .add v12 (.int .i64 2)) fun v13 =>
  bindO (xslS (str [48, 48, 48, 49, 48, 50, 48, 51, 48, 52, 48, 53, 48, 54, 48, 55, 48, 56, 48, 57, 49, 48, 49, 49, 49, 50, 49, 51, 49, 52, 49, 53, 49, 54, 49, 55, 49, 56, 49, 57, 50, 48, 50, 49, 50, 50, 50, 51, 50, 52, 50, 53, 50, 54, 50, 55, 50, 56, 50, 57, 51, 48, 51, 49, 51, 50, 51, 51, 51, 52, 51, 53, 51, 54, 51, 55, 51, 56, 51, 57, 52, 48, 52, 49, 52, 50, 52, 51, 52, 52, 52, 53, 52, 54, 52, 55, 52, 56, 52, 57, 53, 48, 53, 49, 53, 50, 53, 51, 53, 52, 53, 53, 53, 54, 53, 55, 53, 56, 53, 57, 54, 48, 54, 49, 54, 50, 54, 51, 54, 52, 54, 53, 54, 54, 54, 55, 54, 56, 54, 57, 55, 48, 55, 49, 55, 50, 55, 51, 55, 52, 55, 53, 55, 54, 55, 55, 55, 56, 55, 57, 56, 48, 56, 49, 56, 50, 56, 51, 56, 52, 56, 53, 56, 54, 56, 55, 56, 56, 56, 57, 57, 48, 57, 49, 57, 50, 57, 51, 57, 52, 57, 53, 57, 54, 57, 55, 57, 56, 57, 57]) (some v10) (some v13)) fun v14 =>
  E83 v14 h
theorem J83_0_ok (F : CallH) (M : Nat) : ∀ r h, kcode Tryd.prog F 15 M (Code.sub [true, true] (bodyOf Tryd.prog 83)) r h (KX (fun r h => E83 (r 2) h) (exitsOf []) (fun r h => E83 (r 2) h)) = J83_0 F M (r 0) h := fun r h => by kernel_rfl
noncomputable def J83_1 (F : CallH) (M : Nat) (v0 : Value) (h : AH) : Res :=
  bindO (ibin .lss v0 (.int .i64 10)) fun v4 =>
  condO v4 (
  bindO (ibin .add v0 (.int .i64 1)) fun v7 =>
  bindO (xslS (str [48, 49, 50, 51, 52, 53, 54, 55, 56, 57, 97, 98, 99, 100, 101, 102, 103, 104, 105, 106, 107, 108, 109, 110, 111, 112, 113, 114, 115, 116, 117, 118, 119, 120, 121, 122]) (some v0) (some v7)) fun v8 =>
  E83 v8 h) (
  J83_0 F M v0 h)
theorem J83_1_ok (F : CallH) (M : Nat) : ∀ r h, kcode Tryd.prog F 15 M (Code.sub [true, false] (bodyOf Tryd.prog 83)) r h (KX (fun r h => J83_0 F M (r 0) h) (exitsOf []) (fun r h => E83 (r 2) h)) = J83_1 F M (r 0) h := fun r h => by kernel_rfl
theorem J83_2_ok (F : CallH) (M : Nat) : ∀ r h, kcode Tryd.prog F 15 M (Code.sub [true] (bodyOf Tryd.prog 83)) r h (KX (fun r h => E83 (r 2) h) (exitsOf []) (fun r h => E83 (r 2) h)) = J83_1 F M (r 0) h :=
  seq_pt (a := (Code.sub [true, false] (bodyOf Tryd.prog 83))) (b := (Code.sub [true, true] (bodyOf Tryd.prog 83))) (T := (fun r h => J83_1 F M (r 0) h)) (g := (fun r h => J83_0 F M (r 0) h)) (by kernel_rfl) (J83_0_ok F M) (J83_1_ok F M)
noncomputable def J83_3 (F : CallH) (M : Nat) (v0 : Value) (h : AH) : Res :=
  J83_1 F M v0 h
theorem J83_3_ok (F : CallH) (M : Nat) : ∀ r h, kcode Tryd.prog F 15 M (Code.sub [] (bodyOf Tryd.prog 83)) r h (KX (fun r h => E83 (r 2) h) (exitsOf []) (fun r h => E83 (r 2) h)) = J83_3 F M (r 0) h :=
  seq_pt (a := (Code.sub [false] (bodyOf Tryd.prog 83))) (b := (Code.sub [true] (bodyOf Tryd.prog 83))) (T := (fun r h => J83_3 F M (r 0) h)) (g := (fun r h => J83_1 F M (r 0) h)) (by kernel_rfl) (J83_2_ok F M) (fun r h => by kernel_rfl)
noncomputable def R83 (F : CallH) (M : Nat) (x0 : Value) (h : AH) : Res := J83_3 F M x0 h
theorem R83_ok (F : CallH) (M : Nat) (x0 : Value) (h : AH) : kfn Tryd.prog F M 83 [x0] h = R83 F M x0 h :=
  (fn_pt (N := 15) (E := (fun r h => E83 (r 2) h)) (T := (fun r h => J83_3 F M (r 0) h)) Tryd.func83 (by kernel_rfl) (by kernel_rfl) (fun r h => by kernel_rfl) (J83_3_ok F M)).trans (by kernel_rfl)
-- 87 internal/bytealg.IndexByteString has no body
/-! ### 91 internal/strconv.log10Pow2 -/
noncomputable def E91 (v2 : Value) (h : AH) : Res := some (v2, h)
noncomputable def J91_0 (F : CallH) (M : Nat) (v0 : Value) (h : AH) : Res :=
  bindO (ibin .mul v0 (.int .i64 78913)) fun v4 =>
  bindO (ibin .shr v4 (.int .u64 18)) fun v5 =>
  E91 v5 h
theorem J91_0_ok (F : CallH) (M : Nat) : ∀ r h, kcode Tryd.prog F 6 M (Code.sub [] (bodyOf Tryd.prog 91)) r h (KX (fun r h => E91 (r 2) h) (exitsOf []) (fun r h => E91 (r 2) h)) = J91_0 F M (r 0) h := fun r h => by kernel_rfl
noncomputable def R91 (F : CallH) (M : Nat) (x0 : Value) (h : AH) : Res := J91_0 F M x0 h
theorem R91_ok (F : CallH) (M : Nat) (x0 : Value) (h : AH) : kfn Tryd.prog F M 91 [x0] h = R91 F M x0 h :=
  (fn_pt (N := 6) (E := (fun r h => E91 (r 2) h)) (T := (fun r h => J91_0 F M (r 0) h)) Tryd.func91 (by kernel_rfl) (by kernel_rfl) (fun r h => by kernel_rfl) (J91_0_ok F M)).trans (by kernel_rfl)
/-! ### 95 math/bits.TrailingZeros -/
noncomputable def E95 (v2 : Value) (h : AH) : Res := some (v2, h)
noncomputable def J95_0 (F : CallH) (M : Nat) (v0 : Value) (h : AH) : Res :=
  bindO (F 97 [v0] h) fun pv7 =>
  E95 pv7.1 pv7.2
theorem J95_0_ok (F : CallH) (M : Nat) : ∀ r h, kcode Tryd.prog F 8 M (Code.sub [true, true] (bodyOf Tryd.prog 95)) r h (KX (fun r h => E95 (r 2) h) (exitsOf []) (fun r h => E95 (r 2) h)) = J95_0 F M (r 0) h := fun r h => by kernel_rfl
noncomputable def J95_1 (F : CallH) (M : Nat) (v0 : Value) (h : AH) : Res :=
  J95_0 F M v0 h
theorem J95_1_ok (F : CallH) (M : Nat) : ∀ r h, kcode Tryd.prog F 8 M (Code.sub [true, false] (bodyOf Tryd.prog 95)) r h (KX (fun r h => J95_0 F M (r 0) h) (exitsOf []) (fun r h => E95 (r 2) h)) = J95_1 F M (r 0) h := fun r h => by kernel_rfl
theorem J95_2_ok (F : CallH) (M : Nat) : ∀ r h, kcode Tryd.prog F 8 M (Code.sub [true] (bodyOf Tryd.prog 95)) r h (KX (fun r h => E95 (r 2) h) (exitsOf []) (fun r h => E95 (r 2) h)) = J95_1 F M (r 0) h :=
  seq_pt (a := (Code.sub [true, false] (bodyOf Tryd.prog 95))) (b := (Code.sub [true, true] (bodyOf Tryd.prog 95))) (T := (fun r h => J95_1 F M (r 0) h)) (g := (fun r h => J95_0 F M (r 0) h)) (by kernel_rfl) (J95_0_ok F M) (J95_1_ok F M)
noncomputable def J95_3 (F : CallH) (M : Nat) (v0 : Value) (h : AH) : Res :=
  J95_1 F M v0 h
theorem J95_3_ok (F : CallH) (M : Nat) : ∀ r h, kcode Tryd.prog F 8 M (Code.sub [] (bodyOf Tryd.prog 95)) r h (KX (fun r h => E95 (r 2) h) (exitsOf []) (fun r h => E95 (r 2) h)) = J95_3 F M (r 0) h :=
  seq_pt (a := (Code.sub [false] (bodyOf Tryd.prog 95))) (b := (Code.sub [true] (bodyOf Tryd.prog 95))) (T := (fun r h => J95_3 F M (r 0) h)) (g := (fun r h => J95_1 F M (r 0) h)) (by kernel_rfl) (J95_2_ok F M) (fun r h => by kernel_rfl)
noncomputable def R95 (F : CallH) (M : Nat) (x0 : Value) (h : AH) : Res := J95_3 F M x0 h
theorem R95_ok (F : CallH) (M : Nat) (x0 : Value) (h : AH) : kfn Tryd.prog F M 95 [x0] h = R95 F M x0 h :=
  (fn_pt (N := 8) (E := (fun r h => E95 (r 2) h)) (T := (fun r h => J95_3 F M (r 0) h)) Tryd.func95 (by kernel_rfl) (by kernel_rfl) (fun r h => by kernel_rfl) (J95_3_ok F M)).trans (by kernel_rfl)
-- 99 (runtime.boundsError).RuntimeError has no body
-- 103 (runtime.plainError).RuntimeError has no body
-- 107 (*runtime.TypeAssertionError).RuntimeError has no body
-- 111 (internal/runtime/maps.unhashableTypeError).Error has no body
-- 115 (*strconv.NumError).Error has no body
-- 119 var's door: internal/strconv.uint64pow10 is laid by its own initialiser, plain data (look 11) has no body
-- 123 var's door: strconv.ErrSyntax is laid by its own call of errors.New on one literal (look 11) has no body
-- 127 var's door: turnkey/api.ErrLimit is laid by its own call of errors.New on one literal (look 11) has no body
-- 131 var's door: turnkey/api.ErrOwn is laid by its own call of errors.New on one literal (look 11) has no body
-- 135 var's door: turnkey/api.ErrState is laid by its own call of errors.New on one literal (look 11) has no body
/-! ### 139 gosem.cut.vars -/
noncomputable def E139 (h : AH) : Res := some ((.tuple #[]), h)
noncomputable def J139_0 (F : CallH) (M : Nat) (h : AH) : Res :=
  bindO (xbuild [(.int .u8 0), (.int .u8 0), (.int .u8 0), (.int .u8 0), (.int .u8 0), (.int .u8 0), (.int .u8 0), (.int .u8 0), (.int .u8 0), (.int .u8 0), (.int .u8 0), (.int .u8 0), (.int .u8 0), (.int .u8 0), (.int .u8 0), (.int .u8 0), (.int .u8 0), (.int .u8 0), (.int .u8 0), (.int .u8 0), (.int .u8 0), (.int .u8 0), (.int .u8 0), (.int .u8 0), (.int .u8 0), (.int .u8 0), (.int .u8 0), (.int .u8 0), (.int .u8 0), (.int .u8 0), (.int .u8 0), (.int .u8 0)] [(0, 1, (.int .u8 0)), (1, 1, (.int .u8 1)), (2, 1, (.int .u8 28)), (3, 1, (.int .u8 2)), (4, 1, (.int .u8 29)), (5, 1, (.int .u8 14)), (6, 1, (.int .u8 24)), (7, 1, (.int .u8 3)), (8, 1, (.int .u8 30)), (9, 1, (.int .u8 22)), (10, 1, (.int .u8 20)), (11, 1, (.int .u8 15)), (12, 1, (.int .u8 25)), (13, 1, (.int .u8 17)), (14, 1, (.int .u8 4)), (15, 1, (.int .u8 8)), (16, 1, (.int .u8 31)), (17, 1, (.int .u8 27)), (18, 1, (.int .u8 13)), (19, 1, (.int .u8 23)), (20, 1, (.int .u8 21)), (21, 1, (.int .u8 19)), (22, 1, (.int .u8 16)), (23, 1, (.int .u8 7)), (24, 1, (.int .u8 26)), (25, 1, (.int .u8 12)), (26, 1, (.int .u8 18)), (27, 1, (.int .u8 6)), (28, 1, (.int .u8 11)), (29, 1, (.int .u8 5)), (30, 1, (.int .u8 10)), (31, 1, (.int .u8 9))]) fun v0 =>
  bindO (xst 32 h (glob 18) v0) fun h1 =>
  bindO (xbuild [(.int .u8 0), (.int .u8 0), (.int .u8 0), (.int .u8 0), (.int .u8 0), (.int .u8 0), (.int .u8 0), (.int .u8 0), (.int .u8 0), (.int .u8 0), (.int .u8 0), (.int .u8 0), (.int .u8 0), (.int .u8 0), (.int .u8 0), (.int .u8 0), (.int .u8 0), (.int .u8 0), (.int .u8 0), (.int .u8 0), (.int .u8 0), (.int .u8 0), (.int .u8 0), (.int .u8 0), (.int .u8 0), (.int .u8 0), (.int .u8 0), (.int .u8 0), (.int .u8 0), (.int .u8 0), (.int .u8 0), (.int .u8 0), (.int .u8 0), (.int .u8 0), (.int .u8 0), (.int .u8 0), (.int .u8 0), (.int .u8 0), (.int .u8 0), (.int .u8 0), (.int .u8 0), (.int .u8 0), (.int .u8 0), (.int .u8 0), (.int .u8 0), (.int .u8 0), (.int .u8 0), (.int .u8 0), (.int .u8 0), (.int .u8 0), (.int .u8 0), (.int .u8 0), (.int .u8 0), (.int .u8 0), (.int .u8 0), (.int .u8 0), (.int .u8 0), (.int .u8 0), (.int .u8 0), (.int .u8 0), (.int .u8 0), (.int .u8 0), (.int .u8 0), (.int .u8 0)] [(0, 1, (.int .u8 0)), (1, 1, (.int .u8 1)), (2, 1, (.int .u8 56)), (3, 1, (.int .u8 2)), (4, 1, (.int .u8 57)), (5, 1, (.int .u8 49)), (6, 1, (.int .u8 28)), (7, 1, (.int .u8 3)), (8, 1, (.int .u8 61)), (9, 1, (.int .u8 58)), (10, 1, (.int .u8 42)), (11, 1, (.int .u8 50)), (12, 1, (.int .u8 38)), (13, 1, (.int .u8 29)), (14, 1, (.int .u8 17)), (15, 1, (.int .u8 4)), (16, 1, (.int .u8 62)), (17, 1, (.int .u8 47)), (18, 1, (.int .u8 59)), (19, 1, (.int .u8 36)), (20, 1, (.int .u8 45)), (21, 1, (.int .u8 43)), (22, 1, (.int .u8 51)), (23, 1, (.int .u8 22)), (24, 1, (.int .u8 53)), (25, 1, (.int .u8 39)), (26, 1, (.int .u8 33)), (27, 1, (.int .u8 30)), (28, 1, (.int .u8 24)), (29, 1, (.int .u8 18)), (30, 1, (.int .u8 12)), (31, 1, (.int .u8 5)), (32, 1, (.int .u8 63)), (33, 1, (.int .u8 55)), (34, 1, (.int .u8 48)), (35, 1, (.int .u8 27)), (36, 1, (.int .u8 60)), (37, 1, (.int .u8 41)), (38, 1, (.int .u8 37)), (39, 1, (.int .u8 16)), (40, 1, (.int .u8 46)), (41, 1, (.int .u8 35)), (42, 1, (.int .u8 44)), (43, 1, (.int .u8 21)), (44, 1, (.int .u8 52)), (45, 1, (.int .u8 32)), (46, 1, (.int .u8 23)), (47, 1, (.int .u8 11)), (48, 1, (.int .u8 54)), (49, 1, (.int .u8 26)), (50, 1, (.int .u8 40)), (51, 1, (.int .u8 15)), (52, 1, (.int .u8 34)), (53, 1, (.int .u8 20)), (54, 1, (.int .u8 31)), (55, 1, (.int .u8 10)), (56, 1, (.int .u8 25)), (57, 1, (.int .u8 14)), (58, 1, (.int .u8 19)), (59, 1, (.int .u8 9)), (60, 1, (.int .u8 13)), (61, 1, (.int .u8 8)), (62, 1, (.int .u8 7)), (63, 1, (.int .u8 6))]) fun v1 =>
  bindO (xst 64 h1 (glob 19) v1) fun h2 =>
  bindO (xbuild [(.int .u64 0), (.int .u64 0), (.int .u64 0), (.int .u64 0), (.int .u64 0), (.int .u64 0), (.int .u64 0), (.int .u64 0), (.int .u64 0), (.int .u64 0), (.int .u64 0), (.int .u64 0), (.int .u64 0), (.int .u64 0), (.int .u64 0), (.int .u64 0), (.int .u64 0), (.int .u64 0), (.int .u64 0), (.int .u64 0)] [(0, 1, (.int .u64 1)), (1, 1, (.int .u64 10)), (2, 1, (.int .u64 100)), (3, 1, (.int .u64 1000)), (4, 1, (.int .u64 10000)), (5, 1, (.int .u64 100000)), (6, 1, (.int .u64 1000000)), (7, 1, (.int .u64 10000000)), (8, 1, (.int .u64 100000000)), (9, 1, (.int .u64 1000000000)), (10, 1, (.int .u64 10000000000)), (11, 1, (.int .u64 100000000000)), (12, 1, (.int .u64 1000000000000)), (13, 1, (.int .u64 10000000000000)), (14, 1, (.int .u64 100000000000000)), (15, 1, (.int .u64 1000000000000000)), (16, 1, (.int .u64 10000000000000000)), (17, 1, (.int .u64 100000000000000000)), (18, 1, (.int .u64 1000000000000000000)), (19, 1, (.int .u64 10000000000000000000))]) fun v2 =>
  bindO (xst 20 h2 (glob 17) v2) fun h3 =>
  bindO (xbuild [(.int .u8 0), (.int .u8 0)] [(0, 1, (.int .u8 128)), (1, 1, (.int .u8 191))]) fun v3 =>
  bindO (xbuild [(.int .u8 0), (.int .u8 0)] [(0, 1, (.int .u8 160)), (1, 1, (.int .u8 191))]) fun v4 =>
  bindO (xbuild [(.int .u8 0), (.int .u8 0)] [(0, 1, (.int .u8 128)), (1, 1, (.int .u8 159))]) fun v5 =>
  bindO (xbuild [(.int .u8 0), (.int .u8 0)] [(0, 1, (.int .u8 144)), (1, 1, (.int .u8 191))]) fun v6 =>
  bindO (xbuild [(.int .u8 0), (.int .u8 0)] [(0, 1, (.int .u8 128)), (1, 1, (.int .u8 143))]) fun v7 =>
  bindO (xbuild [(.int .u8 0), (.int .u8 0), (.int .u8 0), (.int .u8 0), (.int .u8 0), (.int .u8 0), (.int .u8 0), (.int .u8 0), (.int .u8 0), (.int .u8 0), (.int .u8 0), (.int .u8 0), (.int .u8 0), (.int .u8 0), (.int .u8 0), (.int .u8 0), (.int .u8 0), (.int .u8 0), (.int .u8 0), (.int .u8 0), (.int .u8 0), (.int .u8 0), (.int .u8 0), (.int .u8 0), (.int .u8 0), (.int .u8 0), (.int .u8 0), (.int .u8 0), (.int .u8 0), (.int .u8 0), (.int .u8 0), (.int .u8 0)] [(0, 2, v3), (2, 2, v4), (4, 2, v5), (6, 2, v6), (8, 2, v7)]) fun v8 =>
  bindO (xst 32 h3 (glob 16) v8) fun h4 =>
  bindO (F 82 [(str [118, 97, 108, 117, 101, 32, 111, 117, 116, 32, 111, 102, 32, 114, 97, 110, 103, 101])] h4) fun pv9 =>
  bindO (xst 1 pv9.2 (glob 14) pv9.1) fun h6 =>
  bindO (F 82 [(str [105, 110, 118, 97, 108, 105, 100, 32, 115, 121, 110, 116, 97, 120])] h6) fun pv10 =>
  bindO (xst 1 pv10.2 (glob 13) pv10.1) fun h8 =>
  bindO (F 82 [(str [105, 116, 32, 101, 110, 100, 115, 32, 116, 111, 111, 32, 101, 97, 114, 108, 121])] h8) fun pv11 =>
  bindO (xst 1 pv11.2 (glob 5) pv11.1) fun h10 =>
  bindO (F 82 [(str [110, 111, 116, 32, 97, 115, 32, 105, 116, 32, 104, 97, 115, 32, 116, 111, 32, 98, 101])] h10) fun pv12 =>
  bindO (xst 1 pv12.2 (glob 6) pv12.1) fun h12 =>
  bindO (F 82 [(str [97, 32, 110, 117, 109, 98, 101, 114, 32, 111, 117, 116, 32, 111, 102, 32, 105, 116, 115, 32, 114, 97, 110, 103, 101])] h12) fun pv13 =>
  bindO (xst 1 pv13.2 (glob 3) pv13.1) fun h14 =>
  bindO (F 82 [(str [116, 111, 111, 32, 109, 97, 110, 121])] h14) fun pv14 =>
  bindO (xst 1 pv14.2 (glob 0) pv14.1) fun h16 =>
  bindO (F 82 [(str [116, 104, 101, 114, 101, 32, 105, 115, 32, 110, 111, 110, 101])] h16) fun pv15 =>
  bindO (xst 1 pv15.2 (glob 4) pv15.1) fun h18 =>
  bindO (F 82 [(str [116, 104, 101, 114, 101, 32, 105, 115, 32, 110, 111, 32, 114, 111, 111, 109])] h18) fun pv16 =>
  bindO (xst 1 pv16.2 (glob 7) pv16.1) fun h20 =>
  bindO (F 82 [(str [97, 116, 32, 105, 116, 115, 32, 108, 105, 109, 105, 116])] h20) fun pv17 =>
  bindO (xst 1 pv17.2 (glob 8) pv17.1) fun h22 =>
  bindO (F 82 [(str [110, 111, 116, 32, 111, 110, 101, 32, 111, 102, 32, 105, 116, 115, 32, 111, 119, 110])] h22) fun pv18 =>
  bindO (xst 1 pv18.2 (glob 9) pv18.1) fun h24 =>
  bindO (F 82 [(str [110, 111, 116, 32, 105, 110, 32, 116, 104, 105, 115, 32, 115, 116, 97, 116, 101])] h24) fun pv19 =>
  bindO (xst 1 pv19.2 (glob 10) pv19.1) fun h26 =>
  bindO (F 82 [(str [105, 116, 32, 108, 97, 99, 107, 115, 32, 116, 104, 101, 32, 114, 105, 103, 104, 116])] h26) fun pv20 =>
  bindO (xst 1 pv20.2 (glob 11) pv20.1) fun h28 =>
  bindO (F 82 [(str [110, 111, 32, 115, 117, 99, 104, 32, 119, 111, 114, 100])] h28) fun pv21 =>
  bindO (xst 1 pv21.2 (glob 1) pv21.1) fun h30 =>
  bindO (F 82 [(str [110, 111, 32, 115, 117, 99, 104, 32, 110, 117, 109, 98, 101, 114])] h30) fun pv22 =>
  bindO (xst 1 pv22.2 (glob 2) pv22.1) fun h32 =>
  E139 h32
theorem J139_0_ok (F : CallH) (M : Nat) : ∀ r h, kcode Tryd.prog F 23 M (Code.sub [] (bodyOf Tryd.prog 139)) r h (KX (fun r h => E139 h) (exitsOf []) (fun r h => E139 h)) = J139_0 F M h := fun r h => by kernel_rfl
noncomputable def R139 (F : CallH) (M : Nat) (h : AH) : Res := J139_0 F M h
theorem R139_ok (F : CallH) (M : Nat) (h : AH) : kfn Tryd.prog F M 139 [] h = R139 F M h :=
  (fn_pt (N := 23) (E := (fun r h => E139 h)) (T := (fun r h => J139_0 F M h)) Tryd.func139 (by kernel_rfl) (by kernel_rfl) (fun r h => by kernel_rfl) (J139_0_ok F M)).trans (by kernel_rfl)
end Go.Proofs.YtehmkckpbknodaaDoor
