/- The heap in which a law of this seat begins: the sentinels, a symbol. -/
import Derived.Test.YtehmkckpbknodaaDoorEvF
import Derived.Test.YtehmkckpbknodaaDoorRows
import Derived.LaidSub
import Derived.MakeChecks
import Derived.KernelRfl
set_option linter.all false
namespace Go.Proofs.YtehmkckpbknodaaDoor
open Go Go.Ev
/-- The sentinels: their names, their numbers, their texts. -/
def items : List (String × Nat × List UInt8) := [
  ("strconv.ErrRange", 14, [118, 97, 108, 117, 101, 32, 111, 117, 116, 32, 111, 102, 32, 114, 97, 110, 103, 101]),
  ("strconv.ErrSyntax", 13, [105, 110, 118, 97, 108, 105, 100, 32, 115, 121, 110, 116, 97, 120]),
  ("turnkey/api.ErrEnd", 5, [105, 116, 32, 101, 110, 100, 115, 32, 116, 111, 111, 32, 101, 97, 114, 108, 121]),
  ("turnkey/api.ErrShape", 6, [110, 111, 116, 32, 97, 115, 32, 105, 116, 32, 104, 97, 115, 32, 116, 111, 32, 98, 101]),
  ("turnkey/api.ErrRange", 3, [97, 32, 110, 117, 109, 98, 101, 114, 32, 111, 117, 116, 32, 111, 102, 32, 105, 116, 115, 32, 114, 97, 110, 103, 101]),
  ("turnkey/api.ErrMany", 0, [116, 111, 111, 32, 109, 97, 110, 121]),
  ("turnkey/api.ErrNone", 4, [116, 104, 101, 114, 101, 32, 105, 115, 32, 110, 111, 110, 101]),
  ("turnkey/api.ErrFull", 7, [116, 104, 101, 114, 101, 32, 105, 115, 32, 110, 111, 32, 114, 111, 111, 109]),
  ("turnkey/api.ErrLimit", 8, [97, 116, 32, 105, 116, 115, 32, 108, 105, 109, 105, 116]),
  ("turnkey/api.ErrOwn", 9, [110, 111, 116, 32, 111, 110, 101, 32, 111, 102, 32, 105, 116, 115, 32, 111, 119, 110]),
  ("turnkey/api.ErrState", 10, [110, 111, 116, 32, 105, 110, 32, 116, 104, 105, 115, 32, 115, 116, 97, 116, 101]),
  ("turnkey/api.ErrRight", 11, [105, 116, 32, 108, 97, 99, 107, 115, 32, 116, 104, 101, 32, 114, 105, 103, 104, 116]),
  ("turnkey/api.ErrWord", 1, [110, 111, 32, 115, 117, 99, 104, 32, 119, 111, 114, 100]),
  ("turnkey/api.ErrNumber", 2, [110, 111, 32, 115, 117, 99, 104, 32, 110, 117, 109, 98, 101, 114])]
/-- The tables: their names, their types, the elements' types, their numbers, their kinds, what they hold. -/
def tables : List (String × TypeId × TypeId × Nat × IntKind × List Int) := [
  ("internal/strconv.uint64pow10", 136, 112, 17, .u64, [1, 10, 100, 1000, 10000, 100000, 1000000, 10000000, 100000000, 1000000000, 10000000000, 100000000000, 1000000000000, 10000000000000, 100000000000000, 1000000000000000, 10000000000000000, 100000000000000000, 1000000000000000000, 10000000000000000000]),
  ("math/bits.deBruijn32tab", 140, 5, 18, .u8, [0, 1, 28, 2, 29, 14, 24, 3, 30, 22, 20, 15, 25, 17, 4, 8, 31, 27, 13, 23, 21, 19, 16, 7, 26, 12, 18, 6, 11, 5, 10, 9]),
  ("math/bits.deBruijn64tab", 141, 5, 19, .u8, [0, 1, 56, 2, 57, 49, 28, 3, 61, 58, 42, 50, 38, 29, 17, 4, 62, 47, 59, 36, 45, 43, 51, 22, 53, 39, 33, 30, 24, 18, 12, 5, 63, 55, 48, 27, 60, 41, 37, 16, 46, 35, 44, 21, 52, 32, 23, 11, 54, 26, 40, 15, 34, 20, 31, 10, 25, 14, 19, 9, 13, 8, 7, 6])]
def H0 : AH := tabH (tables.map fun x => x.2.2.2) (sentH 132 (items.map (·.2)) ⟨T.nil, 20⟩)
def H1 (facts : List (Nat × Nat)) : AH := H0.new (.sym facts)
def isTrue : Option (Go.Value × AH) → Bool
  | some (.bool true, _) => true
  | _ => false
theorem isTrue_some {r : Option (Go.Value × AH)} (h : isTrue r = true) : ∃ h', r = some (.bool true, h') := by
  unfold isTrue at h
  split at h
  · exact ⟨_, rfl⟩
  · cases h

theorem star : "*" ++ "errors.errorString" = "*errors.errorString" := by decide
theorem errT : ErrT Tryd.prog 27 132 134 "*errors.errorString" where
  hi := ⟨#[("Error", 142)], by kernel_rfl⟩
  hrow := fun u h => typeName_ptr_named (nm := "errors.errorString") (by rw [star]; kernel_rfl) (by kernel_rfl) (by decide) u (by rw [star]; exact h)
  hp := by kernel_rfl
  he := ⟨{ name := "s", type := 9, offset := 0, embedded := false, tag := "", pkgPath := "errors", byteOffset := 0 }, 9, by kernel_rfl, rfl, rfl, by kernel_rfl, by kernel_rfl⟩
  hc := by kernel_rfl

/-- What the row's condition gives: the relation at the call's begin. -/
theorem sim0 {W : World} (h : laidMetH Tryd.prog Rows.asmWrongRow.laid W) : ∃ φ, Sim 20 W.heap.size φ H0 W ∧ NoMine H0 := by
  rw [MakeChecks.laidMetH_plain _ _ _ (by kernel_rfl)] at h
  have hG : 20 ≤ W.heap.size := by
    obtain ⟨ps, hl, _, _⟩ := h
    obtain ⟨g, c, t, fr, _, _, _, h1, h2, _⟩ := laid_at hl ("math/bits.deBruijn64tab", Rows.laid_math_bits_deBruijn64tab) (by simp [Rows.asmWrongRow])
    have e : Tryd.prog.globalNamed "math/bits.deBruijn64tab" = some 19 := by kernel_rfl
    rw [e] at h1; cases h1
    have := (Array.getElem?_eq_some_iff.1 h2).1
    omega
  have hf := laidMet.filter (fun x => (items.map (·.1)).contains x.1) h
  have e : (Rows.asmWrongRow.laid.filter fun x => (items.map (·.1)).contains x.1) = items.map fun x => (x.1, sentD "*errors.errorString" x.2.2) := by kernel_rfl
  rw [e] at hf
  obtain ⟨φ, hφ, s, nm⟩ := sim_of_laid errT hG (by kernel_rfl) (by decide) hf
  refine ⟨φ, tabs_sim hφ _ _ (fun x hx => ?_) s nm⟩
  obtain ⟨y, hy, rfl⟩ := List.mem_map.1 hx
  obtain ⟨ps, hl, _, _⟩ := h
  have chk : (tables.all fun y => Tryd.prog.globalNamed y.1 == some y.2.2.2.1 && (Tryd.prog.globals[y.2.2.2.1]?).map (·.type) == some y.2.1 && Nat.blt y.2.2.2.1 20 && Nat.beq (Tryd.prog.cellsOf y.2.2.1) 1 &&
      (match Tryd.prog.underlying y.2.1 with | some (.array n e) => Nat.beq (Tryd.prog.cellsOf y.2.1) n && Nat.beq e y.2.2.1 | _ => false) && (match Tryd.prog.underlying y.2.2.1 with | some (.int k) => k == y.2.2.2.2.1 | _ => false)) = true := by kernel_rfl
  have hc := List.all_eq_true.1 chk y hy
  simp only [Bool.and_eq_true, beq_iff_eq] at hc
  obtain ⟨⟨⟨⟨⟨c1, c2⟩, c3⟩, c4⟩, c5⟩, c6⟩ := hc
  have hmem : (y.1, (DataW.agg (y.2.2.2.2.2.map fun v => DataW.lit (.int y.2.2.2.2.1 v)) : DataW Unit)) ∈ Rows.asmWrongRow.laid := by
    have e : ((tables.map fun y => (y.1, (DataW.agg (y.2.2.2.2.2.map fun v => DataW.lit (.int y.2.2.2.2.1 v)) : DataW Unit)))) = [("internal/strconv.uint64pow10", Rows.laid_internal_strconv_uint64pow10), ("math/bits.deBruijn32tab", Rows.laid_math_bits_deBruijn32tab), ("math/bits.deBruijn64tab", Rows.laid_math_bits_deBruijn64tab)] := by kernel_rfl
    have hm := List.mem_map_of_mem (f := fun y => (y.1, (DataW.agg (y.2.2.2.2.2.map fun v => DataW.lit (.int y.2.2.2.2.1 v)) : DataW Unit))) hy
    rw [e] at hm
    simp only [List.mem_cons, List.not_mem_nil, or_false] at hm
    simp only [Rows.asmWrongRow, List.mem_cons, List.not_mem_nil, or_false]
    rcases hm with h | h | h <;> simp [h]
  obtain ⟨g, c, t, fr, ty, fuel, p, h1, h2, h3, h4⟩ := laid_at hl _ hmem
  simp only at h1 h4
  rw [c1] at h1; cases h1
  rw [c2] at h3; cases h3
  refine ⟨Nat.le_of_ble_eq_true c3, c, t, fr, h2, ?_⟩
  split at c5
  · rename_i n e hu
    rw [Bool.and_eq_true] at c5
    have e1 := Nat.eq_of_beq_eq_true c5.1
    have e2 := Nat.eq_of_beq_eq_true c5.2
    subst e2
    split at c6
    · rename_i k hk
      have : k = y.2.2.2.2.1 := by simpa using c6
      subst this
      exact table_cells hu hk (Nat.eq_of_beq_eq_true c4) e1 h4
    · cases c6
  · cases c5
end Go.Proofs.YtehmkckpbknodaaDoor
