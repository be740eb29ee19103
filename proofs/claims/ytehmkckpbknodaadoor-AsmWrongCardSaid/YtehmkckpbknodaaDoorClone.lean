/- strings' Clone, walked. -/
import Derived.Test.YtehmkckpbknodaaDoorEvF
import Derived.Test.YtehmkckpbknodaaDoorProg
import Derived.WalkKit
import Derived.WalkSpells
set_option linter.all false
namespace Go.Proofs.YtehmkckpbknodaaDoor
open Go Go.Ev Go.Lib
def clOk : Option TypeInfo → Bool
  | some i => (match i.zero with | some (.int .u8 (.ofNat 0)) => true | _ => false) && Nat.beq i.size 1 && Nat.beq i.bytes 1
  | none => false
theorem cl_ok : clOk (Tryd.prog.info? 5) = true := by kernel_rfl
theorem cl_info : ∃ i, Tryd.prog.info? 5 = some i ∧ i.zero = some (.int .u8 0) ∧ i.size = 1 ∧ i.bytes = 1 := by
  have h := cl_ok
  unfold clOk at h
  split at h
  · rename_i i hi
    simp only [Bool.and_eq_true] at h
    refine ⟨i, hi, ?_, Nat.eq_of_beq_eq_true h.1.2, Nat.eq_of_beq_eq_true h.2⟩
    have h1 := h.1.1
    split at h1
    · assumption
    · cases h1
  · cases h
theorem cl_size : sizeOf? Tryd.prog 5 = some 1 := by kernel_rfl
theorem cl_cells : Tryd.prog.cellsOf 5 = 1 := by kernel_rfl
set_option maxRecDepth 100000 in
set_option maxHeartbeats 400000 in
theorem clone_walk (s : ByteArray) (w : World) (h : s.size ≠ 0) (h30 : s.size ≤ 2 ^ 30) :
    Calls Tryd.prog 81 #[.string s] w fun e w' => e = .returned (.string s) ∧ More w w' := by
  obtain ⟨i, i1, i2, i3, i4⟩ := cl_info
  have hmk := run_make (P := Tryd.prog) w 104 5 i (.int .u8 0) Tryd.underlying104 i1 i2 .i64 .i64 (s.size : Int) (s.size : Int) (by omega) (Int.le_refl _) (by rw [i4]; omega) (by omega)
  rw [i3] at hmk
  have hsz : (madeCells #[.int .u8 0] s.size).size = s.size := size_madeCells _ _
  have hb1 : (w.alloc (.cells (madeCells #[.int .u8 0] s.size) 5)).heap[w.heap.size]? = some (.cells (madeCells #[.int .u8 0] s.size) 5 (0, 0)) := by
    show (w.heap.push _)[w.heap.size]? = _
    simp
  have hcp := run_copy_str (P := Tryd.prog) (w.alloc (.cells (madeCells #[.int .u8 0] s.size) 5)) 104 9 3 5 5 w.heap.size _ s Tryd.underlying104 cl_size hb1 hsz
  have hb2 := setRow_heap (w.alloc (.cells (madeCells #[.int .u8 0] s.size) 5)) w.heap.size _ (strCells s).toArray 5 (0, 0) hb1
  have hlen : s.data.toList.length = s.size := rfl
  have hstr : (⟨s.data.toList.toArray⟩ : ByteArray) = s := by cases s; simp
  have hus := run_unsafeString_row (P := Tryd.prog) (w := (w.alloc (.cells (madeCells #[.int .u8 0] s.size) 5)).setRow w.heap.size (strCells s).toArray) 131 3 9 5 Tryd.underlying131 cl_cells w.heap.size s.size
    (by simp only [World.shape?, hb2]; simp [strCells]) s.data.toList (by intro e; rw [e] at hlen; simp at hlen; omega) (by omega) (by omega)
    (by
      intro j x hj
      rw [add_plain]
      simp only [World.cell?, hb2]
      simp [strCells, hj])
  rw [hlen, hstr] at hus
  go_enter Tryd.func81, Tryd.ntmps81
  go_wp2
  go_ret
  exact ⟨rfl, More.copied _ _ _ _⟩

set_option maxRecDepth 100000 in
theorem clone_empty (w : World) : Calls Tryd.prog 81 #[.string ⟨#[]⟩] w fun e w' => e = .returned (.string ⟨#[]⟩) ∧ w' = w := by
  go_enter Tryd.func81, Tryd.ntmps81
  go_wp2
  go_ret
  exact ⟨rfl, rfl⟩

def ovClone : OvF := fun args h => match args with
  | [.string s] => match Nat.ble s.size (2 ^ 30) with
    | true => some (.string s, h)
    | false => none
  | _ => none

theorem ovClone_ok {G : Nat} : FOk Tryd.prog G 81 ovClone := by
  intro args args' h h' v B φ w s hv hg
  unfold ovClone at hg
  split at hg
  · rename_i str
    split at hg
    · rename_i hc
      have hc := Nat.le_of_ble_eq_true hc
      injection hg with hg; injection hg with h1 h2; subst h1; subst h2
      obtain ⟨a, r, rfl, ha, hr⟩ := hv.cons_inv
      obtain rfl := hr.nil_inv
      cases ha
      refine .inr ⟨by kernel_rfl, ?_⟩
      by_cases h0 : str.size = 0
      · have e : str = ⟨#[]⟩ := by
          obtain ⟨d⟩ := str
          congr 1
          exact Array.eq_empty_of_size_eq_zero h0
        subst e
        refine (clone_empty w).mono fun e w' ⟨h1, h2⟩ => ?_
        subst h1; subst h2
        exact ⟨φ, .string _, s, .refl ..⟩
      · refine (clone_walk str w h0 hc).mono fun e w' ⟨h1, h2⟩ => ?_
        subst h1
        exact ⟨φ, .string _, s.more h2, (Stp.refl φ h w).more h2⟩
    · cases hg
  · cases hg
end Go.Proofs.YtehmkckpbknodaaDoor
