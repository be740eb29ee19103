/- turnkeyworld.Number, of a symbol; the table of all functions is sound. -/
import Derived.Test.YtehmkckpbknodaaDoorQ0
import Derived.Test.YtehmkckpbknodaaDoorQ1
import Derived.Test.YtehmkckpbknodaaDoorQ2
import Derived.Test.YtehmkckpbknodaaDoorQ3
import Derived.Test.YtehmkckpbknodaaDoorEvF
set_option linter.all false
namespace Go.Proofs.YtehmkckpbknodaaDoor
open Go Go.Ev
variable {G : Nat}

theorem wrap64_id {n : Int} (h0 : 0 ≤ n) (h : n < 2 ^ 63) : IntKind.i64.wrap n = n := by
  unfold IntKind.wrap
  have e1 : IntKind.i64.bits = 64 := rfl
  have e2 : IntKind.i64.signed = true := rfl
  simp only [e1, e2, Bool.true_and]
  have e3 : n % (2 ^ 64 : Int) = n := Int.emod_eq_of_lt h0 (by omega)
  have e4 : ¬ (n ≥ (2 ^ (64 - 1) : Int)) := by
    have : (2 ^ (64 - 1) : Int) = 2 ^ 63 := rfl
    rw [this]; omega
  simp only [e3]
  rw [if_neg (by simpa using e4)]

theorem tmod_bound (k : Int) {n : Nat} (h : 0 < n) : -(n : Int) < Int.tmod k n ∧ Int.tmod k n < n := by
  have h1 := Int.lt_of_lt_of_le (Int.tmod_lt_of_pos k (b := (n : Int)) (by omega)) (Int.le_refl _)
  refine ⟨?_, h1⟩
  rcases Int.le_total 0 k with hk | hk
  · have := Int.tmod_nonneg (n : Int) hk; omega
  · have e : Int.tmod k n = - Int.tmod (-k) n := by rw [Int.neg_tmod]; omega
    have := Int.tmod_lt_of_pos (-k) (b := (n : Int)) (by omega)
    omega

theorem num_run (F : CallH) (M : Nat) (k : Int) (n : Nat) (h : AH) (h0 : 0 < n) (h1 : n < 2 ^ 63) : R6 F M (.int .i64 k) (.int .i64 (.ofNat n)) h = some (.int .i64 (numF k n), h) := by
  have hb := tmod_bound k h0
  have hn : ¬ ((n : Int) = 0) := by omega
  unfold R6 J6_4 J6_3 J6_1 J6_0 E6
  simp only [ibin, decide_true, bindO, Int.ofNat_eq_natCast, hn, decide_false]
  unfold numF
  by_cases hk : Int.tmod k n < 0
  · simp only [hk, decide_true, condO, if_true]
    rw [wrap64_id (by omega) (by omega)]
  · simp only [hk, decide_false, condO, if_false]

theorem factOf_mem {n r : Nat} : ∀ {l : List (Nat × Nat)}, factOf n l = some r → (n, r) ∈ l
  | [], h => by cases h
  | (m, q) :: l, h => by
    simp only [factOf] at h
    split at h
    · rename_i hb
      cases h
      have := Nat.eq_of_beq_eq_true hb
      subst this
      exact List.mem_cons_self ..
    · exact List.mem_cons_of_mem _ (factOf_mem h)

theorem numSym_ok (hp : progOk Tryd.prog G = true) (hdr : DrawnOk Tryd.prog G) {F : CallH} (hf : FnsOk Tryd.prog G F) (M : Nat) : FOk Tryd.prog G 6 (ovNum (fun a b h => R6 F M a b h)) := by
  have plainly : ∀ (x0 x1 : Value) (args' : List Value) (h h' : AH) (v : Value) (B : Nat) (φ : Ren) (w : World), Sim G B φ h w → VRL φ [x0, x1] args' → R6 F M x0 x1 h = some (v, h') → Lands Tryd.prog 6 args'.toArray w (Out G B φ h w v h') := by
    intro x0 x1 args' h h' v B φ w s ha hg
    rw [← R6_ok] at hg
    exact kfn_ok hp hdr hf s ha hg
  intro args args' h h' v B φ w s ha hg
  unfold ovNum at hg
  split at hg
  · rename_i id n
    split at hg
    · rename_i facts hid
      split at hg
      · rename_i hlt
        split at hg
        · rename_i r hr
          injection hg with hg; injection hg with h1 h2; subst h1; subst h2
          have hn1 := Nat.le_of_ble_eq_true (show Nat.ble 1 n = true by simp only [Bool.and_eq_true] at hlt; exact hlt.1)
          have hn2 : n < 2 ^ 63 := Nat.le_of_ble_eq_true (show Nat.ble (n + 1) (2 ^ 63) = true by simp only [Bool.and_eq_true] at hlt; exact hlt.2)
          obtain ⟨l, hl, hfacts⟩ := s.obj id _ hid
          obtain ⟨a, q, rfl, hva, hq⟩ := ha.cons_inv
          obtain ⟨b, q', rfl, hvb, hq'⟩ := hq.cons_inv
          obtain rfl := hq'.nil_inv
          cases hvb
          cases hva with
          | sym _ l' hl' =>
            rw [hl] at hl'; cases hl'
            have hnum := num_run F M (symInt l) n h hn1 hn2
            rw [hfacts (n, r) (factOf_mem hr)] at hnum
            exact plainly _ _ _ h h _ B φ w s (VRL.cons (.int _ _) (VRL.cons (.int _ _) (VRL.nil φ))) hnum
        · cases hg
      · cases hg
    · cases hg
  · exact plainly _ _ args' h h' v B φ w s ha hg
  · cases hg
end Go.Proofs.YtehmkckpbknodaaDoor
