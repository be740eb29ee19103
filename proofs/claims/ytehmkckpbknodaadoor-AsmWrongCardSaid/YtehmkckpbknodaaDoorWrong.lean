/- turnkeylaw15.AsmWrong answers true at every int: too few words, too many, no such word, numbers and registers that are none are told as such. No condition beside the row's own (the listed package variables hold what the program's text lays). -/
import Derived.Test.YtehmkckpbknodaaDoorWrongRun0
import Derived.Test.YtehmkckpbknodaaDoorWrongRun1
import Derived.Test.YtehmkckpbknodaaDoorWrongRun2
import Derived.Test.YtehmkckpbknodaaDoorWrongRun3
import Derived.Test.YtehmkckpbknodaaDoorTie
import Derived.Test.YtehmkckpbknodaaDoorCards
import Derived.SevenTiedAt
set_option linter.all false
namespace Go.Proofs.YtehmkckpbknodaaDoor
open Go Go.Ev Go.ChangeShapes Go.WideShapes Go.ChangeAt Go.WideMaps Go.WideElems Go.RowKit

theorem wrong_case : ∀ i j : Nat, i < 10 → j < 7 → isTrue (tab 1000 60 4 [.complex .f64 0 34] (H1 [(10, i), (7, j)])) = true := by
  intro i j hi hj
  match i, j, hi, hj with
  | 0, 0, _, _ => exact w0_0
  | 0, 1, _, _ => exact w0_1
  | 0, 2, _, _ => exact w0_2
  | 0, 3, _, _ => exact w0_3
  | 0, 4, _, _ => exact w0_4
  | 0, 5, _, _ => exact w0_5
  | 0, 6, _, _ => exact w0_6
  | 1, 0, _, _ => exact w1_0
  | 1, 1, _, _ => exact w1_1
  | 1, 2, _, _ => exact w1_2
  | 1, 3, _, _ => exact w1_3
  | 1, 4, _, _ => exact w1_4
  | 1, 5, _, _ => exact w1_5
  | 1, 6, _, _ => exact w1_6
  | 2, 0, _, _ => exact w2_0
  | 2, 1, _, _ => exact w2_1
  | 2, 2, _, _ => exact w2_2
  | 2, 3, _, _ => exact w2_3
  | 2, 4, _, _ => exact w2_4
  | 2, 5, _, _ => exact w2_5
  | 2, 6, _, _ => exact w2_6
  | 3, 0, _, _ => exact w3_0
  | 3, 1, _, _ => exact w3_1
  | 3, 2, _, _ => exact w3_2
  | 3, 3, _, _ => exact w3_3
  | 3, 4, _, _ => exact w3_4
  | 3, 5, _, _ => exact w3_5
  | 3, 6, _, _ => exact w3_6
  | 4, 0, _, _ => exact w4_0
  | 4, 1, _, _ => exact w4_1
  | 4, 2, _, _ => exact w4_2
  | 4, 3, _, _ => exact w4_3
  | 4, 4, _, _ => exact w4_4
  | 4, 5, _, _ => exact w4_5
  | 4, 6, _, _ => exact w4_6
  | 5, 0, _, _ => exact w5_0
  | 5, 1, _, _ => exact w5_1
  | 5, 2, _, _ => exact w5_2
  | 5, 3, _, _ => exact w5_3
  | 5, 4, _, _ => exact w5_4
  | 5, 5, _, _ => exact w5_5
  | 5, 6, _, _ => exact w5_6
  | 6, 0, _, _ => exact w6_0
  | 6, 1, _, _ => exact w6_1
  | 6, 2, _, _ => exact w6_2
  | 6, 3, _, _ => exact w6_3
  | 6, 4, _, _ => exact w6_4
  | 6, 5, _, _ => exact w6_5
  | 6, 6, _, _ => exact w6_6
  | 7, 0, _, _ => exact w7_0
  | 7, 1, _, _ => exact w7_1
  | 7, 2, _, _ => exact w7_2
  | 7, 3, _, _ => exact w7_3
  | 7, 4, _, _ => exact w7_4
  | 7, 5, _, _ => exact w7_5
  | 7, 6, _, _ => exact w7_6
  | 8, 0, _, _ => exact w8_0
  | 8, 1, _, _ => exact w8_1
  | 8, 2, _, _ => exact w8_2
  | 8, 3, _, _ => exact w8_3
  | 8, 4, _, _ => exact w8_4
  | 8, 5, _, _ => exact w8_5
  | 8, 6, _, _ => exact w8_6
  | 9, 0, _, _ => exact w9_0
  | 9, 1, _, _ => exact w9_1
  | 9, 2, _, _ => exact w9_2
  | 9, 3, _, _ => exact w9_3
  | 9, 4, _, _ => exact w9_4
  | 9, 5, _, _ => exact w9_5
  | 9, 6, _, _ => exact w9_6
  | _ + 10, _, h, _ => omega
  | _, _ + 7, _, h => omega

theorem H0_next : H0.next = 34 := by kernel_rfl

theorem numF_nat (k : Int) {n : Nat} (h : 0 < n) : ∃ r : Nat, r < n ∧ numF k n = .ofNat r := by
  have := tmod_bound k h
  unfold numF
  split
  · exact ⟨(Int.tmod k n + n).toNat, by omega, by simp only [Int.ofNat_eq_natCast]; omega⟩
  · exact ⟨(Int.tmod k n).toNat, by omega, by simp only [Int.ofNat_eq_natCast]; omega⟩

theorem own : ownKnob Tryd.prog.godebug = none := by kernel_rfl

theorem wrong_calls {W : World} (hL : laidMetH Tryd.prog Rows.asmWrongRow.laid W) (k : Int) :
    Calls Tryd.prog 4 #[.int .i64 k] W fun e W' => e = .returned (.bool true) ∧ W'.os = W.os ∧ W'.output = W.output ∧ ∀ b, b < W.heap.size → W'.heap[b]? = W.heap[b]? := by
  obtain ⟨φ, s, nm⟩ := sim0 hL
  obtain ⟨i, hi, ei⟩ := numF_nat k (n := 10) (by omega)
  obtain ⟨j, hj, ej⟩ := numF_nat k (n := 7) (by omega)
  have hsz : 0 < W.heap.size := by
    obtain ⟨l, hl, hb, _⟩ := s.glob 0 (by omega)
    have := (s.wf 0 l hl).2
    omega
  obtain ⟨s1, nm1⟩ := s.addNew nm (o := .sym [(10, i), (7, j)]) (l := ⟨0, 0, zOf k, 0, 0⟩) rfl hsz
    (by
      intro p hp
      rw [symInt_zOf]
      simp only [List.mem_cons, List.not_mem_nil, or_false] at hp
      rcases hp with rfl | rfl
      · exact ei
      · exact ej) (fun cs h => by cases h)
  obtain ⟨h', hr⟩ := isTrue_some (wrong_case i j hi hj)
  have ha : VRL (φ.put H0.next ⟨0, 0, zOf k, 0, 0⟩) [.complex .f64 0 34] [.int .i64 k] := by
    have := VR.sym (φ := φ.put H0.next ⟨0, 0, zOf k, 0, 0⟩) H0.next _ (Ren.put_same _ _ _)
    rw [symInt_zOf, H0_next] at this
    rw [H0_next]
    exact VRL.cons this (VRL.nil _)
  have hdr : DrawnOk Tryd.prog 20 := drawn_ok follows
  exact law_calls (tab_ok progok hdr 1000 60) Tryd.func4 (c := bodyOf Tryd.prog 4) (by kernel_rfl) (by kernel_rfl) s1 nm1 ha hr

set_option maxRecDepth 100000 in
theorem wrong_lifted (os : Os) (started : os.Started) (H : Type) (enc : TypeId × Value → H) :
    ReturnsInHanded {} Tryd.checked os 4 .any (fun w args => (Rows.asmWrongSpec.pre enc Tryd.prog Tryd.f4 [] false w args ∧ laidMetH Tryd.prog Rows.asmWrongRow.laid w) ∧ sizedMet enc Tryd.prog Tryd.f4 (OpenSpec.ofChange Rows.asmWrongSpec) false w args)
      (Rows.asmWrongSpec.post enc Tryd.prog Tryd.f4 false true false false) := by
  refine returnsInHanded_of_change_and (C := Tryd.checked) (X := fun w _ => laidMetH Tryd.prog Rows.asmWrongRow.laid w) (fun _ _ _ hh h => h.of_heap hh) own started (by kernel_rfl) Tryd.func4
    (ChangeSpec.witness_shaped (enc := enc) (C := Tryd.checked) (os := os) (X := fun w _ => laidMetH Tryd.prog Rows.asmWrongRow.laid w) false (World.laidAll Tryd.prog os Rows.asmWrongRow.laid) #[.int .i64 0] 8 (World.laidAll_os _ _ _)
      (World.shaped_of_ZipB (by kernel_rfl) (by kernel_rfl)) (by kernel_rfl) (by kernel_rfl) (by kernel_rfl)
      (by rw [MakeChecks.laidMetH_plain _ _ _ (by kernel_rfl)]; exact laidMet_laidAll _ (by kernel_rfl) (by kernel_rfl))) ?_
  intro W base args ds gs before hval0 hW _ _ hL _
  have hval : ∀ (j : Nat) t v, Tryd.f4.params[j]? = some t → args[j]? = some v → Value.okWide Tryd.prog W .any base t v := hval0
  have hW' := hW
  obtain ⟨p, q, hA0, hV, rfl, _, _⟩ := hW
  have hA : DataW.TrodAll enc Tryd.prog W 0 (fun _ => true) true Tryd.f4.params.toList args.toList ds p := hA0
  rw [Tryd.params4] at hA hval
  obtain ⟨v0, d0, rfl, rfl, h0⟩ := trodAll_one hA
  obtain ⟨rfl, rfl⟩ := trodVars_none hV
  obtain ⟨k, rfl, rfl, rfl, wk⟩ := open_int Tryd.underlying3 (hval 0 3 v0 rfl rfl) h0
  simp only [List.append_nil] at hW'
  refine (wrong_calls hL k).mono fun e W' ⟨he, h1, h2, h3⟩ => ?_
  subst he
  refine ⟨_, rfl, _, _, _, [], [], [], hW', ?_, ?_, ?_, keptBut_same h1 h2 h3, fun h => by cases h⟩
  · exact trodAll_mk1 (shut_bool Tryd.underlying4 true)
  · exact trodAll_mk1 (shut_int Tryd.underlying3 wk)
  · rfl

theorem wrong_holds : Rows.AsmWrongSaid :=
  OpenClaim.holds_of_wide 4 Tryd.f4 rfl rfl rfl rfl rfl rfl rfl ⟨rfl, rfl, rfl, rfl, rfl⟩ rfl rfl rfl rfl rfl (by kernel_rfl) Tryd.func4 (by kernel_rfl)
    (of_decide_eq_true (by kernel_rfl)) (by unfold Func.isWrapper; first | (rw [if_pos (by decide +kernel)]; kernel_rfl) | (rw [if_neg (by decide +kernel)]; exact ⟨rfl, rfl⟩))
    (fun os started H enc _ => wrong_lifted os started H enc)

theorem asmWrong_card : Rows.AsmWrongCardSaid :=
  Claim7.holds_tied_plain_at .later [] [.data, .data, .data, .data, .sentinel, .sentinel, .sentinel, .sentinel, .sentinel, .sentinel, .sentinel, .sentinel, .sentinel, .sentinel, .sentinel, .sentinel, .sentinel, .sentinel, .pinned] true (true, "aad375ca251f11094040cd58309be66e916734d34aa90c70b1f55b6e28f48b50") true
    wrong_holds (fun _ h => by cases h) (by kernel_rfl) (fun _ h => by cases h) asmWrong_row_tie rfl ⟨rfl, rfl⟩ (by kernel_rfl) rfl
    (fun f fn hf hfn => by
      obtain rfl : f = 4 := Option.some.inj ((show Tryd.prog.funcNamed "turnkey/turnkeylaw15.AsmWrong" = some 4 by kernel_rfl).symm.trans hf) |>.symm
      obtain rfl : fn = Tryd.f4 := (Option.some.inj (Tryd.func4.symm.trans hfn)).symm
      exact ⟨by kernel_rfl, fun j t ht => by
        rw [Tryd.params4] at ht
        have hm : t ∈ [3] := by simpa using Array.mem_of_getElem? ht
        have hall : ([3].all fun u => !Tryd.prog.wantsStandIn u) = true := by kernel_rfl
        exact (show Tryd.prog.wantsStandIn t = false by simpa using List.all_eq_true.1 hall t hm)⟩)
    (by kernel_rfl)
#print axioms asmWrong_card
end Go.Proofs.YtehmkckpbknodaaDoor
