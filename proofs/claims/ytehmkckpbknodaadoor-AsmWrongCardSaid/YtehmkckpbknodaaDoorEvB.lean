import Derived.Test.YtehmkckpbknodaaDoorEvA
import Derived.LaidEqlPtr
import Derived.Lib.IfaceEq
import Derived.WalkSpells
import Derived.Laws.BytesArg
import Derived.Laws.StructEq
set_option linter.all false

/- What the operations that read the heap come to in the real run. -/
namespace Go.Ev
variable {P : Program}

theorem run_loadCells_block (w : World) (b o n : Nat) (c : Array Value) (t : TypeId) (fr : Nat × Nat) (hb : w.heap[b]? = some (.cells c t fr)) (hn : 0 < n → o + n ≤ c.size) :
    (loadCells ⟨b, o, none⟩ n).run P w = .ok ((c.toList.drop o).take n).toArray w := by
  have hl : ((c.toList.drop o).take n).length = n := by
    simp only [List.length_take, List.length_drop, Array.length_toList]
    rcases Nat.eq_zero_or_pos n with h | h
    · omega
    · have := hn h; omega
  have := run_loadCells_list (P := P) w ⟨b, o, none⟩ ((c.toList.drop o).take n) (fun j v hv => by
    rw [Addr.add_lit]
    rw [List.getElem?_take] at hv
    split at hv
    · rw [List.getElem?_drop] at hv
      simp only [World.cell?, hb]
      simpa using hv
    · cases hv)
  rwa [hl] at this

section
variable {G B : Nat} {φ : Ren} {h : AH} {w : World}

theorem load_ok (s : Sim G B φ h w) {t : TypeId} {id off : Nat} {v : Value} (hv : load P h t id off = some v) {l : Loc} (hl : φ id = some l) :
    ∃ v', VR φ v v' ∧ (loadVar t ⟨l.b, l.s + off, none⟩).run P w = .ok v' w := by
  unfold load at hv
  split at hv
  · rename_i cs hcs
    obtain ⟨c, ty, fr, hb, hc⟩ := s.cellsAt hcs hl
    split at hv
    · rename_i ha
      split at hv
      · rename_i n hn
        split at hv
        · rename_i vs hvs
          injection hv with hv; subst hv
          obtain ⟨r1, r2, r3⟩ := hc.read hvs
          refine ⟨.agg ((c.toList.drop (l.s + off)).take n).toArray, VR.of_cells (by simpa using r1), ?_⟩
          simp only [loadVar, Sem.run_bind, run_isAgg' ha, Result.andThen_ok, if_true, run_sizeOf' hn, run_loadCells_block w _ _ n c ty fr hb r3]
          rfl
        · cases hv
      · cases hv
    · rename_i ha
      split at hv
      · rename_i u r hd
        injection hv with hv; subst hv
        have hg : cs[off]? = some u := by
          have := congrArg (fun l => l[0]?) hd
          simpa using this
        obtain ⟨v', hv', hr⟩ := hc.get hg
        refine ⟨v', hr, ?_⟩
        have hcell : w.cell? ⟨l.b, l.s + off, none⟩ = some v' := by simp only [World.cell?, hb]; simpa using hv'
        simp [loadVar, run_isAgg' ha, hcell]
      · cases hv
    · cases hv
  · cases hv

/-- Cells read at a slice's or a pointer's place. -/
theorem readL_ok (s : Sim G B φ h w) {id off n : Nat} {vs : List Value} (hv : readL h id off n = some vs) {l : Loc} (hl : φ id = some l) :
    ∃ vs' : List Value, VRL φ vs vs' ∧ vs'.length = n ∧ (loadCells ⟨l.b, l.s + off, none⟩ n).run P w = .ok vs'.toArray w := by
  unfold readL at hv
  split at hv
  · injection hv with hv; subst hv
    exact ⟨[], VRL.nil φ, rfl, by simp [loadCells, loadCellsFrom]⟩
  · split at hv
    · rename_i cs hcs
      obtain ⟨c, ty, fr, hb, hc⟩ := s.cellsAt hcs hl
      obtain ⟨r1, r2, r3⟩ := hc.read hv
      refine ⟨_, r1, ?_, run_loadCells_block w _ _ n c ty fr hb r3⟩
      rw [← r1.1, r2]
    · cases hv

theorem livePtr_ok (s : Sim G B φ h w) {a : Addr} (ha : livePtr h a = true) {l : Loc} (hl : φ a.block = some l) : a.spot = none ∧ ∃ c t, w.heap[l.b]? = some (.cells c t (0, 0)) := by
  unfold livePtr at ha
  split at ha
  · rename_i cs e ho hs
    obtain ⟨l', hl', c, t, hb, _⟩ := s.obj _ _ ho
    rw [hl] at hl'; injection hl' with hl'; subst hl'
    exact ⟨hs, c, t, hb⟩
  · rename_i cs ho hs
    obtain ⟨l', hl', c, t, hb, _⟩ := s.obj _ _ ho
    rw [hl] at hl'; injection hl' with hl'; subst hl'
    exact ⟨hs, c, t, hb⟩
  · cases ha

theorem run_sameAddr (s : Sim G B φ h w) {a b : Addr} (ha : livePtr h a = true) (hb : livePtr h b = true) {l l' : Loc} (hl : φ a.block = some l) (hl' : φ b.block = some l') :
    (Go.sameAddr ⟨l.b, l.s + a.off, none⟩ ⟨l'.b, l'.s + b.off, none⟩).run P w = .ok (Ev.sameAddr a b) w := by
  obtain ⟨sa, ca, ta, hca⟩ := livePtr_ok s ha hl
  obtain ⟨sb, cb, tb, hcb⟩ := livePtr_ok s hb hl'
  by_cases e : a.block = b.block
  · rw [← e, hl] at hl'
    injection hl' with hl'; subst hl'
    by_cases eo : a.off = b.off
    · have : Ev.sameAddr a b = true := by simp [Ev.sameAddr, e, eo]
      rw [this, eo]
      exact run_sameAddr_same w _
    · have : Ev.sameAddr a b = false := by
        unfold Ev.sameAddr
        have : Nat.beq a.off b.off = false := by
          cases hq : Nat.beq a.off b.off with
          | false => rfl
          | true => exact absurd (Nat.eq_of_beq_eq_true hq) eo
        rw [this, Bool.and_false]
      rw [this]
      exact run_sameAddr_other w (fun e' => eo (by injection e' with _ e2; omega)) hca hcb
  · have hf : Ev.sameAddr a b = false := by simp [Ev.sameAddr, e]
    rw [hf]
    refine run_sameAddr_other w (fun e' => ?_) hca hcb
    injection e' with e1 e2
    unfold livePtr at ha hb
    split at ha
    · rename_i cs n ho _
      split at hb
      · rename_i cs' n' ho' _
        exact s.apart _ _ _ _ _ _ ho ho' e rfl hl hl' e1
      · rename_i cs' ho' _
        exact s.apart _ _ _ _ _ _ ho ho' e rfl hl hl' e1
      · cases hb
    · rename_i cs ho _
      split at hb
      · rename_i cs' n' ho' _
        exact s.apart _ _ _ _ _ _ ho' ho (fun x => e x.symm) rfl hl' hl e1.symm
      · rename_i cs' ho' _
        exact s.sents _ _ _ _ _ _ _ _ ho ho' e hl hl' (Nat.blt_eq ▸ ha) (Nat.blt_eq ▸ hb) e1 e2
      · cases hb
    · cases ha

theorem size_pos {e n : Nat} (hn : sizeOf? P e = some (n + 1)) : ∃ j, P.info? e = some j ∧ j.size ≠ 0 := by
  obtain ⟨i, hi, hz, _⟩ := bytesOf_info hn
  exact ⟨i, hi, by omega⟩

set_option maxHeartbeats 1000000 in
theorem eql_run (s : Sim G B φ h w) {t : TypeId} {x y x' y' : Value} {b : Bool} (hx : VR φ x x') (hy : VR φ y y') (he : eql P h t x y = some b) (d : Nat) :
    (Op.equalIn (d + 2) t x' y').run P w = .ok b w := by
  obtain ⟨k', hk⟩ : ∃ k, k = d + 1 := ⟨_, rfl⟩
  show (Op.equalIn (d + 1 + 1) t x' y').run P w = .ok b w
  rw [← hk]
  unfold eql at he
  split at he
  · rename_i b' hu
    injection he with he; subst he
    cases hx
    cases hy <;> simp [Op.equalIn, run_underlying hu]
  · rename_i hu
    injection he with he; subst he
    cases hx; cases hy
    simp [Op.equalIn, run_underlying hu]
  · rename_i e a a' hu
    split at he
    · rename_i n h1 h2 h3
      injection he with he; subst he
      cases hx with
      | ptr id off l hl =>
      cases hy with
      | ptr id' off' l' hl' =>
      obtain ⟨j, hj, hne⟩ := size_pos h3
      have := run_sameAddr (P := P) s h1 h2 hl hl'
      simp [Op.equalIn, run_underlying hu, run_sizeOf' h3, this]
    · cases he
  · rename_i ms tx vx hu
    injection he with he; subst he
    cases hx; cases hy
    simp [Op.equalIn, run_underlying hu]
  · rename_i ms tx vx hu
    injection he with he; subst he
    cases hx; cases hy
    simp [Op.equalIn, run_underlying hu]
  · rename_i ms tx vx ty vy hu
    cases hx with
    | iface _ _ vx' hvx =>
    cases hy with
    | iface _ _ vy' hvy =>
    split at he
    · rename_i hne
      injection he with he; subst he
      have : tx ≠ ty := fun e => by rw [e, Nat.beq_refl] at hne; cases hne
      simp [Op.equalIn, run_underlying hu, this]
    · rename_i heq
      obtain rfl : tx = ty := Nat.eq_of_beq_eq_true heq
      split at he
      · rename_i i hi
        split at he
        · rename_i e a a' hcomp hu2
          split at he
          · rename_i n h1 h2 h3
            injection he with he; subst he
            cases hvx with
            | ptr id off l hl =>
            cases hvy with
            | ptr id' off' l' hl' =>
            have := run_sameAddr (P := P) s h1 h2 hl hl'
            have h0 : (Op.equalIn k' tx (.pointer (some ⟨l.b, l.s + off, none⟩)) (.pointer (some ⟨l'.b, l'.s + off', none⟩))).run P w = .ok (Ev.sameAddr ⟨id, off, none⟩ ⟨id', off', none⟩) w := by
              rw [hk]
              simp [Op.equalIn, run_underlying hu2, run_sizeOf' h3, this]
            simp [Op.equalIn, run_underlying hu, typeInfo, hi, hcomp, h0]
          · cases he
        · rename_i k0 k a l b hcomp hu2
          split at he
          · rename_i hkl
            obtain rfl : k = l := by simpa using hkl
            injection he with he; subst he
            cases hvx; cases hvy
            have h0 : (Op.equalIn k' tx (.int k a) (.int k b)).run P w = .ok (decide (a = b)) w := by
              rw [hk]
              simp [Op.equalIn, run_underlying hu2]
              rfl
            simp [Op.equalIn, run_underlying hu, typeInfo, hi, hcomp, h0]
          · cases he
        · cases he
      · cases he
  · rename_i e b' c d hu
    injection he with he; subst he
    cases hx
    cases hy <;> simp [Op.equalIn, run_underlying hu]
  · rename_i hu
    injection he with he; subst he
    cases hy
    cases hx <;> simp [Op.equalIn, run_underlying hu]
  · rename_i hu
    injection he with he; subst he
    cases hx
    cases hy <;> simp [Op.equalIn, run_underlying hu]
  · rename_i hu
    injection he with he; subst he
    cases hx; cases hy
    simp [Op.equalIn, run_underlying hu]
  · rename_i hu
    injection he with he; subst he
    cases hx; cases hy
    simp [Op.equalIn, run_underlying hu]
  · rename_i hu
    injection he with he; subst he
    cases hx; cases hy
    simp [Op.equalIn, run_underlying hu]
  · cases he

/-- The forms that equality takes. -/
theorem eql_shape {t : TypeId} {x y x' y' : Value} {b : Bool} (hx : VR φ x x') (hy : VR φ y y') (he : eql P h t x y = some b) :
    (∀ op a c, eqGuard op t a c x' y' = pure ()) ∧ binOp .eql t x' y' = (do let r ← Op.equal t x' y'; pure (.bool r)) ∧
      binOp .neq t x' y' = (do let r ← Op.equal t x' y'; pure (.bool (!r))) := by
  unfold eql at he
  split at he
  · cases hx; cases hy <;> exact ⟨fun op a c => by cases op <;> rfl, rfl, rfl⟩
  · cases hx; cases hy; exact ⟨fun op a c => by cases op <;> rfl, rfl, rfl⟩
  · cases hx; cases hy; exact ⟨fun op a c => by cases op <;> rfl, rfl, rfl⟩
  · cases hx; cases hy; exact ⟨fun op a c => by cases op <;> rfl, rfl, rfl⟩
  · cases hx; cases hy; exact ⟨fun op a c => by cases op <;> rfl, rfl, rfl⟩
  · cases hx; cases hy; exact ⟨fun op a c => by cases op <;> rfl, rfl, rfl⟩
  · cases hx; cases hy <;> exact ⟨fun op a c => by cases op <;> rfl, rfl, rfl⟩
  · cases hy; cases hx <;> exact ⟨fun op a c => by cases op <;> rfl, rfl, rfl⟩
  · cases hx; cases hy <;> exact ⟨fun op a c => by cases op <;> rfl, rfl, rfl⟩
  · cases hx; cases hy; exact ⟨fun op a c => by cases op <;> rfl, rfl, rfl⟩
  · cases hx; cases hy; exact ⟨fun op a c => by cases op <;> rfl, rfl, rfl⟩
  · cases hx; cases hy; exact ⟨fun op a c => by cases op <;> rfl, rfl, rfl⟩
  · cases he
end
end Go.Ev


/- What slicing, converting come to in the real run. -/
namespace Go.Ev
variable {P : Program}

theorem natOf_int {v : Value} {n : Nat} (h : natOf v = some n) : ∃ k, v = .int k (.ofNat n) := by
  unfold natOf at h
  split at h
  · rename_i k m; injection h with h; subst h; exact ⟨k, rfl⟩
  · cases h

theorem run_sliceBound' {v : Value} {n y : Nat} (code : BoundsCode) (h : natOf v = some n) (hy : n ≤ y) (w : World) : (Instr.sliceBound v y code).run P w = .ok n w := by
  obtain ⟨k, rfl⟩ := natOf_int h
  simp [Instr.sliceBound, asIntOf, hy]

theorem run_bounds {isSlice : Bool} {len cap l hh m : Nat} {lo hi mx : Option Value}
    (hlo : loOf lo = some l) (hhi : hiOf hi mx len = some hh) (hmx : mxOf mx cap = some m) (h1 : l ≤ hh) (h2 : hh ≤ m) (h3 : m ≤ cap) (w : World) :
    (Instr.sliceBounds isSlice len cap lo hi mx).run P w = .ok (l, hh, m) w := by
  unfold loOf at hlo
  unfold hiOf at hhi
  unfold mxOf at hmx
  cases mx with
  | none =>
    simp only [Option.some.injEq] at hmx
    subst hmx
    cases hi with
    | none =>
      simp only [Option.some.injEq] at hhi
      subst hhi
      cases lo with
      | none => simp only [Option.some.injEq] at hlo; subst hlo; simp [Instr.sliceBounds]
      | some v => simp only at hlo; simp [Instr.sliceBounds, run_sliceBound' _ hlo h1]
    | some u =>
      simp only at hhi
      cases lo with
      | none => simp only [Option.some.injEq] at hlo; subst hlo; simp [Instr.sliceBounds, run_sliceBound' _ hhi h2]
      | some v => simp only at hlo; simp [Instr.sliceBounds, run_sliceBound' _ hlo h1, run_sliceBound' _ hhi h2]
  | some q =>
    simp only at hmx
    cases hi with
    | none => simp at hhi
    | some u =>
      simp only at hhi
      cases lo with
      | none => simp only [Option.some.injEq] at hlo; subst hlo; simp [Instr.sliceBounds, run_sliceBound' _ hmx h3, run_sliceBound' _ hhi h2]
      | some v => simp only at hlo; simp [Instr.sliceBounds, run_sliceBound' _ hmx h3, run_sliceBound' _ hlo h1, run_sliceBound' _ hhi h2]

theorem bsub_eq (s : ByteArray) (l h : Nat) : s.extract l h = bsub s l h := by
  apply ByteArray.ext
  unfold bsub
  apply Array.ext'
  rw [ByteArray.data_extract, Array.toList_extract, List.extract_eq_take_drop]

section
variable {G B : Nat} {φ : Ren} {h : AH} {w : World}

theorem slice_ok (s : Sim G B φ h w) {t : TypeId} {x x' v : Value} {lo hi mx : Option Value} (hx : VR φ x x') (hs : slice P h t x lo hi mx = some v) :
    ∃ v', VR φ v v' ∧ (Instr.sliceAt t x' lo hi mx).run P w = .ok v' w := by
  unfold slice at hs
  split at hs
  · rename_i str hu
    cases hx
    split at hs
    · cases hs
    · split at hs
      · rename_i l hh hlo hhi
        split at hs
        · rename_i h1 h2
          injection hs with hs; subst hs
          have h1 := Nat.le_of_ble_eq_true h1
          have h2 := Nat.le_of_ble_eq_true h2
          refine ⟨_, .string _, ?_⟩
          have hb := run_bounds (P := P) (isSlice := false) (len := str.size) (cap := str.size) (lo := lo) (hi := hi) (mx := none) (m := str.size) hlo hhi rfl h1 h2 (Nat.le_refl _) w
          simp [Instr.sliceAt, Instr.slice, run_underlying hu, hb, bsub_eq]
        · cases hs
      · cases hs
  · rename_i elem base len cap hu
    split at hs
    · rename_i l hh n hlo hhi hn
      split at hs
      · rename_i id off
        split at hs
        · rename_i hcap
          have hcap : cap < UNK := by
            rcases Nat.lt_or_ge cap UNK with e | e
            · exact e
            · rw [Nat.ble_eq_true_of_le e] at hcap; cases hcap
          split at hs
          · rename_i m hm
            split at hs
            · rename_i hle
              injection hs with hs; subst hs
              simp only [Bool.and_eq_true] at hle
              obtain ⟨⟨h1, h2⟩, h3⟩ := hle
              have h1 := Nat.le_of_ble_eq_true h1
              have h2 := Nat.le_of_ble_eq_true h2
              have h3 := Nat.le_of_ble_eq_true h3
              have hb := run_bounds (P := P) (isSlice := true) (len := len) (cap := cap) hlo hhi hm h1 h2 h3 w
              cases hx with
              | slExact _ _ _ _ ll hl hc hle =>
                refine ⟨.slice (some (if m = l then ⟨ll.b, ll.s + off, none⟩ else ⟨ll.b, ll.s + (off + l * n), none⟩)) (hh - l) (m - l), ?_, ?_⟩
                · have := VR.slExact (φ := φ) id (if m = l then off else off + l * n) (hh - l) (m - l) ll hl (by omega) (by omega)
                  split <;> simp_all
                · simp only [Instr.sliceAt, Instr.slice, Sem.run_bind, run_underlying hu, Result.andThen_ok, hb, run_sizeOf' hn, Option.map_some, Addr.add_lit, Nat.add_assoc]
                  split <;> rfl
              | slZero _ _ b o =>
                have : m = 0 := by omega
                subst this
                have : hh = 0 := by omega
                subst this
                have : l = 0 := by omega
                subst this
                refine ⟨_, .slZero id off b o, ?_⟩
                simp [Instr.sliceAt, Instr.slice, run_underlying hu, hb, run_sizeOf' hn]
              | slUnk => unfold UNK at hcap; omega
              | slEnd => unfold UNK at hcap; omega
            · cases hs
          · cases hs
        · rename_i hcap
          split at hs
          · cases hs
          · rename_i hle
            simp only [Bool.and_eq_true] at hle
            obtain ⟨⟨⟨h1, h2⟩, h3⟩, h4⟩ := hle
            have h1 := Nat.eq_of_beq_eq_true h1
            have h2 := Nat.le_of_ble_eq_true h2
            have h3 := Nat.le_of_ble_eq_true h3
            subst h1
            generalize hc : UNK + n = cap at *
            cases hx with
            | slExact _ _ _ _ ll hl hc' hle => omega
            | slZero _ _ b o => unfold UNK at hc; omega
            | slUnk _ _ _ c ll hl hle hz hxx =>
              have hen : ll.e = n := by omega
              have hhc : hh ≤ c := by
                unfold within at h4
                split at h4
                · rename_i h5
                  have := Nat.le_of_ble_eq_true h5
                  omega
                · split at h4
                  · rename_i cs e ho
                    split at h4
                    · rename_i q h5 h6
                      obtain ⟨_, r2, _⟩ := takeN_some h6
                      obtain ⟨l', hl', cc, ty, _, _, r⟩ := s.obj _ _ ho
                      rw [hl] at hl'; injection hl' with hl'; subst hl'
                      obtain ⟨_, r4, _, _⟩ := r
                      simp only [List.length_drop] at r2
                      rw [hen] at hz
                      rcases Nat.eq_zero_or_pos hh with e0 | e0
                      · omega
                      · have : hh * n ≤ c * n := by
                          have : 0 < hh * n := Nat.mul_pos e0 h2
                          omega
                        exact Nat.le_of_mul_le_mul_right this h2
                    · cases h4
                  · cases h4
              split at hs
              · injection hs with hs; subst hs
                have hb := run_bounds (P := P) (isSlice := true) (len := len) (cap := c) (mx := none) (m := c) hlo hhi rfl h3 hhc (Nat.le_refl _) w
                by_cases hcl : c = l
                · subst hcl
                  have : hh = c := by omega
                  subst this
                  refine ⟨.slice (some ⟨ll.b, ll.s + off, none⟩) 0 0, ?_, ?_⟩
                  · have := VR.slEnd (φ := φ) id (off + hh * n) ll ll.b (ll.s + off) hl (by rw [hen] at hz; omega)
                    rw [hen, hc] at this
                    simpa using this
                  · simp [Instr.sliceAt, Instr.slice, run_underlying hu, hb, run_sizeOf' hn]
                · refine ⟨.slice (some ⟨ll.b, ll.s + (off + l * n), none⟩) (hh - l) (c - l), ?_, ?_⟩
                  · have := VR.slUnk (φ := φ) id (off + l * n) (hh - l) (c - l) ll hl (by omega)
                      (by
                        rw [hen] at hz ⊢
                        rw [Nat.sub_mul]
                        have : l * n ≤ c * n := Nat.mul_le_mul_right _ (by omega)
                        omega) hxx
                    rwa [hen, hc] at this
                  · simp [Instr.sliceAt, Instr.slice, run_underlying hu, hb, run_sizeOf' hn, hcl, Addr.add_lit, Nat.add_assoc]
              · rename_i q
                split at hs
                · rename_i m hm
                  split at hs
                  · rename_i hle2
                    injection hs with hs; subst hs
                    simp only [Bool.and_eq_true] at hle2
                    have h5 := Nat.le_of_ble_eq_true hle2.1.1
                    have h6 := Nat.le_of_ble_eq_true hle2.1.2
                    have h7 : m < UNK := Nat.blt_eq ▸ hle2.2
                    have hb := run_bounds (P := P) (isSlice := true) (len := len) (cap := c) hlo hhi (mx := some q) hm h3 h5 (by omega) w
                    refine ⟨.slice (some (if m = l then ⟨ll.b, ll.s + off, none⟩ else ⟨ll.b, ll.s + (off + l * n), none⟩)) (hh - l) (m - l), ?_, ?_⟩
                    · have := VR.slExact (φ := φ) id (if m = l then off else off + l * n) (hh - l) (m - l) ll hl (by omega) (by omega)
                      split <;> simp_all
                    · simp only [Instr.sliceAt, Instr.slice, Sem.run_bind, run_underlying hu, Result.andThen_ok, hb, run_sizeOf' hn, Option.map_some, Addr.add_lit, Nat.add_assoc]
                      split <;> rfl
                  · cases hs
                · cases hs
            | slEnd _ _ ll b o hl hxx =>
              have hh0 : hh = 0 := by
                unfold within at h4
                split at h4
                · rename_i h5
                  have := Nat.le_of_ble_eq_true h5
                  omega
                · split at h4
                  · rename_i cs e ho
                    split at h4
                    · rename_i q h5 h6
                      obtain ⟨_, r2, _⟩ := takeN_some h6
                      obtain ⟨l', hl', cc, ty, _, _, r⟩ := s.obj _ _ ho
                      rw [hl] at hl'; injection hl' with hl'; subst hl'
                      obtain ⟨_, _, r5, _⟩ := r
                      simp only [List.length_drop] at r2
                      rcases Nat.eq_zero_or_pos hh with e0 | e0
                      · exact e0
                      · have : 0 < hh * n := Nat.mul_pos e0 h2
                        omega
                    · cases h4
                  · cases h4
              subst hh0
              have : l = 0 := by omega
              subst this
              split at hs
              · injection hs with hs; subst hs
                have hb := run_bounds (P := P) (isSlice := true) (len := 0) (cap := 0) (mx := none) (m := 0) hlo hhi rfl (Nat.le_refl _) (Nat.le_refl _) (Nat.le_refl _) w
                refine ⟨.slice (some ⟨b, o, none⟩) 0 0, ?_, ?_⟩
                · have := VR.slEnd (φ := φ) id off ll b o hl hxx
                  simpa using this
                · simp [Instr.sliceAt, Instr.slice, run_underlying hu, hb, run_sizeOf' hn]
              · rename_i q
                split at hs
                · rename_i m hm
                  split at hs
                  · rename_i hle2
                    injection hs with hs; subst hs
                    simp only [Bool.and_eq_true] at hle2
                    have h6 := Nat.le_of_ble_eq_true hle2.1.2
                    have : m = 0 := by omega
                    subst this
                    have hb := run_bounds (P := P) (isSlice := true) (len := 0) (cap := 0) hlo hhi (mx := some q) hm (Nat.le_refl _) (Nat.le_refl _) (Nat.le_refl _) w
                    refine ⟨_, .slZero id off b o, ?_⟩
                    simp [Instr.sliceAt, Instr.slice, run_underlying hu, hb, run_sizeOf' hn]
                  · cases hs
                · cases hs
      · cases hs
      · split at hs
        · rename_i hz hmx
          injection hs with hs; subst hs
          cases hx
          simp only [Bool.and_eq_true] at hz
          obtain ⟨⟨⟨h1, h2⟩, _⟩, _⟩ := hz
          have h1 := Nat.eq_of_beq_eq_true h1
          have h2 := Nat.eq_of_beq_eq_true h2
          subst h1; subst h2
          have hb := run_bounds (P := P) (isSlice := true) (len := 0) (cap := 0) hlo hhi hmx (Nat.le_refl _) (Nat.le_refl _) (Nat.le_refl _) w
          refine ⟨_, .slNil, ?_⟩
          simp [Instr.sliceAt, Instr.slice, run_underlying hu, hb, run_sizeOf' hn]
        · cases hs
    · cases hs
  · rename_i n elem id off hu
    split at hs
    · rename_i l hh m z hlo hhi hm hz
      split at hs
      · rename_i hle
        injection hs with hs; subst hs
        simp only [Bool.and_eq_true] at hle
        obtain ⟨⟨⟨h1, h2⟩, h3⟩, h4⟩ := hle
        have h1 := Nat.le_of_ble_eq_true h1
        have h2 := Nat.le_of_ble_eq_true h2
        have h3 := Nat.le_of_ble_eq_true h3
        have h4 : n < UNK := Nat.blt_eq ▸ h4
        have hb := run_bounds (P := P) (isSlice := false) (len := n) (cap := n) hlo hhi hm h1 h2 h3 w
        cases hx with
        | ptr _ _ ll hl =>
          refine ⟨.slice (some (if m = l then ⟨ll.b, ll.s + off, none⟩ else ⟨ll.b, ll.s + (off + l * z), none⟩)) (hh - l) (m - l), ?_, ?_⟩
          · have := VR.slExact (φ := φ) id (if m = l then off else off + l * z) (hh - l) (m - l) ll hl (by omega) (by omega)
            split <;> simp_all
          · simp only [Instr.sliceAt, Instr.sureAddr, Sem.run_bind, Sem.run_pure, run_underlying hu, Result.andThen_ok, hb, run_sizeOf' hz, Addr.add_lit, Nat.add_assoc]
            all_goals (split <;> rfl)
      · cases hs
    · cases hs
  · cases hs
end
end Go.Ev


/- What looking into a map comes to in the real run. -/
namespace Go.Ev
variable {P : Program}

theorem keyOk_plain {t : TypeId} {k : Value} (h : keyOk P t k = true) : plain k = true := by
  unfold keyOk at h
  split at h
  · rfl
  · rfl
  · simp only [Bool.and_eq_true] at h
    simp only [plain]
    rw [List.all_eq_true] at *
    intro x hx
    have := h.2 x hx
    cases x <;> simp_all [intCell, scalar]
  · cases h

theorem keyEqL_true : ∀ {xs ys : List Value}, keyEqL xs ys = some true → xs = ys
  | [], [], _ => rfl
  | [], _ :: _, h => by simp [keyEqL] at h
  | _ :: _, [], h => by cases ‹Value› <;> simp [keyEqL] at h
  | x :: xs, y :: ys, h => by
    unfold keyEqL at h
    split at h
    · rename_i e1 e2; cases e1
    · rename_i k a xs' k' b ys' e1 e2
      injection e1 with e1 e1'
      injection e2 with e2 e2'
      subst e1; subst e1'; subst e2; subst e2'
      split at h
      · rename_i r hk hr
        obtain rfl : k = k' := by simpa using hk
        simp at h
        obtain ⟨h1, h2⟩ := h
        subst h1; subst h2
        rw [keyEqL_true hr]
      · cases h
    · cases h

theorem keyEq_true {a b : Value} (h : keyEq a b = some true) : a = b := by
  unfold keyEq at h
  split at h
  · split at h
    · rename_i hk
      simp at h hk
      subst h; subst hk; rfl
    · cases h
  · rename_i x y
    simp at h
    obtain ⟨⟨x⟩⟩ := x
    obtain ⟨⟨y⟩⟩ := y
    simp at h
    subst h; rfl
  · rename_i x y
    have := keyEqL_true h
    rw [show x = y from Array.ext' this]
  · cases h

theorem keyEqL_len : ∀ {xs ys : List Value} {b : Bool}, keyEqL xs ys = some b → xs.length = ys.length
  | [], [], _, _ => rfl
  | [], _ :: _, _, h => by simp [keyEqL] at h
  | _ :: _, [], _, h => by cases ‹Value› <;> simp [keyEqL] at h
  | x :: xs, y :: ys, b, h => by
    unfold keyEqL at h
    split at h
    · rename_i e1 e2; cases e1
    · rename_i k a xs' k' c ys' e1 e2
      injection e1 with e1 e1'
      injection e2 with e2 e2'
      subst e1; subst e1'; subst e2; subst e2'
      split at h
      · rename_i r hk hr
        simp [keyEqL_len hr]
      · cases h
    · cases h

theorem run_part_int (w : World) {t : TypeId} {q : IntKind} (ht : P.underlying t = some (.int q)) {cs : Array Value} {i : Nat} {v : Value} (hv : cs[i]? = some v) :
    (Go.part t cs i).run P w = .ok v w := by
  have ha : isAgg? P t = some false := by simp [isAgg?, ht]
  simp [Go.part, run_isAgg' ha, hv]

theorem run_eqFields (w : World) (d : Nat) (xs ys : Array Value) : ∀ (fs : List Field) (i : Nat) (b : Bool), intFields P i fs = true → i + fs.length = xs.size →
    keyEqL (xs.toList.drop i) (ys.toList.drop i) = some b → (Op.eqFields (d + 1) xs ys fs).run P w = .ok b w
  | [], i, b, _, hl, h => by
    have h1 : xs.toList.drop i = [] := List.drop_eq_nil_of_le (by simp at hl ⊢; omega)
    rw [h1] at h
    have h2 : ys.toList.drop i = [] := by
      have := keyEqL_len h
      exact List.eq_nil_of_length_eq_zero (by simpa using this.symm)
    rw [h2] at h
    simp only [keyEqL, Option.some.injEq] at h
    subst h
    simp [Op.eqFields]
  | f :: fs, i, b, hf, hl, h => by
    simp only [intFields, Bool.and_eq_true] at hf
    obtain ⟨⟨⟨h1, h2⟩, h3⟩, h4⟩ := hf
    have h2 := Nat.eq_of_beq_eq_true h2
    cases hu : P.underlying f.type with
    | none => simp [hu] at h3
    | some dd =>
      cases dd <;> simp only [hu, Bool.false_eq_true] at h3
      rename_i q
      have hxi : i < xs.size := by simp at hl; omega
      have hyi : i < ys.size := by
        have := keyEqL_len h
        simp at this
        omega
      have hdx := List.drop_eq_getElem_cons (l := xs.toList) (i := i) (by simpa using hxi)
      have hdy := List.drop_eq_getElem_cons (l := ys.toList) (i := i) (by simpa using hyi)
      rw [hdx, hdy] at h
      unfold keyEqL at h
      split at h
      · rename_i e1 _; cases e1
      · rename_i k a xs' k' c ys' e1 e2
        injection e1 with e1 e1'
        injection e2 with e2 e2'
        split at h
        · rename_i r hk hr
          obtain rfl : k = k' := by simpa using hk
          injection h with h
          subst e1'; subst e2'
          have hx : xs[i]? = some (.int k a) := by rw [Array.getElem?_eq_getElem hxi]; exact congrArg some (by simpa using e1)
          have hy : ys[i]? = some (.int k c) := by rw [Array.getElem?_eq_getElem hyi]; exact congrArg some (by simpa using e2)
          have ih := run_eqFields w d xs ys fs (i + 1) r h4 (by simp at hl ⊢; omega) hr
          have hne : f.name ≠ "_" := by simpa using h1
          simp only [Op.eqFields, if_pos hne, Sem.run_bind, h2, run_part_int w hu hx, run_part_int w hu hy, Result.andThen_ok, run_equalIn_int w d f.type k q a c hu]
          by_cases e : a = c
          · subst e
            subst h
            simp [ih]
          · have : (a == c) = false := by simp [e]
            rw [this]
            subst h
            simp [e]
        · cases h
      · cases h

/-- Keys' equality, in the real run. -/
theorem run_keyEq (w : World) {t : TypeId} {k k' : Value} {b : Bool} (hk : keyOk P t k = true) (h : keyEq k k' = some b) :
    (Op.equal t k k').run P w = .ok b w := by
  have e : ∀ d : Nat, (Op.equalIn (d + 2) t k k').run P w = .ok b w := by
    intro d
    unfold keyOk at hk
    split at hk
    · rename_i q q' n hu
      unfold keyEq at h
      split at h
      · rename_i k1 a k2 c e1
        injection e1 with e1 e1'
        subst e1; subst e1'
        split at h
        · rename_i hkk
          obtain rfl := of_decide_eq_true hkk
          injection h with h; subst h
          exact run_equalIn_int w (d + 1) t _ q _ c hu
        · cases h
      · rename_i e1; cases e1
      · rename_i e1; cases e1
      · cases h
    · rename_i s hu
      unfold keyEq at h
      split at h
      · rename_i e1; cases e1
      · rename_i a c e1
        injection e1 with e1
        subst e1
        injection h with h; subst h
        rw [run_equalIn_string w (d + 1) t s c hu, ByteArray.toList_eq, ByteArray.toList_eq]
        congr 1
        rw [Bool.eq_iff_iff]
        simp
      · rename_i e1; cases e1
      · cases h
    · rename_i fs cs hu
      simp only [Bool.and_eq_true] at hk
      unfold keyEq at h
      split at h
      · rename_i e1; cases e1
      · rename_i e1; cases e1
      · rename_i a c e1
        injection e1 with e1
        subst e1
        have hf : P.fieldsOf t = fs := by simp [Program.fieldsOf, hu]
        rw [run_equalIn_struct w (d + 1) t cs c (by rw [hf]; exact hu) (by simpa using hk.1.1.1), hf]
        have hlen := Nat.eq_of_beq_eq_true hk.1.2
        exact run_eqFields w d cs c fs.toList 0 b hk.1.1.2 (by simpa using hlen.symm) (by simpa using h)
      · cases h
    · cases hk
  exact e 9998

theorem run_checkKey (w : World) {t : TypeId} {k : Value} (hk : keyOk P t k = true) (e : Bool) (d : Nat) :
    (Instr.checkKey e (d + 2) t k).run P w = .ok () w := by
  unfold keyOk at hk
  split at hk
  · rename_i q q' n hu
    simp [Instr.checkKey, run_underlying hu]
  · rename_i s hu
    simp [Instr.checkKey, run_underlying hu]
  · rename_i fs cs hu
    simp only [Bool.and_eq_true] at hk
    have hlen := Nat.eq_of_beq_eq_true hk.1.2
    obtain ⟨k', hk'⟩ : ∃ k, k = d + 1 := ⟨_, rfl⟩
    show (Instr.checkKey e (d + 1 + 1) t (.agg cs)).run P w = .ok () w
    rw [← hk']
    have key : ∀ (gs : List Field) (i : Nat), intFields P i gs = true → i + gs.length = cs.size →
        (forIn gs PUnit.unit (fun f (_ : PUnit) => (do
          if f.name ≠ "_" then Instr.checkKey e k' f.type (← Go.part f.type cs f.offset)
          pure (ForInStep.yield PUnit.unit) : Sem (ForInStep PUnit)))).run P w = .ok PUnit.unit w := by
      intro gs
      induction gs with
      | nil => intro i _ _; simp
      | cons f fs ih =>
        intro i hf hl
        simp only [intFields, Bool.and_eq_true] at hf
        obtain ⟨⟨⟨h1, h2⟩, h3⟩, h4⟩ := hf
        have h2 := Nat.eq_of_beq_eq_true h2
        have hne : f.name ≠ "_" := by simpa using h1
        cases hu : P.underlying f.type with
        | none => simp [hu] at h3
        | some dd =>
          cases dd <;> simp only [hu, Bool.false_eq_true] at h3
          have hi : i < cs.size := by simp at hl; omega
          have hv : cs[i]? = some cs[i] := Array.getElem?_eq_getElem hi
          have hcell : intCell cs[i] = true := by
            have := List.all_eq_true.1 hk.2 cs[i] (by simp)
            exact this
          have hck : (Instr.checkKey e k' f.type cs[i]).run P w = .ok () w := by
            rw [hk']
            generalize cs[i] = z at hcell
            cases z <;> simp [intCell] at hcell
            simp [Instr.checkKey, run_underlying hu]
          have ih' := ih (i + 1) h4 (by simp at hl ⊢; omega)
          simp only [List.forIn_cons, if_pos hne, Sem.run_bind, h2, run_part_int w hu hv, Result.andThen_ok, hck, Sem.run_pure, ih']
    have := key fs.toList 0 hk.1.1.2 (by simpa using hlen.symm)
    simp only [Instr.checkKey, Sem.run_bind, run_underlying hu, Result.andThen_ok]
    rw [← Array.forIn_toList]
    simp only [Sem.run_bind] at this ⊢
    simp at this ⊢
    rw [this]
    rfl
  · cases hk
end Go.Ev


/- Maps: looking up, in any order of the entries. -/
namespace Go.Ev
variable {P : Program}

/-- One entry and the rest. -/
def findStep (b : Option Bool) (v : Value) (r : Option (Option Value)) : Option (Option Value) :=
  match b, r with
  | some true, some none => some (some v)
  | some false, some r => some r
  | _, _ => none
theorem find_cons (k : Value) (p : Value × Value) (es : List (Value × Value)) : find k (p :: es) = findStep (keyEq k p.1) p.2 (find k es) := rfl

theorem find_perm {k : Value} {es ps : List (Value × Value)} (hp : es.Perm ps) : find k es = find k ps := by
  induction hp with
  | nil => rfl
  | cons x _ ih => rw [find_cons, find_cons, ih]
  | swap x y l =>
    simp only [find_cons]
    cases hx : keyEq k x.1 with
    | none => cases hy : keyEq k y.1 with
      | none => rfl
      | some b => cases b <;> cases find k l <;> simp [findStep]
    | some a => cases hy : keyEq k y.1 with
      | none => cases a <;> cases find k l <;> simp [findStep]
      | some b => cases a <;> cases b <;> cases hl : find k l with
        | none => simp [findStep]
        | some r => cases r <;> simp [findStep]
  | trans _ _ ih1 ih2 => rw [ih1, ih2]

/-- Entries told one by one. -/
def Al (φ : Ren) (ps : List (Value × Value)) (es' : List MapEntry) : Prop :=
  ps.length = es'.length ∧ ∀ (i : Nat) (p : Value × Value) (e : MapEntry), ps[i]? = some p → es'[i]? = some e → plain p.1 = true ∧ e.key = p.1 ∧ VR φ p.2 e.val

theorem Al.cons_inv {φ : Ren} {p : Value × Value} {ps : List (Value × Value)} {es' : List MapEntry} (h : Al φ (p :: ps) es') :
    ∃ e es, es' = e :: es ∧ (plain p.1 = true ∧ e.key = p.1 ∧ VR φ p.2 e.val) ∧ Al φ ps es := by
  cases es' with
  | nil => have := h.1; simp at this
  | cons e es => exact ⟨e, es, rfl, h.2 0 p e (by simp) (by simp), by have := h.1; simpa using this, fun i q f a b => h.2 (i + 1) q f (by simpa using a) (by simpa using b)⟩
theorem Al.nil_inv {φ : Ren} {es' : List MapEntry} (h : Al φ [] es') : es' = [] := by
  have := h.1; simp at this; exact List.eq_nil_of_length_eq_zero this.symm

/-- What a look into the entries finds. -/
def Found (φ : Ren) (k : Value) (es' : List MapEntry) (i0 : Nat) (r : Option Value) (res : Option (Nat × Value)) : Prop :=
  match r with
  | none => res = none
  | some v => ∃ i e, es'[i]? = some e ∧ res = some (i0 + i, e.val) ∧ VR φ v e.val ∧ e.key = k

theorem find_inv {k : Value} {p : Value × Value} {ps : List (Value × Value)} {r : Option Value} (h : find k (p :: ps) = some r) :
    (keyEq k p.1 = some true ∧ find k ps = some none ∧ r = some p.2) ∨ (keyEq k p.1 = some false ∧ find k ps = some r) := by
  rw [find_cons] at h
  cases hk : keyEq k p.1 with
  | none => rw [hk] at h; simp [findStep] at h
  | some b =>
    rw [hk] at h
    cases hf : find k ps with
    | none => rw [hf] at h; cases b <;> simp [findStep] at h
    | some q =>
      rw [hf] at h
      cases b with
      | true => cases q with
        | none => simp [findStep] at h; exact .inl ⟨rfl, rfl, h.symm⟩
        | some u => simp [findStep] at h
      | false => simp [findStep] at h; exact .inr ⟨rfl, by rw [h]⟩

theorem run_findAsking {φ : Ren} (w : World) {kt : TypeId} {k : Value} (hk : keyOk P kt k = true) : ∀ (ps : List (Value × Value)) (es' : List MapEntry) (i0 : Nat) (r : Option Value),
    Al φ ps es' → find k ps = some r → ∃ res, (Instr.findAsking kt k es' i0).run P w = .ok res w ∧ Found φ k es' i0 r res
  | [], es', i0, r, ha, hf => by
    have := ha.nil_inv
    subst this
    simp only [find, Option.some.injEq] at hf
    subst hf
    exact ⟨none, by simp [Instr.findAsking], rfl⟩
  | p :: ps, es', i0, r, ha, hf => by
    obtain ⟨e, es, rfl, ⟨hp, hek, hv⟩, ha'⟩ := ha.cons_inv
    rcases find_inv hf with ⟨h1, h2, rfl⟩ | ⟨h1, h2⟩
    · have hq := run_keyEq (P := P) w hk h1
      refine ⟨some (i0, e.val), ?_, 0, e, by simp, by simp, hv, ?_⟩
      · simp [Instr.findAsking, hek, hq]
      · rw [hek]; exact (keyEq_true h1).symm
    · obtain ⟨res, hr, hfd⟩ := run_findAsking w hk ps es (i0 + 1) r ha' h2
      have hq := run_keyEq (P := P) w hk h1
      refine ⟨res, ?_, ?_⟩
      · simp [Instr.findAsking, hek, hq, hr]
      · cases r with
        | none => exact hfd
        | some v =>
          obtain ⟨i, e', a, b, c⟩ := hfd
          exact ⟨i + 1, e', by simpa using a, by rw [b]; congr 2; omega, c⟩

theorem findNow_ok {φ : Ren} {kd : TypeDesc} {k : Value} (hkd : (∃ q q' n, kd = .int q ∧ k = .int q' n) ∨ (∃ s, kd = .string ∧ k = .string s)) :
    ∀ (ps : List (Value × Value)) (es' : List MapEntry) (i0 : Nat) (r : Option Value),
    Al φ ps es' → find k ps = some r → ∃ res, Instr.findNow kd k es' i0 = some res ∧ Found φ k es' i0 r res
  | [], es', i0, r, ha, hf => by
    have := ha.nil_inv
    subst this
    simp only [find, Option.some.injEq] at hf
    subst hf
    exact ⟨none, by simp [Instr.findNow], rfl⟩
  | p :: ps, es', i0, r, ha, hf => by
    obtain ⟨e, es, rfl, ⟨hp, hek, hv⟩, ha'⟩ := ha.cons_inv
    have same : ∀ b, keyEq k p.1 = some b → Instr.sameNow kd k e.key = some b := by
      intro b hb
      rw [hek]
      rcases hkd with ⟨q, q', n, rfl, rfl⟩ | ⟨s, rfl, rfl⟩
      · unfold keyEq at hb
        split at hb
        · rename_i k1 a k2 c e1 e2
          injection e1 with e1 e1'
          subst e1; subst e1'
          split at hb
          · rename_i hkk
            obtain rfl := of_decide_eq_true hkk
            injection hb with hb; subst hb
            rw [e2]
            simp [Instr.sameNow]
            rfl
          · cases hb
        · rename_i e1 _; cases e1
        · rename_i e1 _; cases e1
        · cases hb
      · unfold keyEq at hb
        split at hb
        · rename_i e1 _; cases e1
        · rename_i a c e1 e2
          injection e1 with e1
          subst e1
          injection hb with hb; subst hb
          rw [e2]
          simp only [Instr.sameNow]
          congr 1
          rw [beq_toListBytes, ByteArray.toList_eq, ByteArray.toList_eq, Bool.eq_iff_iff]
          simp
        · rename_i e1 _; cases e1
        · cases hb
    rcases find_inv hf with ⟨h1, h2, rfl⟩ | ⟨h1, h2⟩
    · refine ⟨some (i0, e.val), ?_, 0, e, by simp, by simp, hv, ?_⟩
      · simp [Instr.findNow, same _ h1]
      · rw [hek]; exact (keyEq_true h1).symm
    · obtain ⟨res, hr, hfd⟩ := findNow_ok hkd ps es (i0 + 1) r ha' h2
      refine ⟨res, ?_, ?_⟩
      · simp [Instr.findNow, same _ h1, hr]
      · cases r with
        | none => exact hfd
        | some v =>
          obtain ⟨i, e', a, b, c⟩ := hfd
          exact ⟨i + 1, e', by simpa using a, by rw [b]; congr 2; omega, c⟩

theorem run_findKey {φ : Ren} (w : World) {kt : TypeId} {k : Value} (hk : keyOk P kt k = true) {ps : List (Value × Value)} {es' : List MapEntry} {r : Option Value}
    (ha : Al φ ps es') (hf : find k ps = some r) : ∃ res, (Instr.findKey kt k es').run P w = .ok res w ∧ Found φ k es' 0 r res := by
  have hk0 := hk
  unfold keyOk at hk
  split at hk
  · rename_i q q' n hu
    obtain ⟨res, h1, h2⟩ := findNow_ok (kd := .int q) (.inl ⟨q, q', n, rfl, rfl⟩) ps es' 0 r ha hf
    exact ⟨res, by simp [Instr.findKey, run_underlying hu, h1], h2⟩
  · rename_i s hu
    obtain ⟨res, h1, h2⟩ := findNow_ok (kd := .string) (.inr ⟨s, rfl, rfl⟩) ps es' 0 r ha hf
    exact ⟨res, by simp [Instr.findKey, run_underlying hu, h1], h2⟩
  · rename_i fs cs hu
    cases es' with
    | nil =>
      have : ps = [] := List.eq_nil_of_length_eq_zero (by simpa using ha.1)
      subst this
      simp only [find, Option.some.injEq] at hf
      subst hf
      exact ⟨none, by simp [Instr.findKey, run_underlying hu, Instr.findNow], rfl⟩
    | cons e es =>
      obtain ⟨res, h1, h2⟩ := run_findAsking (P := P) w hk0 ps (e :: es) 0 r ha hf
      refine ⟨res, ?_, h2⟩
      simp only [Instr.findKey, Sem.run_bind, run_underlying hu, Result.andThen_ok, Instr.findNow, Instr.sameNow]
      exact h1
  · cases hk

theorem run_getMap (w : World) {b : Nat} {es : Array MapEntry} {n : Nat} (hb : w.heap[b]? = some (.map es n)) : (getObj b).run P w = .ok (.map es n) w := by
  simp [getObj, Sem.run, hb]

theorem MapR.al {φ : Ren} {es : List (Value × Value)} {es' : List MapEntry} (h : MapR φ es es') : ∃ ps, ps.Perm es ∧ Al φ ps es' := by
  obtain ⟨ps, hp, hl, hh⟩ := h
  exact ⟨ps, hp, hl, hh⟩

theorem run_lookup_body (w : World) {t kt e : TypeId} {x' i : Value} {ok : Bool} {es' : Array MapEntry} {res : Option (Nat × Value)} (hu : P.underlying t = some (.map kt e))
    (hx' : (x' = .map none ∧ es' = #[]) ∨ ∃ b n, x' = .map (some b) ∧ w.heap[b]? = some (.map es' n))
    (hck : (Instr.checkKey es'.isEmpty 10000 kt i).run P w = .ok () w) (hfk : (Instr.findKey kt i es'.toList).run P w = .ok res w) :
    (Instr.lookup t x' i ok).run P w = match res with
      | some (_, v) => .ok (if ok then .tuple #[v, .bool true] else v) w
      | none => ((zeroValue e).run P w).andThen fun z w => .ok (if ok then .tuple #[z, .bool false] else z) w := by
  rcases hx' with ⟨rfl, rfl⟩ | ⟨b, n, rfl, hb⟩
  · simp only [Instr.lookup, Sem.run_bind, run_underlying hu, Result.andThen_ok, Sem.run_pure, hck, hfk]
    cases res with
    | none => simp only [Sem.run_bind, Sem.run_pure, Result.andThen_ok]
    | some r => rfl
  · simp only [Instr.lookup, Sem.run_bind, run_underlying hu, Result.andThen_ok, run_getMap w hb, Sem.run_pure, hck, hfk]
    cases res with
    | none => simp only [Sem.run_bind, Sem.run_pure, Result.andThen_ok]
    | some r => rfl

section
variable {G B : Nat} {φ : Ren} {h : AH} {w : World}

theorem lookup_ok (s : Sim G B φ h w) {t : TypeId} {x i x' v : Value} {ok : Bool} (hx : VR φ x x') (hl : lookup P h t x i ok = some v) :
    plain i = true ∧ ∃ v', VR φ v v' ∧ (Instr.lookup t x' i ok).run P w = .ok v' w := by
  have hpl : ∀ (z u : Value) (b : Bool), VR φ z u → VR φ (.tuple #[z, .bool b]) (.tuple #[u, .bool b]) := fun z u b hz =>
    .tuple _ _ rfl (by simpa using (VRL.cons hz (VRL.cons (.bool b) (VRL.nil φ))).2)
  unfold lookup at hl
  split at hl
  · rename_i kt e es hm he
    have hu : P.underlying t = some (.map kt e) := by
      unfold mapKey at hm
      split at hm
      · rename_i k' e' hu; injection hm with hm; injection hm with h1 h2; subst h1; subst h2; exact hu
      · cases hm
    have real : ∃ es' : Array MapEntry, ((x' = .map none ∧ es' = #[]) ∨ ∃ b n, x' = .map (some b) ∧ w.heap[b]? = some (.map es' n)) ∧ MapR φ es es'.toList := by
      unfold entriesOf at he
      split at he
      · injection he with he; subst he
        cases hx
        exact ⟨#[], .inl ⟨rfl, rfl⟩, [], List.Perm.refl _, rfl, fun i p e a => by simp at a⟩
      · rename_i r
        split at he
        · rename_i es0 ho
          injection he with he; subst he
          cases hx with
          | map _ l hl' =>
          obtain ⟨l', hl2, es', n, hb, hr, _⟩ := s.obj _ _ ho
          rw [hl'] at hl2; injection hl2 with hl2; subst hl2
          exact ⟨es', .inr ⟨_, n, rfl, hb⟩, hr⟩
        · cases he
      · cases he
    obtain ⟨es', hrun, hmr⟩ := real
    obtain ⟨ps, hp, hal⟩ := hmr.al
    have body : ∀ (hk : keyOk P kt i = true) (r : Option Value), find i es = some r → ∃ res, (Instr.findKey kt i es'.toList).run P w = .ok res w ∧ Found φ i es'.toList 0 r res := by
      intro hk r hf
      exact run_findKey w hk hal (by rw [find_perm hp]; exact hf)
    split at hl
    · rename_i v0 hk hf
      obtain ⟨res, h1, h2⟩ := body hk _ hf
      obtain ⟨j, en, _, rfl, hv, _⟩ := h2
      refine ⟨keyOk_plain hk, ?_⟩
      injection hl with hl
      have hck := run_checkKey (P := P) w hk es'.isEmpty 9998
      refine ⟨if ok then .tuple #[en.val, .bool true] else en.val, ?_, run_lookup_body w hu hrun hck h1⟩
      rw [← hl]
      cases ok
      · exact hv
      · exact hpl _ _ true hv
    · rename_i z hk hf hz
      obtain ⟨res, h1, h2⟩ := body hk _ hf
      obtain rfl : res = none := h2
      obtain ⟨rz, pz⟩ := run_zero' hz w
      refine ⟨keyOk_plain hk, ?_⟩
      injection hl with hl
      have hck := run_checkKey (P := P) w hk es'.isEmpty 9998
      refine ⟨if ok then .tuple #[z, .bool false] else z, ?_, ?_⟩
      · rw [← hl]
        cases ok
        · exact plain_self φ pz
        · exact hpl _ _ false (plain_self φ pz)
      · rw [run_lookup_body w hu hrun hck h1]
        simp only [rz, Result.andThen_ok]
    · cases hl
  · cases hl
end
end Go.Ev


/- What the operations that read the heap come to in the real run: all of them. -/
namespace Go.Ev
variable {P : Program} {G B : Nat} {φ : Ren} {h : AH} {w : World}

theorem bytesOf_ok : ∀ {vs : List Value} {bs : List UInt8} {ws : List Value}, bytesOf vs = some bs → VRL φ vs ws →
    ∃ xs : List Int, ws = xs.map (Value.int .u8) ∧ (xs.map fun n => UInt8.ofNat n.toNat) = bs
  | [], bs, ws, hb, hr => by
    simp only [bytesOf, Option.some.injEq] at hb
    subst hb
    rw [hr.nil_inv]
    exact ⟨[], rfl, rfl⟩
  | v :: vs, bs, ws, hb, hr => by
    obtain ⟨y, ys, rfl, hv, hr'⟩ := hr.cons_inv
    unfold bytesOf at hb
    split at hb
    · rename_i e; cases e
    · rename_i n vs' e
      injection e with e1 e2
      subst e1; subst e2
      split at hb
      · rename_i r hr2
        injection hb with hb; subst hb
        obtain ⟨xs, h1, h2⟩ := bytesOf_ok hr2 hr'
        cases hv
        exact ⟨.ofNat n :: xs, by rw [h1]; rfl, by simp [← h2]⟩
      · cases hb
    · cases hb

theorem run_convert_bytes (s : Sim G B φ h w) {src dst e : TypeId} {id off n cap : Nat} {vs : List Value} {bs : List UInt8} {x' : Value} (hs : P.underlying src = some (.slice e))
    (hd : P.underlying dst = some .string) (he : P.underlying e = some (.int .u8)) (hr : readL h id off n = some vs) (hb : bytesOf vs = some bs)
    (hx : VR φ (.slice (some ⟨id, off, none⟩) n cap) x') : (convert src dst x').run P w = .ok (.string ⟨bs.toArray⟩) w := by
  have zero : ∀ (b o : Nat), n = 0 → (convert src dst (.slice (some ⟨b, o, none⟩) 0 0)).run P w = .ok (.string ⟨bs.toArray⟩) w := by
    intro b o hn
    subst hn
    simp only [readL, Option.some.injEq] at hr
    subst hr
    simp only [bytesOf, Option.some.injEq] at hb
    subst hb
    exact run_convert_bytes_arg w src e hs he b o 0 0 [] rfl (fun i hi => by omega) dst hd
  have main : ∀ (l : Loc) (c : Nat), φ id = some l → (convert src dst (.slice (some ⟨l.b, l.s + off, none⟩) n c)).run P w = .ok (.string ⟨bs.toArray⟩) w := by
    intro l c hl
    unfold readL at hr
    split at hr
    · injection hr with hr; subst hr
      simp only [bytesOf, Option.some.injEq] at hb
      subst hb
      exact run_convert_bytes_arg w src e hs he l.b (l.s + off) 0 c [] rfl (fun i hi => by omega) dst hd
    · split at hr
      · rename_i cs hcs
        obtain ⟨cc, ty, fr, hbk, hc⟩ := s.cellsAt hcs hl
        obtain ⟨r1, r2, r3⟩ := hc.read hr
        obtain ⟨xs, h1, h2⟩ := bytesOf_ok hb r1
        have hlen : xs.length = n := by
          have := congrArg List.length h1
          rw [← r1.1, r2] at this
          simpa using this.symm
        rw [← h2]
        refine run_convert_bytes_arg w src e hs he l.b (l.s + off) n c xs hlen (fun i hi => ?_) dst hd
        have hg : ((cc.toList.drop (l.s + off)).take n)[i]? = some (.int .u8 (xs.getD i 0)) := by
          rw [h1]
          simp [List.getElem?_eq_getElem (show i < xs.length by omega), List.getD_eq_getElem?_getD]
        rw [List.getElem?_take, if_pos hi, List.getElem?_drop] at hg
        simp only [World.cell?, hbk]
        simpa using hg
      · cases hr
  cases hx with
  | slExact _ _ _ _ l hl => exact main l _ hl
  | slUnk _ _ _ c l hl => exact main l c hl
  | slEnd _ _ l b o => exact zero b o rfl
  | slZero _ _ b o => exact zero b o rfl

theorem readOp_ok (s : Sim G B φ h w) {ρ ρ' : Operand → Value} {o : Oper} {v : Value} (hr : OpdR φ ρ ρ' o) (hv : readOp P ρ o h = some v) :
    ∃ v', VR φ v v' ∧ (execOp ρ' o).run P w = .ok (.value v') w := by
  obtain ⟨dst, op, type, pos, after, guard⟩ := o
  simp only [OpdR, Op.operands] at hr
  unfold readOp at hv
  simp only at hv
  cases op with
  | load t a =>
    simp only at hv
    have ha := hr a (by simp)
    split at hv
    · rename_i id off e
      rw [e] at ha
      generalize hy : ρ' a = y at ha
      cases ha with
      | ptr _ _ l hl =>
        obtain ⟨v', h1, h2⟩ := load_ok (P := P) s hv hl
        exact ⟨v', h1, by simp [execOp, hy, Instr.loadAt, Instr.sureAddr, h2]⟩
    · cases hv
  | convert src dst x =>
    simp only at hv
    have hx := hr x (by simp)
    split at hv
    all_goals first
      | (rename_i e
         split at hv
         · rename_i v0 hv0
           split at hv
           · rename_i hpv
             injection hv with hv; subst hv
             have hpl : plain (ρ x) = true := by rw [e]; rfl
             have ex := plain_eq hpl hx
             exact ⟨_, plain_self φ hpv, by simp only [execOp, ex]; rw [Sem.run_bind, prun_run hv0 w]; rfl⟩
           · cases hv
         · cases hv)
      | skip
    · rename_i id off n c e
      rw [e] at hx
      split at hv
      · rename_i el hs hd
        split at hv
        · rename_i he
          split at hv
          · rename_i vs hvs
            split at hv
            · rename_i bs hbs
              injection hv with hv; subst hv
              have := run_convert_bytes (P := P) s hs hd he hvs hbs hx
              exact ⟨_, .string _, by simp only [execOp]; rw [Sem.run_bind, this]; rfl⟩
            · cases hv
          · cases hv
        · cases hv
      · cases hv
    · cases hv
  | slice t x lo hi mx =>
    have hx := hr x (by simp)
    have opt : ∀ (q : Option Operand), (∀ y, q = some y → VR φ (ρ y) (ρ' y)) → intOpt (q.map ρ) = true → q.map ρ' = q.map ρ := by
      intro q hq hi
      cases q with
      | none => rfl
      | some y =>
        have := hq y rfl
        simp only [Option.map_some] at hi ⊢
        generalize ρ y = u at hi this
        generalize ρ' y = z at this
        cases u <;> simp [intOpt] at hi
        cases this
        rfl
    simp only at hv
    split at hv
    · rename_i hi3
      simp only [Bool.and_eq_true] at hi3
      have e1 := opt lo (fun y hy => hr y (by subst hy; simp)) hi3.1.1
      have e2 := opt hi (fun y hy => hr y (by subst hy; simp)) hi3.1.2
      have e3 := opt mx (fun y hy => hr y (by subst hy; simp)) hi3.2
      obtain ⟨v', h1, h2⟩ := slice_ok (P := P) s hx hv
      exact ⟨v', h1, by simp only [execOp, e1, e2, e3]; rw [Sem.run_bind, h2]; rfl⟩
    · cases hv
  | lookup t x i ok =>
    have hx := hr x (by simp)
    obtain ⟨hp, v', h1, h2⟩ := lookup_ok (P := P) s hx hv
    have ei := plain_eq hp (hr i (by simp))
    exact ⟨v', h1, by simp only [execOp, ei]; rw [Sem.run_bind, h2]; rfl⟩
  | binOp bop t x y u =>
    simp only at hv
    split at hv
    · rename_i hp
      obtain ⟨ex, ey⟩ := plain2 hp (hr x (by simp)) (hr y (by simp))
      split at hv
      · rename_i v0 hv0
        split at hv
        · rename_i hpv
          injection hv with hv; subst hv
          refine ⟨_, plain_self φ hpv, ?_⟩
          simp only [execOp, ex, ey]
          rw [Sem.run_bind, prun_run hv0 w]
          rfl
        · cases hv
      · cases hv
    · split at hv
      · rename_i b hb
        have hx := hr x (by simp)
        have hy := hr y (by simp)
        have hq : (Op.equal t (ρ' x) (ρ' y)).run P w = .ok b w := eql_run (P := P) s hx hy hb 9998
        obtain ⟨g1, g2, g3⟩ := eql_shape (P := P) hx hy hb
        split at hv
        · injection hv with hv; subst hv
          exact ⟨_, .bool _, by simp [execOp, g1, g2, hq]⟩
        · injection hv with hv; subst hv
          exact ⟨_, .bool _, by simp [execOp, g1, g3, hq]⟩
        · cases hv
      · cases hv
  | call c =>
    obtain ⟨callee, args, ats⟩ := c
    cases callee with
    | builtin b =>
      have vr : ∀ x, args[0]? = some x → VR φ (ρ x) (ρ' x) := fun x hx => hr x (by
        have : x ∈ args.toList := List.mem_of_getElem? (by simpa using hx)
        simp [Call.operands]
        simpa using this)
      have am : ∀ x, args[0]? = some x → (args.map ρ')[0]? = some (ρ' x) := fun x hx => by simp [hx]
      cases b <;> simp only at hv <;> first | (cases hv; done) | skip
      · split at hv
        · rename_i x t hx ht
          have hxr := vr x hx
          have ham := am x hx
          split at hv
          · rename_i e n c hu hs
            rw [hs] at hxr
            split at hv
            · cases hv
            · rename_i hc
              injection hv with hv; subst hv
              have hcn : (∀ n', c ≠ UNK + n') := by
                intro n' e'
                rw [e', Nat.ble_eq_true_of_le (by omega)] at hc
                cases hc
              generalize hy : ρ' x = y at hxr ham
              have : ∃ a n0, y = .slice a n0 c := by
                cases hxr with
                | slNil => exact ⟨_, _, rfl⟩
                | slExact => exact ⟨_, _, rfl⟩
                | slUnk => exact absurd rfl (hcn _)
                | slEnd => exact absurd rfl (hcn _)
                | slZero => exact ⟨_, _, rfl⟩
              obtain ⟨a, n0, rfl⟩ := this
              refine ⟨_, .int _ _, ?_⟩
              simp [execOp, resolve, invoke, builtin, Builtin.cap_, ht, hx, hy, run_underlying hu, goInt]
          · cases hv
        · cases hv
      · split at hv
        · rename_i x t hx ht
          have hxr := vr x hx
          have ham := am x hx
          generalize hy : ρ' x = y at hxr ham
          split at hv
          · rename_i str hu hs
            rw [hs] at hxr
            cases hxr
            injection hv with hv; subst hv
            exact ⟨_, .int _ _, by simp [execOp, resolve, invoke, builtin, Builtin.len_, ht, hx, hy, run_underlying hu, goInt]⟩
          · rename_i e a n c hu hs
            rw [hs] at hxr
            injection hv with hv; subst hv
            have : ∃ a c, y = .slice a n c := by
              cases hxr <;> exact ⟨_, _, rfl⟩
            obtain ⟨a, c, rfl⟩ := this
            exact ⟨_, .int _ _, by simp [execOp, resolve, invoke, builtin, Builtin.len_, ht, hx, hy, run_underlying hu, goInt]⟩
          · rename_i n el hu
            injection hv with hv; subst hv
            refine ⟨_, .int _ _, ?_⟩
            simp only [execOp, resolve, invoke, builtin, Builtin.len_, Sem.run_bind, Sem.run_pure, Result.andThen_ok, ht, ham, run_underlying hu, goInt]
            rfl
          · rename_i hu hs
            rw [hs] at hxr
            cases hxr
            injection hv with hv; subst hv
            exact ⟨_, .int _ _, by simp [execOp, resolve, invoke, builtin, Builtin.len_, ht, hx, hy, run_underlying hu, goInt]⟩
          · rename_i k e r hu hs
            rw [hs] at hxr
            split at hv
            · rename_i es ho
              injection hv with hv; subst hv
              cases hxr with
              | map _ l hl =>
              obtain ⟨l', hl2, es', n, hb, hmr, _⟩ := s.obj _ _ ho
              rw [hl] at hl2; injection hl2 with hl2; subst hl2
              obtain ⟨ps, hp, hal⟩ := hmr.al
              have hlen : es.length = es'.size := by rw [← hp.length_eq, hal.1]; simp
              refine ⟨_, .int _ _, ?_⟩
              simp [execOp, resolve, invoke, builtin, Builtin.len_, ht, hx, hy, run_underlying hu, goInt, run_getMap w hb, hlen]
            · cases hv
          · cases hv
        · cases hv
    | _ => simp at hv
  | _ => cases hv
end Go.Ev


