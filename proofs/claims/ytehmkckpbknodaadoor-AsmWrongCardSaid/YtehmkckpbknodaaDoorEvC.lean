import Derived.Test.YtehmkckpbknodaaDoorEvB
import Derived.MapKept
import Derived.Lib.AppendStr
import Derived.Maps.RangeRun
set_option linter.all false

/- What the operations that make something come to in the real run. -/
namespace Go.Ev
variable {P : Program}

theorem copies_range (z : Array Value) : ∀ k : Nat, (List.range (k * z.size)).map (fun i => z[i % z.size]!) = copies z.toList k
  | 0 => by simp [copies]
  | k + 1 => by
    have ih := copies_range z k
    rw [Nat.add_mul, Nat.one_mul, Nat.add_comm, List.range_add, List.map_append, copies, List.map_map]
    congr 1
    · apply List.ext_getElem?
      intro i
      by_cases hi : i < z.size
      · simp [hi, Nat.mod_eq_of_lt hi]
      · simp [hi]
    · rw [← ih]
      apply List.map_congr_left
      intro i _
      simp [Function.comp]

theorem copies_length (z : List Value) : ∀ k : Nat, (copies z k).length = k * z.length
  | 0 => by simp [copies]
  | k + 1 => by rw [copies, List.length_append, copies_length z k, Nat.add_mul, Nat.one_mul, Nat.add_comm]

theorem copies_self {φ : Ren} {z : List Value} (hz : VRL φ z z) : ∀ k, VRL φ (copies z k) (copies z k)
  | 0 => VRL.nil φ
  | k + 1 => hz.append (copies_self hz k)

theorem copies_one {z : List Value} (hz : z.all oneCell = true) : ∀ k, (copies z k).all oneCell = true
  | 0 => rfl
  | k + 1 => by rw [copies, List.all_append, hz, copies_one hz k]; rfl

theorem zero_one {z : Value} (h : plain z = true) (hs : ∀ vs, z ≠ .tuple vs) : (cellsL z).all oneCell = true := by
  unfold plain at h
  split at h
  · rename_i cs
    simp only [cellsL]
    rw [List.all_eq_true] at *
    intro x hx
    have := h x hx
    cases x <;> simp_all [scalar, oneCell]
  · rename_i cs; exact absurd rfl (hs cs)
  · cases z <;> simp_all [scalar, oneCell, cellsL]

/-- One block more. -/
structure Mk (w w' : World) (o : Obj) : Prop where
  heap : w'.heap = w.heap.push o
  os : w'.os = w.os
  tape : w'.tape = w.tape
  output : w'.output = w.output

theorem Mk.at_ {w w' : World} {o : Obj} (m : Mk w w' o) : w'.heap[w.heap.size]? = some o := by rw [m.heap]; simp
theorem Mk.old {w w' : World} {o : Obj} (m : Mk w w' o) {b : Nat} (h : b < w.heap.size) : w'.heap[b]? = w.heap[b]? := by
  rw [m.heap, Array.getElem?_push_lt h]
  exact (Array.getElem?_eq_getElem h).symm

/-- What is made, whatever id it gets. -/
def MkOk (P : Program) (φ : Ren) (ρ' : Operand → Value) (o : Oper) (ob : AObj) (f : Nat → Value) (w : World) : Prop :=
  ∃ (o' : Obj) (l : Loc) (rv : Value) (w' : World), (execOp ρ' o).run P w = .ok (.value rv) w' ∧ Mk w w' o' ∧ l.b = w.heap.size ∧ l.s = 0 ∧
    ∀ (ψ : Ren) (id : Nat), Ren.le φ ψ → ψ id = some l → VR ψ (f id) rv ∧ ∀ w2 : World, w2.heap[w.heap.size]? = some o' → ObjR ψ w2 l ob

theorem cells_obj {φ : Ren} {w2 : World} {b e : Nat} {cs : List Value} {c : Array Value} {t : TypeId} (hb : w2.heap[b]? = some (.cells c t (0, 0))) (h : VRL φ cs c.toList) :
    ObjR φ w2 ⟨b, 0, c.size, e, cs.length⟩ (.cells cs e) := by
  have hl : cs.length = c.size := by simpa using h.1
  refine ⟨c, t, hb, rfl, rfl, by simp [hl], rfl, ?_⟩
  simp only [List.drop_zero]
  rw [List.take_of_length_le (by simp [hl])]
  exact h

theorem mkObj_ok {φ : Ren} {ρ ρ' : Operand → Value} {o : Oper} {ob : AObj} {f : Nat → Value} (hr : OpdR φ ρ ρ' o) (h : mkObj P ρ o = some (ob, f)) (w : World) :
    MkOk P φ ρ' o ob f w := by
  obtain ⟨dst, op, type, pos, after, guard⟩ := o
  simp only [OpdR, Op.operands] at hr
  unfold mkObj at h
  simp only at h
  cases op with
  | alloc t =>
    simp only at h
    split at h
    · rename_i z n hz hn
      split at h
      · rename_i hlen
        injection h with h
        injection h with h1 h2
        subst h1; subst h2
        obtain ⟨rz, pz⟩ := run_zero' hz w
        refine ⟨.cells z.cells t, ⟨w.heap.size, 0, z.cells.size, n, (cellsL z).length⟩, .pointer (some ⟨w.heap.size, 0, none⟩), { w with heap := w.heap.push (.cells z.cells t) }, ?_, ⟨rfl, rfl, rfl, rfl⟩, rfl, rfl, ?_⟩
        · simp [execOp, Instr.alloc, rz, newVar, newRow]
        · intro ψ id hle hid
          refine ⟨by simpa using VR.ptr (φ := ψ) id 0 _ hid, fun w2 hb => cells_obj hb (plain_self ψ pz).cellsL⟩
      · cases h
    · cases h
  | box t x =>
    simp only at h
    split at h
    · rename_i n hn hone
      split at h
      · rename_i hlen
        injection h with h
        injection h with h1 h2
        subst h1; subst h2
        have hx := (hr x (by simp)).cellsL
        refine ⟨.cells (ρ' x).cells t, ⟨w.heap.size, 0, (ρ' x).cells.size, n, (cellsL (ρ x)).length⟩, .pointer (some ⟨w.heap.size, 0, none⟩), { w with heap := w.heap.push (.cells (ρ' x).cells t) }, ?_, ⟨rfl, rfl, rfl, rfl⟩, rfl, rfl, ?_⟩
        · simp [execOp, Instr.box, newVar, newRow]
        · intro ψ id hle hid
          refine ⟨by simpa using VR.ptr (φ := ψ) id 0 _ hid, fun w2 hb => cells_obj hb (hx.mono hle)⟩
      · cases h
    · cases h
  | buildSlice t len parts =>
    simp only at h
    split at h
    · rename_i ob0 hb
      injection h with h
      injection h with h1 h2
      subst h1; subst h2
      unfold buildSlice at hb
      split at hb
      · rename_i elem hu
        split at hb
        · rename_i n z hn hz
          split at hb
          · rename_i cs hc hf
            split at hb
            · rename_i hone
              injection hb with hb; subst hb
              simp only [Bool.and_eq_true] at hc
              have h1 := Nat.le_of_ble_eq_true hc.1.1
              have h2 := Nat.le_of_ble_eq_true hc.1.2
              have h3 := Nat.eq_of_beq_eq_true hc.2
              obtain ⟨rz, pz⟩ := run_zero' hz w
              have hzs : z.cells.size = n := by
                rw [← h3, ((plain_self φ pz).cellsL).1]; simp
              have hzl : cellsL z = z.cells.toList := by cases z <;> rfl
              have hcop : ((Array.range (len * n)).map fun i => z.cells[i % z.cells.size]!).toList = copies (cellsL z) len := by
                rw [Array.toList_map, Array.toList_range, hzl, ← copies_range, hzs]
              obtain ⟨r', hr', hrr⟩ := fill_ok (φ := φ) (fun i => some (i * n, n)) (fun i => some (i * n, n)) (fun _ => rfl) (parts.toList.map fun p => (p.1, ρ p.2)) (parts.toList.map fun p => (p.1, ρ' p.2))
                (copies (cellsL z) len) ((Array.range (len * n)).map fun i => z.cells[i % z.cells.size]!) cs (by simp)
                (pairs_rel parts.toList fun x hx => hr x (by simpa using hx)) (by rw [hcop]; exact copies_self (by rw [hzl]; have := (plain_self φ pz).cellsL; rwa [hzl] at this) len) hf
              have hfl := fill_len hf
              have hsz : r'.size = len * n := by
                have := hrr.1
                rw [hfl, copies_length, h3] at this
                simpa using this.symm
              refine ⟨.cells r' elem, ⟨w.heap.size, 0, r'.size, n, cs.length⟩, .slice (some ⟨w.heap.size, 0, none⟩) len len, { w with heap := w.heap.push (.cells r' elem) }, ?_, ⟨rfl, rfl, rfl, rfl⟩, rfl, rfl, ?_⟩
              · have e : (parts.map fun x => (x.1, ρ' x.2)).toList = parts.toList.map fun p => (p.1, ρ' p.2) := by simp
                simp only [execOp, Instr.buildSlice, Sem.run_bind, run_underlying hu, Result.andThen_ok, run_sizeOf' hn]
                rw [if_neg (by omega)]
                simp only [Sem.run_bind, Sem.run_pure, Result.andThen_ok]
                by_cases h0 : len * n = 0
                · have hl0 : len = 0 := by
                    rcases Nat.mul_eq_zero.1 h0 with h | h
                    · exact h
                    · omega
                  subst hl0
                  simp only [Nat.zero_mul, if_true, Sem.run_bind, Sem.run_pure, Result.andThen_ok]
                  have e0 : (Array.map (fun x => (#[] : Array Value)[x % (#[] : Array Value).size]!) (Array.range 0)) = ((Array.range (0 * n)).map fun i => z.cells[i % z.cells.size]!) := by
                    simp
                  rw [e0, show (Array.map (fun x => match x with | (i, x) => (i, ρ' x)) parts).toList = (parts.map fun x => (x.1, ρ' x.2)).toList from rfl, e, hr']
                  simp [newRow]
                · simp only [h0, if_false, Sem.run_bind, rz, Sem.run_pure, Result.andThen_ok]
                  rw [show (Array.map (fun x => match x with | (i, x) => (i, ρ' x)) parts).toList = (parts.map fun x => (x.1, ρ' x.2)).toList from rfl, e, hr']
                  simp [newRow]
              · intro ψ id hle hid
                refine ⟨?_, fun w2 hb => cells_obj hb (hrr.mono hle)⟩
                have hlt : len < UNK := by
                  have : len ≤ len * n := Nat.le_mul_of_pos_right _ h1
                  unfold UNK; omega
                simpa using VR.slExact (φ := ψ) id 0 len len _ hid hlt (Nat.le_refl _)
            · cases hb
          · cases hb
        · cases hb
      · cases hb
    · cases h
  | makeMap t r =>
    cases r with
    | some _ => cases h
    | none =>
      simp only at h
      split at h
      · rename_i ke hm
        injection h with h
        injection h with h1 h2
        subst h1; subst h2
        refine ⟨.map #[] 0, ⟨w.heap.size, 0, 0, 0, 0⟩, .map (some w.heap.size), { w with heap := w.heap.push (.map #[] 0) }, ?_, ⟨rfl, rfl, rfl, rfl⟩, rfl, rfl, ?_⟩
        · simp [execOp, Instr.makeMap]
        · intro ψ id hle hid
          refine ⟨VR.map (φ := ψ) id _ hid, fun w2 hb => ⟨#[], 0, hb, ⟨[], List.Perm.refl _, rfl, fun i p e a => by simp at a⟩, by simp, by simp⟩⟩
      · cases h
  | makeSlice t lo co =>
    simp only at h
    split at h
    · rename_i ob0 l c hb
      injection h with h
      injection h with h1 h2
      subst h1; subst h2
      unfold makeSlice at hb
      split at hb
      · rename_i elem l0 c0 hu el ec
        split at hb
        · rename_i n z hn hz
          split at hb
          · rename_i hc
            injection hb with hb
            injection hb with hb1 hb2
            injection hb2 with hb2 hb3
            subst hb1; subst hb2; subst hb3
            simp only [Bool.and_eq_true] at hc
            obtain ⟨⟨⟨⟨c1, c2⟩, c3⟩, c4⟩, c5⟩ := hc
            have c1 := Nat.le_of_ble_eq_true c1
            have c2 := Nat.le_of_ble_eq_true c2
            have c3 := Nat.le_of_ble_eq_true c3
            have c4 := Nat.eq_of_beq_eq_true c4
            have c5 := Nat.le_of_ble_eq_true c5
            obtain ⟨rz, pz⟩ := run_zero' hz w
            obtain ⟨ti, hti, hsi, hby⟩ := bytesOf_info hn
            rw [hby] at c3
            have hlo := hr lo (by simp)
            have hco := hr co (by simp)
            rw [el] at hlo
            rw [ec] at hco
            generalize hy1 : ρ' lo = y1 at hlo
            generalize hy2 : ρ' co = y2 at hco
            cases hlo; cases hco
            have hzs : z.cells.size = n := by
              rw [← c4, ((plain_self φ pz).cellsL).1]; simp
            have hzl : cellsL z = z.cells.toList := by cases z <;> rfl
            have wr : ∀ m : Nat, m ≤ 2 ^ 30 → IntKind.i64.wrap (Int.ofNat m) = Int.ofNat m := by
              intro m hm
              simp only [IntKind.wrap, IntKind.signed, IntKind.bits]
              have : ((Int.ofNat m) % 2 ^ 64) = Int.ofNat m := by simp; omega
              simp [this]
              omega
            have hw1 := wr l0 (by omega)
            have hw2 := wr c0 c2
            have hcop : ((Array.range (c0 * n)).map fun i => z.cells[i % z.cells.size]!).toList = copies (cellsL z) c0 := by
              rw [Array.toList_map, Array.toList_range, hzl, ← copies_range, hzs]
            refine ⟨.cells ((Array.range (c0 * n)).map fun i => z.cells[i % z.cells.size]!) elem, ⟨w.heap.size, 0, ((Array.range (c0 * n)).map fun i => z.cells[i % z.cells.size]!).size, n, (copies (cellsL z) c0).length⟩,
              .slice (some ⟨w.heap.size, 0, none⟩) l0 c0, { w with heap := w.heap.push (.cells ((Array.range (c0 * n)).map fun i => z.cells[i % z.cells.size]!) elem) }, ?_, ⟨rfl, rfl, rfl, rfl⟩, rfl, rfl, ?_⟩
            · simp only [execOp, hy1, hy2, Instr.makeSlice, Sem.run_bind, run_underlying hu, Result.andThen_ok, asInt, asIntOf, Sem.run_pure, typeInfo, run_program, hti, hw1, hw2]
              have hb3 : ((ti.bytes : Int) * Int.ofNat c0 > 2 ^ 48) = False := by
                have : ((ti.bytes : Int) * Int.ofNat c0) = ((ti.bytes * c0 : Nat) : Int) := by simp
                rw [this]
                simp
                omega
              simp only [hb3]
              have e1 : (Int.ofNat c0 < 0) = False := by simp
              have e2 : (Int.ofNat l0 < 0) = False := by simp
              have e3 : (Int.ofNat l0 > Int.ofNat c0) = False := by simp; omega
              simp only [e1, e2, e3, decide_false, Bool.or_false, Bool.false_eq_true, if_false, Sem.run_pure, Result.andThen_ok, Sem.run_bind, run_askRoom, run_sizeOf' hn, show ∀ m : Nat, (Int.ofNat m).toNat = m from fun _ => rfl]
              by_cases h0 : c0 * n = 0
              · have hl0 : c0 = 0 := by
                  rcases Nat.mul_eq_zero.1 h0 with h | h
                  · exact h
                  · omega
                subst hl0
                simp [newRow]
                have : (Array.range 0) = #[] := rfl
                simp [this]
              · simp only [h0, if_false, Sem.run_bind, rz, Sem.run_pure, Result.andThen_ok]
                simp [newRow]
            · intro ψ id hle hid
              refine ⟨?_, fun w2 hb => cells_obj hb ?_⟩
              · have hlt : c0 < UNK := by unfold UNK; omega
                simpa using VR.slExact (φ := ψ) id 0 l0 c0 _ hid hlt c1
              · rw [hcop]
                exact copies_self (by have := (plain_self ψ pz).cellsL; rw [hzl] at this ⊢; exact this) c0
          · cases hb
        · cases hb
      · cases hb
    · cases h
  | convert s d x =>
    simp only at h
    split at h
    · rename_i e str hs hd ex
      split at h
      · rename_i he
        injection h with h
        injection h with h1 h2
        subst h1; subst h2
        have hx := hr x (by simp)
        rw [ex] at hx
        generalize hy : ρ' x = y at hx
        cases hx
        have hcopies : ∀ (ψ : Ren), VRL ψ (str.data.toList.map fun b => Value.int .u8 (.ofNat b.toNat)) (str.data.toList.map fun b => Value.int .u8 (b.toNat : Int)) := fun ψ => VRL.of_map fun b _ => .int _ _
        let cap := (Question.appendCap str.size 0 e).cut (w.tape w.drawn (.appendCap str.size 0 e))
        have hcap : str.size ≤ cap := by simp [cap, Question.cut]
        let c : Array Value := (str.data.map fun b => Value.int .u8 b.toNat) ++ Array.replicate (cap - str.size) (.int .u8 0)
        have hcs : c.size = cap := by
          simp only [c, Array.size_append, Array.size_map, Array.size_replicate]
          have : str.data.size = str.size := rfl
          omega
        refine ⟨.cells c e (cap, cap + 1), ⟨w.heap.size, 0, cap, 1, str.size⟩, .slice (some ⟨w.heap.size, 0, none⟩) str.size cap,
          { w with heap := w.heap.push (.cells c e (cap, cap + 1)), drawn := w.drawn + 1 }, ?_, ⟨rfl, rfl, rfl, rfl⟩, rfl, rfl, ?_⟩
        · have hf : (Question.appendCap str.size 0 e).forced = false := rfl
          simp only [execOp, hy, Sem.run_bind]
          have hconv : (convert s d (.string str)).run P w = (Conv.stringToBytes e str).run P w := by
            simp only [convert, Sem.run_bind, run_underlying hs, run_underlying hd, Result.andThen_ok, run_underlying he]
          rw [hconv]
          simp only [Conv.stringToBytes, Sem.run_bind, run_choose, hf, Bool.false_eq_true, if_false, Result.andThen_ok, newRow, run_newObj, Sem.run_pure, markStringish, run_shape]
          have hsh : World.shape? { heap := w.heap.push (.cells c e), tape := w.tape, drawn := w.drawn + 1, os := w.os, output := w.output } w.heap.size = some (e, cap) := by
            simp [World.shape?, hcs]
          have hfz : World.freeze { heap := w.heap.push (.cells c e), tape := w.tape, drawn := w.drawn + 1, os := w.os, output := w.output } ⟨w.heap.size, cap, none⟩ 1 =
              { w with heap := w.heap.push (.cells c e (cap, cap + 1)), drawn := w.drawn + 1 } := by
            simp only [World.freeze, if_neg (show ¬ (1 : Nat) = 0 by omega)]
            congr 1
            apply Array.ext
            · simp
            · intro k h1 h2
              rw [Array.getElem_modify]
              by_cases hk : w.heap.size = k
              · subst hk; simp
              · simp [hk]
                have : k < w.heap.size := by simp at h2; omega
                simp [Array.getElem_push_lt this]
          show (((match World.shape? { heap := w.heap.push (.cells c e), tape := w.tape, drawn := w.drawn + 1, os := w.os, output := w.output } w.heap.size with
            | some (_, n) => freeze { block := w.heap.size, off := n } 1
            | x => pure () : Sem Unit).run P _).andThen _).andThen _ = _
          rw [hsh]
          simp only [run_freeze, Result.andThen_ok]
          exact congrArg (fun w' => Result.ok (Next.value (Value.slice (some ⟨w.heap.size, 0, none⟩) str.size cap)) w') hfz
        · intro ψ id hle hid
          refine ⟨?_, fun w2 hb => ?_⟩
          · have := VR.slUnk (φ := ψ) id 0 str.size cap _ hid hcap (by simp) (by simp; exact hcap)
            simpa using this
          · have hlen : (str.data.toList.map fun b => Value.int .u8 (.ofNat b.toNat)).length = str.size := by
              rw [List.length_map]; rfl
            refine ⟨c, e, (cap, cap + 1), hb, hcs, by rw [hlen]; simpa using hcap, hlen, ?_⟩
            simp only [List.drop_zero, hlen]
            have : c.toList.take str.size = str.data.toList.map fun b => Value.int .u8 (b.toNat : Int) := by
              simp only [c, Array.toList_append, Array.toList_map]
              exact List.take_left' (by rw [List.length_map]; rfl)
            rw [this]
            exact hcopies ψ
      · cases h
    · cases h
  | _ => cases h
end Go.Ev


/- One object more, one object changed, one object moved: the relation stays. -/
namespace Go.Ev
variable {P : Program} {G B : Nat}

/-- A renaming with one id more. -/
def Ren.put (φ : Ren) (id : Nat) (l : Loc) : Ren := fun j => if j = id then some l else φ j
theorem Ren.put_same (φ : Ren) (id : Nat) (l : Loc) : φ.put id l id = some l := by simp [Ren.put]
theorem Ren.put_other (φ : Ren) {id j : Nat} (l : Loc) (h : j ≠ id) : φ.put id l j = φ j := by simp [Ren.put, h]
theorem Ren.put_le {φ : Ren} {id : Nat} (l : Loc) (h : φ id = none) : Ren.le φ (φ.put id l) := by
  intro j m hj
  by_cases e : j = id
  · subst e; rw [h] at hj; cases hj
  · rw [Ren.put_other φ l e]; exact hj

/-- Fewer objects. -/
theorem Sim.sub {φ : Ren} {h h' : AH} {w : World} (s : Sim G B φ h w) (hn : h.next ≤ h'.next) (ho : ∀ id o, h'.objs.get id = some o → h.objs.get id = some o) : Sim G B φ h' w where
  wf id l e := ⟨Nat.lt_of_lt_of_le (s.wf id l e).1 hn, (s.wf id l e).2⟩
  obj id o e := s.obj id o (ho id o e)
  own id o l e := s.own id o l (ho id o e)
  apart id id' o o' l l' e e' := s.apart id id' o o' l l' (ho id o e) (ho id' o' e')
  sents id id' cs cs' l l' i j e e' := s.sents id id' cs cs' l l' i j (ho _ _ e) (ho _ _ e')
  base := s.base
  glob := s.glob

theorem Stp.sub {φ0 φ : Ren} {h0 h h' : AH} {w0 w : World} (t : Stp φ0 h0 w0 φ h w) (hn : h.next ≤ h'.next) (ho : ∀ id o, h'.objs.get id = some o → h.objs.get id = some o) :
    Stp φ0 h0 w0 φ h' w where
  le := t.le
  os := t.os
  tape := t.tape
  output := t.output
  size := t.size
  keep := t.keep
  foot b := fun ⟨id, o, l, e, r⟩ hb => t.foot b ⟨id, o, l, ho id o e, r⟩ hb
  next := Nat.le_trans t.next hn
  new := t.new
  old id o l e := t.old id o l (ho id o e)
  fresh id o l e := t.fresh id o l (ho id o e)

theorem Wr.of {φ : Ren} {h : AH} {b : Nat} (x : Wr h φ b) : ∃ id o l, h.objs.get id = some o ∧ o.mine = true ∧ φ id = some l ∧ l.b = b := x

/-- One object more, in a new block. -/
theorem Sim.add {φ : Ren} {h : AH} {w w' : World} {ob : AObj} {o' : Obj} {l : Loc} {id n : Nat} (s : Sim G B φ h w) (m : Mk w w' o') (hb : l.b = w.heap.size)
    (hid : φ id = none) (hlt : id < n) (hn : h.next ≤ n) (hob : ObjR (φ.put id l) w' l ob) :
    Sim G B (φ.put id l) { objs := h.objs.set id (some ob), next := n } w' := by
  have hle := Ren.put_le l hid
  have hsz : w'.heap.size = w.heap.size + 1 := by rw [m.heap]; simp
  refine ⟨?_, ?_, ?_, ?_, ?_, ?_, ?_⟩
  · intro j k e
    by_cases hj : j = id
    · subst hj; rw [Ren.put_same] at e; cases e; exact ⟨hlt, by omega⟩
    · rw [Ren.put_other φ l hj] at e
      obtain ⟨a, b⟩ := s.wf j k e
      exact ⟨Nat.lt_of_lt_of_le a hn, by omega⟩
  · intro j o e
    rw [T.get_set] at e
    by_cases hj : j = id
    · subst hj; rw [if_pos rfl] at e; cases e; exact ⟨l, Ren.put_same .., hob⟩
    · rw [if_neg hj] at e
      obtain ⟨k, hk, r⟩ := s.obj j o e
      exact ⟨k, hle _ _ hk, (r.of_heap (m.old (s.wf j k hk).2)).mono hle⟩
  · intro j o k e hm hk
    rw [T.get_set] at e
    by_cases hj : j = id
    · subst hj; rw [Ren.put_same] at hk; cases hk; rw [hb]; exact s.base
    · rw [if_neg hj] at e; rw [Ren.put_other φ l hj] at hk; exact s.own j o k e hm hk
  · intro j j' o o'' k k' e e' hne hm hk hk'
    rw [T.get_set] at e e'
    by_cases hj : j = id
    · subst hj
      rw [Ren.put_same] at hk; cases hk
      rw [Ren.put_other φ l (Ne.symm hne)] at hk'
      have := (s.wf j' k' hk').2
      omega
    · rw [if_neg hj] at e; rw [Ren.put_other φ l hj] at hk
      by_cases hj' : j' = id
      · subst hj'
        rw [Ren.put_same] at hk'; cases hk'
        have := (s.wf j k hk).2
        omega
      · rw [if_neg hj'] at e'; rw [Ren.put_other φ l hj'] at hk'
        exact s.apart j j' o o'' k k' e e' hne hm hk hk'
  · intro j j' cs cs' k k' x y e e' hne hk hk' hx hy hbb
    rw [T.get_set] at e e'
    by_cases hj : j = id
    · subst hj
      rw [Ren.put_same] at hk; cases hk
      rw [Ren.put_other φ l (Ne.symm hne)] at hk'
      have := (s.wf j' k' hk').2
      omega
    · rw [if_neg hj] at e; rw [Ren.put_other φ l hj] at hk
      by_cases hj' : j' = id
      · subst hj'
        rw [Ren.put_same] at hk'; cases hk'
        have := (s.wf j k hk).2
        omega
      · rw [if_neg hj'] at e'; rw [Ren.put_other φ l hj'] at hk'
        exact s.sents j j' cs cs' k k' x y e e' hne hk hk' hx hy hbb
  · have := s.base; omega
  · intro g hg
    obtain ⟨k, hk, r⟩ := s.glob g hg
    exact ⟨k, hle _ _ hk, r⟩

theorem Stp.add {φ0 φ : Ren} {h0 h : AH} {w0 w w' : World} {ob : AObj} {o' : Obj} {l : Loc} {id n : Nat} (t : Stp φ0 h0 w0 φ h w) (m : Mk w w' o') (hb : l.b = w.heap.size)
    (hid : φ id = none) (hi0 : h0.next ≤ id) (hn : h.next ≤ n) : Stp φ0 h0 w0 (φ.put id l) { objs := h.objs.set id (some ob), next := n } w' := by
  have hle := Ren.put_le l hid
  have hsz : w'.heap.size = w.heap.size + 1 := by rw [m.heap]; simp
  refine ⟨t.le.trans hle, m.os.trans t.os, m.tape.trans t.tape, m.output.trans t.output, by have := t.size; omega, ?_, ?_, Nat.le_trans t.next hn, ?_, ?_, ?_⟩
  · intro b hb0 hnw
    rw [m.old (Nat.lt_of_lt_of_le hb0 t.size)]
    exact t.keep b hb0 hnw
  · rintro b ⟨j, o, k, e, hm, hk, rfl⟩ hb0
    rw [T.get_set] at e
    by_cases hj : j = id
    · subst hj; rw [Ren.put_same] at hk; cases hk
      have := t.size; omega
    · rw [if_neg hj] at e; rw [Ren.put_other φ l hj] at hk
      exact t.foot _ ⟨j, o, k, e, hm, hk, rfl⟩ hb0
  · intro j k e1 e2
    by_cases hj : j = id
    · subst hj; exact hi0
    · rw [Ren.put_other φ l hj] at e1; exact t.new j k e1 e2
  · intro j o k e hk
    rw [T.get_set] at e
    by_cases hj : j = id
    · subst hj; rw [t.le _ _ hk] at hid; cases hid
    · rw [if_neg hj] at e; exact t.old j o k e hk
  · intro j o k e hk hn hm
    rw [T.get_set] at e
    by_cases hj : j = id
    · subst hj; rw [Ren.put_same] at hk; cases hk; have := t.size; omega
    · rw [if_neg hj] at e; rw [Ren.put_other φ l hj] at hk; exact t.fresh j o k e hk hn hm

/-- Worlds that differ in one block alone. -/
structure One (w w' : World) (b : Nat) : Prop where
  size : w'.heap.size = w.heap.size
  other : ∀ k, k ≠ b → w'.heap[k]? = w.heap[k]?
  os : w'.os = w.os
  tape : w'.tape = w.tape
  output : w'.output = w.output

/-- One object of the call's own, changed. -/
theorem Sim.put {φ : Ren} {h : AH} {w w' : World} {o ob : AObj} {l : Loc} {id : Nat} (s : Sim G B φ h w) (ho : h.objs.get id = some o) (hm : o.mine = true) (hm' : ob.mine = true) (hl : φ id = some l)
    (m : One w w' l.b) (hob : ObjR φ w' l ob) : Sim G B φ (h.put id (some ob)) w' := by
  have key : ∀ j o2 k, h.objs.get j = some o2 → φ j = some k → j ≠ id → k.b ≠ l.b := fun j o2 k e hk hj hbb => s.apart id j o o2 l k ho e (Ne.symm hj) hm hl hk hbb.symm
  refine ⟨?_, ?_, ?_, ?_, ?_, ?_, ?_⟩
  · intro j k e
    exact ⟨(s.wf j k e).1, by rw [m.size]; exact (s.wf j k e).2⟩
  · intro j o2 e
    simp only [AH.put, T.get_set] at e
    by_cases hj : j = id
    · subst hj; rw [if_pos rfl] at e; cases e; exact ⟨l, hl, hob⟩
    · rw [if_neg hj] at e
      obtain ⟨k, hk, r⟩ := s.obj j o2 e
      exact ⟨k, hk, r.of_heap (m.other _ (key j o2 k e hk hj))⟩
  · intro j o2 k e hm2 hk
    simp only [AH.put, T.get_set] at e
    by_cases hj : j = id
    · subst hj; exact s.own j o k ho hm hk
    · rw [if_neg hj] at e; exact s.own j o2 k e hm2 hk
  · intro j j' o2 o3 k k' e e' hne hm2 hk hk'
    simp only [AH.put, T.get_set] at e e'
    by_cases hj : j = id
    · subst hj
      rw [if_neg (Ne.symm hne)] at e'
      exact s.apart j j' o o3 k k' ho e' hne hm hk hk'
    · rw [if_neg hj] at e
      by_cases hj' : j' = id
      · subst hj'; exact s.apart j j' o2 o k k' e ho hne hm2 hk hk'
      · rw [if_neg hj'] at e'; exact s.apart j j' o2 o3 k k' e e' hne hm2 hk hk'
  · intro j j' cs cs' k k' x y e e' hne hk hk' hx hy hbb
    simp only [AH.put, T.get_set] at e e'
    by_cases hj : j = id
    · subst hj; rw [if_pos rfl] at e; injection e with e; subst e; cases hm'
    · rw [if_neg hj] at e
      by_cases hj' : j' = id
      · subst hj'; rw [if_pos rfl] at e'; injection e' with e'; subst e'; cases hm'
      · rw [if_neg hj'] at e'; exact s.sents j j' cs cs' k k' x y e e' hne hk hk' hx hy hbb
  · rw [m.size]; exact s.base
  · exact s.glob

theorem Stp.put {φ0 φ : Ren} {h0 h : AH} {w0 w w' : World} {o ob : AObj} {l : Loc} {id : Nat} (t : Stp φ0 h0 w0 φ h w) (ho : h.objs.get id = some o) (hm : o.mine = true) (hm' : ob.mine = true) (hl : φ id = some l)
    (m : One w w' l.b) : Stp φ0 h0 w0 φ (h.put id (some ob)) w' := by
  refine ⟨t.le, m.os.trans t.os, m.tape.trans t.tape, m.output.trans t.output, by rw [m.size]; exact t.size, ?_, ?_, t.next, t.new, ?_, ?_⟩
  · intro b hb0 hnw
    have : b ≠ l.b := fun e => hnw (t.foot b ⟨id, o, l, ho, hm, hl, e.symm⟩ hb0)
    rw [m.other b this]
    exact t.keep b hb0 hnw
  · rintro b ⟨j, o2, k, e, hm2, hk, rfl⟩ hb0
    simp only [AH.put, T.get_set] at e
    by_cases hj : j = id
    · subst hj; exact t.foot _ ⟨j, o, k, ho, hm, hk, rfl⟩ hb0
    · rw [if_neg hj] at e; exact t.foot _ ⟨j, o2, k, e, hm2, hk, rfl⟩ hb0
  · intro j o2 k e hk
    simp only [AH.put, T.get_set] at e
    by_cases hj : j = id
    · subst hj; rw [if_pos rfl] at e; injection e with e; subst e
      obtain ⟨o', h1, h2⟩ := t.old j o k ho hk
      exact ⟨o', h1, h2.trans (hm.trans hm'.symm)⟩
    · rw [if_neg hj] at e; exact t.old j o2 k e hk
  · intro j o2 k e hk hn hm2
    simp only [AH.put, T.get_set] at e
    by_cases hj : j = id
    · subst hj; rw [if_pos rfl] at e; injection e with e; subst e; rw [hm'] at hm2; cases hm2
    · rw [if_neg hj] at e; exact t.fresh j o2 k e hk hn hm2

/-- One object moved: its block under a new id. -/
theorem Sim.move {φ : Ren} {h : AH} {w w' : World} {o ob : AObj} {l l' : Loc} {id id' n : Nat} (s : Sim G B φ h w) (ho : h.objs.get id = some o) (hm : o.mine = true) (hm' : ob.mine = true) (hl : φ id = some l)
    (m : One w w' l.b) (hb : l'.b = l.b) (hid : φ id' = none) (hlt : id' < n) (hn : h.next ≤ n) (hob : ObjR (φ.put id' l') w' l' ob) :
    Sim G B (φ.put id' l') { objs := (h.objs.set id' (some ob)).set id none, next := n } w' := by
  have hle := Ren.put_le l' hid
  have hne0 : id ≠ id' := fun e => by rw [e, hid] at hl; cases hl
  have key : ∀ j o2 k, h.objs.get j = some o2 → φ j = some k → j ≠ id → k.b ≠ l.b := fun j o2 k e hk hj hbb => s.apart id j o o2 l k ho e (Ne.symm hj) hm hl hk hbb.symm
  have get : ∀ j, ((h.objs.set id' (some ob)).set id none).get j = if j = id then none else if j = id' then some ob else h.objs.get j := fun j => by rw [T.get_set, T.get_set]
  refine ⟨?_, ?_, ?_, ?_, ?_, ?_, ?_⟩
  · intro j k e
    by_cases hj : j = id'
    · subst hj; rw [Ren.put_same] at e; cases e; exact ⟨hlt, by rw [m.size, hb]; exact (s.wf id l hl).2⟩
    · rw [Ren.put_other φ l' hj] at e
      obtain ⟨a, b⟩ := s.wf j k e
      exact ⟨Nat.lt_of_lt_of_le a hn, by rw [m.size]; exact b⟩
  · intro j o2 e
    rw [get] at e
    by_cases hi : j = id
    · rw [if_pos hi] at e; cases e
    · rw [if_neg hi] at e
      by_cases hj : j = id'
      · subst hj; rw [if_pos rfl] at e; cases e; exact ⟨l', Ren.put_same .., hob⟩
      · rw [if_neg hj] at e
        obtain ⟨k, hk, r⟩ := s.obj j o2 e
        exact ⟨k, hle _ _ hk, (r.of_heap (m.other _ (key j o2 k e hk hi))).mono hle⟩
  · intro j o2 k e hm2 hk
    rw [get] at e
    by_cases hi : j = id
    · rw [if_pos hi] at e; cases e
    · rw [if_neg hi] at e
      by_cases hj : j = id'
      · subst hj; rw [Ren.put_same] at hk; cases hk; rw [hb]; exact s.own id o l ho hm hl
      · rw [if_neg hj] at e; rw [Ren.put_other φ l' hj] at hk; exact s.own j o2 k e hm2 hk
  · intro j j' o2 o3 k k' e e' hne hm2 hk hk'
    rw [get] at e e'
    by_cases hi : j = id
    · rw [if_pos hi] at e; cases e
    by_cases hi' : j' = id
    · rw [if_pos hi'] at e'; cases e'
    rw [if_neg hi] at e; rw [if_neg hi'] at e'
    by_cases hj : j = id'
    · subst hj
      rw [Ren.put_same] at hk; cases hk
      rw [if_neg (Ne.symm hne)] at e'
      rw [Ren.put_other φ l' (Ne.symm hne)] at hk'
      rw [hb]; exact fun x => key j' o3 k' e' hk' hi' x.symm
    · rw [if_neg hj] at e; rw [Ren.put_other φ l' hj] at hk
      by_cases hj' : j' = id'
      · subst hj'
        rw [Ren.put_same] at hk'; cases hk'
        rw [hb]; exact key j o2 k e hk hi
      · rw [if_neg hj'] at e'; rw [Ren.put_other φ l' hj'] at hk'
        exact s.apart j j' o2 o3 k k' e e' hne hm2 hk hk'
  · intro j j' cs cs' k k' x y e e' hne hk hk' hx hy hbb
    rw [get] at e e'
    by_cases hi : j = id
    · rw [if_pos hi] at e; cases e
    by_cases hi' : j' = id
    · rw [if_pos hi'] at e'; cases e'
    rw [if_neg hi] at e; rw [if_neg hi'] at e'
    by_cases hj : j = id'
    · subst hj; rw [if_pos rfl] at e; injection e with e; subst e; cases hm'
    · rw [if_neg hj] at e; rw [Ren.put_other φ l' hj] at hk
      by_cases hj' : j' = id'
      · subst hj'; rw [if_pos rfl] at e'; injection e' with e'; subst e'; cases hm'
      · rw [if_neg hj'] at e'; rw [Ren.put_other φ l' hj'] at hk'
        exact s.sents j j' cs cs' k k' x y e e' hne hk hk' hx hy hbb
  · rw [m.size]; exact s.base
  · intro g hg
    obtain ⟨k, hk, r⟩ := s.glob g hg
    exact ⟨k, hle _ _ hk, r⟩

theorem Stp.move {φ0 φ : Ren} {h0 h : AH} {w0 w w' : World} {o ob : AObj} {l l' : Loc} {id id' n : Nat} (t : Stp φ0 h0 w0 φ h w) (ho : h.objs.get id = some o) (hm : o.mine = true) (hm' : ob.mine = true) (hl : φ id = some l)
    (m : One w w' l.b) (hb : l'.b = l.b) (hid : φ id' = none) (hi0 : h0.next ≤ id') (hn : h.next ≤ n) :
    Stp φ0 h0 w0 (φ.put id' l') { objs := (h.objs.set id' (some ob)).set id none, next := n } w' := by
  have hle := Ren.put_le l' hid
  have get : ∀ j, ((h.objs.set id' (some ob)).set id none).get j = if j = id then none else if j = id' then some ob else h.objs.get j := fun j => by rw [T.get_set, T.get_set]
  refine ⟨t.le.trans hle, m.os.trans t.os, m.tape.trans t.tape, m.output.trans t.output, by rw [m.size]; exact t.size, ?_, ?_, Nat.le_trans t.next hn, ?_, ?_, ?_⟩
  · intro b hb0 hnw
    have : b ≠ l.b := fun e => hnw (t.foot b ⟨id, o, l, ho, hm, hl, e.symm⟩ hb0)
    rw [m.other b this]
    exact t.keep b hb0 hnw
  · rintro b ⟨j, o2, k, e, hm2, hk, rfl⟩ hb0
    rw [get] at e
    by_cases hi : j = id
    · rw [if_pos hi] at e; cases e
    rw [if_neg hi] at e
    by_cases hj : j = id'
    · subst hj; rw [Ren.put_same] at hk; cases hk; rw [hb] at hb0 ⊢; exact t.foot _ ⟨id, o, l, ho, hm, hl, rfl⟩ hb0
    · rw [if_neg hj] at e; rw [Ren.put_other φ l' hj] at hk; exact t.foot _ ⟨j, o2, k, e, hm2, hk, rfl⟩ hb0
  · intro j k e1 e2
    by_cases hj : j = id'
    · subst hj; exact hi0
    · rw [Ren.put_other φ l' hj] at e1; exact t.new j k e1 e2
  · intro j o2 k e hk
    rw [get] at e
    by_cases hi : j = id
    · rw [if_pos hi] at e; cases e
    rw [if_neg hi] at e
    by_cases hj : j = id'
    · subst hj; rw [t.le _ _ hk] at hid; cases hid
    · rw [if_neg hj] at e; exact t.old j o2 k e hk
  · intro j o2 k e hk hn hm2
    rw [get] at e
    by_cases hi : j = id
    · rw [if_pos hi] at e; cases e
    rw [if_neg hi] at e
    by_cases hj : j = id'
    · subst hj; rw [if_pos rfl] at e; injection e with e; subst e; rw [hm'] at hm2; cases hm2
    · rw [if_neg hj] at e; rw [Ren.put_other φ l' hj] at hk; exact t.fresh j o2 k e hk hn hm2

/-- A row set anew. -/
theorem One.setRow (w : World) (b : Nat) (cs : Array Value) : One w (w.setRow b cs) b :=
  ⟨setRow_size .., fun k hk => setRow_other _ _ _ _ hk, rfl, rfl, rfl⟩

/-- A block set anew. -/
theorem One.setObj (w : World) (b : Nat) (o : Obj) : One w { w with heap := w.heap.setIfInBounds b o } b :=
  ⟨by simp, fun k hk => by simp [Array.getElem?_setIfInBounds_ne (Ne.symm hk)], rfl, rfl, rfl⟩

/-- A free id is not named. -/
theorem Sim.free {φ : Ren} {h : AH} {w : World} (s : Sim G B φ h w) {id : Nat} (hn : h.next ≤ id) : φ id = none := by
  cases e : φ id with
  | none => rfl
  | some l => have := (s.wf id l e).1; omega
end Go.Ev


/- What acts: stores, maps, ranges over strings. -/
namespace Go.Ev
variable {P : Program} {G B : Nat} {φ : Ren} {h : AH} {w : World}

theorem list_write_get {α : Type} (c vs : List α) (o i : Nat) (hl : o + vs.length ≤ c.length) :
    (c.take o ++ vs ++ c.drop (o + vs.length))[i]? = if o ≤ i ∧ i < o + vs.length then vs[i - o]? else c[i]? := by
  have ht : (c.take o).length = o := by rw [List.length_take]; omega
  by_cases h1 : i < o
  · rw [if_neg (by omega), List.append_assoc, List.getElem?_append_left (by omega), List.getElem?_take, if_pos h1]
  · by_cases h2 : i < o + vs.length
    · rw [if_pos ⟨by omega, h2⟩, List.append_assoc, List.getElem?_append_right (by omega), ht, List.getElem?_append_left (by omega)]
    · rw [if_neg (by omega), List.append_assoc, List.getElem?_append_right (by omega), ht, List.getElem?_append_right (by omega), List.getElem?_drop]
      congr 1; omega

/-- Cells over cells. -/
theorem CellsR.write {l : Loc} {c : Array Value} {cs cs' vs vs' : List Value} {off : Nat} (r : CellsR φ c l cs) (hw : writeAt off vs cs = some cs') (hv : VRL φ vs vs') :
    CellsR φ (c.toList.take (l.s + off) ++ vs' ++ c.toList.drop (l.s + off + vs'.length)).toArray l cs' ∧ l.s + off + vs'.length ≤ c.size := by
  obtain ⟨r1, r2, r3, r4⟩ := r
  obtain ⟨e, hb⟩ := writeAt_some hw
  have hlen := writeAt_length hw
  have hvl := hv.1
  have hfit : l.s + off + vs'.length ≤ c.size := by omega
  refine ⟨⟨?_, by rw [hlen]; exact r2, hlen.trans r3, ?_, ?_⟩, hfit⟩
  · simp only [List.size_toArray, List.length_append, List.length_take, List.length_drop, Array.length_toList]
    omega
  · rw [hlen]
    simp only [List.length_take, List.length_drop, List.length_append, Array.length_toList]
    omega
  · intro i v v' a b
    rw [writeAt_get hw] at a
    rw [List.getElem?_take, List.getElem?_drop] at b
    split at b
    · rename_i hi
      rw [List.toList_toArray, list_write_get _ _ _ _ (by simpa using hfit)] at b
      by_cases hc : off ≤ i ∧ i < off + vs.length
      · rw [if_pos hc] at a
        rw [if_pos (by omega), show l.s + i - (l.s + off) = i - off by omega] at b
        exact hv.2 _ _ _ a b
      · rw [if_neg hc] at a
        rw [if_neg (by omega)] at b
        refine r4.2 i v v' a ?_
        rw [List.getElem?_take, if_pos (by omega), List.getElem?_drop]
        exact b
    · cases b

theorem all_one {vs vs' : List Value} (hv : VRL φ vs vs') (h1 : vs.all oneCell = true) : ∀ v ∈ vs', v.oneCell' = true := by
  intro v' hv'
  obtain ⟨i, hi, rfl⟩ := List.mem_iff_getElem.1 hv'
  have hi' : i < vs.length := by rw [hv.1]; exact hi
  have := hv.2 i vs[i] vs'[i] (List.getElem?_eq_getElem hi') (List.getElem?_eq_getElem hi)
  rw [this.oneCell]
  exact List.all_eq_true.1 h1 _ (List.getElem_mem hi')

theorem storeL_ok (s : Sim G B φ h w) {id off : Nat} {vs vs' : List Value} {h' : AH} (hs : storeL h id off vs = some h') {l : Loc} (hl : φ id = some l) (hv : VRL φ vs vs') :
    ∃ w', (storeCells ⟨l.b, l.s + off, none⟩ vs').run P w = .ok () w' ∧ Sim G B φ h' w' ∧ Stp φ h w φ h' w' := by
  unfold storeL at hs
  split at hs
  · injection hs with hs; subst hs
    rw [hv.nil_inv]
    exact ⟨w, rfl, s, .refl ..⟩
  · split at hs
    · rename_i cs e h1 ho
      split at hs
      · rename_i cs' hw
        injection hs with hs; subst hs
        obtain ⟨l', hl', c, t, hb, he, hc⟩ := s.obj _ _ ho
        rw [hl] at hl'; injection hl' with hl'; subst hl'
        obtain ⟨hc', hfit⟩ := hc.write hw hv
        have hrun := run_storeCells_at P l.b (l.s + off) t vs' 0 c w hb (by simpa using hfit) (all_one hv h1)
        simp only [Nat.add_zero] at hrun
        have hone := One.setRow w l.b (c.toList.take (l.s + off) ++ vs' ++ c.toList.drop (l.s + off + vs'.length)).toArray
        exact ⟨_, hrun, s.put ho rfl rfl hl hone ⟨_, t, setRow_heap _ _ _ _ _ _ hb, he, hc'⟩, (Stp.refl φ h w).put ho rfl rfl hl hone⟩
      · cases hs
    · cases hs

theorem storeAt_ok (s : Sim G B φ h w) {t : TypeId} {id off n : Nat} {x x' a' : Value} {h' : AH} (ha : VR φ (.pointer (some ⟨id, off, none⟩)) a') (hx : VR φ x x') (hn : sizeOf? P t = some n)
    (hlen : (cellsL x).length = n) (hs : storeL h id off (cellsL x) = some h') :
    ∃ w', (Instr.storeAt t a' x').run P w = .ok () w' ∧ Sim G B φ h' w' ∧ Stp φ h w φ h' w' := by
  cases ha with
  | ptr _ _ l hl =>
  obtain ⟨w', h1, h2⟩ := storeL_ok (P := P) s hs hl hx.cellsL
  refine ⟨w', ?_, h2⟩
  have : x'.cells.size = n := by rw [← hlen, hx.cellsL.1]; simp
  simp only [Instr.storeAt, Instr.sureAddr, storeVar, Sem.run_bind, Sem.run_pure, run_sizeOf' hn, Result.andThen_ok, this]
  simpa using h1
end Go.Ev


/- What acts: maps, ranges over strings, copies. -/
namespace Go.Ev
variable {P : Program} {G B : Nat} {φ : Ren} {h : AH} {w : World}

theorem keyEq_self : ∀ {k : Value} {t : TypeId}, keyOk P t k = true → keyEq k k = some true := by
  intro k t hk
  have hl : ∀ xs : List Value, xs.all intCell = true → keyEqL xs xs = some true := by
    intro xs
    induction xs with
    | nil => intro _; rfl
    | cons x xs ih =>
      intro ha
      simp only [List.all_cons, Bool.and_eq_true] at ha
      cases x <;> simp_all [intCell, keyEqL]
  unfold keyOk at hk
  split at hk
  · simp [keyEq]
  · simp [keyEq]
  · simp only [Bool.and_eq_true] at hk
    simp only [keyEq]
    exact hl _ hk.2
  · cases hk

/-- Where a key stands, and what an update and a deletion come to. -/
theorem upd_spec {k v v0 : Value} (hself : keyEq k k = some true) : ∀ {es : List (Value × Value)}, find k es = some (some v0) →
    ∃ i v1, es[i]? = some (k, v1) ∧ upd k v es = es.set i (k, v) ∧ del k es = es.eraseIdx i
  | [], h => by cases h
  | (k', v') :: es, h => by
    rcases find_inv h with ⟨a, b, _⟩ | ⟨a, b⟩
    · have := keyEq_true a
      simp only at this; subst this
      exact ⟨0, v', by simp, by simp [upd, hself], by simp [del, hself]⟩
    · obtain ⟨i, v1, h1, h2, h3⟩ := upd_spec (v := v) hself b
      simp only at a
      exact ⟨i + 1, v1, by simpa using h1, by simp [upd, a, h2], by simp [del, a, h3]⟩

theorem upd_none {k v : Value} : ∀ {es : List (Value × Value)}, find k es = some none → upd k v es = es ++ [(k, v)] ∧ del k es = es
  | [], _ => by simp [upd, del]
  | (k', v') :: es, h => by
    rcases find_inv h with ⟨a, b, c⟩ | ⟨a, b⟩
    · cases c
    · obtain ⟨h1, h2⟩ := upd_none (v := v) b
      simp only at a
      simp [upd, del, a, h1, h2]

/-- Two entries at which a key is found are the same. -/
theorem find_unique {k v0 : Value} (hself : keyEq k k = some true) : ∀ {es : List (Value × Value)} {i j : Nat} {a b : Value}, find k es = some (some v0) → es[i]? = some (k, a) → es[j]? = some (k, b) → i = j
  | [], _, _, _, _, h, _, _ => by cases h
  | (k', v') :: es, i, j, a, b, h, hi, hj => by
    have none_in : ∀ {es : List (Value × Value)} {i : Nat} {a : Value}, find k es = some none → es[i]? = some (k, a) → False := by
      intro es
      induction es with
      | nil => intro i a _ hi; simp at hi
      | cons p es ih =>
        intro i a hf hi
        rcases find_inv hf with ⟨_, _, c⟩ | ⟨x, y⟩
        · cases c
        · cases i with
          | zero => simp at hi; subst hi; simp only at x; rw [hself] at x; cases x
          | succ i => exact ih y (by simpa using hi)
    rcases find_inv h with ⟨x, y, _⟩ | ⟨x, y⟩
    · cases i with
      | zero => cases j with
        | zero => rfl
        | succ j => exact (none_in y (by simpa using hj)).elim
      | succ i => exact (none_in y (by simpa using hi)).elim
    · cases i with
      | zero => simp at hi; obtain ⟨rfl, rfl⟩ := hi; simp only at x; rw [hself] at x; cases x
      | succ i => cases j with
        | zero => simp at hj; obtain ⟨rfl, rfl⟩ := hj; simp only at x; rw [hself] at x; cases x
        | succ j => exact congrArg (· + 1) (find_unique hself y (by simpa using hi) (by simpa using hj))

theorem map_erase {α β : Type} (f : α → β) : ∀ (l : List α) (j : Nat), (l.eraseIdx j).map f = (l.map f).eraseIdx j
  | [], _ => by simp
  | _ :: _, 0 => by simp
  | x :: l, j + 1 => by simp [map_erase f l j]

theorem perm_eraseIdx {α : Type} : ∀ {l : List α} {i : Nat} {x : α}, l[i]? = some x → l.Perm (x :: l.eraseIdx i)
  | [], _, _, h => by simp at h
  | a :: l, 0, x, h => by simp at h; subst h; exact List.Perm.refl _
  | a :: l, i + 1, x, h => by
    have := perm_eraseIdx (l := l) (i := i) (x := x) (by simpa using h)
    exact (List.Perm.cons a this).trans (List.Perm.swap ..)

theorem perm_set {α : Type} : ∀ {l : List α} {i : Nat} {x y : α}, l[i]? = some x → (l.set i y).Perm (y :: l.eraseIdx i)
  | [], _, _, _, h => by simp at h
  | a :: l, 0, x, y, h => by simp
  | a :: l, i + 1, x, y, h => by
    have := perm_set (l := l) (i := i) (x := x) (y := y) (by simpa using h)
    exact (List.Perm.cons a this).trans (List.Perm.swap ..)

theorem upd_perm {k v v0 : Value} (hself : keyEq k k = some true) {es ps : List (Value × Value)} (hp : ps.Perm es) (hf : find k es = some (some v0)) {i : Nat} {v1 : Value} (hi : ps[i]? = some (k, v1)) :
    (ps.set i (k, v)).Perm (upd k v es) ∧ (ps.eraseIdx i).Perm (del k es) := by
  have hf' : find k ps = some (some v0) := by rw [find_perm hp]; exact hf
  obtain ⟨j, u, h1, h2, h3⟩ := upd_spec (v := v) hself hf
  have e1 := perm_eraseIdx hi
  have e2 := perm_eraseIdx h1
  have huv : v1 = u := by
    have hmem : (k, v1) ∈ es := hp.mem_iff.1 (List.mem_of_getElem? hi)
    obtain ⟨m, hm, he⟩ := List.mem_iff_getElem.1 hmem
    have hm' : es[m]? = some (k, v1) := by rw [List.getElem?_eq_getElem hm, he]
    have := find_unique hself hf hm' h1
    subst this
    rw [hm'] at h1
    injection h1 with h1; injection h1 with _ h1
  subst huv
  have e3 : (ps.eraseIdx i).Perm (es.eraseIdx j) := ((e1.symm.trans hp).trans e2).cons_inv
  rw [h2, h3]
  exact ⟨((perm_set hi).trans (List.Perm.cons _ e3)).trans (perm_set h1).symm, e3⟩

theorem run_keyThatStays' {k : Value} {t : TypeId} (hk : keyOk P t k = true) (w : World) : (Instr.keyThatStays k k).run P w = .ok k w := by
  have hz : ∀ (n : Nat) (xs : List Value), xs.all intCell = true → (xs.zip xs).all (fun (x, y) => Instr.sameBits n x y) = true := by
    intro n xs
    induction xs with
    | nil => intro _; rfl
    | cons x xs ih =>
      intro ha
      simp only [List.all_cons, Bool.and_eq_true] at ha
      simp only [List.zip_cons_cons, List.all_cons, ih ha.2, Bool.and_true]
      cases x <;> simp_all [intCell]
      cases n <;> simp [Instr.sameBits]
  have : Instr.sameBits 10000 k k = true := by
    unfold keyOk at hk
    split at hk
    · simp [Instr.sameBits]
    · simp [Instr.sameBits, MapKept.bytes_beq]
    · simp only [Bool.and_eq_true] at hk
      rw [show (10000 : Nat) = 9999 + 1 from rfl]
      simp only [Instr.sameBits, beq_self_eq_true, Bool.true_and]
      exact hz _ _ hk.2
    · cases hk
  simp [Instr.keyThatStays, this]

theorem Al.get {ps : List (Value × Value)} {es' : List MapEntry} (h : Al φ ps es') {i : Nat} {e : MapEntry} (he : es'[i]? = some e) : ∃ p, ps[i]? = some p ∧ plain p.1 = true ∧ e.key = p.1 ∧ VR φ p.2 e.val := by
  have hi : i < es'.length := (List.getElem?_eq_some_iff.1 he).1
  have hp : ps[i]? = some (ps[i]'(by rw [h.1]; exact hi)) := List.getElem?_eq_getElem _
  exact ⟨_, hp, h.2 i _ e hp he⟩

/-- The real map behind an abstract one. -/
theorem mapUpdate_ok (s : Sim G B φ h w) {t : TypeId} {m k x m' x' : Value} {h' : AH} (hm : VR φ m m') (hx : VR φ x x') (hu : mapUpdate P h t m k x = some h') :
    plain k = true ∧ ∃ w', (Instr.mapUpdate t m' k x').run P w = .ok () w' ∧ Sim G B φ h' w' ∧ Stp φ h w φ h' w' := by
  unfold mapUpdate at hu
  split at hu
  · rename_i kt e r hmk
    have hut : P.underlying t = some (.map kt e) := by
      unfold mapKey at hmk
      split at hmk
      · rename_i k' e' hu'; injection hmk with hmk; injection hmk with h1 h2; subst h1; subst h2; exact hu'
      · cases hmk
    split at hu
    · rename_i es ho
      split at hu
      · rename_i res hk hf
        injection hu with hu; subst hu
        cases hm with
        | map _ l hl =>
        obtain ⟨l', hl', es', n, hb, hr, hnd, hlt⟩ := s.obj _ _ ho
        rw [hl] at hl'; injection hl' with hl'; subst hl'
        obtain ⟨ps, hp, hal⟩ := hr.al
        have hself := keyEq_self hk
        have hpk := keyOk_plain hk
        obtain ⟨rres, h1, h2⟩ := run_findKey w hk hal (by rw [find_perm hp]; exact hf)
        have hck := run_checkKey (P := P) w hk false 9998
        refine ⟨hpk, ?_⟩
        cases res with
        | none =>
          obtain rfl : rres = none := h2
          refine ⟨{ w with heap := w.heap.setIfInBounds l.b (.map (es'.push { key := k, val := x', born := n }) (n + 1)) }, ?_, ?_⟩
          · simp only [Instr.mapUpdate, Sem.run_bind, run_underlying hut, Result.andThen_ok, run_getMap w hb, hck, h1, MapKept.run_setObj_map _ hb]
          · have hone := One.setObj w l.b (.map (es'.push { key := k, val := x', born := n }) (n + 1))
            have hbs : l.b < w.heap.size := (Array.getElem?_eq_some_iff.1 hb).1
            have hob : ObjR φ { w with heap := w.heap.setIfInBounds l.b (.map (es'.push { key := k, val := x', born := n }) (n + 1)) } l (.map (upd k x es)) := by
              refine ⟨es'.push { key := k, val := x', born := n }, n + 1, by simp [hbs], ⟨ps ++ [(k, x)], ?_, ?_, ?_⟩, ?_, ?_⟩
              · rw [(upd_none (v := x) hf).1]; exact hp.append_right _
              · simp [hal.1]
              · intro i p e a b
                rw [Array.toList_push] at b
                by_cases hi : i < ps.length
                · rw [List.getElem?_append_left hi] at a
                  rw [List.getElem?_append_left (by rw [← hal.1]; exact hi)] at b
                  exact hal.2 i p e a b
                · rw [List.getElem?_append_right (by omega)] at a
                  rw [List.getElem?_append_right (by rw [← hal.1]; omega), ← hal.1] at b
                  cases hd : i - ps.length with
                  | zero => rw [hd] at a b; simp at a b; subst a; subst b; exact ⟨hpk, rfl, hx⟩
                  | succ d => rw [hd] at a; simp at a
              · rw [Array.toList_push, List.map_append, List.nodup_append]
                refine ⟨hnd, by simp, ?_⟩
                intro a ha b hb
                simp at hb; subst hb
                obtain ⟨e, he, rfl⟩ := List.mem_map.1 ha
                have := hlt e he
                omega
              · intro e he
                rw [Array.toList_push, List.mem_append] at he
                rcases he with he | he
                · have := hlt e he; omega
                · simp at he; subst he; simp
            exact ⟨s.put ho rfl rfl hl hone hob, (Stp.refl φ h w).put ho rfl rfl hl hone⟩
        | some v0 =>
          obtain ⟨i, en, hi, rfl, hv, hek⟩ := h2
          rw [Nat.zero_add] at h1
          have hi' : es'[i]? = some en := by simpa using hi
          have hkts := run_keyThatStays' hk w
          refine ⟨{ w with heap := w.heap.setIfInBounds l.b (.map (es'.modify i fun e => { e with key := k, val := x' }) n) }, ?_, ?_⟩
          · simp only [Instr.mapUpdate, Sem.run_bind, run_underlying hut, Result.andThen_ok, run_getMap w hb, hck, h1, hi', Option.map_some, Option.getD_some, hek, hkts, MapKept.run_setObj_map _ hb]
          · have hone := One.setObj w l.b (.map (es'.modify i fun e => { e with key := k, val := x' }) n)
            have hbs : l.b < w.heap.size := (Array.getElem?_eq_some_iff.1 hb).1
            obtain ⟨p, hpi, _, hpk2, _⟩ := hal.get hi
            have hp1 : ps[i]? = some (k, p.2) := by rw [hpi, ← hek, hpk2]
            obtain ⟨hperm, _⟩ := upd_perm (v := x) hself hp hf hp1
            have hmod : (es'.modify i fun e => { e with key := k, val := x' }).toList = es'.toList.set i { en with key := k, val := x' } := by
              rw [Array.toList_modify]
              apply List.ext_getElem?
              intro j
              rw [List.getElem?_modify, List.getElem?_set]
              by_cases hj : i = j
              · subst hj
                have := (List.getElem?_eq_some_iff.1 hi).1
                simp [hi, this]
                rw [Array.length_toList] at this
                simp [this]
              · simp [hj]
            have hborn : (es'.modify i fun e => { e with key := k, val := x' }).toList.map (·.born) = es'.toList.map (·.born) := by
              rw [hmod]
              apply List.ext_getElem?
              intro j
              rw [List.getElem?_map, List.getElem?_map, List.getElem?_set]
              by_cases hj : i = j
              · subst hj
                have := (List.getElem?_eq_some_iff.1 hi).1
                rw [Array.length_toList] at this
                have hen : es'[i] = en := by
                  have := hi'
                  rw [Array.getElem?_eq_getElem (by assumption)] at this
                  injection this
                simp [this, hen]
              · simp [hj]
            have hob : ObjR φ { w with heap := w.heap.setIfInBounds l.b (.map (es'.modify i fun e => { e with key := k, val := x' }) n) } l (.map (upd k x es)) := by
              refine ⟨es'.modify i fun e => { e with key := k, val := x' }, n, by simp [hbs], ⟨ps.set i (k, x), hperm, ?_, ?_⟩, by rw [hborn]; exact hnd, ?_⟩
              · rw [hmod]; simp [hal.1]
              · intro j q e a b
                rw [hmod] at b
                rw [List.getElem?_set] at a b
                by_cases hj : i = j
                · subst hj
                  have h1 := (List.getElem?_eq_some_iff.1 hi).1
                  have h2 := (List.getElem?_eq_some_iff.1 hp1).1
                  simp only [h1, h2, if_true] at a b
                  injection a with a; injection b with b
                  subst a; subst b
                  exact ⟨hpk, rfl, hx⟩
                · rw [if_neg hj] at a b
                  exact hal.2 j q e a b
              · intro e he
                have : e.born ∈ es'.toList.map (·.born) := by rw [← hborn]; exact List.mem_map.2 ⟨e, he, rfl⟩
                obtain ⟨e', he', hbb⟩ := List.mem_map.1 this
                rw [← hbb]; exact hlt e' he'
            exact ⟨s.put ho rfl rfl hl hone hob, (Stp.refl φ h w).put ho rfl rfl hl hone⟩
      · cases hu
    · cases hu
  · cases hu

theorem mapDelete_ok (s : Sim G B φ h w) {t ty : TypeId} {ts : Array TypeId} {m k m' : Value} {h' : AH} (hts : ts[0]? = some t) (hm : VR φ m m') (hu : mapDelete P h t m k = some h') :
    plain k = true ∧ ∃ w', (Builtin.delete_ ts ty #[m', k]).run P w = .ok undefV w' ∧ Sim G B φ h' w' ∧ Stp φ h w φ h' w' := by
  unfold mapDelete at hu
  split at hu
  · rename_i kt e r hmk
    have hut : P.underlying t = some (.map kt e) := by
      unfold mapKey at hmk
      split at hmk
      · rename_i k' e' hu'; injection hmk with hmk; injection hmk with h1 h2; subst h1; subst h2; exact hu'
      · cases hmk
    split at hu
    · rename_i es ho
      split at hu
      · rename_i res hk hf
        injection hu with hu; subst hu
        cases hm with
        | map _ l hl =>
        obtain ⟨l', hl', es', n, hb, hr, hnd, hlt⟩ := s.obj _ _ ho
        rw [hl] at hl'; injection hl' with hl'; subst hl'
        obtain ⟨ps, hp, hal⟩ := hr.al
        have hself := keyEq_self hk
        have hpk := keyOk_plain hk
        obtain ⟨rres, h1, h2⟩ := run_findKey w hk hal (by rw [find_perm hp]; exact hf)
        have hck := run_checkKey (P := P) w hk es'.isEmpty 9998
        have hbs : l.b < w.heap.size := (Array.getElem?_eq_some_iff.1 hb).1
        refine ⟨hpk, ?_⟩
        cases res with
        | none =>
          obtain rfl : rres = none := h2
          refine ⟨{ w with heap := w.heap.setIfInBounds l.b (.map es' n) }, ?_, ?_⟩
          · simp only [Builtin.delete_, hts, List.getElem?_toArray, List.getElem?_cons_zero, List.getElem?_cons_succ, Sem.run_bind, run_underlying hut, Result.andThen_ok, run_getMap w hb, hck, h1, MapKept.run_setObj_map _ hb]
            rfl
          · have hone := One.setObj w l.b (.map es' n)
            have hob : ObjR φ { w with heap := w.heap.setIfInBounds l.b (.map es' n) } l (.map (del k es)) := by
              rw [(upd_none (v := k) hf).2]
              exact ⟨es', n, by simp [hbs], hr, hnd, hlt⟩
            exact ⟨s.put ho rfl rfl hl hone hob, (Stp.refl φ h w).put ho rfl rfl hl hone⟩
        | some v0 =>
          obtain ⟨i, en, hi, rfl, hv, hek⟩ := h2
          rw [Nat.zero_add] at h1
          refine ⟨{ w with heap := w.heap.setIfInBounds l.b (.map (es'.eraseIdxIfInBounds i) n) }, ?_, ?_⟩
          · simp only [Builtin.delete_, hts, List.getElem?_toArray, List.getElem?_cons_zero, List.getElem?_cons_succ, Sem.run_bind, run_underlying hut, Result.andThen_ok, run_getMap w hb, hck, h1, MapKept.run_setObj_map _ hb]
            rfl
          · have hone := One.setObj w l.b (.map (es'.eraseIdxIfInBounds i) n)
            obtain ⟨p, hpi, _, hpk2, _⟩ := hal.get hi
            have hp1 : ps[i]? = some (k, p.2) := by rw [hpi, ← hek, hpk2]
            obtain ⟨_, hperm⟩ := upd_perm (v := k) hself hp hf hp1
            have hil : i < es'.size := by simpa using (List.getElem?_eq_some_iff.1 hi).1
            have hers : (es'.eraseIdxIfInBounds i).toList = es'.toList.eraseIdx i := by
              rw [Array.eraseIdxIfInBounds, dif_pos hil, Array.toList_eraseIdx]
            have hob : ObjR φ { w with heap := w.heap.setIfInBounds l.b (.map (es'.eraseIdxIfInBounds i) n) } l (.map (del k es)) := by
              refine ⟨es'.eraseIdxIfInBounds i, n, by simp [hbs], ⟨ps.eraseIdx i, hperm, ?_, ?_⟩, ?_, ?_⟩
              · rw [hers, List.length_eraseIdx, List.length_eraseIdx, hal.1]
              · intro j q e a b
                rw [hers] at b
                rw [List.getElem?_eraseIdx] at a b
                split at a
                · rename_i hj; rw [if_pos hj] at b; exact hal.2 _ q e a b
                · rename_i hj; rw [if_neg hj] at b; exact hal.2 _ q e a b
              · rw [hers, map_erase]
                exact hnd.sublist (List.eraseIdx_sublist ..)
              · intro e he
                rw [hers] at he
                exact hlt e (List.mem_of_mem_eraseIdx he)
            exact ⟨s.put ho rfl rfl hl hone hob, (Stp.refl φ h w).put ho rfl rfl hl hone⟩
      · cases hu
    · cases hu
  · cases hu
end Go.Ev


/- What an append comes to in the real run. -/
namespace Go.Ev
variable {P : Program}

/-- What an append puts behind a slice: cells of another slice or of a string, or zeros. -/
inductive Fed (P : Program) (xt elem : TypeId) (size : Nat) (w : World) : Value → Nat → List Value → Prop where
  | cells (x : Value) (n : Nat) (new : List Value) (xd : TypeDesc) (hx : P.underlying xt = some xd) (hni : ∀ k, xd ≠ .int k) (hl : ∀ w, (Builtin.lenOf x).run P w = .ok n w)
      (hf : (Builtin.firstCells size n x).run P w = .ok new.toArray w) (hf' : (Builtin.firstCells size n x).run P { w with drawn := w.drawn + 1 } = .ok new.toArray { w with drawn := w.drawn + 1 }) : Fed P xt elem size w x n new
  | zeros (k kd : IntKind) (n : Nat) (z : Value) (i : TypeInfo) (hx : P.underlying xt = some (.int kd)) (hn : n ≤ 2 ^ 30) (hi : P.info? elem = some i) (hb : n * i.bytes ≤ 2 ^ 48) (hz : zeroOf? P elem = some z) (hs : z.cells.size = size)
      : Fed P xt elem size w (.int k (.ofNat n)) n (Builtin.zeroCells z.cells n).toList

theorem run_append_in {ts : Array TypeId} {ty st xt elem : TypeId} {size : Nat} (h0 : ts[0]? = some st) (h1 : ts[1]? = some xt) (hu : P.underlying st = some (.slice elem)) (hn : sizeOf? P elem = some size)
    {w : World} {base : Option Addr} {len cap n : Nat} {x : Value} {new : List Value} (hf : Fed P xt elem size w x n new) (hneed : len + n ≤ cap) :
    (Builtin.append_ ts ty #[.slice base len cap, x]).run P w =
      (((match base with | some a => storeCells (a.add (len * size)) new | none => pure ()) : Sem Unit).run P w).andThen fun _ w' => .ok (.slice base (len + n) cap) w' := by
  cases hf with
  | cells x n new xd hx hni hl hf hf' =>
    simp only [Builtin.append_, h0, h1, List.getElem?_toArray, List.getElem?_cons_zero, List.getElem?_cons_succ, Sem.run_bind, run_underlying hu, run_underlying hx, Result.andThen_ok, run_sizeOf' hn, Sem.run_pure]
    cases xd
    case int k => exact absurd rfl (hni _)
    all_goals
      simp only [Bool.false_eq_true, if_false, hl, Result.andThen_ok, hneed, if_true, Bool.not_false, Sem.run_bind, hf]
      cases base <;> simp only [Sem.run_bind, Sem.run_pure, Result.andThen_ok]
  | zeros k kd n z i hx hn30 hi hb hz hs =>
    have wr : IntKind.i64.wrap (Int.ofNat n) = Int.ofNat n := by
      simp only [IntKind.wrap, IntKind.signed, IntKind.bits]
      have : ((Int.ofNat n) % 2 ^ 64) = Int.ofNat n := by simp; omega
      simp [this]
      omega
    have e1 : (Int.ofNat n < 0) = False := by simp
    have e2 : ((Int.ofNat n * (i.bytes : Int)) > 2 ^ 48) = False := by
      have : (Int.ofNat n * (i.bytes : Int)) = ((n * i.bytes : Nat) : Int) := by simp
      rw [this]; simp; omega
    obtain ⟨rz, pz⟩ := run_zero' hz w
    simp only [Builtin.append_, h0, h1, List.getElem?_toArray, List.getElem?_cons_zero, List.getElem?_cons_succ, Sem.run_bind, run_underlying hu, run_underlying hx, Result.andThen_ok, run_sizeOf' hn, Sem.run_pure,
      if_true, asInt, asIntOf, wr, e1, if_false, typeInfo, run_program, hi, e2, show (Int.ofNat n).toNat = n from rfl, hneed, Bool.not_true, Bool.false_eq_true]
    by_cases hz0 : n * size = 0
    · have : Builtin.zeroCells z.cells n = #[] := by simp [Builtin.zeroCells, hs, hz0]
      simp only [hz0, if_true, this]
      cases base <;> simp only [Sem.run_bind, Sem.run_pure, Result.andThen_ok]
    · simp only [hz0, if_false, Sem.run_bind, rz, Result.andThen_ok, Sem.run_pure]
      cases base <;> simp only [Sem.run_bind, Sem.run_pure, Result.andThen_ok]

theorem run_append_out {ts : Array TypeId} {ty st xt elem : TypeId} {size : Nat} (h0 : ts[0]? = some st) (h1 : ts[1]? = some xt) (hu : P.underlying st = some (.slice elem)) (hn : sizeOf? P elem = some size)
    {w : World} {base : Option Addr} {len cap n : Nat} {x : Value} {new old : List Value} {z : Value} (hf : Fed P xt elem size w x n new) (hneed : cap < len + n) (hfit : fits (len + n) (P.bytesOf elem) = true)
    (hz : zeroOf? P elem = some z) (hold : (Builtin.firstCells size len (.slice base len cap)).run P { w with drawn := w.drawn + 1 } = .ok old.toArray { w with drawn := w.drawn + 1 }) :
    ∃ newCap, len + n ≤ newCap ∧
    (Builtin.append_ ts ty #[.slice base len cap, x]).run P w =
      .ok (.slice (some ⟨w.heap.size, 0, none⟩) (len + n) newCap) { w with heap := w.heap.push (.cells (old.toArray ++ new.toArray ++ Builtin.zeroCells z.cells (newCap - (len + n))) elem), drawn := w.drawn + 1 } := by
  obtain ⟨ti, hti, hsi, hby⟩ := bytesOf_info hn
  simp only [fits, Bool.and_eq_true] at hfit
  have f1 := Nat.le_of_ble_eq_true hfit.1
  have f2 := Nat.le_of_ble_eq_true hfit.2
  rw [hby] at f2
  have n1 : ¬ (len + n ≤ cap) := by omega
  have n2 : (((len + n : Nat) : Int) > IntKind.i64.max) = False := by
    have : IntKind.i64.max = 9223372036854775807 := rfl
    rw [this]; simp; omega
  have n3 : (Builtin.nextslicecap (len + n) cap * ti.bytes > 2 ^ 48) = False := by
    have h1 := Nat.mul_le_mul_right ti.bytes (nextslicecap_le hneed)
    have h2 : 2 * (len + n) * ti.bytes ≤ (2 * (len + n) + 512) * ti.bytes := Nat.mul_le_mul_right _ (by omega)
    simp; omega
  have hforced : (Question.appendCap (len + n) cap elem).forced = false := rfl
  refine ⟨grownCap w (len + n) cap elem, by simp [grownCap, Question.cut], ?_⟩
  obtain ⟨rz, pz⟩ := run_zero' hz { w with drawn := w.drawn + 1 }
  cases hf with
  | cells x n new xd hx hni hl hf hf' =>
    simp only [Builtin.append_, h0, h1, List.getElem?_toArray, List.getElem?_cons_zero, List.getElem?_cons_succ, Sem.run_bind, run_underlying hu, run_underlying hx, Result.andThen_ok, run_sizeOf' hn, Sem.run_pure]
    cases xd
    case int k => exact absurd rfl (hni _)
    all_goals
      simp only [Bool.false_eq_true, if_false, hl, Result.andThen_ok, n1, n2, Bool.not_false, if_true, Sem.run_bind, typeInfo, run_program, hti, Sem.run_pure, false_and, n3, run_choose, hforced, run_askRoom, hold, hf', rz]
      rfl
  | zeros k kd n z i hx hn30 hi hb hz' hs =>
    rw [hti] at hi; injection hi with hi; subst hi
    rw [hz] at hz'; injection hz' with hz'; subst hz'
    have wr : IntKind.i64.wrap (Int.ofNat n) = Int.ofNat n := by
      simp only [IntKind.wrap, IntKind.signed, IntKind.bits]
      have : ((Int.ofNat n) % 2 ^ 64) = Int.ofNat n := by simp; omega
      simp [this]
      omega
    have e1 : (Int.ofNat n < 0) = False := by simp
    have e2 : ((Int.ofNat n * (ti.bytes : Int)) > 2 ^ 48) = False := by
      have : (Int.ofNat n * (ti.bytes : Int)) = ((n * ti.bytes : Nat) : Int) := by simp
      rw [this]; simp; omega
    simp only [Builtin.append_, h0, h1, List.getElem?_toArray, List.getElem?_cons_zero, List.getElem?_cons_succ, Sem.run_bind, run_underlying hu, run_underlying hx, Result.andThen_ok, run_sizeOf' hn, Sem.run_pure,
      if_true, asInt, asIntOf, wr, e1, if_false, typeInfo, run_program, hti, e2, show (Int.ofNat n).toNat = n from rfl, n1, n2, n3, Bool.not_true, Bool.false_eq_true, false_and, run_choose, hforced, run_askRoom, hold, rz]
    by_cases hz0 : n * size = 0
    · have : Builtin.zeroCells z.cells n = #[] := by simp [Builtin.zeroCells, hs, hz0]
      simp only [hz0, if_true, this, Sem.run_pure, Sem.run_bind, Result.andThen_ok, rz]
      rfl
    · simp only [hz0, if_false, Sem.run_bind, rz, Result.andThen_ok, Sem.run_pure]
      rfl
end Go.Ev


/- An append, a copy, a clear. -/
namespace Go.Ev
variable {P : Program} {G B : Nat} {φ : Ren} {h : AH} {w : World}

theorem readL_heap (s : Sim G B φ h w) {id off n : Nat} {vs : List Value} (hv : readL h id off n = some vs) {l : Loc} (hl : φ id = some l) :
    ∃ vs' : List Value, VRL φ vs vs' ∧ vs'.length = n ∧ ∀ w' : World, w'.heap = w.heap → (loadCells ⟨l.b, l.s + off, none⟩ n).run P w' = .ok vs'.toArray w' := by
  unfold readL at hv
  split at hv
  · injection hv with hv; subst hv
    exact ⟨[], VRL.nil φ, rfl, fun w' _ => by simp [loadCells, loadCellsFrom]⟩
  · split at hv
    · rename_i cs hcs
      obtain ⟨c, ty, fr, hb, hc⟩ := s.cellsAt hcs hl
      obtain ⟨r1, r2, r3⟩ := hc.read hv
      refine ⟨_, r1, ?_, fun w' hw => run_loadCells_block w' _ _ n c ty fr (by rw [hw]; exact hb) r3⟩
      rw [← r1.1, r2]
    · cases hv

theorem strCells_take (s : ByteArray) (n : Nat) : ((s.extract 0 n).data.map fun b => Value.int .u8 (b.toNat : Int)).toList = (s.data.toList.map fun b => Value.int .u8 (.ofNat b.toNat)).take n := by
  rw [bsub_eq]
  simp [bsub]

/-- The cells of what is appended or copied. -/
theorem firstCells_ok (s : Sim G B φ h w) {size n : Nat} {x x' : Value} {new : List Value} (hx : VR φ x x') (hn : ∀ m, lenOf x = some m → n ≤ m) (hf : firstCells h size n x = some new) :
    ∃ new' : List Value, VRL φ new new' ∧ new.length = n * size ∧ ∀ w' : World, w'.heap = w.heap → (Builtin.firstCells size n x').run P w' = .ok new'.toArray w' := by
  unfold firstCells at hf
  split at hf
  · rename_i id off len cap
    have hn := hn len rfl
    have zero : n = 0 → ∀ a, ∃ new' : List Value, VRL φ new new' ∧ new.length = n * size ∧ ∀ w' : World, w'.heap = w.heap → (loadCells a (n * size)).run P w' = .ok new'.toArray w' := by
      intro h0 a
      subst h0
      rw [Nat.zero_mul] at hf
      simp only [readL, Option.some.injEq] at hf
      subst hf
      exact ⟨[], VRL.nil φ, by simp, fun w' _ => by simp [loadCells, loadCellsFrom]⟩
    cases hx with
    | slExact _ _ _ _ l hl hc hle =>
      obtain ⟨vs', r1, r2, r3⟩ := readL_heap (P := P) s hf hl
      exact ⟨vs', r1, by rw [r1.1, r2], r3⟩
    | slUnk _ _ _ _ l hl hle hz hxx =>
      obtain ⟨vs', r1, r2, r3⟩ := readL_heap (P := P) s hf hl
      exact ⟨vs', r1, by rw [r1.1, r2], r3⟩
    | slEnd _ _ l b o hl hxx => exact zero (by omega) _
    | slZero _ _ b o => exact zero (by omega) _
  · rename_i len cap
    have hn := hn len rfl
    injection hf with hf; subst hf
    cases hx
    obtain rfl : n = 0 := by omega
    exact ⟨[], VRL.nil φ, by simp, fun w' _ => by simp [Builtin.firstCells]⟩
  · rename_i str
    split at hf
    · rename_i h1
      have h1 := Nat.eq_of_beq_eq_true h1
      subst h1
      cases hx
      obtain ⟨e, hle, hlen⟩ := takeN_some hf
      refine ⟨new, ?_, by rw [hlen, Nat.mul_one], fun w' _ => ?_⟩
      · rw [e, ← List.map_take]
        exact VRL.of_map fun b _ => .int _ _
      · simp only [Builtin.firstCells, Sem.run_pure]
        congr 1
        apply Array.ext'
        rw [strCells_take, e]
    · cases hf
  · cases hf

theorem add_plain (b off i : Nat) : (⟨b, off, none⟩ : Addr).add i = ⟨b, off + i, none⟩ := by unfold Addr.add; split <;> simp_all

/-- An abstract append's outcome is met. -/
def Acts (P : Program) (G B : Nat) (φ : Ren) (h : AH) (w : World) (m : Sem Value) (v : Value) (h' : AH) : Prop :=
  ∃ φ' rv w', m.run P w = .ok rv w' ∧ VR φ' v rv ∧ Sim G B φ' h' w' ∧ Stp φ h w φ' h' w'

theorem grow_ok (s : Sim G B φ h w) {ts : Array TypeId} {ty st xt elem : TypeId} {k : Nat} (h0 : ts[0]? = some st) (h1 : ts[1]? = some xt) (hu : P.underlying st = some (.slice elem)) (hn : sizeOf? P elem = some (k + 1))
    {base : Option Addr} {len cap n : Nat} {x' : Value} {new old new' old' : List Value} {z : Value} (hf : Fed P xt elem (k + 1) w x' n new') (hneed : cap < len + n) (hfit : fits (len + n) (P.bytesOf elem) = true)
    (hz : zeroOf? P elem = some z) (hzl : (cellsL z).length = k + 1) (hold : ∀ w' : World, w'.heap = w.heap → (Builtin.firstCells (k + 1) len (.slice base len cap)).run P w' = .ok old'.toArray w')
    (ho : VRL φ old old') (hw : VRL φ new new') (hol : old.length = len * (k + 1)) (hnl : new.length = n * (k + 1)) :
    Acts P G B φ h w (Builtin.append_ ts ty #[.slice base len cap, x']) (.slice (some ⟨h.next, 0, none⟩) (len + n) (UNK + (k + 1))) (h.alloc (.cells (old ++ new) (k + 1))).2 := by
  obtain ⟨newCap, hle, hrun⟩ := run_append_out (ty := ty) h0 h1 hu hn hf hneed hfit hz (hold _ rfl)
  have hzs : z.cells.size = k + 1 := by
    obtain ⟨_, pz⟩ := run_zero' hz w
    rw [← hzl, ((plain_self φ pz).cellsL).1]; simp
  have m : Mk w { w with heap := w.heap.push (.cells (old'.toArray ++ new'.toArray ++ Builtin.zeroCells z.cells (newCap - (len + n))) elem), drawn := w.drawn + 1 } _ := ⟨rfl, rfl, rfl, rfl⟩
  let l : Loc := ⟨w.heap.size, 0, newCap * (k + 1), k + 1, (old ++ new).length⟩
  have hfree := s.free (Nat.le_refl h.next)
  have hmul : (len + n) * (k + 1) ≤ newCap * (k + 1) := Nat.mul_le_mul_right _ hle
  have hlen : (old ++ new).length = (len + n) * (k + 1) := by rw [List.length_append, hol, hnl, Nat.add_mul]
  have hsz : (old'.toArray ++ new'.toArray ++ Builtin.zeroCells z.cells (newCap - (len + n))).size = newCap * (k + 1) := by
    have h1 := ho.1
    have h2 := hw.1
    simp only [Array.size_append, List.size_toArray, Builtin.zeroCells, Array.size_map, Array.size_range, hzs]
    rw [← h1, ← h2, hol, hnl, ← Nat.add_mul, ← Nat.add_mul]
    congr 1; omega
  have hob : ObjR (φ.put h.next l) { w with heap := w.heap.push (.cells (old'.toArray ++ new'.toArray ++ Builtin.zeroCells z.cells (newCap - (len + n))) elem), drawn := w.drawn + 1 } l (.cells (old ++ new) (k + 1)) := by
    refine ⟨_, elem, m.at_, rfl, hsz, ?_, rfl, ?_⟩
    · show 0 + (old ++ new).length ≤ newCap * (k + 1)
      omega
    · have hle := Ren.put_le l hfree
      have hon := ho.append hw
      simp only [l, List.drop_zero, Array.toList_append, List.toList_toArray]
      rw [List.take_left' hon.1.symm]
      exact hon.mono hle
  refine ⟨φ.put h.next l, _, _, hrun, ?_, s.add m rfl hfree (Nat.lt_succ_self _) (Nat.le_succ _) hob, (Stp.refl φ h w).add m rfl hfree (Nat.le_refl _) (Nat.le_succ _)⟩
  have := VR.slUnk (φ := φ.put h.next l) h.next 0 (len + n) newCap l (Ren.put_same ..) hle (by simp [l]) (by show 0 + (old ++ new).length ≤ newCap * (k + 1); omega)
  simpa [l] using this

theorem appendCells_ok (s : Sim G B φ h w) {ts : Array TypeId} {ty st xt elem : TypeId} {k : Nat} (h0 : ts[0]? = some st) (h1 : ts[1]? = some xt) (hu : P.underlying st = some (.slice elem)) (hn : sizeOf? P elem = some (k + 1))
    {sv sv' x' v : Value} {n : Nat} {new new' : List Value} {h' : AH} (hs : VR φ sv sv') (hf : Fed P xt elem (k + 1) w x' n new') (hw : VRL φ new new') (hnl : new.length = n * (k + 1))
    (ha : appendCells P h elem (k + 1) sv new n = some (v, h')) : Acts P G B φ h w (Builtin.append_ ts ty #[sv', x']) v h' := by
  have put_in : ∀ {base : Option Addr} {len cap : Nat}, len + n ≤ cap → (Builtin.append_ ts ty #[.slice base len cap, x']).run P w =
      (((match base with | some a => storeCells (a.add (len * (k + 1))) new' | none => pure ()) : Sem Unit).run P w).andThen fun _ w' => .ok (.slice base (len + n) cap) w' := fun hneed => run_append_in h0 h1 hu hn hf hneed
  unfold appendCells at ha
  split at ha
  · rename_i base len cap
    simp only at ha
    split at ha
    · rename_i hcap
      have hcap : cap < UNK := by
        have : ¬ UNK ≤ cap := fun hh => by rw [Nat.ble_eq_true_of_le hh] at hcap; cases hcap
        omega
      split at ha
      · rename_i hneed
        have hneed := Nat.le_of_ble_eq_true hneed
        split at ha
        · rename_i id off
          split at ha
          · rename_i hh hst
            injection ha with ha; injection ha with ha1 ha2; subst ha1; subst ha2
            cases hs with
            | slExact _ _ _ _ l hl hc hle =>
              obtain ⟨w', r1, r2, r3⟩ := storeL_ok (P := P) s hst hl hw
              refine ⟨φ, _, w', ?_, .slExact id off (len + n) cap l hl hc hneed, r2, r3⟩
              rw [put_in hneed]
              simp only [add_plain, Nat.add_assoc, r1, Result.andThen_ok]
            | slUnk _ _ _ _ l hl hle hz hxx => exact absurd hcap (by omega)
            | slEnd _ _ l b o hl hxx => exact absurd hcap (by omega)
            | slZero _ _ b o =>
              obtain rfl : n = 0 := by omega
              obtain rfl : new = [] := List.eq_nil_of_length_eq_zero (by simpa using hnl)
              have := hw.nil_inv
              subst this
              simp only [storeL, Option.some.injEq] at hst
              subst hst
              refine ⟨φ, _, w, ?_, .slZero id off b o, s, .refl ..⟩
              rw [put_in hneed]
              rfl
          · cases ha
        · injection ha with ha; injection ha with ha1 ha2; subst ha1; subst ha2
          cases hs
          obtain rfl : n = 0 := by omega
          refine ⟨φ, _, w, ?_, .slNil, s, .refl ..⟩
          rw [put_in hneed]
          rfl
        · cases ha
      · rename_i hneed
        have hneed : cap < len + n := by
          have : ¬ len + n ≤ cap := fun hh => by rw [Nat.ble_eq_true_of_le hh] at hneed; cases hneed
          omega
        split at ha
        · rename_i old z hok hold hz
          simp only [Bool.and_eq_true] at hok
          split at ha
          · rename_i id hh hzl hal
            injection ha with ha; injection ha with ha1 ha2; subst ha1; subst ha2
            have hzl := Nat.eq_of_beq_eq_true hzl
            obtain ⟨old', o1, o2, o3⟩ := firstCells_ok (P := P) s hs (fun m hm => by simp [lenOf] at hm; omega) hold
            have ids : id = h.next ∧ hh = (h.alloc (.cells (old ++ new) (k + 1))).2 := by rw [hal]; simp only [AH.alloc, Prod.mk.injEq] at hal; exact ⟨hal.1.symm, rfl⟩
            rw [ids.1, ids.2]
            have real : ∃ base' cap', sv' = .slice base' len cap' ∧ cap' < len + n := by
              cases hs with
              | slNil => exact ⟨_, _, rfl, hneed⟩
              | slExact => exact ⟨_, _, rfl, hneed⟩
              | slUnk _ _ _ _ l hl hle hz hxx => exact absurd hcap (by omega)
              | slEnd _ _ l b o hl hxx => exact absurd hcap (by omega)
              | slZero => exact ⟨_, _, rfl, hneed⟩
            obtain ⟨base', cap', rfl, hcap'⟩ := real
            exact grow_ok s h0 h1 hu hn hf hcap' hok.1 hz hzl o3 o1 hw o2 hnl
          · cases ha
        · cases ha
    · rename_i id off hcap
      have hcap := Nat.le_of_ble_eq_true hcap
      split at ha
      · cases ha
      · rename_i hbe
        have hbe := Nat.eq_of_beq_eq_true hbe
        split at ha
        · injection ha with ha; injection ha with ha1 ha2; subst ha1; subst ha2
          obtain rfl : new = [] := List.eq_nil_of_length_eq_zero (by simpa using hnl)
          have := hw.nil_inv
          subst this
          have hs0 := hs
          have real : ∃ base' cap', sv' = .slice (some base') len cap' ∧ len + 0 ≤ cap' := by
            cases hs with
            | slExact _ _ _ _ l hl hc hle => exact absurd hc (by omega)
            | slUnk _ _ _ _ l hl hle hz hxx => exact ⟨_, _, rfl, hle⟩
            | slEnd _ _ l b o hl hxx => exact ⟨_, _, rfl, by omega⟩
            | slZero => exact ⟨_, _, rfl, by omega⟩
          obtain ⟨base', cap', rfl, hle⟩ := real
          refine ⟨φ, _, w, ?_, hs0, s, .refl ..⟩
          rw [put_in hle]
          rfl
        · rename_i hn0
          split at ha
          · rename_i cs e ho hone
            split at ha
            · cases ha
            · rename_i hes
              have hes := Nat.eq_of_beq_eq_true hes
              subst hes
              have hn1 : 1 ≤ n := Nat.pos_of_ne_zero hn0
              have hnk : 1 ≤ n * (k + 1) := Nat.mul_pos hn1 (Nat.succ_pos k)
              split at ha
              · rename_i cs' hwr
                injection ha with ha; injection ha with ha1 ha2; subst ha1; subst ha2
                have hfit := (writeAt_some hwr).2
                have hst : storeL h id (off + len * (k + 1)) new = some (h.put id (some (.cells cs' (k + 1)))) := by
                  unfold storeL
                  split
                  · simp at hnl; omega
                  · rw [hone, ho]; simp only [hwr]
                obtain ⟨l, hl, c, t, hb, he, hc⟩ := s.obj _ _ ho
                have hxl : cs.length = l.x := hc.2.2.1
                cases hs with
                | slExact _ _ _ _ l hl hc hle => exact absurd hc (by omega)
                | slUnk _ _ _ cap' l2 hl2 hle hz hxx =>
                  rw [hl] at hl2; injection hl2 with hl2; subst hl2
                  have hz0 := hz
                  rw [he] at hz
                  have hneed : len + n ≤ cap' := by
                    have h3 : (len + n) * (k + 1) ≤ cap' * (k + 1) := by rw [Nat.add_mul]; omega
                    exact Nat.le_of_mul_le_mul_right h3 (Nat.succ_pos k)
                  obtain ⟨w', r1, r2, r3⟩ := storeL_ok (P := P) s hst hl hw
                  refine ⟨φ, .slice (some ⟨l.b, l.s + off, none⟩) (len + n) cap', w', ?_, ?_, r2, r3⟩
                  · rw [put_in hneed]
                    simp only [add_plain, Nat.add_assoc, r1, Result.andThen_ok]
                  · exact .slUnk id off (len + n) cap' l hl hneed hz0 hxx
                | slEnd _ _ l2 b o hl2 hxx =>
                  rw [hl] at hl2; injection hl2 with hl2; subst hl2
                  omega
                | slZero => omega
              · rename_i hwr
                have hbig := writeAt_none hwr
                split at ha
                · rename_i old z hok hold hz
                  split at ha
                  · rename_i id' hh hzl hal
                    injection ha with ha; injection ha with ha1 ha2; subst ha1; subst ha2
                    have hzl := Nat.eq_of_beq_eq_true hzl
                    have ids : id' = h.next ∧ hh = (h.alloc (.cells (old ++ new) (k + 1))).2 := by rw [hal]; simp only [AH.alloc, Prod.mk.injEq] at hal; exact ⟨hal.1.symm, rfl⟩
                    rw [ids.1, ids.2]
                    obtain ⟨l, hl, c, t, hb, he, hc⟩ := s.obj _ _ ho
                    have hrd := hc.read hold
                    have grown : ∀ (base' : Option Addr) (cap' : Nat), cap' < len + n → (∃ old' : List Value, VRL φ old old' ∧ ∀ w' : World, w'.heap = w.heap → (Builtin.firstCells (k + 1) len (.slice base' len cap')).run P w' = .ok old'.toArray w') →
                        Acts P G B φ h w (Builtin.append_ ts ty #[.slice base' len cap', x']) (.slice (some ⟨h.next, 0, none⟩) (len + n) (UNK + (k + 1))) ((h.alloc (.cells (old ++ new) (k + 1))).2.put id none) := by
                      rintro base' cap' hlt ⟨old', o1, o3⟩
                      obtain ⟨φ', rv, w', r1, r2, r3, r4⟩ := grow_ok (ty := ty) s h0 h1 hu hn hf hlt hok hz hzl o3 o1 hw hrd.2.1 hnl
                      have hsub : ∀ j o, ((h.alloc (.cells (old ++ new) (k + 1))).2.put id none).objs.get j = some o → (h.alloc (.cells (old ++ new) (k + 1))).2.objs.get j = some o := by
                        intro j o hj
                        simp only [AH.put] at hj
                        rw [T.get_set] at hj
                        split at hj
                        · cases hj
                        · exact hj
                      exact ⟨φ', rv, w', r1, r2, r3.sub (Nat.le_refl _) hsub, r4.sub (Nat.le_refl _) hsub⟩
                    cases hs with
                    | slExact _ _ _ _ l hl hc hle => exact absurd hc (by omega)
                    | slUnk _ _ _ cap' l2 hl2 hle hz2 hxx =>
                      rw [hl] at hl2; injection hl2 with hl2; subst hl2
                      rw [he] at hz2
                      by_cases hneed : len + n ≤ cap'
                      · -- in place
                        have hsz : c.size = l.z := hc.1
                        have hmul : (len + n) * (k + 1) ≤ cap' * (k + 1) := Nat.mul_le_mul_right _ hneed
                        rw [Nat.add_mul] at hmul
                        have hnl' : new'.length = n * (k + 1) := by rw [← hw.1, hnl]
                        have hfit : l.s + off + len * (k + 1) + new'.length ≤ c.size := by omega
                        have hstore := run_storeCells_at P l.b (l.s + off + len * (k + 1)) t new' 0 c w hb (by simpa using hfit) (all_one hw hone)
                        simp only [Nat.add_zero] at hstore
                        let l' : Loc := ⟨l.b, l.s + off, l.z, k + 1, (old ++ new).length⟩
                        have hone' := One.setRow w l.b (c.toList.take (l.s + off + len * (k + 1)) ++ new' ++ c.toList.drop (l.s + off + len * (k + 1) + new'.length)).toArray
                        have hfree := s.free (Nat.le_refl h.next)
                        have hle' := Ren.put_le l' hfree
                        have hlen : (old ++ new).length = (len + n) * (k + 1) := by rw [List.length_append, hrd.2.1, hnl, Nat.add_mul]
                        have hob : ObjR (φ.put h.next l') (w.setRow l.b (c.toList.take (l.s + off + len * (k + 1)) ++ new' ++ c.toList.drop (l.s + off + len * (k + 1) + new'.length)).toArray) l' (.cells (old ++ new) (k + 1)) := by
                          refine ⟨_, t, setRow_heap _ _ _ _ _ _ hb, rfl, ?_, ?_, rfl, ?_⟩
                          · show _ = l.z
                            simp only [List.size_toArray, List.length_append, List.length_take, List.length_drop, Array.length_toList]
                            omega
                          · show l.s + off + (old ++ new).length ≤ l.z
                            rw [hlen, Nat.add_mul]; omega
                          · refine VRL.mono hle' ?_
                            have e : ((c.toList.take (l.s + off + len * (k + 1)) ++ new' ++ c.toList.drop (l.s + off + len * (k + 1) + new'.length)).toArray.toList.drop l'.s).take (old ++ new).length =
                                (c.toList.drop (l.s + off)).take (len * (k + 1)) ++ new' := by
                              apply List.ext_getElem?
                              intro i
                              rw [List.getElem?_take, List.getElem?_drop, List.toList_toArray, list_write_get _ _ _ _ (by simpa using hfit), hlen, Nat.add_mul]
                              have ht : ((c.toList.drop (l.s + off)).take (len * (k + 1))).length = len * (k + 1) := by
                                simp only [List.length_take, List.length_drop, Array.length_toList]; omega
                              by_cases hi : i < len * (k + 1)
                              · rw [List.getElem?_append_left (by omega), List.getElem?_take, if_pos hi, List.getElem?_drop, if_pos (by omega), if_neg (by show ¬ (_ ≤ l.s + off + i ∧ _); omega)]
                              · rw [List.getElem?_append_right (by omega), ht]
                                by_cases hi2 : i < len * (k + 1) + n * (k + 1)
                                · rw [if_pos hi2, if_pos (by show _ ≤ l.s + off + i ∧ l.s + off + i < _; omega)]
                                  congr 1
                                  show l.s + off + i - _ = _
                                  omega
                                · rw [if_neg hi2, List.getElem?_eq_none (by omega)]
                            rw [e]
                            exact hrd.1.append hw
                        refine ⟨φ.put h.next l', .slice (some ⟨l.b, l.s + off, none⟩) (len + n) cap', _, ?_, ?_, s.move ho rfl rfl hl hone' rfl hfree (Nat.lt_succ_self _) (Nat.le_succ _) hob, (Stp.refl φ h w).move ho rfl rfl hl hone' rfl hfree (Nat.le_refl _) (Nat.le_succ _)⟩
                        · rw [put_in hneed]
                          simp only [add_plain]
                          rw [hstore]
                          rfl
                        · have := VR.slUnk (φ := φ.put h.next l') h.next 0 (len + n) cap' l' (Ren.put_same ..) hneed (by simpa [l'] using hz2) (by show l.s + off + (old ++ new).length ≤ l.z; rw [hlen, Nat.add_mul]; omega)
                          simpa [l'] using this
                      · refine grown _ _ (by omega) ?_
                        have hrl : readL h id off (len * (k + 1)) = some old := by
                          unfold readL
                          split
                          · rename_i h00; rw [h00] at hold; simp only [takeN, Option.some.injEq] at hold; rw [← hold]
                          · simp only [AH.cellsAt, ho]; exact hold
                        obtain ⟨old', o1, _, o3⟩ := readL_heap (P := P) s hrl hl
                        exact ⟨old', o1, o3⟩
                    | slEnd _ _ l2 b o hl2 hxx =>
                      refine grown _ _ (by omega) ?_
                      simp only [Nat.zero_mul, takeN, Option.some.injEq] at hold
                      subst hold
                      exact ⟨[], VRL.nil φ, fun w' _ => by simp [Builtin.firstCells, loadCells, loadCellsFrom]⟩
                    | slZero => omega
                  · cases ha
                · cases ha
          · cases ha
    · cases ha
  · cases ha
end Go.Ev


/- What acts, all but calls of functions. -/
namespace Go.Ev
variable {P : Program} {G B : Nat} {φ : Ren} {h : AH} {w : World}

theorem lenOf_ok {x x' : Value} {n : Nat} (hx : VR φ x x') (hl : lenOf x = some n) (w : World) : (Builtin.lenOf x').run P w = .ok n w := by
  cases hx <;> simp only [lenOf, Option.some.injEq, reduceCtorEq] at hl <;> subst hl <;> rfl

theorem append_ok (s : Sim G B φ h w) {ts : Array TypeId} (ty : TypeId) {sv x sv' x' v : Value} {h' : AH} (hs : VR φ sv sv') (hx : VR φ x x') (ha : append P h ts sv x = some (v, h')) :
    Acts P G B φ h w (Builtin.append_ ts ty #[sv', x']) v h' := by
  unfold append at ha
  split at ha
  · rename_i st xt h0 h1
    split at ha
    · rename_i elem xd hu hxu
      split at ha
      · rename_i k hn
        split at ha
        · rename_i kd ki n
          split at ha
          · rename_i z hz
            split at ha
            · rename_i c1 c2 c3
              have c1 := Nat.le_of_ble_eq_true c1
              have c2 := Nat.eq_of_beq_eq_true c2
              have c3 := Nat.le_of_ble_eq_true c3
              obtain ⟨ti, hti, hsi, hby⟩ := bytesOf_info hn
              rw [hby] at c3
              obtain ⟨_, pz⟩ := run_zero' hz w
              have hzs : z.cells.size = k + 1 := by rw [← c2, ((plain_self φ pz).cellsL).1]; simp
              have hzl : cellsL z = z.cells.toList := by cases z <;> rfl
              have hcop : (Builtin.zeroCells z.cells n).toList = copies (cellsL z) n := by
                rw [Builtin.zeroCells, Array.toList_map, Array.toList_range, hzl, ← copies_range]
              cases hx
              refine appendCells_ok s h0 h1 hu hn hs (.zeros ki kd n z ti hxu c1 hti c3 hz hzs) ?_ ?_ ha
              · rw [hcop]; exact copies_self (by have := (plain_self φ pz).cellsL; rw [hzl] at this ⊢; exact this) n
              · rw [copies_length, c2]
            · cases ha
          · cases ha
        · cases ha
        · rename_i hni _
          split at ha
          · rename_i n hl
            split at ha
            · rename_i new hf
              obtain ⟨new', o1, o2, o3⟩ := firstCells_ok (P := P) s hx (fun m hm => by rw [hl] at hm; injection hm with hm; omega) hf
              refine appendCells_ok s h0 h1 hu hn hs (.cells x' n new' xd hxu ?_ (fun w => lenOf_ok hx hl w) (o3 _ rfl) (o3 _ rfl)) o1 o2 ha
              intro kk hk
              subst hk
              first
                | exact hni _ rfl
                | (rename_i h2 h3; exact h2 _ rfl)
                | (rename_i h2; exact h2 _ _ rfl rfl)
            · cases ha
          · cases ha
      · cases ha
    · cases ha
  · cases ha

theorem copy_ok (s : Sim G B φ h w) {ts : Array TypeId} (ty : TypeId) {d x d' x' v : Value} {h' : AH} (hd : VR φ d d') (hx : VR φ x x') (ha : copy P h ts d x = some (v, h')) :
    Acts P G B φ h w (Builtin.copy_ ts ty #[d', x']) v h' := by
  unfold copy at ha
  split at ha
  · rename_i dt h0
    split at ha
    · rename_i elem base len cap m hu hl
      split at ha
      · rename_i size hn
        simp only at ha
        split at ha
        · rename_i new hf
          have hmin : ∀ q, lenOf x = some q → Nat.min m len ≤ q := fun q hq => by rw [hl] at hq; injection hq with hq; rw [← hq]; exact Nat.min_le_left _ _
          obtain ⟨new', o1, o2, o3⟩ := firstCells_ok (P := P) s hx hmin hf
          have body : ∀ (base' : Option Addr) (cap' : Nat), (Builtin.copy_ ts ty #[.slice base' len cap', x']).run P w =
              (((match base' with | some a => storeCells a new' | none => pure ()) : Sem Unit).run P w).andThen fun _ w' => .ok (goInt (Nat.min m len)) w' := by
            intro base' cap'
            simp only [Builtin.copy_, h0, List.getElem?_toArray, List.getElem?_cons_zero, List.getElem?_cons_succ, Sem.run_bind, run_underlying hu, Result.andThen_ok, lenOf_ok hx hl, run_sizeOf' hn, o3 w rfl]
            cases base' <;> simp only [Sem.run_bind, Sem.run_pure, Result.andThen_ok]
          split at ha
          · rename_i id off
            split at ha
            · rename_i hh hst
              injection ha with ha; injection ha with ha1 ha2; subst ha1; subst ha2
              have zero : len = 0 → ∀ a : Addr, ∃ w', (storeCells a new').run P w = .ok () w' ∧ Sim G B φ hh w' ∧ Stp φ h w φ hh w' := by
                intro hl0 a
                subst hl0
                have e0 : Nat.min m 0 = 0 := Nat.min_zero m
                rw [e0, Nat.zero_mul] at o2
                obtain rfl : new = [] := List.eq_nil_of_length_eq_zero o2
                have := o1.nil_inv
                subst this
                simp only [storeL, Option.some.injEq] at hst
                subst hst
                exact ⟨w, rfl, s, .refl ..⟩
              have real : ∃ a cap', d' = .slice (some a) len cap' ∧ ∃ w', (storeCells a new').run P w = .ok () w' ∧ Sim G B φ hh w' ∧ Stp φ h w φ hh w' := by
                cases hd with
                | slExact _ _ _ _ l hl' hc hle => exact ⟨_, _, rfl, storeL_ok s hst hl' o1⟩
                | slUnk _ _ _ _ l hl' hle hz hxx => exact ⟨_, _, rfl, storeL_ok s hst hl' o1⟩
                | slEnd _ _ l b o hl' hxx => exact ⟨_, _, rfl, zero rfl _⟩
                | slZero _ _ b o => exact ⟨_, _, rfl, zero rfl _⟩
              obtain ⟨a, cap', rfl, w', r1, r2, r3⟩ := real
              refine ⟨φ, _, w', ?_, .int .i64 (.ofNat (Nat.min m len)), r2, r3⟩
              rw [body]
              simp only [r1, Result.andThen_ok]
              rfl
            · cases ha
          · injection ha with ha; injection ha with ha1 ha2; subst ha1; subst ha2
            cases hd
            refine ⟨φ, _, w, ?_, .int .i64 (.ofNat (Nat.min m 0)), s, .refl ..⟩
            rw [body]
            rfl
          · cases ha
        · cases ha
      · cases ha
    · cases ha
  · cases ha

/-- A block made by a range, a string's. -/
theorem range_ok (s : Sim G B φ h w) {t : TypeId} {str : ByteArray} (hu : P.underlying t = some .string) :
    Acts P G B φ h w (Instr.range t (.string str)) (.pointer (some ⟨h.next, 0, none⟩)) (h.alloc (.siter str 0)).2 := by
  have m : Mk w { w with heap := w.heap.push (.stringIter str 0) } (.stringIter str 0) := ⟨rfl, rfl, rfl, rfl⟩
  have hfree := s.free (Nat.le_refl h.next)
  refine ⟨φ.put h.next ⟨w.heap.size, 0, 0, 0, 0⟩, .pointer (some ⟨w.heap.size, 0, none⟩), _, ?_, ?_, s.add m rfl hfree (Nat.lt_succ_self _) (Nat.le_succ _) ⟨m.at_, rfl⟩, (Stp.refl φ h w).add m rfl hfree (Nat.le_refl _) (Nat.le_succ _)⟩
  · simp [Instr.range, run_underlying hu]
  · simpa using VR.ptr (φ := φ.put h.next ⟨w.heap.size, 0, 0, 0, 0⟩) h.next 0 ⟨w.heap.size, 0, 0, 0, 0⟩ (Ren.put_same ..)

theorem run_setObj_siter {r : Nat} {s : ByteArray} {p : Nat} (o : Obj) (hb : w.heap[r]? = some (.stringIter s p)) : (setObj r o).run P w = .ok () { w with heap := w.heap.setIfInBounds r o } := by
  simp [setObj, Sem.run, hb]

theorem next_ok (s : Sim G B φ h w) {id p : Nat} {str : ByteArray} {it' : Value} {ty : TypeId} (hit : VR φ (.pointer (some ⟨id, 0, none⟩)) it') (ho : h.objs.get id = some (.siter str p)) :
    Acts P G B φ h w (Instr.next it' true ty)
      (match Nat.blt p str.size with
        | true => .tuple #[.bool true, .int .i64 (.ofNat p), .int .i32 (.ofNat (Utf8.decode str p).1)]
        | false => .tuple #[.bool false])
      (match Nat.blt p str.size with
        | true => h.put id (some (.siter str (p + (Utf8.decode str p).2)))
        | false => h) := by
  cases hit with
  | ptr _ _ l hl =>
  obtain ⟨l', hl', hb, hl0⟩ := s.obj _ _ ho
  rw [hl] at hl'; injection hl' with hl'; subst hl'
  have hb : w.heap[l.b]? = some (.stringIter str p) := hb
  have hg : (getObj l.b).run P w = .ok (.stringIter str p) w := by simp [getObj, Sem.run, hb]
  have hbs : l.b < w.heap.size := (Array.getElem?_eq_some_iff.1 hb).1
  by_cases hp : p < str.size
  · have hp' : Nat.blt p str.size = true := by simpa [Nat.blt] using Nat.ble_eq_true_of_le hp
    rw [hp']
    simp only
    have hone := One.setObj w l.b (.stringIter str (p + (Utf8.decode str p).2))
    refine ⟨φ, .tuple #[.bool true, goInt p, .int .i32 (Utf8.decode str p).1], { w with heap := w.heap.setIfInBounds l.b (.stringIter str (p + (Utf8.decode str p).2)) }, ?_, ?_, s.put ho rfl rfl hl hone ?_, (Stp.refl φ h w).put ho rfl rfl hl hone⟩
    · rw [hl0]
      simp only [Instr.next, Sem.run_bind, hg, Result.andThen_ok, hp, if_true, run_setObj_siter _ hb, Sem.run_pure, Nat.add_zero]
    · exact .tuple _ _ rfl (VRL.cons (.bool true) (VRL.cons (.int .i64 (.ofNat p)) (VRL.cons (.int .i32 (.ofNat (Utf8.decode str p).1)) (VRL.nil φ)))).2
    · exact ⟨by simp [hbs], hl0⟩
  · have hp' : Nat.blt p str.size = false := by
      cases hq : Nat.blt p str.size with
      | false => rfl
      | true => exact absurd (Nat.le_of_ble_eq_true hq) (by omega)
    rw [hp']
    simp only
    refine ⟨φ, .tuple #[.bool false], w, ?_, ?_, s, .refl ..⟩
    · rw [hl0]
      simp only [Instr.next, Sem.run_bind, hg, Result.andThen_ok, hp, if_false, Sem.run_pure, Nat.add_zero]
    · exact .tuple _ _ rfl (by simpa using (VRL.cons (.bool false) (VRL.nil φ)).2)
end Go.Ev


/- An operation, whatever it does. -/
namespace Go.Ev
variable {P : Program} {G B : Nat} {φ : Ren} {h : AH} {w : World}

def Ends (R : Value → World → Prop) : Ending → World → Prop
  | .returned v, w => R v w
  | _, _ => False

/-- A call of a function lands: at once, or after its run. -/
def Lands (P : Program) (f : FuncId) (args : Array Value) (w : World) (R : Value → World → Prop) : Prop :=
  (∃ rv w', (callFunc f args).run P w = .ok (.value rv) w' ∧ R rv w') ∨ ((callFunc f args).run P w = .ok (.enter f args) w ∧ Calls P f args w (Ends R))

def OpOk (P : Program) (ρ' : Operand → Value) (o : Oper) (w : World) (R : Value → World → Prop) : Prop :=
  (∃ rv w', (execOp ρ' o).run P w = .ok (.value rv) w' ∧ R rv w') ∨ (∃ w', (execOp ρ' o).run P w = .ok .skip w' ∧ R undef w') ∨
    ∃ f args, (execOp ρ' o).run P w = .ok (.enter f args) w ∧ Calls P f args w (Ends R)

theorem OpOk.mono {ρ' : Operand → Value} {o : Oper} {w : World} {R R' : Value → World → Prop} (h : OpOk P ρ' o w R) (hr : ∀ v w, R v w → R' v w) : OpOk P ρ' o w R' := by
  rcases h with ⟨rv, w', a, b⟩ | ⟨w', a, b⟩ | ⟨f, args, a, b⟩
  · exact .inl ⟨rv, w', a, hr _ _ b⟩
  · exact .inr (.inl ⟨w', a, hr _ _ b⟩)
  · refine .inr (.inr ⟨f, args, a, Calls.mono b fun e w' he => ?_⟩)
    cases e <;> first | exact hr _ _ he | exact he

theorem OpOk.wp {a : Act} {o : Oper} {w : World} {R : Value → World → Prop} {K : Act → World → Prop} {Q : Exit → Act → World → Prop} (h : OpOk P a.eval o w R)
    (hk : ∀ v w', R v w' → K (a.put o.dst v) w') : o.wp P a w K Q := by
  unfold Oper.wp
  rcases h with ⟨rv, w', e, b⟩ | ⟨w', e, b⟩ | ⟨f, args, e, b⟩
  · rw [e]; exact hk _ _ b
  · rw [e]; exact hk _ _ b
  · rw [e, Oper.upon_enter]
    refine Calls.mono b fun e w' he => ?_
    cases e <;> first | exact hk _ _ he | exact he.elim

/-- What a call or an operation that acts leaves. -/
def Out (G B : Nat) (φ : Ren) (h : AH) (w : World) (v : Value) (h' : AH) (rv : Value) (w' : World) : Prop :=
  ∃ φ', VR φ' v rv ∧ Sim G B φ' h' w' ∧ Stp φ h w φ' h' w'

def FnsOk (P : Program) (G : Nat) (fn : CallH) : Prop :=
  ∀ (f : FuncId) (args args' : List Value) (h h' : AH) (v : Value) (B : Nat) (φ : Ren) (w : World), Sim G B φ h w → VRL φ args args' → fn f args h = some (v, h') →
    Lands P f args'.toArray w (Out G B φ h w v h')

theorem Acts.op {ρ' : Operand → Value} {o : Oper} {m : Sem Value} {v : Value} {h' : AH} (ha : Acts P G B φ h w m v h') (he : ∀ rv w', m.run P w = .ok rv w' → (execOp ρ' o).run P w = .ok (.value rv) w') :
    OpOk P ρ' o w (Out G B φ h w v h') := by
  obtain ⟨φ', rv, w', a, b⟩ := ha
  exact .inl ⟨rv, w', he _ _ a, φ', b⟩

theorem undef_self (φ : Ren) : VR φ undefV undef := .tuple _ _ rfl (VRL.nil φ).2

theorem actOp_ok {fn : CallH} (hfn : FnsOk P G fn) (s : Sim G B φ h w) {ρ ρ' : Operand → Value} {o : Oper} {v : Value} {h' : AH} (hr : OpdR φ ρ ρ' o) (ha : actOp P fn ρ o h = some (v, h')) :
    OpOk P ρ' o w (Out G B φ h w v h') := by
  obtain ⟨dst, op, type, pos, after, guard⟩ := o
  simp only [OpdR, Op.operands] at hr
  unfold actOp at ha
  simp only at ha
  cases op with
  | store t a x =>
    simp only at ha
    split at ha
    · rename_i id off n hp hn
      split at ha
      · rename_i hlen
        split at ha
        · rename_i hh hst
          injection ha with ha; injection ha with ha1 ha2; subst ha1; subst ha2
          have h1 := hr a (by simp)
          rw [hp] at h1
          obtain ⟨w', r1, r2, r3⟩ := storeAt_ok (P := P) s h1 (hr x (by simp)) hn (Nat.eq_of_beq_eq_true hlen) hst
          refine .inr (.inl ⟨w', ?_, φ, undef_self φ, r2, r3⟩)
          simp only [execOp, Sem.run_bind, r1, Result.andThen_ok, Sem.run_pure]
        · cases ha
      · cases ha
    · cases ha
  | mapUpdate t m k x =>
    simp only at ha
    split at ha
    · rename_i hh hu
      injection ha with ha; injection ha with ha1 ha2; subst ha1; subst ha2
      obtain ⟨hpk, w', r1, r2, r3⟩ := mapUpdate_ok (P := P) s (hr m (by simp)) (hr x (by simp)) hu
      have hk := plain_eq hpk (hr k (by simp))
      refine .inr (.inl ⟨w', ?_, φ, undef_self φ, r2, r3⟩)
      simp only [execOp, Sem.run_bind, hk, r1, Result.andThen_ok, Sem.run_pure]
    · cases ha
  | insert t m k x =>
    simp only at ha
    split at ha
    · rename_i hh hu
      injection ha with ha; injection ha with ha1 ha2; subst ha1; subst ha2
      obtain ⟨hpk, w', r1, r2, r3⟩ := mapUpdate_ok (P := P) s (hr m (by simp)) (hr x (by simp)) hu
      have hk := plain_eq hpk (hr k (by simp))
      refine .inr (.inl ⟨w', ?_, φ, undef_self φ, r2, r3⟩)
      simp only [execOp, Sem.run_bind, hk, r1, Result.andThen_ok, Sem.run_pure]
    · cases ha
  | range t x =>
    simp only at ha
    split at ha
    · rename_i str hu hx
      have h1 := hr x (by simp)
      rw [hx] at h1
      simp only [AH.alloc, Option.some.injEq, Prod.mk.injEq] at ha
      obtain ⟨ha1, ha2⟩ := ha
      subst ha1; subst ha2
      generalize hy : ρ' x = y at h1
      cases h1
      refine (range_ok (P := P) s (str := str) hu).op fun rv w' e => ?_
      simp only [execOp, Sem.run_bind, hy, e, Result.andThen_ok, Sem.run_pure]
    · cases ha
  | next it st =>
    simp only at ha
    split at ha
    · rename_i id hit
      split at ha
      · rename_i str p ho
        have h1 := hr it (by simp)
        rw [hit] at h1
        have hn := next_ok (P := P) (ty := type) s h1 ho
        split at ha
        · rename_i hb
          simp only [hb] at hn
          injection ha with ha; injection ha with ha1 ha2; subst ha1; subst ha2
          refine hn.op fun rv w' e => ?_
          simp only [execOp, Sem.run_bind, e, Result.andThen_ok, Sem.run_pure]
        · rename_i hb
          simp only [hb] at hn
          injection ha with ha; injection ha with ha1 ha2; subst ha1; subst ha2
          refine hn.op fun rv w' e => ?_
          simp only [execOp, Sem.run_bind, e, Result.andThen_ok, Sem.run_pure]
      · cases ha
    · cases ha
  | call c =>
    obtain ⟨callee, args, argTypes⟩ := c
    have hargs : ∀ x ∈ args.toList, VR φ (ρ x) (ρ' x) := fun x hx => hr x (by simp [Call.operands]; exact .inr (by simpa using hx))
    cases callee with
    | invoke r m => cases ha
    | value f =>
      simp only at ha
      have hf := hr f (by simp [Call.operands])
      unfold callFn at ha
      split at ha
      · rename_i g first captured hfv
        rw [hfv] at hf
        generalize hy : ρ' f = y at hf
        cases hf with
        | func _ _ f' _ c' h1 h2 h3 h4 =>
        have hall : VRL φ (first.toList ++ args.toList.map ρ ++ captured.toList) (f'.toList ++ args.toList.map ρ' ++ c'.toList) :=
          (VRL.append ⟨by simpa using h1, h3⟩ (VRL.of_map hargs)).append ⟨by simpa using h2, h4⟩
        have hl := hfn _ _ _ _ _ _ _ _ _ s hall ha
        have hex : (execOp ρ' ⟨dst, .call ⟨.value f, args, argTypes⟩, type, pos, after, guard⟩).run P w = (callFunc g (f'.toList ++ args.toList.map ρ' ++ c'.toList).toArray).run P w := by
          have ea : (f' ++ args.map ρ' ++ c') = (f'.toList ++ args.toList.map ρ' ++ c'.toList).toArray := by
            apply Array.ext'; simp
          simp only [execOp, resolve, hy, Deferred.ofValue, Sem.run_bind, Sem.run_pure, Result.andThen_ok, invoke, ea]
        rcases hl with ⟨rv, w', e, r⟩ | ⟨e, r⟩
        · exact .inl ⟨rv, w', hex.trans e, r⟩
        · exact .inr (.inr ⟨g, _, hex.trans e, r⟩)
      · cases ha
    | builtin b =>
      have hres : ∀ (m : Sem Value) (rv : Value) (w' : World), (builtin b argTypes type (args.map fun | .const _ => true | _ => false) (args.map ρ') = do pure (.value (← m))) → m.run P w = .ok rv w' →
          (execOp ρ' ⟨dst, .call ⟨.builtin b, args, argTypes⟩, type, pos, after, guard⟩).run P w = .ok (.value rv) w' := by
        intro m rv w' hb hm
        simp only [execOp, resolve, Sem.run_bind, Sem.run_pure, Result.andThen_ok, invoke]
        have := congrArg (fun s => Sem.run P s w) hb
        simp only [Sem.run_bind, hm, Result.andThen_ok, Sem.run_pure] at this
        exact this
      have two : ∀ {x y : Operand}, args.toList = [x, y] → args.map ρ' = #[ρ' x, ρ' y] := by
        intro x y e
        apply Array.ext'; simp [e]
      have one : ∀ {x : Operand}, args.toList = [x] → args.map ρ' = #[ρ' x] := by
        intro x e
        apply Array.ext'; simp [e]
      cases b with
      | append =>
        simp only at ha
        split at ha
        · rename_i sx x e
          refine (append_ok (P := P) s type (hargs sx (by simp [e])) (hargs x (by simp [e])) ha).op fun rv w' r => ?_
          exact hres _ rv w' rfl (by rw [two e]; exact r)
        · cases ha
      | copy =>
        simp only at ha
        split at ha
        · rename_i d x e
          refine (copy_ok (P := P) s type (hargs d (by simp [e])) (hargs x (by simp [e])) ha).op fun rv w' r => ?_
          exact hres _ rv w' rfl (by rw [two e]; exact r)
        · cases ha
      | delete =>
        simp only at ha
        split at ha
        · rename_i m k t e ht
          split at ha
          · rename_i hh hu
            injection ha with ha; injection ha with ha1 ha2; subst ha1; subst ha2
            obtain ⟨hpk, w', r1, r2, r3⟩ := mapDelete_ok (P := P) (ty := type) s ht (hargs m (by simp [e])) hu
            have hk := plain_eq hpk (hargs k (by simp [e]))
            refine .inl ⟨undefV, w', hres _ _ w' rfl ?_, φ, undef_self φ, r2, r3⟩
            rw [two e, hk]; exact r1
          · cases ha
        · cases ha
      | clear =>
        simp only at ha
        split at ha
        · rename_i x t e ht
          have hx := hargs x (by simp [e])
          split at ha
          · rename_i el base cap hu hv
            injection ha with ha; injection ha with ha1 ha2; subst ha1; subst ha2
            rw [hv] at hx
            generalize hy : ρ' x = y at hx
            have real : ∃ b' c', y = .slice b' 0 c' := by cases hx <;> exact ⟨_, _, rfl⟩
            obtain ⟨b', c', rfl⟩ := real
            refine .inl ⟨undefV, w, hres _ _ w rfl ?_, φ, undef_self φ, s, .refl ..⟩
            rw [one e, hy]
            cases b' <;> simp only [Builtin.clear_, ht, List.getElem?_toArray, List.getElem?_cons_zero, Sem.run_bind, run_underlying hu, Result.andThen_ok, Sem.run_pure] <;> rfl
          · rename_i el id off n cap hnz hu hv
            split at ha
            · rename_i z hz
              split at ha
              · rename_i hh hst
                injection ha with ha; injection ha with ha1 ha2; subst ha1; subst ha2
                rw [hv] at hx
                generalize hy : ρ' x = y at hx
                obtain ⟨rz, pz⟩ := run_zero' hz w
                have hzl : cellsL z = z.cells.toList := by cases z <;> rfl
                have hcop : (Builtin.zeroCells z.cells n).toList = copies (cellsL z) n := by
                  rw [Builtin.zeroCells, Array.toList_map, Array.toList_range, hzl, ← copies_range]
                have hrel : VRL φ (copies (cellsL z) n) (Builtin.zeroCells z.cells n).toList := by
                  rw [hcop]; exact copies_self (by have := (plain_self φ pz).cellsL; rw [hzl] at this ⊢; exact this) n
                have hn0 : n ≠ 0 := by
                  intro h0; subst h0
                  first | exact hnz rfl | exact hnz hv | trace_state
                have real : ∃ a cap', y = .slice (some a) n cap' ∧ ∃ w', (storeCells a (Builtin.zeroCells z.cells n).toList).run P w = .ok () w' ∧ Sim G B φ hh w' ∧ Stp φ h w φ hh w' := by
                  cases hx with
                  | slExact _ _ _ _ l hl hc hle => exact ⟨_, _, rfl, storeL_ok s hst hl hrel⟩
                  | slUnk _ _ _ _ l hl hle hz hxx => exact ⟨_, _, rfl, storeL_ok s hst hl hrel⟩
                  | slEnd => exact absurd rfl hn0
                  | slZero => exact absurd rfl hn0
                obtain ⟨a, cap', rfl, w', r1, r2, r3⟩ := real
                refine .inl ⟨undefV, w', hres _ _ w' rfl ?_, φ, undef_self φ, r2, r3⟩
                rw [one e, hy]
                cases n with
                | zero => exact absurd rfl hn0
                | succ n =>
                  simp only [Builtin.clear_, ht, List.getElem?_toArray, List.getElem?_cons_zero, Sem.run_bind, run_underlying hu, Result.andThen_ok, Sem.run_pure, rz, r1]
                  rfl
              · cases ha
            · cases ha
          · cases ha
        · cases ha
      | _ => cases ha
  | _ => cases ha

/-- A made object. -/
theorem makeOp_ok (s : Sim G B φ h w) {ρ ρ' : Operand → Value} {o : Oper} {v : Value} {h' : AH} (hr : OpdR φ ρ ρ' o) (ha : makeOp P ρ o h = some (v, h')) :
    OpOk P ρ' o w (Out G B φ h w v h') := by
  unfold makeOp at ha
  split at ha
  · rename_i ob f hm
    injection ha with ha; injection ha with ha1 ha2; subst ha1; subst ha2
    obtain ⟨o', l, rv, w', hrun, m, hb, _, hrel⟩ := mkObj_ok hr hm w
    have hfree := s.free (Nat.le_refl h.next)
    obtain ⟨hv, hobj⟩ := hrel (φ.put h.next l) h.next (Ren.put_le l hfree) (Ren.put_same ..)
    exact .inl ⟨rv, w', hrun, _, hv, s.add m hb hfree (Nat.lt_succ_self _) (Nat.le_succ _) (hobj w' m.at_), (Stp.refl φ h w).add m hb hfree (Nat.le_refl _) (Nat.le_succ _)⟩
  · cases ha

theorem anyOp_ok {fn : CallH} (hfn : FnsOk P G fn) (s : Sim G B φ h w) {ρ ρ' : Operand → Value} {o : Oper} {v : Value} {h' : AH} (hr : OpdR φ ρ ρ' o) (ha : anyOp P fn ρ o h = some (v, h')) :
    OpOk P ρ' o w (Out G B φ h w v h') := by
  unfold anyOp at ha
  split at ha
  · split at ha
    · rename_i v0 hv
      injection ha with ha; injection ha with ha1 ha2; subst ha1; subst ha2
      obtain ⟨v', a, b⟩ := pureOp_ok hr hv w
      exact .inl ⟨v', w, b, φ, a, s, .refl ..⟩
    · cases ha
  · split at ha
    · rename_i v0 hv
      injection ha with ha; injection ha with ha1 ha2; subst ha1; subst ha2
      obtain ⟨v', a, b⟩ := readOp_ok s hr hv
      exact .inl ⟨v', w, b, φ, a, s, .refl ..⟩
    · cases ha
  · exact makeOp_ok s hr ha
  · exact actOp_ok hfn s hr ha
end Go.Ev


/- Registers; a region walked in the text's order. -/
namespace Go.Ev
variable {P : Program} {G B : Nat}

def okOpd (G : Nat) : Operand → Bool
  | .const v => plain v
  | .global g => Nat.blt g G
  | _ => true
def okOps (G : Nat) (ops : List Oper) : Bool := ops.all fun o => o.op.operands.toList.all (okOpd G)

structure RegsR (φ : Ren) (r : T Value) (n : Nat) (a : Act) : Prop where
  size : a.tmps.size = n
  defers : a.defers = []
  get : ∀ t, VR φ (getR r t) (a.tmps.getD t undef)

structure StR (G B : Nat) (φ : Ren) (s : St) (a : Act) (w : World) : Prop where
  regs : RegsR φ s.regs s.n a
  sim : Sim G B φ s.h w

theorem RegsR.mono {φ ψ : Ren} (hle : Ren.le φ ψ) {r : T Value} {n : Nat} {a : Act} (h : RegsR φ r n a) : RegsR ψ r n a :=
  ⟨h.size, h.defers, fun t => (h.get t).mono hle⟩

theorem eval_ok {φ : Ren} {r : T Value} {n : Nat} {a : Act} {h : AH} {w : World} (hr : RegsR φ r n a) (s : Sim G B φ h w) {x : Operand} (hx : okOpd G x = true) : VR φ (eval r x) (a.eval x) := by
  cases x with
  | tmp t => exact hr.get t
  | const v => exact plain_self φ hx
  | global g =>
    obtain ⟨l, hl, hb, hs⟩ := s.glob g (Nat.le_of_ble_eq_true hx)
    have := VR.ptr (φ := φ) g 0 l hl
    rw [hb, hs] at this
    exact this
  | func f => exact .func (.func f) #[] #[] #[] #[] rfl rfl (fun i v v' h => by simp at h) (fun i v v' h => by simp at h)

theorem opd_ok {φ : Ren} {r : T Value} {n : Nat} {a : Act} {h : AH} {w : World} (hr : RegsR φ r n a) (s : Sim G B φ h w) {o : Oper} (ho : o.op.operands.toList.all (okOpd G) = true) :
    OpdR φ (eval r) a.eval o := fun x hx => eval_ok hr s (List.all_eq_true.1 ho x hx)

theorem getR_set (r : T Value) (t u : Nat) (v : Value) : getR (r.set t (some v)) u = if u = t then v else getR r u := by
  unfold getR
  rw [T.get_set]
  by_cases h : u = t
  · rw [if_pos h, if_pos h]
  · rw [if_neg h, if_neg h]

theorem putR_ok {φ : Ren} {r r' : T Value} {n : Nat} {a : Act} {d : Option Tmp} {v rv : Value} (hr : RegsR φ r n a) (hv : VR φ v rv) (hp : putR r n d v = some r') : RegsR φ r' n (a.put d rv) := by
  cases d with
  | none => simp only [putR, Option.some.injEq] at hp; subst hp; exact hr
  | some t =>
    simp only [putR] at hp
    split at hp
    · rename_i hlt
      injection hp with hp; subst hp
      have hlt : t < n := Nat.le_of_ble_eq_true hlt
      refine ⟨by simp [Act.put, hr.size], hr.defers, fun u => ?_⟩
      rw [getR_set]
      by_cases hu : u = t
      · subst hu
        have : u < a.tmps.size := by rw [hr.size]; exact hlt
        simp [Act.put, this]
        exact hv
      · have := hr.get u
        simp only [hu, if_false, Act.put]
        simp only [Array.getD_eq_getD_getElem?] at this ⊢
        rw [Array.getElem?_setIfInBounds_ne (Ne.symm hu)]
        exact this
    · cases hp

theorem VR.bool_iff {φ : Ren} {v v' : Value} (h : VR φ v v') (b : Bool) : v = .bool b ↔ v' = .bool b := by
  cases h <;> simp

theorem wanted_ok {φ : Ren} {r : T Value} {n : Nat} {a : Act} {ops : Array Oper} {o : Oper} {b : Bool} (hr : RegsR φ r n a) (hw : wanted ops.toList r o = some b) :
    Region.wanted o (yielded ops a.tmps) = b := by
  unfold wanted at hw
  unfold Region.wanted
  cases hg : o.guard with
  | none => rw [hg] at hw; injection hw
  | some p =>
    obtain ⟨j, want⟩ := p
    rw [hg] at hw
    simp only at hw ⊢
    have he : ops.toList[j]? = ops[j]? := by simp
    rw [he] at hw
    unfold yielded
    cases ho : ops[j]? with
    | none => rw [ho] at hw; cases hw; rfl
    | some oj =>
      rw [ho] at hw
      simp only at hw
      cases hd : oj.dst with
      | none => rw [hd] at hw; simp only at hw; injection hw with hw; subst hw; simp only [Option.bind_some, hd]; rfl
      | some t =>
        rw [hd] at hw
        simp only at hw
        have hv := hr.get t
        simp only [Option.bind_some, hd]
        have key : ∀ q, getR r t = .bool q ↔ a.tmps[t]? = some (.bool q) := by
          intro q
          rw [hv.bool_iff q]
          simp only [Array.getD_eq_getD_getElem?]
          cases ht : a.tmps[t]? with
          | none => simp [undef]
          | some u => simp
        split at hw
        · rename_i q hq
          injection hw with hw
          rw [(key q).1 hq]
          subst hw
          simp
        · rename_i hnb
          injection hw with hw
          subst hw
          cases ht : a.tmps[t]? with
          | none => rfl
          | some u =>
            cases u <;> try rfl
            rename_i q
            exact absurd ((key q).2 ht) (hnb q)

/-- A region in the text's order. -/
theorem evList_ok {fn : CallH} (hfn : FnsOk P G fn) {ops : Array Oper} (hok : okOps G ops.toList = true) {Q : Exit → Act → World → Prop} {s' : St} : ∀ (m k : Nat) (s : St) (a : Act) (w : World) (φ : Ren),
    k + m = ops.size → evList P fn ops.toList (ops.toList.drop k) s = some s' → StR G B φ s a w →
    (∀ φ' a' w', StR G B φ' s' a' w' → Stp φ s.h w φ' s'.h w' → Q .normal a' w') → wpOps P ops Q (List.range' k m) a w
  | 0, k, s, a, w, φ, hk, he, hs, hq => by
    have : ops.toList.drop k = [] := List.drop_eq_nil_of_le (by simp; omega)
    rw [this] at he
    simp only [evList, Option.some.injEq] at he
    subst he
    exact hq φ a w hs (.refl ..)
  | m + 1, k, s, a, w, φ, hk, he, hs, hq => by
    have hlt : k < ops.size := by omega
    have hd : ops.toList.drop k = ops[k] :: ops.toList.drop (k + 1) := by
      rw [List.drop_eq_getElem_cons (by simpa using hlt)]; simp
    rw [hd] at he
    rw [List.range'_succ, wpOps_cons]
    have hget : ops[k]? = some ops[k] := Array.getElem?_eq_getElem hlt
    unfold wpOp
    simp only [hget]
    have hoko := List.all_eq_true.1 hok ops[k] (by simp)
    simp only [evList] at he
    split at he
    · rename_i hw
      rw [wanted_ok hs.regs hw]
      simp only [if_true]
      split at he
      · rename_i v h' hany
        split at he
        · rename_i r hput
          refine .inl ?_
          refine (anyOp_ok hfn hs.sim (opd_ok hs.regs hs.sim hoko) hany).wp fun rv w' ⟨φ', hv, hsim, hstp⟩ => ?_
          refine evList_ok hfn hok m (k + 1) _ _ w' φ' (by omega) he ⟨putR_ok (hs.regs.mono hstp.le) hv hput, hsim⟩ fun φ'' a' w'' hst hst2 => hq φ'' a' w'' hst (hstp.trans hst2)
        · cases he
      · cases he
    · rename_i hw
      rw [wanted_ok hs.regs hw]
      simp only [Bool.false_eq_true, if_false]
      split at he
      · rename_i r hput
        exact evList_ok hfn hok m (k + 1) _ _ w φ (by omega) he ⟨putR_ok hs.regs (undef_self φ) hput, hs.sim⟩ hq
      · cases he
    · cases he
end Go.Ev


/- Code, functions: what the evaluator says comes to pass. -/
namespace Go.Ev
variable {P : Program} {G B : Nat}

def codeOk (G : Nat) : Code → Bool
  | .region _ ops _ => okOps G ops.toList
  | .seq a b => codeOk G a && codeOk G b
  | .cond c a b => okOpd G c && codeOk G a && codeOk G b
  | .block _ b => codeOk G b
  | .loop b => codeOk G b
  | _ => true

def progOk (P : Program) (G : Nat) : Bool := P.funcs.toList.all fun fn => match fn.body with
  | some c => codeOk G c && !(fn.name == "runtime.NumGoroutine")
  | none => true

def exitOf : Ex → Exit
  | .normal => .normal
  | .exit id => .exit id
  | .ret => .ret

/-- What is to be shown of code; of a loop, from within. -/
def Body (P : Program) (c : Code) (Q : Exit → Act → World → Prop) (a : Act) (w : World) : Prop :=
  match c with
  | .loop b => ∀ (fr : Frame) (k : List Item) (cs : List Frame), ∃ e a' w', Q e a' w' ∧ Arrives P (lone (fr.at a (.code b :: .inLoop b :: k)) cs w) fr k cs e a' w'
  | c => c.wp P Q a w

theorem Body.wp {c : Code} {Q : Exit → Act → World → Prop} {a : Act} {w : World} (h : Body P c Q a w) : c.wp P Q a w := by
  cases c with
  | loop b =>
    intro fr k cs
    obtain ⟨e, a', w', hq, harr⟩ := h fr k cs
    exact ⟨e, a', w', hq, .of_steps (.one step_loop) harr⟩
  | _ => exact h

theorem Body.round {b : Code} {a : Act} {w : World} {Q : Exit → Act → World → Prop} (h : b.wp P (Exit.then (Body P (.loop b) Q) Q) a w) : Body P (.loop b) Q a w := by
  intro fr k cs
  obtain ⟨e, a₁, w₁, hq, harr⟩ := h fr (.inLoop b :: k) cs
  cases e with
  | normal =>
    obtain ⟨e₂, a₂, w₂, hq₂, harr₂⟩ := hq fr k cs
    exact ⟨e₂, a₂, w₂, hq₂, .of_steps (Steps.trans harr (.one step_inLoop)) harr₂⟩
  | exit id => exact ⟨_, a₁, w₁, hq, .pass (x := .inLoop b) rfl (fun _ _ => .inl (by simp)) harr⟩
  | goto l => exact ⟨_, a₁, w₁, hq, .pass (x := .inLoop b) rfl (fun _ _ => .inl (by simp)) harr⟩
  | ret => exact ⟨_, a₁, w₁, hq, .pass (x := .inLoop b) rfl (fun _ _ => .inl (by simp)) harr⟩
  | panic ch => exact ⟨_, a₁, w₁, hq, .pass (x := .inLoop b) rfl (fun _ _ => .inl (by simp)) harr⟩
  | outgrown => exact ⟨_, a₁, w₁, hq, .pass (x := .inLoop b) rfl (fun _ _ => .inl (by simp)) harr⟩

def CodeOk (P : Program) (G : Nat) (code : Code → St → Option (Ex × St)) : Prop :=
  ∀ (c : Code) (s : St) (e : Ex) (s' : St) (B : Nat) (φ : Ren) (a : Act) (w : World) (Q : Exit → Act → World → Prop), codeOk G c = true → code c s = some (e, s') → StR G B φ s a w →
    (∀ φ' a' w', StR G B φ' s' a' w' → Stp φ s.h w φ' s'.h w' → Q (exitOf e) a' w') → Body P c Q a w

/-- A region that draws its order. -/
def DrawnOk (P : Program) (G : Nat) : Prop :=
  ∀ (fn : CallH) (id : Nat) (ops : Array Oper) (s s' : St) (B : Nat) (φ : Ren) (a : Act) (w : World) (Q : Exit → Act → World → Prop), FnsOk P G fn → okOps G ops.toList = true → drawn P fn ops.toList s = some s' → StR G B φ s a w →
    (∀ φ' a' w', StR G B φ' s' a' w' → Stp φ s.h w φ' s'.h w' → Q .normal a' w') → (Code.region id ops true).wp P Q a w


section
variable {ov : FuncId → Option (List Value → AH → Option (Value × AH))} {self : Rec}

theorem code_step (hdr : DrawnOk P G) (hc : CodeOk P G self.code) (hf : FnsOk P G self.fn) : CodeOk P G (step P ov self).code := by
  intro c s e s' B φ a w Q hok h hs hq
  cases c with
  | skip =>
    simp only [step, Option.some.injEq, Prod.mk.injEq] at h
    obtain ⟨rfl, rfl⟩ := h
    exact wp_skip (hq φ a w hs (.refl ..))
  | region id ops dr =>
    cases dr with
    | false =>
      simp only [step] at h
      split at h
      · rename_i s1 he
        injection h with h; injection h with h1 h2; subst h1; subst h2
        refine wp_region ?_
        rw [List.range_eq_range']
        exact evList_ok hf hok ops.size 0 s a w φ (by omega) (by simpa using he) hs hq
      · cases h
    | true =>
      simp only [step] at h
      split at h
      · rename_i s1 he
        injection h with h; injection h with h1 h2; subst h1; subst h2
        exact hdr self.fn id ops s _ B φ a w Q hf hok he hs hq
      · cases h
  | seq x y =>
    simp only [codeOk, Bool.and_eq_true] at hok
    simp only [step] at h
    split at h
    · rename_i s1 h1
      exact wp_seq (hc x s .normal s1 B φ a w _ hok.1 h1 hs fun φ' a' w' hs' ht => (hc y s1 e s' B φ' a' w' Q hok.2 h hs' fun φ'' a'' w'' hs'' ht' => hq φ'' a'' w'' hs'' (ht.trans ht')).wp).wp
    · rename_i hne
      refine wp_seq (hc x s e s' B φ a w _ hok.1 h hs fun φ' a' w' hs' ht => ?_).wp
      have := hq φ' a' w' hs' ht
      cases e with
      | normal => exact absurd h (hne _)
      | exit id => exact this
      | ret => exact this
  | cond x y z =>
    simp only [codeOk, Bool.and_eq_true] at hok
    have hv := eval_ok hs.regs hs.sim hok.1.1
    simp only [step] at h
    split at h
    · rename_i hb
      exact wp_cond_true ((hv.bool_iff true).1 hb) (hc y s e s' B φ a w Q hok.1.2 h hs hq).wp
    · rename_i hb
      exact wp_cond_false ((hv.bool_iff false).1 hb) (hc z s e s' B φ a w Q hok.2 h hs hq).wp
    · cases h
  | block id b =>
    simp only [codeOk] at hok
    simp only [step] at h
    refine wp_block ?_
    split at h
    · rename_i j s1 h1
      split at h
      · rename_i hj
        injection h with h; injection h with h2 h3; subst h2; subst h3
        have hj := Nat.eq_of_beq_eq_true hj
        subst hj
        refine (hc b s _ _ B φ a w _ hok h1 hs fun φ' a' w' hs' ht => ?_).wp
        simp only [exitOf, Exit.inBlock, if_true]
        exact hq φ' a' w' hs' ht
      · rename_i hj
        injection h with h; injection h with h2 h3; subst h2; subst h3
        have hj : ¬ j = id := fun e => by subst e; simp at hj
        refine (hc b s _ _ B φ a w _ hok h1 hs fun φ' a' w' hs' ht => ?_).wp
        simp only [exitOf, Exit.inBlock, hj, if_false]
        exact hq φ' a' w' hs' ht
    · rename_i hne
      refine (hc b s e s' B φ a w _ hok h hs fun φ' a' w' hs' ht => ?_).wp
      have := hq φ' a' w' hs' ht
      cases e with
      | normal => exact this
      | exit j => exact absurd h (hne _ _)
      | ret => exact this
  | loop b =>
    have hokb : codeOk G b = true := hok
    simp only [step] at h
    refine Body.round ?_
    split at h
    · rename_i s1 h1
      exact (hc b s .normal s1 B φ a w _ hokb h1 hs fun φ' a' w' hs' ht => hc (.loop b) s1 e s' B φ' a' w' Q hok h hs' fun φ'' a'' w'' hs'' ht' => hq φ'' a'' w'' hs'' (ht.trans ht')).wp
    · rename_i hne
      refine (hc b s e s' B φ a w _ hokb h hs fun φ' a' w' hs' ht => ?_).wp
      have := hq φ' a' w' hs' ht
      cases e with
      | normal => exact absurd h (hne _)
      | exit id => exact this
      | ret => exact this
  | exit id =>
    simp only [step, Option.some.injEq, Prod.mk.injEq] at h
    obtain ⟨rfl, rfl⟩ := h
    exact wp_exit (hq φ a w hs (.refl ..))
  | ret =>
    simp only [step, Option.some.injEq, Prod.mk.injEq] at h
    obtain ⟨rfl, rfl⟩ := h
    exact wp_ret (hq φ a w hs (.refl ..))
  | label l =>
    simp only [step, Option.some.injEq, Prod.mk.injEq] at h
    obtain ⟨rfl, rfl⟩ := h
    exact wp_label (hq φ a w hs (.refl ..))
  | _ => cases h

/-- An override keeps its word. -/
def OvOk (P : Program) (G : Nat) (ov : FuncId → Option (List Value → AH → Option (Value × AH))) : Prop :=
  ∀ f g, ov f = some g → ∀ (args args' : List Value) (h h' : AH) (v : Value) (B : Nat) (φ : Ren) (w : World), Sim G B φ h w → VRL φ args args' → g args h = some (v, h') →
    Lands P f args'.toArray w (Out G B φ h w v h')

theorem getR_enterR : ∀ (args : List Value) (i : Nat) (r : T Value) (t : Nat), getR (enterR i args r) t = if i ≤ t ∧ t < i + args.length then (args[t - i]?).getD undefV else getR r t
  | [], i, r, t => by
    rw [if_neg (by simp only [List.length_nil]; omega)]; rfl
  | v :: vs, i, r, t => by
    rw [enterR, getR_enterR vs (i + 1), getR_set]
    by_cases h1 : t = i
    · subst h1
      rw [if_neg (by omega), if_pos rfl, if_pos (by simp)]
      simp
    · by_cases h2 : i + 1 ≤ t ∧ t < i + 1 + vs.length
      · rw [if_pos h2, if_pos (by simp only [List.length_cons]; omega), show t - i = (t - (i + 1)) + 1 by omega]
        simp
      · rw [if_neg h2, if_neg h1, if_neg (by simp only [List.length_cons]; omega)]

theorem enter_ok {φ : Ren} {args args' : List Value} {m : Nat} (h : VRL φ args args') :
    RegsR φ (enterR 0 args .nil) (Nat.max m args.length) { tmps := args'.toArray ++ Array.replicate (m - args'.toArray.size) undef, defers := [] } := by
  have hl := h.1
  refine ⟨?_, rfl, fun t => ?_⟩
  · simp only [Array.size_append, List.size_toArray, Array.size_replicate]
    have : Nat.max m args.length = max m args.length := rfl
    omega
  · rw [getR_enterR]
    simp only [Nat.zero_le, true_and, Nat.zero_add, Nat.sub_zero]
    by_cases ht : t < args.length
    · rw [if_pos ht]
      have ht' : t < args'.length := by omega
      have e1 : args[t]? = some args[t] := List.getElem?_eq_getElem ht
      have e2 : args'[t]? = some args'[t] := List.getElem?_eq_getElem ht'
      rw [e1, Array.getD_eq_getD_getElem?, Array.getElem?_append_left (by simpa using ht')]
      simp only [Option.getD_some, List.getElem?_toArray, e2]
      exact h.2 t _ _ e1 e2
    · rw [if_neg ht]
      have : getR T.nil t = undefV := by unfold getR; rw [T.get_nil]
      rw [this, Array.getD_eq_getD_getElem?, Array.getElem?_append_right (by simp; omega)]
      have : ((Array.replicate (m - args'.toArray.size) undef)[t - args'.toArray.size]?).getD undef = undef := by
        rw [Array.getElem?_replicate]; split <;> rfl
      rw [this]
      exact undef_self φ
end
end Go.Ev


/- The evaluator is sound: functions. -/
namespace Go.Ev
variable {P : Program} {G B : Nat}

/-- One result. -/
def resSem (tmps : Array Value) : ResultVar → Sem Value
  | .tmp t => pure (tmps.getD t undef)
  | .cell a t => do loadVar t (← asAddr (tmps.getD a undef))

theorem resultOf_ok {φ : Ren} {s : St} {a : Act} {w : World} (hs : StR G B φ s a w) {r : ResultVar} {v : Value} (h : resultOf P s r = some v) :
    ∃ v', VR φ v v' ∧ (resSem a.tmps r).run P w = .ok v' w := by
  cases r with
  | tmp t =>
    simp only [resultOf, Option.some.injEq] at h
    subst h
    exact ⟨_, hs.regs.get t, rfl⟩
  | cell p t =>
    simp only [resultOf] at h
    split at h
    · rename_i id off hp
      have hv := hs.regs.get p
      rw [hp] at hv
      generalize hy : a.tmps.getD p undef = y at hv
      cases hv with
      | ptr _ _ l hl =>
      obtain ⟨v', h1, h2⟩ := load_ok hs.sim h hl
      refine ⟨v', h1, ?_⟩
      simp only [resSem, hy, asAddr, Sem.run_bind, Sem.run_pure, Result.andThen_ok, h2]
    · cases h

theorem resultsOf_ok {φ : Ren} {s : St} {a : Act} {w : World} (hs : StR G B φ s a w) : ∀ {rs : List ResultVar} {vs : List Value}, resultsOf P s rs = some vs →
    ∃ vs', VRL φ vs vs' ∧ (rs.mapM (resSem a.tmps)).run P w = .ok vs' w
  | [], vs, h => by
    simp only [resultsOf, Option.some.injEq] at h
    subst h
    exact ⟨[], VRL.nil φ, rfl⟩
  | r :: rs, vs, h => by
    simp only [resultsOf] at h
    split at h
    · rename_i v ws h1 h2
      injection h with h; subst h
      obtain ⟨v', a1, a2⟩ := resultOf_ok hs h1
      obtain ⟨ws', b1, b2⟩ := resultsOf_ok hs h2
      refine ⟨v' :: ws', VRL.cons a1 b1, ?_⟩
      rw [List.mapM_cons]
      simp only [Sem.run_bind, a2, Result.andThen_ok, b2, Sem.run_pure]
    · cases h

theorem pack_ok {φ : Ren} {vs vs' : List Value} (h : VRL φ vs vs') : VR φ (pack vs) (if h : vs'.toArray.size = 1 then vs'.toArray[0] else .tuple vs'.toArray) := by
  have hl := h.1
  match vs, vs', hl with
  | [], [], _ => exact .tuple _ _ rfl h.2
  | [v], [v'], _ => exact h.2 0 v v' (by simp) (by simp)
  | v :: u :: vs, v' :: u' :: vs', hl =>
    have : ¬ (v' :: u' :: vs').toArray.size = 1 := by simp
    rw [dif_neg this]
    exact .tuple _ _ (by simpa using hl) (by simpa using h.2)

theorem results_ok {φ : Ren} {s : St} {a : Act} {w : World} (hs : StR G B φ s a w) {fn : Func} {vs : List Value} (h : resultsOf P s fn.results.toList = some vs) :
    ∃ rv, VR φ (pack vs) rv ∧ (results fn a.tmps).run P w = .ok rv w := by
  obtain ⟨vs', h1, h2⟩ := resultsOf_ok hs h
  refine ⟨_, pack_ok h1, ?_⟩
  have e : (fn.results.mapM (resSem a.tmps)).run P w = .ok vs'.toArray w := by
    rw [Array.mapM_eq_mapM_toList]
    rw [map_eq_pure_bind]
    simp only [Sem.run_bind, h2, Result.andThen_ok, Sem.run_pure]
  have e2 : results fn a.tmps = (do let vs ← fn.results.mapM (resSem a.tmps); pure (if h : vs.size = 1 then vs[0] else .tuple vs)) := by
    unfold results
    congr 1
  rw [e2]
  simp only [Sem.run_bind, e, Result.andThen_ok, Sem.run_pure]

section
variable {ov : FuncId → Option (List Value → AH → Option (Value × AH))} {self : Rec}

theorem fn_step (hp : progOk P G = true) (hov : OvOk P G ov) (hc : CodeOk P G self.code) : FnsOk P G (step P ov self).fn := by
  intro f args args' h h' v B φ w hs ha hrun
  simp only [step] at hrun
  split at hrun
  · rename_i g hg
    exact hov f g hg args args' h h' v B φ w hs ha hrun
  · split at hrun
    · rename_i fn hf
      split at hrun
      · rename_i c hb
        have hmem : fn ∈ P.funcs.toList := by
          have : P.funcs.toList[f]? = some fn := by simpa using hf
          exact List.mem_of_getElem? this
        have hok := List.all_eq_true.1 hp fn hmem
        simp only [hb, Bool.and_eq_true] at hok
        have hname : (fn.name == "runtime.NumGoroutine") = false := by
          cases hn : fn.name == "runtime.NumGoroutine" with
          | false => rfl
          | true => rw [hn] at hok; exact absurd hok.2 (by simp)
        refine .inr ⟨?_, ?_⟩
        · have hnone : fn.body.isNone = false := by rw [hb]; rfl
          simp only [callFunc, Sem.run_bind, run_program, Result.andThen_ok, hf, hname, hnone, Bool.false_eq_true, if_false, Sem.run_pure]
        · refine calls_of_wp hf hb ?_
          have hst : StR G B φ ⟨enterR 0 args .nil, Nat.max fn.ntmps args.length, h⟩ { tmps := args'.toArray ++ Array.replicate (fn.ntmps - args'.toArray.size) undef, defers := [] } w := ⟨enter_ok ha, hs⟩
          have fin : ∀ (e : Ex) (s : St), self.code c ⟨enterR 0 args .nil, Nat.max fn.ntmps args.length, h⟩ = some (e, s) → (e = .normal ∨ e = .ret) → (match resultsOf P s fn.results.toList with
                | some vs => some (pack vs, s.h)
                | none => none) = some (v, h') →
              c.wp P (bodyPost P fn (Ends (Out G B φ h w v h'))) { tmps := args'.toArray ++ Array.replicate (fn.ntmps - args'.toArray.size) undef, defers := [] } w := by
            intro e s hcode he hres
            split at hres
            · rename_i vs hvs
              injection hres with hres; injection hres with h1 h2; subst h1; subst h2
              refine (hc c _ e s B φ _ w _ hok.1 hcode hst fun φ' a' w' hs' ht => ?_).wp
              obtain ⟨rv, r1, r2⟩ := results_ok (fn := fn) hs' hvs
              rcases he with rfl | rfl
              · exact ⟨hs'.regs.defers, rv, r2, φ', r1, hs'.sim, ht⟩
              · exact ⟨hs'.regs.defers, rv, r2, φ', r1, hs'.sim, ht⟩
            · cases hres
          split at hrun
          · rename_i s hcode; exact fin _ _ hcode (.inl rfl) hrun
          · rename_i s hcode; exact fin _ _ hcode (.inr rfl) hrun
          · cases hrun
      · cases hrun
    · cases hrun

theorem ev_ok (hp : progOk P G = true) (hov : OvOk P G ov) (hdr : DrawnOk P G) : ∀ n, CodeOk P G (ev P ov n).code ∧ FnsOk P G (ev P ov n).fn
  | 0 => ⟨fun c s e s' B φ a w Q _ h => (by cases h), fun f args args' h h' v B φ w _ _ hr => (by cases hr)⟩
  | n + 1 =>
    let ⟨hc, hf⟩ := ev_ok hp hov hdr n
    ⟨code_step hdr hc hf, fn_step hp hov hc⟩
end
end Go.Ev


