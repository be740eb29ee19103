import Derived.Test.YtehmkckpbknodaaDoorEvE
import Derived.Laws.MakeOwn
import Derived.Lib.UnsafeStr
import Derived.LaidLaws
import Derived.LaidSub
import Derived.ProofKit
import Derived.OpenShut
import Derived.LaidMore
import Derived.Lay
import Derived.Stop.Joined
set_option linter.all false

/- A string's copy made through a row of bytes: what its three steps come to. -/
namespace Go.Ev
open Go.Lib
variable {P : Program} {G B : Nat}

/-- Blocks alone are added. -/
structure More (w w' : World) : Prop where
  size : w.heap.size ≤ w'.heap.size
  same : ∀ b, b < w.heap.size → w'.heap[b]? = w.heap[b]?
  os : w'.os = w.os
  tape : w'.tape = w.tape
  output : w'.output = w.output

theorem More.refl (w : World) : More w w := ⟨Nat.le_refl _, fun _ _ => rfl, rfl, rfl, rfl⟩
theorem More.trans {a b c : World} (h : More a b) (k : More b c) : More a c :=
  ⟨Nat.le_trans h.size k.size, fun x hx => (k.same x (Nat.lt_of_lt_of_le hx h.size)).trans (h.same x hx), k.os.trans h.os, k.tape.trans h.tape, k.output.trans h.output⟩

theorem Sim.more {φ : Ren} {h : AH} {w w' : World} (s : Sim G B φ h w) (m : More w w') : Sim G B φ h w' :=
  ⟨fun id l e => ⟨(s.wf id l e).1, Nat.lt_of_lt_of_le (s.wf id l e).2 m.size⟩, fun id o e => by
    obtain ⟨l, hl, r⟩ := s.obj id o e
    exact ⟨l, hl, r.of_heap (m.same _ (s.wf id l hl).2)⟩, s.own, s.apart, s.sents, Nat.le_trans s.base m.size, s.glob⟩

theorem Stp.more {φ φ0 : Ren} {h h0 : AH} {w w' w0 : World} (t : Stp φ0 h0 w0 φ h w) (m : More w w') : Stp φ0 h0 w0 φ h w' :=
  ⟨t.le, m.os.trans t.os, m.tape.trans t.tape, m.output.trans t.output, Nat.le_trans t.size m.size, fun b hb hn => (m.same b (Nat.lt_of_lt_of_le hb t.size)).trans (t.keep b hb hn), t.foot, t.next, t.new, t.old, t.fresh⟩

theorem More.copied (w : World) (o : Obj) (cs : Array Value) (n : Nat) : More w (((w.alloc o).setRow w.heap.size cs).freeze ⟨w.heap.size, 0, none⟩ n) := by
  unfold World.freeze
  split
  · exact ⟨by simp, fun b hb => by rw [setRow_other _ _ _ _ (by omega)]; exact Array.getElem?_push_lt hb |>.trans (Array.getElem?_eq_getElem hb).symm, rfl, rfl, rfl⟩
  · refine ⟨by simp, fun b hb => ?_, rfl, rfl, rfl⟩
    show (Array.modify _ _ _)[b]? = _
    rw [Array.getElem?_modify, if_neg (show ¬ w.heap.size = b by omega), setRow_other _ _ _ _ (by omega)]
    exact Array.getElem?_push_lt hb |>.trans (Array.getElem?_eq_getElem hb).symm

theorem run_copy_str (w : World) (T st ty elem t : TypeId) (b : Nat) (cur : Array Value) (s : ByteArray) (hu : P.underlying T = some (.slice elem)) (hn : sizeOf? P elem = some 1)
    (hb : w.heap[b]? = some (.cells cur t (0, 0))) (hc : cur.size = s.size) :
    (Builtin.copy_ #[T, st] ty #[.slice (some ⟨b, 0, none⟩) s.size s.size, .string s]).run P w = .ok (goInt s.size) (w.setRow b (strCells s).toArray) := by
  have hl : (strCells s).length = s.size := by simp [strCells]
  have h1 : ∀ v ∈ strCells s, v.oneCell' = true := by
    intro v hv
    obtain ⟨x, _, rfl⟩ := List.mem_map.1 hv
    rfl
  have hst := run_storeCells_at P b 0 t (strCells s) 0 cur w hb (by rw [hl]; omega) h1
  have hfc := run_firstCells_string (P := P) (w := w) 1 s
  simp only [Builtin.copy_, List.getElem?_toArray, List.getElem?_cons_zero, List.getElem?_cons_succ, Sem.run_bind, run_underlying hu, Result.andThen_ok, Builtin.lenOf, Sem.run_pure, run_sizeOf' hn, Nat.min_self, hfc]
  rw [hst]
  simp only [Result.andThen_ok]
  have : (cur.toList.take (0 + 0) ++ strCells s ++ cur.toList.drop (0 + 0 + (strCells s).length)) = strCells s := by
    rw [hl, List.drop_of_length_le (by simp [hc])]
    simp
  rw [this]
end Go.Ev


/- What a row lays: the sentinels, read off the world in which the call begins. -/
namespace Go.Ev
variable {P : Program} {G B : Nat}

/-- The datum of an error made once. -/
def sentD (nm : String) (text : List UInt8) : DataW Unit := .iface nm (.ptr (.agg [.lit (.string text)]))

/-- What a program's rows say of errors.New's type. -/
structure ErrT (P : Program) (ti tp te : TypeId) (nm : String) : Prop where
  hi : ∃ ms, P.underlying ti = some (.interface ms)
  hrow : ∀ u, P.typeName? 3 u = some nm → u = tp
  hp : P.underlying tp = some (.pointer te)
  he : ∃ (f : Field) (ts : TypeId), P.underlying te = some (.struct #[f]) ∧ f.type = ts ∧ f.offset = 0 ∧ P.underlying ts = some .string ∧ P.cellsOf ts = 1
  hc : P.cellsOf te = 1

/-- A sentinel where it lies. -/
structure SentAt (w : World) (tp : TypeId) (g : Nat) (text : List UInt8) (a : Addr) : Prop where
  glob : ∃ c t, w.heap[g]? = some (.cells c t (0, 0)) ∧ c = #[.iface tp (.pointer (some a))]
  spot : a.spot = none
  cell : ∃ c t s, w.heap[a.block]? = some (.cells c t (0, 0)) ∧ c[a.off]? = some (.string s) ∧ s.data.toList = text

theorem sents_of_laid {w : World} {ti tp te : TypeId} {nm : String} (et : ErrT P ti tp te nm) :
    ∀ (items : List (String × Nat × List UInt8)) (ps : List MemPlace), (∀ x ∈ items, P.globalNamed x.1 = some x.2.1 ∧ (P.globals[x.2.1]?).map (·.type) = some ti) →
      DataW.LaidVars P w (items.map fun x => (x.1, sentD nm x.2.2)) ps → ps.Nodup →
      (∀ b off, MemPlace.cell b off ∈ ps → (∃ c t, w.heap[b]? = some (.cells c t (0, 0))) ∧ ∀ u v, w.cell? ⟨b, off, none⟩ = some (.iface u v) → Value.okWide P w .any 0 u v) →
      ∃ as : List Addr, as.length = items.length ∧ (∀ (i : Nat) (x : String × Nat × List UInt8) (a : Addr), items[i]? = some x → as[i]? = some a → SentAt w tp x.2.1 x.2.2 a) ∧ (as.map fun a => MemPlace.cell a.block a.off).Sublist ps
  | [], ps, _, h, _, _ => by
    refine ⟨[], rfl, fun i x a h => by simp at h, ?_⟩
    have : ps = [] := h
    subst this
    exact List.Sublist.slnil
  | (n, g, text) :: items, ps, hg, h, hnd, hok => by
    obtain ⟨g', t, cs, fuel, p, q, h1, h2, h3, h4, h5, rfl⟩ := h
    obtain ⟨k1, k2⟩ := hg (n, g, text) (List.mem_cons_self ..)
    rw [k1] at h1; injection h1 with h1; subst h1
    rw [k2] at h2; injection h2 with h2; subst h2
    obtain ⟨as, r1, r2, r3⟩ := sents_of_laid et items q (fun x hx => hg x (List.mem_cons_of_mem _ hx)) h5 (hnd.sublist (List.sublist_append_right ..)) fun b off hm => hok b off (List.mem_append_right _ hm)
    have hheap : ∃ t' fr, w.heap[g]? = some (.cells cs t' fr) := by
      unfold World.var? at h3
      rw [k1] at h3
      simp only [Option.bind_some] at h3
      split at h3
      · rename_i cs' t' fr hh
        injection h3 with h3; subst h3
        exact ⟨t', fr, hh⟩
      · cases h3
    obtain ⟨t', fr, hheap⟩ := hheap
    obtain ⟨ms, hi⟩ := et.hi
    obtain ⟨f, ts, e1, e2, e3, e4, e5⟩ := et.he
    have hok0 : ∀ u v, cs.toList = [.iface u v] → Value.okWide P w .any 0 u v := by
      intro u v hcs
      have hsz : cs.size = 1 := by rw [← Array.length_toList, hcs]; rfl
      have hm : MemPlace.cell g 0 ∈ MemPlace.row ⟨g, 0, none⟩ cs.size ++ p ++ q := by
        rw [hsz]; simp [MemPlace.row]
      refine (hok g 0 hm).2 u v ?_
      have : cs[0]? = some (.iface u v) := by
        rw [← Array.getElem?_toList, hcs]; rfl
      simp [World.cell?, hheap, this]
    obtain ⟨a, s, hcs, hcell, htext, _, rfl⟩ := errorString_of_trod hi et.hrow et.hp e1 e2 e3 e4 et.hc e5 h4 hok0
    have hsp : a.spot = none ∧ ∃ c t fr, w.heap[a.block]? = some (.cells c t fr) ∧ c[a.off]? = some (.string s) := by
      unfold World.cell? at hcell
      split at hcell
      · rename_i c t fr hb
        cases hs : a.spot with
        | none => rw [hs] at hcell; exact ⟨rfl, c, t, fr, hb, by simpa using hcell⟩
        | some _ => rw [hs] at hcell; simp at hcell
      · cases hcell
    obtain ⟨hsp, c, tc, fc, hb, hco⟩ := hsp
    have hrow1 : MemPlace.row a 1 = [MemPlace.cell a.block a.off] := by simp [MemPlace.row]
    rw [hrow1] at hok hnd ⊢
    have hsz : cs.size = 1 := by rw [← Array.length_toList, hcs]; rfl
    have fr0 : fr = (0, 0) := by
      obtain ⟨⟨c', t2, e⟩, _⟩ := hok g 0 (by rw [hsz]; simp [MemPlace.row])
      rw [hheap] at e; injection e with e; injection e
    have fc0 : fc = (0, 0) := by
      obtain ⟨⟨c', t2, e⟩, _⟩ := hok a.block a.off (by simp)
      rw [hb] at e; injection e with e; injection e
    subst fr0; subst fc0
    refine ⟨a :: as, by simp [r1], ?_, ?_⟩
    · intro i x a' hx ha
      cases i with
      | zero =>
        simp at hx ha; subst hx; subst ha
        exact ⟨⟨cs, t', hheap, Array.ext' hcs⟩, hsp, c, tc, s, hb, hco, htext⟩
      | succ i => exact r2 i x a' (by simpa using hx) (by simpa using ha)
    · rw [List.map_cons, List.append_assoc]
      exact (List.Sublist.cons_cons _ r3 |>.trans (by simp)).trans (List.sublist_append_right ..)
end Go.Ev


/- The heap in which a law's call begins, told. -/
namespace Go.Ev
variable {P : Program} {G B : Nat}

/-- Nothing in it may be written. -/
def NoMine (h : AH) : Prop := ∀ id o, h.objs.get id = some o → o.mine = false

def gSize (w : World) (id : Nat) : Nat := match w.heap[id]? with
  | some (.cells c _ _) => c.size
  | _ => 0
/-- Where a package variable lies. -/
def gLoc (w : World) (id : Nat) : Loc := ⟨id, 0, gSize w id, 1, gSize w id⟩
theorem Sim.begin {w : World} (hG : G ≤ w.heap.size) :
    Sim G w.heap.size (fun id => if id < G then some (gLoc w id) else none) ⟨T.nil, G⟩ w := by
  refine ⟨?_, fun id o h => (by rw [T.get_nil] at h; cases h), fun id o l h => (by rw [T.get_nil] at h; cases h), fun id id' o o' l l' h => (by rw [T.get_nil] at h; cases h),
    fun id id' cs cs' l l' i j h => (by rw [T.get_nil] at h; cases h), Nat.le_refl _, fun g hg => ⟨_, by rw [if_pos hg], rfl, rfl⟩⟩
  intro id l h
  split at h
  · rename_i hlt
    cases h
    exact ⟨hlt, Nat.lt_of_lt_of_le hlt hG⟩
  · cases h

/-- An object that is only read, where something is told already. -/
theorem Sim.addRo {φ : Ren} {h : AH} {w : World} (s : Sim G B φ h w) (nm : NoMine h) {id : Nat} {l : Loc} {cs : List Value} (hl : φ id = some l) (r : ObjR φ w l (.ro cs)) :
    Sim G B φ { h with objs := h.objs.set id (some (.ro cs)) } w ∧ NoMine { h with objs := h.objs.set id (some (.ro cs)) } := by
  have nm' : NoMine { h with objs := h.objs.set id (some (.ro cs)) } := by
    intro j o ho
    simp only [T.get_set] at ho
    split at ho
    · cases ho; rfl
    · exact nm j o ho
  refine ⟨⟨s.wf, ?_, fun j o l' ho hm => (by rw [nm' j o ho] at hm; cases hm), fun j j' o o' l1 l2 ho _ _ hm => (by rw [nm' j o ho] at hm; cases hm), ?_, s.base, s.glob⟩, nm'⟩
  · intro j o ho
    simp only [T.get_set] at ho
    split at ho
    · rename_i e; subst e; cases ho; exact ⟨l, hl, r⟩
    · exact s.obj j o ho
  · intro j j' c1 c2 l1 l2 i k h1 h2
    simp only [T.get_set] at h1 h2
    split at h1
    · cases h1
    · split at h2
      · cases h2
      · exact s.sents j j' c1 c2 l1 l2 i k h1 h2

/-- A new object that is not to be written. -/
theorem Sim.addNew {φ : Ren} {h : AH} {w : World} (s : Sim G B φ h w) (nm : NoMine h) {o : AObj} {l : Loc} (hm : o.mine = false) (hb : l.b < w.heap.size) (r : ObjR (φ.put h.next l) w l o)
    (hs : ∀ cs, o = .sent cs → ∀ id cs' l' i j, h.objs.get id = some (.sent cs') → φ id = some l' → i < cs.length → j < cs'.length → l.b = l'.b → l.s + i ≠ l'.s + j) :
    Sim G B (φ.put h.next l) (h.new o) w ∧ NoMine (h.new o) := by
  have hfree : φ h.next = none := by
    cases e : φ h.next with
    | none => rfl
    | some l' => have := (s.wf _ _ e).1; omega
  have hle := Ren.put_le l hfree
  have hlive : ∀ id o, h.objs.get id = some o → id ≠ h.next := by
    intro id o e h1
    obtain ⟨l', hl', _⟩ := s.obj id o e
    subst h1
    rw [hfree] at hl'; cases hl'
  have nm' : NoMine (h.new o) := by
    intro j q ho
    simp only [AH.new, T.get_set] at ho
    split at ho
    · cases ho; exact hm
    · exact nm j q ho
  refine ⟨⟨?_, ?_, fun j q l' ho hm => (by rw [nm' j q ho] at hm; cases hm), fun j j' q q' l1 l2 ho _ _ hm => (by rw [nm' j q ho] at hm; cases hm), ?_, s.base, ?_⟩, nm'⟩
  · intro id l' e
    by_cases hid : id = h.next
    · subst hid; rw [Ren.put_same] at e; cases e; exact ⟨Nat.lt_succ_self _, hb⟩
    · rw [Ren.put_other _ _ hid] at e
      obtain ⟨a, b⟩ := s.wf id l' e
      exact ⟨Nat.lt_succ_of_lt a, b⟩
  · intro j q ho
    simp only [AH.new, T.get_set] at ho
    split at ho
    · rename_i e; subst e; cases ho; exact ⟨l, Ren.put_same _ _ _, r⟩
    · obtain ⟨l', a, b⟩ := s.obj j q ho
      exact ⟨l', hle _ _ a, b.mono hle⟩
  · intro j j' c1 c2 l1 l2 i k h1 h2 hne e1 e2 hi hk hbb
    simp only [AH.new, T.get_set] at h1 h2
    split at h1
    · rename_i ej; subst ej
      cases h1
      rw [Ren.put_same] at e1; cases e1
      split at h2
      · rename_i ej; exact absurd ej.symm hne
      · rename_i hj
        rw [Ren.put_other _ _ hj] at e2
        exact hs c1 rfl j' c2 l2 i k h2 e2 hi hk hbb
    · rename_i hj
      rw [Ren.put_other _ _ hj] at e1
      split at h2
      · rename_i ej; subst ej
        cases h2
        rw [Ren.put_same] at e2; cases e2
        have := hs c2 rfl j c1 l1 k i h1 e1 hk hi hbb.symm
        exact fun e => this e.symm
      · rename_i hj'
        rw [Ren.put_other _ _ hj'] at e2
        exact s.sents j j' c1 c2 l1 l2 i k h1 h2 hne e1 e2 hi hk hbb
  · intro g hg
    obtain ⟨l', a, b⟩ := s.glob g hg
    exact ⟨l', hle _ _ a, b⟩

/-- The heap of the sentinels. -/
def sentH (tp : TypeId) : List (Nat × List UInt8) → AH → AH
  | [], h => h
  | (g, text) :: l, h => sentH tp l ({ h with objs := h.objs.set g (some (.ro [.iface tp (.pointer (some ⟨h.next, 0, none⟩))])) }.new (.sent [.string ⟨text.toArray⟩]))

theorem sents_sim {w : World} {tp : TypeId} : ∀ (items : List (Nat × List UInt8)) (as : List Addr) (φ : Ren) (h : AH), as.length = items.length →
    (∀ (i : Nat) (x : Nat × List UInt8) (a : Addr), items[i]? = some x → as[i]? = some a → SentAt w tp x.1 x.2 a) → (as.map fun a => (a.block, a.off)).Nodup → (items.map (·.1)).Nodup →
    Sim G B φ h w → NoMine h → (∀ x ∈ items, ∃ l, φ x.1 = some l ∧ l.b = x.1 ∧ l.s = 0 ∧ l.z = 1 ∧ l.x = 1) →
    (∀ id cs l, h.objs.get id = some (.sent cs) → φ id = some l → cs.length = 1 ∧ ∀ a ∈ as, (l.b, l.s) ≠ (a.block, a.off)) →
    ∃ φ', Ren.le φ φ' ∧ Sim G B φ' (sentH tp items h) w ∧ NoMine (sentH tp items h)
  | [], as, φ, h, _, _, _, _, s, nm, _, _ => ⟨φ, Ren.le.refl _, s, nm⟩
  | (g, text) :: items, [], φ, h, hl, _, _, _, _, _, _, _ => by simp at hl
  | (g, text) :: items, a :: as, φ, h, hl, hat, hnd, hgd, s, nm, hφ, hs => by
    have sa := hat 0 (g, text) a rfl rfl
    obtain ⟨l, hl1, hl2, hl3, hl4, hl5⟩ := hφ (g, text) (List.mem_cons_self ..)
    simp only at hl1 hl2
    have hlt : g < h.next := (s.wf _ _ hl1).1
    obtain ⟨c, t, sb, hb, hco, htext⟩ := sa.cell
    have hab : a.block < w.heap.size := (Array.getElem?_eq_some_iff.1 hb).1
    have haz : a.off < c.size := (Array.getElem?_eq_some_iff.1 hco).1
    have hfree : φ h.next = none := by
      cases e : φ h.next with
      | none => rfl
      | some l' => have := (s.wf _ _ e).1; omega
    -- the errorString first, then the variable: told by one renaming
    obtain ⟨s1, nm1⟩ := s.addNew nm (o := .sent [.string ⟨text.toArray⟩]) (l := ⟨a.block, a.off, c.size, 1, 1⟩) rfl hab
      (by
        refine ⟨c, t, hb, rfl, (by simp; omega), rfl, ?_⟩
        refine ⟨by simp; omega, fun i v v' h1 h2 => ?_⟩
        have hi : i < 1 := by have := (List.getElem?_eq_some_iff.1 h1).1; simpa using this
        have : i = 0 := by omega
        subst this
        simp only [List.getElem?_cons_zero, Option.some.injEq] at h1
        subst h1
        simp only [List.length_cons, List.length_nil] at h2
        rw [List.getElem?_take, if_pos (by omega), List.getElem?_drop, Nat.add_zero, Array.getElem?_toList, hco] at h2
        cases h2
        have htext : sb.data.toList = text := htext
        have : sb = ⟨text.toArray⟩ := by rw [← htext]
        subst this
        exact .string _)
      (by
        intro cs hcs id cs' l' i j h1 h2 hi hj hbb
        cases hcs
        obtain ⟨q1, q2⟩ := hs id cs' l' h1 h2
        have := q2 a (List.mem_cons_self ..)
        simp only [List.length_cons, List.length_nil] at hi
        intro e
        apply this
        have : i = 0 := by omega
        have : j = 0 := by omega
        subst_vars
        simp only at hbb e
        rw [← hbb]; simp at e; rw [e])
    have hle := Ren.put_le (⟨a.block, a.off, c.size, 1, 1⟩ : Loc) hfree
    obtain ⟨c', t', hg, hc'⟩ := sa.glob
    have hr : ObjR (φ.put h.next ⟨a.block, a.off, c.size, 1, 1⟩) w l (.ro [.iface tp (.pointer (some ⟨h.next, 0, none⟩))]) := by
      refine ⟨c', t', (0, 0), by rw [hl2]; exact hg, by rw [hl4, hc']; rfl, by rw [hl3, hl4]; simp, by rw [hl5]; rfl, ?_⟩
      rw [hc', hl3]
      refine VRL.cons (.iface _ _ _ ?_) (VRL.nil _)
      have := VR.ptr (φ := φ.put h.next ⟨a.block, a.off, c.size, 1, 1⟩) h.next 0 _ (Ren.put_same _ _ _)
      have ha : a = ⟨a.block, a.off + 0, none⟩ := by
        have := sa.spot
        cases a; simp at this ⊢; exact this
      rw [ha]; exact this
    obtain ⟨s2, nm2⟩ := s1.addRo nm1 (hle _ _ hl1) hr
    have eH : ({ (h.new (.sent [.string ⟨text.toArray⟩])) with objs := (h.new (.sent [.string ⟨text.toArray⟩])).objs.set g (some (.ro [.iface tp (.pointer (some ⟨h.next, 0, none⟩))])) } : AH).next = h.next + 1 := rfl
    -- the two orders hold the same objects
    have same : ∀ id, (({ h with objs := h.objs.set g (some (.ro [.iface tp (.pointer (some ⟨h.next, 0, none⟩))])) } : AH).new (.sent [.string ⟨text.toArray⟩])).objs.get id =
        ({ (h.new (.sent [.string ⟨text.toArray⟩])) with objs := (h.new (.sent [.string ⟨text.toArray⟩])).objs.set g (some (.ro [.iface tp (.pointer (some ⟨h.next, 0, none⟩))])) } : AH).objs.get id := by
      intro id
      simp only [AH.new, T.get_set]
      by_cases h1 : id = h.next
      · subst h1; rw [if_pos rfl, if_neg (by omega), if_pos rfl]
      · rw [if_neg h1, if_neg h1]
    have s3 := Sim.sub (h' := ({ h with objs := h.objs.set g (some (.ro [.iface tp (.pointer (some ⟨h.next, 0, none⟩))])) } : AH).new (.sent [.string ⟨text.toArray⟩])) s2 (Nat.le_refl _) (fun id o e => by rw [← same]; exact e)
    have nm3 : NoMine (({ h with objs := h.objs.set g (some (.ro [.iface tp (.pointer (some ⟨h.next, 0, none⟩))])) } : AH).new (.sent [.string ⟨text.toArray⟩])) := fun id o e => nm2 id o (by rw [← same]; exact e)
    obtain ⟨φ', h1, h2, h3⟩ := sents_sim items as _ _ (by simpa using hl) (fun i x b p q => hat (i + 1) x b (by simpa using p) (by simpa using q)) (by simp only [List.map_cons, List.nodup_cons] at hnd; exact hnd.2) (by simp only [List.map_cons, List.nodup_cons] at hgd; exact hgd.2) s3 nm3
      (fun x hx => by
        obtain ⟨l', a1, a2⟩ := hφ x (List.mem_cons_of_mem _ hx)
        exact ⟨l', hle _ _ a1, a2⟩)
      (fun id cs l' e1 e2 => by
        rw [same] at e1
        simp only [AH.new, T.get_set] at e1
        split at e1
        · cases e1
        · split at e1
          · rename_i e; subst e
            cases e1
            rw [Ren.put_same] at e2; cases e2
            refine ⟨rfl, fun b hb h => ?_⟩
            simp only [List.map_cons, List.nodup_cons, List.mem_map, not_exists, not_and] at hnd
            exact hnd.1 b hb h.symm
          · rename_i hne
            rw [Ren.put_other _ _ hne] at e2
            obtain ⟨q1, q2⟩ := hs id cs l' e1 e2
            exact ⟨q1, fun b hb => q2 b (List.mem_cons_of_mem _ hb)⟩)
    exact ⟨φ', hle.trans h1, h2, h3⟩

def factOf (n : Nat) : List (Nat × Nat) → Option Nat
  | [] => none
  | (m, r) :: l => match Nat.beq m n with
    | true => some r
    | false => factOf n l
/-- turnkeyworld.Number, of a symbol: what is known of it; else as it is. -/
def ovNum (R : Value → Value → AH → Res) : OvF := fun args h => match args with
  | [.complex .f64 0 id, .int .i64 (.ofNat n)] => match h.objs.get id with
    | some (.sym facts) => match Nat.ble 1 n && Nat.blt n (2 ^ 63) with
      | true => match factOf n facts with
        | some r => some (.int .i64 (.ofNat r), h)
        | none => none
      | false => none
    | _ => none
  | [x0, x1] => R x0 x1 h
  | _ => none

/-! ### A table's parts -/
theorem FnsOk.leaf {i : FuncId} {g : OvF} (hg : FOk P G i g) : FnsOk P G (fun f args h => match Nat.beq f i with
    | true => g args h
    | false => Option.none) := by
  intro f args args' h h' v B φ w s ha hr
  simp only at hr
  split at hr
  · rename_i hb
    have := Nat.eq_of_beq_eq_true hb
    subst this
    exact hg args args' h h' v B φ w s ha hr
  · cases hr
theorem FnsOk.node {k : Nat} {a b : CallH} (ha : FnsOk P G a) (hb : FnsOk P G b) : FnsOk P G (fun f args h => match Nat.blt f k with
    | true => a f args h
    | false => b f args h) := by
  intro f args args' h h' v B φ w s hv hr
  simp only at hr
  split at hr
  · exact ha f args args' h h' v B φ w s hv hr
  · exact hb f args args' h h' v B φ w s hv hr
section
variable {F : CallH} {M : Nat} {i : FuncId} (hp : progOk P G = true) (hdr : DrawnOk P G) (hf : FnsOk P G F)
include hp hdr hf
theorem FOk.r0 {R : AH → Res} (hr : ∀ h, kfn P F M i [] h = R h) : FOk P G i (fun args h => match args with | [] => R h | _ => none) := by
  intro args args' h h' v B φ w s ha hg
  simp only at hg
  split at hg
  · rw [← hr] at hg; exact kfn_ok hp hdr hf s ha hg
  · cases hg
theorem FOk.r1 {R : Value → AH → Res} (hr : ∀ x0 h, kfn P F M i [x0] h = R x0 h) : FOk P G i (fun args h => match args with | [x0] => R x0 h | _ => none) := by
  intro args args' h h' v B φ w s ha hg
  simp only at hg
  split at hg
  · rw [← hr] at hg; exact kfn_ok hp hdr hf s ha hg
  · cases hg
theorem FOk.r2 {R : Value → Value → AH → Res} (hr : ∀ x0 x1 h, kfn P F M i [x0, x1] h = R x0 x1 h) : FOk P G i (fun args h => match args with | [x0, x1] => R x0 x1 h | _ => none) := by
  intro args args' h h' v B φ w s ha hg
  simp only at hg
  split at hg
  · rw [← hr] at hg; exact kfn_ok hp hdr hf s ha hg
  · cases hg
theorem FOk.r3 {R : Value → Value → Value → AH → Res} (hr : ∀ x0 x1 x2 h, kfn P F M i [x0, x1, x2] h = R x0 x1 x2 h) : FOk P G i (fun args h => match args with | [x0, x1, x2] => R x0 x1 x2 h | _ => none) := by
  intro args args' h h' v B φ w s ha hg
  simp only at hg
  split at hg
  · rw [← hr] at hg; exact kfn_ok hp hdr hf s ha hg
  · cases hg
theorem FOk.r4 {R : Value → Value → Value → Value → AH → Res} (hr : ∀ x0 x1 x2 x3 h, kfn P F M i [x0, x1, x2, x3] h = R x0 x1 x2 x3 h) : FOk P G i (fun args h => match args with | [x0, x1, x2, x3] => R x0 x1 x2 x3 h | _ => none) := by
  intro args args' h h' v B φ w s ha hg
  simp only at hg
  split at hg
  · rw [← hr] at hg; exact kfn_ok hp hdr hf s ha hg
  · cases hg
theorem FOk.r5 {R : Value → Value → Value → Value → Value → AH → Res} (hr : ∀ x0 x1 x2 x3 x4 h, kfn P F M i [x0, x1, x2, x3, x4] h = R x0 x1 x2 x3 x4 h) : FOk P G i (fun args h => match args with | [x0, x1, x2, x3, x4] => R x0 x1 x2 x3 x4 h | _ => none) := by
  intro args args' h h' v B φ w s ha hg
  simp only at hg
  split at hg
  · rw [← hr] at hg; exact kfn_ok hp hdr hf s ha hg
  · cases hg
theorem FOk.r6 {R : Value → Value → Value → Value → Value → Value → AH → Res} (hr : ∀ x0 x1 x2 x3 x4 x5 h, kfn P F M i [x0, x1, x2, x3, x4, x5] h = R x0 x1 x2 x3 x4 x5 h) : FOk P G i (fun args h => match args with | [x0, x1, x2, x3, x4, x5] => R x0 x1 x2 x3 x4 x5 h | _ => none) := by
  intro args args' h h' v B φ w s ha hg
  simp only at hg
  split at hg
  · rw [← hr] at hg; exact kfn_ok hp hdr hf s ha hg
  · cases hg
end

/-! ### A law's call -/
theorem laid_at {w : World} : ∀ {l : List (String × DataW Unit)} {ps : List MemPlace}, DataW.LaidVars P w l ps → ∀ x ∈ l, ∃ g c t fr ty fuel p, P.globalNamed x.1 = some g ∧ w.heap[g]? = some (.cells c t fr) ∧
    (P.globals[g]?).map (·.type) = some ty ∧ DataW.trod (fun _ => ()) P w 0 (fun _ => true) false fuel ty c.toList = some (x.2, p)
  | [], _, _, x, hx => by cases hx
  | (n, d) :: r, ps, h, x, hx => by
    obtain ⟨g, t, cs, fuel, p, q, h1, h2, h3, h4, h5, rfl⟩ := h
    rcases List.mem_cons.1 hx with rfl | hx
    · unfold World.var? at h3
      rw [h1] at h3
      simp only [Option.bind_some] at h3
      split at h3
      · rename_i cs' t' fr hh
        cases h3
        exact ⟨g, cs, t', fr, t, fuel, p, h1, hh, h2, h4⟩
      · cases h3
    · exact laid_at h5 x hx
end Go.Ev


/- From what the evaluator answers to what the law's row says. -/
namespace Go.Ev
variable {P : Program} {G B : Nat}

theorem keptBut_same {w w' : World} {may : MemPlace → Prop} (h1 : w'.os = w.os) (h2 : w'.output = w.output) (h3 : ∀ b, b < w.heap.size → w'.heap[b]? = w.heap[b]?) : w.keptBut w' may := by
  refine ⟨h1, h2, fun i hi => ?_⟩
  rw [h3 i hi]
  cases h : w.heap[i]? with
  | none => trivial
  | some o =>
    cases o with
    | cells c t fr => exact ⟨rfl, rfl, rfl, fun _ _ => rfl⟩
    | map es clock => exact .inr ⟨rfl, rfl⟩
    | _ => rfl

/-- A law's call, from a heap in which nothing may be written: it answers true, and all that was there is as it was. -/
theorem law_calls {F : CallH} (hf : FnsOk P G F) {f : FuncId} {fn : Func} {c : Code} (hfn : P.funcs[f]? = some fn) (hb : fn.body = some c) (hname : (fn.name == "runtime.NumGoroutine") = false)
    {args args' : List Value} {h h' : AH} {φ : Ren} {w : World} (s : Sim G B φ h w) (nm : NoMine h) (ha : VRL φ args args') (hr : F f args h = some (.bool true, h')) :
    Calls P f args'.toArray w fun e w' => e = .returned (.bool true) ∧ w'.os = w.os ∧ w'.output = w.output ∧ ∀ b, b < w.heap.size → w'.heap[b]? = w.heap[b]? := by
  rcases hf f args args' h h' _ B φ w s ha hr with ⟨rv, w', a, _⟩ | ⟨_, b⟩
  · have hnone : fn.body.isNone = false := by rw [hb]; rfl
    simp only [callFunc, Sem.run_bind, run_program, Result.andThen_ok, hfn, hname, hnone, Bool.false_eq_true, if_false, Sem.run_pure] at a
    cases a
  · refine b.mono fun e w' he => ?_
    cases e with
    | returned v =>
      obtain ⟨φ', hv, hs, ht⟩ := he
      cases hv
      refine ⟨rfl, ht.os, ht.output, fun b hb => ht.keep b hb ?_⟩
      rintro ⟨id, o, l, ho, hm, _, _⟩
      rw [nm id o ho] at hm; cases hm
    | _ => exact he.elim

/-- The sentinels that a row lays, told. -/
theorem sim_of_laid {W : World} {items : List (String × Nat × List UInt8)} {ti tp te : TypeId} {nm : String} (et : ErrT P ti tp te nm) (hG : G ≤ W.heap.size)
    (hn : (items.all fun x => P.globalNamed x.1 == some x.2.1 && (P.globals[x.2.1]?).map (·.type) == some ti && Nat.blt x.2.1 G) = true) (hnd : (items.map fun x => x.2.1).Nodup)
    (h : laidMet P (items.map fun x => (x.1, sentD nm x.2.2)) W) : ∃ φ, (∀ g, g < G → φ g = some (gLoc W g)) ∧ Sim G W.heap.size φ (sentH tp (items.map (·.2)) ⟨T.nil, G⟩) W ∧ NoMine (sentH tp (items.map (·.2)) ⟨T.nil, G⟩) := by
  obtain ⟨ps, hl, hps, hok⟩ := h
  have hn' : ∀ x ∈ items, P.globalNamed x.1 = some x.2.1 ∧ (P.globals[x.2.1]?).map (·.type) = some ti ∧ x.2.1 < G := by
    intro x hx
    have := List.all_eq_true.1 hn x hx
    simp only [Bool.and_eq_true, beq_iff_eq] at this
    exact ⟨this.1.1, this.1.2, Nat.le_of_ble_eq_true this.2⟩
  obtain ⟨as, r1, r2, r3⟩ := sents_of_laid et items ps (fun x hx => ⟨(hn' x hx).1, (hn' x hx).2.1⟩) hl hps hok
  have hnodup : (as.map fun a => (a.block, a.off)).Nodup := by
    have h1 : (as.map fun a => MemPlace.cell a.block a.off).Nodup := hps.sublist r3
    unfold List.Nodup at h1 ⊢
    rw [List.pairwise_map] at h1 ⊢
    refine h1.imp fun {a b} hab e => hab ?_
    simp only [Prod.mk.injEq] at e
    rw [e.1, e.2]
  obtain ⟨φ, hle, s, nm⟩ := sents_sim (w := W) (tp := tp) (items.map (·.2)) as _ ⟨T.nil, G⟩ (by rw [r1]; simp) (fun i x a hx ha => by
      rw [List.getElem?_map] at hx
      cases hi : items[i]? with
      | none => rw [hi] at hx; cases hx
      | some y => rw [hi] at hx; cases hx; exact r2 i y a hi ha) hnodup (by rw [List.map_map]; exact hnd) (Sim.begin hG) (fun id o e => by rw [T.get_nil] at e; cases e)
    (fun x hx => by
      obtain ⟨y, hy, rfl⟩ := List.mem_map.1 hx
      obtain ⟨i, hi⟩ := List.mem_iff_getElem?.1 hy
      have hia : i < as.length := by rw [r1]; exact (List.getElem?_eq_some_iff.1 hi).1
      obtain ⟨c, t, hh, hc⟩ := (r2 i y _ hi (List.getElem?_eq_getElem hia)).glob
      refine ⟨_, by rw [if_pos (hn' y hy).2.2], rfl, rfl, ?_, ?_⟩
      · simp only [gLoc, gSize, hh, hc]; rfl
      · simp only [gLoc, gSize, hh, hc]; rfl)
    (fun id cs l e => by rw [T.get_nil] at e; cases e)
  exact ⟨φ, fun g hg => hle g _ (if_pos hg), s, nm⟩

open Go.ChangeShapes Go.WideShapes in
theorem table_cells {w : World} {t e : TypeId} {n fuel : Nat} {k : IntKind} {cs : List Value} {vals : List Int} {p : List MemPlace} (hu : P.underlying t = some (.array n e)) (he : P.underlying e = some (.int k)) (hc : P.cellsOf e = 1) (hn : P.cellsOf t = n)
    (hd : DataW.trod (fun _ => ()) P w 0 (fun _ => true) false fuel t cs = some (.agg (vals.map fun v => .lit (.int k v)), p)) : cs = vals.map fun v => .int k v := by
  obtain ⟨xs, m, rfl, hx, hlen, hxn, hel⟩ := DataW.trod_array hu hd
  simp only [Prod.mk.injEq, DataW.agg.injEq] at hx
  rw [hn] at hlen
  have hlv : vals.length = n := by
    have := congrArg List.length hx.1
    simp only [List.length_map] at this
    omega
  apply List.ext_getElem?
  intro i
  by_cases hi : i < n
  · have h1 := hel i hi
    have hxi : xs[i]? = some xs[i] := List.getElem?_eq_getElem (by omega)
    rw [hxi, hc, Nat.mul_one] at h1
    obtain ⟨v, e1, e2, _⟩ := DataW.trod_int he h1
    have hci : cs[i]? = some (.int k v) := by
      have : (cs.drop i)[0]? = some (.int k v) := by
        have := congrArg (·[0]?) e1
        simp only [List.getElem?_take, List.getElem?_cons_zero] at this
        simpa using this
      rw [List.getElem?_drop, Nat.add_zero] at this
      exact this
    have hv : vals[i]? = some v := by
      have := congrArg (·[i]?) hx.1
      simp only [List.getElem?_map, hxi, Option.map_some, e2] at this
      cases hvi : vals[i]? with
      | none => rw [hvi] at this; cases this
      | some u =>
        rw [hvi] at this
        simp only [Option.map_some, Option.some.injEq, DataW.lit.injEq, Lit.int.injEq, true_and] at this
        rw [this]
    rw [hci, List.getElem?_map, hv]; rfl
  · rw [List.getElem?_eq_none (by omega), List.getElem?_eq_none (by simp; omega)]

/-- The heap of the tables, laid over one. -/
def tabH : List (Nat × IntKind × List Int) → AH → AH
  | [], h => h
  | (g, k, vals) :: l, h => tabH l { h with objs := h.objs.set g (some (.ro (vals.map fun v => .int k v))) }
theorem tabs_sim {W : World} {φ : Ren} (hφ : ∀ g, g < G → φ g = some (gLoc W g)) : ∀ (tabs : List (Nat × IntKind × List Int)) (h : AH),
    (∀ x ∈ tabs, x.1 < G ∧ ∃ c t fr, W.heap[x.1]? = some (.cells c t fr) ∧ c.toList = x.2.2.map fun v => .int x.2.1 v) → Sim G B φ h W → NoMine h → Sim G B φ (tabH tabs h) W ∧ NoMine (tabH tabs h)
  | [], h, _, s, nm => ⟨s, nm⟩
  | (g, k, vals) :: l, h, hx, s, nm => by
    obtain ⟨hg, c, t, fr, hh, hc⟩ := hx (g, k, vals) (List.mem_cons_self ..)
    simp only at hg hh hc
    have hsz : c.size = vals.length := by rw [← Array.length_toList, hc]; simp
    have hgs : gSize W g = c.size := by unfold gSize; rw [hh]
    obtain ⟨s1, nm1⟩ := s.addRo nm (hφ g hg) (cs := vals.map fun v => .int k v) (by
      refine ⟨c, t, fr, hh, by simp only [gLoc, hgs], by simp only [gLoc, hgs, List.length_map]; omega, by simp only [gLoc, hgs, List.length_map]; omega, ?_⟩
      simp only [gLoc, List.drop_zero]
      rw [hc, List.take_of_length_le (by simp)]
      exact VRL.of_map fun v _ => .int k v)
    exact tabs_sim hφ l _ (fun x hx' => hx x (List.mem_cons_of_mem _ hx')) s1 nm1

/-- The int behind a symbol, laid. -/
def zOf (k : Int) : Nat := match k with
  | .ofNat n => 2 * n
  | .negSucc n => 2 * n + 1
theorem symInt_zOf (k : Int) (b s e x : Nat) : symInt ⟨b, s, zOf k, e, x⟩ = k := by
  unfold symInt zOf
  cases k with
  | ofNat n => simp
  | negSucc n =>
    simp only
    rw [if_neg (by omega)]
    congr 1
    omega
end Go.Ev


