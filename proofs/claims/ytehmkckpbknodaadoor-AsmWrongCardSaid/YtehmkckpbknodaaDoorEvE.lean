import Derived.Test.YtehmkckpbknodaaDoorEvD
import Derived.Lib.Bytealg
import Derived.Laws.Externs
set_option linter.all false

/- Overrides: two externs. -/
namespace Go.Ev
variable {P : Program} {G B : Nat}

abbrev OvF := List Value → AH → Option (Value × AH)

/-- An override of one function keeps its word. -/
def FOk (P : Program) (G : Nat) (f : FuncId) (g : OvF) : Prop :=
  ∀ (args args' : List Value) (h h' : AH) (v : Value) (B : Nat) (φ : Ren) (w : World), Sim G B φ h w → VRL φ args args' → g args h = some (v, h') → Lands P f args'.toArray w (Out G B φ h w v h')

def cnt (c : Nat) : List UInt8 → Nat
  | [] => 0
  | x :: xs => match Nat.beq x.toNat c with
    | true => cnt c xs + 1
    | false => cnt c xs
def idx (c : Nat) : Nat → List UInt8 → Int
  | _, [] => -1
  | i, x :: xs => match Nat.beq x.toNat c with
    | true => .ofNat i
    | false => idx c (i + 1) xs

def ovCount : OvF := fun args h => match args with
  | [.string s, .int .u8 (.ofNat c)] => match Nat.blt c 256 with
    | true => some (.int .i64 (.ofNat (cnt c s.data.toList)), h)
    | false => none
  | _ => none
def ovIndex : OvF := fun args h => match args with
  | [.string s, .int .u8 (.ofNat c)] => match Nat.blt c 256 with
    | true => some (.int .i64 (idx c 0 s.data.toList), h)
    | false => none
  | _ => none

theorem cnt_eq {c : Nat} (hc : c < 256) : ∀ l : List UInt8, cnt c l = Lib.countByte l c.toUInt8
  | [] => rfl
  | x :: xs => by
    have ih := cnt_eq hc xs
    unfold Lib.countByte at ih ⊢
    rw [List.count_cons, cnt]
    have key : Nat.beq x.toNat c = (x == c.toUInt8) := by
      rw [Bool.eq_iff_iff]
      constructor
      · intro h
        have := Nat.eq_of_beq_eq_true h
        subst this
        simp
      · intro h
        have h : x = c.toUInt8 := by simpa using h
        subst h
        have : c.toUInt8.toNat = c := by simp [Nat.toUInt8]; omega
        rw [this]; exact Nat.beq_refl c
    rw [key]
    cases x == c.toUInt8 <;> simp [ih]

theorem u8_eq {c : Nat} (hc : c < 256) (x : UInt8) : Nat.beq x.toNat c = (x == c.toUInt8) := by
  rw [Bool.eq_iff_iff]
  constructor
  · intro h
    have := Nat.eq_of_beq_eq_true h
    subst this
    simp
  · intro h
    have h : x = c.toUInt8 := by simpa using h
    subst h
    have : c.toUInt8.toNat = c := by simp [Nat.toUInt8]; omega
    rw [this]; exact Nat.beq_refl c

theorem idx_eq {c : Nat} (hc : c < 256) : ∀ (l : List UInt8) (i : Nat), idx c i l = if Lib.indexByte l c.toUInt8 == -1 then -1 else Lib.indexByte l c.toUInt8 + i
  | [], i => by simp [idx, Lib.indexByte]
  | x :: xs, i => by
    have ih := idx_eq hc xs (i + 1)
    have hge := Lib.indexByte_ge xs c.toUInt8
    rw [idx, Lib.indexByte, u8_eq hc x]
    cases hx : x == c.toUInt8 with
    | true => simp
    | false =>
      simp only [Bool.false_eq_true, if_false]
      rw [ih]
      by_cases h : Lib.indexByte xs c.toUInt8 = -1
      · simp [h]
      · have h1 : (Lib.indexByte xs c.toUInt8 == -1) = false := by simpa using h
        have h2 : (Lib.indexByte xs c.toUInt8 + 1 == -1) = false := by rw [beq_eq_false_iff_ne]; omega
        simp only [h1, h2, Bool.false_eq_true, if_false]
        push_cast
        omega

theorem ovCount_ok {f : FuncId} {fn : Func} (hf : P.funcs[f]? = some fn) (hname : (fn.name == "runtime.NumGoroutine") = false) (hb : fn.body.isNone = true) (hn : Extern.findNext fn = none)
    (he : Extern.find fn = some Extern.BytealgCount.count) : FOk P G f ovCount := by
  intro args args' h h' v B φ w s hv hg
  unfold ovCount at hg
  split at hg
  · rename_i str c
    split at hg
    · rename_i hc
      have hc : c < 256 := Nat.le_of_ble_eq_true hc
      injection hg with hg; injection hg with h1 h2; subst h1; subst h2
      obtain ⟨a, r, rfl, ha, hr⟩ := hv.cons_inv
      obtain ⟨b, r', rfl, hb', hr'⟩ := hr.cons_inv
      obtain rfl := hr'.nil_inv
      cases ha; cases hb'
      refine .inl ⟨.int .i64 (.ofNat (cnt c str.data.toList)), w, ?_, φ, .int _ _, s, .refl ..⟩
      rw [run_callFunc_extern hf hname hb hn he, Lib.run_countString, cnt_eq hc]
      rfl
    · cases hg
  · cases hg

theorem ovIndex_ok {f : FuncId} {fn : Func} (hf : P.funcs[f]? = some fn) (hname : (fn.name == "runtime.NumGoroutine") = false) (hb : fn.body.isNone = true) (hn : Extern.findNext fn = none)
    (he : Extern.find fn = some Extern.BytealgIndexByte.indexByte) : FOk P G f ovIndex := by
  intro args args' h h' v B φ w s hv hg
  unfold ovIndex at hg
  split at hg
  · rename_i str c
    split at hg
    · rename_i hc
      have hc : c < 256 := Nat.le_of_ble_eq_true hc
      injection hg with hg; injection hg with h1 h2; subst h1; subst h2
      obtain ⟨a, r, rfl, ha, hr⟩ := hv.cons_inv
      obtain ⟨b, r', rfl, hb', hr'⟩ := hr.cons_inv
      obtain rfl := hr'.nil_inv
      cases ha; cases hb'
      refine .inl ⟨.int .i64 (idx c 0 str.data.toList), w, ?_, φ, .int _ _, s, .refl ..⟩
      rw [run_callFunc_extern hf hname hb hn he, Lib.run_indexByteString, idx_eq hc]
      by_cases h : Lib.indexByte str.data.toList c.toUInt8 = -1
      · simp [h, Result.andThen]
      · have h1 : (Lib.indexByte str.data.toList c.toUInt8 == -1) = false := by simpa using h
        simp [h1, Result.andThen]
    · cases hg
  · cases hg
end Go.Ev


/- The evaluator in continuation form: registers as a function, the operations' types resolved. Definitions alone. -/
namespace Go.Ev

section
variable {α β : Type}
def bindO (x : Option α) (k : α → Option β) : Option β := match x with
  | some a => k a
  | none => none
def condO (c : Value) (a b : Option β) : Option β := match c with
  | .bool true => a
  | .bool false => b
  | _ => none
def isB (c : Value) (want : Bool) : Bool := match c with
  | .bool x => x == want
  | _ => false
def guardO (c : Value) (want : Bool) (a b : Option β) : Option β := match isB c want with
  | true => a
  | false => b
def andO (c : Bool) (a : Option β) : Option β := match c with
  | true => a
  | false => none
end

abbrev RF := Nat → Value
def RF.put (r : RF) (t : Nat) (v : Value) : RF := fun u => match Nat.beq u t with
  | true => v
  | false => r u
def evF (r : RF) : Operand → Value
  | .tmp t => r t
  | .const v => v
  | .global g => .pointer (some ⟨g, 0, none⟩)
  | .func f => .func (.func f) #[] #[]

def AH.new (h : AH) (o : AObj) : AH := { h with objs := h.objs.set h.next (some o), next := h.next + 1 }

/-! ### What is asked of values alone -/
def xpick (c a b : Value) : Option Value := match c with
  | .bool true => some a
  | .bool false => some b
  | _ => none
def xnil (x : Value) : Option Value := match x with
  | .pointer (some a) => some (.pointer (some a))
  | _ => none
def xfa (off : Nat) (x : Value) : Option Value := match x with
  | .pointer (some ⟨id, o, none⟩) => some (.pointer (some ⟨id, o + off, none⟩))
  | _ => none
def xiaA (len z : Nat) (x i : Value) : Option Value := match x, i with
  | .pointer (some ⟨id, off, none⟩), .int _ (.ofNat n) => match Nat.blt n len with
    | true => some (.pointer (some ⟨id, off + n * z, none⟩))
    | false => none
  | _, _ => none
def xia (z : Nat) (x i : Value) : Option Value := match x, i with
  | .slice (some ⟨id, off, none⟩) len _, .int _ (.ofNat n) => match Nat.blt n len with
    | true => some (.pointer (some ⟨id, off + n * z, none⟩))
    | false => none
  | _, _ => none
def ixS (x i : Value) : Option Value := match x, i with
  | .string s, .int _ (.ofNat n) => match s.data.toList.drop n with
    | b :: _ => some (.int .u8 (.ofNat b.toNat))
    | [] => none
  | _, _ => none
def xf1 (off : Nat) (x : Value) : Option Value := match x with
  | .agg cs => match cs.toList.drop off with
    | v :: _ => some v
    | [] => none
  | _ => none
def xfn (off n : Nat) (x : Value) : Option Value := match x with
  | .agg cs => match takeN n (cs.toList.drop off) with
    | some l => some (.agg l.toArray)
    | none => none
  | _ => none
def xext (i : Nat) (x : Value) : Option Value := match x with
  | .tuple vs => vs.toList[i]?
  | _ => none
def xnot (x : Value) : Option Value := match x with
  | .bool b => some (.bool !b)
  | _ => none
def ibin (op : BinOp) (x y : Value) : Option Value := match x, y with
  | .int k a, .int l b => match op with
    | .shl => match decide (b < 0) with
      | true => none
      | false => some (.int k (k.wrap (a * 2 ^ (min b.toNat k.bits))))
    | .shr => match decide (b < 0) with
      | true => none
      | false => some (.int k (a.fdiv (2 ^ (min b.toNat k.bits))))
    | _ => match decide (k = l) with
      | true => match op with
        | .add => some (.int k (k.wrap (a + b)))
        | .sub => some (.int k (k.wrap (a - b)))
        | .mul => some (.int k (k.wrap (a * b)))
        | .lss => some (.bool (decide (a < b)))
        | .leq => some (.bool (decide (a ≤ b)))
        | .gtr => some (.bool (decide (a > b)))
        | .geq => some (.bool (decide (a ≥ b)))
        | .eql => some (.bool (decide (a = b)))
        | .neq => some (.bool (!decide (a = b)))
        | .and => some (.int k (k.wrap (BitVec.ofInt k.bits a &&& BitVec.ofInt k.bits b).toNat))
        | .or => some (.int k (k.wrap (BitVec.ofInt k.bits a ||| BitVec.ofInt k.bits b).toNat))
        | .xor => some (.int k (k.wrap (BitVec.ofInt k.bits a ^^^ BitVec.ofInt k.bits b).toNat))
        | .andNot => some (.int k (k.wrap (BitVec.ofInt k.bits a &&& ~~~(BitVec.ofInt k.bits b)).toNat))
        | .quo => match decide (b = 0) with
          | true => none
          | false => some (.int k (k.wrap (a.tdiv b)))
        | .rem => match decide (b = 0) with
          | true => none
          | false => some (.int k (a.tmod b))
        | _ => none
      | false => none
  | _, _ => none
def sbin (op : BinOp) (x y : Value) : Option Value := match x, y with
  | .string a, .string b => match op with
    | .add => match Nat.ble (a.size + b.size) (2 ^ 63 - 1) with
      | true => some (.string (a ++ b))
      | false => none
    | .eql => some (.bool (a.toList == b.toList))
    | .neq => some (.bool (!(a.toList == b.toList)))
    | _ => none
  | _, _ => none
def xneg (x : Value) : Option Value := match x with
  | .int k n => some (.int k (k.wrap (0 - n)))
  | _ => none
def bbin (op : BinOp) (x y : Value) : Option Value := match op, x, y with
  | .eql, .bool a, .bool b => some (.bool (a == b))
  | .neq, .bool a, .bool b => some (.bool (!(a == b)))
  | _, _, _ => none
def xmm (mx : Bool) (x y : Value) : Option Value := match x, y with
  | .int k a, .int l b => match decide (k = l) with
    | true => some (.int k (match mx with
      | true => if b > a then b else a
      | false => if b < a then b else a))
    | false => none
  | _, _ => none
def xnilM (op : BinOp) (x : Value) : Option Value := match op, x with
  | .eql, .map none => some (.bool true)
  | .eql, .map (some _) => some (.bool false)
  | .neq, .map none => some (.bool false)
  | .neq, .map (some _) => some (.bool true)
  | _, _ => none
def xnilI (op : BinOp) (x : Value) : Option Value := match op, x with
  | .eql, .nilIface => some (.bool true)
  | .eql, .iface _ _ => some (.bool false)
  | .neq, .nilIface => some (.bool false)
  | .neq, .iface _ _ => some (.bool true)
  | _, _ => none
def xnilP (op : BinOp) (x : Value) : Option Value := match op, x with
  | .eql, .pointer none => some (.bool true)
  | .eql, .pointer (some _) => some (.bool false)
  | .neq, .pointer none => some (.bool false)
  | .neq, .pointer (some _) => some (.bool true)
  | _, _ => none
def xlenS (x : Value) : Option Value := match x with
  | .string s => some (.int .i64 (.ofNat s.size))
  | _ => none
def xlenL (x : Value) : Option Value := match x with
  | .slice _ n _ => some (.int .i64 (.ofNat n))
  | _ => none
def xconv (k : IntKind) (x : Value) : Option Value := match x with
  | .int _ n => some (.int k (k.wrap n))
  | _ => none
def xrune (x : Value) : Option Value := match x with
  | .int _ n => some (.string (Utf8.encode n))
  | _ => none
def xss (x : Value) : Option Value := match x with
  | .string s => some (.string s)
  | _ => none
def xslS (x : Value) (lo hi : Option Value) : Option Value := match x with
  | .string s => match loOf lo, hiOf hi none s.size with
    | some l, some hh => match Nat.ble l hh, Nat.ble hh s.size with
      | true, true => some (.string (bsub s l hh))
      | _, _ => none
    | _, _ => none
  | _ => none
def xta (t : TypeId) (x : Value) : Option Value := match x with
  | .iface u v => match Nat.beq u t with
    | true => some v
    | false => none
  | _ => none
/-- 'v, ok := x.(T)', z the zero of T. -/
def xtaOk (t : TypeId) (z : Value) (x : Value) : Option Value := match x with
  | .nilIface => some (.tuple #[z, .bool false])
  | .iface u v => match Nat.beq u t with
    | true => some (.tuple #[v, .bool true])
    | false => some (.tuple #[z, .bool false])
  | _ => none

/-- The cells of a value that is to be laid as so many cells. -/
def xcells (n : Nat) (x : Value) : Option (List Value) := match (cellsL x).all oneCell && Nat.beq (cellsL x).length n with
  | true => some (cellsL x)
  | false => none
/-- Parts laid over cells. -/
def fillC : List Value → List (Nat × Nat × Value) → Option (List Value)
  | cells, [] => some cells
  | cells, (off, size, v) :: rest => match Nat.beq (cellsL v).length size, writeAt off (cellsL v) cells with
    | true, some cells' => fillC cells' rest
    | _, _ => none
def xbuild (z : List Value) (ps : List (Nat × Nat × Value)) : Option Value := match fillC z ps with
  | some cs => some (.agg cs.toArray)
  | none => none
def xrow (z : List Value) (ps : List (Nat × Nat × Value)) : Option (List Value) := match fillC z ps with
  | some cs => match cs.all oneCell with
    | true => some cs
    | false => none
  | none => none

/-! ### What is asked of the heap -/
def ld1 (h : AH) (x : Value) : Option Value := match x with
  | .pointer (some ⟨id, off, none⟩) => match h.cellsAt id with
    | some cs => match cs.drop off with
      | v :: _ => some v
      | [] => none
    | none => none
  | _ => none
def ldn (n : Nat) (h : AH) (x : Value) : Option Value := match x with
  | .pointer (some ⟨id, off, none⟩) => match h.cellsAt id with
    | some cs => match takeN n (cs.drop off) with
      | some l => some (.agg l.toArray)
      | none => none
    | none => none
  | _ => none
def xst (n : Nat) (h : AH) (a v : Value) : Option AH := match a with
  | .pointer (some ⟨id, off, none⟩) => match Nat.beq (cellsL v).length n with
    | true => storeL h id off (cellsL v)
    | false => none
  | _ => none
def xsl (n : Nat) (h : AH) (x : Value) (lo hi mx : Option Value) : Option Value := match x with
  | .slice base len cap =>
    match loOf lo, hiOf hi mx len with
    | some l, some hh =>
      match base with
      | some ⟨id, off, none⟩ =>
        match Nat.ble UNK cap with
        | false =>
          match mxOf mx cap with
          | some m => match Nat.ble l hh && Nat.ble hh m && Nat.ble m cap with
            | true => some (.slice (some ⟨id, if m = l then off else off + l * n, none⟩) (hh - l) (m - l))
            | false => none
          | none => none
        | true => match Nat.beq cap (UNK + n) && Nat.ble 1 n && Nat.ble l hh && within h id off len n hh with
          | false => none
          | true => match mx with
            | none => some (.slice (some ⟨id, off + l * n, none⟩) (hh - l) cap)
            | some v => match natOf v with
              | some m => match Nat.ble hh m && Nat.ble m len && Nat.blt m UNK with
                | true => some (.slice (some ⟨id, if m = l then off else off + l * n, none⟩) (hh - l) (m - l))
                | false => none
              | none => none
      | some _ => none
      | none => match Nat.beq l 0 && Nat.beq hh 0 && Nat.beq len 0 && Nat.beq cap 0, mxOf mx 0 with
        | true, some 0 => some (.slice none 0 0)
        | _, _ => none
    | _, _ => none
  | _ => none
def xb2s (h : AH) (x : Value) : Option Value := match x with
  | .slice (some ⟨id, off, none⟩) n _ => match readL h id off n with
    | some vs => match bytesOf vs with
      | some bs => some (.string ⟨bs.toArray⟩)
      | none => none
    | none => none
  | _ => none
def xsb (x : Value) : Option (List Value × Nat) := match x with
  | .string s => some (s.data.toList.map fun b => .int .u8 (.ofNat b.toNat), s.size)
  | _ => none
/-- Interfaces, the first of which holds something. -/
def xeqI (P : Program) (op : BinOp) (h : AH) (t : TypeId) (x y : Value) : Option Value := match x with
  | .iface u v => match eql P h t (.iface u v) y with
    | some b => match op with
      | .eql => some (.bool b)
      | .neq => some (.bool !b)
      | _ => none
    | none => none
  | _ => none
def xslA (n z : Nat) (x : Value) (lo hi mx : Option Value) : Option Value := match x with
  | .pointer (some ⟨id, off, none⟩) =>
    match loOf lo, hiOf hi mx n, mxOf mx n with
    | some l, some hh, some m =>
      match Nat.ble l hh && Nat.ble hh m && Nat.ble m n && Nat.blt n UNK with
      | true => some (.slice (some ⟨id, if m = l then off else off + l * z, none⟩) (hh - l) (m - l))
      | false => none
    | _, _, _ => none
  | _ => none
def xappC (bytes size : Nat) (h : AH) (s : Value) (new : List Value) (n : Nat) : Option (Value × AH) :=
  match s with
  | .slice base len cap =>
    match Nat.ble UNK cap, base with
    | false, _ =>
      match Nat.ble (len + n) cap with
      | true => match base with
        | some ⟨id, off, none⟩ => match storeL h id (off + len * size) new with
          | some h' => some (.slice base (len + n) cap, h')
          | none => none
        | none => some (.slice none (len + n) cap, h)
        | _ => none
      | false =>
        match fits (len + n) bytes && new.all oneCell, firstCells h size len s with
        | true, some old => some (.slice (some ⟨h.next, 0, none⟩) (len + n) (UNK + size), h.new (.cells (old ++ new) size))
        | _, _ => none
    | true, some ⟨id, off, none⟩ =>
      match Nat.beq cap (UNK + size) with
      | false => none
      | true =>
      match n with
      | 0 => some (s, h)
      | _ =>
        match h.objs.get id, new.all oneCell with
        | some (.cells cs e), true =>
          match Nat.beq e size with
          | false => none
          | true =>
            match writeAt (off + len * size) new cs with
            | some cs' => some (.slice base (len + n) cap, h.put id (some (.cells cs' e)))
            | none =>
              match fits (len + n) bytes, takeN (len * size) (cs.drop off) with
              | true, some old => some (.slice (some ⟨h.next, 0, none⟩) (len + n) (UNK + size), (h.new (.cells (old ++ new) size)).put id none)
              | _, _ => none
        | _, _ => none
    | _, _ => none
  | _ => none
def xapp (bytes size : Nat) (h : AH) (s x : Value) : Option (Value × AH) := match lenOf x with
  | some n => match firstCells h size n x with
    | some new => xappC bytes size h s new n
    | none => none
  | none => none
def xcopy (size : Nat) (h : AH) (d x : Value) : Option (Value × AH) := match d, lenOf x with
  | .slice base len _, some m =>
    match firstCells h size (Nat.min m len) x with
    | some new => match base with
      | some ⟨id, off, none⟩ => match storeL h id off new with
        | some h' => some (.int .i64 (.ofNat (Nat.min m len)), h')
        | none => none
      | none => some (.int .i64 (.ofNat (Nat.min m len)), h)
      | _ => none
    | none => none
  | _, _ => none
def xmks (n bytes : Nat) (z : List Value) (l c : Value) : Option (AObj × Nat × Nat) := match l, c with
  | .int .i64 (.ofNat l), .int .i64 (.ofNat c) =>
    match Nat.ble l c && Nat.ble c (2 ^ 30) && Nat.ble (bytes * c) (2 ^ 48) with
    | true => some (.cells (copies z c) n, l, c)
    | false => none
  | _, _ => none
def xrange (x : Value) (h : AH) : Option (Value × AH) := match x with
  | .string s => some (.pointer (some ⟨h.next, 0, none⟩), h.new (.siter s 0))
  | _ => none
def xnext (it : Value) (h : AH) : Option (Value × AH) := match it with
  | .pointer (some ⟨id, 0, none⟩) => match h.objs.get id with
    | some (.siter s p) => match Nat.blt p s.size with
      | true => match Utf8.decode s p with
        | (c, w) => some (.tuple #[.bool true, .int .i64 (.ofNat p), .int .i32 (.ofNat c)], h.put id (some (.siter s (p + w))))
      | false => some (.tuple #[.bool false], h)
    | _ => none
  | _ => none

/-! ### Operations, their types resolved -/
section
variable (P : Program)

def structParts (fields : Array Field) : List (Nat × Value) → Option (List (Nat × Nat × Value))
  | [] => some []
  | (i, v) :: rest => match fields[i]? with
    | some f => match sizeOf? P f.type, structParts fields rest with
      | some n, some r => some ((f.offset, n, v) :: r)
      | _, _ => none
    | none => none

def xpure (ρ : Operand → Value) (o : Oper) : Option Value :=
  match o.op with
  | .pick c a b => xpick (ρ c) (ρ a) (ρ b)
  | .nilCheck x => xnil (ρ x)
  | .build t parts => match zeroOf? P t, P.underlying t with
    | some z, some (.struct fields) => match fields.toList.all (fun f => (sizeOf? P f.type).isSome), structParts P fields (parts.toList.map fun p => (p.1, ρ p.2)) with
      | true, some ps => xbuild (cellsL z) ps
      | _, _ => none
    | some z, some (.array _ elem) => match sizeOf? P elem with
      | some n => xbuild (cellsL z) (parts.toList.map fun p => (p.1 * n, n, ρ p.2))
      | none => none
    | _, _ => none
  | .fieldAddr s x i => match P.underlying s with
    | some (.struct fields) => match fields[i]? with
      | some f => match sizeOf? P f.type with
        | some (_ + 1) => xfa f.offset (ρ x)
        | _ => none
      | none => none
    | _ => none
  | .field t x i => match P.underlying t with
    | some (.struct fields) => match fields[i]? with
      | some f => match isAgg? P f.type, sizeOf? P f.type with
        | some true, some n => xfn f.offset n (ρ x)
        | some false, _ => xf1 f.offset (ρ x)
        | _, _ => none
      | none => none
    | _ => none
  | .indexAddr t x i => match P.underlying t with
    | some (.array len elem) => match sizeOf? P elem with
      | some z => xiaA len z (ρ x) (ρ i)
      | none => none
    | some (.slice elem) => match sizeOf? P elem with
      | some z => xia z (ρ x) (ρ i)
      | none => none
    | _ => none
  | .index t x i => match P.underlying t with
    | some .string => ixS (ρ x) (ρ i)
    | _ => pureOp P ρ o
  | .binOp op t x y _ => match P.underlying t with
    | some (.int _) => ibin op (ρ x) (ρ y)
    | some .string => sbin op (ρ x) (ρ y)
    | _ => pureOp P ρ o
  | .unOp .not _ x => xnot (ρ x)
  | .unOp .neg _ x => xneg (ρ x)
  | .call { callee := .builtin .min, args, .. } => match args.toList with
    | [x, y] => xmm false (ρ x) (ρ y)
    | _ => none
  | .call { callee := .builtin .max, args, .. } => match args.toList with
    | [x, y] => xmm true (ρ x) (ρ y)
    | _ => none
  | .extract t i => xext i (ρ t)
  | .typeAssert x _ t ok => match P.underlying t, ok with
    | some (.interface _), _ => none
    | some _, false => xta t (ρ x)
    | some _, true => match zeroOf? P t with
      | some z => xtaOk t z (ρ x)
      | none => none
    | none, _ => none
  | _ => pureOp P ρ o

def xread (ρ : Operand → Value) (o : Oper) (h : AH) : Option Value :=
  match o.op with
  | .load t a => match isAgg? P t, sizeOf? P t with
    | some true, some n => ldn n h (ρ a)
    | some false, _ => ld1 h (ρ a)
    | _, _ => none
  | .convert s d x => match P.underlying s, P.underlying d with
    | some (.int _), some (.int k) => xconv k (ρ x)
    | some (.int _), some .string => xrune (ρ x)
    | some .string, some .string => xss (ρ x)
    | some (.slice e), some .string => match P.underlying e with
      | some (.int .u8) => xb2s h (ρ x)
      | _ => none
    | _, _ => readOp P ρ o h
  | .slice t x lo hi mx => match P.underlying t with
    | some .string => match mx with
      | none => xslS (ρ x) (lo.map ρ) (hi.map ρ)
      | some _ => none
    | some (.slice elem) => match sizeOf? P elem with
      | some n => xsl n h (ρ x) (lo.map ρ) (hi.map ρ) (mx.map ρ)
      | none => none
    | some (.array n elem) => match sizeOf? P elem with
      | some z => xslA n z (ρ x) (lo.map ρ) (hi.map ρ) (mx.map ρ)
      | none => none
    | _ => none
  | .binOp op t x y _ => match P.underlying t, y with
    | some (.int _), _ => ibin op (ρ x) (ρ y)
    | some .string, _ => sbin op (ρ x) (ρ y)
    | some (.interface _), .const .nilIface => xnilI op (ρ x)
    | some (.pointer _), .const (.pointer none) => xnilP op (ρ x)
    | some (.map _ _), .const (.map none) => xnilM op (ρ x)
    | some .bool, _ => bbin op (ρ x) (ρ y)
    | some (.interface _), _ => xeqI P op h t (ρ x) (ρ y)
    | _, _ => readOp P ρ o h
  | .call { callee := .builtin .len, args, argTypes } => match args[0]?, argTypes[0]? with
    | some x, some t => match P.underlying t with
      | some .string => xlenS (ρ x)
      | some (.slice _) => xlenL (ρ x)
      | some (.array n _) => some (.int .i64 (.ofNat n))
      | _ => readOp P ρ o h
    | _, _ => none
  | _ => readOp P ρ o h

variable {β : Type}
def kpure (ρ : Operand → Value) (o : Oper) (k : Value → Option β) : Option β :=
  match o.op with
  | .move x | .assign x => k (ρ x)
  | .makeInterface t x => match P.underlying t with
    | some (.interface _) => none
    | some _ => k (.iface t (ρ x))
    | none => none
  | .makeFunc fn first captured => k (.func fn (first.toList.map ρ).toArray (captured.toList.map ρ).toArray)
  | _ => bindO (xpure P ρ o) k

def ptrTo (id : Nat) : Value := .pointer (some ⟨id, 0, none⟩)

def kmk (ρ : Operand → Value) (o : Oper) (k : AObj → (Nat → Value) → Option β) : Option β :=
  match o.op with
  | .alloc t => match zeroOf? P t, sizeOf? P t with
    | some z, some n => match Nat.beq (cellsL z).length n with
      | true => k (.cells (cellsL z) n) ptrTo
      | false => none
    | _, _ => none
  | .box t x => match sizeOf? P t with
    | some n => bindO (xcells n (ρ x)) fun cs => k (.cells cs n) ptrTo
    | none => none
  | .buildSlice t len parts => match P.underlying t with
    | some (.slice elem) => match sizeOf? P elem, zeroOf? P elem with
      | some n, some z => match Nat.ble 1 n && Nat.ble (len * n) (2 ^ 24) && Nat.beq (cellsL z).length n with
        | true => bindO (xrow (copies (cellsL z) len) (parts.toList.map fun p => (p.1 * n, n, ρ p.2))) fun cs => k (.cells cs n) fun id => .slice (some ⟨id, 0, none⟩) len len
        | false => none
      | _, _ => none
    | _ => none
  | .makeMap t none => match mapKey P t with
    | some _ => k (.map []) fun id => .map (some id)
    | none => none
  | .makeSlice t l c => match P.underlying t with
    | some (.slice elem) => match sizeOf? P elem, zeroOf? P elem with
      | some n, some z => match Nat.beq (cellsL z).length n && Nat.ble 1 n with
        | true => bindO (xmks n (P.bytesOf elem) (cellsL z) (ρ l) (ρ c)) fun x => k x.1 fun id => .slice (some ⟨id, 0, none⟩) x.2.1 x.2.2
        | false => none
      | _, _ => none
    | _ => none
  | .convert s d x => match P.underlying s, P.underlying d with
    | some .string, some (.slice e) => match P.underlying e with
      | some (.int .u8) => bindO (xsb (ρ x)) fun p => k (.ro p.1) fun id => .slice (some ⟨id, 0, none⟩) p.2 (UNK + 1)
      | _ => none
    | _, _ => none
  | _ => bindO (mkObj P ρ o) fun x => k x.1 x.2

def kact (F : CallH) (ρ : Operand → Value) (o : Oper) (h : AH) (k : Value → AH → Option β) : Option β :=
  match o.op with
  | .store t a x => match sizeOf? P t with
    | some n => bindO (xst n h (ρ a) (ρ x)) fun h' => k undefV h'
    | none => none
  | .call { callee := .value f, args, .. } => bindO (callFn F (ρ f) (args.toList.map ρ) h) fun x => k x.1 x.2
  | .call { callee := .builtin .append, args, argTypes } => match argTypes[0]?, argTypes[1]?, args.toList with
    | some st, some xt, [s, x] => match P.underlying st, P.underlying xt with
      | some (.slice elem), some xd => match sizeOf? P elem, zeroOf? P elem with
        | some (size + 1), some z => match Nat.beq (cellsL z).length (size + 1), (match xd with | .int _ => false | _ => true) with
          | true, true => bindO (xapp (P.bytesOf elem) (size + 1) h (ρ s) (ρ x)) fun x => k x.1 x.2
          | _, _ => none
        | _, _ => none
      | _, _ => none
    | _, _, _ => none
  | .call { callee := .builtin .copy, args, argTypes } => match argTypes[0]?, args.toList with
    | some dt, [d, x] => match P.underlying dt with
      | some (.slice elem) => match sizeOf? P elem with
        | some size => bindO (xcopy size h (ρ d) (ρ x)) fun x => k x.1 x.2
        | none => none
      | _ => none
    | _, _ => none
  | .range t x => match P.underlying t with
    | some .string => bindO (xrange (ρ x) h) fun x => k x.1 x.2
    | _ => none
  | .next it true => bindO (xnext (ρ it) h) fun x => k x.1 x.2
  | _ => bindO (actOp P F ρ o h) fun x => k x.1 x.2

/-! ### Regions -/
def kput (n : Nat) (r : RF) (d : Option Tmp) (v : Value) (k : RF → Option β) : Option β := match d with
  | none => k r
  | some t => match Nat.blt t n with
    | true => k (r.put t v)
    | false => none

/-- Whether what an operation binds is true, false, or was never bound; what is learned stands in the registers. -/
def kst (ops : List Oper) : Nat → Nat → RF → (RF → Option β) → (RF → Option β) → (RF → Option β) → Option β
  | 0, _, _, _, _, _ => none
  | n + 1, j, r, kT, kF, kU => match ops[j]? with
    | some oj => match oj.dst with
      | some t => match oj.guard with
        | none => condO (r t) (kT (r.put t (.bool true))) (kF (r.put t (.bool false)))
        | some (i, true) => kst ops n i r
          (fun r => condO (r t) (kT (r.put t (.bool true))) (kF (r.put t (.bool false))))
          (fun r => match r t with | .tuple _ => kU r | _ => none)
          (fun r => match r t with | .tuple _ => kU r | _ => none)
        | some (i, false) => kst ops n i r
          (fun r => match r t with | .tuple _ => kU r | _ => none)
          (fun r => condO (r t) (kT (r.put t (.bool true))) (kF (r.put t (.bool false))))
          (fun r => match r t with | .tuple _ => kU r | _ => none)
      | none => none
    | none => none
def kguard (ops : List Oper) (r : RF) (o : Oper) (a b : RF → Option β) : Option β := match o.guard with
  | none => a r
  | some (j, true) => kst ops (ops.length + 1) j r a b b
  | some (j, false) => kst ops (ops.length + 1) j r b a b

def kop (F : CallH) (ρ : Operand → Value) (o : Oper) (h : AH) (k : Value → AH → Option β) : Option β := match cls P o.op with
  | .pure => kpure P ρ o fun v => k v h
  | .read => bindO (xread P ρ o h) fun v => k v h
  | .make => kmk P ρ o fun ob f => k (f h.next) (h.new ob)
  | .act => kact P F ρ o h k

def kops (F : CallH) (n : Nat) (ops : List Oper) : List Oper → RF → AH → (RF → AH → Option β) → Option β
  | [], r, h, k => k r h
  | o :: rest, r, h, k => kguard ops r o (fun r => kop P F (evF r) o h fun v h' => kput n r o.dst v fun r' => kops F n ops rest r' h' k) (fun r => kput n r o.dst undefV fun r' => kops F n ops rest r' h k)

structure KD where
  regs : RF
  h : AH
  hist : List AH
  pend : List (Nat × Nat × AObj)
  rds : List (Nat × RF × Value)
  acts : List Nat

def kdr (F : CallH) (n : Nat) (ops : List Oper) (ms : List Nat) (base : Nat) : List Oper → Nat → KD → (KD → Option β) → Option β
  | [], _, d, k => k d
  | o :: rest, i, d, k => kguard ops d.regs o
    (fun q => match cls P o.op with
      | .pure => kpure P (evF q) o fun v => kput n q o.dst v fun r => kdr F n ops ms base rest (i + 1) { d with regs := r } k
      | .read => bindO (xread P (evF q) o d.h) fun v => kput n q o.dst v fun r => kdr F n ops ms base rest (i + 1) { d with regs := r, rds := (i, q, v) :: d.rds } k
      | .make => kmk P (evF q) o fun ob f => kput n q o.dst (f (base + i)) fun r => kdr F n ops ms base rest (i + 1) { d with regs := r, pend := (i, base + i, ob) :: d.pend } k
      | .act => kact P F (evF q) o (flush (d.pend.filter fun p => (ms.getD i 0).testBit p.1) d.h) fun v h' => kput n q o.dst v fun r =>
          kdr F n ops ms base rest (i + 1) { d with regs := r, h := h', hist := h' :: d.hist, pend := d.pend.filter (fun p => !(ms.getD i 0).testBit p.1), acts := i :: d.acts } k)
    (fun q => kput n q o.dst undefV fun r => kdr F n ops ms base rest (i + 1) { d with regs := r } k)

def rdok (x : Option Value) (v : Value) : Bool := match x with
  | some u => valueEq u v
  | none => false
/-- A read that was met in other heaps too. -/
def kread1 (ρ : Operand → Value) (o : Oper) (v : Value) (me : Nat) : List (AH × Nat) → Option β → Option β
  | [], k => k
  | p :: ps, k => match Nat.beq p.2 me with
    | true => kread1 ρ o v me ps k
    | false => andO (rdok (xread P ρ o p.1) v) (kread1 ρ o v me ps k)
def krds (ops : List Oper) (ms : List Nat) (acts : List Nat) (hist : List AH) : List (Nat × RF × Value) → Option β → Option β
  | [], k => k
  | r :: rs, k => match ops[r.1]? with
    | some o => kread1 P (evF r.2.1) o r.2.2 (acts.filter fun a => decide (a < r.1)).length
        ((hist.zipIdx.take ((acts.filter fun a => !(ms.getD a 0).testBit r.1).length + 1)).drop (acts.filter fun a => (ms.getD r.1 0).testBit a).length) (krds ops ms acts hist rs k)
    | none => none

def kdrawn (F : CallH) (n : Nat) (ops : List Oper) (r : RF) (h : AH) (k : RF → AH → Option β) : Option β := match regionOk P ops (masks ops []) with
  | true => kdr P F n ops (masks ops []) h.next ops 0 ⟨r, { h with next := h.next + ops.length }, [{ h with next := h.next + ops.length }], [], [], []⟩ fun d =>
      krds P ops (masks ops []) d.acts d.hist.reverse d.rds (k d.regs (flush d.pend d.h))
  | false => none

/-! ### Code -/
abbrev KC (β : Type) := Ex → RF → AH → Option β
abbrev KX (n : RF → AH → Option β) (x : Nat → RF → AH → Option β) (t : RF → AH → Option β) : KC β := fun e r h => match e with
  | .normal => n r h
  | .exit j => x j r h
  | .ret => t r h

def kloop (body : RF → AH → KC β → Option β) : Nat → RF → AH → KC β → Option β
  | 0, _, _, _ => none
  | m + 1, r, h, k => body r h fun e r' h' => match e with
    | .normal => kloop body m r' h' k
    | .exit j => k (.exit j) r' h'
    | .ret => k .ret r' h'

def learn (r : RF) (c : Operand) (b : Bool) : RF := match c with
  | .tmp t => r.put t (.bool b)
  | _ => r

def kcode (F : CallH) (n m : Nat) : Code → RF → AH → KC β → Option β
  | .skip, r, h, k => k .normal r h
  | .region _ ops false, r, h, k => kops P F n ops.toList ops.toList r h fun r' h' => k .normal r' h'
  | .region _ ops true, r, h, k => kdrawn P F n ops.toList r h fun r' h' => k .normal r' h'
  | .seq a b, r, h, k => kcode F n m a r h fun e r' h' => match e with
    | .normal => kcode F n m b r' h' k
    | .exit j => k (.exit j) r' h'
    | .ret => k .ret r' h'
  | .cond c a b, r, h, k => condO (evF r c) (kcode F n m a (learn r c true) h k) (kcode F n m b (learn r c false) h k)
  | .block id b, r, h, k => kcode F n m b r h fun e r' h' => match e with
    | .exit j => match Nat.beq j id with
      | true => k .normal r' h'
      | false => k (.exit j) r' h'
    | .normal => k .normal r' h'
    | .ret => k .ret r' h'
  | .loop b, r, h, k => kloop (kcode F n m b) m r h k
  | .exit id, r, h, k => k (.exit id) r h
  | .ret, r, h, k => k .ret r h
  | .label _, r, h, k => k .normal r h
  | _, _, _, _ => none

def enterF (args : List Value) : RF := fun t => (args[t]?).getD undefV

def kresult (r : RF) (h : AH) (x : ResultVar) (k : Value → Option β) : Option β := match x with
  | .tmp t => k (r t)
  | .cell a t => match isAgg? P t, sizeOf? P t with
    | some true, some n => bindO (ldn n h (r a)) k
    | some false, _ => bindO (ld1 h (r a)) k
    | _, _ => none
def kresults (r : RF) (h : AH) : List ResultVar → (List Value → Option β) → Option β
  | [], k => k []
  | x :: xs, k => kresult P r h x fun v => kresults r h xs fun vs => k (v :: vs)

/-- What stands behind a function's body. -/
def kend (fn : Func) : KC (Value × AH) := fun e r h => match e with
  | .exit _ => none
  | .normal => kresults P r h fn.results.toList fun vs => some (pack vs, h)
  | .ret => kresults P r h fn.results.toList fun vs => some (pack vs, h)

def kfn (F : CallH) (m : Nat) (f : FuncId) (args : List Value) (h : AH) : Option (Value × AH) := match P.funcs[f]? with
  | some fn => match fn.body with
    | some c => kcode P F (Nat.max fn.ntmps args.length) m c (enterF args) h (kend P fn)
    | none => none
  | none => none

/-! ### Words for what is printed of functions -/
abbrev Res := Option (Value × AH)
def newK {α : Type} (h : AH) (o : AObj) (k : Nat → AH → α) : α := k h.next (h.new o)
def withH {α : Type} (h : AH) (k : AH → α) : α := k h
def bump (h : AH) (n : Nat) : AH := { h with next := h.next + n }
def putAt (h : AH) (id : Nat) (o : AObj) : AH := { h with objs := h.objs.set id (some o) }
abbrev glob (g : Nat) : Value := .pointer (some ⟨g, 0, none⟩)
abbrev fnv (f : Nat) : Value := .func (.func f) #[] #[]
abbrev str (l : List UInt8) : Value := .string ⟨l.toArray⟩
abbrev slOf (id n c : Nat) : Value := .slice (some ⟨id, 0, none⟩) n c
def xmup (h : AH) (t : TypeId) (m k v : Value) : Option (Value × AH) := match mapUpdate P h t m k v with
  | some h' => some (undefV, h')
  | none => none
def xmdel (h : AH) (t : TypeId) (m k : Value) : Option (Value × AH) := match mapDelete P h t m k with
  | some h' => some (undefV, h')
  | none => none
def bodyOf (f : FuncId) : Code := match P.funcs[f]? with
  | some fn => fn.body.getD .skip
  | none => .skip
def Code.sub : List Bool → Code → Code
  | [], c => c
  | false :: p, .seq a _ => sub p a
  | true :: p, .seq _ b => sub p b
  | false :: p, .cond _ a _ => sub p a
  | true :: p, .cond _ _ b => sub p b
  | _ :: p, .block _ b => sub p b
  | _ :: p, .loop b => sub p b
  | _, c => c
end
end Go.Ev


/- What the continuation form says, the evaluator says: operations. -/
namespace Go.Ev
variable {P : Program}

theorem bindO_some {α β : Type} {x : Option α} {k : α → Option β} {r : β} (h : bindO x k = some r) : ∃ a, x = some a ∧ k a = some r := by
  unfold bindO at h
  split at h
  · exact ⟨_, rfl, h⟩
  · cases h

theorem ble_63 {n : Nat} (h : Nat.ble n (2 ^ 63 - 1) = true) : ¬ ((n : Nat) : Int) > IntKind.i64.max := by
  have := Nat.le_of_ble_eq_true h
  have e : IntKind.i64.max = 9223372036854775807 := rfl
  rw [e]
  omega

theorem ibin_ok {op : BinOp} {x y v : Value} (h : ibin op x y = some v) : (plain x && plain y) = true ∧ plain v = true ∧ ∀ (t : TypeId) (ox oy : Operand), prun P (do eqGuard op t ox oy x y; binOp op t x y) = some v := by
  unfold ibin at h
  split at h
  · rename_i k a l b
    refine ⟨rfl, ?_⟩
    have sh : ∀ (u : Value), (match decide (b < 0) with | true => none | false => some u) = some v → ¬ b < 0 ∧ v = u := by
      intro u h
      split at h
      · cases h
      · rename_i hb
        injection h with h
        exact ⟨by simpa using hb, h.symm⟩
    have dv : ∀ (u : Value), (match decide (b = 0) with | true => none | false => some u) = some v → ¬ b = 0 ∧ v = u := by
      intro u h
      split at h
      · cases h
      · rename_i hb
        injection h with h
        exact ⟨by simpa using hb, h.symm⟩
    have kk : ∀ (u : Option Value), (match decide (k = l) with | true => u | false => none) = some v → k = l ∧ u = some v := by
      intro u h
      split at h
      · rename_i hb
        exact ⟨by simpa using hb, h⟩
      · cases h
    cases op
    case shl =>
      obtain ⟨hb, rfl⟩ := sh _ h
      refine ⟨rfl, fun t ox oy => ?_⟩
      simp only [eqGuard, binOp, Op.shift, hb]
      rfl
    case shr =>
      obtain ⟨hb, rfl⟩ := sh _ h
      refine ⟨rfl, fun t ox oy => ?_⟩
      simp only [eqGuard, binOp, Op.shift, hb]
      rfl
    case quo =>
      obtain ⟨rfl, h2⟩ := kk _ h
      clear h
      obtain ⟨hb, rfl⟩ := dv (.int k (k.wrap (a.tdiv b))) h2
      refine ⟨rfl, fun t ox oy => ?_⟩
      simp only [eqGuard, binOp, Op.intDiv]
      rw [if_neg hb, if_neg (show ¬ (k ≠ k) from fun h => h rfl)]
      rfl
    case rem =>
      obtain ⟨rfl, h2⟩ := kk _ h
      clear h
      obtain ⟨hb, rfl⟩ := dv (.int k (a.tmod b)) h2
      refine ⟨rfl, fun t ox oy => ?_⟩
      simp only [eqGuard, binOp, Op.intDiv]
      rw [if_neg hb, if_neg (show ¬ (k ≠ k) from fun h => h rfl)]
      rfl
    all_goals
      obtain ⟨rfl, h2⟩ := kk _ h
      clear h
      cases h2
      refine ⟨rfl, fun t ox oy => ?_⟩
      simp only [eqGuard, binOp]
      rw [if_neg (show ¬ (k ≠ k) from fun h => h rfl)]
      rfl
  · cases h

theorem sbin_ok {op : BinOp} {x y v : Value} (h : sbin op x y = some v) : (plain x && plain y) = true ∧ plain v = true ∧ ∀ (t : TypeId) (ox oy : Operand), prun P (do eqGuard op t ox oy x y; binOp op t x y) = some v := by
  unfold sbin at h
  split at h
  · rename_i a b
    refine ⟨rfl, ?_⟩
    cases op
    case add =>
      simp only at h
      split at h
      · rename_i hb
        cases h
        refine ⟨rfl, fun t ox oy => ?_⟩
        simp only [eqGuard, binOp, Op.stringOp]
        rw [if_neg (ble_63 hb)]
        rfl
      · cases h
    all_goals
      first
        | (cases h; done)
        | (cases h; exact ⟨rfl, fun t ox oy => rfl⟩)
  · cases h

theorem structParts_some {fields : Array Field} : ∀ {ps : List (Nat × Value)} {qs : List (Nat × Nat × Value)}, structParts P fields ps = some qs → ∀ cells : List Value, fillC cells qs = fillL (fun i => match fields[i]? with
        | some f => (match sizeOf? P f.type with | some n => some (f.offset, n) | none => none)
        | none => none) cells ps
  | [], qs, h, cells => by simp only [structParts, Option.some.injEq] at h; subst h; rfl
  | (i, v) :: rest, qs, h, cells => by
    simp only [structParts] at h
    split at h
    · rename_i f hf
      split at h
      · rename_i n r hn hr
        injection h with h; subst h
        simp only [fillC, fillL, hf, hn]
        have ih := structParts_some hr
        split
        · rename_i cells' h1 h2
          rw [h1, h2]
          exact ih _
        · rename_i hne
          split
          · rename_i cells' h1 h2
            exact absurd h2 (fun h2 => hne _ h1 h2)
          · rfl
      · cases h
    · cases h

theorem fillC_map (n : Nat) : ∀ (ps : List (Nat × Value)) (cells : List Value), fillC cells (ps.map fun p => (p.1 * n, n, p.2)) = fillL (fun i => some (i * n, n)) cells ps
  | [], cells => rfl
  | (i, v) :: rest, cells => by
    simp only [List.map_cons, fillC, fillL]
    split
    · rename_i cells' h1 h2
      rw [h1, h2]
      exact fillC_map n rest _
    · rename_i hne
      split
      · rename_i cells' h1 h2
        exact absurd h2 (fun h2 => hne _ h1 h2)
      · rfl

theorem xpure_ok {ρ : Operand → Value} {o : Oper} {v : Value} (h : xpure P ρ o = some v) : pureOp P ρ o = some v := by
  obtain ⟨dst, op, type, pos, after, guard⟩ := o
  cases op with
  | pick c a b =>
    simp only [xpure, xpick] at h
    simp only [pureOp]
    exact h
  | nilCheck x => simp only [xpure, xnil] at h; simp only [pureOp]; exact h
  | build t parts =>
    simp only [xpure] at h
    simp only [pureOp, build]
    split at h
    · rename_i z fields hz hu
      simp only [hz, hu]
      split at h
      · rename_i ps ha hps
        rw [ha]
        simp only
        unfold xbuild at h
        rw [structParts_some hps] at h
        exact h
      · cases h
    · rename_i z n elem hz hu
      simp only [hz, hu]
      split at h
      · rename_i n hn
        rw [hn]
        simp only
        unfold xbuild at h
        have e : (List.map (fun p => (p.1 * n, n, ρ p.2)) parts.toList) = ((parts.toList.map fun p => (p.1, ρ p.2)).map fun p => (p.1 * n, n, p.2)) := by simp
        rw [e, fillC_map] at h
        exact h
      · cases h
    · cases h
  | fieldAddr s x i =>
    simp only [xpure] at h
    simp only [pureOp, fieldAddr]
    split at h
    · rename_i fields hu
      split at h
      · rename_i f hf
        split at h
        · rename_i m hm
          unfold xfa at h
          split at h
          · rename_i id off hx
            injection h with h; subst h
            simp only [hu, hx, hf, hm]
          · cases h
        · cases h
      · cases h
    · cases h
  | field t x i =>
    simp only [xpure] at h
    simp only [pureOp, field]
    split at h
    · rename_i fields hu
      split at h
      · rename_i f hf
        split at h
        · rename_i n ha hn
          unfold xfn at h
          split at h
          · rename_i cs hx
            simp only [hu, hx, hf, part, ha, hn]
            exact h
          · cases h
        · rename_i ha
          unfold xf1 at h
          split at h
          · rename_i cs hx
            simp only [hu, hx, hf, part, ha]
            exact h
          · cases h
        · cases h
      · cases h
    · cases h
  | indexAddr t x i =>
    simp only [xpure] at h
    simp only [pureOp, indexAddr]
    split at h
    · rename_i len elem hu
      split at h
      · rename_i z hz
        unfold xiaA at h
        split at h
        · rename_i id off k n hx hi
          simp only [hu, hx, hi, hz]
          split at h
          · rename_i hn; rw [hn]; exact h
          · cases h
        · cases h
      · cases h
    · rename_i elem hu
      split at h
      · rename_i z hz
        unfold xia at h
        split at h
        · rename_i id off len cap k n hx hi
          simp only [hu, hx, hi, hz]
          split at h
          · rename_i hn; rw [hn]; exact h
          · cases h
        · cases h
      · cases h
    · cases h
  | index t x i =>
    simp only [xpure] at h
    split at h
    · rename_i hu
      simp only [pureOp, index]
      unfold ixS at h
      split at h
      · rename_i s k n hx hi
        simp only [hu, hx, hi]
        exact h
      · cases h
    · exact h
  | binOp op t x y u =>
    simp only [xpure] at h
    split at h
    · obtain ⟨a, b, c⟩ := ibin_ok (P := P) h
      simp only [pureOp, a, c t x y, b]
    · obtain ⟨a, b, c⟩ := sbin_ok (P := P) h
      simp only [pureOp, a, c t x y, b]
    · exact h
  | unOp op t x =>
    cases op with
    | not =>
      simp only [xpure, xnot] at h
      split at h
      · rename_i b hb
        injection h with h; subst h
        simp only [pureOp, hb]
        rfl
      · cases h
    | neg =>
      simp only [xpure, xneg] at h
      split at h
      · rename_i k n hb
        injection h with h; subst h
        simp only [pureOp, hb]
        rfl
      · cases h
    | _ => exact h
  | call c =>
    obtain ⟨callee, args, argTypes⟩ := c
    cases callee with
    | builtin b =>
      cases b with
      | min =>
        simp only [xpure] at h
        split at h
        · rename_i x y hxy
          simp only [pureOp, hxy, List.map_cons, List.map_nil]
          unfold xmm at h
          split at h
          · rename_i k a l b hx hy
            simp only [hx, hy]
            exact h
          · cases h
        · cases h
      | max =>
        simp only [xpure] at h
        split at h
        · rename_i x y hxy
          simp only [pureOp, hxy, List.map_cons, List.map_nil]
          unfold xmm at h
          split at h
          · rename_i k a l b hx hy
            simp only [hx, hy]
            exact h
          · cases h
        · cases h
      | _ => exact h
    | _ => exact h
  | extract t i =>
    simp only [xpure, xext] at h
    simp only [pureOp]
    exact h
  | typeAssert x xt t ok =>
    simp only [xpure] at h
    simp only [pureOp]
    split at h
    · cases h
    · rename_i d hni hu
      unfold xta at h
      split at h
      · rename_i u v' hx
        simp only [hu, hx, assertAt]
        cases d <;> first
          | exact absurd rfl (hni _)
          | (split at h
             · rename_i hb; rw [hb]; simpa using h
             · cases h)
      · cases h
    · rename_i d hni hu
      split at h
      · rename_i z hz
        unfold xtaOk at h
        split at h
        · rename_i hx
          cases d <;> first
            | exact absurd rfl (hni _)
            | (simp only [hu, hx, assertNo, hz]; exact h)
        · rename_i u v' hx
          cases d <;> first
            | exact absurd rfl (hni _)
            | (simp only [hu, hx, assertAt, assertNo, hz]
               split at h
               · rename_i hb; rw [hb]; exact h
               · rename_i hb; rw [hb]; exact h)
        · cases h
      · cases h
    · cases h
  | _ => exact h
end Go.Ev


/- What the continuation form says, the evaluator says: reads, makes, acts. -/
namespace Go.Ev
variable {P : Program}

theorem prun_bind {α β : Type} {s : Sem α} {f : α → Sem β} {a : α} (h : prun P s = some a) : prun P (s >>= f) = prun P (f a) := by
  induction s with
  | pure b => simp only [prun, Option.some.injEq] at h; subst h; rfl
  | program k ih => simp only [prun] at h; exact ih P h
  | mark m k ih => simp only [prun] at h; exact ih h
  | _ => simp [prun] at h

theorem prun_underlying {t : TypeId} {d : TypeDesc} (h : P.underlying t = some d) : prun P (underlying t) = some d := by
  unfold underlying
  have : prun P program = some P := rfl
  rw [prun_bind this, h]
  rfl

theorem xnilI_ok {op : BinOp} {t : TypeId} {ms : Array (String × TypeId)} {x v : Value} {ox : Operand} {h : AH} (hu : P.underlying t = some (.interface ms)) :
    xnilI op x = some v → (match plain x && plain .nilIface with
    | true => match prun P (do eqGuard op t ox (.const .nilIface) x .nilIface; binOp op t x .nilIface) with
      | some v => match plain v with
        | true => some v
        | false => none
      | none => none
    | false => match eql P h t x .nilIface with
      | some b => match op with
        | .eql => some (.bool b)
        | .neq => some (.bool !b)
        | _ => none
      | none => none) = some v := by
  intro hv
  unfold xnilI at hv
  have heq : prun P (Op.equal t .nilIface .nilIface) = some true := by
    unfold Op.equal Op.maxDepth
    unfold Op.equalIn
    rw [prun_bind (prun_underlying hu)]
    rfl
  split at hv
  · cases hv
    have : prun P (do eqGuard .eql t ox (.const .nilIface) .nilIface .nilIface; binOp .eql t .nilIface .nilIface) = some (.bool true) := by
      have g : prun P (eqGuard .eql t ox (.const .nilIface) .nilIface .nilIface) = some () := by
        unfold eqGuard
        cases ox <;> rfl
      rw [prun_bind g]
      show prun P (Op.equal t .nilIface .nilIface >>= fun b => (pure (Value.bool b) : Sem Value)) = _
      rw [prun_bind heq]; rfl
    simp only [plain, scalar, Bool.and_self, this]
  · cases hv
    simp only [plain, scalar, Bool.false_and, eql, hu]
  · cases hv
    have : prun P (do eqGuard .neq t ox (.const .nilIface) .nilIface .nilIface; binOp .neq t .nilIface .nilIface) = some (.bool false) := by
      have g : prun P (eqGuard .neq t ox (.const .nilIface) .nilIface .nilIface) = some () := by
        unfold eqGuard
        cases ox <;> rfl
      rw [prun_bind g]
      show prun P (Op.equal t .nilIface .nilIface >>= fun b => (pure (Value.bool !b) : Sem Value)) = _
      rw [prun_bind heq]; rfl
    simp only [plain, scalar, Bool.and_self, this]
  · cases hv
    simp only [plain, scalar, Bool.false_and, eql, hu, Bool.not_false]
  · cases hv

theorem xnilP_ok {op : BinOp} {t e : TypeId} {x v : Value} {ox : Operand} {h : AH} (hu : P.underlying t = some (.pointer e)) :
    xnilP op x = some v → (match plain x && plain (.pointer none) with
    | true => match prun P (do eqGuard op t ox (.const (.pointer none)) x (.pointer none); binOp op t x (.pointer none)) with
      | some v => match plain v with
        | true => some v
        | false => none
      | none => none
    | false => match eql P h t x (.pointer none) with
      | some b => match op with
        | .eql => some (.bool b)
        | .neq => some (.bool !b)
        | _ => none
      | none => none) = some v := by
  intro hv
  unfold xnilP at hv
  have heq : prun P (Op.equal t (.pointer none) (.pointer none)) = some true := by
    unfold Op.equal Op.maxDepth
    unfold Op.equalIn
    rw [prun_bind (prun_underlying hu)]
    rfl
  split at hv
  · cases hv
    have : prun P (do eqGuard .eql t ox (.const (.pointer none)) (.pointer none) (.pointer none); binOp .eql t (.pointer none) (.pointer none)) = some (.bool true) := by
      have g : prun P (eqGuard .eql t ox (.const (.pointer none)) (.pointer none) (.pointer none)) = some () := rfl
      rw [prun_bind g]
      show prun P (Op.equal t (.pointer none) (.pointer none) >>= fun b => (pure (Value.bool b) : Sem Value)) = _
      rw [prun_bind heq]; rfl
    simp only [plain, scalar, Bool.and_self, this]
  · cases hv
    simp only [plain, scalar, Bool.false_and, eql, hu]
  · cases hv
    have : prun P (do eqGuard .neq t ox (.const (.pointer none)) (.pointer none) (.pointer none); binOp .neq t (.pointer none) (.pointer none)) = some (.bool false) := by
      have g : prun P (eqGuard .neq t ox (.const (.pointer none)) (.pointer none) (.pointer none)) = some () := rfl
      rw [prun_bind g]
      show prun P (Op.equal t (.pointer none) (.pointer none) >>= fun b => (pure (Value.bool !b) : Sem Value)) = _
      rw [prun_bind heq]; rfl
    simp only [plain, scalar, Bool.and_self, this]
  · cases hv
    simp only [plain, scalar, Bool.false_and, eql, hu, Bool.not_false]
  · cases hv

theorem xnilM_ok {op : BinOp} {t kt e : TypeId} {x v : Value} {ox : Operand} {h : AH} (hu : P.underlying t = some (.map kt e)) :
    xnilM op x = some v → (match plain x && plain (.map none) with
    | true => match prun P (do eqGuard op t ox (.const (.map none)) x (.map none); binOp op t x (.map none)) with
      | some v => match plain v with
        | true => some v
        | false => none
      | none => none
    | false => match eql P h t x (.map none) with
      | some b => match op with
        | .eql => some (.bool b)
        | .neq => some (.bool !b)
        | _ => none
      | none => none) = some v := by
  intro hv
  unfold xnilM at hv
  have heq : prun P (Op.equal t (.map none) (.map none)) = some true := by
    unfold Op.equal Op.maxDepth
    unfold Op.equalIn
    rw [prun_bind (prun_underlying hu)]
    rfl
  split at hv
  · cases hv
    have : prun P (do eqGuard .eql t ox (.const (.map none)) (.map none) (.map none); binOp .eql t (.map none) (.map none)) = some (.bool true) := by
      have g : prun P (eqGuard .eql t ox (.const (.map none)) (.map none) (.map none)) = some () := rfl
      rw [prun_bind g]
      show prun P (Op.equal t (.map none) (.map none) >>= fun b => (pure (Value.bool b) : Sem Value)) = _
      rw [prun_bind heq]; rfl
    simp only [plain, scalar, Bool.and_self, this]
  · cases hv
    simp only [plain, scalar, Bool.false_and, eql, hu]
  · cases hv
    have : prun P (do eqGuard .neq t ox (.const (.map none)) (.map none) (.map none); binOp .neq t (.map none) (.map none)) = some (.bool false) := by
      have g : prun P (eqGuard .neq t ox (.const (.map none)) (.map none) (.map none)) = some () := rfl
      rw [prun_bind g]
      show prun P (Op.equal t (.map none) (.map none) >>= fun b => (pure (Value.bool !b) : Sem Value)) = _
      rw [prun_bind heq]; rfl
    simp only [plain, scalar, Bool.and_self, this]
  · cases hv
    simp only [plain, scalar, Bool.false_and, eql, hu]
    rfl
  · cases hv

theorem bbin_ok {op : BinOp} {t : TypeId} {x y v : Value} (hu : P.underlying t = some .bool) (h : bbin op x y = some v) : (plain x && plain y) = true ∧ plain v = true ∧ ∀ (ox oy : Operand), prun P (do eqGuard op t ox oy x y; binOp op t x y) = some v := by
  have heq : ∀ a b : Bool, prun P (Op.equal t (.bool a) (.bool b)) = some (a == b) := by
    intro a b
    unfold Op.equal Op.maxDepth
    unfold Op.equalIn
    rw [prun_bind (prun_underlying hu)]
    rfl
  unfold bbin at h
  split at h
  · rename_i a b
    cases h
    refine ⟨rfl, rfl, fun ox oy => ?_⟩
    have g : prun P (eqGuard .eql t ox oy (.bool a) (.bool b)) = some () := rfl
    rw [prun_bind g]
    show prun P (Op.equal t (.bool a) (.bool b) >>= fun b => (pure (Value.bool b) : Sem Value)) = _
    rw [prun_bind (heq a b)]; rfl
  · rename_i a b
    cases h
    refine ⟨rfl, rfl, fun ox oy => ?_⟩
    have g : prun P (eqGuard .neq t ox oy (.bool a) (.bool b)) = some () := rfl
    rw [prun_bind g]
    show prun P (Op.equal t (.bool a) (.bool b) >>= fun b => (pure (Value.bool !b) : Sem Value)) = _
    rw [prun_bind (heq a b)]; rfl
  · cases h

theorem intOpt_lo {lo : Option Value} {l : Nat} (h : loOf lo = some l) : intOpt lo = true := by
  cases lo with
  | none => rfl
  | some v =>
    simp only [loOf] at h
    unfold natOf at h
    split at h
    · rfl
    · cases h
theorem intOpt_mx {mx : Option Value} {c l : Nat} (h : mxOf mx c = some l) : intOpt mx = true := by
  cases mx with
  | none => rfl
  | some v =>
    simp only [mxOf] at h
    unfold natOf at h
    split at h
    · rfl
    · cases h
theorem intOpt_hi {hi mx : Option Value} {c l : Nat} (h : hiOf hi mx c = some l) : intOpt hi = true := by
  cases hi with
  | none => rfl
  | some v =>
    simp only [hiOf] at h
    unfold natOf at h
    split at h
    · rfl
    · cases h

theorem xsl_ok {n : Nat} {h : AH} {t elem : TypeId} {x v : Value} {lo hi mx : Option Value} (hu : P.underlying t = some (.slice elem)) (hn : sizeOf? P elem = some n) (hv : xsl n h x lo hi mx = some v) :
    (intOpt lo && intOpt hi && intOpt mx) = true ∧ slice P h t x lo hi mx = some v := by
  unfold xsl at hv
  split at hv
  · rename_i base len cap
    split at hv
    · rename_i l hh hl hhi
      have i1 := intOpt_lo hl
      have i2 := intOpt_hi hhi
      simp only [slice, hu, hn, hl, hhi, i1, i2, Bool.true_and]
      refine ⟨?_, hv⟩
      split at hv
      · split at hv
        · split at hv
          · rename_i m hm; exact intOpt_mx hm
          · cases hv
        · split at hv
          · cases hv
          · split at hv
            · rfl
            · rename_i u
              split at hv
              · rename_i m hm
                unfold natOf at hm
                split at hm
                · rfl
                · cases hm
              · cases hv
      · cases hv
      · split at hv
        · rename_i hm; exact intOpt_mx hm
        · cases hv
    · cases hv
  · cases hv

theorem xread_ok {ρ : Operand → Value} (hc : ∀ v, ρ (.const v) = v) {o : Oper} {h : AH} {v : Value} (hv : xread P ρ o h = some v) : readOp P ρ o h = some v := by
  obtain ⟨dst, op, type, pos, after, guard⟩ := o
  cases op with
  | load t a =>
    simp only [xread] at hv
    simp only [readOp]
    split at hv
    · rename_i n ha hn
      unfold ldn at hv
      split at hv
      · rename_i id off hx
        rw [hx]
        simp only [load, ha, hn]
        exact hv
      · cases hv
    · rename_i ha
      unfold ld1 at hv
      split at hv
      · rename_i id off hx
        rw [hx]
        simp only [load, ha]
        exact hv
      · cases hv
    · cases hv
  | convert s d x =>
    simp only [xread] at hv
    split at hv
    · rename_i k k' hs hd
      simp only [readOp]
      unfold xconv at hv
      split at hv
      · rename_i k2 n hx
        cases hv
        have : prun P (convert s d (.int k2 n)) = some (.int k' (k'.wrap n)) := by
          unfold convert
          rw [prun_bind (prun_underlying hs), prun_bind (prun_underlying hd)]
          rfl
        simp only [hx, this, plain, scalar]
      · cases hv
    · rename_i k hs hd
      simp only [readOp]
      unfold xrune at hv
      split at hv
      · rename_i k2 n hx
        cases hv
        have : prun P (convert s d (.int k2 n)) = some (.string (Utf8.encode n)) := by
          unfold convert
          rw [prun_bind (prun_underlying hs), prun_bind (prun_underlying hd)]
          rfl
        simp only [hx, this, plain, scalar]
      · cases hv
    · rename_i hs hd
      simp only [readOp]
      unfold xss at hv
      split at hv
      · rename_i n hx
        cases hv
        have : prun P (convert s d (.string n)) = some (.string n) := by
          unfold convert
          rw [prun_bind (prun_underlying hs), prun_bind (prun_underlying hd)]
          rfl
        simp only [hx, this, plain, scalar]
      · cases hv
    · rename_i e hs hd
      split at hv
      · rename_i he
        unfold xb2s at hv
        simp only [readOp]
        split at hv
        · rename_i id off n cap hx
          simp only [hx, hs, hd, he]
          exact hv
        · cases hv
      · cases hv
    · exact hv
  | slice t x lo hi mx =>
    simp only [xread] at hv
    simp only [readOp]
    split at hv
    · rename_i hu
      split at hv
      · unfold xslS at hv
        split at hv
        · rename_i s hx
          split at hv
          · rename_i l hh hl hhi
            have i1 := intOpt_lo hl
            have i2 := intOpt_hi hhi
            simp only [i1, i2, Bool.true_and, slice, hu, hx, hl, Option.map_none, hhi]
            exact hv
          · cases hv
        · cases hv
      · cases hv
    · rename_i elem hu
      split at hv
      · rename_i n hn
        obtain ⟨a, b⟩ := xsl_ok hu hn hv
        rw [a]
        exact b
      · cases hv
    · rename_i n elem hu
      split at hv
      · rename_i z hz
        unfold xslA at hv
        split at hv
        · rename_i id off hx
          split at hv
          · rename_i l hh m hl hhi hm
            have i1 := intOpt_lo hl
            have i2 := intOpt_hi hhi
            have i3 := intOpt_mx hm
            simp only [i1, i2, i3, Bool.true_and, slice, hu, hx, hl, hhi, hm, hz]
            exact hv
          · cases hv
        · cases hv
      · cases hv
    · cases hv
  | binOp op t x y u =>
    simp only [xread] at hv
    split at hv
    · obtain ⟨a, b, c⟩ := ibin_ok (P := P) hv
      simp only [readOp, a, c, b]
    · obtain ⟨a, b, c⟩ := sbin_ok (P := P) hv
      simp only [readOp, a, c, b]
    · rename_i ms hu
      simp only [readOp, hc]
      exact xnilI_ok hu hv
    · rename_i e hu
      simp only [readOp, hc]
      exact xnilP_ok hu hv
    · rename_i kt e hu
      simp only [readOp, hc]
      exact xnilM_ok hu hv
    · rename_i hu
      obtain ⟨a, b, c⟩ := bbin_ok (P := P) hu hv
      simp only [readOp, a, c, b]
    · unfold xeqI at hv
      split at hv
      · rename_i u w hx
        simp only [readOp, hx]
        simp only [plain, scalar, Bool.false_and]
        exact hv
      · cases hv
    · exact hv
  | call c =>
    obtain ⟨callee, args, argTypes⟩ := c
    cases callee with
    | builtin b =>
      cases b with
      | len =>
        simp only [xread] at hv
        simp only [readOp]
        split at hv
        · rename_i x t hx ht
          simp only [hx, ht]
          split at hv
          · rename_i hu
            unfold xlenS at hv
            split at hv
            · rename_i s hs; simp only [hu, hs]; exact hv
            · cases hv
          · rename_i hu
            unfold xlenL at hv
            split at hv
            · rename_i hs; simp only [hu, hs]; exact hv
            · cases hv
          · rename_i hu; simp only [hu]; exact hv
          · simp only [readOp, hx, ht] at hv; exact hv
        · cases hv
      | _ => exact hv
    | _ => exact hv
  | _ => exact hv

theorem kpure_ok {β : Type} {ρ : Operand → Value} {o : Oper} {k : Value → Option β} {r : β} (h : kpure P ρ o k = some r) : ∃ v, pureOp P ρ o = some v ∧ k v = some r := by
  obtain ⟨dst, op, type, pos, after, guard⟩ := o
  cases op with
  | move x => exact ⟨_, rfl, h⟩
  | assign x => exact ⟨_, rfl, h⟩
  | makeInterface t x =>
    simp only [kpure] at h
    simp only [pureOp]
    split at h
    · cases h
    · rename_i d hni hu
      refine ⟨_, ?_, h⟩
      cases d <;> first
        | exact absurd rfl (hni _)
        | rw [hu]
    · cases h
  | makeFunc fn a b => exact ⟨_, rfl, h⟩
  | _ =>
    simp only [kpure] at h
    obtain ⟨v, a, b⟩ := bindO_some h
    exact ⟨v, xpure_ok a, b⟩

theorem xcells_some {n : Nat} {x : Value} {cs : List Value} (h : xcells n x = some cs) : (cellsL x).all oneCell = true ∧ Nat.beq (cellsL x).length n = true ∧ cs = cellsL x := by
  unfold xcells at h
  split at h
  · rename_i hb
    cases h
    rw [Bool.and_eq_true] at hb
    exact ⟨hb.1, hb.2, rfl⟩
  · cases h

theorem kmk_ok {β : Type} {ρ : Operand → Value} {o : Oper} {k : AObj → (Nat → Value) → Option β} {r : β} (h : kmk P ρ o k = some r) : ∃ ob f, mkObj P ρ o = some (ob, f) ∧ k ob f = some r := by
  obtain ⟨dst, op, type, pos, after, guard⟩ := o
  have gen : ∀ o : Oper, bindO (mkObj P ρ o) (fun x => k x.1 x.2) = some r → ∃ ob f, mkObj P ρ o = some (ob, f) ∧ k ob f = some r := by
    intro o h
    obtain ⟨⟨ob, f⟩, a, b⟩ := bindO_some h
    exact ⟨ob, f, a, b⟩
  cases op with
  | alloc t =>
    simp only [kmk] at h
    simp only [mkObj]
    split at h
    · rename_i z n hz hn
      split at h
      · rename_i hb
        exact ⟨_, _, by simp only [hz, hn, hb]; rfl, h⟩
      · cases h
    · cases h
  | box t x =>
    simp only [kmk] at h
    simp only [mkObj]
    split at h
    · rename_i n hn
      obtain ⟨cs, hcs, hk⟩ := bindO_some h
      obtain ⟨a, b, rfl⟩ := xcells_some hcs
      exact ⟨_, _, by simp only [hn, a, b]; rfl, hk⟩
    · cases h
  | buildSlice t len parts =>
    simp only [kmk] at h
    simp only [mkObj, buildSlice]
    split at h
    · rename_i elem hu
      split at h
      · rename_i n z hn hz
        split at h
        · rename_i hb
          obtain ⟨cs, hcs, hk⟩ := bindO_some h
          unfold xrow at hcs
          have e : (List.map (fun p => (p.1 * n, n, ρ p.2)) parts.toList) = ((parts.toList.map fun p => (p.1, ρ p.2)).map fun p => (p.1 * n, n, p.2)) := by simp
          rw [e, fillC_map] at hcs
          refine ⟨_, _, ?_, hk⟩
          simp only [hu, hn, hz, hb]
          split at hcs
          · rename_i cs' hf
            split at hcs
            · rename_i ha
              cases hcs
              simp only [hf, ha]
            · cases hcs
          · cases hcs
        · cases h
      · cases h
    · cases h
  | makeMap t res =>
    cases res with
    | none =>
      simp only [kmk] at h
      simp only [mkObj]
      split at h
      · rename_i p hp
        exact ⟨_, _, by simp only [hp], h⟩
      · cases h
    | some _ => exact gen _ h
  | makeSlice t l c =>
    simp only [kmk] at h
    simp only [mkObj, makeSlice]
    split at h
    · rename_i elem hu
      split at h
      · rename_i n z hn hz
        split at h
        · rename_i hb
          rw [Bool.and_eq_true] at hb
          obtain ⟨⟨ob, a, b⟩, hx, hk⟩ := bindO_some h
          unfold xmks at hx
          split at hx
          · rename_i l' c' hl hc
            split at hx
            · rename_i hcond
              cases hx
              refine ⟨_, _, ?_, hk⟩
              simp only [hu, hl, hc, hn, hz, hcond, hb.1, hb.2, Bool.and_self]
            · cases hx
          · cases hx
        · cases h
      · cases h
    · cases h
  | convert s d x =>
    simp only [kmk] at h
    simp only [mkObj]
    split at h
    · rename_i e hs hd
      split at h
      · rename_i he
        obtain ⟨p, hx, hk⟩ := bindO_some h
        unfold xsb at hx
        split at hx
        · rename_i s hs'
          cases hx
          exact ⟨_, _, by simp only [hs, hd, hs', he], hk⟩
        · cases hx
      · cases h
    · cases h
  | _ => exact gen _ h

theorem xappC_ok {h : AH} {elem : TypeId} {size : Nat} {z s v : Value} {new : List Value} {n : Nat} {h' : AH} (hz : zeroOf? P elem = some z) (hl : Nat.beq (cellsL z).length size = true)
    (hv : xappC (P.bytesOf elem) size h s new n = some (v, h')) : appendCells P h elem size s new n = some (v, h') := by
  unfold xappC at hv
  unfold appendCells
  split at hv
  · rename_i base len cap
    simp only
    split at hv
    · rename_i hc
      split at hv
      · rename_i hn
        simp only [hc, hn]
        exact hv
      · rename_i hn
        simp only [hc, hn, hz]
        split at hv
        · rename_i old h1 h2
          simp only [h1, h2, hl, AH.alloc]
          exact hv
        · cases hv
    · rename_i id off hc
      simp only [hc]
      split at hv
      · cases hv
      · rename_i hcap
        simp only [hcap]
        split at hv
        · exact hv
        · rename_i n hn
          split at hv
          · rename_i cs e ho ha
            simp only [ho, ha]
            split at hv
            · cases hv
            · rename_i he
              simp only [he]
              split at hv
              · rename_i cs' hw
                simp only [hw]
                exact hv
              · rename_i hw
                simp only [hw, hz]
                split at hv
                · rename_i old h1 h2
                  simp only [h1, h2, hl, AH.alloc]
                  exact hv
                · cases hv
          · cases hv
    · cases hv
  · cases hv

theorem kact_ok {β : Type} {F : CallH} {ρ : Operand → Value} {o : Oper} {h : AH} {k : Value → AH → Option β} {r : β} (hk : kact P F ρ o h k = some r) : ∃ v h', actOp P F ρ o h = some (v, h') ∧ k v h' = some r := by
  obtain ⟨dst, op, type, pos, after, guard⟩ := o
  have gen : ∀ o : Oper, bindO (actOp P F ρ o h) (fun x => k x.1 x.2) = some r → ∃ v h', actOp P F ρ o h = some (v, h') ∧ k v h' = some r := by
    intro o h
    obtain ⟨⟨ob, f⟩, a, b⟩ := bindO_some h
    exact ⟨ob, f, a, b⟩
  cases op with
  | store t a x =>
    simp only [kact] at hk
    simp only [actOp]
    split at hk
    · rename_i n hn
      obtain ⟨h', hx, hk⟩ := bindO_some hk
      unfold xst at hx
      split at hx
      · rename_i id off ha
        split at hx
        · rename_i hb
          refine ⟨undefV, h', ?_, hk⟩
          simp only [ha, hn, hb, hx]
        · cases hx
      · cases hx
    · cases hk
  | range t x =>
    simp only [kact] at hk
    simp only [actOp]
    split at hk
    · rename_i hu
      obtain ⟨⟨v, h'⟩, hx, hk⟩ := bindO_some hk
      unfold xrange at hx
      split at hx
      · rename_i s hs
        cases hx
        exact ⟨_, _, by simp only [hu, hs, AH.alloc]; rfl, hk⟩
      · cases hx
    · cases hk
  | next it str =>
    cases str with
    | true =>
      simp only [kact] at hk
      simp only [actOp]
      obtain ⟨⟨v, h'⟩, hx, hk⟩ := bindO_some hk
      refine ⟨v, h', ?_, hk⟩
      unfold xnext at hx
      split at hx
      · rename_i id ho
        simp only [ho]
        exact hx
      · cases hx
    | false => exact gen _ hk
  | call c =>
    obtain ⟨callee, args, argTypes⟩ := c
    cases callee with
    | value f =>
      simp only [kact] at hk
      obtain ⟨⟨v, h'⟩, hx, hk⟩ := bindO_some hk
      exact ⟨v, h', hx, hk⟩
    | invoke _ _ => exact gen _ hk
    | builtin b =>
      cases b with
      | append =>
        simp only [kact] at hk
        simp only [actOp]
        split at hk
        · rename_i st xt s x hst hxt hargs
          simp only [hargs]
          split at hk
          · rename_i elem xd hu hu'
            split at hk
            · rename_i size z hn hz
              split at hk
              · rename_i hb hxd
                obtain ⟨⟨v, h'⟩, hx, hk⟩ := bindO_some hk
                refine ⟨v, h', ?_, hk⟩
                unfold append
                simp only [hst, hxt, hu, hu', hn]
                unfold xapp at hx
                split at hx
                · rename_i n hlen
                  split at hx
                  · rename_i new hnew
                    have := xappC_ok hz hb hx
                    cases xd <;> first
                      | (simp only [hlen, hnew]; exact this)
                      | exact absurd hxd (by simp)
                  · cases hx
                · cases hx
              · cases hk
            · cases hk
          · cases hk
        · cases hk
      | copy =>
        simp only [kact] at hk
        simp only [actOp]
        split at hk
        · rename_i dt d x hdt hargs
          simp only [hargs]
          split at hk
          · rename_i elem hu
            split at hk
            · rename_i size hn
              obtain ⟨⟨v, h'⟩, hx, hk⟩ := bindO_some hk
              refine ⟨v, h', ?_, hk⟩
              unfold copy
              unfold xcopy at hx
              split at hx
              · rename_i base len cap m hd hm
                simp only [hdt, hu, hd, hm, hn]
                exact hx
              · cases hx
            · cases hk
          · cases hk
        · cases hk
      | _ => exact gen _ hk
  | _ => exact gen _ hk
end Go.Ev


/- What the continuation form says comes to pass: regions, code, functions. -/
namespace Go.Ev
variable {P : Program} {G B : Nat} {β : Type}

/-- Registers in either form. -/
def Alike (s : T Value) (r : RF) : Prop := ∀ t, getR s t = r t
theorem Alike.eval {s : T Value} {r : RF} (h : Alike s r) : eval s = evF r := by
  funext x
  cases x with
  | tmp t => exact h t
  | _ => rfl
theorem evF_const (r : RF) (v : Value) : evF r (.const v) = v := rfl

theorem Alike.put {s : T Value} {r : RF} (h : Alike s r) (t : Nat) (v : Value) : Alike (s.set t (some v)) (r.put t v) := by
  intro u
  rw [getR_set]
  unfold RF.put
  by_cases hu : u = t
  · subst hu; simp
  · have : Nat.beq u t = false := by
      cases e : Nat.beq u t with
      | true => exact absurd (Nat.eq_of_beq_eq_true e) hu
      | false => rfl
    rw [if_neg hu, this]
    exact h u

theorem kput_ok {n : Nat} {s : T Value} {r : RF} (h : Alike s r) {d : Option Tmp} {v : Value} {k : RF → Option β} {x : β} (hk : kput n r d v k = some x) :
    ∃ s' r', putR s n d v = some s' ∧ Alike s' r' ∧ k r' = some x := by
  cases d with
  | none => exact ⟨s, r, rfl, h, hk⟩
  | some t =>
    simp only [kput] at hk
    split at hk
    · rename_i hb
      exact ⟨_, _, by simp only [putR, hb], h.put t v, hk⟩
    · cases hk

theorem Alike.learnt {s : T Value} {r : RF} (h : Alike s r) {t : Nat} {v : Value} (hv : r t = v) : Alike s (r.put t v) := by
  intro u
  unfold RF.put
  split
  · rename_i hb
    have := Nat.eq_of_beq_eq_true hb
    subst this
    rw [h, hv]
  · exact h u

theorem kst_ok {ops : List Oper} {s : T Value} : ∀ (n j : Nat) (r : RF) (kT kF kU : RF → Option β) (x : β), Alike s r → kst ops n j r kT kF kU = some x →
    ∃ oj t r', ops[j]? = some oj ∧ oj.dst = some t ∧ Alike s r' ∧ ((getR s t = .bool true ∧ kT r' = some x) ∨ (getR s t = .bool false ∧ kF r' = some x) ∨ ((∃ c, getR s t = .tuple c) ∧ kU r' = some x))
  | 0, j, r, kT, kF, kU, x, ha, h => by cases h
  | n + 1, j, r, kT, kF, kU, x, ha, h => by
    simp only [kst] at h
    split at h
    · rename_i oj hoj
      split at h
      · rename_i t hd
        refine ⟨oj, t, ?_⟩
        have def_ : ∀ r : RF, Alike s r → condO (r t) (kT (r.put t (.bool true))) (kF (r.put t (.bool false))) = some x →
            ∃ r', ops[j]? = some oj ∧ oj.dst = some t ∧ Alike s r' ∧ ((getR s t = .bool true ∧ kT r' = some x) ∨ (getR s t = .bool false ∧ kF r' = some x) ∨ ((∃ c, getR s t = .tuple c) ∧ kU r' = some x)) := by
          intro r ha h
          unfold condO at h
          split at h
          · rename_i hb; exact ⟨_, hoj, hd, ha.learnt hb, .inl ⟨by rw [ha t, hb], h⟩⟩
          · rename_i hb; exact ⟨_, hoj, hd, ha.learnt hb, .inr (.inl ⟨by rw [ha t, hb], h⟩)⟩
          · cases h
        have und_ : ∀ r : RF, Alike s r → (match r t with | .tuple _ => kU r | _ => none) = some x →
            ∃ r', ops[j]? = some oj ∧ oj.dst = some t ∧ Alike s r' ∧ ((getR s t = .bool true ∧ kT r' = some x) ∨ (getR s t = .bool false ∧ kF r' = some x) ∨ ((∃ c, getR s t = .tuple c) ∧ kU r' = some x)) := by
          intro r ha h
          split at h
          · rename_i c hb; exact ⟨_, hoj, hd, ha, .inr (.inr ⟨⟨c, by rw [ha t, hb]⟩, h⟩)⟩
          · cases h
        split at h
        · exact def_ r ha h
        · obtain ⟨_, _, r', _, _, ha', h' | h' | h'⟩ := kst_ok n _ r _ _ _ x ha h
          · exact def_ r' ha' h'.2
          · exact und_ r' ha' h'.2
          · exact und_ r' ha' h'.2
        · obtain ⟨_, _, r', _, _, ha', h' | h' | h'⟩ := kst_ok n _ r _ _ _ x ha h
          · exact und_ r' ha' h'.2
          · exact def_ r' ha' h'.2
          · exact und_ r' ha' h'.2
      · cases h
    · cases h

theorem kguard_ok {ops : List Oper} {s : T Value} {r : RF} (h : Alike s r) {o : Oper} {a b : RF → Option β} {x : β} (hk : kguard ops r o a b = some x) :
    ∃ r', Alike s r' ∧ ((wanted ops s o = some true ∧ a r' = some x) ∨ (wanted ops s o = some false ∧ b r' = some x)) := by
  unfold kguard at hk
  unfold wanted
  split at hk
  · rename_i hg; rw [hg]; exact ⟨r, h, .inl ⟨rfl, hk⟩⟩
  · rename_i j hg
    rw [hg]
    obtain ⟨oj, t, r', h1, h2, ha, h' | h' | ⟨⟨c, h'⟩, h3⟩⟩ := kst_ok _ _ _ _ _ _ x h hk
    · exact ⟨r', ha, .inl ⟨by simp only [h1, h2, h'.1]; rfl, h'.2⟩⟩
    · exact ⟨r', ha, .inr ⟨by simp only [h1, h2, h'.1]; rfl, h'.2⟩⟩
    · exact ⟨r', ha, .inr ⟨by simp only [h1, h2, h'], h3⟩⟩
  · rename_i j hg
    rw [hg]
    obtain ⟨oj, t, r', h1, h2, ha, h' | h' | ⟨⟨c, h'⟩, h3⟩⟩ := kst_ok _ _ _ _ _ _ x h hk
    · exact ⟨r', ha, .inr ⟨by simp only [h1, h2, h'.1]; rfl, h'.2⟩⟩
    · exact ⟨r', ha, .inl ⟨by simp only [h1, h2, h'.1]; rfl, h'.2⟩⟩
    · exact ⟨r', ha, .inr ⟨by simp only [h1, h2, h'], h3⟩⟩

theorem kop_ok {F : CallH} {ρ : Operand → Value} (hc : ∀ v, ρ (.const v) = v) {o : Oper} {h : AH} {k : Value → AH → Option β} {x : β} (hk : kop P F ρ o h k = some x) :
    ∃ v h', anyOp P F ρ o h = some (v, h') ∧ k v h' = some x := by
  unfold kop at hk
  unfold anyOp
  split at hk
  · rename_i hcl
    obtain ⟨v, a, b⟩ := kpure_ok hk
    exact ⟨v, h, by simp only [hcl, a], b⟩
  · rename_i hcl
    obtain ⟨v, a, b⟩ := bindO_some hk
    exact ⟨v, h, by simp only [hcl, xread_ok hc a], b⟩
  · rename_i hcl
    obtain ⟨ob, f, a, b⟩ := kmk_ok hk
    exact ⟨_, _, by simp only [hcl, makeOp, a]; rfl, b⟩
  · rename_i hcl
    obtain ⟨v, h', a, b⟩ := kact_ok hk
    exact ⟨v, h', by simp only [hcl, a], b⟩

theorem kops_ok {F : CallH} {n : Nat} {ops : List Oper} : ∀ (rest : List Oper) (s : T Value) (r : RF) (h : AH) (k : RF → AH → Option β) (x : β), Alike s r → kops P F n ops rest r h k = some x →
    ∃ s' r' h', evList P F ops rest ⟨s, n, h⟩ = some ⟨s', n, h'⟩ ∧ Alike s' r' ∧ k r' h' = some x
  | [], s, r, h, k, x, ha, hk => ⟨s, r, h, rfl, ha, hk⟩
  | o :: rest, s, r, h, k, x, ha, hk => by
    simp only [kops] at hk
    simp only [evList]
    obtain ⟨r, ha, ⟨hw, hk⟩ | ⟨hw, hk⟩⟩ := kguard_ok ha hk
    · simp only [hw]
      obtain ⟨v, h1, hany, hk⟩ := kop_ok (evF_const r) hk
      rw [← ha.eval] at hany
      obtain ⟨s1, r1, hp, ha1, hk⟩ := kput_ok ha hk
      simp only [hany, hp]
      exact kops_ok rest s1 r1 h1 k x ha1 hk
    · simp only [hw]
      obtain ⟨s1, r1, hp, ha1, hk⟩ := kput_ok ha hk
      simp only [hp]
      exact kops_ok rest s1 r1 h k x ha1 hk

inductive RdsR : List (Nat × T Value × Value) → List (Nat × RF × Value) → Prop where
  | nil : RdsR [] []
  | cons {i : Nat} {s : T Value} {r : RF} {v : Value} {xs : List (Nat × T Value × Value)} {ys : List (Nat × RF × Value)} (ha : Alike s r) (h : RdsR xs ys) : RdsR ((i, s, v) :: xs) ((i, r, v) :: ys)

structure DsR (d : DS) (e : KD) : Prop where
  regs : Alike d.regs e.regs
  h : d.h = e.h
  hist : d.hist = e.hist
  pend : d.pend = e.pend
  rds : RdsR d.rds e.rds
  acts : d.acts = e.acts

theorem kdr_ok {F : CallH} {n : Nat} {ops : List Oper} {ms : List Nat} {base : Nat} : ∀ (rest : List Oper) (i : Nat) (d : DS) (e : KD) (k : KD → Option β) (x : β), DsR d e → kdr P F n ops ms base rest i e k = some x →
    ∃ d' e', drun P F ops ms base n rest i d = some d' ∧ DsR d' e' ∧ k e' = some x
  | [], i, d, e, k, x, hd, hk => ⟨d, e, rfl, hd, hk⟩
  | o :: rest, i, d, e, k, x, hd, hk => by
    simp only [kdr] at hk
    simp only [drun]
    obtain ⟨q, hq, ⟨hw, hk⟩ | ⟨hw, hk⟩⟩ := kguard_ok hd.regs hk
    · simp only [hw]
      split at hk
      · rename_i hcl
        obtain ⟨v, hv, hk⟩ := kpure_ok hk
        rw [← hq.eval] at hv
        obtain ⟨s1, r1, hp, ha1, hk⟩ := kput_ok hq hk
        simp only [hcl, hv, hp]
        exact kdr_ok rest _ _ _ k x (by exact ⟨ha1, hd.h, hd.hist, hd.pend, hd.rds, hd.acts⟩) hk
      · rename_i hcl
        obtain ⟨v, hv, hk⟩ := bindO_some hk
        have hv := xread_ok (evF_const _) hv
        rw [← hq.eval, ← hd.h] at hv
        obtain ⟨s1, r1, hp, ha1, hk⟩ := kput_ok hq hk
        simp only [hcl, hv, hp]
        exact kdr_ok rest _ _ _ k x (by exact ⟨ha1, hd.h, hd.hist, hd.pend, .cons hq hd.rds, hd.acts⟩) hk
      · rename_i hcl
        obtain ⟨ob, f, hv, hk⟩ := kmk_ok hk
        rw [← hq.eval] at hv
        obtain ⟨s1, r1, hp, ha1, hk⟩ := kput_ok hq hk
        simp only [hcl, hv, hp]
        exact kdr_ok rest _ _ _ k x (by exact ⟨ha1, hd.h, hd.hist, by simp only [hd.pend], hd.rds, hd.acts⟩) hk
      · rename_i hcl
        obtain ⟨v, h', hv, hk⟩ := kact_ok hk
        rw [← hq.eval, ← hd.h, ← hd.pend] at hv
        obtain ⟨s1, r1, hp, ha1, hk⟩ := kput_ok hq hk
        simp only [hcl, hv, hp]
        exact kdr_ok rest _ _ _ k x (by exact ⟨ha1, rfl, by simp only [hd.hist], by simp only [hd.pend], hd.rds, by simp only [hd.acts]⟩) hk
    · simp only [hw]
      obtain ⟨s1, r1, hp, ha1, hk⟩ := kput_ok hq hk
      simp only [hp]
      exact kdr_ok rest _ _ _ k x (by exact ⟨ha1, hd.h, hd.hist, hd.pend, hd.rds, hd.acts⟩) hk

theorem rdok_some {x : Option Value} {v : Value} (h : rdok x v = true) : ∃ u, x = some u ∧ valueEq u v = true := by
  unfold rdok at h
  split at h
  · exact ⟨_, rfl, h⟩
  · cases h

theorem kread1_ok {ρ : Operand → Value} (hc : ∀ v, ρ (.const v) = v) {o : Oper} {v : Value} {me : Nat} : ∀ (ps : List (AH × Nat)) (k : Option β) (x : β), kread1 P ρ o v me ps k = some x →
    (ps.all fun p => Nat.beq p.2 me || match readOp P ρ o p.1 with
      | some u => valueEq u v
      | none => false) = true ∧ k = some x
  | [], k, x, h => ⟨rfl, h⟩
  | p :: ps, k, x, h => by
    simp only [kread1] at h
    split at h
    · rename_i hb
      obtain ⟨a, b⟩ := kread1_ok hc ps k x h
      exact ⟨by rw [List.all_cons, a, hb]; rfl, b⟩
    · rename_i hb
      unfold andO at h
      split at h
      · rename_i hr
        obtain ⟨u, hu, hv⟩ := rdok_some hr
        obtain ⟨a, b⟩ := kread1_ok hc ps k x h
        refine ⟨?_, b⟩
        rw [List.all_cons, a, xread_ok hc hu]
        simp [hv]
      · cases h

theorem krds_ok {ops : List Oper} {ms : List Nat} {acts : List Nat} {hist : List AH} : ∀ (xs : List (Nat × T Value × Value)) (rs : List (Nat × RF × Value)) (k : Option β) (x : β), RdsR xs rs → krds P ops ms acts hist rs k = some x →
    xs.all (readOk P ops ms acts hist) = true ∧ k = some x
  | _, _, k, x, .nil, h => ⟨rfl, h⟩
  | _, _, k, x, .cons (i := i) (s := s) (r := r) (v := v) (xs := xs) (ys := ys) ha hr, h => by
    simp only [krds] at h
    split at h
    · rename_i o ho
      obtain ⟨a, b⟩ := kread1_ok (evF_const _) _ _ _ h
      obtain ⟨c, d⟩ := krds_ok xs ys k x hr b
      refine ⟨?_, d⟩
      rw [List.all_cons, c, Bool.and_true]
      unfold readOk
      simp only [ho, ha.eval]
      exact a
    · cases h

theorem kdrawn_ok {F : CallH} {n : Nat} {ops : List Oper} {s : T Value} {r : RF} {h : AH} {k : RF → AH → Option β} {x : β} (ha : Alike s r) (hk : kdrawn P F n ops r h k = some x) :
    ∃ s' r' h', drawn P F ops ⟨s, n, h⟩ = some ⟨s', n, h'⟩ ∧ Alike s' r' ∧ k r' h' = some x := by
  unfold kdrawn at hk
  split at hk
  · rename_i hreg
    obtain ⟨d', e', h1, h2, h3⟩ := kdr_ok ops 0 ⟨s, { h with next := h.next + ops.length }, [{ h with next := h.next + ops.length }], [], [], []⟩ _ _ x ⟨ha, rfl, rfl, rfl, .nil, rfl⟩ hk
    obtain ⟨h4, h5⟩ := krds_ok _ _ _ _ h2.rds h3
    refine ⟨d'.regs, e'.regs, flush d'.pend d'.h, ?_, h2.regs, by rw [h2.pend, h2.h]; exact h5⟩
    unfold drawn
    simp only [hreg, h1]
    rw [← h2.acts, ← h2.hist] at h4
    simp only [h4]
  · cases hk

section
variable {F : CallH}

theorem Alike.knows {s : T Value} {r : RF} (h : Alike s r) {c : Operand} {b : Bool} (hc : evF r c = .bool b) : Alike s (learn r c b) := by
  cases c with
  | tmp t => exact h.learnt hc
  | _ => exact h

/-- Code in continuation form. -/
theorem kcode_ok (hdr : DrawnOk P G) (hf : FnsOk P G F) (n m : Nat) : ∀ (c : Code) (r : RF) (h : AH) (k : KC β) (x : β) (s : T Value) (φ : Ren) (a : Act) (w : World) (Q : Exit → Act → World → Prop),
    codeOk G c = true → kcode P F n m c r h k = some x → Alike s r → StR G B φ ⟨s, n, h⟩ a w →
    (∀ e s' r' h' φ' a' w', k e r' h' = some x → Alike s' r' → StR G B φ' ⟨s', n, h'⟩ a' w' → Stp φ h w φ' h' w' → Q (exitOf e) a' w') → Body P c Q a w := by
  intro c
  induction c with
  | skip =>
    intro r h k x s φ a w Q hok hk ha hs hq
    exact wp_skip (hq _ _ _ _ φ a w hk ha hs (.refl ..))
  | region id ops dr =>
    intro r h k x s φ a w Q hok hk ha hs hq
    cases dr with
    | false =>
      simp only [kcode] at hk
      obtain ⟨s', r', h', h1, h2, h3⟩ := kops_ok _ _ _ _ _ _ ha hk
      refine wp_region ?_
      rw [List.range_eq_range']
      exact evList_ok hf hok ops.size 0 _ a w φ (by omega) (by simpa using h1) hs fun φ' a' w' hs' ht => hq .normal s' r' h' φ' a' w' h3 h2 hs' ht
    | true =>
      simp only [kcode] at hk
      obtain ⟨s', r', h', h1, h2, h3⟩ := kdrawn_ok ha hk
      exact hdr F id ops _ _ B φ a w Q hf hok h1 hs fun φ' a' w' hs' ht => hq .normal s' r' h' φ' a' w' h3 h2 hs' ht
  | seq y z ihy ihz =>
    intro r h k x s φ a w Q hok hk ha hs hq
    simp only [codeOk, Bool.and_eq_true] at hok
    simp only [kcode] at hk
    refine wp_seq (ihy r h _ x s φ a w _ hok.1 hk ha hs fun e s' r' h' φ' a' w' hk' ha' hs' ht => ?_).wp
    cases e with
    | normal => exact (ihz r' h' k x s' φ' a' w' Q hok.2 hk' ha' hs' fun e s'' r'' h'' φ'' a'' w'' hk'' ha'' hs'' ht' => hq e s'' r'' h'' φ'' a'' w'' hk'' ha'' hs'' (ht.trans ht')).wp
    | exit j => exact hq _ s' r' h' φ' a' w' hk' ha' hs' ht
    | ret => exact hq _ s' r' h' φ' a' w' hk' ha' hs' ht
  | cond c y z ihy ihz =>
    intro r h k x s φ a w Q hok hk ha hs hq
    simp only [codeOk, Bool.and_eq_true] at hok
    have hv := eval_ok hs.regs hs.sim hok.1.1
    simp only [kcode] at hk
    rw [show eval s c = evF r c by rw [ha.eval]] at hv
    unfold condO at hk
    split at hk
    · rename_i hb
      exact wp_cond_true ((hv.bool_iff true).1 hb) (ihy _ h k x s φ a w Q hok.1.2 hk (ha.knows hb) hs hq).wp
    · rename_i hb
      exact wp_cond_false ((hv.bool_iff false).1 hb) (ihz _ h k x s φ a w Q hok.2 hk (ha.knows hb) hs hq).wp
    · cases hk
  | block id b ih =>
    intro r h k x s φ a w Q hok hk ha hs hq
    simp only [codeOk] at hok
    simp only [kcode] at hk
    refine wp_block (ih r h _ x s φ a w _ hok hk ha hs fun e s' r' h' φ' a' w' hk' ha' hs' ht => ?_).wp
    cases e with
    | normal => exact hq .normal s' r' h' φ' a' w' hk' ha' hs' ht
    | exit j =>
      simp only at hk'
      split at hk'
      · rename_i hj
        have hj := Nat.eq_of_beq_eq_true hj
        subst hj
        simp only [exitOf, Exit.inBlock, if_true]
        exact hq .normal s' r' h' φ' a' w' hk' ha' hs' ht
      · rename_i hj
        have hj : ¬ j = id := fun e => by subst e; simp at hj
        simp only [exitOf, Exit.inBlock, hj, if_false]
        exact hq (.exit j) s' r' h' φ' a' w' hk' ha' hs' ht
    | ret => exact hq .ret s' r' h' φ' a' w' hk' ha' hs' ht
  | loop b ih =>
    intro r h k x s φ a w Q hok hk ha hs hq
    have hokb : codeOk G b = true := hok
    simp only [kcode] at hk
    have go : ∀ (j : Nat) (r : RF) (h : AH) (s : T Value) (φ : Ren) (a : Act) (w : World), kloop (kcode P F n m b) j r h k = some x → Alike s r → StR G B φ ⟨s, n, h⟩ a w →
        (∀ e s' r' h' φ' a' w', k e r' h' = some x → Alike s' r' → StR G B φ' ⟨s', n, h'⟩ a' w' → Stp φ h w φ' h' w' → Q (exitOf e) a' w') → Body P (.loop b) Q a w := by
      intro j
      induction j with
      | zero => intro r h s φ a w hk; cases hk
      | succ j ihj =>
        intro r h s φ a w hk ha hs hq
        simp only [kloop] at hk
        refine Body.round (ih r h _ x s φ a w _ hokb hk ha hs fun e s' r' h' φ' a' w' hk' ha' hs' ht => ?_).wp
        cases e with
        | normal => exact ihj r' h' s' φ' a' w' hk' ha' hs' fun e s'' r'' h'' φ'' a'' w'' hk'' ha'' hs'' ht' => hq e s'' r'' h'' φ'' a'' w'' hk'' ha'' hs'' (ht.trans ht')
        | exit j => exact hq (.exit j) s' r' h' φ' a' w' hk' ha' hs' ht
        | ret => exact hq .ret s' r' h' φ' a' w' hk' ha' hs' ht
    exact go m r h s φ a w hk ha hs hq
  | exit id =>
    intro r h k x s φ a w Q hok hk ha hs hq
    exact wp_exit (hq (.exit id) _ _ _ φ a w hk ha hs (.refl ..))
  | ret =>
    intro r h k x s φ a w Q hok hk ha hs hq
    exact wp_ret (hq .ret _ _ _ φ a w hk ha hs (.refl ..))
  | label l =>
    intro r h k x s φ a w Q hok hk ha hs hq
    exact wp_label (hq .normal _ _ _ φ a w hk ha hs (.refl ..))
  | _ => intro r h k x s φ a w Q hok hk; cases hk

theorem kresult_ok {s : T Value} {r : RF} {n : Nat} {h : AH} (ha : Alike s r) {y : ResultVar} {k : Value → Option β} {x : β} (hk : kresult P r h y k = some x) : ∃ v, resultOf P ⟨s, n, h⟩ y = some v ∧ k v = some x := by
  cases y with
  | tmp t => exact ⟨_, by simp only [resultOf]; rw [ha t], hk⟩
  | cell p t =>
    simp only [kresult] at hk
    simp only [resultOf, ha p]
    split at hk
    · rename_i n hg hn
      obtain ⟨v, hv, hk⟩ := bindO_some hk
      refine ⟨v, ?_, hk⟩
      unfold ldn at hv
      split at hv
      · rename_i id off hx
        rw [hx]
        simp only [load, hg, hn]
        exact hv
      · cases hv
    · rename_i hg
      obtain ⟨v, hv, hk⟩ := bindO_some hk
      refine ⟨v, ?_, hk⟩
      unfold ld1 at hv
      split at hv
      · rename_i id off hx
        rw [hx]
        simp only [load, hg]
        exact hv
      · cases hv
    · cases hk

theorem kresults_ok {s : T Value} {r : RF} {n : Nat} {h : AH} (ha : Alike s r) : ∀ (ys : List ResultVar) (k : List Value → Option β) (x : β), kresults P r h ys k = some x → ∃ vs, resultsOf P ⟨s, n, h⟩ ys = some vs ∧ k vs = some x
  | [], k, x, hk => ⟨[], rfl, hk⟩
  | y :: ys, k, x, hk => by
    simp only [kresults] at hk
    obtain ⟨v, h1, hk⟩ := kresult_ok (n := n) ha hk
    obtain ⟨vs, h2, hk⟩ := kresults_ok (n := n) ha ys _ x hk
    exact ⟨v :: vs, by simp only [resultsOf, h1, h2], hk⟩

theorem kend_ok {s : T Value} {r : RF} {n : Nat} {h : AH} (ha : Alike s r) {fn : Func} {e : Ex} {x : Value × AH} (hk : kend P fn e r h = some x) : (e = .normal ∨ e = .ret) ∧ ∃ vs, resultsOf P ⟨s, n, h⟩ fn.results.toList = some vs ∧ x = (pack vs, h) := by
  cases e with
  | exit j => cases hk
  | normal =>
    obtain ⟨vs, h1, h2⟩ := kresults_ok (n := n) ha _ _ _ (show kresults P r h fn.results.toList (fun vs => some (pack vs, h)) = some x from hk)
    exact ⟨.inl rfl, vs, h1, (Option.some.inj h2).symm⟩
  | ret =>
    obtain ⟨vs, h1, h2⟩ := kresults_ok (n := n) ha _ _ _ (show kresults P r h fn.results.toList (fun vs => some (pack vs, h)) = some x from hk)
    exact ⟨.inr rfl, vs, h1, (Option.some.inj h2).symm⟩

theorem alike_enter (args : List Value) : Alike (enterR 0 args .nil) (enterF args) := by
  intro t
  rw [getR_enterR]
  unfold enterF
  by_cases h : t < args.length
  · rw [if_pos (by omega)]; rfl
  · rw [if_neg (by omega), List.getElem?_eq_none (by omega)]
    unfold getR; rw [T.get_nil]; rfl

/-- A function in continuation form. -/
theorem kfn_ok (hp : progOk P G = true) (hdr : DrawnOk P G) (hf : FnsOk P G F) {m : Nat} {f : FuncId} {args args' : List Value} {h h' : AH} {v : Value} {φ : Ren} {w : World} (hs : Sim G B φ h w) (ha : VRL φ args args')
    (hrun : kfn P F m f args h = some (v, h')) : Lands P f args'.toArray w (Out G B φ h w v h') := by
  unfold kfn at hrun
  split at hrun
  · rename_i fn hfn
    split at hrun
    · rename_i c hb
      have hmem : fn ∈ P.funcs.toList := by
        have : P.funcs.toList[f]? = some fn := by simpa using hfn
        exact List.mem_of_getElem? this
      have hok := List.all_eq_true.1 hp fn hmem
      simp only [hb, Bool.and_eq_true] at hok
      have hname : (fn.name == "runtime.NumGoroutine") = false := by
        cases hn : fn.name == "runtime.NumGoroutine" with
        | false => rfl
        | true => rw [hn] at hok; exact absurd hok.2 (by simp)
      refine .inr ⟨?_, ?_⟩
      · have hnone : fn.body.isNone = false := by rw [hb]; rfl
        simp only [callFunc, Sem.run_bind, run_program, Result.andThen_ok, hfn, hname, hnone, Bool.false_eq_true, if_false, Sem.run_pure]
      · refine calls_of_wp hfn hb ?_
        have hst : StR G B φ ⟨enterR 0 args .nil, Nat.max fn.ntmps args.length, h⟩ { tmps := args'.toArray ++ Array.replicate (fn.ntmps - args'.toArray.size) undef, defers := [] } w := ⟨enter_ok ha, hs⟩
        refine (kcode_ok hdr hf _ m c _ _ _ _ _ φ _ w _ hok.1 hrun (alike_enter args) hst fun e s' r' h1 φ' a' w' hk ha' hs' ht => ?_).wp
        obtain ⟨he, vs, hvs, hx⟩ := kend_ok (n := Nat.max fn.ntmps args.length) ha' hk
        obtain ⟨rfl, rfl⟩ := Prod.mk.inj hx
        obtain ⟨rv, r1, r2⟩ := results_ok (fn := fn) hs' hvs
        rcases he with rfl | rfl
        · exact ⟨hs'.regs.defers, rv, r2, φ', r1, hs'.sim, ht⟩
        · exact ⟨hs'.regs.defers, rv, r2, φ', r1, hs'.sim, ht⟩
    · cases hrun
  · cases hrun
end
end Go.Ev


/- An answer put in another form: ids renamed, objects that nobody needs dropped. -/
namespace Go.Ev
variable {P : Program} {G B : Nat}

/-- A value whose ids are below a bound, and the same with its ids renamed. -/
inductive RV (ρ : Nat → Nat) (N : Nat) : Value → Value → Prop where
  | bool (b : Bool) : RV ρ N (.bool b) (.bool b)
  | int (k : IntKind) (n : Int) : RV ρ N (.int k n) (.int k n)
  | float (k : FloatKind) (n : Nat) : RV ρ N (.float k n) (.float k n)
  | string (s : ByteArray) : RV ρ N (.string s) (.string s)
  | ptrNil : RV ρ N (.pointer none) (.pointer none)
  | ptr (id off : Nat) (h : id < N) : RV ρ N (.pointer (some ⟨id, off, none⟩)) (.pointer (some ⟨ρ id, off, none⟩))
  | slNil : RV ρ N (.slice none 0 0) (.slice none 0 0)
  | sl (id off len cap : Nat) (h : id < N) : RV ρ N (.slice (some ⟨id, off, none⟩) len cap) (.slice (some ⟨ρ id, off, none⟩) len cap)
  | slZero (id off id' off' : Nat) : RV ρ N (.slice (some ⟨id, off, none⟩) 0 0) (.slice (some ⟨id', off', none⟩) 0 0)
  | mapNil : RV ρ N (.map none) (.map none)
  | map (id : Nat) (h : id < N) : RV ρ N (.map (some id)) (.map (some (ρ id)))
  | func (fn : Fn) (f f' c c' : Array Value) (hf : f.size = f'.size) (hc : c.size = c'.size)
      (hf' : ∀ (i : Nat) (v v' : Value), f.toList[i]? = some v → f'.toList[i]? = some v' → RV ρ N v v')
      (hc' : ∀ (i : Nat) (v v' : Value), c.toList[i]? = some v → c'.toList[i]? = some v' → RV ρ N v v') : RV ρ N (.func fn f c) (.func fn f' c')
  | funcNil : RV ρ N .nilFunc .nilFunc
  | iface (t : TypeId) (v v' : Value) (h : RV ρ N v v') : RV ρ N (.iface t v) (.iface t v')
  | ifaceNil : RV ρ N .nilIface .nilIface
  | sym (id : Nat) (h : id < N) : RV ρ N (.complex .f64 0 id) (.complex .f64 0 (ρ id))
  | agg (c c' : Array Value) (hc : c.size = c'.size) (hc' : ∀ (i : Nat) (v v' : Value), c.toList[i]? = some v → c'.toList[i]? = some v' → RV ρ N v v') : RV ρ N (.agg c) (.agg c')
  | tuple (c c' : Array Value) (hc : c.size = c'.size) (hc' : ∀ (i : Nat) (v v' : Value), c.toList[i]? = some v → c'.toList[i]? = some v' → RV ρ N v v') : RV ρ N (.tuple c) (.tuple c')

/-- A value whose ids are below a bound. -/
abbrev OkV (N : Nat) (v : Value) : Prop := RV id N v v

theorem get_same {c c' : Array Value} (hc : c.size = c'.size) {i : Nat} {v' : Value} (h : c'.toList[i]? = some v') : ∃ v, c.toList[i]? = some v := by
  have hi : i < c'.toList.length := (List.getElem?_eq_some_iff.1 h).1
  have : i < c.toList.length := by simp at hi ⊢; omega
  exact ⟨_, List.getElem?_eq_getElem this⟩

theorem VR.zero {φ : Ren} {id off : Nat} {rv : Value} (k : VR φ (.slice (some ⟨id, off, none⟩) 0 0) rv) : ∃ b o, rv = .slice (some ⟨b, o, none⟩) 0 0 := by
  generalize hx : Value.slice (some ⟨id, off, none⟩) 0 0 = x at k
  cases k with
  | slExact _ _ _ _ l hl hc hle => cases hx; exact ⟨_, _, rfl⟩
  | slUnk _ _ _ cap l hl hle hz hq =>
    injection hx with _ _ h
    simp only [UNK] at h
    omega
  | slEnd _ _ l b o hl hq =>
    injection hx with _ _ h
    simp only [UNK] at h
    omega
  | slZero _ _ b o => exact ⟨b, o, rfl⟩
  | _ => cases hx

/-- What is told by one renaming is told by the other. -/
theorem RV.vr {ρ : Nat → Nat} {N : Nat} {φ φ' : Ren} (hφ : ∀ id l, id < N → φ (ρ id) = some l → φ' id = some l) {v v' rv : Value} (h : RV ρ N v v') (k : VR φ v' rv) : VR φ' v rv := by
  induction h generalizing rv with
  | bool b => cases k; exact .bool b
  | int _ _ => cases k; exact .int _ _
  | float _ _ => cases k; exact .float _ _
  | string _ => cases k; exact .string _
  | ptrNil => cases k; exact .ptrNil
  | ptr id off h => cases k with | ptr _ _ l hl => exact .ptr id off l (hφ _ _ h hl)
  | slNil => cases k; exact .slNil
  | sl id off len cap h =>
    cases k with
    | slExact _ _ _ _ l hl hc hle => exact .slExact id off len cap l (hφ _ _ h hl) hc hle
    | slUnk _ _ _ cap l hl hle hz hx => exact .slUnk id off len cap l (hφ _ _ h hl) hle hz hx
    | slEnd _ _ l b o hl hx => exact .slEnd id off l b o (hφ _ _ h hl) hx
    | slZero _ _ b o => exact .slZero id off b o
  | slZero id off id' off' =>
    obtain ⟨b, o, rfl⟩ := k.zero
    exact .slZero id off b o
  | mapNil => cases k; exact .mapNil
  | map id h => cases k with | map _ l hl => exact .map id l (hφ _ _ h hl)
  | func fn f f' c c' hf hc hf' hc' ihf ihc =>
    cases k with
    | func _ _ f2 _ c2 hf2 hc2 hf2' hc2' =>
      refine .func fn f f2 c c2 (hf.trans hf2) (hc.trans hc2) (fun i v v2 a b => ?_) (fun i v v2 a b => ?_)
      · obtain ⟨v1, h1⟩ := get_same hf2 b
        exact ihf i v v1 a h1 (hf2' i v1 v2 h1 b)
      · obtain ⟨v1, h1⟩ := get_same hc2 b
        exact ihc i v v1 a h1 (hc2' i v1 v2 h1 b)
  | funcNil => cases k; exact .funcNil
  | iface t v v' h ih => cases k with | iface _ _ v2 h2 => exact .iface t v v2 (ih h2)
  | ifaceNil => cases k; exact .ifaceNil
  | sym id h => cases k with | sym _ l hl => exact .sym id l (hφ _ _ h hl)
  | agg c c' hc hc' ih =>
    cases k with
    | agg _ c2 h2 h2' =>
      refine .agg c c2 (hc.trans h2) fun i v v2 a b => ?_
      obtain ⟨v1, h1⟩ := get_same h2 b
      exact ih i v v1 a h1 (h2' i v1 v2 h1 b)
  | tuple c c' hc hc' ih =>
    cases k with
    | tuple _ c2 h2 h2' =>
      refine .tuple c c2 (hc.trans h2) fun i v v2 a b => ?_
      obtain ⟨v1, h1⟩ := get_same h2 b
      exact ih i v v1 a h1 (h2' i v1 v2 h1 b)

/-- Whatever is told by a renaming has its ids where that is. -/
theorem VR.okV {φ : Ren} {N : Nat} (hφ : ∀ id l, φ id = some l → id < N) {ρ : Nat → Nat} (hρ : ∀ id, id < N → ρ id = id) {M : Nat} (hM : N ≤ M) {v rv : Value} (k : VR φ v rv) : RV ρ M v v := by
  have e : ∀ id l, φ id = some l → id < M ∧ ρ id = id := fun id l h => ⟨Nat.lt_of_lt_of_le (hφ id l h) hM, hρ id (hφ id l h)⟩
  have arr : ∀ (c c' : Array Value), c.size = c'.size → (∀ (i : Nat) (v v' : Value), c.toList[i]? = some v → c'.toList[i]? = some v' → RV ρ M v v) → ∀ (i : Nat) (v v' : Value), c.toList[i]? = some v → c.toList[i]? = some v' → RV ρ M v v' := by
    intro c c' hc h i v v' a b
    rw [a] at b; cases b
    obtain ⟨u, hu⟩ := get_same hc.symm a
    exact h i v u a hu
  induction k with
  | bool b => exact .bool b
  | int _ _ => exact .int _ _
  | float _ _ => exact .float _ _
  | string _ => exact .string _
  | ptrNil => exact .ptrNil
  | ptr id off l h =>
    have := RV.ptr (ρ := ρ) id off (e id l h).1
    rwa [(e id l h).2] at this
  | slNil => exact .slNil
  | slExact id off len cap l h hc hl =>
    have := RV.sl (ρ := ρ) id off len cap (e id l h).1
    rwa [(e id l h).2] at this
  | slUnk id off len cap l h hl hz hx =>
    have := RV.sl (ρ := ρ) id off len (UNK + l.e) (e id l h).1
    rwa [(e id l h).2] at this
  | slEnd id off l b o h hx =>
    have := RV.sl (ρ := ρ) id off 0 (UNK + l.e) (e id l h).1
    rwa [(e id l h).2] at this
  | slZero id off b o => exact .slZero id off id off
  | mapNil => exact .mapNil
  | map id l h =>
    have := RV.map (ρ := ρ) id (e id l h).1
    rwa [(e id l h).2] at this
  | func fn f f' c c' hf hc hf' hc' ihf ihc => exact .func fn f f c c rfl rfl (arr f f' hf ihf) (arr c c' hc ihc)
  | funcNil => exact .funcNil
  | iface t v v' h ih => exact .iface t v v ih
  | ifaceNil => exact .ifaceNil
  | sym id l h =>
    have := RV.sym (ρ := ρ) id (e id l h).1
    rwa [(e id l h).2] at this
  | agg c c' hc hc' ih => exact .agg c c rfl (arr c c' hc ih)
  | tuple c c' hc hc' ih => exact .tuple c c rfl (arr c c' hc ih)

/-- Lists of values, renamed. -/
def RVL (ρ : Nat → Nat) (N : Nat) (xs ys : List Value) : Prop := xs.length = ys.length ∧ ∀ (i : Nat) (v v' : Value), xs[i]? = some v → ys[i]? = some v' → RV ρ N v v'
theorem RVL.vr {ρ : Nat → Nat} {N : Nat} {φ φ' : Ren} (hφ : ∀ id l, id < N → φ (ρ id) = some l → φ' id = some l) {v v' rv : List Value} (h : RVL ρ N v v') (k : VRL φ v' rv) : VRL φ' v rv := by
  refine ⟨h.1.trans k.1, fun i a b x y => ?_⟩
  have hi : i < rv.length := (List.getElem?_eq_some_iff.1 y).1
  have : i < v'.length := by rw [k.1]; exact hi
  have hc : v'[i]? = some v'[i] := List.getElem?_eq_getElem this
  exact (h.2 i a _ x hc).vr hφ (k.2 i _ b hc y)

/-- An object, and the same with its ids renamed. -/
inductive RO (ρ : Nat → Nat) (N : Nat) : AObj → AObj → Prop where
  | cells (cs cs' : List Value) (e : Nat) (h : RVL ρ N cs cs') : RO ρ N (.cells cs e) (.cells cs' e)
  | ro (cs cs' : List Value) (h : RVL ρ N cs cs') : RO ρ N (.ro cs) (.ro cs')
  | map (es : List (Value × Value)) (h : ∀ p ∈ es, RV ρ N p.2 p.2) : RO ρ N (.map es) (.map es)
  | siter (s : ByteArray) (p : Nat) : RO ρ N (.siter s p) (.siter s p)

theorem RO.mine {ρ : Nat → Nat} {N : Nat} {o o' : AObj} (h : RO ρ N o o') : o'.mine = o.mine := by cases h <;> rfl

theorem RO.vr {ρ : Nat → Nat} {N : Nat} {φ φ' : Ren} (hφ : ∀ id l, id < N → φ (ρ id) = some l → φ' id = some l) {o o' : AObj} {w : World} {l : Loc} (h : RO ρ N o o') (k : ObjR φ w l o') : ObjR φ' w l o := by
  cases h with
  | cells cs cs' e h =>
    obtain ⟨c, t, a, b, c1, c2, c3, c4⟩ := k
    exact ⟨c, t, a, b, c1, by rw [h.1]; exact c2, by rw [h.1]; exact c3, by rw [h.1]; exact h.vr hφ c4⟩
  | ro cs cs' h =>
    obtain ⟨c, t, fr, a, c1, c2, c3, c4⟩ := k
    exact ⟨c, t, fr, a, c1, by rw [h.1]; exact c2, by rw [h.1]; exact c3, by rw [h.1]; exact h.vr hφ c4⟩
  | map es h =>
    obtain ⟨es', n, a, ⟨ps, hp, hl, hh⟩, r⟩ := k
    refine ⟨es', n, a, ⟨ps, hp, hl, fun i p e x y => ?_⟩, r⟩
    obtain ⟨u, v, z⟩ := hh i p e x y
    exact ⟨u, v, (h p (hp.mem_iff.1 (List.mem_of_getElem? x))).vr hφ z⟩
  | siter s p => exact k

/-- An object that was there, unchanged, told by a greater renaming. -/
theorem ObjR.low {φ φ2 φ' : Ren} {N : Nat} (hφ : ∀ id l, φ id = some l → id < N) (h2 : ∀ id l, id < N → φ2 id = some l → φ' id = some l) {o : AObj} {w w2 : World} {l l2 : Loc} (h : ObjR φ w l o) (k : ObjR φ2 w2 l2 o) : ObjR φ' w2 l2 o := by
  have hv : ∀ v rv rv2, VR φ v rv → VR φ2 v rv2 → VR φ' v rv2 := fun v rv rv2 a b => (a.okV hφ (ρ := id) (fun _ _ => rfl) (Nat.le_refl _)).vr h2 b
  have hl : ∀ v rv rv2, VRL φ v rv → VRL φ2 v rv2 → VRL φ' v rv2 := by
    intro v rv rv2 a b
    refine ⟨b.1, fun i x y p q => ?_⟩
    obtain ⟨u, hu, hu2⟩ := a.get p
    exact hv x u y hu2 (b.2 i x y p q)
  cases o with
  | cells cs e =>
    obtain ⟨_, _, _, _, _, _, _, d⟩ := h
    obtain ⟨c, t, a, b, c1, c2, c3, c4⟩ := k
    exact ⟨c, t, a, b, c1, c2, c3, hl _ _ _ d c4⟩
  | ro cs =>
    obtain ⟨_, _, _, _, _, _, _, d⟩ := h
    obtain ⟨c, t, fr, a, c1, c2, c3, c4⟩ := k
    exact ⟨c, t, fr, a, c1, c2, c3, hl _ _ _ d c4⟩
  | sent cs =>
    obtain ⟨_, _, _, _, _, _, d⟩ := h
    obtain ⟨c, t, a, c1, c2, c3, c4⟩ := k
    exact ⟨c, t, a, c1, c2, c3, hl _ _ _ d c4⟩
  | map es =>
    obtain ⟨es1, _, _, ⟨ps1, hp1, hl1, hh1⟩, _⟩ := h
    obtain ⟨es', n, a, ⟨ps, hp, hl', hh⟩, r⟩ := k
    refine ⟨es', n, a, ⟨ps, hp, hl', fun i p e x y => ?_⟩, r⟩
    obtain ⟨u, v, z⟩ := hh i p e x y
    have hm : p ∈ ps1 := hp1.mem_iff.2 (hp.mem_iff.1 (List.mem_of_getElem? x))
    obtain ⟨j, hj⟩ := List.mem_iff_getElem?.1 hm
    have hj' : j < es1.toList.length := by rw [← hl1]; exact (List.getElem?_eq_some_iff.1 hj).1
    obtain ⟨_, _, z1⟩ := hh1 j p _ hj (List.getElem?_eq_getElem hj')
    exact ⟨u, v, hv _ _ _ z1 z⟩
  | siter s p => exact k
  | sym facts => exact k

/-- An answer (v2, h2), begun at h, in another form (v, h'). -/
structure Norm (h : AH) (v : Value) (h' : AH) (v2 : Value) (h2 : AH) (ρ : Nat → Nat) : Prop where
  low : ∀ id, id < h.next → ρ id = id
  high : ∀ id, h.next ≤ id → h.next ≤ ρ id
  next : h.next ≤ h'.next
  inj : ∀ id id' o o', h'.objs.get id = some o → h'.objs.get id' = some o' → ρ id = ρ id' → id = id'
  obj : ∀ id o, h'.objs.get id = some o → (id < h.next ∧ h.objs.get id = some o ∧ h2.objs.get id = some o) ∨ (id < h'.next ∧ ∃ o2, h2.objs.get (ρ id) = some o2 ∧ RO ρ h'.next o o2)
  val : RV ρ h'.next v v2

theorem Norm.out {φ : Ren} {w w2 : World} {h h' h2 : AH} {v v2 rv : Value} {ρ : Nat → Nat} (nm : Norm h v h' v2 h2 ρ) (s : Sim G B φ h w) (ho : Out G B φ h w v2 h2 rv w2) : Out G B φ h w v h' rv w2 := by
  obtain ⟨φ2, hv, hs, ht⟩ := ho
  have hφ : ∀ id l, φ id = some l → id < h.next := fun id l e => (s.wf id l e).1
  let φ' : Ren := fun id => if id < h'.next then φ2 (ρ id) else none
  have pos : ∀ id l, id < h'.next → φ2 (ρ id) = some l → φ' id = some l := fun id l a b => by show (if id < h'.next then φ2 (ρ id) else none) = _; rw [if_pos a, b]
  have inv : ∀ id l, φ' id = some l → id < h'.next ∧ φ2 (ρ id) = some l := by
    intro id l e
    have e : (if id < h'.next then φ2 (ρ id) else none) = some l := e
    split at e
    · exact ⟨by assumption, e⟩
    · cases e
  have lowle : ∀ id l, id < h.next → φ2 id = some l → φ' id = some l := fun id l a b => pos id l (Nat.lt_of_lt_of_le a nm.next) (by rw [nm.low id a]; exact b)
  have hnew : ∀ id l, φ' id = some l → φ id = none → h.next ≤ id := by
    intro id l e1 e2
    rcases Nat.lt_or_ge id h.next with hlt | hge
    · obtain ⟨_, e3⟩ := inv id l e1
      rw [nm.low id hlt] at e3
      exact ht.new id l e3 e2
    · exact hge
  -- an object, where it lies and how it is told
  have hobj : ∀ id o, h'.objs.get id = some o → ∃ o2 l, h2.objs.get (ρ id) = some o2 ∧ o2.mine = o.mine ∧ φ2 (ρ id) = some l ∧ φ' id = some l ∧ ObjR φ' w2 l o ∧ (∀ cs, o = .sent cs → o2 = .sent cs) := by
    intro id o e
    rcases nm.obj id o e with ⟨hlt, e1, e2⟩ | ⟨hlt, o2, e2, hr⟩
    · obtain ⟨l1, hl1, r1⟩ := s.obj id o e1
      obtain ⟨l, hl, r⟩ := hs.obj id o e2
      refine ⟨o, l, by rw [nm.low id hlt]; exact e2, rfl, by rw [nm.low id hlt]; exact hl, lowle id l hlt hl, r1.low hφ lowle r, fun cs h => h⟩
    · obtain ⟨l, hl, r⟩ := hs.obj _ o2 e2
      refine ⟨o2, l, e2, hr.mine, hl, pos id l hlt hl, hr.vr pos r, fun cs h => ?_⟩
      subst h; cases hr
  refine ⟨φ', nm.val.vr pos hv, ⟨?_, ?_, ?_, ?_, ?_, hs.base, ?_⟩, ⟨?_, ht.os, ht.tape, ht.output, ht.size, ht.keep, ?_, nm.next, hnew, ?_, ?_⟩⟩
  · intro id l e
    obtain ⟨a, b⟩ := inv id l e
    exact ⟨a, (hs.wf _ l b).2⟩
  · intro id o e
    obtain ⟨o2, l, _, _, _, a, b, _⟩ := hobj id o e
    exact ⟨l, a, b⟩
  · intro id o l e hm hl
    obtain ⟨o2, l', e2, hm2, hl2, hl', _, _⟩ := hobj id o e
    rw [hl] at hl'; cases hl'
    exact hs.own _ o2 l e2 (by rw [hm2]; exact hm) hl2
  · intro id id' o o' l l' e e' hne hm hl hl'
    obtain ⟨o2, l2, e2, hm2, hl2, hl2', _, _⟩ := hobj id o e
    obtain ⟨o3, l3, e3, hm3, hl3, hl3', _, _⟩ := hobj id' o' e'
    rw [hl] at hl2'; cases hl2'
    rw [hl'] at hl3'; cases hl3'
    exact hs.apart _ _ o2 o3 l l' e2 e3 (fun h => hne (nm.inj id id' o o' e e' h)) (by rw [hm2]; exact hm) hl2 hl3
  · intro id id' cs cs' l l' i j e e' hne hl hl' hi hj hb
    obtain ⟨o2, l2, e2, hm2, hl2, hl2', _, k2⟩ := hobj id _ e
    obtain ⟨o3, l3, e3, hm3, hl3, hl3', _, k3⟩ := hobj id' _ e'
    rw [hl] at hl2'; cases hl2'
    rw [hl'] at hl3'; cases hl3'
    rw [k2 cs rfl] at e2
    rw [k3 cs' rfl] at e3
    exact hs.sents _ _ cs cs' l l' i j e2 e3 (fun h => hne (nm.inj id id' _ _ e e' h)) hl2 hl3 hi hj hb
  · intro g hg
    obtain ⟨l, hl, hb, hz⟩ := s.glob g hg
    exact ⟨l, lowle g l (hφ g l hl) (ht.le g l hl), hb, hz⟩
  · intro id l e
    exact lowle id l (hφ id l e) (ht.le id l e)
  · rintro b ⟨id, o, l, e, hm, hl, hb⟩ hlt
    obtain ⟨o2, l', e2, hm2, hl2, hl', _, _⟩ := hobj id o e
    rw [hl] at hl'; cases hl'
    exact ht.foot b ⟨_, o2, l, e2, by rw [hm2]; exact hm, hl2, hb⟩ hlt
  · intro id o l e hl
    obtain ⟨o2, l', e2, hm2, hl2, hl', _, _⟩ := hobj id o e
    rw [nm.low id (hφ id l hl)] at e2
    obtain ⟨o', a, b⟩ := ht.old id o2 l e2 hl
    exact ⟨o', a, by rw [b, hm2]⟩
  · intro id o l e hl hn hm
    obtain ⟨o2, l', e2, hm2, hl2, hl', _, _⟩ := hobj id o e
    rw [hl] at hl'; cases hl'
    have hge := nm.high id (hnew id l hl hn)
    refine ht.fresh _ o2 l e2 hl2 ?_ (by rw [hm2]; exact hm)
    cases hq : φ (ρ id) with
    | none => rfl
    | some q => have := hφ _ q hq; omega

/-! ### What is known of a heap in which a call begins -/
structure HOk (h : AH) (args : List Value) : Prop where
  live : ∀ id o, h.objs.get id = some o → id < h.next
  args : ∀ x ∈ args, OkV h.next x
  cells : ∀ id cs, h.cellsAt id = some cs → ∀ x ∈ cs, OkV h.next x
  maps : ∀ id es, h.objs.get id = some (.map es) → ∀ p ∈ es, OkV h.next p.2

theorem HOk.of_sim {φ : Ren} {h : AH} {w : World} {args args' : List Value} (s : Sim G B φ h w) (ha : VRL φ args args') : HOk h args := by
  have hφ : ∀ id l, φ id = some l → id < h.next := fun id l e => (s.wf id l e).1
  refine ⟨fun id o e => ?_, fun x hx => ?_, fun id cs e x hx => ?_, fun id es e p hp => ?_⟩
  · obtain ⟨l, hl, _⟩ := s.obj id o e; exact hφ id l hl
  · obtain ⟨i, hi⟩ := List.mem_iff_getElem?.1 hx
    obtain ⟨u, _, hu⟩ := ha.get hi
    exact hu.okV hφ (fun _ _ => rfl) (Nat.le_refl _)
  · have : ∃ l, φ id = some l := by
      unfold AH.cellsAt at e
      cases ho : h.objs.get id with
      | none => rw [ho] at e; cases e
      | some o => obtain ⟨l, hl, _⟩ := s.obj id o ho; exact ⟨l, hl⟩
    obtain ⟨l, hl⟩ := this
    obtain ⟨c, t, fr, _, hc⟩ := s.cellsAt e hl
    obtain ⟨i, hi⟩ := List.mem_iff_getElem?.1 hx
    obtain ⟨u, _, hu⟩ := hc.get hi
    exact hu.okV hφ (fun _ _ => rfl) (Nat.le_refl _)
  · obtain ⟨l, hl, es', n, _, ⟨ps, hp1, hl1, hh⟩, _⟩ := s.obj id _ e
    have hm : p ∈ ps := hp1.mem_iff.2 hp
    obtain ⟨j, hj⟩ := List.mem_iff_getElem?.1 hm
    have hj' : j < es'.toList.length := by rw [← hl1]; exact (List.getElem?_eq_some_iff.1 hj).1
    obtain ⟨_, _, z⟩ := hh j p _ hj (List.getElem?_eq_getElem hj')
    exact z.okV hφ (fun _ _ => rfl) (Nat.le_refl _)

/-- A CONTRACT: what a function answers, shown of its body over functions whose contracts stand. -/
theorem FOk.of (hp : progOk P G = true) (hdr : DrawnOk P G) {F : CallH} (hf : FnsOk P G F) {f : FuncId} {g : OvF}
    (hg : ∀ (args : List Value) (h h' : AH) (v : Value), HOk h args → g args h = some (v, h') → ∃ m v2 h2 ρ, kfn P F m f args h = some (v2, h2) ∧ Norm h v h' v2 h2 ρ) : FOk P G f g := by
  intro args args' h h' v B φ w s ha hr
  obtain ⟨m, v2, h2, ρ, hk, nm⟩ := hg args h h' v (.of_sim s ha) hr
  rcases kfn_ok hp hdr hf s ha hk with ⟨rv, w', a, b⟩ | ⟨a, b⟩
  · exact .inl ⟨rv, w', a, nm.out s b⟩
  · refine .inr ⟨a, b.mono fun e w' he => ?_⟩
    cases e <;> first
      | exact nm.out s he
      | exact he

/-- Contracts in a row. -/
theorem FnsOk.empty : FnsOk P G (fun _ _ _ => none) := fun _ _ _ _ _ _ _ _ _ _ _ h => by cases h
def CallH.with (F : CallH) (f : FuncId) (g : OvF) : CallH := fun x args h => match Nat.beq x f with
  | true => g args h
  | false => F x args h
theorem FnsOk.with {F : CallH} (hf : FnsOk P G F) {f : FuncId} {g : OvF} (hg : FOk P G f g) : FnsOk P G (F.with f g) := by
  intro x args args' h h' v B φ w s ha hr
  unfold CallH.with at hr
  split at hr
  · rename_i hb
    have := Nat.eq_of_beq_eq_true hb
    subst this
    exact hg args args' h h' v B φ w s ha hr
  · exact hf x args args' h h' v B φ w s ha hr
end Go.Ev


/- Code in continuation form, point by point: what the printed texts lean on. -/
namespace Go.Ev
variable {P : Program} {F : CallH} {N M : Nat} {β : Type}

/-- Where the exits go. -/
abbrev exitsOf : List (Nat × (RF → AH → Option β)) → Nat → RF → AH → Option β
  | [], _, _, _ => none
  | (i, g) :: l, j, r, h => match Nat.beq j i with
    | true => g r h
    | false => exitsOf l j r h

theorem seq_pt {c a b : Code} {n t g T : RF → AH → Option β} {x : Nat → RF → AH → Option β} (e : c = .seq a b) (hb : ∀ r h, kcode P F N M b r h (KX n x t) = g r h) (ha : ∀ r h, kcode P F N M a r h (KX g x t) = T r h) :
    ∀ r h, kcode P F N M c r h (KX n x t) = T r h := by
  subst e
  intro r h
  have : (fun (e : Ex) r' h' => match e with
    | .normal => kcode P F N M b r' h' (KX n x t)
    | .exit j => KX n x t (.exit j) r' h'
    | .ret => KX n x t .ret r' h') = KX g x t := by
    funext e r h
    cases e with
    | normal => exact hb r h
    | exit j => rfl
    | ret => rfl
  rw [← ha r h, ← this]
  rfl

theorem block_pt {c b : Code} {id : Nat} {n t T : RF → AH → Option β} {l : List (Nat × (RF → AH → Option β))} (e : c = .block id b) (hb : ∀ r h, kcode P F N M b r h (KX n (exitsOf ((id, n) :: l)) t) = T r h) :
    ∀ r h, kcode P F N M c r h (KX n (exitsOf l) t) = T r h := by
  subst e
  intro r h
  have : (fun (e : Ex) r' h' => match e with
    | .exit j => match Nat.beq j id with
      | true => KX n (exitsOf l) t .normal r' h'
      | false => KX n (exitsOf l) t (.exit j) r' h'
    | .normal => KX n (exitsOf l) t .normal r' h'
    | .ret => KX n (exitsOf l) t .ret r' h') = KX n (exitsOf ((id, n) :: l)) t := by
    funext e r h
    cases e with
    | normal => rfl
    | exit j => simp only [KX, exitsOf]
    | ret => rfl
  rw [← hb r h, ← this]
  rfl

theorem cond_pt {c a b : Code} {y : Operand} {k : KC β} {A B : RF → AH → Option β} (e : c = .cond y a b) (ha : ∀ r h, kcode P F N M a r h k = A r h) (hb : ∀ r h, kcode P F N M b r h k = B r h) :
    ∀ r h, kcode P F N M c r h k = condO (evF r y) (A (learn r y true) h) (B (learn r y false) h) := by
  subst e
  intro r h
  rw [← ha, ← hb]
  rfl

theorem loop_pt {c b : Code} {n t : RF → AH → Option β} {x : Nat → RF → AH → Option β} (e : c = .loop b) (L : Nat → RF → AH → Option β) (h0 : ∀ r h, L 0 r h = none)
    (hs : ∀ m r h, kcode P F N M b r h (KX (L m) x t) = L (m + 1) r h) : ∀ r h, kcode P F N M c r h (KX n x t) = L M r h := by
  subst e
  have go : ∀ m r h, kloop (kcode P F N M b) m r h (KX n x t) = L m r h := by
    intro m
    induction m with
    | zero => intro r h; rw [h0]; rfl
    | succ m ih =>
      intro r h
      have : (fun (e : Ex) r' h' => match e with
        | .normal => kloop (kcode P F N M b) m r' h' (KX n x t)
        | .exit j => KX n x t (.exit j) r' h'
        | .ret => KX n x t .ret r' h') = KX (L m) x t := by
        funext e r h
        cases e with
        | normal => exact ih r h
        | exit j => rfl
        | ret => rfl
      rw [← hs m r h, ← this]
      rfl
  exact go M

theorem fn_pt {f : FuncId} {fn : Func} {args : List Value} {h : AH} {E T : RF → AH → Res} (hf : P.funcs[f]? = some fn) (hb : fn.body = some (bodyOf P f)) (hN : Nat.max fn.ntmps args.length = N)
    (hE : ∀ r h, kresults P r h fn.results.toList (fun vs => some (pack vs, h)) = E r h) (hc : ∀ r h, kcode P F N M (bodyOf P f) r h (KX E (exitsOf []) E) = T r h) : kfn P F M f args h = T (enterF args) h := by
  have : kend P fn = KX E (exitsOf []) E := by
    funext e r h
    cases e with
    | normal => exact hE r h
    | exit j => rfl
    | ret => exact hE r h
  unfold kfn
  simp only [hf, hb, hN, this, hc]
end Go.Ev


