import Derived.Calls
import Derived.Orders
import Derived.Laws.AppendOwn
set_option linter.all false

/- A deterministic evaluator over the model's code: abstract heap with ids of its own, no tape, no capacities. Definitions alone. -/
namespace Go.Ev

/-! ### A trie over the naturals -/
inductive T (α : Type) where
  | nil
  | node (l : T α) (v : Option α) (r : T α)

namespace T
variable {α : Type}
def get : T α → Nat → Option α
  | .nil, _ => none
  | .node l v r, n =>
    match n with
    | 0 => v
    | m + 1 => match Nat.beq (m % 2) 0 with
      | true => l.get (m / 2)
      | false => r.get (m / 2)

def setF : Nat → T α → Nat → Option α → T α
  | 0, t, _, _ => t
  | f + 1, t, n, x =>
    match t with
    | .nil =>
      match n with
      | 0 => .node .nil x .nil
      | m + 1 => match Nat.beq (m % 2) 0 with
        | true => .node (setF f .nil (m / 2) x) none .nil
        | false => .node .nil none (setF f .nil (m / 2) x)
    | .node l v r =>
      match n with
      | 0 => .node l x r
      | m + 1 => match Nat.beq (m % 2) 0 with
        | true => .node (setF f l (m / 2) x) v r
        | false => .node l v (setF f r (m / 2) x)

def set (t : T α) (n : Nat) (x : Option α) : T α := setF (n + 1) t n x
end T

/-! ### Lists -/
def takeN {α : Type} : Nat → List α → Option (List α)
  | 0, _ => some []
  | _ + 1, [] => none
  | n + 1, x :: xs => match takeN n xs with
    | some r => some (x :: r)
    | none => none

def overwrite {α : Type} : List α → List α → Option (List α)
  | [], l => some l
  | _ :: _, [] => none
  | v :: vs, _ :: l => match overwrite vs l with
    | some r => some (v :: r)
    | none => none

def writeAt {α : Type} : Nat → List α → List α → Option (List α)
  | 0, vs, l => overwrite vs l
  | _ + 1, _, [] => none
  | n + 1, vs, x :: l => match writeAt n vs l with
    | some r => some (x :: r)
    | none => none

/-! ### The abstract heap -/
/-- From here on a capacity is not known: UNK and the cells of an element. -/
def UNK : Nat := 2 ^ 64

/-- cells: its own, written and appended to; ro: read alone; sent: read alone, its address may be compared. -/
inductive AObj where
  | cells (cs : List Value) (e : Nat)
  | ro (cs : List Value)
  | sent (cs : List Value)
  | map (es : List (Value × Value))
  | siter (s : ByteArray) (pos : Nat)
  | sym (facts : List (Nat × Nat))

/-- Objects by their ids; the next id. -/
structure AH where
  objs : T AObj
  next : Nat

/-- The cells at an id. -/
def AH.cellsAt (h : AH) (id : Nat) : Option (List Value) :=
  match h.objs.get id with
  | some (.cells cs _) => some cs
  | some (.ro cs) => some cs
  | some (.sent cs) => some cs
  | _ => none

def AH.alloc (h : AH) (o : AObj) : Nat × AH := (h.next, { h with objs := h.objs.set h.next (some o), next := h.next + 1 })
def AH.put (h : AH) (id : Nat) (o : Option AObj) : AH := { h with objs := h.objs.set id o }

def cellsL : Value → List Value
  | .agg cs => cs.toList
  | v => [v]

def oneCell : Value → Bool
  | .agg _ | .tuple _ => false
  | _ => true

/-- No address inside. -/
def scalar : Value → Bool
  | .bool _ | .int .. | .string _ | .nilIface | .nilFunc | .float .. => true
  | .pointer none => true
  | .map none => true
  | .slice none 0 0 => true
  | _ => false
def plain : Value → Bool
  | .agg cs => cs.toList.all scalar
  | .tuple cs => cs.toList.all scalar
  | v => scalar v

def sizeOf? (P : Program) (t : TypeId) : Option Nat := (P.info? t).map (·.size)
def isAgg? (P : Program) (t : TypeId) : Option Bool :=
  match P.underlying t with
  | some (.struct _) | some (.array _ _) => some true
  | some _ => some false
  | none => none
def zeroOf? (P : Program) (t : TypeId) : Option Value :=
  match (P.info? t).bind (·.zero) with
  | some z => match plain z with
    | true => some z
    | false => none
  | none => none

/-- What a tree of actions that asks nothing but the program comes to. -/
def prun {α : Type} (P : Program) : Sem α → Option α
  | .pure a => some a
  | .program k => prun P (k P)
  | .mark _ k => prun P k
  | _ => none

def load (P : Program) (h : AH) (t : TypeId) (id off : Nat) : Option Value :=
  match h.cellsAt id with
  | some cs =>
    match isAgg? P t with
    | some true =>
      match sizeOf? P t with
      | some n => match takeN n (cs.drop off) with
        | some l => some (.agg l.toArray)
        | none => none
      | none => none
    | some false => match cs.drop off with
      | v :: _ => some v
      | [] => none
    | none => none
  | none => none

def storeL (h : AH) (id off : Nat) (vs : List Value) : Option AH :=
  match vs with
  | [] => some h
  | _ =>
  match vs.all oneCell, h.objs.get id with
  | true, some (.cells cs e) => match writeAt off vs cs with
    | some cs' => some (h.put id (some (.cells cs' e)))
    | none => none
  | _, _ => none

def readL (h : AH) (id off n : Nat) : Option (List Value) :=
  match n with
  | 0 => some []
  | _ => match h.cellsAt id with
    | some cs => takeN n (cs.drop off)
    | none => none

def fillL (place : Nat → Option (Nat × Nat)) (cells : List Value) : List (Nat × Value) → Option (List Value)
  | [] => some cells
  | (i, v) :: rest =>
    match place i with
    | none => none
    | some (off, size) =>
      let vs := cellsL v
      match Nat.beq vs.length size, writeAt off vs cells with
      | true, some cells' => fillL place cells' rest
      | _, _ => none

/-- n copies of a list, one behind the other. -/
def copies (z : List Value) : Nat → List Value
  | 0 => []
  | n + 1 => z ++ copies z n

def build (P : Program) (t : TypeId) (parts : List (Nat × Value)) : Option Value :=
  match zeroOf? P t, P.underlying t with
  | some z, some (.struct fields) =>
    match fields.toList.all (fun f => (sizeOf? P f.type).isSome) with
    | false => none
    | true =>
    match fillL (fun i => match fields[i]? with
        | some f => (match sizeOf? P f.type with | some n => some (f.offset, n) | none => none)
        | none => none) (cellsL z) parts with
    | some cs => some (.agg cs.toArray)
    | none => none
  | some z, some (.array _ elem) =>
    match sizeOf? P elem with
    | some n => match fillL (fun i => some (i * n, n)) (cellsL z) parts with
      | some cs => some (.agg cs.toArray)
      | none => none
    | none => none
  | _, _ => none

def buildSlice (P : Program) (t : TypeId) (len : Nat) (parts : List (Nat × Value)) : Option AObj :=
  match P.underlying t with
  | some (.slice elem) =>
    match sizeOf? P elem, zeroOf? P elem with
    | some n, some z =>
      match Nat.ble 1 n && Nat.ble (len * n) (2 ^ 24) && Nat.beq (cellsL z).length n, fillL (fun i => some (i * n, n)) (copies (cellsL z) len) parts with
      | true, some cs => match cs.all oneCell with
        | true => some (.cells cs n)
        | false => none
      | _, _ => none
    | _, _ => none
  | _ => none

def makeSlice (P : Program) (t : TypeId) (len cap : Value) : Option (AObj × Nat × Nat) :=
  match P.underlying t, len, cap with
  | some (.slice elem), .int .i64 (.ofNat l), .int .i64 (.ofNat c) =>
    match sizeOf? P elem, zeroOf? P elem with
    | some n, some z =>
      match Nat.ble l c && Nat.ble c (2 ^ 30) && Nat.ble (P.bytesOf elem * c) (2 ^ 48) && Nat.beq (cellsL z).length n && Nat.ble 1 n with
      | true => some (.cells (copies (cellsL z) c) n, l, c)
      | false => none
    | _, _ => none
  | _, _, _ => none

def fieldAddr (P : Program) (s : TypeId) (x : Value) (i : Nat) : Option Value :=
  match P.underlying s, x with
  | some (.struct fields), .pointer (some ⟨id, off, none⟩) =>
    match fields[i]? with
    | some f => match sizeOf? P f.type with
      | some (_ + 1) => some (.pointer (some ⟨id, off + f.offset, none⟩))
      | _ => none
    | none => none
  | _, _ => none

def part (P : Program) (t : TypeId) (cs : List Value) (off : Nat) : Option Value :=
  match isAgg? P t with
  | some true => match sizeOf? P t with
    | some n => match takeN n (cs.drop off) with
      | some l => some (.agg l.toArray)
      | none => none
    | none => none
  | some false => match cs.drop off with
    | v :: _ => some v
    | [] => none
  | none => none

def field (P : Program) (t : TypeId) (x : Value) (i : Nat) : Option Value :=
  match P.underlying t, x with
  | some (.struct fields), .agg cs => match fields[i]? with
    | some f => part P f.type cs.toList f.offset
    | none => none
  | _, _ => none

def indexAddr (P : Program) (t : TypeId) (x i : Value) : Option Value :=
  match P.underlying t, x, i with
  | some (.array len elem), .pointer (some ⟨id, off, none⟩), .int _ (.ofNat n) =>
    match Nat.blt n len, sizeOf? P elem with
    | true, some z => some (.pointer (some ⟨id, off + n * z, none⟩))
    | _, _ => none
  | some (.slice elem), .slice (some ⟨id, off, none⟩) len _, .int _ (.ofNat n) =>
    match Nat.blt n len, sizeOf? P elem with
    | true, some z => some (.pointer (some ⟨id, off + n * z, none⟩))
    | _, _ => none
  | _, _, _ => none

def index (P : Program) (t : TypeId) (x i : Value) : Option Value :=
  match P.underlying t, x, i with
  | some (.array len elem), .agg cs, .int _ (.ofNat n) =>
    match Nat.blt n len, sizeOf? P elem with
    | true, some z => part P elem cs.toList (n * z)
    | _, _ => none
  | some .string, .string s, .int _ (.ofNat n) =>
    match s.data.toList.drop n with
    | b :: _ => some (.int .u8 (.ofNat b.toNat))
    | [] => none
  | _, _, _ => none

def natOf : Value → Option Nat
  | .int _ (.ofNat n) => some n
  | _ => none

def bsub (s : ByteArray) (l h : Nat) : ByteArray := ⟨((s.data.toList.drop l).take (h - l)).toArray⟩

def loOf (lo : Option Value) : Option Nat := match lo with | some v => natOf v | none => some 0
def hiOf (hi mx : Option Value) (len : Nat) : Option Nat := match hi, mx with | some v, _ => natOf v | none, none => some len | none, some _ => none
def mxOf (mx : Option Value) (cap : Nat) : Option Nat := match mx with | some v => natOf v | none => some cap

/-- Whether so many elements from a place on surely are there. -/
def within (h : AH) (id off len n hi : Nat) : Bool :=
  match Nat.ble hi len with
  | true => true
  | false => match h.objs.get id with
    | some (.cells cs e) => match Nat.beq e n, takeN (hi * n) (cs.drop off) with
      | true, some _ => true
      | _, _ => false
    | _ => false

def slice (P : Program) (h : AH) (t : TypeId) (x : Value) (lo hi mx : Option Value) : Option Value :=
  match P.underlying t, x with
  | some .string, .string s =>
    match mx with
    | some _ => none
    | none =>
      match loOf lo, hiOf hi none s.size with
      | some l, some hh => match Nat.ble l hh, Nat.ble hh s.size with
        | true, true => some (.string (bsub s l hh))
        | _, _ => none
      | _, _ => none
  | some (.slice elem), .slice base len cap =>
    match loOf lo, hiOf hi mx len, sizeOf? P elem with
    | some l, some hh, some n =>
      match base with
      | some ⟨id, off, none⟩ =>
        match Nat.ble UNK cap with
        | false =>
          match mxOf mx cap with
          | some m => match Nat.ble l hh && Nat.ble hh m && Nat.ble m cap with
            | true => some (.slice (some ⟨id, if m = l then off else off + l * n, none⟩) (hh - l) (m - l))
            | false => none
          | none => none
        | true => match Nat.beq cap (UNK + n) && Nat.ble 1 n && Nat.ble l hh && within h id off len n hh with
          | false => none
          | true => match mx with
            | none => some (.slice (some ⟨id, off + l * n, none⟩) (hh - l) cap)
            | some v => match natOf v with
              | some m => match Nat.ble hh m && Nat.ble m len && Nat.blt m UNK with
                | true => some (.slice (some ⟨id, if m = l then off else off + l * n, none⟩) (hh - l) (m - l))
                | false => none
              | none => none
      | some _ => none
      | none => match Nat.beq l 0 && Nat.beq hh 0 && Nat.beq len 0 && Nat.beq cap 0, mxOf mx 0 with
        | true, some 0 => some (.slice none 0 0)
        | _, _ => none
    | _, _, _ => none
  | some (.array n elem), .pointer (some ⟨id, off, none⟩) =>
    match loOf lo, hiOf hi mx n, mxOf mx n, sizeOf? P elem with
    | some l, some hh, some m, some z =>
      match Nat.ble l hh && Nat.ble hh m && Nat.ble m n && Nat.blt n UNK with
      | true => some (.slice (some ⟨id, if m = l then off else off + l * z, none⟩) (hh - l) (m - l))
      | false => none
    | _, _, _, _ => none
  | _, _ => none

/-- The cells of what is appended, or copied: n elements. -/
def firstCells (h : AH) (size n : Nat) : Value → Option (List Value)
  | .slice (some ⟨id, off, none⟩) _ _ => readL h id off (n * size)
  | .slice none _ _ => some []
  | .string s => match Nat.beq size 1 with
    | true => takeN n (s.data.toList.map fun b => (.int .u8 (.ofNat b.toNat)))
    | false => none
  | _ => none

def lenOf : Value → Option Nat
  | .slice _ n _ => some n
  | .string s => some s.size
  | _ => none

/-- Whether a slice's growth is within what is allowed. -/
def fits (need bytes : Nat) : Bool := Nat.ble need (2 ^ 40) && Nat.ble ((2 * need + 512) * bytes) (2 ^ 48)

def appendCells (P : Program) (h : AH) (elem : TypeId) (size : Nat) (s : Value) (new : List Value) (n : Nat) : Option (Value × AH) :=
  match s with
  | .slice base len cap =>
    let need := len + n
    match Nat.ble UNK cap, base with
    | false, _ =>
      match Nat.ble need cap with
      | true => match base with
        | some ⟨id, off, none⟩ => match storeL h id (off + len * size) new with
          | some h' => some (.slice base need cap, h')
          | none => none
        | none => some (.slice none need cap, h)
        | _ => none
      | false =>
        match fits need (P.bytesOf elem) && new.all oneCell, firstCells h size len s, zeroOf? P elem with
        | true, some old, some z => match Nat.beq (cellsL z).length size, h.alloc (.cells (old ++ new) size) with
          | true, (id, h') => some (.slice (some ⟨id, 0, none⟩) need (UNK + size), h')
          | false, _ => none
        | _, _, _ => none
    | true, some ⟨id, off, none⟩ =>
      match Nat.beq cap (UNK + size) with
      | false => none
      | true =>
      match n with
      | 0 => some (s, h)
      | _ =>
        match h.objs.get id, new.all oneCell with
        | some (.cells cs e), true =>
          match Nat.beq e size with
          | false => none
          | true =>
            match writeAt (off + len * size) new cs with
            | some cs' => some (.slice base need cap, h.put id (some (.cells cs' e)))
            | none =>
              match fits need (P.bytesOf elem), takeN (len * size) (cs.drop off), zeroOf? P elem with
              | true, some old, some z => match Nat.beq (cellsL z).length size, h.alloc (.cells (old ++ new) size) with
                | true, (id', h') => some (.slice (some ⟨id', 0, none⟩) need (UNK + size), h'.put id none)
                | false, _ => none
              | _, _, _ => none
        | _, _ => none
    | _, _ => none
  | _ => none

def append (P : Program) (h : AH) (argTypes : Array TypeId) (s x : Value) : Option (Value × AH) :=
  match argTypes[0]?, argTypes[1]? with
  | some st, some xt =>
    match P.underlying st, P.underlying xt with
    | some (.slice elem), some xd =>
      match sizeOf? P elem with
      | some (size + 1) =>
        match xd, x with
        | .int _, .int _ (.ofNat n) =>
          match zeroOf? P elem with
          | some z => match Nat.ble n (2 ^ 30), Nat.beq (cellsL z).length (size + 1), Nat.ble (n * P.bytesOf elem) (2 ^ 48) with
            | true, true, true => appendCells P h elem (size + 1) s (copies (cellsL z) n) n
            | _, _, _ => none
          | none => none
        | .int _, _ => none
        | _, _ => match lenOf x with
          | some n => match firstCells h (size + 1) n x with
            | some new => appendCells P h elem (size + 1) s new n
            | none => none
          | none => none
      | _ => none
    | _, _ => none
  | _, _ => none

def copy (P : Program) (h : AH) (argTypes : Array TypeId) (d x : Value) : Option (Value × AH) :=
  match argTypes[0]? with
  | some dt =>
    match P.underlying dt, d, lenOf x with
    | some (.slice elem), .slice base len _, some m =>
      match sizeOf? P elem with
      | some size =>
        let n := Nat.min m len
        match firstCells h size n x with
        | some new => match base with
          | some ⟨id, off, none⟩ => match storeL h id off new with
            | some h' => some (.int .i64 (.ofNat n), h')
            | none => none
          | none => some (.int .i64 (.ofNat n), h)
          | _ => none
        | none => none
      | none => none
    | _, _, _ => none
  | none => none

/-! ### Maps -/
/-- The fields are ints, one cell each, in their order. -/
def intFields (P : Program) : Nat → List Field → Bool
  | _, [] => true
  | i, f :: fs => f.name != "_" && Nat.beq f.offset i && (match P.underlying f.type with | some (.int _) => true | _ => false) && intFields P (i + 1) fs
def intCell : Value → Bool
  | .int _ _ => true
  | _ => false
/-- A key of a type whose keys are strings, ints, or structs of ints. -/
def keyOk (P : Program) (t : TypeId) (k : Value) : Bool :=
  match P.underlying t, k with
  | some (.int _), .int _ _ => true
  | some .string, .string _ => true
  | some (.struct fs), .agg cs => !P.stoodInHeld t && intFields P 0 fs.toList && Nat.beq cs.toList.length fs.toList.length && cs.toList.all intCell
  | _, _ => false

def keyEqL : List Value → List Value → Option Bool
  | [], [] => some true
  | .int k a :: xs, .int k' b :: ys => match decide (k = k'), keyEqL xs ys with
    | true, some r => some (decide (a = b) && r)
    | _, _ => none
  | _, _ => none
def keyEq (a b : Value) : Option Bool :=
  match a, b with
  | .int k a, .int k' b => match decide (k = k') with | true => some (decide (a = b)) | false => none
  | .string a, .string b => some (decide (a.data.toList = b.data.toList))
  | .agg a, .agg b => keyEqL a.toList b.toList
  | _, _ => none

/-- All entries are looked at; the value of the one that has the key. -/
def find (k : Value) : List (Value × Value) → Option (Option Value)
  | [] => some none
  | (k', v) :: es => match keyEq k k', find k es with
    | some true, some none => some (some v)
    | some false, some r => some r
    | _, _ => none

def upd (k v : Value) : List (Value × Value) → List (Value × Value)
  | [] => [(k, v)]
  | (k', v') :: es => match keyEq k k' with
    | some true => (k, v) :: es
    | _ => (k', v') :: upd k v es

def del (k : Value) : List (Value × Value) → List (Value × Value)
  | [] => []
  | (k', v') :: es => match keyEq k k' with
    | some true => es
    | _ => (k', v') :: del k es

def mapKey (P : Program) (t : TypeId) : Option (TypeId × TypeId) :=
  match P.underlying t with
  | some (.map k e) => some (k, e)
  | _ => none

/-- The entries behind a map's value. -/
def entriesOf (h : AH) : Value → Option (List (Value × Value))
  | .map none => some []
  | .map (some r) => match h.objs.get r with
    | some (.map es) => some es
    | _ => none
  | _ => none

def lookup (P : Program) (h : AH) (t : TypeId) (x i : Value) (ok : Bool) : Option Value :=
  match mapKey P t, entriesOf h x with
  | some (kt, e), some es =>
    match keyOk P kt i, find i es, zeroOf? P e with
    | true, some (some v), _ => some (if ok then .tuple #[v, .bool true] else v)
    | true, some none, some z => some (if ok then .tuple #[z, .bool false] else z)
    | _, _, _ => none
  | _, _ => none

def mapUpdate (P : Program) (h : AH) (t : TypeId) (m k v : Value) : Option AH :=
  match mapKey P t, m with
  | some (kt, _), .map (some r) => match h.objs.get r with
    | some (.map es) => match keyOk P kt k, find k es with
      | true, some _ => some (h.put r (some (.map (upd k v es))))
      | _, _ => none
    | _ => none
  | _, _ => none

def mapDelete (P : Program) (h : AH) (t : TypeId) (m k : Value) : Option AH :=
  match mapKey P t, m with
  | some (kt, _), .map (some r) => match h.objs.get r with
    | some (.map es) => match keyOk P kt k, find k es with
      | true, some _ => some (h.put r (some (.map (del k es))))
      | _, _ => none
    | _ => none
  | _, _ => none

/-! ### Equality of what has addresses -/
def sameAddr (a b : Addr) : Bool := Nat.beq a.block b.block && Nat.beq a.off b.off

/-- Its address may be compared. -/
def livePtr (h : AH) (a : Addr) : Bool :=
  match h.objs.get a.block, a.spot with
  | some (.cells _ _), none => true
  | some (.sent cs), none => Nat.blt a.off cs.length
  | _, _ => false

def eql (P : Program) (h : AH) (t : TypeId) (x y : Value) : Option Bool :=
  match P.underlying t, x, y with
  | some (.pointer _), .pointer none, .pointer b => some b.isNone
  | some (.pointer _), .pointer (some _), .pointer none => some false
  | some (.pointer e), .pointer (some a), .pointer (some b) =>
    match livePtr h a, livePtr h b, sizeOf? P e with
    | true, true, some (_ + 1) => some (sameAddr a b)
    | _, _, _ => none
  | some (.interface _), .nilIface, .iface _ _ => some false
  | some (.interface _), .iface _ _, .nilIface => some false
  | some (.interface _), .iface tx vx, .iface ty vy =>
    match Nat.beq tx ty with
    | false => some false
    | true => match P.info? tx with
      | some i => match i.comparable, P.underlying tx, vx, vy with
        | true, some (.pointer e), .pointer (some a), .pointer (some b) =>
          match livePtr h a, livePtr h b, sizeOf? P e with
          | true, true, some (_ + 1) => some (sameAddr a b)
          | _, _, _ => none
        | true, some (.int _), .int k a, .int l b => match decide (k = l) with
          | true => some (decide (a = b))
          | false => none
        | _, _, _, _ => none
      | none => none
  | some (.slice _), .slice none _ _, .slice b _ _ => some b.isNone
  | some (.slice _), .slice (some _) _ _, .slice none _ _ => some false
  | some (.map _ _), .map none, .map b => some b.isNone
  | some (.map _ _), .map (some _), .map none => some false
  | some (.func _ _ _), .nilFunc, .func _ _ _ => some false
  | some (.func _ _ _), .func _ _ _, .nilFunc => some false
  | _, _, _ => none

end Go.Ev


/- The evaluator's steps: an operation, a region, code, a call. Definitions alone. -/
namespace Go.Ev

structure St where
  regs : T Value
  n : Nat
  h : AH

def undefV : Value := .tuple #[]
def getR (r : T Value) (t : Nat) : Value := match r.get t with | some v => v | none => undefV

def eval (r : T Value) : Operand → Value
  | .tmp t => getR r t
  | .const v => v
  | .global g => .pointer (some ⟨g, 0, none⟩)
  | .func f => .func (.func f) #[] #[]

def putR (r : T Value) (n : Nat) (d : Option Tmp) (v : Value) : Option (T Value) :=
  match d with
  | none => some r
  | some t => match Nat.blt t n with
    | true => some (r.set t (some v))
    | false => none

abbrev CallH := FuncId → List Value → AH → Option (Value × AH)

/-- What kind of thing an operation does to the heap: nothing, it reads, it makes, it acts. -/
inductive Cls where
  | pure | read | make | act
  deriving DecidableEq

def cls (P : Program) : Op → Cls
  | .load .. | .lookup .. | .slice .. => .read
  | .convert s d _ => match P.underlying s, P.underlying d with
    | some .string, some (.slice _) => .make
    | _, _ => .read
  | .alloc _ | .box .. | .buildSlice .. | .makeMap .. | .makeSlice .. => .make
  | .call { callee := .builtin .len, .. } | .call { callee := .builtin .cap, .. } => .read
  | .call { callee := .builtin .min, .. } | .call { callee := .builtin .max, .. } => .pure
  | .binOp .eql .. | .binOp .neq .. => .read
  | .call _ | .store .. | .mapUpdate .. | .mapEntry .. | .entryStore .. | .range .. | .next .. | .insert .. => .act
  | _ => .pure

def assertNo (P : Program) (t : TypeId) (ok : Bool) : Option Value :=
  match ok, zeroOf? P t with
  | true, some z => some (.tuple #[z, .bool false])
  | _, _ => none
def assertAt (P : Program) (t : TypeId) (ok : Bool) (u : TypeId) (v : Value) : Option Value :=
  match Nat.beq u t with
  | true => some (if ok then .tuple #[v, .bool true] else v)
  | false => assertNo P t ok

/-- The heap is not asked. -/
def pureOp (P : Program) (ρ : Operand → Value) (o : Oper) : Option Value :=
  match o.op with
  | .move x | .assign x => some (ρ x)
  | .pick c a b => match ρ c with
    | .bool true => some (ρ a)
    | .bool false => some (ρ b)
    | _ => none
  | .build t parts => build P t (parts.toList.map fun p => (p.1, ρ p.2))
  | .nilCheck x => match ρ x with
    | .pointer (some a) => some (.pointer (some a))
    | _ => none
  | .binOp op t x y _ => match plain (ρ x) && plain (ρ y) with
    | true => match prun P (do eqGuard op t x y (ρ x) (ρ y); binOp op t (ρ x) (ρ y)) with
      | some v => match plain v with
        | true => some v
        | false => none
      | none => none
    | false => none
  | .unOp op _ x => match plain (ρ x) with
    | true => match prun P (Op.unary op (ρ x)) with
      | some v => match plain v with
        | true => some v
        | false => none
      | none => none
    | false => none
  | .makeInterface t x => match P.underlying t with
    | some (.interface _) => none
    | some _ => some (.iface t (ρ x))
    | none => none
  | .makeFunc fn first captured => some (.func fn (first.toList.map ρ).toArray (captured.toList.map ρ).toArray)
  | .fieldAddr s x f => fieldAddr P s (ρ x) f
  | .field t x f => field P t (ρ x) f
  | .indexAddr t x i => indexAddr P t (ρ x) (ρ i)
  | .index t x i => index P t (ρ x) (ρ i)
  | .typeAssert x _ t ok => match P.underlying t, ρ x with
    | some (.interface _), _ => none
    | some _, .nilIface => assertNo P t ok
    | some _, .iface u v => assertAt P t ok u v
    | _, _ => none
  | .extract t i => match ρ t with
    | .tuple vs => vs.toList[i]?
    | _ => none
  | .call { callee := .builtin .min, args, .. } => match args.toList.map ρ with
    | [.int k a, .int l b] => match decide (k = l) with
      | true => some (.int k (if b < a then b else a))
      | false => none
    | _ => none
  | .call { callee := .builtin .max, args, .. } => match args.toList.map ρ with
    | [.int k a, .int l b] => match decide (k = l) with
      | true => some (.int k (if b > a then b else a))
      | false => none
    | _ => none
  | _ => none

def bytesOf : List Value → Option (List UInt8)
  | [] => some []
  | .int .u8 (.ofNat n) :: vs => match bytesOf vs with
    | some r => some (UInt8.ofNat n :: r)
    | none => none
  | _ => none

def intOpt : Option Value → Bool
  | none => true
  | some (.int _ _) => true
  | _ => false

/-- The heap is read. -/
def readOp (P : Program) (ρ : Operand → Value) (o : Oper) (h : AH) : Option Value :=
  match o.op with
  | .load t a => match ρ a with
    | .pointer (some ⟨id, off, none⟩) => load P h t id off
    | _ => none
  | .convert s d x => match ρ x with
    | .int _ _ | .string _ | .slice none 0 0 => match prun P (convert s d (ρ x)) with
      | some v => match plain v with
        | true => some v
        | false => none
      | none => none
    | .slice (some ⟨id, off, none⟩) n _ => match P.underlying s, P.underlying d with
      | some (.slice e), some .string => match P.underlying e with
        | some (.int .u8) => match readL h id off n with
          | some vs => match bytesOf vs with
            | some bs => some (.string ⟨bs.toArray⟩)
            | none => none
          | none => none
        | _ => none
      | _, _ => none
    | _ => none
  | .slice t x lo hi mx => match intOpt (lo.map ρ) && intOpt (hi.map ρ) && intOpt (mx.map ρ) with
    | true => slice P h t (ρ x) (lo.map ρ) (hi.map ρ) (mx.map ρ)
    | false => none
  | .lookup t x i ok => lookup P h t (ρ x) (ρ i) ok
  | .binOp op t x y _ => match plain (ρ x) && plain (ρ y) with
    | true => match prun P (do eqGuard op t x y (ρ x) (ρ y); binOp op t (ρ x) (ρ y)) with
      | some v => match plain v with
        | true => some v
        | false => none
      | none => none
    | false => match eql P h t (ρ x) (ρ y) with
      | some b => match op with
        | .eql => some (.bool b)
        | .neq => some (.bool !b)
        | _ => none
      | none => none
  | .call { callee := .builtin .len, args, argTypes } => match args[0]?, argTypes[0]? with
    | some x, some t => match P.underlying t, ρ x with
      | some .string, .string s => some (.int .i64 (.ofNat s.size))
      | some (.slice _), .slice _ n _ => some (.int .i64 (.ofNat n))
      | some (.array n _), _ => some (.int .i64 (.ofNat n))
      | some (.map _ _), .map none => some (.int .i64 (.ofNat 0))
      | some (.map _ _), .map (some r) => match h.objs.get r with
        | some (.map es) => some (.int .i64 (.ofNat es.length))
        | _ => none
      | _, _ => none
    | _, _ => none
  | .call { callee := .builtin .cap, args, argTypes } => match args[0]?, argTypes[0]? with
    | some x, some t => match P.underlying t, ρ x with
      | some (.slice _), .slice _ _ c => match Nat.ble UNK c with
        | true => none
        | false => some (.int .i64 (.ofNat c))
      | _, _ => none
    | _, _ => none
  | _ => none

/-- What is made: the object, and what refers to it. -/
def mkObj (P : Program) (ρ : Operand → Value) (o : Oper) : Option (AObj × (Nat → Value)) :=
  match o.op with
  | .alloc t => match zeroOf? P t, sizeOf? P t with
    | some z, some n => match Nat.beq (cellsL z).length n with
      | true => some (.cells (cellsL z) n, fun id => .pointer (some ⟨id, 0, none⟩))
      | false => none
    | _, _ => none
  | .box t x => match sizeOf? P t, (cellsL (ρ x)).all oneCell with
    | some n, true => match Nat.beq (cellsL (ρ x)).length n with
      | true => some (.cells (cellsL (ρ x)) n, fun id => .pointer (some ⟨id, 0, none⟩))
      | false => none
    | _, _ => none
  | .buildSlice t len parts => match buildSlice P t len (parts.toList.map fun p => (p.1, ρ p.2)) with
    | some ob => some (ob, fun id => .slice (some ⟨id, 0, none⟩) len len)
    | none => none
  | .convert s d x => match P.underlying s, P.underlying d, ρ x with
    | some .string, some (.slice e), .string s => match P.underlying e with
      | some (.int .u8) => some (.ro (s.data.toList.map fun b => .int .u8 (.ofNat b.toNat)), fun id => .slice (some ⟨id, 0, none⟩) s.size (UNK + 1))
      | _ => none
    | _, _, _ => none
  | .makeMap t none => match mapKey P t with
    | some _ => some (.map [], fun id => .map (some id))
    | none => none
  | .makeSlice t l c => match makeSlice P t (ρ l) (ρ c) with
    | some (ob, l, c) => some (ob, fun id => .slice (some ⟨id, 0, none⟩) l c)
    | none => none
  | _ => none

def makeOp (P : Program) (ρ : Operand → Value) (o : Oper) (h : AH) : Option (Value × AH) :=
  match mkObj P ρ o with
  | some (ob, f) => some (f h.next, { h with objs := h.objs.set h.next (some ob), next := h.next + 1 })
  | none => none

def callFn (fn : CallH) (f : Value) (args : List Value) (h : AH) : Option (Value × AH) :=
  match f with
  | .func (.func g) first captured => fn g (first.toList ++ args ++ captured.toList) h
  | _ => none

def isAct : Op → Bool
  | .call { callee := .builtin .len, .. } | .call { callee := .builtin .cap, .. } => false
  | .call _ => true
  | _ => false

/-- It acts. -/
def actOp (P : Program) (fn : CallH) (ρ : Operand → Value) (o : Oper) (h : AH) : Option (Value × AH) :=
  match o.op with
  | .store t a x => match ρ a, sizeOf? P t with
    | .pointer (some ⟨id, off, none⟩), some n => match Nat.beq (cellsL (ρ x)).length n with
      | true => match storeL h id off (cellsL (ρ x)) with
        | some h' => some (undefV, h')
        | none => none
      | false => none
    | _, _ => none
  | .mapUpdate t m k x | .insert t m k x => match mapUpdate P h t (ρ m) (ρ k) (ρ x) with
    | some h' => some (undefV, h')
    | none => none
  | .range t x => match P.underlying t, ρ x with
    | some .string, .string s => match h.alloc (.siter s 0) with
      | (id, h') => some (.pointer (some ⟨id, 0, none⟩), h')
    | _, _ => none
  | .next it str => match ρ it, str with
    | .pointer (some ⟨id, 0, none⟩), true => match h.objs.get id with
      | some (.siter s p) => match Nat.blt p s.size with
        | true => match Utf8.decode s p with
          | (c, w) => some (.tuple #[.bool true, .int .i64 (.ofNat p), .int .i32 (.ofNat c)], h.put id (some (.siter s (p + w))))
        | false => some (.tuple #[.bool false], h)
      | _ => none
    | _, _ => none
  | .call c => match c.callee with
    | .value f => callFn fn (ρ f) (c.args.toList.map ρ) h
    | .builtin .append => match c.args.toList with
      | [s, x] => append P h c.argTypes (ρ s) (ρ x)
      | _ => none
    | .builtin .copy => match c.args.toList with
      | [d, x] => copy P h c.argTypes (ρ d) (ρ x)
      | _ => none
    | .builtin .delete => match c.args.toList, c.argTypes[0]? with
      | [m, k], some t => match mapDelete P h t (ρ m) (ρ k) with
        | some h' => some (undefV, h')
        | none => none
      | _, _ => none
    | .builtin .clear => match c.args.toList, c.argTypes[0]? with
      | [x], some t => match P.underlying t, ρ x with
        | some (.slice _), .slice _ 0 _ => some (undefV, h)
        | some (.slice e), .slice (some ⟨id, off, none⟩) n _ => match zeroOf? P e with
          | some z => match storeL h id off (copies (cellsL z) n) with
            | some h' => some (undefV, h')
            | none => none
          | none => none
        | _, _ => none
      | _, _ => none
    | _ => none
  | _ => none

/-- Is it wanted? -/
def wanted (ops : List Oper) (r : T Value) (o : Oper) : Option Bool :=
  match o.guard with
  | none => some true
  | some (j, want) => match ops[j]? with
    | some oj => match oj.dst with
      | some t => match getR r t with
        | .bool b => some (b == want)
        | _ => some false
      | none => some false
    | none => some false

/-- An operation, whatever it is. -/
def anyOp (P : Program) (fn : CallH) (ρ : Operand → Value) (o : Oper) (h : AH) : Option (Value × AH) :=
  match cls P o.op with
  | .pure => match pureOp P ρ o with
    | some v => some (v, h)
    | none => none
  | .read => match readOp P ρ o h with
    | some v => some (v, h)
    | none => none
  | .make => makeOp P ρ o h
  | .act => actOp P fn ρ o h

def evList (P : Program) (fn : CallH) (ops : List Oper) : List Oper → St → Option St
  | [], s => some s
  | o :: rest, s =>
    match wanted ops s.regs o with
    | some true => match anyOp P fn (eval s.regs) o s.h with
      | some (v, h') => match putR s.regs s.n o.dst v with
        | some r => evList P fn ops rest ⟨r, s.n, h'⟩
        | none => none
      | none => none
    | some false => match putR s.regs s.n o.dst undefV with
      | some r => evList P fn ops rest ⟨r, s.n, s.h⟩
      | none => none
    | none => none

/-! ### A region that draws its order: walked in the text's order; what it reads must be the same wherever it may be read -/
def maskOf (acc : List Nat) (o : Oper) : Nat :=
  o.after.toList.foldl (fun s e => if Region.binds .any e then s ||| 2 ^ e.on ||| acc.getD e.on 0 else s) 0
def masks : List Oper → List Nat → List Nat
  | [], acc => acc
  | o :: os, acc => masks os (acc ++ [maskOf acc o])

def tmpsOf (ops : List Oper) (o : Oper) : List Tmp :=
  (o.op.operands.toList.filterMap fun | .tmp t => some t | _ => none) ++
  (match o.guard with
   | some (j, _) => (match ops[j]? with | some oj => oj.dst.toList | none => [])
   | none => [])

def nodup : List Nat → Bool
  | [] => true
  | x :: xs => !xs.contains x && nodup xs

/-- Each temporary is written once; who reads it stands before or behind who writes it. -/
def regionOk (P : Program) (ops : List Oper) (ms : List Nat) : Bool :=
  nodup (ops.filterMap (·.dst)) &&
  ops.zipIdx.all fun (o, i) =>
    (o.after.toList.all fun e => !Region.binds .any e || Nat.blt e.on i) &&
    (match o.guard with
     | none => true
     | some (j, _) => (ms.getD i 0).testBit j && (match ops[j]? with | some oj => oj.dst.isSome | none => false)) &&
    ops.zipIdx.all fun (p, j) =>
      (match p.dst with
       | none => true
       | some t => Nat.beq i j || !(tmpsOf ops o).contains t || (ms.getD i 0).testBit j || (ms.getD j 0).testBit i) &&
      (match cls P o.op, cls P p.op with
       | .act, .act => Nat.ble i j || (ms.getD i 0).testBit j
       | _, _ => true)

structure DS where
  regs : T Value
  h : AH
  hist : List AH
  pend : List (Nat × Nat × AObj)
  rds : List (Nat × T Value × Value)
  acts : List Nat

def flush : List (Nat × Nat × AObj) → AH → AH
  | [], h => h
  | (_, id, ob) :: ps, h => flush ps { h with objs := h.objs.set id (some ob) }

def drun (P : Program) (fn : CallH) (ops : List Oper) (ms : List Nat) (base n : Nat) : List Oper → Nat → DS → Option DS
  | [], _, d => some d
  | o :: rest, i, d =>
    match wanted ops d.regs o with
    | none => none
    | some false => match putR d.regs n o.dst undefV with
      | some r => drun P fn ops ms base n rest (i + 1) { d with regs := r }
      | none => none
    | some true => match cls P o.op with
      | .pure => match pureOp P (eval d.regs) o with
        | some v => match putR d.regs n o.dst v with
          | some r => drun P fn ops ms base n rest (i + 1) { d with regs := r }
          | none => none
        | none => none
      | .read => match readOp P (eval d.regs) o d.h with
        | some v => match putR d.regs n o.dst v with
          | some r => drun P fn ops ms base n rest (i + 1) { d with regs := r, rds := (i, d.regs, v) :: d.rds }
          | none => none
        | none => none
      | .make => match mkObj P (eval d.regs) o with
        | some (ob, f) => match putR d.regs n o.dst (f (base + i)) with
          | some r => drun P fn ops ms base n rest (i + 1) { d with regs := r, pend := (i, base + i, ob) :: d.pend }
          | none => none
        | none => none
      | .act => match actOp P fn (eval d.regs) o (flush (d.pend.filter fun p => (ms.getD i 0).testBit p.1) d.h) with
        | some (v, h') => match putR d.regs n o.dst v with
          | some r => drun P fn ops ms base n rest (i + 1) { d with regs := r, h := h', hist := h' :: d.hist, pend := d.pend.filter (fun p => !(ms.getD i 0).testBit p.1), acts := i :: d.acts }
          | none => none
        | none => none

def scalarEq : Value → Value → Bool
  | .bool a, .bool b => a == b
  | .int k a, .int l b => decide (k = l) && decide (a = b)
  | .string a, .string b => decide (a.data.toList = b.data.toList)
  | .pointer none, .pointer none => true
  | .pointer (some ⟨a, i, none⟩), .pointer (some ⟨b, j, none⟩) => Nat.beq a b && Nat.beq i j
  | .slice none a c, .slice none b d => Nat.beq a b && Nat.beq c d
  | .slice (some ⟨a, i, none⟩) m c, .slice (some ⟨b, j, none⟩) n d => Nat.beq a b && Nat.beq i j && Nat.beq m n && Nat.beq c d
  | .map (some a), .map (some b) => Nat.beq a b
  | .map none, .map none => true
  | .nilFunc, .nilFunc => true
  | .nilIface, .nilIface => true
  | .iface t (.pointer (some ⟨a, i, none⟩)), .iface u (.pointer (some ⟨b, j, none⟩)) => Nat.beq t u && Nat.beq a b && Nat.beq i j
  | _, _ => false
def allEq : List Value → List Value → Bool
  | [], [] => true
  | x :: xs, y :: ys => scalarEq x y && allEq xs ys
  | _, _ => false
def valueEq : Value → Value → Bool
  | .agg a, .agg b => allEq a.toList b.toList
  | .tuple a, .tuple b => allEq a.toList b.toList
  | a, b => scalarEq a b

/-- The heaps in which an operation may be met: from so many acts to so many. -/
def readOk (P : Program) (ops : List Oper) (ms : List Nat) (acts : List Nat) (hist : List AH) (r : Nat × T Value × Value) : Bool :=
  let lo := (acts.filter fun a => (ms.getD r.1 0).testBit a).length
  let hi := (acts.filter fun a => !(ms.getD a 0).testBit r.1).length
  let me := (acts.filter fun a => decide (a < r.1)).length
  match ops[r.1]? with
  | some o => ((hist.zipIdx.take (hi + 1)).drop lo).all fun p => Nat.beq p.2 me || match readOp P (eval r.2.1) o p.1 with
    | some v => valueEq v r.2.2
    | none => false
  | none => false

def drawn (P : Program) (fn : CallH) (ops : List Oper) (s : St) : Option St :=
  let ms := masks ops []
  match regionOk P ops ms with
  | false => none
  | true =>
    let h0 : AH := { s.h with next := s.h.next + ops.length }
    match drun P fn ops ms s.h.next s.n ops 0 ⟨s.regs, h0, [h0], [], [], []⟩ with
    | some d => match d.rds.all (readOk P ops ms d.acts d.hist.reverse) with
      | true => some ⟨d.regs, s.n, flush d.pend d.h⟩
      | false => none
    | none => none

inductive Ex where
  | normal | exit (id : Nat) | ret

structure Rec where
  code : Code → St → Option (Ex × St)
  fn : CallH

def enterR : Nat → List Value → T Value → T Value
  | _, [], r => r
  | i, v :: vs, r => enterR (i + 1) vs (r.set i (some v))

def resultOf (P : Program) (s : St) : ResultVar → Option Value
  | .tmp t => some (getR s.regs t)
  | .cell a t => match getR s.regs a with
    | .pointer (some ⟨id, off, none⟩) => load P s.h t id off
    | _ => none

def resultsOf (P : Program) (s : St) : List ResultVar → Option (List Value)
  | [] => some []
  | r :: rs => match resultOf P s r, resultsOf P s rs with
    | some v, some vs => some (v :: vs)
    | _, _ => none

def pack : List Value → Value
  | [v] => v
  | vs => .tuple vs.toArray

def step (P : Program) (ov : FuncId → Option (List Value → AH → Option (Value × AH))) (self : Rec) : Rec where
  code c s := match c with
    | .skip => some (.normal, s)
    | .region _ ops false => match evList P self.fn ops.toList ops.toList s with
      | some s' => some (.normal, s')
      | none => none
    | .region _ ops true => match drawn P self.fn ops.toList s with
      | some s' => some (.normal, s')
      | none => none
    | .seq a b => match self.code a s with
      | some (.normal, s') => self.code b s'
      | r => r
    | .cond c a b => match eval s.regs c with
      | .bool true => self.code a s
      | .bool false => self.code b s
      | _ => none
    | .block id b => match self.code b s with
      | some (.exit j, s') => match Nat.beq j id with
        | true => some (.normal, s')
        | false => some (.exit j, s')
      | r => r
    | .loop b => match self.code b s with
      | some (.normal, s') => self.code (.loop b) s'
      | r => r
    | .exit id => some (.exit id, s)
    | .ret => some (.ret, s)
    | .label _ => some (.normal, s)
    | _ => none
  fn f args h := match ov f with
    | some g => g args h
    | none => match P.funcs[f]? with
      | some fn => match fn.body with
        | some c => match self.code c ⟨enterR 0 args .nil, Nat.max fn.ntmps args.length, h⟩ with
          | some (.normal, s) | some (.ret, s) => match resultsOf P s fn.results.toList with
            | some vs => some (pack vs, s.h)
            | none => none
          | _ => none
        | none => none
      | none => none

def zeroRec : Rec := ⟨fun _ _ => none, fun _ _ _ => none⟩

def ev (P : Program) (ov : FuncId → Option (List Value → AH → Option (Value × AH))) : Nat → Rec
  | 0 => zeroRec
  | n + 1 => step P ov (ev P ov n)

end Go.Ev


/- Plain facts on the evaluator's trie and its lists. -/
namespace Go.Ev

namespace T
variable {α : Type}

theorem get_nil (n : Nat) : (T.nil : T α).get n = none := by cases n <;> rfl

theorem get_setF (f : Nat) : ∀ (t : T α) (n m : Nat) (x : Option α), n < f → (setF f t n x).get m = if m = n then x else t.get m := by
  induction f with
  | zero => intro t n m x h; omega
  | succ f ih =>
    intro t n m x h
    have key : ∀ (l r : T α) (v : Option α), (match n with
      | 0 => T.node l x r
      | k + 1 => match Nat.beq (k % 2) 0 with
        | true => .node (setF f l (k / 2) x) v r
        | false => .node l v (setF f r (k / 2) x)).get m = if m = n then x else (T.node l v r).get m := by
      intro l r v
      cases n with
      | zero => cases m with
        | zero => simp [T.get]
        | succ m => simp [T.get]
      | succ k =>
        have hlt : k / 2 < f := by omega
        cases hb : Nat.beq (k % 2) 0 with
        | true =>
          have hk : k % 2 = 0 := Nat.eq_of_beq_eq_true hb
          simp only [hb]
          cases m with
          | zero => simp [T.get]
          | succ j =>
            cases hj : Nat.beq (j % 2) 0 with
            | true =>
              have hj' : j % 2 = 0 := Nat.eq_of_beq_eq_true hj
              simp only [T.get, hj, ih l (k / 2) (j / 2) x hlt]
              by_cases e : j = k
              · subst e; simp
              · have : ¬ j / 2 = k / 2 := by omega
                simp [this, e]
            | false =>
              have hj' : ¬ j % 2 = 0 := fun e => by rw [e] at hj; cases hj
              have : ¬ j = k := fun e => by subst e; exact hj' hk
              simp [T.get, hj, this]
        | false =>
          have hk : ¬ k % 2 = 0 := fun e => by rw [e] at hb; cases hb
          simp only [hb]
          cases m with
          | zero => simp [T.get]
          | succ j =>
            cases hj : Nat.beq (j % 2) 0 with
            | true =>
              have hj' : j % 2 = 0 := Nat.eq_of_beq_eq_true hj
              have : ¬ j = k := fun e => by subst e; exact hk hj'
              simp [T.get, hj, this]
            | false =>
              have hj' : ¬ j % 2 = 0 := fun e => by rw [e] at hj; cases hj
              simp only [T.get, hj, ih r (k / 2) (j / 2) x hlt]
              by_cases e : j = k
              · subst e; simp
              · have : ¬ j / 2 = k / 2 := by omega
                simp [this, e]
    cases t with
    | nil =>
      have := key .nil .nil none
      rw [show (T.node (T.nil : T α) none T.nil).get m = none by cases m with | zero => rfl | succ j => simp only [T.get]; split <;> rfl] at this
      rw [get_nil]
      rw [← this]
      rfl
    | node l v r => rw [← key l r v]; rfl

theorem get_set (t : T α) (n m : Nat) (x : Option α) : (t.set n x).get m = if m = n then x else t.get m := get_setF _ t n m x (by omega)
theorem get_set_same (t : T α) (n : Nat) (x : Option α) : (t.set n x).get n = x := by simp [get_set]
theorem get_set_other (t : T α) {n m : Nat} (x : Option α) (h : m ≠ n) : (t.set n x).get m = t.get m := by simp [get_set, h]
end T

section
variable {α : Type}

theorem takeN_some : ∀ {n : Nat} {l r : List α}, takeN n l = some r → r = l.take n ∧ n ≤ l.length ∧ r.length = n
  | 0, l, r, h => by simp [takeN] at h; subst h; simp
  | n + 1, [], r, h => by simp [takeN] at h
  | n + 1, x :: xs, r, h => by
    unfold takeN at h
    split at h
    · rename_i r' h'
      obtain ⟨e, hl, hr⟩ := takeN_some h'
      injection h with h
      subst h
      subst e
      simp
      omega
    · cases h

theorem takeN_eq : ∀ {n : Nat} {l : List α}, n ≤ l.length → takeN n l = some (l.take n)
  | 0, l, _ => by simp [takeN]
  | n + 1, [], h => by simp at h
  | n + 1, x :: xs, h => by
    simp at h
    simp [takeN, takeN_eq h]

theorem overwrite_some : ∀ {vs l r : List α}, overwrite vs l = some r → r = vs ++ l.drop vs.length ∧ vs.length ≤ l.length
  | [], l, r, h => by simp [overwrite] at h; simp [h]
  | v :: vs, [], r, h => by simp [overwrite] at h
  | v :: vs, x :: l, r, h => by
    unfold overwrite at h
    split at h
    · rename_i r' h'
      obtain ⟨e, hl⟩ := overwrite_some h'
      injection h with h
      subst h
      subst e
      simp
      omega
    · cases h

theorem overwrite_eq : ∀ {vs l : List α}, vs.length ≤ l.length → overwrite vs l = some (vs ++ l.drop vs.length)
  | [], l, _ => by simp [overwrite]
  | v :: vs, [], h => by simp at h
  | v :: vs, x :: l, h => by simp at h; simp [overwrite, overwrite_eq h]

theorem writeAt_some : ∀ {n : Nat} {vs l r : List α}, writeAt n vs l = some r → r = l.take n ++ vs ++ l.drop (n + vs.length) ∧ n + vs.length ≤ l.length
  | 0, vs, l, r, h => by
    obtain ⟨e, hl⟩ := overwrite_some (vs := vs) (l := l) (by simpa [writeAt] using h)
    simp [e, hl]
  | n + 1, vs, [], r, h => by simp [writeAt] at h
  | n + 1, vs, x :: l, r, h => by
    unfold writeAt at h
    split at h
    · rename_i r' h'
      obtain ⟨e, hl⟩ := writeAt_some h'
      injection h with h
      subst h
      subst e
      refine ⟨?_, by simp; omega⟩
      rw [show n + 1 + vs.length = (n + vs.length) + 1 by omega]
      simp
    · cases h

theorem writeAt_eq : ∀ {n : Nat} {vs l : List α}, n + vs.length ≤ l.length → writeAt n vs l = some (l.take n ++ vs ++ l.drop (n + vs.length))
  | 0, vs, l, h => by simp only [writeAt]; rw [overwrite_eq (by omega)]; simp
  | n + 1, vs, [], h => by simp at h
  | n + 1, vs, x :: l, h => by
    simp at h
    simp only [writeAt, writeAt_eq (n := n) (vs := vs) (l := l) (by omega)]
    rw [show n + 1 + vs.length = (n + vs.length) + 1 by omega]
    simp

theorem writeAt_none {n : Nat} {vs l : List α} (h : writeAt n vs l = none) : l.length < n + vs.length := by
  rcases Nat.lt_or_ge l.length (n + vs.length) with h' | h'
  · exact h'
  · rw [writeAt_eq h'] at h; cases h

theorem writeAt_length {n : Nat} {vs l r : List α} (h : writeAt n vs l = some r) : r.length = l.length := by
  obtain ⟨e, hl⟩ := writeAt_some h
  subst e
  simp
  omega

/-- What stands where after a write. -/
theorem writeAt_get {n : Nat} {vs l r : List α} (h : writeAt n vs l = some r) (i : Nat) :
    r[i]? = if n ≤ i ∧ i < n + vs.length then vs[i - n]? else l[i]? := by
  obtain ⟨e, hl⟩ := writeAt_some h
  subst e
  simp only [List.append_assoc, List.getElem?_append, List.length_take, List.getElem?_take, List.getElem?_drop]
  have hm : min n l.length = n := by omega
  rw [hm]
  by_cases h1 : i < n
  · simp [h1]; try omega
  · by_cases h2 : i < n + vs.length
    · have : i - n < vs.length := by omega
      simp [h1, h2, this]
      try omega
    · have : ¬ i - n < vs.length := by omega
      simp [h1, h2, this]
      congr 1
      omega
end
end Go.Ev


/- What it means that an abstract heap is told by a real world: values, objects, heaps; what a step may change. -/
namespace Go.Ev

/-- Where an abstract object lies: its real block, where it begins there, the block's cells, the cells of an element, how many cells the object has. -/
structure Loc where
  b : Nat
  s : Nat
  z : Nat
  e : Nat
  x : Nat

abbrev Ren := Nat → Option Loc

def Ren.le (φ ψ : Ren) : Prop := ∀ id l, φ id = some l → ψ id = some l
theorem Ren.le.refl (φ : Ren) : Ren.le φ φ := fun _ _ h => h
theorem Ren.le.trans {φ ψ χ : Ren} (h : Ren.le φ ψ) (k : Ren.le ψ χ) : Ren.le φ χ := fun id l e => k id l (h id l e)

/-- The int behind a symbol, and what it comes to below a bound. -/
def symInt (l : Loc) : Int := if l.z % 2 = 0 then .ofNat (l.z / 2) else .negSucc (l.z / 2)
def numF (k : Int) (n : Nat) : Int := if Int.tmod k n < 0 then Int.tmod k n + n else Int.tmod k n

inductive VR (φ : Ren) : Value → Value → Prop where
  | bool (b : Bool) : VR φ (.bool b) (.bool b)
  | int (k : IntKind) (n : Int) : VR φ (.int k n) (.int k n)
  | float (k : FloatKind) (n : Nat) : VR φ (.float k n) (.float k n)
  | string (s : ByteArray) : VR φ (.string s) (.string s)
  | ptrNil : VR φ (.pointer none) (.pointer none)
  | ptr (id off : Nat) (l : Loc) (h : φ id = some l) : VR φ (.pointer (some ⟨id, off, none⟩)) (.pointer (some ⟨l.b, l.s + off, none⟩))
  | slNil : VR φ (.slice none 0 0) (.slice none 0 0)
  | slExact (id off len cap : Nat) (l : Loc) (h : φ id = some l) (hc : cap < UNK) (hl : len ≤ cap) :
      VR φ (.slice (some ⟨id, off, none⟩) len cap) (.slice (some ⟨l.b, l.s + off, none⟩) len cap)
  | slUnk (id off len cap : Nat) (l : Loc) (h : φ id = some l) (hl : len ≤ cap) (hz : l.s + off + cap * l.e = l.z) (hx : l.s + l.x ≤ l.z) :
      VR φ (.slice (some ⟨id, off, none⟩) len (UNK + l.e)) (.slice (some ⟨l.b, l.s + off, none⟩) len cap)
  | slEnd (id off : Nat) (l : Loc) (b o : Nat) (h : φ id = some l) (hx : l.x ≤ off) :
      VR φ (.slice (some ⟨id, off, none⟩) 0 (UNK + l.e)) (.slice (some ⟨b, o, none⟩) 0 0)
  | slZero (id off b o : Nat) : VR φ (.slice (some ⟨id, off, none⟩) 0 0) (.slice (some ⟨b, o, none⟩) 0 0)
  | mapNil : VR φ (.map none) (.map none)
  | map (id : Nat) (l : Loc) (h : φ id = some l) : VR φ (.map (some id)) (.map (some l.b))
  | func (fn : Fn) (f f' c c' : Array Value) (hf : f.size = f'.size) (hc : c.size = c'.size)
      (hf' : ∀ (i : Nat) (v v' : Value), f.toList[i]? = some v → f'.toList[i]? = some v' → VR φ v v')
      (hc' : ∀ (i : Nat) (v v' : Value), c.toList[i]? = some v → c'.toList[i]? = some v' → VR φ v v') : VR φ (.func fn f c) (.func fn f' c')
  | funcNil : VR φ .nilFunc .nilFunc
  | iface (t : TypeId) (v v' : Value) (h : VR φ v v') : VR φ (.iface t v) (.iface t v')
  | ifaceNil : VR φ .nilIface .nilIface
  | sym (id : Nat) (l : Loc) (h : φ id = some l) : VR φ (.complex .f64 0 id) (.int .i64 (symInt l))
  | agg (c c' : Array Value) (hc : c.size = c'.size) (hc' : ∀ (i : Nat) (v v' : Value), c.toList[i]? = some v → c'.toList[i]? = some v' → VR φ v v') : VR φ (.agg c) (.agg c')
  | tuple (c c' : Array Value) (hc : c.size = c'.size) (hc' : ∀ (i : Nat) (v v' : Value), c.toList[i]? = some v → c'.toList[i]? = some v' → VR φ v v') : VR φ (.tuple c) (.tuple c')

def VRL (φ : Ren) (xs ys : List Value) : Prop := xs.length = ys.length ∧ ∀ (i : Nat) (v v' : Value), xs[i]? = some v → ys[i]? = some v' → VR φ v v'

theorem VR.mono {φ ψ : Ren} (hle : Ren.le φ ψ) {v v' : Value} (h : VR φ v v') : VR ψ v v' := by
  induction h with
  | bool b => exact .bool b
  | int k n => exact .int k n
  | float k n => exact .float k n
  | string s => exact .string s
  | ptrNil => exact .ptrNil
  | ptr id off l h => exact .ptr id off l (hle _ _ h)
  | slNil => exact .slNil
  | slExact id off len cap l h hc hl => exact .slExact id off len cap l (hle _ _ h) hc hl
  | slUnk id off len cap l h hl hz hx => exact .slUnk id off len cap l (hle _ _ h) hl hz hx
  | slEnd id off l b o h hx => exact .slEnd id off l b o (hle _ _ h) hx
  | slZero id off b o => exact .slZero id off b o
  | mapNil => exact .mapNil
  | map id l h => exact .map id l (hle _ _ h)
  | func fn f f' c c' hf hc hf' hc' ihf ihc => exact .func fn f f' c c' hf hc ihf ihc
  | funcNil => exact .funcNil
  | iface t v v' h ih => exact .iface t v v' ih
  | ifaceNil => exact .ifaceNil
  | sym id l h => exact .sym id l (hle _ _ h)
  | agg c c' hc hc' ih => exact .agg c c' hc ih
  | tuple c c' hc hc' ih => exact .tuple c c' hc ih

theorem VRL.mono {φ ψ : Ren} (hle : Ren.le φ ψ) {xs ys : List Value} (h : VRL φ xs ys) : VRL ψ xs ys :=
  ⟨h.1, fun i v v' a b => (h.2 i v v' a b).mono hle⟩

theorem VRL.nil (φ : Ren) : VRL φ [] [] := ⟨rfl, fun i v v' h => by simp at h⟩
theorem VRL.cons {φ : Ren} {x y : Value} {xs ys : List Value} (h : VR φ x y) (k : VRL φ xs ys) : VRL φ (x :: xs) (y :: ys) :=
  ⟨by simp [k.1], fun i v v' a b => by
    cases i with
    | zero => simp at a b; subst a; subst b; exact h
    | succ i => simp at a b; exact k.2 i v v' a b⟩
theorem VRL.cons_inv {φ : Ren} {x : Value} {xs ys : List Value} (h : VRL φ (x :: xs) ys) : ∃ y ys', ys = y :: ys' ∧ VR φ x y ∧ VRL φ xs ys' := by
  cases ys with
  | nil => have := h.1; simp at this
  | cons y ys => exact ⟨y, ys, rfl, h.2 0 x y (by simp) (by simp), by have := h.1; simpa using this, fun i v v' a b => h.2 (i + 1) v v' (by simpa using a) (by simpa using b)⟩
theorem VRL.nil_inv {φ : Ren} {ys : List Value} (h : VRL φ [] ys) : ys = [] := by
  have := h.1; simp at this; exact List.eq_nil_of_length_eq_zero this.symm
theorem VRL.append {φ : Ren} {a b c d : List Value} (h : VRL φ a c) (k : VRL φ b d) : VRL φ (a ++ b) (c ++ d) := by
  refine ⟨by simp [h.1, k.1], fun i v v' x y => ?_⟩
  have hl := h.1
  by_cases hi : i < a.length
  · rw [List.getElem?_append_left hi] at x
    rw [List.getElem?_append_left (by omega)] at y
    exact h.2 i v v' x y
  · rw [List.getElem?_append_right (by omega)] at x
    rw [List.getElem?_append_right (by omega)] at y
    rw [← hl] at y
    exact k.2 _ v v' x y
theorem VRL.take {φ : Ren} {a c : List Value} (h : VRL φ a c) (n : Nat) : VRL φ (a.take n) (c.take n) := by
  refine ⟨by simp [h.1], fun i v v' x y => ?_⟩
  rw [List.getElem?_take] at x y
  split at x
  · rename_i hi; rw [if_pos hi] at y; exact h.2 i v v' x y
  · cases x
theorem VRL.drop {φ : Ren} {a c : List Value} (h : VRL φ a c) (n : Nat) : VRL φ (a.drop n) (c.drop n) := by
  refine ⟨by simp [h.1], fun i v v' x y => ?_⟩
  rw [List.getElem?_drop] at x y
  exact h.2 _ v v' x y
theorem VRL.get {φ : Ren} {a c : List Value} (h : VRL φ a c) {i : Nat} {v : Value} (hv : a[i]? = some v) : ∃ v', c[i]? = some v' ∧ VR φ v v' := by
  have hi : i < a.length := (List.getElem?_eq_some_iff.1 hv).1
  have hc : c[i]? = some (c[i]'(by rw [← h.1]; exact hi)) := List.getElem?_eq_getElem _
  exact ⟨_, hc, h.2 i v _ hv hc⟩
theorem VRL.of_map {φ : Ren} {α : Type} {f g : α → Value} : ∀ {l : List α}, (∀ x ∈ l, VR φ (f x) (g x)) → VRL φ (l.map f) (l.map g)
  | [], _ => VRL.nil φ
  | x :: xs, h => VRL.cons (h x (by simp)) (VRL.of_map fun y hy => h y (by simp [hy]))

/-- Values without addresses are told as they are. -/
theorem scalar_self {v : Value} (φ : Ren) (h : scalar v = true) : VR φ v v := by
  unfold scalar at h
  split at h <;> first
    | exact .bool _
    | exact .int _ _
    | exact .string _
    | exact .ifaceNil
    | exact .funcNil
    | exact .float _ _
    | exact .ptrNil
    | exact .mapNil
    | exact .slNil
    | cases h

theorem scalar_eq {φ : Ren} {v v' : Value} (h : scalar v = true) (k : VR φ v v') : v' = v := by
  cases k <;> first
    | rfl
    | (simp [scalar] at h; done)
    | (simp [scalar, UNK] at h)

theorem plain_self {v : Value} (φ : Ren) (h : plain v = true) : VR φ v v := by
  unfold plain at h
  split at h
  · rename_i cs
    refine .agg cs cs rfl fun i v v' a b => ?_
    rw [a] at b
    cases b
    exact scalar_self φ (by simpa using List.all_eq_true.1 h v (List.mem_of_getElem? a))
  · rename_i cs
    refine .tuple cs cs rfl fun i v v' a b => ?_
    rw [a] at b
    cases b
    exact scalar_self φ (by simpa using List.all_eq_true.1 h v (List.mem_of_getElem? a))
  · exact scalar_self φ h

theorem plain_eq {φ : Ren} {v v' : Value} (h : plain v = true) (k : VR φ v v') : v' = v := by
  have hs : ∀ (c c' : Array Value), c.size = c'.size → (∀ (i : Nat) (v v' : Value), c.toList[i]? = some v → c'.toList[i]? = some v' → VR φ v v') → c.toList.all scalar = true → c' = c := by
    intro c c' hc hc' ha
    apply Array.ext'
    apply List.ext_getElem?
    intro i
    cases hv : c.toList[i]? with
    | none =>
      have : c.size ≤ i := by simpa using List.getElem?_eq_none_iff.1 hv
      exact List.getElem?_eq_none (by simp; omega)
    | some v =>
      have hi : i < c.size := by simpa using (List.getElem?_eq_some_iff.1 hv).1
      have hv' : c'.toList[i]? = some (c'.toList[i]'(by simp; omega)) := List.getElem?_eq_getElem _
      rw [hv', scalar_eq (List.all_eq_true.1 ha v (List.mem_of_getElem? hv)) (hc' i v _ hv hv')]
  have k0 := k
  cases k with
  | agg c c' hc hc' => rw [hs c c' hc hc' h]
  | tuple c c' hc hc' => rw [hs c c' hc hc' h]
  | func fn f f' c c' hf hc hf' hc' => simp [plain, scalar] at h
  | _ => exact scalar_eq (by simpa [plain] using h) k0

theorem VR.oneCell {φ : Ren} {v v' : Value} (h : VR φ v v') : v'.oneCell' = oneCell v := by cases h <;> rfl
theorem VR.cellsL {φ : Ren} {v v' : Value} (h : VR φ v v') : VRL φ (cellsL v) v'.cells.toList := by
  have one : ∀ (v v' : Value), VR φ v v' → VRL φ [v] [v'] := fun v v' h => VRL.cons h (VRL.nil φ)
  have h0 := h
  cases h with
  | agg c c' hc hc' => exact ⟨by simp [Ev.cellsL, Value.cells, hc], hc'⟩
  | _ => exact one _ _ h0
theorem VR.of_cells {φ : Ren} {c c' : Array Value} (h : VRL φ c.toList c'.toList) : VR φ (.agg c) (.agg c') := .agg c c' (by simpa using h.1) h.2

/-! ### Objects, heaps -/

/-- The entries of a map, keys without addresses, in any order. -/
def MapR (φ : Ren) (es : List (Value × Value)) (es' : List MapEntry) : Prop :=
  ∃ ps : List (Value × Value), ps.Perm es ∧ ps.length = es'.length ∧
    ∀ (i : Nat) (p : Value × Value) (e : MapEntry), ps[i]? = some p → es'[i]? = some e → plain p.1 = true ∧ e.key = p.1 ∧ VR φ p.2 e.val

/-- Cells that a real block shows. -/
def CellsR (φ : Ren) (c : Array Value) (l : Loc) (cs : List Value) : Prop :=
  c.size = l.z ∧ l.s + cs.length ≤ l.z ∧ cs.length = l.x ∧ VRL φ cs ((c.toList.drop l.s).take cs.length)

def ObjR (φ : Ren) (w : World) (l : Loc) : AObj → Prop
  | .cells cs e => ∃ c t, w.heap[l.b]? = some (.cells c t (0, 0)) ∧ l.e = e ∧ CellsR φ c l cs
  | .ro cs => ∃ c t fr, w.heap[l.b]? = some (.cells c t fr) ∧ CellsR φ c l cs
  | .sent cs => ∃ c t, w.heap[l.b]? = some (.cells c t (0, 0)) ∧ CellsR φ c l cs
  | .map es => ∃ es' n, w.heap[l.b]? = some (.map es' n) ∧ MapR φ es es'.toList ∧ (es'.toList.map (·.born)).Nodup ∧ ∀ e ∈ es'.toList, e.born < n
  | .siter s p => w.heap[l.b]? = some (.stringIter s p) ∧ l.s = 0
  | .sym facts => ∀ p ∈ facts, numF (symInt l) p.1 = .ofNat p.2

/-- Is it the call's own? -/
def AObj.mine : AObj → Bool
  | .cells .. | .map .. | .siter .. => true
  | _ => false

structure Sim (G B : Nat) (φ : Ren) (h : AH) (w : World) : Prop where
  wf : ∀ id l, φ id = some l → id < h.next ∧ l.b < w.heap.size
  obj : ∀ id o, h.objs.get id = some o → ∃ l, φ id = some l ∧ ObjR φ w l o
  own : ∀ id o l, h.objs.get id = some o → o.mine = true → φ id = some l → B ≤ l.b
  apart : ∀ id id' o o' l l', h.objs.get id = some o → h.objs.get id' = some o' → id ≠ id' → o.mine = true → φ id = some l → φ id' = some l' → l.b ≠ l'.b
  sents : ∀ id id' cs cs' l l' i j, h.objs.get id = some (.sent cs) → h.objs.get id' = some (.sent cs') → id ≠ id' → φ id = some l → φ id' = some l' → i < cs.length → j < cs'.length → l.b = l'.b → l.s + i ≠ l'.s + j
  base : B ≤ w.heap.size
  glob : ∀ g, g < G → ∃ l, φ g = some l ∧ l.b = g ∧ l.s = 0

/-- A block of what may be written. -/
def Wr (h : AH) (φ : Ren) (b : Nat) : Prop := ∃ id o l, h.objs.get id = some o ∧ o.mine = true ∧ φ id = some l ∧ l.b = b

structure Stp (φ : Ren) (h : AH) (w : World) (φ' : Ren) (h' : AH) (w' : World) : Prop where
  le : Ren.le φ φ'
  os : w'.os = w.os
  tape : w'.tape = w.tape
  output : w'.output = w.output
  size : w.heap.size ≤ w'.heap.size
  keep : ∀ b, b < w.heap.size → ¬ Wr h φ b → w'.heap[b]? = w.heap[b]?
  foot : ∀ b, Wr h' φ' b → b < w.heap.size → Wr h φ b
  next : h.next ≤ h'.next
  new : ∀ id l, φ' id = some l → φ id = none → h.next ≤ id
  old : ∀ id o l, h'.objs.get id = some o → φ id = some l → ∃ o', h.objs.get id = some o' ∧ o'.mine = o.mine
  fresh : ∀ id o l, h'.objs.get id = some o → φ' id = some l → φ id = none → o.mine = false → w.heap.size ≤ l.b

theorem Stp.refl (φ : Ren) (h : AH) (w : World) : Stp φ h w φ h w :=
  ⟨Ren.le.refl _, rfl, rfl, rfl, Nat.le_refl _, fun _ _ _ => rfl, fun _ h _ => h, Nat.le_refl _, fun _ _ a b => (by rw [a] at b; cases b), fun _ o _ ho _ => ⟨o, ho, rfl⟩, fun _ _ _ _ a b _ => (by rw [a] at b; cases b)⟩

theorem Stp.trans {φ φ' φ'' : Ren} {h h' h'' : AH} {w w' w'' : World} (a : Stp φ h w φ' h' w') (b : Stp φ' h' w' φ'' h'' w'') : Stp φ h w φ'' h'' w'' where
  le := a.le.trans b.le
  os := b.os.trans a.os
  tape := b.tape.trans a.tape
  output := b.output.trans a.output
  size := Nat.le_trans a.size b.size
  keep x hx hn := (b.keep x (Nat.lt_of_lt_of_le hx a.size) fun hw => hn (a.foot x hw hx)).trans (a.keep x hx hn)
  foot x hw hx := a.foot x (b.foot x hw (Nat.lt_of_lt_of_le hx a.size)) hx
  next := Nat.le_trans a.next b.next
  new id l e1 e2 := by
    cases h1 : φ' id with
    | none => exact Nat.le_trans a.next (b.new id l e1 h1)
    | some l' => exact a.new id l' h1 e2
  old id o l ho hl := by
    obtain ⟨o', ho', e⟩ := b.old id o l ho (a.le _ _ hl)
    obtain ⟨o'', ho'', e'⟩ := a.old id o' l ho' hl
    exact ⟨o'', ho'', e'.trans e⟩
  fresh id o l ho hl hn hm := by
    cases h1 : φ' id with
    | none => exact Nat.le_trans a.size (b.fresh id o l ho hl h1 hm)
    | some l' =>
      have := b.le _ _ h1
      rw [hl] at this; injection this with this; subst this
      obtain ⟨o', ho', e⟩ := b.old id o l ho h1
      exact a.fresh id o' l ho' h1 hn (e.trans hm)

/-- Drawing an answer changes nothing. -/
theorem Stp.drew (φ : Ren) (h : AH) (w : World) (n : Nat) : Stp φ h w φ h { w with drawn := n } :=
  ⟨Ren.le.refl _, rfl, rfl, rfl, Nat.le_refl _, fun _ _ _ => rfl, fun _ h _ => h, Nat.le_refl _, fun _ _ a b => (by rw [a] at b; cases b), fun _ o _ ho _ => ⟨o, ho, rfl⟩, fun _ _ _ _ a b _ => (by rw [a] at b; cases b)⟩

theorem CellsR.mono {φ ψ : Ren} (hle : Ren.le φ ψ) {c : Array Value} {l : Loc} {cs : List Value} (h : CellsR φ c l cs) : CellsR ψ c l cs :=
  ⟨h.1, h.2.1, h.2.2.1, h.2.2.2.mono hle⟩

theorem ObjR.of_heap {φ : Ren} {w w' : World} {l : Loc} {o : AObj} (h : ObjR φ w l o) (e : w'.heap[l.b]? = w.heap[l.b]?) : ObjR φ w' l o := by
  cases o with
  | cells cs n => obtain ⟨c, t, a, r⟩ := h; exact ⟨c, t, e.trans a, r⟩
  | ro cs => obtain ⟨c, t, fr, a, r⟩ := h; exact ⟨c, t, fr, e.trans a, r⟩
  | sent cs => obtain ⟨c, t, a, r⟩ := h; exact ⟨c, t, e.trans a, r⟩
  | map es => obtain ⟨es', n, a, r⟩ := h; exact ⟨es', n, e.trans a, r⟩
  | siter s p => exact ⟨e.trans h.1, h.2⟩
  | sym facts => exact h

theorem ObjR.mono {φ ψ : Ren} (hle : Ren.le φ ψ) {w : World} {l : Loc} {o : AObj} (h : ObjR φ w l o) : ObjR ψ w l o := by
  cases o with
  | cells cs n => obtain ⟨c, t, a, b, r⟩ := h; exact ⟨c, t, a, b, r.mono hle⟩
  | ro cs => obtain ⟨c, t, fr, a, r⟩ := h; exact ⟨c, t, fr, a, r.mono hle⟩
  | sent cs => obtain ⟨c, t, a, r⟩ := h; exact ⟨c, t, a, r.mono hle⟩
  | map es =>
    obtain ⟨es', n, a, ⟨ps, hp, hl, hh⟩, r⟩ := h
    exact ⟨es', n, a, ⟨ps, hp, hl, fun i p e x y => let ⟨u, v, z⟩ := hh i p e x y; ⟨u, v, z.mono hle⟩⟩, r⟩
  | siter s p => exact h
  | sym facts => exact h

theorem Sim.drew {G B : Nat} {φ : Ren} {h : AH} {w : World} (s : Sim G B φ h w) (n : Nat) : Sim G B φ h { w with drawn := n } :=
  ⟨s.wf, fun id o ho => let ⟨l, hl, r⟩ := s.obj id o ho; ⟨l, hl, r.of_heap rfl⟩, s.own, s.apart, s.sents, s.base, s.glob⟩

/-- What the cells at an id show. -/
theorem Sim.cellsAt {G B : Nat} {φ : Ren} {h : AH} {w : World} (s : Sim G B φ h w) {id : Nat} {cs : List Value} (hc : h.cellsAt id = some cs) {l : Loc} (hl : φ id = some l) :
    ∃ c t fr, w.heap[l.b]? = some (.cells c t fr) ∧ CellsR φ c l cs := by
  unfold AH.cellsAt at hc
  cases ho : h.objs.get id with
  | none => simp [ho] at hc
  | some o =>
    obtain ⟨l', hl', r⟩ := s.obj id o ho
    rw [hl] at hl'
    injection hl' with hl'
    subst hl'
    rw [ho] at hc
    cases o <;> simp only [Option.some.injEq, reduceCtorEq] at hc
    case cells cs' e => subst hc; obtain ⟨c, t, a, _, r⟩ := r; exact ⟨c, t, (0, 0), a, r⟩
    case ro cs' => subst hc; obtain ⟨c, t, fr, a, r⟩ := r; exact ⟨c, t, fr, a, r⟩
    case sent cs' => subst hc; obtain ⟨c, t, a, r⟩ := r; exact ⟨c, t, (0, 0), a, r⟩

theorem CellsR.get {φ : Ren} {c : Array Value} {l : Loc} {cs : List Value} (h : CellsR φ c l cs) {i : Nat} {v : Value} (hv : cs[i]? = some v) : ∃ v', c[l.s + i]? = some v' ∧ VR φ v v' := by
  obtain ⟨v', a, b⟩ := h.2.2.2.get hv
  have hi : i < cs.length := (List.getElem?_eq_some_iff.1 hv).1
  rw [List.getElem?_take, if_pos hi, List.getElem?_drop] at a
  exact ⟨v', by simpa using a, b⟩

/-- What is read at a place. -/
theorem CellsR.read {φ : Ren} {c : Array Value} {l : Loc} {cs : List Value} (h : CellsR φ c l cs) {off n : Nat} {vs : List Value} (hv : takeN n (cs.drop off) = some vs) :
    VRL φ vs ((c.toList.drop (l.s + off)).take n) ∧ vs.length = n ∧ (0 < n → l.s + off + n ≤ c.size) := by
  obtain ⟨e, hl, hn⟩ := takeN_some hv
  subst e
  obtain ⟨h1, h2, h3, h4⟩ := h
  have k := (h4.drop off).take n
  simp only [List.length_drop] at hl
  rcases Nat.eq_zero_or_pos n with h0 | h0
  · subst h0; exact ⟨by simp [VRL.nil], by simp, fun h => by omega⟩
  · refine ⟨?_, hn, fun _ => by omega⟩
    have e2 : ((List.take cs.length (List.drop l.s c.toList)).drop off).take n = (c.toList.drop (l.s + off)).take n := by
      apply List.ext_getElem?
      intro i
      simp only [List.getElem?_take, List.getElem?_drop]
      by_cases hi : i < n
      · have : off + i < cs.length := by omega
        simp [hi, this, Nat.add_assoc]
      · simp [hi]
    rw [e2] at k
    exact k

end Go.Ev


/- What the operations that do not ask the heap come to in the real run. -/
namespace Go.Ev
variable {P : Program}

theorem prun_run {α : Type} {s : Sem α} {a : α} (h : prun P s = some a) (w : World) : s.run P w = .ok a w := by
  induction s with
  | pure b => simp only [prun, Option.some.injEq] at h; subst h; rfl
  | program k ih => simp only [prun] at h; simp only [Sem.run]; exact ih P h
  | mark m k ih => simp only [prun] at h; simp only [Sem.run]; exact ih h
  | _ => simp [prun] at h

theorem run_sizeOf' {t : TypeId} {n : Nat} (h : sizeOf? P t = some n) (w : World) : (sizeOf t).run P w = .ok n w := by
  unfold sizeOf? at h
  cases hi : P.info? t with
  | none => simp [hi] at h
  | some i => simp [hi] at h; simp [sizeOf, typeInfo, hi, h]

theorem run_isAgg' {t : TypeId} {b : Bool} (h : isAgg? P t = some b) (w : World) : (isAgg t).run P w = .ok b w := by
  unfold isAgg? at h
  cases hu : P.underlying t with
  | none => simp [hu] at h
  | some d =>
    simp only [hu] at h
    simp only [isAgg, Sem.run_bind, run_underlying hu, Result.andThen_ok]
    split at h <;> simp_all

theorem run_zero' {t : TypeId} {z : Value} (h : zeroOf? P t = some z) (w : World) : (zeroValue t).run P w = .ok z w ∧ plain z = true := by
  unfold zeroOf? at h
  split at h
  · rename_i z' hz
    split at h
    · rename_i hp
      injection h with h
      subst h
      refine ⟨?_, hp⟩
      cases hi : P.info? t with
      | none => simp [hi] at hz
      | some i => simp [hi] at hz; simp [zeroValue, typeInfo, hi, hz]
    · cases h
  · cases h

theorem bytesOf_info {t : TypeId} {n : Nat} (h : sizeOf? P t = some n) : ∃ i, P.info? t = some i ∧ i.size = n ∧ P.bytesOf t = i.bytes := by
  unfold sizeOf? at h
  cases hi : P.info? t with
  | none => simp [hi] at h
  | some i => simp [hi] at h; exact ⟨i, rfl, h, by simp [Program.bytesOf, hi]⟩

/-! ### build -/
theorem foldl_set_get (off : Nat) : ∀ (vs : List Value) (k : Nat) (cs : Array Value), off + k + vs.length ≤ cs.size →
    ((vs.zipIdx k).foldl (fun cs (p : Value × Nat) => cs.setIfInBounds (off + p.2) p.1) cs).toList = cs.toList.take (off + k) ++ vs ++ cs.toList.drop (off + k + vs.length)
  | [], k, cs, _ => by simp
  | v :: vs, k, cs, h => by
    simp only [List.zipIdx_cons, List.foldl_cons]
    rw [foldl_set_get off vs (k + 1) (cs.setIfInBounds (off + k) v) (by simp at h ⊢; omega)]
    have e := list_seg_step cs.toList (off + k) v vs (by simp at h ⊢; omega)
    simpa [Array.toList_setIfInBounds, Nat.add_assoc] using e

theorem fill_ok {φ : Ren} (place place' : Nat → Option (Nat × Nat)) (hp : ∀ i, place i = place' i) :
    ∀ (ps qs : List (Nat × Value)) (cells : List Value) (cells' : Array Value) (r : List Value), ps.length = qs.length →
      (∀ (i : Nat) (p q : Nat × Value), ps[i]? = some p → qs[i]? = some q → p.1 = q.1 ∧ VR φ p.2 q.2) → VRL φ cells cells'.toList →
      fillL place cells ps = some r → ∃ r', Instr.fill place' cells' qs = some r' ∧ VRL φ r r'.toList
  | [], [], cells, cells', r, _, _, hc, h => by
    simp only [fillL, Option.some.injEq] at h
    subst h
    exact ⟨cells', by simp [Instr.fill], hc⟩
  | [], _ :: _, _, _, _, hl, _, _, _ => by simp at hl
  | _ :: _, [], _, _, _, hl, _, _, _ => by simp at hl
  | (i, v) :: ps, (j, u) :: qs, cells, cells', r, hl, hv, hc, h => by
    obtain ⟨hij, hvu⟩ := hv 0 (i, v) (j, u) (by simp) (by simp)
    simp only at hij hvu
    subst hij
    unfold fillL at h
    split at h
    · cases h
    · rename_i off size hpl
      simp only at h
      split at h
      · rename_i cells1 hb hw
        have hsz : (cellsL v).length = size := Nat.eq_of_beq_eq_true hb
        have hcu := hvu.cellsL
        have hlen : u.cells.size = size := by rw [← hsz, hcu.1]; simp
        obtain ⟨e1, e2⟩ := writeAt_some hw
        have hcl := hc.1
        have hfit : off + u.cells.size ≤ cells'.size := by
          have : (cellsL v).length = u.cells.size := by rw [hcu.1]; simp
          simp at hcl; omega
        have hfold := foldl_set_get off u.cells.toList 0 cells' (by simpa using hfit)
        simp only [Nat.add_zero] at hfold
        obtain ⟨r', hr', hrr⟩ := fill_ok place place' hp ps qs cells1
          ((u.cells.zipIdx).foldl (fun cs (p : Value × Nat) => cs.setIfInBounds (off + p.2) p.1) cells') r
          (by simpa using hl) (fun k p q a b => hv (k + 1) p q (by simpa using a) (by simpa using b))
          (by
            have e3 : ((u.cells.zipIdx).foldl (fun cs (p : Value × Nat) => cs.setIfInBounds (off + p.2) p.1) cells').toList =
                cells'.toList.take off ++ u.cells.toList ++ cells'.toList.drop (off + u.cells.toList.length) := by
              rw [← hfold, ← Array.foldl_toList, Array.toList_zipIdx]
            rw [e3, e1]
            have e4 : (cellsL v).length = u.cells.toList.length := hcu.1
            rw [e4]
            exact ((hc.take off).append hcu).append (hc.drop _))
          h
        refine ⟨r', ?_, hrr⟩
        unfold Instr.fill
        rw [← hp, hpl]
        simp only
        rw [if_neg (by simp [hlen]; omega)]
        exact hr'
      · cases h


theorem fill_len {place : Nat → Option (Nat × Nat)} : ∀ {ps : List (Nat × Value)} {cells r : List Value}, fillL place cells ps = some r → r.length = cells.length
  | [], cells, r, h => by simp only [fillL, Option.some.injEq] at h; rw [h]
  | (i, v) :: ps, cells, r, h => by
    unfold fillL at h
    split at h
    · cases h
    · simp only at h
      split at h
      · rename_i h1 h2
        rw [fill_len h, writeAt_length h2]
      · cases h

theorem run_sizes (w : World) : ∀ (fs : List Field), fs.all (fun f => (sizeOf? P f.type).isSome) = true →
    ∃ ps : List (Nat × Nat), (fs.mapM fun f => (do pure (f.offset, ← sizeOf f.type) : Sem (Nat × Nat))).run P w = .ok ps w ∧ ps.length = fs.length ∧
      ∀ (i : Nat) (f : Field), fs[i]? = some f → ∃ n, sizeOf? P f.type = some n ∧ ps[i]? = some (f.offset, n)
  | [], _ => ⟨[], by simp, rfl, fun i f h => by simp at h⟩
  | f :: fs, h => by
    simp only [List.all_cons, Bool.and_eq_true] at h
    obtain ⟨n, hn⟩ := Option.isSome_iff_exists.1 h.1
    obtain ⟨ps, h1, h2, h3⟩ := run_sizes w fs h.2
    refine ⟨(f.offset, n) :: ps, ?_, by simp [h2], fun i g hg => ?_⟩
    · rw [List.mapM_cons]
      simp only [Sem.run_bind, run_sizeOf' hn, Result.andThen_ok, Sem.run_pure, h1]
    · cases i with
      | zero => simp at hg; subst hg; exact ⟨n, hn, by simp⟩
      | succ i => simp at hg; obtain ⟨m, a, b⟩ := h3 i g hg; exact ⟨m, a, by simpa using b⟩

theorem build_ok {φ : Ren} {t : TypeId} {ps qs : List (Nat × Value)} {v : Value} (hl : ps.length = qs.length)
    (hv : ∀ (i : Nat) (p q : Nat × Value), ps[i]? = some p → qs[i]? = some q → p.1 = q.1 ∧ VR φ p.2 q.2) (h : build P t ps = some v) (w : World) :
    ∃ v', VR φ v v' ∧ (Instr.build t qs.toArray).run P w = .ok v' w := by
  unfold build at h
  split at h
  · rename_i z fields hz hu
    obtain ⟨rz, pz⟩ := run_zero' hz w
    split at h
    · cases h
    · rename_i hall
      obtain ⟨pl, hp1, hp2, hp3⟩ := run_sizes (P := P) w fields.toList hall
      split at h
      · rename_i cs hf
        injection h with h
        subst h
        obtain ⟨r', hr, hrr⟩ := fill_ok (fun i => match fields[i]? with
            | some f => (match sizeOf? P f.type with | some n => some (f.offset, n) | none => none)
            | none => none) (fun (i : Nat) => pl[i]?) (by
              intro i
              cases hfi : fields[i]? with
              | none =>
                have : fields.size ≤ i := by simpa using hfi
                simp only
                rw [List.getElem?_eq_none (by rw [hp2]; simpa using this)]
              | some f =>
                obtain ⟨n, a, b⟩ := hp3 i f (by simpa using hfi)
                simp only [a, b]) ps qs (cellsL z) z.cells cs hl hv (plain_self φ pz).cellsL hf
        refine ⟨.agg r', VR.of_cells (by simpa using hrr), ?_⟩
        have hm : (fields.mapM fun f => (do pure (f.offset, ← sizeOf f.type) : Sem (Nat × Nat))).run P w = .ok pl.toArray w := by
          rw [Array.mapM_eq_mapM_toList, Sem.run_map, hp1]
          rfl
        simp only [Instr.build, Sem.run_bind, rz, Result.andThen_ok, run_underlying hu, hm]
        have e : (fun (i : Nat) => (pl.toArray)[i]?) = (fun (i : Nat) => pl[i]?) := by funext i; simp
        rw [show (fun x : Nat => (pl.toArray)[x]?) = (fun (i : Nat) => pl[i]?) from e, hr]
        rfl
      · cases h
  · rename_i z n elem hz hu
    obtain ⟨rz, pz⟩ := run_zero' hz w
    split at h
    · rename_i k hk
      split at h
      · rename_i cs hf
        injection h with h
        subst h
        obtain ⟨r', hr, hrr⟩ := fill_ok (fun i => some (i * k, k)) (fun i => some (i * k, k)) (fun _ => rfl) ps qs (cellsL z) z.cells cs hl hv (plain_self φ pz).cellsL hf
        refine ⟨.agg r', VR.of_cells (by simpa using hrr), ?_⟩
        simp only [Instr.build, Sem.run_bind, rz, Result.andThen_ok, run_underlying hu, run_sizeOf' hk]
        rw [hr]
        rfl
      · cases h
    · cases h
  · cases h

/-! ### parts -/
theorem part_ok {φ : Ren} {t : TypeId} {cs : List Value} {cs' : Array Value} {off : Nat} {v : Value} (hc : VRL φ cs cs'.toList) (h : part P t cs off = some v) (w : World) :
    ∃ v', VR φ v v' ∧ (Go.part t cs' off).run P w = .ok v' w := by
  unfold part at h
  split at h
  · rename_i ha
    split at h
    · rename_i n hn
      split at h
      · rename_i l hl
        injection h with h
        subst h
        obtain ⟨e, h1, h2⟩ := takeN_some hl
        subst e
        refine ⟨.agg (cs'.extract off (off + n)), ?_, ?_⟩
        · refine VR.of_cells ?_
          have := (hc.drop off).take n
          simpa [Array.toList_extract, List.extract_eq_take_drop] using this
        · simp [Go.part, run_isAgg' ha, run_sizeOf' hn]
      · cases h
    · cases h
  · rename_i ha
    split at h
    · rename_i u r hd
      injection h with h
      subst h
      have hg : cs[off]? = some u := by
        have := congrArg (fun l => l[0]?) hd
        simpa using this
      obtain ⟨v', hv', hr⟩ := hc.get hg
      refine ⟨v', hr, ?_⟩
      have hv'' : cs'[off]? = some v' := by simpa using hv'
      simp [Go.part, run_isAgg' ha, hv'']
    · cases h
  · cases h

theorem field_ok {φ : Ren} {t : TypeId} {x x' v : Value} {i : Nat} (hx : VR φ x x') (h : field P t x i = some v) (w : World) :
    ∃ v', VR φ v v' ∧ (Instr.field t x' i).run P w = .ok v' w := by
  unfold field at h
  split at h
  · rename_i fields cs hu
    split at h
    · rename_i f hf
      cases hx with
      | agg c c' hc hc' =>
        obtain ⟨v', hv, hr⟩ := part_ok (P := P) (cs' := c') ⟨by simpa using hc, hc'⟩ h w
        exact ⟨v', hv, by simp [Instr.field, run_underlying hu, hf, asAgg, hr]⟩
    · cases h
  · cases h

theorem fieldAddr_ok {φ : Ren} {t : TypeId} {x x' v : Value} {i : Nat} (hx : VR φ x x') (h : fieldAddr P t x i = some v) (w : World) :
    ∃ v', VR φ v v' ∧ (Instr.fieldAt t x' i).run P w = .ok v' w := by
  unfold fieldAddr at h
  split at h
  · rename_i fields id off hu
    split at h
    · rename_i f hf
      split at h
      · rename_i n hn
        injection h with h
        subst h
        cases hx with
        | ptr _ _ l hl =>
          refine ⟨_, .ptr id (off + f.offset) l hl, ?_⟩
          simp [Instr.fieldAt, run_underlying hu, hf, Instr.sureAddr, fieldPlace, run_sizeOf' hn, Addr.add_lit, Nat.add_assoc]
      · cases h
    · cases h
  · cases h

theorem indexAddr_ok {φ : Ren} {t : TypeId} {x x' i i' v : Value} (hx : VR φ x x') (hi : VR φ i i') (h : indexAddr P t x i = some v) (w : World) :
    ∃ v', VR φ v v' ∧ (Instr.indexAt t x' i').run P w = .ok v' w := by
  unfold indexAddr at h
  split at h
  · rename_i len elem id off k n hu
    split at h
    · rename_i z hn hz
      injection h with h
      subst h
      have hlt : n < len := Nat.blt_eq ▸ hn
      cases hx with
      | ptr _ _ l hl =>
        cases hi
        refine ⟨_, .ptr id (off + n * z) l hl, ?_⟩
        simp [Instr.indexAt, asIntOf, run_underlying hu, Instr.sureAddr, run_sizeOf' hz, Addr.add_lit, Nat.add_assoc]
        omega
    · cases h
  · rename_i elem id off len cap k n hu
    split at h
    · rename_i z hn hz
      injection h with h
      subst h
      have hlt : n < len := Nat.blt_eq ▸ hn
      cases hi
      cases hx with
      | slExact _ _ _ _ l hl hc hle =>
        refine ⟨_, .ptr id (off + n * z) l hl, ?_⟩
        simp [Instr.indexAt, asIntOf, run_underlying hu, run_sizeOf' hz, Addr.add_lit, Nat.add_assoc]
        omega
      | slUnk _ _ _ c l hl hle hz' hx' =>
        refine ⟨_, .ptr id (off + n * z) l hl, ?_⟩
        simp [Instr.indexAt, asIntOf, run_underlying hu, run_sizeOf' hz, Addr.add_lit, Nat.add_assoc]
        omega
      | slEnd => omega
      | slZero => omega
    · cases h
  · cases h

theorem index_ok {φ : Ren} {t : TypeId} {x x' i i' v : Value} (hx : VR φ x x') (hi : VR φ i i') (h : index P t x i = some v) (w : World) :
    ∃ v', VR φ v v' ∧ (Instr.index t x' i').run P w = .ok v' w := by
  unfold index at h
  split at h
  · rename_i len elem cs k n hu
    split at h
    · rename_i z hn hz
      have hlt : n < len := Nat.blt_eq ▸ hn
      cases hi
      cases hx with
      | agg c c' hc hc' =>
        obtain ⟨v', hv, hr⟩ := part_ok (P := P) (cs' := c') ⟨by simpa using hc, hc'⟩ h w
        refine ⟨v', hv, ?_⟩
        simp [Instr.index, asIntOf, run_underlying hu, run_sizeOf' hz, hr]
        omega
    · cases h
  · rename_i s k n hu
    split at h
    · rename_i b r hd
      injection h with h
      subst h
      cases hi
      cases hx
      refine ⟨_, .int _ _, ?_⟩
      have hg : s.data.toList[n]? = some b := by
        have := congrArg (fun l => l[0]?) hd
        simpa using this
      have hg' : s[n]? = some b := by
        obtain ⟨hlt, he⟩ := List.getElem?_eq_some_iff.1 hg
        have hlt' : n < s.size := hlt
        rw [getElem?_pos s n hlt']
        exact congrArg some he
      simp [Instr.index, asIntOf, run_underlying hu, hg']
    · cases h
  · cases h

end Go.Ev


/- What the operations that do not ask the heap come to in the real run: all of them. -/
namespace Go.Ev
variable {P : Program}

/-- Operands are told alike. -/
def OpdR (φ : Ren) (ρ ρ' : Operand → Value) (o : Oper) : Prop := ∀ x, x ∈ o.op.operands.toList → VR φ (ρ x) (ρ' x)

theorem pairs_rel {φ : Ren} {ρ ρ' : Operand → Value} : ∀ (ps : List (Nat × Operand)), (∀ x, x ∈ ps.map (·.2) → VR φ (ρ x) (ρ' x)) →
    ∀ (i : Nat) (p q : Nat × Value), (ps.map fun p => (p.1, ρ p.2))[i]? = some p → (ps.map fun p => (p.1, ρ' p.2))[i]? = some q → p.1 = q.1 ∧ VR φ p.2 q.2 := by
  intro ps h i p q hp hq
  rw [List.getElem?_map] at hp hq
  cases hi : ps[i]? with
  | none => simp [hi] at hp
  | some x =>
    simp [hi] at hp hq
    subst hp; subst hq
    exact ⟨rfl, h x.2 (List.mem_map.2 ⟨x, List.mem_of_getElem? hi, rfl⟩)⟩

theorem plain2 {φ : Ren} {a b a' b' : Value} (h : (plain a && plain b) = true) (ha : VR φ a a') (hb : VR φ b b') : a' = a ∧ b' = b := by
  simp only [Bool.and_eq_true] at h
  exact ⟨plain_eq h.1 ha, plain_eq h.2 hb⟩

theorem prun_plain {φ : Ren} {s : Sem Value} {v : Value} (h : prun P s = some v) (hv : plain v = true) (w : World) : VR φ v v ∧ s.run P w = .ok v w :=
  ⟨plain_self φ hv, prun_run h w⟩

theorem run_assert_no {d : TypeDesc} {t xt : TypeId} {z x : Value} (hu : P.underlying t = some d) (hd : ∀ ms, d ≠ .interface ms) (hz : zeroOf? P t = some z) (w : World)
    (hx : x = .nilIface ∨ ∃ u v, x = .iface u v ∧ u ≠ t) : (Instr.typeAssert x xt t true).run P w = .ok (.tuple #[z, .bool false]) w := by
  obtain ⟨rz, _⟩ := run_zero' hz w
  rcases hx with rfl | ⟨u, v, rfl, hne⟩ <;>
    simp only [Instr.typeAssert, Sem.run_bind, run_underlying hu, Result.andThen_ok] <;>
    cases d <;> first
      | exact absurd rfl (hd _)
      | (simp [rz]; done)
      | (simp [hne, rz]; done)
theorem run_assert_yes {d : TypeDesc} {t xt : TypeId} {v : Value} {ok : Bool} (hu : P.underlying t = some d) (hd : ∀ ms, d ≠ .interface ms) (w : World) :
    (Instr.typeAssert (.iface t v) xt t ok).run P w = .ok (if ok then .tuple #[v, .bool true] else v) w := by
  simp only [Instr.typeAssert, Sem.run_bind, run_underlying hu, Result.andThen_ok]
  cases d <;> first
    | exact absurd rfl (hd _)
    | (simp; done)

theorem pureOp_ok {φ : Ren} {ρ ρ' : Operand → Value} {o : Oper} {v : Value} (hr : OpdR φ ρ ρ' o) (h : pureOp P ρ o = some v) (w : World) :
    ∃ v', VR φ v v' ∧ (execOp ρ' o).run P w = .ok (.value v') w := by
  obtain ⟨dst, op, type, pos, after, guard⟩ := o
  simp only [OpdR, Op.operands] at hr
  unfold pureOp at h
  simp only at h
  cases op with
  | move x =>
    injection h with h; subst h
    exact ⟨_, hr x (by simp), by simp [execOp]⟩
  | assign x =>
    injection h with h; subst h
    exact ⟨_, hr x (by simp), by simp [execOp]⟩
  | pick c a b =>
    simp only at h
    have hc := hr c (by simp)
    split at h
    · rename_i e
      injection h with h; subst h
      rw [e] at hc
      generalize hy : ρ' c = y at hc
      cases hc with
      | bool _ => exact ⟨_, hr a (by simp), by simp [execOp, hy, asBool]⟩
    · rename_i e
      injection h with h; subst h
      rw [e] at hc
      generalize hy : ρ' c = y at hc
      cases hc with
      | bool _ => exact ⟨_, hr b (by simp), by simp [execOp, hy, asBool]⟩
    · cases h
  | build t parts =>
    simp only at h
    obtain ⟨v', hv, hrun⟩ := build_ok (P := P) (qs := parts.toList.map fun p => (p.1, ρ' p.2)) (by simp) (pairs_rel parts.toList fun x hx => hr x (by simpa using hx)) h w
    refine ⟨v', hv, ?_⟩
    have e : (parts.map fun x => (x.1, ρ' x.2)) = (parts.toList.map fun p => (p.1, ρ' p.2)).toArray := by
      apply Array.ext'; simp
    simp only [execOp, Sem.run_bind]
    rw [show (Array.map (fun x => match x with | (i, x) => (i, ρ' x)) parts) = (parts.map fun x => (x.1, ρ' x.2)) from rfl, e, hrun]
    rfl
  | nilCheck x =>
    simp only at h
    have hx := hr x (by simp)
    split at h
    · rename_i a e
      injection h with h; subst h
      rw [e] at hx
      generalize hy : ρ' x = y at hx
      have hx0 := hx
      cases hx with
      | ptr id off l hl => exact ⟨_, hx0, by simp [execOp, hy]⟩
    · cases h
  | binOp bop t x y u =>
    simp only at h
    split at h
    · rename_i hp
      obtain ⟨ex, ey⟩ := plain2 hp (hr x (by simp)) (hr y (by simp))
      split at h
      · rename_i v0 hv0
        split at h
        · rename_i hpv
          injection h with h; subst h
          have hrun := prun_run hv0 w
          refine ⟨_, plain_self φ hpv, ?_⟩
          simp only [execOp, ex, ey]
          rw [Sem.run_bind, hrun]
          rfl
        · cases h
      · cases h
    · cases h
  | unOp uop t x =>
    simp only at h
    split at h
    · rename_i hp
      have ex := plain_eq hp (hr x (by simp))
      split at h
      · rename_i v0 hv0
        split at h
        · rename_i hpv
          injection h with h; subst h
          have hrun := prun_run hv0 w
          refine ⟨_, plain_self φ hpv, ?_⟩
          simp only [execOp, ex]
          rw [Sem.run_bind, hrun]
          rfl
        · cases h
      · cases h
    · cases h
  | makeInterface t x =>
    simp only at h
    split at h
    · cases h
    · rename_i d hd hn
      injection h with h; subst h
      refine ⟨_, .iface t _ _ (hr x (by simp)), ?_⟩
      simp only [execOp, Sem.run_bind, Instr.makeInterface, run_underlying hn, Result.andThen_ok]
      cases d <;> first
        | exact absurd rfl (hd _)
        | rfl
    · cases h
  | makeFunc fn first captured =>
    injection h with h; subst h
    refine ⟨.func fn (first.map ρ') (captured.map ρ'), ?_, by simp [execOp, Instr.makeFunc]⟩
    have e1 : VRL φ (first.toList.map ρ) (first.toList.map ρ') := VRL.of_map fun x hx => hr x (by simp at hx ⊢; exact .inl hx)
    have e2 : VRL φ (captured.toList.map ρ) (captured.toList.map ρ') := VRL.of_map fun x hx => hr x (by simp at hx ⊢; exact .inr hx)
    exact .func fn _ _ _ _ (by simp) (by simp) (by simpa using e1.2) (by simpa using e2.2)
  | fieldAddr t x f =>
    obtain ⟨v', hv, hrun⟩ := fieldAddr_ok (P := P) (hr x (by simp)) h w
    exact ⟨v', hv, by simp [execOp, hrun]⟩
  | field t x f =>
    obtain ⟨v', hv, hrun⟩ := field_ok (P := P) (hr x (by simp)) h w
    exact ⟨v', hv, by simp [execOp, hrun]⟩
  | indexAddr t x i =>
    obtain ⟨v', hv, hrun⟩ := indexAddr_ok (P := P) (hr x (by simp)) (hr i (by simp)) h w
    exact ⟨v', hv, by simp [execOp, hrun]⟩
  | index t x i =>
    obtain ⟨v', hv, hrun⟩ := index_ok (P := P) (hr x (by simp)) (hr i (by simp)) h w
    exact ⟨v', hv, by simp [execOp, hrun]⟩
  | typeAssert x xt t ok =>
    simp only at h
    have hx := hr x (by simp)
    cases hu : P.underlying t with
    | none => simp [hu] at h
    | some d =>
      have hd : ∀ ms, d ≠ .interface ms := by
        rintro ms rfl
        simp [hu] at h
      generalize hx0 : ρ x = x0 at h hx
      generalize hy : ρ' x = y at hx
      rw [hu] at h
      have hpl : ∀ (z u : Value) (b : Bool), VR φ z u → VR φ (.tuple #[z, .bool b]) (.tuple #[u, .bool b]) := fun z u b hz =>
        .tuple _ _ rfl (by simpa using (VRL.cons hz (VRL.cons (.bool b) (VRL.nil φ))).2)
      cases hx with
      | ifaceNil =>
        have h' : assertNo P t ok = some v := by
          cases d <;> first | exact absurd rfl (hd _) | exact h
        unfold assertNo at h'
        split at h'
        · rename_i z hz
          injection h' with h'; subst h'
          obtain ⟨_, pz⟩ := run_zero' hz w
          refine ⟨.tuple #[z, .bool false], hpl _ _ _ (plain_self φ pz), ?_⟩
          simp only [execOp, Sem.run_bind, hy, run_assert_no hu hd hz w (.inl rfl)]
          rfl
        · cases h'
      | iface u vv v2 hvv =>
        have h' : assertAt P t ok u vv = some v := by
          cases d <;> first | exact absurd rfl (hd _) | exact h
        unfold assertAt at h'
        split at h'
        · rename_i hut
          obtain rfl : u = t := Nat.eq_of_beq_eq_true hut
          injection h' with h'; subst h'
          have hrun := run_assert_yes (P := P) (xt := xt) (v := v2) (ok := ok) hu hd w
          cases ok with
          | false => exact ⟨v2, by simpa using hvv, by simp only [execOp, Sem.run_bind, hy, hrun]; rfl⟩
          | true => exact ⟨.tuple #[v2, .bool true], by simpa using hpl _ _ true hvv, by simp only [execOp, Sem.run_bind, hy, hrun]; rfl⟩
        · rename_i hut
          have hut' : u ≠ t := fun e' => by rw [e', Nat.beq_refl] at hut; cases hut
          unfold assertNo at h'
          split at h'
          · rename_i z hz
            injection h' with h'; subst h'
            obtain ⟨_, pz⟩ := run_zero' hz w
            refine ⟨.tuple #[z, .bool false], hpl _ _ _ (plain_self φ pz), ?_⟩
            simp only [execOp, Sem.run_bind, hy, run_assert_no hu hd hz w (.inr ⟨u, v2, rfl, hut'⟩)]
            rfl
          · cases h'
      | _ => exfalso; cases d <;> first | exact absurd rfl (hd _) | (cases h; done)
  | extract t i =>
    simp only at h
    have ht := hr t (by simp)
    split at h
    · rename_i vs e
      rw [e] at ht
      generalize hy : ρ' t = y at ht
      cases ht with
      | tuple c c' hc hc' =>
        obtain ⟨v', hv', hvr⟩ := VRL.get (φ := φ) (a := vs.toList) (c := c'.toList) ⟨by simpa using hc, hc'⟩ h
        have : c'[i]? = some v' := by simpa using hv'
        exact ⟨v', hvr, by simp [execOp, hy, Instr.extract, this]⟩
    · cases h
  | call c =>
    obtain ⟨callee, args, ats⟩ := c
    cases callee with
    | builtin b =>
      have arg2 : ∀ x y, args.toList.map ρ = [x, y] → ∃ a b, args = #[a, b] ∧ x = ρ a ∧ y = ρ b := by
        intro x y e
        obtain ⟨l⟩ := args
        match l, e with
        | [a, b], e => simp at e; exact ⟨a, b, rfl, e.1.symm, e.2.symm⟩
      cases b <;> simp only at h <;> first | (cases h; done) | skip
      · split at h
        · rename_i k a l b e
          obtain ⟨x, y, rfl, e1, e2⟩ := arg2 _ _ e
          have h1 := hr x (by simp [Call.operands])
          have h2 := hr y (by simp [Call.operands])
          rw [← e1] at h1; rw [← e2] at h2
          split at h
          · rename_i hk
            obtain rfl : k = l := by simpa using hk
            injection h with h; subst h
            generalize hy1 : ρ' x = y1 at h1
            generalize hy2 : ρ' y = y2 at h2
            cases h1; cases h2
            exact ⟨_, .int _ _, by simp [execOp, resolve, invoke, builtin, hy1, hy2, Builtin.max_, Builtin.max2]⟩
          · cases h
        · cases h
      · split at h
        · rename_i k a l b e
          obtain ⟨x, y, rfl, e1, e2⟩ := arg2 _ _ e
          have h1 := hr x (by simp [Call.operands])
          have h2 := hr y (by simp [Call.operands])
          rw [← e1] at h1; rw [← e2] at h2
          split at h
          · rename_i hk
            obtain rfl : k = l := by simpa using hk
            injection h with h; subst h
            generalize hy1 : ρ' x = y1 at h1
            generalize hy2 : ρ' y = y2 at h2
            cases h1; cases h2
            exact ⟨_, .int _ _, by simp [execOp, resolve, invoke, builtin, hy1, hy2, Builtin.min_, Builtin.min2]⟩
          · cases h
        · cases h
    | _ => simp at h
  | _ => cases h

end Go.Ev


