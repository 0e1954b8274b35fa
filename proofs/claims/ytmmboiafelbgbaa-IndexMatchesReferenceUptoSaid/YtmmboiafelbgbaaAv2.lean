/- Our library, part 2: the abstract interpreter. -/
import Derived.Test.YtmmboiafelbgbaaAv1
set_option linter.unusedSimpArgs false
set_option linter.unusedVariables false
namespace Go.Av
open Go

/-- an element, or the default -/
def nth {α : Type} [Inhabited α] (l : List α) (i : Nat) : α := l.getD i default
/-- a cell, or top -/
def cel (l : List AV) (i : Nat) : AV := l.getD i .top

/-! ### types -/
inductive TK where
  | sl (e : TypeId) | arr (n : Nat) (e : TypeId) | str | ptr (e : TypeId) | map (k e : TypeId) | int (k : IntKind) | string | bool | other
  deriving Inhabited, DecidableEq
def tk (P : Program) (t : TypeId) : TK := match P.underlying t with
  | some (.slice e) => .sl e
  | some (.array n e) => .arr n e
  | some (.struct _) => .str
  | some (.pointer e) => .ptr e
  | some (.map k e) => .map k e
  | some (.int k) => .int k
  | some .string => .string
  | some .bool => .bool
  | _ => .other
/-- size in cells, bytes, the zero value's cells -/
def tsz (P : Program) (t : TypeId) : Option Nat := (P.info? t).map (·.size)
def tby (P : Program) (t : TypeId) : Option Nat := (P.info? t).map (·.bytes)
def tz (P : Program) (t : TypeId) : Option (List AV) := ((P.info? t).bind (·.zero)).bind fun z => if z.cells.toList.all Value.oneCell' then some (z.cells.toList.map .v) else none
def tagg (P : Program) (t : TypeId) : Option Bool := (P.underlying t).map fun | .struct _ | .array _ _ => true | _ => false
/-- a field's offset, where it has cells -/
def foff (P : Program) (t : TypeId) (f : Nat) : Option Nat := match P.underlying t with
  | some (.struct fs) => (fs[f]?).bind fun x => ((P.info? x.type).map (·.size)).bind fun s => if s = 0 then none else some x.offset
  | _ => none
def ftyp (P : Program) (t : TypeId) (f : Nat) : Option TypeId := match P.underlying t with
  | some (.struct fs) => (fs[f]?).map (·.type)
  | _ => none

/-- every field's type has its row -/
def tfi (P : Program) (t : TypeId) : Bool := match P.underlying t with
  | some (.struct fs) => fs.toList.all fun f => (P.info? f.type).isSome
  | _ => false

/-! ### results of operations -/
structure Res where
  cond : Prop
  val : AV
  wr : List (Nat × Option AObj)
  al : Nat
abbrev Res.fail : Res := ⟨False, .top, [], 0⟩
abbrev Res.ok (x : AV) : Res := ⟨True, x, [], 0⟩
abbrev Res.if (c : Prop) (x : AV) : Res := ⟨c, x, [], 0⟩
def applyW : List (Nat × Option AObj) → Heap → Heap
  | [], h => h
  | (o, x) :: l, h => applyW l (upd h o x)

def AV.cells : AV → List AV
  | .agg cs => cs
  | x => [x]
def ofV : Value → AV
  | .agg cs => if cs.toList.all Value.oneCell' = true then .agg (cs.toList.map .v) else .v (.agg cs)
  | x => .v x
def ev (e : Env) : Operand → AV
  | .tmp t => e t
  | .const v => ofV v
  | .global g => .v (.pointer (some ⟨g, 0, none⟩))
  | .func f => .fn (.func f) [] []
def put (e : Env) : Option Tmp → AV → Env
  | some d, x => upd e d x
  | none, _ => e

def InR (k : IntKind) (n : Int) : Prop := k.min ≤ n ∧ n ≤ k.max

/-- the object lives, at this generation -/
def alive (h : Heap) (o g sz : Nat) : Prop := match h o with
  | some (.rows _ g' sz' _) => g = g' ∧ sz = sz'
  | none => False
/-- surely the value of one cell -/
def AV.isCell (h : Heap) : AV → Prop
  | .ref o g sz _ _ | .sl o g sz _ _ => alive h o g sz
  | .v x => x.oneCell' = true
  | .lst _ _ | .fp _ | .fn _ _ _ => True
  | _ => False
/-- surely cells that a variable may hold -/
def AV.okCells (h : Heap) : AV → Prop
  | .agg _ => True
  | x => x.isCell h
/-- the cells of a row from 'off' on, of a variable of type t -/
def ldRow (agg : Option Bool) (size : Option Nat) (sz off : Nat) (row : List AV) : Res :=
  match agg, size with
  | some true, some s => if off = 0 ∧ s = sz then .ok (.agg row) else .if (off + s ≤ sz) (.agg ((row.drop off).take s))
  | some false, _ => .if (off < sz) (cel row off)
  | _, _ => .fail
def evLoad (P : Program) (t : TypeId) (x : AV) (h : Heap) : Res :=
  match x with
  | .ref o g sz i off => match h o with
    | some (.rows _ g' sz' rs) => if g = g' ∧ sz = sz' then
        let r := ldRow (tagg P t) (tsz P t) sz off (nth rs i)
        ⟨i < rs.length ∧ r.cond, r.val, [], 0⟩ else .fail
    | none => .fail
  | .fp cells => match tagg P t, tsz P t with
    | some true, some s => .if (s ≤ cells.length) (.agg (cells.take s))
    | some false, _ => .if (0 < cells.length) (cel cells 0)
    | _, _ => .fail
  | _ => .fail
def setMany : List AV → Nat → List AV → List AV
  | row, _, [] => row
  | row, k, c :: cs => setMany (row.set k c) (k + 1) cs
def evStore (P : Program) (t : TypeId) (x v : AV) (h : Heap) : Res :=
  match x with
  | .ref o g sz i off => match h o with
    | some (.rows mt g' sz' rs) => if g = g' ∧ sz = sz' ∧ mt = true then
        ⟨i < rs.length ∧ tsz P t = some v.cells.length ∧ off + v.cells.length ≤ sz ∧ v.okCells h, .top,
          [(o, some (.rows true g sz (rs.set i (if off = 0 ∧ v.cells.length = sz then v.cells else setMany (nth rs i) off v.cells))))], 0⟩ else .fail
    | none => .fail
  | _ => .fail
def evFieldAddr (P : Program) (s : TypeId) (x : AV) (f : Nat) (h : Heap) : Res :=
  match foff P s f with
  | some d => match x with
    | .ref o g sz i off => .if (alive h o g sz) (.ref o g sz i (off + d))
    | .fp cells => .if (d ≤ cells.length) (.fp (cells.drop d))
    | _ => .fail
  | none => .fail
def evField (P : Program) (s : TypeId) (x : AV) (f : Nat) : Res :=
  match foff P s f, ftyp P s f, x with
  | some d, some t, .agg cs => match tagg P t, tsz P t with
    | some true, some n => .if (d + n ≤ cs.length) (.agg ((cs.drop d).take n))
    | some false, _ => .if (d < cs.length) (cel cs d)
    | _, _ => .fail
  | _, _, _ => .fail
def evIndexAddr (P : Program) (t : TypeId) (x ix : AV) (h : Heap) : Res :=
  match tk P t, x, ix with
  | .sl e, .sl o g sz i len, .v (.int _ n) => .if (alive h o g sz ∧ tsz P e = some sz ∧ 0 ≤ n ∧ n.toNat < len) (.ref o g sz (i + n.toNat) 0)
  | .sl e, .lst sz rows, .v (.int _ n) => .if (tsz P e = some sz ∧ 0 ≤ n ∧ n.toNat < rows.length) (.fp (nth rows n.toNat))
  | .arr len e, .ref o g sz i off, .v (.int _ n) => match tsz P e with
    | some s => .if (alive h o g sz ∧ 0 ≤ n ∧ n < len) (.ref o g sz i (off + n.toNat * s))
    | none => .fail
  | .arr len e, .fp cells, .v (.int _ n) => match tsz P e with
    | some s => .if (0 ≤ n ∧ n < len ∧ n.toNat * s ≤ cells.length) (.fp (cells.drop (n.toNat * s)))
    | none => .fail
  | _, _, _ => .fail
def evIndex (P : Program) (t : TypeId) (x ix : AV) : Res :=
  match tk P t, x, ix with
  | .arr len e, .agg cs, .v (.int _ n) => match tagg P e, tsz P e with
    | some true, some s => .if (0 ≤ n ∧ n < len ∧ n.toNat * s + s ≤ cs.length) (.agg ((cs.drop (n.toNat * s)).take s))
    | some false, some s => .if (0 ≤ n ∧ n < len ∧ n.toNat * s < cs.length) (cel cs (n.toNat * s))
    | _, _ => .fail
  | .string, .v (.string s), .v (.int _ n) => .if (0 ≤ n ∧ n.toNat < s.data.toList.length) (.v (.int .u8 (s.data.toList.getD n.toNat 0).toNat))
  | _, _, _ => .fail
def evLen (P : Program) (t : TypeId) (x : AV) (h : Heap) : Res :=
  match tk P t, x with
  | .sl _, .sl o g sz _ len => .if (alive h o g sz) (.int len)
  | .sl _, .lst _ rows => .ok (.int rows.length)
  | .sl _, .v (.slice _ 0 _) => .ok (.int 0)
  | .string, .v (.string s) => .ok (.int s.data.toList.length)
  | .arr n _, _ => .ok (.int n)
  | _, _ => .fail
def andN (k : IntKind) (a b : Int) : Int := k.wrap (BitVec.ofInt k.bits a &&& BitVec.ofInt k.bits b).toNat
def orN (k : IntKind) (a b : Int) : Int := k.wrap (BitVec.ofInt k.bits a ||| BitVec.ofInt k.bits b).toNat
def andNotN (k : IntKind) (a b : Int) : Int := k.wrap (BitVec.ofInt k.bits a &&& ~~~ BitVec.ofInt k.bits b).toNat
def evBin (op : BinOp) (x y : AV) : Res :=
  match op, x, y with
  | .shl, .v (.int k a), .v (.int _ b) => .if (0 ≤ b ∧ b ≤ 64 ∧ InR k (a * 2 ^ b.toNat) ∧ k.bits = 64) (.v (.int k (a * 2 ^ b.toNat)))
  | .shr, .v (.int k a), .v (.int _ b) => .if (0 ≤ b ∧ b ≤ 64 ∧ k.bits = 64) (.v (.int k (a.fdiv (2 ^ b.toNat))))
  | .add, .v (.int k a), .v (.int k' b) => .if (k = k' ∧ InR k (a + b)) (.v (.int k (a + b)))
  | .sub, .v (.int k a), .v (.int k' b) => .if (k = k' ∧ InR k (a - b)) (.v (.int k (a - b)))
  | .mul, .v (.int k a), .v (.int k' b) => .if (k = k' ∧ InR k (a * b)) (.v (.int k (a * b)))
  | .quo, .v (.int k a), .v (.int k' b) => .if (k = k' ∧ b ≠ 0 ∧ InR k (a.tdiv b)) (.v (.int k (a.tdiv b)))
  | .rem, .v (.int k a), .v (.int k' b) => .if (k = k' ∧ b ≠ 0) (.v (.int k (a.tmod b)))
  | .and, .v (.int k a), .v (.int k' b) => .if (k = k') (.v (.int k (andN k a b)))
  | .or, .v (.int k a), .v (.int k' b) => .if (k = k') (.v (.int k (orN k a b)))
  | .andNot, .v (.int k a), .v (.int k' b) => .if (k = k') (.v (.int k (andNotN k a b)))
  | .eql, .v (.int k a), .v (.int k' b) => .if (k = k') (.bool (decide (a = b)))
  | .neq, .v (.int k a), .v (.int k' b) => .if (k = k') (.bool (!decide (a = b)))
  | .lss, .v (.int k a), .v (.int k' b) => .if (k = k') (.bool (decide (a < b)))
  | .leq, .v (.int k a), .v (.int k' b) => .if (k = k') (.bool (decide (a ≤ b)))
  | .gtr, .v (.int k a), .v (.int k' b) => .if (k = k') (.bool (decide (b < a)))
  | .geq, .v (.int k a), .v (.int k' b) => .if (k = k') (.bool (decide (b ≤ a)))
  | _, _, _ => .fail
def evUn (op : UnOp) (x : AV) : Res :=
  match op, x with
  | .not, .v (.bool b) => .ok (.bool !b)
  | .neg, .v (.int k a) => .if (InR k (-a)) (.v (.int k (-a)))
  | _, _ => .fail
/-- a bool, and whether it is there -/
def pB : AV → Option (Bool × Bool)
  | .v (.bool x) => some (true, x)
  | .gd g (.v (.bool x)) => some (g, x)
  | _ => none
def evPick (c a b : AV) : Res :=
  match pB c, pB a, pB b with
  | some (g, c), some (g₁, x), some (g₂, y) => .if (g = true ∧ (c = true → g₁ = true) ∧ (c = false → g₂ = true)) (.bool (cond c x y))
  | _, _, _ => .fail
/-- comparisons of what is no number -/
def evEq (P : Program) (op : BinOp) (t : TypeId) (x y : AV) : Option AV :=
  match op, tk P t, x, y with
  | .eql, .bool, .v (.bool a), .v (.bool b) => some (.bool (a == b))
  | .neq, .bool, .v (.bool a), .v (.bool b) => some (.bool !(a == b))
  | .eql, .sl _, .lst _ (_ :: _), .v (.slice none 0 0) => some (.bool false)
  | .neq, .sl _, .lst _ (_ :: _), .v (.slice none 0 0) => some (.bool true)
  | .eql, .sl _, .v (.slice A _ _), .v (.slice none 0 0) => some (.bool A.isNone)
  | .neq, .sl _, .v (.slice A _ _), .v (.slice none 0 0) => some (.bool !A.isNone)
  | .eql, .string, .v (.string a), .v (.string b) => some (.bool (a.toList == b.toList))
  | .neq, .string, .v (.string a), .v (.string b) => some (.bool !(a.toList == b.toList))
  | _, _, _, _ => none
def evBin2 (P : Program) (op : BinOp) (t : TypeId) (x y : AV) : Res :=
  match evEq P op t x y with
  | some z => .ok z
  | none => evBin op x y
def evMin (x y : AV) : Res := match x, y with
  | .v (.int k a), .v (.int _ b) => .ok (.v (.int k (if b < a then b else a)))
  | _, _ => .fail
def evMax (x y : AV) : Res := match x, y with
  | .v (.int k a), .v (.int _ b) => .ok (.v (.int k (if a < b then b else a)))
  | _, _ => .fail
def fillRows (h : Heap) (sz : Nat) : List (List AV) → List (Nat × AV) → Prop × List (List AV)
  | rs, [] => (True, rs)
  | rs, (i, x) :: l => let r := fillRows h sz (rs.set i x.cells) l; (i < rs.length ∧ x.cells.length = sz ∧ x.okCells h ∧ r.1, r.2)
def evBuildSlice (P : Program) (n : Nat) (t : TypeId) (len : Nat) (parts : List (Nat × AV)) (h : Heap) : Res :=
  match tk P t with
  | .sl e => match tsz P e, tz P e with
    | some sz, some z =>
      let r := fillRows h sz (List.replicate len z) parts
      ⟨r.1 ∧ z.length = sz ∧ 0 < sz ∧ len * sz ≤ 16777216, .sl n 0 sz 0 len, [(n, some (.rows true 0 sz r.2))], 1⟩
    | _, _ => .fail
  | _ => .fail
def fillCells (P : Program) (h : Heap) (s : TypeId) : List AV → List (Nat × AV) → Prop × List AV
  | cs, [] => (True, cs)
  | cs, (i, x) :: l => match foff P s i, (ftyp P s i).bind (tsz P) with
    | some d, some n => let r := fillCells P h s (setMany cs d x.cells) l; (x.cells.length = n ∧ d + n ≤ cs.length ∧ x.okCells h ∧ r.1, r.2)
    | _, _ => (False, cs)
def fillArr (h : Heap) (sz : Nat) : List AV → List (Nat × AV) → Prop × List AV
  | cs, [] => (True, cs)
  | cs, (i, x) :: l => let r := fillArr h sz (setMany cs (i * sz) x.cells) l; (x.cells.length = sz ∧ i * sz + sz ≤ cs.length ∧ x.okCells h ∧ r.1, r.2)
def evBuild (P : Program) (t : TypeId) (parts : List (Nat × AV)) (h : Heap) : Res :=
  match tk P t, tz P t with
  | .str, some z => let r := fillCells P h t z parts; .if (tfi P t = true ∧ r.1) (.agg r.2)
  | .arr _ e, some z => match tsz P e with
    | some sz => let r := fillArr h sz z parts; .if r.1 (.agg r.2)
    | none => .fail
  | _, _ => .fail
/-- the rows that a slice holds -/
def rowsOf (x : AV) (sz : Nat) (h : Heap) : Prop × List (List AV) :=
  match x with
  | .sl o g sz' i len => match h o with
    | some (.rows _ g' sz'' rs) => (g = g' ∧ sz = sz' ∧ sz = sz'' ∧ i + len ≤ rs.length, (rs.drop i).take len)
    | none => (False, [])
  | .lst sz' rows => ((rows = [] ∨ sz = sz'), rows)
  | .v (.slice _ 0 _) => (True, [])
  | _ => (False, [])
/-- the bytes of rows of one byte each -/
def bytesOf : List (List AV) → Option (List Int)
  | [] => some []
  | [.v (.int .u8 n)] :: rs => (bytesOf rs).map (n :: ·)
  | _ => none
def strOf (ns : List Int) : ByteArray := ns.foldl (fun r n => r.push (UInt8.ofNat n.toNat)) ByteArray.empty
def evStr (P : Program) (e : TypeId) (x : AV) (h : Heap) : Res :=
  match tk P e, bytesOf (rowsOf x 1 h).2 with
  | .int .u8, some ns => .if (rowsOf x 1 h).1 (.v (.string (strOf ns)))
  | _, _ => .fail
def evConv (P : Program) (src dst : TypeId) (x : AV) (h : Heap) : Res :=
  match tk P src, tk P dst, x with
  | .int _, .int k, .v (.int _ n) => .if (InR k n) (.v (.int k n))
  | .sl e, .string, x => evStr P e x h
  | _, _, _ => .fail
def evAppend (P : Program) (n : Nat) (tys : List TypeId) (s x : AV) (h : Heap) : Res :=
  match tys with
  | [st, xt] => match tk P st, tk P xt with
    | .sl e, .sl _ => match tsz P e, tby P e, tz P e with
      | some sz, some by_, some z =>
        let r := rowsOf x sz h
        match s with
        | .v (.slice none 0 0) => ⟨r.1 ∧ 0 < sz ∧ z.length = sz ∧ 0 < by_ ∧ by_ ≤ 1024 ∧ r.2.length * by_ ≤ 17592186044416, .sl n 0 sz 0 r.2.length, [(n, some (.rows true 0 sz r.2))], 1⟩
        | .sl o g sz' i len => match h o with
          | some (.rows mt g' sz'' rs) =>
            ⟨r.1 ∧ 0 < sz ∧ z.length = sz ∧ mt = true ∧ g = g' ∧ sz = sz' ∧ sz = sz'' ∧ i + len = rs.length ∧ 0 < by_ ∧ by_ ≤ 1024 ∧ (len + r.2.length) * by_ ≤ 17592186044416,
              .sl o (g + 1) sz 0 (len + r.2.length), [(o, some (.rows true (g + 1) sz (rs.drop i ++ r.2)))], 0⟩
          | none => .fail
        | _ => .fail
      | _, _, _ => .fail
    | _, _ => .fail
  | _ => .fail
def evCopy (P : Program) (tys : List TypeId) (s x : AV) (h : Heap) : Res :=
  match tys with
  | st :: _ => match tk P st with
    | .sl e => match tsz P e with
      | some sz =>
        let r := rowsOf x sz h
        match s with
        | .sl o g sz' i len => match h o with
          | some (.rows mt g' sz'' rs) =>
            ⟨r.1 ∧ 0 < sz ∧ mt = true ∧ g = g' ∧ sz = sz' ∧ sz = sz'' ∧ i + len ≤ rs.length ∧ len ≤ 1073741824,
              .int (min r.2.length len : Nat), [(o, some (.rows true g sz (rs.take i ++ r.2.take (min r.2.length len) ++ rs.drop (i + min r.2.length len))))], 0⟩
          | none => .fail
        | _ => .fail
      | none => .fail
    | _ => .fail
  | _ => .fail
def evMakeSlice (P : Program) (n : Nat) (t : TypeId) (l c : AV) : Res :=
  match tk P t, l, c with
  | .sl e, .v (.int .i64 l), .v (.int .i64 c) => match tsz P e, tz P e, tby P e with
    | some sz, some z, some by_ => ⟨0 < sz ∧ z.length = sz ∧ 0 ≤ l ∧ l ≤ c ∧ by_ ≤ 1024 ∧ c ≤ 17179869184,
        .sl n 0 sz 0 l.toNat, [(n, some (.rows true 0 sz (List.replicate l.toNat z)))], 1⟩
    | _, _, _ => .fail
  | _, _, _ => .fail
def optInt (d : Int) : Option AV → Option Int
  | none => some d
  | some (.v (.int _ n)) => some n
  | _ => none
def evSlice (P : Program) (t : TypeId) (x : AV) (lo hi mx : Option AV) (h' : Heap) : Res :=
  match tk P t, x, mx with
  | .sl e, .sl o g sz i len, none => match optInt 0 lo, optInt len hi with
    | some l, some h => .if (alive h' o g sz ∧ tsz P e = some sz ∧ 0 ≤ l ∧ l ≤ h ∧ h ≤ len) (.sl o g sz (i + l.toNat) (h.toNat - l.toNat))
    | _, _ => .fail
  | .sl e, .lst sz rows, none => match optInt 0 lo, optInt rows.length hi with
    | some l, some h => .if (tsz P e = some sz ∧ 0 ≤ l ∧ l ≤ h ∧ h ≤ rows.length) (.lst sz ((rows.drop l.toNat).take (h.toNat - l.toNat)))
    | _, _ => .fail
  | .string, .v (.string s), none => match optInt 0 lo, optInt s.data.toList.length hi with
    | some l, some h => .if (0 ≤ l ∧ l ≤ h ∧ h ≤ s.data.toList.length) (.v (.string (s.extract l.toNat h.toNat)))
    | _, _ => .fail
  | _, _, _ => .fail
def evExtract (x : AV) (i : Nat) : Res :=
  match x with
  | .tup vs => .if (i < vs.length) (cel vs i)
  | _ => .fail

/-- one operation that is no call of a function -/
def aev (P : Program) (n : Nat) (op : Op) (e : Env) (h : Heap) : Res :=
  match op with
  | .move x | .assign x => .ok (ev e x)
  | .pick c a b => evPick (ev e c) (ev e a) (ev e b)
  | .alloc t => match tz P t with
    | some z => ⟨True, .ref n 0 z.length 0 0, [(n, some (.rows true 0 z.length [z]))], 1⟩
    | none => .fail
  | .box _ x => let c := (ev e x).cells
    ⟨(ev e x).okCells h, .ref n 0 c.length 0 0, [(n, some (.rows true 0 c.length [c]))], 1⟩
  | .build t parts => evBuild P t (parts.toList.map fun p => (p.1, ev e p.2)) h
  | .buildSlice t len parts => evBuildSlice P n t len (parts.toList.map fun p => (p.1, ev e p.2)) h
  | .load t a => evLoad P t (ev e a) h
  | .store t a v => evStore P t (ev e a) (ev e v) h
  | .binOp op t x y _ => evBin2 P op t (ev e x) (ev e y)
  | .unOp op _ x => evUn op (ev e x)
  | .convert s d x => evConv P s d (ev e x) h
  | .makeFunc f a b => .ok (.fn f (a.toList.map (ev e)) (b.toList.map (ev e)))
  | .makeSlice t l c => evMakeSlice P n t (ev e l) (ev e c)
  | .slice t x lo hi mx => evSlice P t (ev e x) (lo.map (ev e)) (hi.map (ev e)) (mx.map (ev e)) h
  | .fieldAddr t x f => evFieldAddr P t (ev e x) f h
  | .field t x f => evField P t (ev e x) f
  | .indexAddr t x i => evIndexAddr P t (ev e x) (ev e i) h
  | .index t x i => evIndex P t (ev e x) (ev e i)
  | .extract x i => evExtract (ev e x) i
  | .call { callee := .builtin .len, args, argTypes } => match args.toList, argTypes.toList with
    | [x], [t] => evLen P t (ev e x) h
    | _, _ => .fail
  | .call { callee := .builtin .append, args, argTypes } => match args.toList with
    | [s, x] => evAppend P n argTypes.toList (ev e s) (ev e x) h
    | _ => .fail
  | .call { callee := .builtin .copy, args, argTypes } => match args.toList with
    | [s, x] => evCopy P argTypes.toList (ev e s) (ev e x) h
    | _ => .fail
  | .call { callee := .builtin .min, args, .. } => match args.toList with
    | [x, y] => evMin (ev e x) (ev e y)
    | _ => .fail
  | .call { callee := .builtin .max, args, .. } => match args.toList with
    | [x, y] => evMax (ev e x) (ev e y)
    | _ => .fail
  | _ => .fail
end Go.Av
