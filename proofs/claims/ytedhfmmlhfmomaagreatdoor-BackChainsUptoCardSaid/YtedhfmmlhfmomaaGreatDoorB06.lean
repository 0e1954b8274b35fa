/- Texts of ours, part 6: our library and contracts of functions. -/
import Derived.Test.YtedhfmmlhfmomaaGreatDoorB05
import Derived.Test.YtedhfmmlhfmomaaGreatDoorProg
set_option linter.unusedSimpArgs false
set_option linter.unusedVariables false
set_option maxRecDepth 100000
set_option maxHeartbeats 40000000
section
/- Our library, part 13: equations by which code is evaluated. -/
namespace Go.Av
open Go

section
variable {P : Program} {n0 : Nat} {Q : zbx} {e : Env} {h : zal} {n : Nat} {ops rest : List Oper}
def VC (a b : Prop) : Prop := a ∧ b
theorem zua {b : Prop} : VC False b = False := by simp [VC]
def VQ (a b : Prop) : Prop := a ∧ b
theorem zwm {b : Prop} : VQ True b = b := by simp [VQ]
theorem VQ.mk {a b : Prop} (h1 : a) (h2 : a → b) : VQ a b := ⟨h1, h2 h1⟩
@[congr] theorem VQ_congr {a b c : Prop} (h1 : a = c) : VQ a b = VQ c b := by subst h1; rfl
theorem VC.mk {a b : Prop} (h1 : a) (h2 : a → b) : VC a b := ⟨h1, h2 h1⟩
@[congr] theorem VC_congr {a b c : Prop} (h1 : a = c) : VC a b = VC c b := by subst h1; rfl
def aIf (t : Bool) (a b : Prop) : Prop := (t = true → a) ∧ (t = false → b)
theorem aIf.mk {t : Bool} {a b : Prop} (h1 : t = true → a) (h2 : t = false → b) : aIf t a b := ⟨h1, h2⟩
theorem zkD (vs : List AV) (i : Nat) : zep (.tup vs) i = Res.if (i < vs.length) (cel vs i) := rfl
@[congr] theorem aIf_congr {t t' : Bool} {a b : Prop} (h : t = t') : aIf t a b = aIf t' a b := by subst h; rfl
@[congr] theorem upd_congr {α : Type} {f : Nat → α} {k : Nat} {x : α} {j j' : Nat} (h : j = j') : upd f k x j = upd f k x j' := by subst h; rfl
theorem zbi {α : Type} [Inhabited α] (x : α) (l : List α) : nth (x :: l) 0 = x := rfl
theorem zd3 {α : Type} [Inhabited α] (x : α) (l : List α) (k : Nat) : nth (x :: l) (k + 1) = nth l k := by simp [nth]
theorem zuO (x : AV) (l : List AV) : cel (x :: l) 0 = x := rfl
theorem zuN (x : AV) (l : List AV) (k : Nat) : cel (x :: l) (k + 1) = cel l k := by simp [cel]
theorem zbK {α β : Type} [Inhabited α] [Inhabited β] (f : α → β) (l : List α) (i : Nat) (h : i < l.length) : nth (l.map f) i = f (nth l i) := by simp [nth, h]
theorem zwT {α : Type} [Inhabited α] (f : α → AV) (l : List α) (i : Nat) (h : i < l.length) : cel (l.map f) i = f (nth l i) := by simp [nth, cel, h]
theorem zaB {α : Type} [Inhabited α] (l : List α) (i : Nat) (h : i < l.length) : nth l i = l[i] := by simp [nth, h]
theorem zaj {α : Type} [Inhabited α] {l : List α} {i : Nat} (h : i < l.length) : nth l i ∈ l := by rw [zaB l i h]; exact List.getElem_mem _
def zff (P : Program) (ops : List Oper) (Q : zbx) (rest : List Oper) (e : Env) (h : zal) (n : Nat) : Prop := za7 P ops Q rest e h n
def zvO (P : Program) (n0 : Nat) (c : Code) (Q : zbx) (e : Env) (h : zal) (n : Nat) : Prop := awp P n0 c Q e h n
theorem zwl : VC True (zff P ops Q rest e h n) = za7 P ops Q rest e h n := by simp [VC, zff]
theorem zx8 {a : Prop} (h1 : a) (h2 : a → za7 P ops Q rest e h n) : VC a (zff P ops Q rest e h n) := ⟨h1, h2 h1⟩
theorem zrt {a : Code} {y : Prop} : aIf true (zvO P n0 a Q e h n) y = awp P n0 a Q e h n := by simp [aIf, zvO]
theorem zpx {b : Code} {y : Prop} : aIf false y (zvO P n0 b Q e h n) = awp P n0 b Q e h n := by simp [aIf, zvO]
theorem zxN {t : Bool} {a b : Code} (h1 : t = true → awp P n0 a Q e h n) (h2 : t = false → awp P n0 b Q e h n) : aIf t (zvO P n0 a Q e h n) (zvO P n0 b Q e h n) := ⟨h1, h2⟩
def zeM (P : Program) (ops : List Oper) (Q : zbx) (rest : List Oper) (dst : Option Tmp) (r : Res) (e : Env) (h : zal) (n : Nat) : Prop :=
 VC r.cond (za7 P ops Q rest (put e dst r.val) (zai r.wr h) (n + r.al))
def zfd (P : Program) (ops : List Oper) (Q : zbx) (rest : List Oper) (dst : Option Tmp) (g : Bool) (r : Res) (e : Env) (h : zal) (n : Nat) : Prop :=
 VC (g = true → r.cond) (za7 P ops Q rest (put e dst (.gd g r.val)) (zai (gW g r.wr) h) (n + gN g r.al))
def znm (P : Program) (ops : List Oper) (Q : zbx) (rest : List Oper) (dst : Option Tmp) (fv : AV) (args : List AV) (e : Env) (h : zal) (n : Nat) : Prop :=
 zeV P fv args h n (fun r h' n' => za7 P ops Q rest (put e dst r) h' n') ∨ zg6 e fv args h n (fun e' r h' => za7 P ops Q rest (put e' dst r) h' n)
def zpy (P : Program) (ops : List Oper) (Q : zbx) (rest : List Oper) (dst : Option Tmp) (l : Nat) (args : List AV) (e : Env) (h : zal) (n : Nat) : Prop :=
 zg6 e (.fn (.yield l) [] []) args h n (fun e' r h' => za7 P ops Q rest (put e' dst r) h' n)
theorem zra {e : Env} {f : FuncId} {a b args : List AV} {h : zal} {n : Nat} {K : Env → AV → zal → Prop} : ¬ zg6 e (.fn (.func f) a b) args h n K := by
 rintro ⟨l, more, rows, h1, _⟩; cases h1
def zeU (P : Program) (ops : List Oper) (Q : zbx) (rest : List Oper) (dst : Option Tmp) (op : Op) (g : Option Bool) (e : Env) (h : zal) (n : Nat) : Prop :=
 match g with
 | none => False
 | some g => VQ (∀ t ∈ gT op, okG g (e t)) (zfd P ops Q rest dst g (aev P n op (gE op e) h) e h n)

theorem zuw : awp P n0 .skip Q e h n = Q .normal e h n := rfl
theorem zrU (l : Nat) : awp P n0 (.label l) Q e h n = Q .normal e h n := rfl
theorem zp1 (id : Nat) (ops : List Oper) : awp P n0 (.region id ops.toArray false) Q e h n = za7 P ops Q ops e h n := rfl
theorem zwy (a b : Code) : awp P n0 (.seq a b) Q e h n = awp P n0 a (zrc (awp P n0 b Q) Q) e h n := rfl
def zuc (P : Program) (n0 : Nat) (a b : Code) (Q : zbx) (x : AV) (e : Env) (h : zal) (n : Nat) : Prop := match x with
 | .v (.bool t) => (t = true → awp P n0 a Q e h n) ∧ (t = false → awp P n0 b Q e h n)
 | _ => False
theorem zur (c : Operand) (a b : Code) : awp P n0 (.cond c a b) Q e h n = zuc P n0 a b Q (ev e c) e h n := rfl
theorem zpw (a b : Code) (t : Bool) : zuc P n0 a b Q (.v (.bool t)) e h n = aIf t (zvO P n0 a Q e h n) (zvO P n0 b Q e h n) := rfl
theorem zrV (b : Code) : awp P n0 (.scope b) Q e h n = awp P n0 b (zfu Q) e h n := rfl
theorem zrT (id : Nat) (b : Code) : awp P n0 (.block id b) Q e h n = awp P n0 b (zej id Q) e h n := rfl
theorem zuu (b : Code) : awp P n0 (.loop b) Q e h n = zab n0 (awp P n0 b) Q e h n := rfl
theorem zut (id : Nat) : awp P n0 (.exit id) Q e h n = Q (.exit id) e h n := rfl
theorem zwx : awp P n0 .ret Q e h n = Q .ret e h n := rfl
theorem zne (K : Env → zal → Nat → Prop) : zrc K Q .normal e h n = K e h n := rfl
theorem zrl (K : Env → zal → Nat → Prop) (id : Nat) : zrc K Q (.exit id) e h n = Q (.exit id) e h n := rfl
theorem zt4 (K : Env → zal → Nat → Prop) : zrc K Q .ret e h n = Q .ret e h n := rfl
theorem zj9 : zfu Q .normal e h n = Q .normal e h n := rfl
theorem znc (id : Nat) : zfu Q (.exit id) e h n = Q (.exit id) e h n := rfl
theorem zpt : zfu Q .ret e h n = Q .ret e h n := rfl
theorem zj7 (id : Nat) : zej id Q .normal e h n = Q .normal e h n := rfl
theorem zm8 (id id' : Nat) : zej id Q (.exit id') e h n = if id' = id then Q .normal e h n else Q (.exit id') e h n := rfl
theorem zpq (id : Nat) : zej id Q .ret e h n = Q .ret e h n := rfl
theorem zt6 (rs : List ResultVar) (K : zcc) : RetQ P rs K .ret e h n = VQ (zld P e h rs).1 (K (zv6 (zld P e h rs).2) h n) := rfl
theorem znl (rs : List ResultVar) (K : zcc) : RetQ P rs K .normal e h n = VQ (zld P e h rs).1 (K (zv6 (zld P e h rs).2) h n) := rfl
theorem zuo : za7 P ops Q [] e h n = Q .normal e h n := rfl
theorem zrO {dst : Option Tmp} {f : Operand} {args : Array Operand} {ats : Array TypeId} {ty : TypeId} {pos : String} {after : Array Edge} :
  za7 P ops Q (⟨dst, .call ⟨.value f, args, ats⟩, ty, pos, after, none⟩ :: rest) e h n = znm P ops Q rest dst (ev e f) (args.toList.map (ev e)) e h n := rfl
theorem zaG {dst : Option Tmp} {op : Op} {ty : TypeId} {pos : String} {after : Array Edge} {j : Nat} {want : Bool} (hc : zjw op = false) :
  za7 P ops Q (⟨dst, op, ty, pos, after, some (j, want)⟩ :: rest) e h n = zeU P ops Q rest dst op ((zaw ops j).bind fun t => zax (e t) want) e h n := by
 unfold za7 zeU zfd
 cases op with
 | call c =>
  obtain ⟨callee, args, ats⟩ := c
  cases callee with
  | value f => simp [zjw] at hc
  | _ => rfl
 | _ => rfl
theorem zrQ {dst : Option Tmp} {ty : TypeId} {pos : String} {after : Array Edge} {x : Operand} : za7 P ops Q (⟨dst, .move x, ty, pos, after, none⟩ :: rest) e h n = zeM P ops Q rest dst (aev P n (.move x) e h) e h n := rfl
theorem zpQ {dst : Option Tmp} {ty : TypeId} {pos : String} {after : Array Edge} {j : Nat} {want : Bool} {x : Operand} : za7 P ops Q (⟨dst, .move x, ty, pos, after, some (j, want)⟩ :: rest) e h n = zeU P ops Q rest dst (.move x) ((zaw ops j).bind fun t => zax (e t) want) e h n := zaG rfl
theorem znF {dst : Option Tmp} {ty : TypeId} {pos : String} {after : Array Edge} {x : Operand} : za7 P ops Q (⟨dst, .assign x, ty, pos, after, none⟩ :: rest) e h n = zeM P ops Q rest dst (aev P n (.assign x) e h) e h n := rfl
theorem zlz {dst : Option Tmp} {ty : TypeId} {pos : String} {after : Array Edge} {j : Nat} {want : Bool} {x : Operand} : za7 P ops Q (⟨dst, .assign x, ty, pos, after, some (j, want)⟩ :: rest) e h n = zeU P ops Q rest dst (.assign x) ((zaw ops j).bind fun t => zax (e t) want) e h n := zaG rfl
theorem zrR {dst : Option Tmp} {ty : TypeId} {pos : String} {after : Array Edge} {c a b : Operand} : za7 P ops Q (⟨dst, .pick c a b, ty, pos, after, none⟩ :: rest) e h n = zeM P ops Q rest dst (aev P n (.pick c a b) e h) e h n := rfl
theorem zpR {dst : Option Tmp} {ty : TypeId} {pos : String} {after : Array Edge} {j : Nat} {want : Bool} {c a b : Operand} : za7 P ops Q (⟨dst, .pick c a b, ty, pos, after, some (j, want)⟩ :: rest) e h n = zeU P ops Q rest dst (.pick c a b) ((zaw ops j).bind fun t => zax (e t) want) e h n := zaG rfl
theorem zpT {dst : Option Tmp} {ty : TypeId} {pos : String} {after : Array Edge} {t : TypeId} : za7 P ops Q (⟨dst, .alloc t, ty, pos, after, none⟩ :: rest) e h n = zeM P ops Q rest dst (aev P n (.alloc t) e h) e h n := rfl
theorem znx {dst : Option Tmp} {ty : TypeId} {pos : String} {after : Array Edge} {j : Nat} {want : Bool} {t : TypeId} : za7 P ops Q (⟨dst, .alloc t, ty, pos, after, some (j, want)⟩ :: rest) e h n = zeU P ops Q rest dst (.alloc t) ((zaw ops j).bind fun t => zax (e t) want) e h n := zaG rfl
theorem zun {dst : Option Tmp} {ty : TypeId} {pos : String} {after : Array Edge} {t : TypeId} {x : Operand} : za7 P ops Q (⟨dst, .box t x, ty, pos, after, none⟩ :: rest) e h n = zeM P ops Q rest dst (aev P n (.box t x) e h) e h n := rfl
theorem zrN {dst : Option Tmp} {ty : TypeId} {pos : String} {after : Array Edge} {j : Nat} {want : Bool} {t : TypeId} {x : Operand} : za7 P ops Q (⟨dst, .box t x, ty, pos, after, some (j, want)⟩ :: rest) e h n = zeU P ops Q rest dst (.box t x) ((zaw ops j).bind fun t => zax (e t) want) e h n := zaG rfl
theorem zpV {dst : Option Tmp} {ty : TypeId} {pos : String} {after : Array Edge} {t : TypeId} {ps : Array (Nat × Operand)} : za7 P ops Q (⟨dst, .build t ps, ty, pos, after, none⟩ :: rest) e h n = zeM P ops Q rest dst (aev P n (.build t ps) e h) e h n := rfl
theorem znz {dst : Option Tmp} {ty : TypeId} {pos : String} {after : Array Edge} {j : Nat} {want : Bool} {t : TypeId} {ps : Array (Nat × Operand)} : za7 P ops Q (⟨dst, .build t ps, ty, pos, after, some (j, want)⟩ :: rest) e h n = zeU P ops Q rest dst (.build t ps) ((zaw ops j).bind fun t => zax (e t) want) e h n := zaG rfl
theorem zhw {dst : Option Tmp} {ty : TypeId} {pos : String} {after : Array Edge} {t : TypeId} {k : Nat} {ps : Array (Nat × Operand)} : za7 P ops Q (⟨dst, .buildSlice t k ps, ty, pos, after, none⟩ :: rest) e h n = zeM P ops Q rest dst (aev P n (.buildSlice t k ps) e h) e h n := rfl
theorem zgX {dst : Option Tmp} {ty : TypeId} {pos : String} {after : Array Edge} {j : Nat} {want : Bool} {t : TypeId} {k : Nat} {ps : Array (Nat × Operand)} : za7 P ops Q (⟨dst, .buildSlice t k ps, ty, pos, after, some (j, want)⟩ :: rest) e h n = zeU P ops Q rest dst (.buildSlice t k ps) ((zaw ops j).bind fun t => zax (e t) want) e h n := zaG rfl
theorem zrP {dst : Option Tmp} {ty : TypeId} {pos : String} {after : Array Edge} {t : TypeId} {x : Operand} : za7 P ops Q (⟨dst, .load t x, ty, pos, after, none⟩ :: rest) e h n = zeM P ops Q rest dst (aev P n (.load t x) e h) e h n := rfl
theorem zpP {dst : Option Tmp} {ty : TypeId} {pos : String} {after : Array Edge} {j : Nat} {want : Bool} {t : TypeId} {x : Operand} : za7 P ops Q (⟨dst, .load t x, ty, pos, after, some (j, want)⟩ :: rest) e h n = zeU P ops Q rest dst (.load t x) ((zaw ops j).bind fun t => zax (e t) want) e h n := zaG rfl
theorem zp0 {dst : Option Tmp} {ty : TypeId} {pos : String} {after : Array Edge} {t : TypeId} {x y : Operand} : za7 P ops Q (⟨dst, .store t x y, ty, pos, after, none⟩ :: rest) e h n = zeM P ops Q rest dst (aev P n (.store t x y) e h) e h n := rfl
theorem znE {dst : Option Tmp} {ty : TypeId} {pos : String} {after : Array Edge} {j : Nat} {want : Bool} {t : TypeId} {x y : Operand} : za7 P ops Q (⟨dst, .store t x y, ty, pos, after, some (j, want)⟩ :: rest) e h n = zeU P ops Q rest dst (.store t x y) ((zaw ops j).bind fun t => zax (e t) want) e h n := zaG rfl
theorem zpU {dst : Option Tmp} {ty : TypeId} {pos : String} {after : Array Edge} {o : BinOp} {t : TypeId} {x y : Operand} {t' : TypeId} : za7 P ops Q (⟨dst, .binOp o t x y t', ty, pos, after, none⟩ :: rest) e h n = zeM P ops Q rest dst (aev P n (.binOp o t x y t') e h) e h n := rfl
theorem zny {dst : Option Tmp} {ty : TypeId} {pos : String} {after : Array Edge} {j : Nat} {want : Bool} {o : BinOp} {t : TypeId} {x y : Operand} {t' : TypeId} : za7 P ops Q (⟨dst, .binOp o t x y t', ty, pos, after, some (j, want)⟩ :: rest) e h n = zeU P ops Q rest dst (.binOp o t x y t') ((zaw ops j).bind fun t => zax (e t) want) e h n := zaG rfl
theorem zrS {dst : Option Tmp} {ty : TypeId} {pos : String} {after : Array Edge} {o : UnOp} {t : TypeId} {x : Operand} : za7 P ops Q (⟨dst, .unOp o t x, ty, pos, after, none⟩ :: rest) e h n = zeM P ops Q rest dst (aev P n (.unOp o t x) e h) e h n := rfl
theorem zkp {dst : Option Tmp} {ty : TypeId} {pos : String} {after : Array Edge} {x : Operand} : za7 P ops Q (⟨dst, .nilCheck x, ty, pos, after, none⟩ :: rest) e h n = zeM P ops Q rest dst (aev P n (.nilCheck x) e h) e h n := rfl
theorem zpS {dst : Option Tmp} {ty : TypeId} {pos : String} {after : Array Edge} {j : Nat} {want : Bool} {o : UnOp} {t : TypeId} {x : Operand} : za7 P ops Q (⟨dst, .unOp o t x, ty, pos, after, some (j, want)⟩ :: rest) e h n = zeU P ops Q rest dst (.unOp o t x) ((zaw ops j).bind fun t => zax (e t) want) e h n := zaG rfl
theorem ziP {dst : Option Tmp} {ty : TypeId} {pos : String} {after : Array Edge} {j : Nat} {want : Bool} {x : Operand} : za7 P ops Q (⟨dst, .nilCheck x, ty, pos, after, some (j, want)⟩ :: rest) e h n = zeU P ops Q rest dst (.nilCheck x) ((zaw ops j).bind fun t => zax (e t) want) e h n := zaG rfl
theorem zlD {dst : Option Tmp} {ty : TypeId} {pos : String} {after : Array Edge} {s d : TypeId} {x : Operand} : za7 P ops Q (⟨dst, .convert s d x, ty, pos, after, none⟩ :: rest) e h n = zeM P ops Q rest dst (aev P n (.convert s d x) e h) e h n := rfl
theorem zkl {dst : Option Tmp} {ty : TypeId} {pos : String} {after : Array Edge} {j : Nat} {want : Bool} {s d : TypeId} {x : Operand} : za7 P ops Q (⟨dst, .convert s d x, ty, pos, after, some (j, want)⟩ :: rest) e h n = zeU P ops Q rest dst (.convert s d x) ((zaw ops j).bind fun t => zax (e t) want) e h n := zaG rfl
theorem zko {dst : Option Tmp} {ty : TypeId} {pos : String} {after : Array Edge} {f : Fn} {xs ys : Array Operand} : za7 P ops Q (⟨dst, .makeFunc f xs ys, ty, pos, after, none⟩ :: rest) e h n = zeM P ops Q rest dst (aev P n (.makeFunc f xs ys) e h) e h n := rfl
theorem ziO {dst : Option Tmp} {ty : TypeId} {pos : String} {after : Array Edge} {j : Nat} {want : Bool} {f : Fn} {xs ys : Array Operand} : za7 P ops Q (⟨dst, .makeFunc f xs ys, ty, pos, after, some (j, want)⟩ :: rest) e h n = zeU P ops Q rest dst (.makeFunc f xs ys) ((zaw ops j).bind fun t => zax (e t) want) e h n := zaG rfl
theorem ziS {dst : Option Tmp} {ty : TypeId} {pos : String} {after : Array Edge} {t : TypeId} {l c : Operand} : za7 P ops Q (⟨dst, .makeSlice t l c, ty, pos, after, none⟩ :: rest) e h n = zeM P ops Q rest dst (aev P n (.makeSlice t l c) e h) e h n := rfl
theorem zhu {dst : Option Tmp} {ty : TypeId} {pos : String} {after : Array Edge} {j : Nat} {want : Bool} {t : TypeId} {l c : Operand} : za7 P ops Q (⟨dst, .makeSlice t l c, ty, pos, after, some (j, want)⟩ :: rest) e h n = zeU P ops Q rest dst (.makeSlice t l c) ((zaw ops j).bind fun t => zax (e t) want) e h n := zaG rfl
theorem zpZ {dst : Option Tmp} {ty : TypeId} {pos : String} {after : Array Edge} {t : TypeId} {x : Operand} {lo hi mx : Option Operand} : za7 P ops Q (⟨dst, .slice t x lo hi mx, ty, pos, after, none⟩ :: rest) e h n = zeM P ops Q rest dst (aev P n (.slice t x lo hi mx) e h) e h n := rfl
theorem znD {dst : Option Tmp} {ty : TypeId} {pos : String} {after : Array Edge} {j : Nat} {want : Bool} {t : TypeId} {x : Operand} {lo hi mx : Option Operand} : za7 P ops Q (⟨dst, .slice t x lo hi mx, ty, pos, after, some (j, want)⟩ :: rest) e h n = zeU P ops Q rest dst (.slice t x lo hi mx) ((zaw ops j).bind fun t => zax (e t) want) e h n := zaG rfl
theorem ziQ {dst : Option Tmp} {ty : TypeId} {pos : String} {after : Array Edge} {t : TypeId} {x : Operand} {f : Nat} : za7 P ops Q (⟨dst, .fieldAddr t x f, ty, pos, after, none⟩ :: rest) e h n = zeM P ops Q rest dst (aev P n (.fieldAddr t x f) e h) e h n := rfl
theorem zhs {dst : Option Tmp} {ty : TypeId} {pos : String} {after : Array Edge} {j : Nat} {want : Bool} {t : TypeId} {x : Operand} {f : Nat} : za7 P ops Q (⟨dst, .fieldAddr t x f, ty, pos, after, some (j, want)⟩ :: rest) e h n = zeU P ops Q rest dst (.fieldAddr t x f) ((zaw ops j).bind fun t => zax (e t) want) e h n := zaG rfl
theorem zpW {dst : Option Tmp} {ty : TypeId} {pos : String} {after : Array Edge} {t : TypeId} {x : Operand} {f : Nat} : za7 P ops Q (⟨dst, .field t x f, ty, pos, after, none⟩ :: rest) e h n = zeM P ops Q rest dst (aev P n (.field t x f) e h) e h n := rfl
theorem znA {dst : Option Tmp} {ty : TypeId} {pos : String} {after : Array Edge} {j : Nat} {want : Bool} {t : TypeId} {x : Operand} {f : Nat} : za7 P ops Q (⟨dst, .field t x f, ty, pos, after, some (j, want)⟩ :: rest) e h n = zeU P ops Q rest dst (.field t x f) ((zaw ops j).bind fun t => zax (e t) want) e h n := zaG rfl
theorem ziR {dst : Option Tmp} {ty : TypeId} {pos : String} {after : Array Edge} {t : TypeId} {x i : Operand} : za7 P ops Q (⟨dst, .indexAddr t x i, ty, pos, after, none⟩ :: rest) e h n = zeM P ops Q rest dst (aev P n (.indexAddr t x i) e h) e h n := rfl
theorem zht {dst : Option Tmp} {ty : TypeId} {pos : String} {after : Array Edge} {j : Nat} {want : Bool} {t : TypeId} {x i : Operand} : za7 P ops Q (⟨dst, .indexAddr t x i, ty, pos, after, some (j, want)⟩ :: rest) e h n = zeU P ops Q rest dst (.indexAddr t x i) ((zaw ops j).bind fun t => zax (e t) want) e h n := zaG rfl
theorem zpX {dst : Option Tmp} {ty : TypeId} {pos : String} {after : Array Edge} {t : TypeId} {x i : Operand} : za7 P ops Q (⟨dst, .index t x i, ty, pos, after, none⟩ :: rest) e h n = zeM P ops Q rest dst (aev P n (.index t x i) e h) e h n := rfl
theorem znB {dst : Option Tmp} {ty : TypeId} {pos : String} {after : Array Edge} {j : Nat} {want : Bool} {t : TypeId} {x i : Operand} : za7 P ops Q (⟨dst, .index t x i, ty, pos, after, some (j, want)⟩ :: rest) e h n = zeU P ops Q rest dst (.index t x i) ((zaw ops j).bind fun t => zax (e t) want) e h n := zaG rfl
theorem zlE {dst : Option Tmp} {ty : TypeId} {pos : String} {after : Array Edge} {x : Operand} {i : Nat} : za7 P ops Q (⟨dst, .extract x i, ty, pos, after, none⟩ :: rest) e h n = zeM P ops Q rest dst (aev P n (.extract x i) e h) e h n := rfl
theorem zkm {dst : Option Tmp} {ty : TypeId} {pos : String} {after : Array Edge} {j : Nat} {want : Bool} {x : Operand} {i : Nat} : za7 P ops Q (⟨dst, .extract x i, ty, pos, after, some (j, want)⟩ :: rest) e h n = zeU P ops Q rest dst (.extract x i) ((zaw ops j).bind fun t => zax (e t) want) e h n := zaG rfl
theorem zlF {dst : Option Tmp} {ty : TypeId} {pos : String} {after : Array Edge} {t : TypeId} {r : Option Operand} : za7 P ops Q (⟨dst, .makeMap t r, ty, pos, after, none⟩ :: rest) e h n = zeM P ops Q rest dst (aev P n (.makeMap t r) e h) e h n := rfl
theorem zkn {dst : Option Tmp} {ty : TypeId} {pos : String} {after : Array Edge} {j : Nat} {want : Bool} {t : TypeId} {r : Option Operand} : za7 P ops Q (⟨dst, .makeMap t r, ty, pos, after, some (j, want)⟩ :: rest) e h n = zeU P ops Q rest dst (.makeMap t r) ((zaw ops j).bind fun t => zax (e t) want) e h n := zaG rfl
theorem ziT {dst : Option Tmp} {ty : TypeId} {pos : String} {after : Array Edge} {t : TypeId} {m' k x : Operand} : za7 P ops Q (⟨dst, .mapUpdate t m' k x, ty, pos, after, none⟩ :: rest) e h n = zeM P ops Q rest dst (aev P n (.mapUpdate t m' k x) e h) e h n := rfl
theorem zhv {dst : Option Tmp} {ty : TypeId} {pos : String} {after : Array Edge} {j : Nat} {want : Bool} {t : TypeId} {m' k x : Operand} : za7 P ops Q (⟨dst, .mapUpdate t m' k x, ty, pos, after, some (j, want)⟩ :: rest) e h n = zeU P ops Q rest dst (.mapUpdate t m' k x) ((zaw ops j).bind fun t => zax (e t) want) e h n := zaG rfl
theorem znG {dst : Option Tmp} {ty : TypeId} {pos : String} {after : Array Edge} {t : TypeId} {m' k x : Operand} : za7 P ops Q (⟨dst, .insert t m' k x, ty, pos, after, none⟩ :: rest) e h n = zeM P ops Q rest dst (aev P n (.insert t m' k x) e h) e h n := rfl
theorem zlA {dst : Option Tmp} {ty : TypeId} {pos : String} {after : Array Edge} {j : Nat} {want : Bool} {t : TypeId} {m' k x : Operand} : za7 P ops Q (⟨dst, .insert t m' k x, ty, pos, after, some (j, want)⟩ :: rest) e h n = zeU P ops Q rest dst (.insert t m' k x) ((zaw ops j).bind fun t => zax (e t) want) e h n := zaG rfl
theorem znH {dst : Option Tmp} {ty : TypeId} {pos : String} {after : Array Edge} {t : TypeId} {m' k : Operand} {ok : Bool} : za7 P ops Q (⟨dst, .lookup t m' k ok, ty, pos, after, none⟩ :: rest) e h n = zeM P ops Q rest dst (aev P n (.lookup t m' k ok) e h) e h n := rfl
theorem zlB {dst : Option Tmp} {ty : TypeId} {pos : String} {after : Array Edge} {j : Nat} {want : Bool} {t : TypeId} {m' k : Operand} {ok : Bool} : za7 P ops Q (⟨dst, .lookup t m' k ok, ty, pos, after, some (j, want)⟩ :: rest) e h n = zeU P ops Q rest dst (.lookup t m' k ok) ((zaw ops j).bind fun t => zax (e t) want) e h n := zaG rfl
theorem zfy {dst : Option Tmp} {ty : TypeId} {pos : String} {after : Array Edge} {t : TypeId} {x : Operand} : za7 P ops Q (⟨dst, .makeInterface t x, ty, pos, after, none⟩ :: rest) e h n = zeM P ops Q rest dst (aev P n (.makeInterface t x) e h) e h n := rfl
theorem zfe {dst : Option Tmp} {ty : TypeId} {pos : String} {after : Array Edge} {j : Nat} {want : Bool} {t : TypeId} {x : Operand} : za7 P ops Q (⟨dst, .makeInterface t x, ty, pos, after, some (j, want)⟩ :: rest) e h n = zeU P ops Q rest dst (.makeInterface t x) ((zaw ops j).bind fun t => zax (e t) want) e h n := zaG rfl
theorem zpY {dst : Option Tmp} {ty : TypeId} {pos : String} {after : Array Edge} {x : Operand} : za7 P ops Q (⟨dst, .panic x, ty, pos, after, none⟩ :: rest) e h n = zeM P ops Q rest dst (aev P n (.panic x) e h) e h n := rfl
theorem znC {dst : Option Tmp} {ty : TypeId} {pos : String} {after : Array Edge} {j : Nat} {want : Bool} {x : Operand} : za7 P ops Q (⟨dst, .panic x, ty, pos, after, some (j, want)⟩ :: rest) e h n = zeU P ops Q rest dst (.panic x) ((zaw ops j).bind fun t => zax (e t) want) e h n := zaG rfl
theorem zlC {dst : Option Tmp} {ty : TypeId} {pos : String} {after : Array Edge} {b : Builtin} {args : Array Operand} {ats : Array TypeId} : za7 P ops Q (⟨dst, .call ⟨.builtin b, args, ats⟩, ty, pos, after, none⟩ :: rest) e h n = zeM P ops Q rest dst (aev P n (.call ⟨.builtin b, args, ats⟩) e h) e h n := rfl
theorem zkk {dst : Option Tmp} {ty : TypeId} {pos : String} {after : Array Edge} {j : Nat} {want : Bool} {b : Builtin} {args : Array Operand} {ats : Array TypeId} : za7 P ops Q (⟨dst, .call ⟨.builtin b, args, ats⟩, ty, pos, after, some (j, want)⟩ :: rest) e h n = zeU P ops Q rest dst (.call ⟨.builtin b, args, ats⟩) ((zaw ops j).bind fun t => zax (e t) want) e h n := zaG rfl
theorem aRes_0 {d : Tmp} {c : Prop} {x : AV} : zeM P ops Q rest (some d) ⟨c, x, [], 0⟩ e h n = VC c (zff P ops Q rest (upd e d x) h n) := rfl
theorem zwt {c : Prop} {x : AV} : zeM P ops Q rest none ⟨c, x, [], 0⟩ e h n = VC c (zff P ops Q rest e h n) := rfl
theorem aRes_1 {d : Tmp} {c : Prop} {x : AV} {o : Nat} {y : Option zbd} {al : Nat} : zeM P ops Q rest (some d) ⟨c, x, [(o, y)], al⟩ e h n = VC c (zff P ops Q rest (upd e d x) (upd h o y) (n + al)) := rfl
theorem zwu {c : Prop} {x : AV} {o : Nat} {y : Option zbd} {al : Nat} : zeM P ops Q rest none ⟨c, x, [(o, y)], al⟩ e h n = VC c (zff P ops Q rest e (upd h o y) (n + al)) := rfl
theorem zwp {d : Tmp} {g : Bool} {c : Prop} {x : AV} : zfd P ops Q rest (some d) g ⟨c, x, [], 0⟩ e h n = VC (g = true → c) (zff P ops Q rest (upd e d (.gd g x)) h n) := by
 cases g <;> simp [zfd, put, VC, zff, gW, gN, zai]
theorem zwr {d : Tmp} {c : Prop} {x : AV} {o : Nat} {y : Option zbd} {al : Nat} : zfd P ops Q rest (some d) true ⟨c, x, [(o, y)], al⟩ e h n = VC c (zff P ops Q rest (upd e d (.gd true x)) (upd h o y) (n + al)) := by
 simp [zfd, put, VC, zff, gW, gN, zai]
theorem zue {c : Prop} {x : AV} {o : Nat} {y : Option zbd} {al : Nat} : zfd P ops Q rest none true ⟨c, x, [(o, y)], al⟩ e h n = VC c (zff P ops Q rest e (upd h o y) (n + al)) := by
 simp [zfd, put, VC, zff, gW, gN, zai]
theorem zwq {d : Tmp} {r : Res} : zfd P ops Q rest (some d) false r e h n = za7 P ops Q rest (upd e d (.gd false r.val)) h n := by
 simp [zfd, put, VC, gW, gN, zai]
theorem zud {r : Res} : zfd P ops Q rest none false r e h n = za7 P ops Q rest e h n := by
 simp [zfd, put, VC, gW, gN, zai]
theorem zrs {dst : Option Tmp} {op : Op} {g : Bool} : zeU P ops Q rest dst op (some g) e h n = (VQ (∀ t ∈ gT op, okG g (e t)) (zfd P ops Q rest dst g (aev P n op (gE op e) h) e h n)) := rfl
theorem zub {dst : Option Tmp} {f : FuncId} {first caps args : List AV} :
  znm P ops Q rest dst (.fn (.func f) first caps) args e h n = zaa P f (first ++ args ++ caps) h n fun r h' n' => za7 P ops Q rest (put e dst r) h' n' := by
 unfold znm
 simp only [zeV]
 exact propext ⟨fun h => h.elim id (fun h => (zra h).elim), .inl⟩
theorem znn {dst : Option Tmp} {l : Nat} {args : List AV} : znm P ops Q rest dst (.fn (.yield l) [] []) args e h n = zpy P ops Q rest dst l args e h n := by
 unfold znm zpy
 simp only [zeV]
 exact propext ⟨fun h => h.elim False.elim id, .inr⟩
end
theorem zvz (e : Env) (d : Nat) (x : AV) : put e (some d) x = upd e d x := rfl
theorem zvy (e : Env) (x : AV) : put e none x = e := rfl

section congr
variable {P : Program} {n0 : Nat} {Q : zbx} {e e' : Env} {h h' : zal} {n n' : Nat} {ops rest : List Oper}
@[congr] theorem awp_congr {c : Code} (h3 : n = n') : awp P n0 c Q e h n = awp P n0 c Q e h n' := by subst h3; rfl
@[congr] theorem zwo {a b : Code} {x x' : AV} (h0 : x = x') : zuc P n0 a b Q x e h n = zuc P n0 a b Q x' e h n := by subst h0; rfl
@[congr] theorem zxF (h3 : n = n') : za7 P ops Q rest e h n = za7 P ops Q rest e h n' := by subst h3; rfl
@[congr] theorem zxD {dst : Option Tmp} {r r' : Res} (h0 : r = r') : zeM P ops Q rest dst r e h n = zeM P ops Q rest dst r' e h n := by subst h0; rfl
@[congr] theorem zws {dst : Option Tmp} {g g' : Bool} {r r' : Res} (hg : g = g') (h0 : r = r') : zfd P ops Q rest dst g r e h n = zfd P ops Q rest dst g' r' e h n := by subst h0 hg; rfl
@[congr] theorem zwn {dst : Option Tmp} {fv fv' : AV} {args args' : List AV} (h0 : fv = fv') (h1 : args = args') : znm P ops Q rest dst fv args e h n = znm P ops Q rest dst fv' args' e h n := by subst h0 h1; rfl
@[congr] theorem zxC {dst : Option Tmp} {op : Op} {g g' : Option Bool} (h0 : g = g') : zeU P ops Q rest dst op g e h n = zeU P ops Q rest dst op g' e h n := by subst h0; rfl
@[congr] theorem zvK {f : FuncId} {args args' : List AV} {K : zcc} (h1 : args = args') : zaa P f args h n K = zaa P f args' h n K := by subst h1; rfl
@[congr] theorem zv7 {B : zbx → Env → zal → Nat → Prop} (h3 : n = n') : zab n0 B Q e h n = zab n0 B Q e h n' := by subst h3; rfl
@[congr] theorem zxB {K : Env → zal → Nat → Prop} {x : Exit} (h3 : n = n') : zrc K Q x e h n = zrc K Q x e h n' := by subst h3; rfl
@[congr] theorem zvM {x : Exit} (h3 : n = n') : zfu Q x e h n = zfu Q x e h n' := by subst h3; rfl
@[congr] theorem zvL {id : Nat} {x : Exit} (h3 : n = n') : zej id Q x e h n = zej id Q x e h n' := by subst h3; rfl
end congr

theorem zwb {n : Nat} : Bel n .top = True := eq_true .top
theorem ztZ {n : Nat} {x : Value} : Bel n (.v x) = True := eq_true (.v x)
theorem zv9 {n : Nat} {cs : List AV} : Bel n (.agg cs) = ∀ c ∈ cs, Bel n c := propext ⟨fun h => by cases h; assumption, .agg⟩
theorem zj2 {n : Nat} {cs : List AV} : Bel n (.tup cs) = ∀ c ∈ cs, Bel n c := propext ⟨fun h => by cases h; assumption, .tup⟩
theorem zbG {n sz : Nat} {rows : List (List AV)} : Bel n (.lst sz rows) = ∀ r ∈ rows, ∀ c ∈ r, Bel n c := propext ⟨fun h => by cases h; assumption, .lst⟩
theorem Bel_fp {n : Nat} {cs : List AV} : Bel n (.fp cs) = ∀ c ∈ cs, Bel n c := propext ⟨fun h => by cases h; assumption, .fp⟩
theorem zwa {n o g sz i off : Nat} : Bel n (.ref o g sz i off) = (o < n) := propext ⟨fun h => by cases h; assumption, .ref⟩
theorem Bel_sl {n o g sz i len : Nat} : Bel n (.sl o g sz i len) = (o < n) := propext ⟨fun h => by cases h; assumption, .sl⟩
theorem Bel_fn {n : Nat} {f : Fn} {a b : List AV} : Bel n (.fn f a b) = ((∀ c ∈ a, Bel n c) ∧ ∀ c ∈ b, Bel n c) := propext ⟨fun h => by cases h; exact ⟨by assumption, by assumption⟩, fun h => .fn h.1 h.2⟩
theorem Bel_mp {n o : Nat} : Bel n (.mp o) = (o < n) := propext ⟨fun h => by cases h; assumption, .mp⟩
theorem zow {n : Nat} {g : Bool} {x : AV} : Bel n (.gd g x) = Bel n x := propext ⟨fun h => by cases h; assumption, .gd⟩

theorem zvu {g : Bool} {x : AV} : okG g (.gd g x) = True := eq_true (fun h => h)
theorem okG_gd {g g' : Bool} {x : AV} : okG g (.gd g' x) = (g = true → g' = true) := rfl
theorem okG_v {g : Bool} {x : Value} : okG g (.v x) = True := rfl
theorem zxp {o g sz i off : Nat} {b : Bool} : okG b (.ref o g sz i off) = True := rfl
theorem okG_sl {o g sz i len : Nat} {b : Bool} : okG b (.sl o g sz i len) = True := rfl
theorem zxo {b : Bool} {sz : Nat} {rows : List (List AV)} : okG b (.lst sz rows) = True := rfl
theorem okG_fp {b : Bool} {cs : List AV} : okG b (.fp cs) = True := rfl
theorem zxn {b : Bool} {cs : List AV} : okG b (.agg cs) = True := rfl
theorem zxr {b : Bool} {cs : List AV} : okG b (.tup cs) = True := rfl
theorem okG_fn {b : Bool} {f : Fn} {x y : List AV} : okG b (.fn f x y) = True := rfl
theorem zxq {b : Bool} : okG b .top = True := rfl
attribute [go_sem high] zvu
attribute [go_sem] zwl zrt zpx zwm zua zbi zd3 zbK zuO zuN zwT zuw zrU zp1 zwy zur zpw zrT zuu zut zwx zne zrl zt4 zj7 zm8 zpq zrV zj9 znc zpt zt6 znl
 zlF zkn ziT zhv znG zlA znH zlB zeq zca zdj zv1 zn0 zdv zfO
 zuo zrO zrQ zpQ znF zlz zrR zpR zpT znx zun zrN zpV znz zhw zgX zrP zpP zp0 znE zpU zny zrS zpS zkp ziP zlD zkl zko ziO ziS zhu zpZ znD ziQ zhs zpW znA ziR zht zpX znB zlE zkm zfy zfe zpY znC zlC zkk aRes_0 zwt aRes_1 zwu zwp zwr zue zwq zud zrs zub zvz zvy aev ev ofV ztQ zl3 pB evEq zlY zsC zsB zgI zhR zeo eqS zdl gE gT zsz evUn zgH zfH zcB zby zhO zbz zhP zl1 zxe
 zai unG okG_gd okG_v zxp okG_sl zxo okG_fp zxn zxr okG_fn zxq zbY Op.operands Call.operands zax zaw AV.cells AV.okCells AV.isCell zb4 zao zql zds zkB zsS zdF zsA zvd zcp zcX zc8 zer zgd zcg zbT zcq zd0 setMany zey zld zv6 zoG
 zwb ztZ zv9 zj2 zbG Bel_fp zwa Bel_sl Bel_fn Bel_mp zow

section draw
variable {P : Program} {n0 : Nat} {Q : zbx} {e e' : Env} {h h' : zal} {n i i' : Nat} {ops rest : List Oper} {acc : List zee} {K : Env → zal → List zee → Prop}
def zlb (Q : zbx) (ops : List Oper) (n : Nat) (e : Env) (h : zal) (recs : List zee) : Prop := zia ops recs = true ∧ ((zte recs = true ∧ Q .normal e h n) ∨ Q .normal e h (n + 16 * ops.length))
def adr (P : Program) (n : Nat) (ops : List Oper) (Q : zbx) (m : Nat) (i : Nat) (rest : List Oper) (e : Env) (h : zal) (acc : List zee) : Prop := zcy P n ops (zlb Q ops m) i rest e h acc
def zlt (P : Program) (n : Nat) (ops : List Oper) (Q : zbx) (m : Nat) (i : Nat) (rest : List Oper) (e : Env) (h : zal) (acc : List zee) : Prop := zcy P n ops (zlb Q ops m) i rest e h acc
variable {m : Nat}
def zla (P : Program) (n : Nat) (ops : List Oper) (Q : zbx) (e : Env) (h : zal) : Prop := ∃ h', Frz h h' ∧ zpK P ops Q e h' n
theorem zoD (hk : adr P n ops Q (n + ops.length) 0 ops e h []) : zpK P ops Q e h n := by
 refine ⟨ops.length, ?_⟩
 rw [List.take_length, List.drop_length]
 exact hk
theorem wZ (hk : adr P n ops Q (n + ops.length) 0 ops e h []) : zla P n ops Q e h := ⟨h, .refl h, zoD hk⟩
theorem zla.frz (h' : zal) (hf : Frz h h') (hk : adr P n ops Q (n + ops.length) 0 ops e h' []) : zla P n ops Q e h := ⟨h', hf, zoD hk⟩
def QTail (P : Program) (ops : List Oper) (Q : zbx) (k : Nat) : zbx
 | .normal, e, h, n => za7 P ops Q (ops.drop k) e h n
 | _, _, _, _ => False
theorem zln {k : Nat} : QTail P ops Q k .normal e h n = za7 P ops Q (ops.drop k) e h n := rfl
theorem zla.split (k : Nat) (hk : adr P n ops (QTail P ops Q k) (n + ops.length) 0 (ops.take k) e h []) : zla P n ops Q e h := ⟨h, .refl h, k, hk⟩
attribute [go_sem] zln
theorem zus (id : Nat) (ops : List Oper) : awp P n0 (.region id ops.toArray true) Q e h n = zla P n ops Q e h := rfl
def zef (P : Program) (n : Nat) (ops : List Oper) (Q : zbx) (m : Nat) (i : Nat) (rest : List Oper) (dst : Option Tmp) (rd : List Nat) (r : Res) (e : Env) (h : zal) (acc : List zee) : Prop :=
 VC r.cond (adr P n ops Q m (i + 1) rest (put e dst r.val) (zai r.wr h) (acc ++ [(rd, r.wr.map (·.1))]))
def zfi (P : Program) (n : Nat) (ops : List Oper) (Q : zbx) (m : Nat) (i : Nat) (rest : List Oper) (dst : Option Tmp) (g : Bool) (rd : List Nat) (r : Res) (e : Env) (h : zal) (acc : List zee) : Prop :=
 VC (g = true → r.cond) (adr P n ops Q m (i + 1) rest (put e dst (.gd g r.val)) (zai (gW g r.wr) h) (acc ++ [(rd, (gW g r.wr).map (·.1))]))
def zeW (P : Program) (n : Nat) (ops : List Oper) (Q : zbx) (m : Nat) (i : Nat) (rest : List Oper) (dst : Option Tmp) (op : Op) (g : Option Bool) (e : Env) (h : zal) (acc : List zee) : Prop :=
 match g with
 | none => False
 | some g => VQ (∀ t ∈ gT op, okG g (e t)) (zfi P n ops Q m i rest dst g ((op.operands.toList.map (ev (gE op e))).flatMap AV.ids) (aev P (n + i) op (gE op e) h) e h acc)
def zaC (P : Program) (n : Nat) (ops : List Oper) (Q : zbx) (m : Nat) (i : Nat) (rest : List Oper) (dst : Option Tmp) (fv : AV) (args : List AV) (e : Env) (h : zal) (acc : List zee) : Prop :=
 ∃ r S wr, ze0 P (n + ops.length + 16 * i) fv args h r S wr ∧ adr P n ops Q m (i + 1) rest (put e dst r) (zai wr h) (acc ++ [(S, wr.map (·.1))])
theorem zww : adr P n ops Q m i [] e h acc = zlb Q ops m e h acc := rfl
theorem zaN {dst : Option Tmp} {op : Op} {ty : TypeId} {pos : String} {after : Array Edge} (hc : zjw op = false) :
  adr P n ops Q m i (⟨dst, op, ty, pos, after, none⟩ :: rest) e h acc = zef P n ops Q m i rest dst ((op.operands.toList.map (ev e)).flatMap AV.ids) (aev P (n + i) op e h) e h acc := by
 unfold adr zef
 cases op with
 | call c =>
  obtain ⟨callee, args, ats⟩ := c
  cases callee with
  | value f => simp [zjw] at hc
  | _ => rfl
 | _ => rfl
theorem zuh {dst : Option Tmp} {f : Operand} {args : Array Operand} {ats : Array TypeId} {ty : TypeId} {pos : String} {after : Array Edge} :
  adr P n ops Q m i (⟨dst, .call ⟨.value f, args, ats⟩, ty, pos, after, none⟩ :: rest) e h acc = zaC P n ops Q m i rest dst (ev e f) (args.toList.map (ev e)) e h acc := rfl
theorem zaO {dst : Option Tmp} {op : Op} {ty : TypeId} {pos : String} {after : Array Edge} {j : Nat} {want : Bool} (hc : zjw op = false) :
  adr P n ops Q m i (⟨dst, op, ty, pos, after, some (j, want)⟩ :: rest) e h acc = zeW P n ops Q m i rest dst op ((zaw ops j).bind fun t => zax (e t) want) e h acc := by
 unfold adr zeW zfi
 cases op with
 | call c =>
  obtain ⟨callee, args, ats⟩ := c
  cases callee with
  | value f => simp [zjw] at hc
  | _ => rfl
 | _ => rfl
theorem VC_adr : VC True (zlt P n ops Q m i rest e h acc) = adr P n ops Q m i rest e h acc := by simp [VC, zlt, adr]
theorem zyc {a : Prop} (h1 : a) (h2 : a → adr P n ops Q m i rest e h acc) : VC a (zlt P n ops Q m i rest e h acc) := ⟨h1, h2 h1⟩
theorem zlb.mk {recs : List zee} (h1 : (zia ops recs && zte recs) = true) (h2 : Q .normal e h n) : zlb Q ops n e h recs := by
 rw [Bool.and_eq_true] at h1
 exact ⟨h1.1, .inl ⟨h1.2, h2⟩⟩
theorem zyr {recs : List zee} (h1 : zia ops recs = true) (h2 : Q .normal e h (n + 16 * ops.length)) : zlb Q ops n e h recs := ⟨h1, .inr h2⟩
theorem wL {a : Prop} (h2 : a → za7 P ops Q rest e h n) (h1 : a := by first | omega | exact True.intro | rfl) : VC a (zff P ops Q rest e h n) := ⟨h1, h2 h1⟩
theorem wD {a : Prop} (h2 : a → adr P n ops Q m i rest e h acc) (h1 : a := by first | omega | exact True.intro | (intros; omega)) : VC a (zlt P n ops Q m i rest e h acc) := ⟨h1, h2 h1⟩
theorem wE {recs : List zee} (h2 : Q .normal e h n) (h1 : (zia ops recs && zte recs) = true := by kernel_rfl) : zlb Q ops n e h recs := zlb.mk h1 h2
theorem dRes_0 {d : Tmp} {rd : List Nat} {c : Prop} {x : AV} : zef P n ops Q m i rest (some d) rd ⟨c, x, [], 0⟩ e h acc = VC c (zlt P n ops Q m (i + 1) rest (upd e d x) h (acc ++ [(rd, [])])) := rfl
theorem zw1 {rd : List Nat} {c : Prop} {x : AV} : zef P n ops Q m i rest none rd ⟨c, x, [], 0⟩ e h acc = VC c (zlt P n ops Q m (i + 1) rest e h (acc ++ [(rd, [])])) := rfl
theorem dRes_1 {d : Tmp} {rd : List Nat} {c : Prop} {x : AV} {o : Nat} {y : Option zbd} {al : Nat} : zef P n ops Q m i rest (some d) rd ⟨c, x, [(o, y)], al⟩ e h acc = VC c (zlt P n ops Q m (i + 1) rest (upd e d x) (upd h o y) (acc ++ [(rd, [o])])) := rfl
theorem zw2 {rd : List Nat} {c : Prop} {x : AV} {o : Nat} {y : Option zbd} {al : Nat} : zef P n ops Q m i rest none rd ⟨c, x, [(o, y)], al⟩ e h acc = VC c (zlt P n ops Q m (i + 1) rest e (upd h o y) (acc ++ [(rd, [o])])) := rfl
theorem zwX {d : Tmp} {g : Bool} {rd : List Nat} {c : Prop} {x : AV} : zfi P n ops Q m i rest (some d) g rd ⟨c, x, [], 0⟩ e h acc = VC (g = true → c) (zlt P n ops Q m (i + 1) rest (upd e d (.gd g x)) h (acc ++ [(rd, [])])) := by
 cases g <;> simp [zfi, put, VC, adr, zlt, gW, zai]
theorem zwZ {d : Tmp} {rd : List Nat} {c : Prop} {x : AV} {o : Nat} {y : Option zbd} {al : Nat} : zfi P n ops Q m i rest (some d) true rd ⟨c, x, [(o, y)], al⟩ e h acc = VC c (zlt P n ops Q m (i + 1) rest (upd e d (.gd true x)) (upd h o y) (acc ++ [(rd, [o])])) := by
 simp [zfi, put, VC, adr, zlt, gW, zai]
theorem zuU {rd : List Nat} {c : Prop} {x : AV} {o : Nat} {y : Option zbd} {al : Nat} : zfi P n ops Q m i rest none true rd ⟨c, x, [(o, y)], al⟩ e h acc = VC c (zlt P n ops Q m (i + 1) rest e (upd h o y) (acc ++ [(rd, [o])])) := by
 simp [zfi, put, VC, adr, zlt, gW, zai]
theorem zwY {d : Tmp} {rd : List Nat} {r : Res} : zfi P n ops Q m i rest (some d) false rd r e h acc = adr P n ops Q m (i + 1) rest (upd e d (.gd false r.val)) h (acc ++ [(rd, [])]) := by
 simp [zfi, put, VC, adr, gW, zai]
theorem zuT {rd : List Nat} {r : Res} : zfi P n ops Q m i rest none false rd r e h acc = adr P n ops Q m (i + 1) rest e h (acc ++ [(rd, [])]) := by
 simp [zfi, put, VC, adr, gW, zai]
theorem zsm {dst : Option Tmp} {op : Op} {g : Bool} : zeW P n ops Q m i rest dst op (some g) e h acc = VQ (∀ t ∈ gT op, okG g (e t)) (zfi P n ops Q m i rest dst g ((op.operands.toList.map (ev (gE op e))).flatMap AV.ids) (aev P (n + i) op (gE op e) h) e h acc) := rfl
theorem zyk {dst : Option Tmp} {f : FuncId} {first caps args : List AV} (args' : List AV) (r : AV) (S : List Nat) (hp : zaS P f args' r) (hfl : zpl r) (hle : ∀ h₁ : zal, (∀ o ∈ S, h o = h₁ o) → zam h₁ noH 0 (first ++ args ++ caps) args') (hb : ∀ c ∈ args', Bel 0 c)
  (hk : adr P n ops Q m (i + 1) rest (put e dst r) h (acc ++ [(S, [])])) : zaC P n ops Q m i rest dst (.fn (.func f) first caps) args e h acc := ⟨r, S, [], .inl ⟨rfl, f, first, caps, args', rfl, hb, hp, .inl ⟨hle, hfl⟩⟩, hk⟩
theorem zxO {dst : Option Tmp} {f : FuncId} {first caps args : List AV} {r : AV} (hp : zaS P f (first ++ args ++ caps) r) (hb : ∀ c ∈ first ++ args ++ caps, Bel 0 c)
  (hk : adr P n ops Q m (i + 1) rest (put e dst r) h (acc ++ [([], [])])) : zaC P n ops Q m i rest dst (.fn (.func f) first caps) args e h acc := ⟨r, [], [], .inl ⟨rfl, f, first, caps, _, rfl, hb, hp, .inr rfl⟩, hk⟩
theorem zaC.frz {dst : Option Tmp} {f : FuncId} {first caps args : List AV} (args' : List AV) (r : AV) (S : List Nat) (wr : List (Nat × Option zbd)) (hp : zaS P f args' r)
  (hw : ∀ p ∈ wr, p.1 ∈ S ∧ ∃ g sz rs, p.2 = some (.rows false g sz rs) ∧ h p.1 = some (.rows true g sz rs)) (hle : ∀ h₁ : zal, (∀ o ∈ S, h o = h₁ o) → zam h₁ (zai wr h₁) 0 (first ++ args ++ caps) args') (hb : ∀ c ∈ args', Bel 0 c)
  (hk : adr P n ops Q m (i + 1) rest (put e dst r) (zai wr h) (acc ++ [(S, wr.map (·.1))])) : zaC P n ops Q m i rest dst (.fn (.func f) first caps) args e h acc := ⟨r, S, wr, .inr (.inl ⟨f, first, caps, args', rfl, hb, hp, hw, hle⟩), hk⟩
@[congr] theorem adr_congr (h1 : i = i') : adr P n ops Q m i rest e h acc = adr P n ops Q m i' rest e h acc := by subst h1; rfl
@[congr] theorem zxE (h1 : i = i') : zlt P n ops Q m i rest e h acc = zlt P n ops Q m i' rest e h acc := by subst h1; rfl
@[congr] theorem zxI {dst : Option Tmp} {rd rd' : List Nat} {r r' : Res} (h1 : i = i') (h2 : rd = rd') (h0 : r = r') : zef P n ops Q m i rest dst rd r e h acc = zef P n ops Q m i' rest dst rd' r' e h acc := by subst h0 h1 h2; rfl
@[congr] theorem zw0 {dst : Option Tmp} {g g' : Bool} {rd rd' : List Nat} {r r' : Res} (h1 : i = i') (hg : g = g') (h2 : rd = rd') (h0 : r = r') : zfi P n ops Q m i rest dst g rd r e h acc = zfi P n ops Q m i' rest dst g' rd' r' e h acc := by subst h0 h1 h2 hg; rfl
@[congr] theorem zxH {dst : Option Tmp} {op : Op} {g g' : Option Bool} (h1 : i = i') (h0 : g = g') : zeW P n ops Q m i rest dst op g e h acc = zeW P n ops Q m i' rest dst op g' e h acc := by subst h0 h1; rfl
@[congr] theorem zwW {dst : Option Tmp} {fv fv' : AV} {args args' : List AV} (h1 : i = i') (h0 : fv = fv') (h2 : args = args') : zaC P n ops Q m i rest dst fv args e h acc = zaC P n ops Q m i' rest dst fv' args' e h acc := by subst h0 h1 h2; rfl
@[congr] theorem zxG {acc acc' : List zee} {n' : Nat} (h1 : n = n') (h0 : acc = acc') : zlb Q ops n e h acc = zlb Q ops n' e h acc' := by subst h0 h1; rfl
end draw
section drawEq
variable {P : Program} {Q : zbx} {e : Env} {h : zal} {n m i : Nat} {ops rest : List Oper} {acc : List zee} {dst : Option Tmp} {ty : TypeId} {pos : String} {after : Array Edge} {j : Nat} {want : Bool}
theorem zuj {x : Operand} : adr P n ops Q m i (⟨dst, .move x, ty, pos, after, none⟩ :: rest) e h acc = zef P n ops Q m i rest dst (((.move x : Op).operands.toList.map (ev e)).flatMap AV.ids) (aev P (n + i) (.move x) e h) e h acc := zaN rfl
theorem zry {x : Operand} : adr P n ops Q m i (⟨dst, .move x, ty, pos, after, some (j, want)⟩ :: rest) e h acc = zeW P n ops Q m i rest dst (.move x) ((zaw ops j).bind fun t => zax (e t) want) e h acc := zaO rfl
theorem zpH {x : Operand} : adr P n ops Q m i (⟨dst, .assign x, ty, pos, after, none⟩ :: rest) e h acc = zef P n ops Q m i rest dst (((.assign x : Op).operands.toList.map (ev e)).flatMap AV.ids) (aev P (n + i) (.assign x) e h) e h acc := zaN rfl
theorem znp {x : Operand} : adr P n ops Q m i (⟨dst, .assign x, ty, pos, after, some (j, want)⟩ :: rest) e h acc = zeW P n ops Q m i rest dst (.assign x) ((zaw ops j).bind fun t => zax (e t) want) e h acc := zaO rfl
theorem zuk {c a b : Operand} : adr P n ops Q m i (⟨dst, .pick c a b, ty, pos, after, none⟩ :: rest) e h acc = zef P n ops Q m i rest dst (((.pick c a b : Op).operands.toList.map (ev e)).flatMap AV.ids) (aev P (n + i) (.pick c a b) e h) e h acc := zaN rfl
theorem zrz {c a b : Operand} : adr P n ops Q m i (⟨dst, .pick c a b, ty, pos, after, some (j, want)⟩ :: rest) e h acc = zeW P n ops Q m i rest dst (.pick c a b) ((zaw ops j).bind fun t => zax (e t) want) e h acc := zaO rfl
theorem zrB {t : TypeId} : adr P n ops Q m i (⟨dst, .alloc t, ty, pos, after, none⟩ :: rest) e h acc = zef P n ops Q m i rest dst (((.alloc t : Op).operands.toList.map (ev e)).flatMap AV.ids) (aev P (n + i) (.alloc t) e h) e h acc := zaN rfl
theorem zpz {t : TypeId} : adr P n ops Q m i (⟨dst, .alloc t, ty, pos, after, some (j, want)⟩ :: rest) e h acc = zeW P n ops Q m i rest dst (.alloc t) ((zaw ops j).bind fun t => zax (e t) want) e h acc := zaO rfl
theorem zwv {t : TypeId} {x : Operand} : adr P n ops Q m i (⟨dst, .box t x, ty, pos, after, none⟩ :: rest) e h acc = zef P n ops Q m i rest dst (((.box t x : Op).operands.toList.map (ev e)).flatMap AV.ids) (aev P (n + i) (.box t x) e h) e h acc := zaN rfl
theorem zug {t : TypeId} {x : Operand} : adr P n ops Q m i (⟨dst, .box t x, ty, pos, after, some (j, want)⟩ :: rest) e h acc = zeW P n ops Q m i rest dst (.box t x) ((zaw ops j).bind fun t => zax (e t) want) e h acc := zaO rfl
theorem zrD {t : TypeId} {ps : Array (Nat × Operand)} : adr P n ops Q m i (⟨dst, .build t ps, ty, pos, after, none⟩ :: rest) e h acc = zef P n ops Q m i rest dst (((.build t ps : Op).operands.toList.map (ev e)).flatMap AV.ids) (aev P (n + i) (.build t ps) e h) e h acc := zaN rfl
theorem zpB {t : TypeId} {ps : Array (Nat × Operand)} : adr P n ops Q m i (⟨dst, .build t ps, ty, pos, after, some (j, want)⟩ :: rest) e h acc = zeW P n ops Q m i rest dst (.build t ps) ((zaw ops j).bind fun t => zax (e t) want) e h acc := zaO rfl
theorem ziN {t : TypeId} {k : Nat} {ps : Array (Nat × Operand)} : adr P n ops Q m i (⟨dst, .buildSlice t k ps, ty, pos, after, none⟩ :: rest) e h acc = zef P n ops Q m i rest dst (((.buildSlice t k ps : Op).operands.toList.map (ev e)).flatMap AV.ids) (aev P (n + i) (.buildSlice t k ps) e h) e h acc := zaN rfl
theorem zhr {t : TypeId} {k : Nat} {ps : Array (Nat × Operand)} : adr P n ops Q m i (⟨dst, .buildSlice t k ps, ty, pos, after, some (j, want)⟩ :: rest) e h acc = zeW P n ops Q m i rest dst (.buildSlice t k ps) ((zaw ops j).bind fun t => zax (e t) want) e h acc := zaO rfl
theorem zui {t : TypeId} {x : Operand} : adr P n ops Q m i (⟨dst, .load t x, ty, pos, after, none⟩ :: rest) e h acc = zef P n ops Q m i rest dst (((.load t x : Op).operands.toList.map (ev e)).flatMap AV.ids) (aev P (n + i) (.load t x) e h) e h acc := zaN rfl
theorem zrx {t : TypeId} {x : Operand} : adr P n ops Q m i (⟨dst, .load t x, ty, pos, after, some (j, want)⟩ :: rest) e h acc = zeW P n ops Q m i rest dst (.load t x) ((zaw ops j).bind fun t => zax (e t) want) e h acc := zaO rfl
theorem zrI {t : TypeId} {x y : Operand} : adr P n ops Q m i (⟨dst, .store t x y, ty, pos, after, none⟩ :: rest) e h acc = zef P n ops Q m i rest dst (((.store t x y : Op).operands.toList.map (ev e)).flatMap AV.ids) (aev P (n + i) (.store t x y) e h) e h acc := zaN rfl
theorem zpG {t : TypeId} {x y : Operand} : adr P n ops Q m i (⟨dst, .store t x y, ty, pos, after, some (j, want)⟩ :: rest) e h acc = zeW P n ops Q m i rest dst (.store t x y) ((zaw ops j).bind fun t => zax (e t) want) e h acc := zaO rfl
theorem zrC {o : BinOp} {t : TypeId} {x y : Operand} {t' : TypeId} : adr P n ops Q m i (⟨dst, .binOp o t x y t', ty, pos, after, none⟩ :: rest) e h acc = zef P n ops Q m i rest dst (((.binOp o t x y t' : Op).operands.toList.map (ev e)).flatMap AV.ids) (aev P (n + i) (.binOp o t x y t') e h) e h acc := zaN rfl
theorem zpA {o : BinOp} {t : TypeId} {x y : Operand} {t' : TypeId} : adr P n ops Q m i (⟨dst, .binOp o t x y t', ty, pos, after, some (j, want)⟩ :: rest) e h acc = zeW P n ops Q m i rest dst (.binOp o t x y t') ((zaw ops j).bind fun t => zax (e t) want) e h acc := zaO rfl
theorem zul {o : UnOp} {t : TypeId} {x : Operand} : adr P n ops Q m i (⟨dst, .unOp o t x, ty, pos, after, none⟩ :: rest) e h acc = zef P n ops Q m i rest dst (((.unOp o t x : Op).operands.toList.map (ev e)).flatMap AV.ids) (aev P (n + i) (.unOp o t x) e h) e h acc := zaN rfl
theorem zlv {x : Operand} : adr P n ops Q m i (⟨dst, .nilCheck x, ty, pos, after, none⟩ :: rest) e h acc = zef P n ops Q m i rest dst (((.nilCheck x : Op).operands.toList.map (ev e)).flatMap AV.ids) (aev P (n + i) (.nilCheck x) e h) e h acc := zaN rfl
theorem zrA {o : UnOp} {t : TypeId} {x : Operand} : adr P n ops Q m i (⟨dst, .unOp o t x, ty, pos, after, some (j, want)⟩ :: rest) e h acc = zeW P n ops Q m i rest dst (.unOp o t x) ((zaw ops j).bind fun t => zax (e t) want) e h acc := zaO rfl
theorem zkf {x : Operand} : adr P n ops Q m i (⟨dst, .nilCheck x, ty, pos, after, some (j, want)⟩ :: rest) e h acc = zeW P n ops Q m i rest dst (.nilCheck x) ((zaw ops j).bind fun t => zax (e t) want) e h acc := zaO rfl
theorem znt {s d : TypeId} {x : Operand} : adr P n ops Q m i (⟨dst, .convert s d x, ty, pos, after, none⟩ :: rest) e h acc = zef P n ops Q m i rest dst (((.convert s d x : Op).operands.toList.map (ev e)).flatMap AV.ids) (aev P (n + i) (.convert s d x) e h) e h acc := zaN rfl
theorem zlq {s d : TypeId} {x : Operand} : adr P n ops Q m i (⟨dst, .convert s d x, ty, pos, after, some (j, want)⟩ :: rest) e h acc = zeW P n ops Q m i rest dst (.convert s d x) ((zaw ops j).bind fun t => zax (e t) want) e h acc := zaO rfl
theorem zkg {t : TypeId} {x : Operand} {f : Nat} : adr P n ops Q m i (⟨dst, .fieldAddr t x f, ty, pos, after, none⟩ :: rest) e h acc = zef P n ops Q m i rest dst (((.fieldAddr t x f : Op).operands.toList.map (ev e)).flatMap AV.ids) (aev P (n + i) (.fieldAddr t x f) e h) e h acc := zaN rfl
theorem ziJ {t : TypeId} {x : Operand} {f : Nat} : adr P n ops Q m i (⟨dst, .fieldAddr t x f, ty, pos, after, some (j, want)⟩ :: rest) e h acc = zeW P n ops Q m i rest dst (.fieldAddr t x f) ((zaw ops j).bind fun t => zax (e t) want) e h acc := zaO rfl
theorem zrE {t : TypeId} {x : Operand} {f : Nat} : adr P n ops Q m i (⟨dst, .field t x f, ty, pos, after, none⟩ :: rest) e h acc = zef P n ops Q m i rest dst (((.field t x f : Op).operands.toList.map (ev e)).flatMap AV.ids) (aev P (n + i) (.field t x f) e h) e h acc := zaN rfl
theorem zpC {t : TypeId} {x : Operand} {f : Nat} : adr P n ops Q m i (⟨dst, .field t x f, ty, pos, after, some (j, want)⟩ :: rest) e h acc = zeW P n ops Q m i rest dst (.field t x f) ((zaw ops j).bind fun t => zax (e t) want) e h acc := zaO rfl
theorem zkh {t : TypeId} {x ix : Operand} : adr P n ops Q m i (⟨dst, .indexAddr t x ix, ty, pos, after, none⟩ :: rest) e h acc = zef P n ops Q m i rest dst (((.indexAddr t x ix : Op).operands.toList.map (ev e)).flatMap AV.ids) (aev P (n + i) (.indexAddr t x ix) e h) e h acc := zaN rfl
theorem ziK {t : TypeId} {x ix : Operand} : adr P n ops Q m i (⟨dst, .indexAddr t x ix, ty, pos, after, some (j, want)⟩ :: rest) e h acc = zeW P n ops Q m i rest dst (.indexAddr t x ix) ((zaw ops j).bind fun t => zax (e t) want) e h acc := zaO rfl
theorem zrF {t : TypeId} {x ix : Operand} : adr P n ops Q m i (⟨dst, .index t x ix, ty, pos, after, none⟩ :: rest) e h acc = zef P n ops Q m i rest dst (((.index t x ix : Op).operands.toList.map (ev e)).flatMap AV.ids) (aev P (n + i) (.index t x ix) e h) e h acc := zaN rfl
theorem zpD {t : TypeId} {x ix : Operand} : adr P n ops Q m i (⟨dst, .index t x ix, ty, pos, after, some (j, want)⟩ :: rest) e h acc = zeW P n ops Q m i rest dst (.index t x ix) ((zaw ops j).bind fun t => zax (e t) want) e h acc := zaO rfl
theorem znu {x : Operand} {fi : Nat} : adr P n ops Q m i (⟨dst, .extract x fi, ty, pos, after, none⟩ :: rest) e h acc = zef P n ops Q m i rest dst (((.extract x fi : Op).operands.toList.map (ev e)).flatMap AV.ids) (aev P (n + i) (.extract x fi) e h) e h acc := zaN rfl
theorem zlr {x : Operand} {fi : Nat} : adr P n ops Q m i (⟨dst, .extract x fi, ty, pos, after, some (j, want)⟩ :: rest) e h acc = zeW P n ops Q m i rest dst (.extract x fi) ((zaw ops j).bind fun t => zax (e t) want) e h acc := zaO rfl
theorem znv {t : TypeId} {r : Option Operand} : adr P n ops Q m i (⟨dst, .makeMap t r, ty, pos, after, none⟩ :: rest) e h acc = zef P n ops Q m i rest dst (((.makeMap t r : Op).operands.toList.map (ev e)).flatMap AV.ids) (aev P (n + i) (.makeMap t r) e h) e h acc := zaN rfl
theorem zls {t : TypeId} {r : Option Operand} : adr P n ops Q m i (⟨dst, .makeMap t r, ty, pos, after, some (j, want)⟩ :: rest) e h acc = zeW P n ops Q m i rest dst (.makeMap t r) ((zaw ops j).bind fun t => zax (e t) want) e h acc := zaO rfl
theorem zkj {t : TypeId} {m' k x : Operand} : adr P n ops Q m i (⟨dst, .mapUpdate t m' k x, ty, pos, after, none⟩ :: rest) e h acc = zef P n ops Q m i rest dst (((.mapUpdate t m' k x : Op).operands.toList.map (ev e)).flatMap AV.ids) (aev P (n + i) (.mapUpdate t m' k x) e h) e h acc := zaN rfl
theorem ziM {t : TypeId} {m' k x : Operand} : adr P n ops Q m i (⟨dst, .mapUpdate t m' k x, ty, pos, after, some (j, want)⟩ :: rest) e h acc = zeW P n ops Q m i rest dst (.mapUpdate t m' k x) ((zaw ops j).bind fun t => zax (e t) want) e h acc := zaO rfl
theorem zpI {t : TypeId} {m' k x : Operand} : adr P n ops Q m i (⟨dst, .insert t m' k x, ty, pos, after, none⟩ :: rest) e h acc = zef P n ops Q m i rest dst (((.insert t m' k x : Op).operands.toList.map (ev e)).flatMap AV.ids) (aev P (n + i) (.insert t m' k x) e h) e h acc := zaN rfl
theorem znq {t : TypeId} {m' k x : Operand} : adr P n ops Q m i (⟨dst, .insert t m' k x, ty, pos, after, some (j, want)⟩ :: rest) e h acc = zeW P n ops Q m i rest dst (.insert t m' k x) ((zaw ops j).bind fun t => zax (e t) want) e h acc := zaO rfl
theorem zpJ {t : TypeId} {m' k : Operand} {ok : Bool} : adr P n ops Q m i (⟨dst, .lookup t m' k ok, ty, pos, after, none⟩ :: rest) e h acc = zef P n ops Q m i rest dst (((.lookup t m' k ok : Op).operands.toList.map (ev e)).flatMap AV.ids) (aev P (n + i) (.lookup t m' k ok) e h) e h acc := zaN rfl
theorem znr {t : TypeId} {m' k : Operand} {ok : Bool} : adr P n ops Q m i (⟨dst, .lookup t m' k ok, ty, pos, after, some (j, want)⟩ :: rest) e h acc = zeW P n ops Q m i rest dst (.lookup t m' k ok) ((zaw ops j).bind fun t => zax (e t) want) e h acc := zaO rfl
theorem zki {t : TypeId} {l c : Operand} : adr P n ops Q m i (⟨dst, .makeSlice t l c, ty, pos, after, none⟩ :: rest) e h acc = zef P n ops Q m i rest dst (((.makeSlice t l c : Op).operands.toList.map (ev e)).flatMap AV.ids) (aev P (n + i) (.makeSlice t l c) e h) e h acc := zaN rfl
theorem ziL {t : TypeId} {l c : Operand} : adr P n ops Q m i (⟨dst, .makeSlice t l c, ty, pos, after, some (j, want)⟩ :: rest) e h acc = zeW P n ops Q m i rest dst (.makeSlice t l c) ((zaw ops j).bind fun t => zax (e t) want) e h acc := zaO rfl
theorem zrH {t : TypeId} {x : Operand} {lo hi mx : Option Operand} : adr P n ops Q m i (⟨dst, .slice t x lo hi mx, ty, pos, after, none⟩ :: rest) e h acc = zef P n ops Q m i rest dst (((.slice t x lo hi mx : Op).operands.toList.map (ev e)).flatMap AV.ids) (aev P (n + i) (.slice t x lo hi mx) e h) e h acc := zaN rfl
theorem zpF {t : TypeId} {x : Operand} {lo hi mx : Option Operand} : adr P n ops Q m i (⟨dst, .slice t x lo hi mx, ty, pos, after, some (j, want)⟩ :: rest) e h acc = zeW P n ops Q m i rest dst (.slice t x lo hi mx) ((zaw ops j).bind fun t => zax (e t) want) e h acc := zaO rfl
theorem zf5 {t : TypeId} {x : Operand} : adr P n ops Q m i (⟨dst, .makeInterface t x, ty, pos, after, none⟩ :: rest) e h acc = zef P n ops Q m i rest dst (((.makeInterface t x : Op).operands.toList.map (ev e)).flatMap AV.ids) (aev P (n + i) (.makeInterface t x) e h) e h acc := zaN rfl
theorem zfx {t : TypeId} {x : Operand} : adr P n ops Q m i (⟨dst, .makeInterface t x, ty, pos, after, some (j, want)⟩ :: rest) e h acc = zeW P n ops Q m i rest dst (.makeInterface t x) ((zaw ops j).bind fun t => zax (e t) want) e h acc := zaO rfl
theorem zrG {x : Operand} : adr P n ops Q m i (⟨dst, .panic x, ty, pos, after, none⟩ :: rest) e h acc = zef P n ops Q m i rest dst (((.panic x : Op).operands.toList.map (ev e)).flatMap AV.ids) (aev P (n + i) (.panic x) e h) e h acc := zaN rfl
theorem zpE {x : Operand} : adr P n ops Q m i (⟨dst, .panic x, ty, pos, after, some (j, want)⟩ :: rest) e h acc = zeW P n ops Q m i rest dst (.panic x) ((zaw ops j).bind fun t => zax (e t) want) e h acc := zaO rfl
theorem zns {b : Builtin} {args : Array Operand} {ats : Array TypeId} : adr P n ops Q m i (⟨dst, .call ⟨.builtin b, args, ats⟩, ty, pos, after, none⟩ :: rest) e h acc = zef P n ops Q m i rest dst (((.call ⟨.builtin b, args, ats⟩ : Op).operands.toList.map (ev e)).flatMap AV.ids) (aev P (n + i) (.call ⟨.builtin b, args, ats⟩) e h) e h acc := zaN rfl
theorem zlp {b : Builtin} {args : Array Operand} {ats : Array TypeId} : adr P n ops Q m i (⟨dst, .call ⟨.builtin b, args, ats⟩, ty, pos, after, some (j, want)⟩ :: rest) e h acc = zeW P n ops Q m i rest dst (.call ⟨.builtin b, args, ats⟩) ((zaw ops j).bind fun t => zax (e t) want) e h acc := zaO rfl
theorem zlu {f : Fn} {xs ys : Array Operand} : adr P n ops Q m i (⟨dst, .makeFunc f xs ys, ty, pos, after, none⟩ :: rest) e h acc = zef P n ops Q m i rest dst (((.makeFunc f xs ys : Op).operands.toList.map (ev e)).flatMap AV.ids) (aev P (n + i) (.makeFunc f xs ys) e h) e h acc := zaN rfl
theorem zke {f : Fn} {xs ys : Array Operand} : adr P n ops Q m i (⟨dst, .makeFunc f xs ys, ty, pos, after, some (j, want)⟩ :: rest) e h acc = zeW P n ops Q m i rest dst (.makeFunc f xs ys) ((zaw ops j).bind fun t => zax (e t) want) e h acc := zaO rfl
end drawEq
attribute [go_sem] znv zls zkj ziM zpI znq zpJ znr zuj zry zpH znp zuk zrz zrB zpz zwv zug zrD zpB ziN zhr zui zrx zrI zpG zrC zpA zul zrA zlv zkf znt zlq zkg ziJ zrE zpC zkh ziK zrF zpD znu zlr zki ziL zrH zpF zf5 zfx zrG zpE zns zlp zlu zke
attribute [go_sem] zus zww zuh VC_adr dRes_0 zw1 dRes_1 zw2 zwX zwZ zuU zwY zuT zsm AV.ids List.flatMap_cons List.flatMap_nil
section gcall
variable {P : Program} {Q : zbx} {e : Env} {h : zal} {n m i : Nat} {ops rest : List Oper} {acc : List zee}
def aGC (P : Program) (ops : List Oper) (Q : zbx) (rest : List Oper) (dst : Option Tmp) (g : Bool) (fv : AV) (args : List AV) (e : Env) (h : zal) (n : Nat) : Prop :=
 (∃ x, (g = true → zeV P fv args h n fun r h' n' => r = x ∧ h' = h ∧ n' = n) ∧ za7 P ops Q rest (put e dst (.gd g x)) h n) ∨
 (g = true ∧ zeV P fv args h n fun r h' n' => za7 P ops Q rest (put e dst (.gd true r)) h' n') ∨
 (g = true ∧ zg6 e fv args h n fun e' r h' => za7 P ops Q rest (put e' dst (.gd true r)) h' n)
def zg7 (P : Program) (ops : List Oper) (Q : zbx) (rest : List Oper) (dst : Option Tmp) (f : Operand) (args : List Operand) (op : Op) (g : Option Bool) (e : Env) (h : zal) (n : Nat) : Prop :=
 match g with
 | none => False
 | some g => VQ (∀ t ∈ zbY op, okG g (e t)) (aGC P ops Q rest dst g (ev (fun t => unG (e t)) f) (args.map (ev fun t => unG (e t))) e h n)
theorem zpO {dst : Option Tmp} {f : Operand} {args : Array Operand} {ats : Array TypeId} {ty : TypeId} {pos : String} {after : Array Edge} {j : Nat} {want : Bool} :
  za7 P ops Q (⟨dst, .call ⟨.value f, args, ats⟩, ty, pos, after, some (j, want)⟩ :: rest) e h n = zg7 P ops Q rest dst f args.toList (.call ⟨.value f, args, ats⟩) ((zaw ops j).bind fun t => zax (e t) want) e h n := rfl
theorem zkc {dst : Option Tmp} {f : Operand} {args : List Operand} {op : Op} {g : Bool} : zg7 P ops Q rest dst f args op (some g) e h n = VQ (∀ t ∈ zbY op, okG g (e t)) (aGC P ops Q rest dst g (ev (fun t => unG (e t)) f) (args.map (ev fun t => unG (e t))) e h n) := rfl
theorem zyq {dst : Option Tmp} {g : Bool} {f : FuncId} {first caps args : List AV} (args' : List AV) (r : AV) (hp : g = true → zaS P f args' r) (hfl : zpl r) (hle : zam h noH n (first ++ args ++ caps) args') (hb : ∀ c ∈ args', Bel 0 c)
  (hk : za7 P ops Q rest (put e dst (.gd g r)) h n) : aGC P ops Q rest dst g (.fn (.func f) first caps) args e h n :=
 .inl ⟨r, fun hg => zyh (hp hg) hfl hle hb ⟨rfl, rfl, rfl⟩, hk⟩
theorem zyn {dst : Option Tmp} {g : Bool} {f : FuncId} {first caps args : List AV} (r : AV) (hp : g = true → zaS P f (first ++ args ++ caps) r) (hb : ∀ c ∈ first ++ args ++ caps, Bel 0 c)
  (hk : za7 P ops Q rest (put e dst (.gd g r)) h n) : aGC P ops Q rest dst g (.fn (.func f) first caps) args e h n :=
 .inl ⟨r, fun hg => zxM (hp hg) hb ⟨rfl, rfl, rfl⟩, hk⟩
theorem aGC.skip (x : AV) {dst : Option Tmp} {fv : AV} {args : List AV} (hk : za7 P ops Q rest (put e dst (.gd false x)) h n) : aGC P ops Q rest dst false fv args e h n := .inl ⟨x, (fun hg => nomatch hg), hk⟩
theorem aGC.go {dst : Option Tmp} {f : FuncId} {first caps args : List AV} (hk : zaa P f (first ++ args ++ caps) h n fun r h' n' => za7 P ops Q rest (put e dst (.gd true r)) h' n') : aGC P ops Q rest dst true (.fn (.func f) first caps) args e h n := .inr (.inl ⟨rfl, hk⟩)
def dGC (P : Program) (n : Nat) (ops : List Oper) (Q : zbx) (m : Nat) (i : Nat) (rest : List Oper) (dst : Option Tmp) (g : Bool) (fv : AV) (args : List AV) (e : Env) (h : zal) (acc : List zee) : Prop :=
 ∃ r S wr, (g = true → ze0 P (n + ops.length + 16 * i) fv args h r S wr) ∧ (g = false → wr = []) ∧ adr P n ops Q m (i + 1) rest (put e dst (.gd g r)) (zai wr h) (acc ++ [(S, wr.map (·.1))])
def zhc (P : Program) (n : Nat) (ops : List Oper) (Q : zbx) (m : Nat) (i : Nat) (rest : List Oper) (dst : Option Tmp) (f : Operand) (args : List Operand) (op : Op) (g : Option Bool) (e : Env) (h : zal) (acc : List zee) : Prop :=
 match g with
 | none => False
 | some g => VQ (∀ t ∈ zbY op, okG g (e t)) (dGC P n ops Q m i rest dst g (ev (fun t => unG (e t)) f) (args.map (ev fun t => unG (e t))) e h acc)
theorem zrw {dst : Option Tmp} {f : Operand} {args : Array Operand} {ats : Array TypeId} {ty : TypeId} {pos : String} {after : Array Edge} {j : Nat} {want : Bool} :
  adr P n ops Q m i (⟨dst, .call ⟨.value f, args, ats⟩, ty, pos, after, some (j, want)⟩ :: rest) e h acc = zhc P n ops Q m i rest dst f args.toList (.call ⟨.value f, args, ats⟩) ((zaw ops j).bind fun t => zax (e t) want) e h acc := rfl
theorem zkz {dst : Option Tmp} {f : Operand} {args : List Operand} {op : Op} {g : Bool} : zhc P n ops Q m i rest dst f args op (some g) e h acc = VQ (∀ t ∈ zbY op, okG g (e t)) (dGC P n ops Q m i rest dst g (ev (fun t => unG (e t)) f) (args.map (ev fun t => unG (e t))) e h acc) := rfl
theorem zx9 {dst : Option Tmp} {g : Bool} {f : FuncId} {first caps args : List AV} (args' : List AV) (r : AV) (S : List Nat) (hp : g = true → zaS P f args' r) (hfl : zpl r) (hle : ∀ h₁ : zal, (∀ o ∈ S, h o = h₁ o) → zam h₁ noH 0 (first ++ args ++ caps) args')
  (hb : ∀ c ∈ args', Bel 0 c) (hk : adr P n ops Q m (i + 1) rest (put e dst (.gd g r)) h (acc ++ [(S, [])])) : dGC P n ops Q m i rest dst g (.fn (.func f) first caps) args e h acc :=
 ⟨r, S, [], fun hg => .inl ⟨rfl, f, first, caps, args', rfl, hb, hp hg, .inl ⟨hle, hfl⟩⟩, fun _ => rfl, hk⟩
theorem zxX {dst : Option Tmp} {g : Bool} {f : FuncId} {first caps args : List AV} (r : AV) (hp : g = true → zaS P f (first ++ args ++ caps) r) (hb : ∀ c ∈ first ++ args ++ caps, Bel 0 c)
  (hk : adr P n ops Q m (i + 1) rest (put e dst (.gd g r)) h (acc ++ [([], [])])) : dGC P n ops Q m i rest dst g (.fn (.func f) first caps) args e h acc :=
 ⟨r, [], [], fun hg => .inl ⟨rfl, f, first, caps, _, rfl, hb, hp hg, .inr rfl⟩, fun _ => rfl, hk⟩
theorem dGC.skip (x : AV) {dst : Option Tmp} {fv : AV} {args : List AV} (hk : adr P n ops Q m (i + 1) rest (put e dst (.gd false x)) h (acc ++ [([], [])])) : dGC P n ops Q m i rest dst false fv args e h acc :=
 ⟨x, [], [], (fun hg => nomatch hg), fun _ => rfl, hk⟩
theorem dGC.frz {dst : Option Tmp} {f : FuncId} {first caps args : List AV} (args' : List AV) (r : AV) (S : List Nat) (wr : List (Nat × Option zbd)) (hp : zaS P f args' r)
  (hw : ∀ p ∈ wr, p.1 ∈ S ∧ ∃ g sz rs, p.2 = some (.rows false g sz rs) ∧ h p.1 = some (.rows true g sz rs)) (hle : ∀ h₁ : zal, (∀ o ∈ S, h o = h₁ o) → zam h₁ (zai wr h₁) 0 (first ++ args ++ caps) args') (hb : ∀ c ∈ args', Bel 0 c)
  (hk : adr P n ops Q m (i + 1) rest (put e dst (.gd true r)) (zai wr h) (acc ++ [(S, wr.map (·.1))])) : dGC P n ops Q m i rest dst true (.fn (.func f) first caps) args e h acc :=
 ⟨r, S, wr, fun _ => .inr (.inl ⟨f, first, caps, args', rfl, hb, hp, hw, hle⟩), (fun h => nomatch h), hk⟩
@[congr] theorem aGC_congr {dst : Option Tmp} {g g' : Bool} {fv fv' : AV} {args args' : List AV} (hg : g = g') (h0 : fv = fv') (h1 : args = args') : aGC P ops Q rest dst g fv args e h n = aGC P ops Q rest dst g' fv' args' e h n := by subst h0 h1 hg; rfl
@[congr] theorem ztU {dst : Option Tmp} {f : Operand} {args : List Operand} {op : Op} {g g' : Option Bool} (h0 : g = g') : zg7 P ops Q rest dst f args op g e h n = zg7 P ops Q rest dst f args op g' e h n := by subst h0; rfl
@[congr] theorem dGC_congr {dst : Option Tmp} {g g' : Bool} {fv fv' : AV} {args args' : List AV} {i' : Nat} (hi : i = i') (hg : g = g') (h0 : fv = fv') (h1 : args = args') : dGC P n ops Q m i rest dst g fv args e h acc = dGC P n ops Q m i' rest dst g' fv' args' e h acc := by subst h0 h1 hg hi; rfl
@[congr] theorem ztV {dst : Option Tmp} {f : Operand} {args : List Operand} {op : Op} {g g' : Option Bool} {i' : Nat} (hi : i = i') (h0 : g = g') : zhc P n ops Q m i rest dst f args op g e h acc = zhc P n ops Q m i' rest dst f args op g' e h acc := by subst h0 hi; rfl
end gcall
attribute [go_sem] zpO zkc zrw zkz

theorem zka {n : Nat} : ∀ {xs : List AV}, (∀ c ∈ xs, Bel 0 c) → ShL n xs xs
 | [], _ => .nil
 | x :: xs, h => .cons (.same (h x (by simp))) (zka fun c hc => h c (by simp [hc]))
theorem Sh_agg {n : Nat} {xs ys : List AV} : Sh n (.agg xs) (.agg ys) = ShL n xs ys := propext ⟨fun h => by
 cases h with
 | same h => cases h with | agg h => exact zka h
 | agg h => exact h, .agg⟩
theorem Sh_tup {n : Nat} {xs ys : List AV} : Sh n (.tup xs) (.tup ys) = ShL n xs ys := propext ⟨fun h => by
 cases h with
 | same h => cases h with | tup h => exact zka h
 | tup h => exact h, .tup⟩
theorem Sh_fn {n : Nat} {f : Fn} {a b a' b' : List AV} (h : ShL n a a') (h' : ShL n b b') : Sh n (.fn f a b) (.fn f a' b') = True := eq_true (.fn h h')
theorem Sh_ref {n o g sz i off : Nat} : Sh n (.ref o g sz i off) (.ref (n + o) g sz i off) = True := eq_true .ref
theorem Sh_sl {n o g sz i len : Nat} : Sh n (.sl o g sz i len) (.sl (n + o) g sz i len) = True := eq_true .sl
theorem zwk {n g sz i off : Nat} : Sh n (.ref 0 g sz i off) (.ref n g sz i off) = True := eq_true (.ref (o := 0))
theorem Sh_sl0 {n g sz i len : Nat} : Sh n (.sl 0 g sz i len) (.sl n g sz i len) = True := eq_true (.sl (o := 0))
theorem Sh_v {n : Nat} {x : Value} : Sh n (.v x) (.v x) = True := eq_true (.same (.v x))
theorem Sh_lst {n sz : Nat} {rows : List (List AV)} (h : ∀ r ∈ rows, ∀ c ∈ r, Bel 0 c) : Sh n (.lst sz rows) (.lst sz rows) = True := eq_true (.same (.lst h))
theorem zwj {n : Nat} : ShL n [] [] = True := eq_true .nil
theorem zt8 {n : Nat} {x y : AV} {xs ys : List AV} : ShL n (x :: xs) (y :: ys) = (Sh n x y ∧ ShL n xs ys) := propext ⟨fun h => by cases h with | cons a b => exact ⟨a, b⟩, fun h => .cons h.1 h.2⟩
theorem zrp {n : Nat} {rs : List (List AV)} (h : ∀ r ∈ rs, ∀ c ∈ r, Bel 0 c) : zoB n rs rs = True := eq_true (.same h)
theorem zt7 {n : Nat} : zoB n [] [] = True := eq_true .nil
theorem zro {n : Nat} {x y : List AV} {xs ys : List (List AV)} (h : ShL n x y ∧ zoB n xs ys) : zoB n (x :: xs) (y :: ys) = True := eq_true (.cons h.1 h.2)
theorem zt9 {n : Nat} {mt : Bool} {g sz : Nat} {rs rs' : List (List AV)} : ShO n (.rows mt g sz rs) (.rows mt g sz rs') = zoB n rs rs' := propext ⟨fun h => by cases h; assumption, .rows⟩
theorem zwi {n : Nat} : ShH n [] [] = True := eq_true .nil
theorem zoA {n o : Nat} {x y : zbd} {l l' : List (Nat × zbd)} : ShH n ((o, x) :: l) ((n + o, y) :: l') = (ShO n x y ∧ ShH n l l') :=
 propext ⟨fun h => by cases h with | cons a b => exact ⟨a, b⟩, fun h => .cons h.1 h.2⟩
theorem zrn {n : Nat} {x y : zbd} {l l' : List (Nat × zbd)} : ShH n ((0, x) :: l) ((n, y) :: l') = (ShO n x y ∧ ShH n l l') := zoA (o := 0)
attribute [go_sem] Sh_agg Sh_tup Sh_fn Sh_ref Sh_sl zwk Sh_sl0 Sh_v Sh_lst zwj zt8 zrp zt7 zro zt9 zwi zoA zrn zdx
theorem zvk {h h' : zal} {n : Nat} {x : AV} : LeV h h' n x x := .refl x
attribute [go_sem] zvk
theorem zwc {n : Int} : InR .i64 n = (-9223372036854775808 ≤ n ∧ n ≤ 9223372036854775807) := by
 simp [InR, IntKind.min, IntKind.max, IntKind.signed, IntKind.bits]
theorem InR_u8 {n : Int} : InR .u8 n = (0 ≤ n ∧ n ≤ 255) := by
 simp [InR, IntKind.min, IntKind.max, IntKind.signed, IntKind.bits]
theorem zwe {n : Int} : InR .u64 n = (0 ≤ n ∧ n ≤ 18446744073709551615) := by
 simp [InR, IntKind.min, IntKind.max, IntKind.signed, IntKind.bits]
theorem zwd {n : Int} : InR .u32 n = (0 ≤ n ∧ n ≤ 4294967295) := by
 simp [InR, IntKind.min, IntKind.max, IntKind.signed, IntKind.bits]
attribute [go_sem] zwc InR_u8 zwe zwd
theorem oc_int {k : IntKind} {n : Int} : (Value.int k n).oneCell' = true := rfl
theorem zxm {b : Bool} : (Value.bool b).oneCell' = true := rfl
theorem zvt {a : Option Addr} {l c : Nat} : (Value.slice a l c).oneCell' = true := rfl
theorem zqH {a : Option Addr} : (Value.pointer a).oneCell' = true := rfl
attribute [go_sem] oc_int zxm zvt zqH
structure LS where
 E : List (Nat × AV)
 H : List (Nat × zbd)
 n : Nat
def zrf (n0 : Nat) (B : zbx → Env → zal → Nat → Prop) (Q : zbx) (s : LS) : Prop := zab n0 B Q (mkE s.E) (mkH s.H) s.n
theorem zxP {P : Program} {n0 : Nat} {b : Code} {Q : zbx} {α : Type} (S : α → LS) (I : Nat → α → Prop)
  (step : ∀ d a, I d a → (∀ d', d' < d → ∀ a', I d' a' → zrf n0 (awp P n0 b) Q (S a')) → awp P n0 b (zrc (zab n0 (awp P n0 b) Q) Q) (mkE (S a).E) (mkH (S a).H) (S a).n) :
  ∀ d a, I d a → zrf n0 (awp P n0 b) Q (S a) := by
 intro d
 induction d using Nat.strongRecOn with
 | ind d ih => intro a ha; exact zxS (step d a ha fun d' hd a' ha' => ih d' hd a' ha')
theorem zxL {P : Program} {n0 : Nat} {b : Code} {Q : zbx} {e : Env} {h : zal} {n : Nat} {s : LS} (hh : zrf n0 (awp P n0 b) Q s) (hk : Wk e h n s.E s.H s.n) (hn : n0 ≤ s.n) : zab n0 (awp P n0 b) Q e h n :=
 zab.forget s.E s.H s.n hk hn hh
theorem zah {e : Env} {h : zal} {n : Nat} {E : List (Nat × AV)} {HH : List (Nat × zbd)} {n' : Nat} :
  Wk e h n E HH n' = ((∀ p ∈ E, LeV h (mkH HH) n (e p.1) p.2 ∧ Bel n' p.2) ∧ ∀ p ∈ HH, p.1 < n' ∧ LeO h (mkH HH) n p.1 (h p.1) p.2 ∧ zv8 n' p.2) :=
 propext ⟨fun h => ⟨h.1, h.2⟩, fun h => ⟨h.1, h.2⟩⟩
theorem zvi {h h' : zal} {n o : Nat} {mt : Bool} {g sz : Nat} {rs : List (List AV)} : LeO h h' n o (some (.rows mt g sz rs)) (.rows mt g sz rs) = True := eq_true (.same (fun h => h) (.refl _))
theorem zxf {h h' : zal} {n o g sz : Nat} (hn : n ≤ o) : LeO h h' n o none (.rows true g sz []) = True := eq_true (.own hn)
theorem zsX {h h' : zal} {n : Nat} : zam h h' n [] [] = True := eq_true .nil
theorem zqz {h h' : zal} {n : Nat} {x y : AV} {xs ys : List AV} : zam h h' n (x :: xs) (y :: ys) = (LeV h h' n x y ∧ zam h h' n xs ys) :=
 propext ⟨fun h => by cases h with | cons a b => exact ⟨a, b⟩, fun h => .cons h.1 h.2⟩
theorem zxg {h h' : zal} {n sz c : Nat} {A : Option Addr} : LeV h h' n (.v (.slice A 0 c)) (.lst sz []) = True := eq_true (.nil sz)
theorem zxi {h h' : zal} {n : Nat} {x : AV} : LeV h h' n x .top = True := eq_true (.top x)
theorem zxh {h h' : zal} {n o g sz : Nat} (hn : n ≤ o) (ho : h' o = some (.rows true g sz [])) : LeV h h' n (.v (.slice none 0 0)) (.sl o g sz 0 0) = True := eq_true (.own hn ho)
theorem noH_eq (o : Nat) : noH o = none := rfl
theorem zaL {h h' : zal} {n o g sz i len : Nat} {mt : Bool} {rs rows : List (List AV)} (ho : h o = some (.rows mt g sz rs)) (hl : i + len ≤ rs.length) (ho' : ∀ g sz rs, h' o ≠ some (.rows true g sz rs)) (hr : (rs.drop i).take len = rows) :
  LeV h h' n (.sl o g sz i len) (.lst sz rows) := .frz ho hl ho' (hr ▸ .refl _)
theorem zys {h h' : zal} {n : Nat} {xs ys : List AV} (e : xs = ys) : zam h h' n xs ys := e ▸ .refl _ _ _ _
theorem zvh {h h' : zal} {n o : Nat} {mt mt' : Bool} {g g' sz sz' : Nat} {rs rs' : List (List AV)} : LeO h h' n o (some (.rows mt g sz rs)) (.rows mt' g' sz' rs') = (g = g' ∧ sz = sz' ∧ (mt' = true → mt = true) ∧ zak h h' n rs rs') :=
 propext ⟨fun h => by cases h with | same hm hr => exact ⟨rfl, rfl, hm, hr⟩, fun ⟨h1, h2, h3, h4⟩ => by subst h1 h2; exact .same h3 h4⟩
theorem zn3 {h h' : zal} {n : Nat} {rs : List (List AV)} : zak h h' n rs rs = True := eq_true (.refl _)
theorem zn2 {h h' : zal} {n : Nat} {x y : List AV} {xs ys : List (List AV)} : zak h h' n (x :: xs) (y :: ys) = (zam h h' n x y ∧ zak h h' n xs ys) :=
 propext ⟨fun h => by cases h with
  | refl => exact ⟨.refl _ _ _ _, .refl _⟩
  | cons h t => exact ⟨h, t⟩, fun h => .cons h.1 h.2⟩
theorem zvj {h h' : zal} {n : Nat} {xs ys : List AV} : LeV h h' n (.agg xs) (.agg ys) = zam h h' n xs ys :=
 propext ⟨fun h => by cases h with
  | refl => exact .refl _ _ _ _
  | agg h => exact h, .agg⟩
theorem zvl {h h' : zal} {n : Nat} {xs ys : List AV} : LeV h h' n (.tup xs) (.tup ys) = zam h h' n xs ys :=
 propext ⟨fun h => by cases h with
  | refl => exact .refl _ _ _ _
  | tup h => exact h, .tup⟩
theorem NoFz_v {x : Value} : zeK (.v x) = True := eq_true (.v x)
theorem zt2 {o g sz i off : Nat} : zeK (.ref o g sz i off) = True := eq_true (.ref ..)
theorem zwh {o g sz i len : Nat} : zeK (.sl o g sz i len) = True := eq_true (.sl ..)
theorem zt1 {xs : List AV} : zeK (.agg xs) = ∀ x ∈ xs, zeK x := propext ⟨fun h => by cases h; assumption, .agg⟩
theorem zt3 {xs : List AV} : zeK (.tup xs) = ∀ x ∈ xs, zeK x := propext ⟨fun h => by cases h; assumption, .tup⟩
theorem zwg {f : Fn} {a b : List AV} : zeK (.fn f a b) = ((∀ x ∈ a, zeK x) ∧ ∀ x ∈ b, zeK x) := propext ⟨fun h => by cases h; exact ⟨by assumption, by assumption⟩, fun h => .fn h.1 h.2⟩
theorem zxZ {P : Program} {f : FuncId} {args args' : List AV} {h : zal} {n : Nat} {K : zcc} {R : Nat → AV} {HH : Nat → List (Nat × zbd)} {k : Nat} (hp : zgB P f args' R HH k)
  (hnR : zeK (R 0)) (hnH : ∀ p ∈ HH 0, zm6 p.2) (hle : zam h noH n args args') (hb : ∀ c ∈ args', Bel 0 c) (hk : K (R n) (zdx (HH n) h) (n + k)) : zaa P f args h n K :=
 zye hp.1 (fun _ _ _ h => h) (hp.2 n).1 (hp.2 n).2 hnR hnH hle hb hk
attribute [go_sem] zvh zn3 zn2 zvj zvl NoFz_v zt2 zwh zt1 zt3 zwg zm6 zkD
attribute [go_sem] noH_eq zxh zxf mkE mkH zv8 zvi zsX zqz zxg zxi List.forall_mem_cons
theorem zxY {h h' : zal} {n : Nat} {x y : AV} (e : x = y) : LeV h h' n x y := e ▸ .refl x
theorem nadd (a b c : Nat) : a + b + c = a + (b + c) := Nat.add_assoc a b c
attribute [go_sem] nadd
class WS (G : Prop) (a X : outParam Prop) : Prop where out : a → (a → X) → G
instance {P : Program} {ops : List Oper} {Q : zbx} {rest : List Oper} {e : Env} {h : zal} {n : Nat} {a : Prop} : WS (VC a (zff P ops Q rest e h n)) a (za7 P ops Q rest e h n) := ⟨fun h1 h2 => wL h2 h1⟩
instance {P : Program} {ops : List Oper} {Q : zbx} {rest : List Oper} {e : Env} {h : zal} {n m i : Nat} {a : Prop} {acc : List zee} : WS (VC a (zlt P n ops Q m i rest e h acc)) a (adr P n ops Q m i rest e h acc) := ⟨fun h1 h2 => wD h2 h1⟩
instance {P : Program} {ops : List Oper} {Q : zbx} {e : Env} {h : zal} {n : Nat} : WS (zla P n ops Q e h) True (adr P n ops Q (n + ops.length) 0 ops e h []) := ⟨fun _ h2 => wZ (h2 trivial)⟩
def KR (p : Prop) : Prop := p
theorem kr {p : Prop} (h : p) : KR p := h
instance {ops : List Oper} {Q : zbx} {n : Nat} {e : Env} {h : zal} {recs : List zee} : WS (zlb Q ops n e h recs) (KR ((zia ops recs && zte recs) = true)) (Q .normal e h n) := ⟨fun h1 h2 => zlb.mk h1 (h2 h1)⟩
theorem wV {G a X : Prop} [i : WS G a X] (h2 : a → X) (h1 : a := by with_reducible first | omega | exact True.intro | rfl | (refine kr ?_; kernel_rfl) | (intros; omega)) : G := i.out h1 h2
theorem leX {p : Prop} (h : p := by ((try simp only [zaD, zaM, zbc, zcl, zaE, zco, zaH, zas, zad, zed, zbJ, zaP, zar, zaf, List.map_cons, List.map_nil, List.nil_append, List.append_nil, List.cons_append]); (repeat (first | (with_reducible exact zam.nil) | (with_reducible exact zak.nil) | (with_reducible exact LeV.refl _) | (with_reducible exact zam.refl _ _ _ _) | (with_reducible exact zak.refl _) | (with_reducible refine zam.cons ?_ ?_) | (with_reducible refine zak.cons ?_ ?_) | (with_reducible refine LeV.agg ?_) | (with_reducible refine LeV.tup ?_) | (with_reducible refine LeV.fn ?_ ?_) | (with_reducible exact LeV.nil _) | (with_reducible refine zat (zak.refl _) ?_) | ((refine zaL rfl (by simp) (by simp [zbp, zbP, upd, noH]) ?_); (first | (simp [go_sem]; done) | (simp [go_sem]; exact List.take_of_length_le (by simp)))) | ((refine LeV.frz rfl (by simp) (by simp [zbp, zbP, upd, noH]) ?_); (simp only [List.drop_zero, List.take_succ_cons, List.take_zero, List.map_cons, List.map_nil])) | ((refine LeV.frzP rfl (by simp) (by simp) (by simp [zbp, zbP, upd, noH]) ?_); (simp only [zbi, List.drop_zero])))))) : p := h
theorem blX {p : Prop} (h : p := by (intro r hr c hc; (first | (rcases hr with ⟨_, _, rfl⟩ | rfl) | (rcases hr with rfl | ⟨_, _, rfl⟩) | (rcases hr with rfl | rfl) | ((rcases List.mem_or_eq_of_mem_set hr with hr | rfl) <;> first | (obtain ⟨_, _, rfl⟩ := List.mem_map.1 hr; simp only [zcf] at hc) | skip) | (rcases hr with ⟨_, rfl⟩ | ⟨_, rfl⟩) | (rcases hr with ⟨_, _, rfl⟩ | ⟨_, rfl⟩) | (rcases hr with ⟨_, rfl⟩ | ⟨_, _, rfl⟩) | (rcases hr with ⟨_, _, rfl⟩ | ⟨_, _, rfl⟩) | (obtain ⟨_, rfl⟩ := hr) | (obtain ⟨_, _, rfl⟩ := hr)) <;> simp at hc <;> (try subst hc) <;> first | exact .v _ | (rcases hc with rfl | rfl <;> exact .v _))) : p := h
theorem dpX {p : Prop} (h : p := by ((refine LeV.frz rfl (by simp) (by simp [noH, upd]) ?_); (try simp only [List.drop_zero, List.take_succ_cons, List.take_zero, List.map_cons, List.map_nil]); (repeat (first | (with_reducible exact zak.nil) | (with_reducible refine zak.cons ?_ ?_) | (with_reducible exact zam.nil) | (with_reducible refine zam.cons ?_ ?_) | (with_reducible exact LeV.refl _) | (refine zaL rfl (by simp) (by simp [noH, upd]) ?_; first | (simp [go_sem]; done) | (simp [go_sem]; exact List.take_of_length_le (by simp))))))) : p := h
theorem agX {p : Prop} (h : p := by ((try simp only [zaH, zas, zad, zed, zbJ, zaP, zar, List.nil_append, List.append_nil, List.cons_append]); (repeat (first | (with_reducible exact zam.nil) | (with_reducible refine zam.cons ?_ ?_) | (with_reducible exact LeV.refl _) | (with_reducible refine LeV.agg ?_) | ((refine zaL rfl (by simp) (by simp [zbp, zbP, upd, noH]) ?_); (first | (simp [go_sem]; done) | (simp [go_sem]; exact List.take_of_length_le (by simp)))))))) : p := h
theorem rwX {p : Prop} (h : p := by ((refine zat (.refl _) ?_); (repeat (first | (with_reducible exact zak.nil) | (with_reducible refine zak.cons ?_ ?_) | (with_reducible exact zam.nil) | (with_reducible refine zam.cons ?_ ?_) | (with_reducible exact LeV.refl _) | (refine zaL rfl (by simp) (by simp [noH, upd]) ?_; first | (simp [go_sem]; done) | (simp [go_sem]; exact List.take_of_length_le (by simp))))))) : p := h
theorem frX {p : Prop} (h : p := by (refine zaL rfl (by simp) (by simp [noH, upd]) ?_; first | (simp [go_sem]; done) | (simp [go_sem]; exact List.take_of_length_le (by simp)))) : p := h
end Go.Av
end
section
namespace Go.Av
open Go Go.Proofs Go.Proofs.Tryz
@[go_sem] theorem t_0 : tk prog 0 = .other ∧ tsz prog 0 = some 1 ∧ tby prog 0 = some 0 ∧ za6 prog 0 = some false := by and_intros <;> kernel_rfl
@[go_sem] theorem t_1 : tk prog 1 = .other ∧ tsz prog 1 = some 1 ∧ tby prog 1 = some 8 ∧ tz prog 1 = some [(.v .nilFunc)] ∧ za6 prog 1 = some false := by and_intros <;> kernel_rfl
@[go_sem] theorem t_2 : tk prog 2 = .int .i64 ∧ tsz prog 2 = some 1 ∧ tby prog 2 = some 8 ∧ tz prog 2 = some [(.v (.int .i64 0))] ∧ za6 prog 2 = some false ∧ tz1 prog 2 = some (.int .i64 0) := by and_intros <;> kernel_rfl
@[go_sem] theorem t_3 : tk prog 3 = .int .i64 ∧ tsz prog 3 = some 1 ∧ tby prog 3 = some 8 ∧ tz prog 3 = some [(.v (.int .i64 0))] ∧ za6 prog 3 = some false ∧ tz1 prog 3 = some (.int .i64 0) := by and_intros <;> kernel_rfl
@[go_sem] theorem t_4 : tk prog 4 = .bool ∧ tsz prog 4 = some 1 ∧ tby prog 4 = some 1 ∧ tz prog 4 = some [(.v (.bool false))] ∧ za6 prog 4 = some false ∧ tz1 prog 4 = some (.bool false) := by and_intros <;> kernel_rfl
@[go_sem] theorem t_5 : tk prog 5 = .int .u8 ∧ tsz prog 5 = some 1 ∧ tby prog 5 = some 1 ∧ tz prog 5 = some [(.v (.int .u8 0))] ∧ za6 prog 5 = some false ∧ tz1 prog 5 = some (.int .u8 0) := by and_intros <;> kernel_rfl
@[go_sem] theorem t_6 : tk prog 6 = .int .u8 ∧ tsz prog 6 = some 1 ∧ tby prog 6 = some 1 ∧ tz prog 6 = some [(.v (.int .u8 0))] ∧ za6 prog 6 = some false ∧ tz1 prog 6 = some (.int .u8 0) := by and_intros <;> kernel_rfl
@[go_sem] theorem t_7 : tk prog 7 = .str ∧ tsz prog 7 = some 4 ∧ tby prog 7 = some 24 ∧ tz prog 7 = some [(.v (.int .i64 0)), (.v (.int .i64 0)), (.v (.bool false)), (.v (.int .u8 0))] ∧ za6 prog 7 = some true ∧ tfi prog 7 = true ∧ zor prog 7 = some [false, false, true, false] ∧ zb1 prog 7 0 = some 2 ∧ zbS prog 7 0 = some 0 ∧ zb1 prog 7 1 = some 3 ∧ zbS prog 7 1 = some 1 ∧ zb1 prog 7 2 = some 4 ∧ zbS prog 7 2 = some 2 ∧ zb1 prog 7 3 = some 6 ∧ zbS prog 7 3 = some 3 := by and_intros <;> kernel_rfl
@[go_sem] theorem t_8 : tk prog 8 = .str ∧ tsz prog 8 = some 4 ∧ tby prog 8 = some 24 ∧ tz prog 8 = some [(.v (.int .i64 0)), (.v (.int .i64 0)), (.v (.bool false)), (.v (.int .u8 0))] ∧ za6 prog 8 = some true ∧ tfi prog 8 = true ∧ zor prog 8 = some [false, false, true, false] ∧ zb1 prog 8 0 = some 2 ∧ zbS prog 8 0 = some 0 ∧ zb1 prog 8 1 = some 3 ∧ zbS prog 8 1 = some 1 ∧ zb1 prog 8 2 = some 4 ∧ zbS prog 8 2 = some 2 ∧ zb1 prog 8 3 = some 6 ∧ zbS prog 8 3 = some 3 := by and_intros <;> kernel_rfl
@[go_sem] theorem t_9 : tk prog 9 = .string ∧ tsz prog 9 = some 1 ∧ tby prog 9 = some 16 ∧ tz prog 9 = some [(.v (.string ⟨⟨[]⟩⟩))] ∧ za6 prog 9 = some false ∧ tz1 prog 9 = some (.string ⟨⟨[]⟩⟩) := by and_intros <;> kernel_rfl
@[go_sem] theorem t_10 : tk prog 10 = .string ∧ tsz prog 10 = some 1 ∧ tby prog 10 = some 16 ∧ tz prog 10 = some [(.v (.string ⟨⟨[]⟩⟩))] ∧ za6 prog 10 = some false ∧ tz1 prog 10 = some (.string ⟨⟨[]⟩⟩) := by and_intros <;> kernel_rfl
@[go_sem] theorem t_11 : tk prog 11 = .string ∧ tsz prog 11 = some 1 ∧ tby prog 11 = some 16 ∧ tz prog 11 = some [(.v (.string ⟨⟨[]⟩⟩))] ∧ za6 prog 11 = some false ∧ tz1 prog 11 = some (.string ⟨⟨[]⟩⟩) := by and_intros <;> kernel_rfl
@[go_sem] theorem t_12 : tk prog 12 = .int .u64 ∧ tsz prog 12 = some 1 ∧ tby prog 12 = some 8 ∧ tz prog 12 = some [(.v (.int .u64 0))] ∧ za6 prog 12 = some false ∧ tz1 prog 12 = some (.int .u64 0) := by and_intros <;> kernel_rfl
@[go_sem] theorem t_16 : tk prog 16 = .ptr 396 ∧ tsz prog 16 = some 1 ∧ tby prog 16 = some 8 ∧ tz prog 16 = some [(.v (.pointer .none))] ∧ za6 prog 16 = some false := by and_intros <;> kernel_rfl
@[go_sem] theorem t_20 : tk prog 20 = .other ∧ tsz prog 20 = some 1 ∧ tby prog 20 = some 16 ∧ tz prog 20 = some [(.v .nilIface)] ∧ za6 prog 20 = some false := by and_intros <;> kernel_rfl
@[go_sem] theorem t_22 : tk prog 22 = .sl 5 ∧ tsz prog 22 = some 1 ∧ tby prog 22 = some 24 ∧ tz prog 22 = some [(.v (.slice .none 0 0))] ∧ za6 prog 22 = some false := by and_intros <;> kernel_rfl
@[go_sem] theorem t_23 : tk prog 23 = .arr 2 22 ∧ tsz prog 23 = some 2 ∧ tby prog 23 = some 48 ∧ tz prog 23 = some [(.v (.slice .none 0 0)), (.v (.slice .none 0 0))] ∧ za6 prog 23 = some true := by and_intros <;> kernel_rfl
@[go_sem] theorem t_24 : tk prog 24 = .sl 80 ∧ tsz prog 24 = some 1 ∧ tby prog 24 = some 24 ∧ tz prog 24 = some [(.v (.slice .none 0 0))] ∧ za6 prog 24 = some false := by and_intros <;> kernel_rfl
@[go_sem] theorem t_25 : tk prog 25 = .arr 6 5 ∧ tsz prog 25 = some 6 ∧ tby prog 25 = some 6 ∧ tz prog 25 = some [(.v (.int .u8 0)), (.v (.int .u8 0)), (.v (.int .u8 0)), (.v (.int .u8 0)), (.v (.int .u8 0)), (.v (.int .u8 0))] ∧ za6 prog 25 = some true := by and_intros <;> kernel_rfl
@[go_sem] theorem t_27 : tk prog 27 = .str ∧ tsz prog 27 = some 12 ∧ tby prog 27 = some 88 ∧ tz prog 27 = some [(.v (.int .u8 0)), (.v (.int .u8 0)), (.v (.int .u8 0)), (.v (.slice .none 0 0)), (.v (.slice .none 0 0)), (.v (.slice .none 0 0)), (.v (.int .u8 0)), (.v (.int .u8 0)), (.v (.int .u8 0)), (.v (.int .u8 0)), (.v (.int .u8 0)), (.v (.int .u8 0))] ∧ za6 prog 27 = some true ∧ tfi prog 27 = true ∧ zb1 prog 27 0 = some 5 ∧ zbS prog 27 0 = some 0 ∧ zb1 prog 27 1 = some 5 ∧ zbS prog 27 1 = some 1 ∧ zb1 prog 27 2 = some 5 ∧ zbS prog 27 2 = some 2 ∧ zb1 prog 27 3 = some 23 ∧ zbS prog 27 3 = some 3 ∧ zb1 prog 27 4 = some 24 ∧ zbS prog 27 4 = some 5 ∧ zb1 prog 27 5 = some 25 ∧ zbS prog 27 5 = some 6 := by and_intros <;> kernel_rfl
@[go_sem] theorem t_28 : tk prog 28 = .arr 4 5 ∧ tsz prog 28 = some 4 ∧ tby prog 28 = some 4 ∧ tz prog 28 = some [(.v (.int .u8 0)), (.v (.int .u8 0)), (.v (.int .u8 0)), (.v (.int .u8 0))] ∧ za6 prog 28 = some true := by and_intros <;> kernel_rfl
@[go_sem] theorem t_30 : tk prog 30 = .str ∧ tsz prog 30 = some 18 ∧ tby prog 30 = some 18 ∧ tz prog 30 = some [(.v (.int .u8 0)), (.v (.int .u8 0)), (.v (.int .u8 0)), (.v (.int .u8 0)), (.v (.int .u8 0)), (.v (.int .u8 0)), (.v (.int .u8 0)), (.v (.int .u8 0)), (.v (.int .u8 0)), (.v (.int .u8 0)), (.v (.int .u8 0)), (.v (.int .u8 0)), (.v (.int .u8 0)), (.v (.int .u8 0)), (.v (.int .u8 0)), (.v (.int .u8 0)), (.v (.int .u8 0)), (.v (.int .u8 0))] ∧ za6 prog 30 = some true ∧ tfi prog 30 = true ∧ zb1 prog 30 0 = some 25 ∧ zbS prog 30 0 = some 0 ∧ zb1 prog 30 1 = some 25 ∧ zbS prog 30 1 = some 6 ∧ zb1 prog 30 2 = some 28 ∧ zbS prog 30 2 = some 12 ∧ zb1 prog 30 3 = some 5 ∧ zbS prog 30 3 = some 16 ∧ zb1 prog 30 4 = some 5 ∧ zbS prog 30 4 = some 17 := by and_intros <;> kernel_rfl
@[go_sem] theorem t_32 : tk prog 32 = .sl 33 ∧ tsz prog 32 = some 1 ∧ tby prog 32 = some 24 ∧ tz prog 32 = some [(.v (.slice .none 0 0))] ∧ za6 prog 32 = some false := by and_intros <;> kernel_rfl
@[go_sem] theorem t_33 : tk prog 33 = .sl 3 ∧ tsz prog 33 = some 1 ∧ tby prog 33 = some 24 ∧ tz prog 33 = some [(.v (.slice .none 0 0))] ∧ za6 prog 33 = some false := by and_intros <;> kernel_rfl
@[go_sem] theorem t_35 : tk prog 35 = .str ∧ tsz prog 35 = some 3 ∧ tby prog 35 = some 56 ∧ tz prog 35 = some [(.v (.int .i64 0)), (.v (.slice .none 0 0)), (.v (.slice .none 0 0))] ∧ za6 prog 35 = some true ∧ tfi prog 35 = true ∧ zb1 prog 35 0 = some 3 ∧ zbS prog 35 0 = some 0 ∧ zb1 prog 35 1 = some 32 ∧ zbS prog 35 1 = some 1 ∧ zb1 prog 35 2 = some 33 ∧ zbS prog 35 2 = some 2 := by and_intros <;> kernel_rfl
@[go_sem] theorem t_36 : tk prog 36 = .sl 122 ∧ tsz prog 36 = some 1 ∧ tby prog 36 = some 24 ∧ tz prog 36 = some [(.v (.slice .none 0 0))] ∧ za6 prog 36 = some false := by and_intros <;> kernel_rfl
@[go_sem] theorem t_37 : tk prog 37 = .sl 75 ∧ tsz prog 37 = some 1 ∧ tby prog 37 = some 24 ∧ tz prog 37 = some [(.v (.slice .none 0 0))] ∧ za6 prog 37 = some false := by and_intros <;> kernel_rfl
@[go_sem] theorem t_39 : tk prog 39 = .str ∧ tsz prog 39 = some 9 ∧ tby prog 39 = some 136 ∧ tz prog 39 = some [(.v (.int .i64 0)), (.v (.slice .none 0 0)), (.v (.slice .none 0 0)), (.v (.slice .none 0 0)), (.v (.int .i64 0)), (.v (.bool false)), (.v (.slice .none 0 0)), (.v (.int .i64 0)), (.v (.int .i64 0))] ∧ za6 prog 39 = some true ∧ tfi prog 39 = true ∧ zb1 prog 39 0 = some 35 ∧ zbS prog 39 0 = some 0 ∧ zb1 prog 39 1 = some 36 ∧ zbS prog 39 1 = some 3 ∧ zb1 prog 39 2 = some 3 ∧ zbS prog 39 2 = some 4 ∧ zb1 prog 39 3 = some 4 ∧ zbS prog 39 3 = some 5 ∧ zb1 prog 39 4 = some 37 ∧ zbS prog 39 4 = some 6 ∧ zb1 prog 39 5 = some 3 ∧ zbS prog 39 5 = some 7 ∧ zb1 prog 39 6 = some 3 ∧ zbS prog 39 6 = some 8 := by and_intros <;> kernel_rfl
@[go_sem] theorem t_43 : tk prog 43 = .arr 2 33 ∧ tsz prog 43 = some 2 ∧ tby prog 43 = some 48 ∧ tz prog 43 = some [(.v (.slice .none 0 0)), (.v (.slice .none 0 0))] ∧ za6 prog 43 = some true := by and_intros <;> kernel_rfl
@[go_sem] theorem t_45 : tk prog 45 = .str ∧ tsz prog 45 = some 5 ∧ tby prog 45 = some 88 ∧ tz prog 45 = some [(.v (.slice .none 0 0)), (.v (.slice .none 0 0)), (.v (.slice .none 0 0)), (.v (.int .i64 0)), (.v (.int .i64 0))] ∧ za6 prog 45 = some true ∧ tfi prog 45 = true ∧ zb1 prog 45 0 = some 33 ∧ zbS prog 45 0 = some 0 ∧ zb1 prog 45 1 = some 43 ∧ zbS prog 45 1 = some 1 ∧ zb1 prog 45 2 = some 3 ∧ zbS prog 45 2 = some 3 ∧ zb1 prog 45 3 = some 3 ∧ zbS prog 45 3 = some 4 := by and_intros <;> kernel_rfl
@[go_sem] theorem t_47 : tk prog 47 = .sl 45 ∧ tsz prog 47 = some 1 ∧ tby prog 47 = some 24 ∧ tz prog 47 = some [(.v (.slice .none 0 0))] ∧ za6 prog 47 = some false := by and_intros <;> kernel_rfl
@[go_sem] theorem t_48 : tk prog 48 = .int .i64 ∧ tsz prog 48 = some 1 ∧ tby prog 48 = some 8 ∧ tz prog 48 = some [(.v (.int .i64 0))] ∧ za6 prog 48 = some false ∧ tz1 prog 48 = some (.int .i64 0) := by and_intros <;> kernel_rfl
@[go_sem] theorem t_49 : tk prog 49 = .other ∧ tsz prog 49 = some 1 ∧ tby prog 49 = some 0 ∧ za6 prog 49 = some false := by and_intros <;> kernel_rfl
@[go_sem] theorem t_62 : tk prog 62 = .other ∧ tsz prog 62 = some 1 ∧ tby prog 62 = some 0 ∧ za6 prog 62 = some false := by and_intros <;> kernel_rfl
@[go_sem] theorem t_64 : tk prog 64 = .str ∧ tsz prog 64 = some 31 ∧ tby prog 64 = some 136 ∧ tz prog 64 = some [(.v (.int .u8 0)), (.v (.int .u8 0)), (.v (.int .u8 0)), (.v (.slice .none 0 0)), (.v (.slice .none 0 0)), (.v (.slice .none 0 0)), (.v (.int .u8 0)), (.v (.int .u8 0)), (.v (.int .u8 0)), (.v (.int .u8 0)), (.v (.int .u8 0)), (.v (.int .u8 0)), (.v (.int .u8 0)), (.v (.int .u8 0)), (.v (.int .u8 0)), (.v (.int .u8 0)), (.v (.int .u8 0)), (.v (.int .u8 0)), (.v (.int .u8 0)), (.v (.int .u8 0)), (.v (.int .u8 0)), (.v (.int .u8 0)), (.v (.int .u8 0)), (.v (.int .u8 0)), (.v (.int .u8 0)), (.v (.int .u8 0)), (.v (.int .u8 0)), (.v (.int .u8 0)), (.v (.int .u8 0)), (.v (.int .u8 0)), (.v (.slice .none 0 0))] ∧ za6 prog 64 = some true ∧ tfi prog 64 = true ∧ zb1 prog 64 0 = some 27 ∧ zbS prog 64 0 = some 0 ∧ zb1 prog 64 1 = some 30 ∧ zbS prog 64 1 = some 12 ∧ zb1 prog 64 2 = some 22 ∧ zbS prog 64 2 = some 30 := by and_intros <;> kernel_rfl
@[go_sem] theorem t_70 : tk prog 70 = .str ∧ tsz prog 70 = some 2 ∧ tby prog 70 = some 32 ∧ tz prog 70 = some [(.v (.slice .none 0 0)), (.v (.int .i64 0))] ∧ za6 prog 70 = some true ∧ tfi prog 70 = true ∧ zb1 prog 70 0 = some 47 ∧ zbS prog 70 0 = some 0 ∧ zb1 prog 70 1 = some 48 ∧ zbS prog 70 1 = some 1 := by and_intros <;> kernel_rfl
@[go_sem] theorem t_75 : tk prog 75 = .str ∧ tsz prog 75 = some 4 ∧ tby prog 75 = some 32 ∧ tz prog 75 = some [(.v (.int .i64 0)), (.v (.int .i64 0)), (.v (.int .i64 0)), (.v (.int .i64 0))] ∧ za6 prog 75 = some true ∧ tfi prog 75 = true ∧ zor prog 75 = some [false, false, false, false] ∧ zb1 prog 75 0 = some 3 ∧ zbS prog 75 0 = some 0 ∧ zb1 prog 75 1 = some 3 ∧ zbS prog 75 1 = some 1 ∧ zb1 prog 75 2 = some 3 ∧ zbS prog 75 2 = some 2 ∧ zb1 prog 75 3 = some 3 ∧ zbS prog 75 3 = some 3 := by and_intros <;> kernel_rfl
@[go_sem] theorem t_78 : tk prog 78 = .other ∧ tsz prog 78 = some 1 ∧ tby prog 78 = some 8 ∧ tz prog 78 = some [(.v .nilFunc)] ∧ za6 prog 78 = some false := by and_intros <;> kernel_rfl
@[go_sem] theorem t_80 : tk prog 80 = .arr 3 5 ∧ tsz prog 80 = some 3 ∧ tby prog 80 = some 3 ∧ tz prog 80 = some [(.v (.int .u8 0)), (.v (.int .u8 0)), (.v (.int .u8 0))] ∧ za6 prog 80 = some true := by and_intros <;> kernel_rfl
@[go_sem] theorem t_83 : tk prog 83 = .int .u16 ∧ tsz prog 83 = some 1 ∧ tby prog 83 = some 2 ∧ tz prog 83 = some [(.v (.int .u16 0))] ∧ za6 prog 83 = some false ∧ tz1 prog 83 = some (.int .u16 0) := by and_intros <;> kernel_rfl
@[go_sem] theorem t_102 : tk prog 102 = .sl 138 ∧ tsz prog 102 = some 1 ∧ tby prog 102 = some 24 ∧ tz prog 102 = some [(.v (.slice .none 0 0))] ∧ za6 prog 102 = some false := by and_intros <;> kernel_rfl
@[go_sem] theorem t_103 : tk prog 103 = .arr 2 102 ∧ tsz prog 103 = some 2 ∧ tby prog 103 = some 48 ∧ tz prog 103 = some [(.v (.slice .none 0 0)), (.v (.slice .none 0 0))] ∧ za6 prog 103 = some true := by and_intros <;> kernel_rfl
@[go_sem] theorem t_105 : tk prog 105 = .str ∧ tsz prog 105 = some 2 ∧ tby prog 105 = some 48 ∧ tz prog 105 = some [(.v (.slice .none 0 0)), (.v (.slice .none 0 0))] ∧ za6 prog 105 = some true ∧ tfi prog 105 = true ∧ zb1 prog 105 0 = some 103 ∧ zbS prog 105 0 = some 0 := by and_intros <;> kernel_rfl
@[go_sem] theorem t_117 : tk prog 117 = .str ∧ tsz prog 117 = some 2 ∧ tby prog 117 = some 16 ∧ tz prog 117 = some [(.v (.int .i64 0)), (.v (.int .i64 0))] ∧ za6 prog 117 = some true ∧ tfi prog 117 = true ∧ zor prog 117 = some [false, false] ∧ zb1 prog 117 0 = some 3 ∧ zbS prog 117 0 = some 0 ∧ zb1 prog 117 1 = some 3 ∧ zbS prog 117 1 = some 1 := by and_intros <;> kernel_rfl
@[go_sem] theorem t_119 : tk prog 119 = .sl 117 ∧ tsz prog 119 = some 1 ∧ tby prog 119 = some 24 ∧ tz prog 119 = some [(.v (.slice .none 0 0))] ∧ za6 prog 119 = some false := by and_intros <;> kernel_rfl
@[go_sem] theorem t_120 : tk prog 120 = .sl 119 ∧ tsz prog 120 = some 1 ∧ tby prog 120 = some 24 ∧ tz prog 120 = some [(.v (.slice .none 0 0))] ∧ za6 prog 120 = some false := by and_intros <;> kernel_rfl
@[go_sem] theorem t_122 : tk prog 122 = .str ∧ tsz prog 122 = some 3 ∧ tby prog 122 = some 48 ∧ tz prog 122 = some [(.v (.string ⟨⟨[]⟩⟩)), (.v (.slice .none 0 0)), (.v (.bool false))] ∧ za6 prog 122 = some true ∧ tfi prog 122 = true ∧ zb1 prog 122 0 = some 9 ∧ zbS prog 122 0 = some 0 ∧ zb1 prog 122 1 = some 120 ∧ zbS prog 122 1 = some 1 ∧ zb1 prog 122 2 = some 4 ∧ zbS prog 122 2 = some 2 := by and_intros <;> kernel_rfl
@[go_sem] theorem t_123 : tk prog 123 = .other ∧ tsz prog 123 = some 1 ∧ tby prog 123 = some 8 ∧ tz prog 123 = some [(.v .nilFunc)] ∧ za6 prog 123 = some false := by and_intros <;> kernel_rfl
@[go_sem] theorem t_127 : tk prog 127 = .sl 9 ∧ tsz prog 127 = some 1 ∧ tby prog 127 = some 24 ∧ tz prog 127 = some [(.v (.slice .none 0 0))] ∧ za6 prog 127 = some false := by and_intros <;> kernel_rfl
@[go_sem] theorem t_131 : tk prog 131 = .other ∧ tsz prog 131 = some 1 ∧ tby prog 131 = some 8 ∧ tz prog 131 = some [(.v .nilFunc)] ∧ za6 prog 131 = some false := by and_intros <;> kernel_rfl
@[go_sem] theorem t_132 : tk prog 132 = .other ∧ tsz prog 132 = some 1 ∧ tby prog 132 = some 8 ∧ tz prog 132 = some [(.v .nilFunc)] ∧ za6 prog 132 = some false := by and_intros <;> kernel_rfl
@[go_sem] theorem t_135 : tk prog 135 = .str ∧ tsz prog 135 = some 6 ∧ tby prog 135 = some 96 ∧ tz prog 135 = some [(.v (.slice .none 0 0)), (.v (.slice .none 0 0)), (.v (.slice .none 0 0)), (.v (.int .i64 0)), (.v (.int .i64 0)), (.v (.bool false))] ∧ za6 prog 135 = some true ∧ tfi prog 135 = true ∧ zb1 prog 135 0 = some 45 ∧ zbS prog 135 0 = some 0 ∧ zb1 prog 135 1 = some 4 ∧ zbS prog 135 1 = some 5 := by and_intros <;> kernel_rfl
@[go_sem] theorem t_138 : tk prog 138 = .sl 139 ∧ tsz prog 138 = some 1 ∧ tby prog 138 = some 24 ∧ tz prog 138 = some [(.v (.slice .none 0 0))] ∧ za6 prog 138 = some false := by and_intros <;> kernel_rfl
@[go_sem] theorem t_139 : tk prog 139 = .sl 142 ∧ tsz prog 139 = some 1 ∧ tby prog 139 = some 24 ∧ tz prog 139 = some [(.v (.slice .none 0 0))] ∧ za6 prog 139 = some false := by and_intros <;> kernel_rfl
@[go_sem] theorem t_140 : tk prog 140 = .sl 145 ∧ tsz prog 140 = some 1 ∧ tby prog 140 = some 24 ∧ tz prog 140 = some [(.v (.slice .none 0 0))] ∧ za6 prog 140 = some false := by and_intros <;> kernel_rfl
@[go_sem] theorem t_142 : tk prog 142 = .str ∧ tsz prog 142 = some 2 ∧ tby prog 142 = some 32 ∧ tz prog 142 = some [(.v (.slice .none 0 0)), (.v (.int .i64 0))] ∧ za6 prog 142 = some true ∧ tfi prog 142 = true ∧ zb1 prog 142 0 = some 140 ∧ zbS prog 142 0 = some 0 ∧ zb1 prog 142 1 = some 3 ∧ zbS prog 142 1 = some 1 := by and_intros <;> kernel_rfl
@[go_sem] theorem t_145 : tk prog 145 = .str ∧ tsz prog 145 = some 3 ∧ tby prog 145 = some 24 ∧ tz prog 145 = some [(.v (.int .i64 0)), (.v (.int .i64 0)), (.v (.int .i64 0))] ∧ za6 prog 145 = some true ∧ tfi prog 145 = true ∧ zor prog 145 = some [false, false, false] ∧ zb1 prog 145 0 = some 3 ∧ zbS prog 145 0 = some 0 ∧ zb1 prog 145 1 = some 3 ∧ zbS prog 145 1 = some 1 ∧ zb1 prog 145 2 = some 3 ∧ zbS prog 145 2 = some 2 := by and_intros <;> kernel_rfl
@[go_sem] theorem t_153 : tk prog 153 = .other ∧ tsz prog 153 = some 1 ∧ tby prog 153 = some 8 ∧ tz prog 153 = some [(.v .nilFunc)] ∧ za6 prog 153 = some false := by and_intros <;> kernel_rfl
@[go_sem] theorem t_178 : tk prog 178 = .map 9 4 ∧ tsz prog 178 = some 1 ∧ tby prog 178 = some 8 ∧ tz prog 178 = some [(.v (.map .none))] ∧ za6 prog 178 = some false := by and_intros <;> kernel_rfl
@[go_sem] theorem t_192 : tk prog 192 = .other ∧ tsz prog 192 = some 1 ∧ tby prog 192 = some 0 ∧ za6 prog 192 = some false := by and_intros <;> kernel_rfl
@[go_sem] theorem t_197 : tk prog 197 = .other ∧ tsz prog 197 = some 1 ∧ tby prog 197 = some 8 ∧ tz prog 197 = some [(.v .nilFunc)] ∧ za6 prog 197 = some false := by and_intros <;> kernel_rfl
@[go_sem] theorem t_198 : tk prog 198 = .arr 4 197 ∧ tsz prog 198 = some 4 ∧ tby prog 198 = some 32 ∧ tz prog 198 = some [(.v .nilFunc), (.v .nilFunc), (.v .nilFunc), (.v .nilFunc)] ∧ za6 prog 198 = some true := by and_intros <;> kernel_rfl
@[go_sem] theorem t_199 : tk prog 199 = .other ∧ tsz prog 199 = some 1 ∧ tby prog 199 = some 8 ∧ tz prog 199 = some [(.v .nilFunc)] ∧ za6 prog 199 = some false := by and_intros <;> kernel_rfl
@[go_sem] theorem t_200 : tk prog 200 = .other ∧ tsz prog 200 = some 1 ∧ tby prog 200 = some 0 ∧ za6 prog 200 = some false := by and_intros <;> kernel_rfl
@[go_sem] theorem t_202 : tk prog 202 = .sl 135 ∧ tsz prog 202 = some 1 ∧ tby prog 202 = some 24 ∧ tz prog 202 = some [(.v (.slice .none 0 0))] ∧ za6 prog 202 = some false := by and_intros <;> kernel_rfl
@[go_sem] theorem t_203 : tk prog 203 = .other ∧ tsz prog 203 = some 1 ∧ tby prog 203 = some 0 ∧ za6 prog 203 = some false := by and_intros <;> kernel_rfl
@[go_sem] theorem t_208 : tk prog 208 = .str ∧ tsz prog 208 = some 8 ∧ tby prog 208 = some 112 ∧ tz prog 208 = some [(.v (.slice .none 0 0)), (.v (.slice .none 0 0)), (.v (.slice .none 0 0)), (.v (.int .i64 0)), (.v (.int .i64 0)), (.v (.int .i64 0)), (.v (.int .i64 0)), (.v (.bool false))] ∧ za6 prog 208 = some true ∧ tfi prog 208 = true ∧ zb1 prog 208 0 = some 45 ∧ zbS prog 208 0 = some 0 ∧ zb1 prog 208 1 = some 3 ∧ zbS prog 208 1 = some 5 ∧ zb1 prog 208 2 = some 3 ∧ zbS prog 208 2 = some 6 ∧ zb1 prog 208 3 = some 4 ∧ zbS prog 208 3 = some 7 := by and_intros <;> kernel_rfl
@[go_sem] theorem t_211 : tk prog 211 = .str ∧ tsz prog 211 = some 9 ∧ tby prog 211 = some 136 ∧ tz prog 211 = some [(.v (.int .i64 0)), (.v (.slice .none 0 0)), (.v (.slice .none 0 0)), (.v (.slice .none 0 0)), (.v (.int .i64 0)), (.v (.bool false)), (.v (.slice .none 0 0)), (.v (.int .i64 0)), (.v (.int .i64 0))] ∧ za6 prog 211 = some true ∧ tfi prog 211 = true ∧ zb1 prog 211 0 = some 39 ∧ zbS prog 211 0 = some 0 := by and_intros <;> kernel_rfl
@[go_sem] theorem t_212 : tk prog 212 = .other ∧ tsz prog 212 = some 1 ∧ tby prog 212 = some 8 ∧ tz prog 212 = some [(.v .nilFunc)] ∧ za6 prog 212 = some false := by and_intros <;> kernel_rfl
@[go_sem] theorem t_216 : tk prog 216 = .other ∧ tsz prog 216 = some 1 ∧ tby prog 216 = some 8 ∧ tz prog 216 = some [(.v .nilFunc)] ∧ za6 prog 216 = some false := by and_intros <;> kernel_rfl
@[go_sem] theorem t_224 : tk prog 224 = .int .u64 ∧ tsz prog 224 = some 1 ∧ tby prog 224 = some 8 ∧ tz prog 224 = some [(.v (.int .u64 0))] ∧ za6 prog 224 = some false ∧ tz1 prog 224 = some (.int .u64 0) := by and_intros <;> kernel_rfl
@[go_sem] theorem t_229 : tk prog 229 = .other ∧ tsz prog 229 = some 1 ∧ tby prog 229 = some 8 ∧ tz prog 229 = some [(.v .nilFunc)] ∧ za6 prog 229 = some false := by and_intros <;> kernel_rfl
@[go_sem] theorem t_230 : tk prog 230 = .other ∧ tsz prog 230 = some 1 ∧ tby prog 230 = some 8 ∧ tz prog 230 = some [(.v .nilFunc)] ∧ za6 prog 230 = some false := by and_intros <;> kernel_rfl
@[go_sem] theorem t_257 : tk prog 257 = .other ∧ tsz prog 257 = some 1 ∧ tby prog 257 = some 8 ∧ tz prog 257 = some [(.v .nilFunc)] ∧ za6 prog 257 = some false := by and_intros <;> kernel_rfl
@[go_sem] theorem t_259 : tk prog 259 = .other ∧ tsz prog 259 = some 1 ∧ tby prog 259 = some 8 ∧ tz prog 259 = some [(.v .nilFunc)] ∧ za6 prog 259 = some false := by and_intros <;> kernel_rfl
@[go_sem] theorem t_261 : tk prog 261 = .other ∧ tsz prog 261 = some 1 ∧ tby prog 261 = some 8 ∧ tz prog 261 = some [(.v .nilFunc)] ∧ za6 prog 261 = some false := by and_intros <;> kernel_rfl
@[go_sem] theorem t_266 : tk prog 266 = .other ∧ tsz prog 266 = some 1 ∧ tby prog 266 = some 8 ∧ tz prog 266 = some [(.v .nilFunc)] ∧ za6 prog 266 = some false := by and_intros <;> kernel_rfl
@[go_sem] theorem t_297 : tk prog 297 = .sl 208 ∧ tsz prog 297 = some 1 ∧ tby prog 297 = some 24 ∧ tz prog 297 = some [(.v (.slice .none 0 0))] ∧ za6 prog 297 = some false := by and_intros <;> kernel_rfl
@[go_sem] theorem t_301 : tk prog 301 = .map 4 3 ∧ tsz prog 301 = some 1 ∧ tby prog 301 = some 8 ∧ tz prog 301 = some [(.v (.map .none))] ∧ za6 prog 301 = some false := by and_intros <;> kernel_rfl
@[go_sem] theorem t_303 : tk prog 303 = .int .i64 ∧ tsz prog 303 = some 1 ∧ tby prog 303 = some 8 ∧ tz prog 303 = some [(.v (.int .i64 0))] ∧ za6 prog 303 = some false ∧ tz1 prog 303 = some (.int .i64 0) := by and_intros <;> kernel_rfl
@[go_sem] theorem t_304 : tk prog 304 = .other ∧ tsz prog 304 = some 1 ∧ tby prog 304 = some 0 ∧ za6 prog 304 = some false := by and_intros <;> kernel_rfl
@[go_sem] theorem t_310 : tk prog 310 = .int .u32 ∧ tsz prog 310 = some 1 ∧ tby prog 310 = some 4 ∧ tz prog 310 = some [(.v (.int .u32 0))] ∧ za6 prog 310 = some false ∧ tz1 prog 310 = some (.int .u32 0) := by and_intros <;> kernel_rfl
@[go_sem] theorem t_312 : tk prog 312 = .int .u64 ∧ tsz prog 312 = some 1 ∧ tby prog 312 = some 8 ∧ tz prog 312 = some [(.v (.int .u64 0))] ∧ za6 prog 312 = some false ∧ tz1 prog 312 = some (.int .u64 0) := by and_intros <;> kernel_rfl
@[go_sem] theorem t_314 : tk prog 314 = .other ∧ tsz prog 314 = some 1 ∧ tby prog 314 = some 8 ∧ tz prog 314 = some [(.v .nilFunc)] ∧ za6 prog 314 = some false := by and_intros <;> kernel_rfl
@[go_sem] theorem t_327 : tk prog 327 = .other ∧ tsz prog 327 = some 1 ∧ tby prog 327 = some 8 ∧ tz prog 327 = some [(.v .nilFunc)] ∧ za6 prog 327 = some false := by and_intros <;> kernel_rfl
@[go_sem] theorem t_329 : tk prog 329 = .arr 11 327 ∧ tsz prog 329 = some 11 ∧ tby prog 329 = some 88 ∧ tz prog 329 = some [(.v .nilFunc), (.v .nilFunc), (.v .nilFunc), (.v .nilFunc), (.v .nilFunc), (.v .nilFunc), (.v .nilFunc), (.v .nilFunc), (.v .nilFunc), (.v .nilFunc), (.v .nilFunc)] ∧ za6 prog 329 = some true := by and_intros <;> kernel_rfl
@[go_sem] theorem t_337 : tk prog 337 = .int .u64 ∧ tsz prog 337 = some 1 ∧ tby prog 337 = some 8 ∧ tz prog 337 = some [(.v (.int .u64 0))] ∧ za6 prog 337 = some false ∧ tz1 prog 337 = some (.int .u64 0) := by and_intros <;> kernel_rfl
@[go_sem] theorem t_341 : tk prog 341 = .ptr 3 ∧ tsz prog 341 = some 1 ∧ tby prog 341 = some 8 ∧ tz prog 341 = some [(.v (.pointer .none))] ∧ za6 prog 341 = some false := by and_intros <;> kernel_rfl
@[go_sem] theorem t_343 : tk prog 343 = .sl 140 ∧ tsz prog 343 = some 1 ∧ tby prog 343 = some 24 ∧ tz prog 343 = some [(.v (.slice .none 0 0))] ∧ za6 prog 343 = some false := by and_intros <;> kernel_rfl
@[go_sem] theorem t_345 : tk prog 345 = .other ∧ tsz prog 345 = some 1 ∧ tby prog 345 = some 8 ∧ tz prog 345 = some [(.v .nilFunc)] ∧ za6 prog 345 = some false := by and_intros <;> kernel_rfl
@[go_sem] theorem t_346 : tk prog 346 = .other ∧ tsz prog 346 = some 1 ∧ tby prog 346 = some 8 ∧ tz prog 346 = some [(.v .nilFunc)] ∧ za6 prog 346 = some false := by and_intros <;> kernel_rfl
@[go_sem] theorem t_362 : tk prog 362 = .ptr 337 ∧ tsz prog 362 = some 1 ∧ tby prog 362 = some 8 ∧ tz prog 362 = some [(.v (.pointer .none))] ∧ za6 prog 362 = some false := by and_intros <;> kernel_rfl
@[go_sem] theorem t_380 : tk prog 380 = .arr 24 5 ∧ tsz prog 380 = some 24 ∧ tby prog 380 = some 24 ∧ tz prog 380 = some [(.v (.int .u8 0)), (.v (.int .u8 0)), (.v (.int .u8 0)), (.v (.int .u8 0)), (.v (.int .u8 0)), (.v (.int .u8 0)), (.v (.int .u8 0)), (.v (.int .u8 0)), (.v (.int .u8 0)), (.v (.int .u8 0)), (.v (.int .u8 0)), (.v (.int .u8 0)), (.v (.int .u8 0)), (.v (.int .u8 0)), (.v (.int .u8 0)), (.v (.int .u8 0)), (.v (.int .u8 0)), (.v (.int .u8 0)), (.v (.int .u8 0)), (.v (.int .u8 0)), (.v (.int .u8 0)), (.v (.int .u8 0)), (.v (.int .u8 0)), (.v (.int .u8 0))] ∧ za6 prog 380 = some true := by and_intros <;> kernel_rfl
@[go_sem] theorem t_382 : tk prog 382 = .other ∧ tsz prog 382 = some 1 ∧ tby prog 382 = some 0 ∧ za6 prog 382 = some false := by and_intros <;> kernel_rfl
@[go_sem] theorem t_394 : tk prog 394 = .arr 0 16 ∧ tsz prog 394 = some 0 ∧ tby prog 394 = some 0 ∧ tz prog 394 = some [] ∧ za6 prog 394 = some true := by and_intros <;> kernel_rfl
@[go_sem] theorem t_396 : tk prog 396 = .str ∧ tsz prog 396 = some 0 ∧ tby prog 396 = some 0 ∧ tz prog 396 = some [] ∧ za6 prog 396 = some true ∧ tfi prog 396 = true ∧ zb1 prog 396 0 = some 394 ∧ zbS prog 396 0 = .none := by and_intros <;> kernel_rfl
end Go.Av
end
section
open Go Go.Proofs
namespace Go.Av
def zcf (n : Int) : List AV := [.v (.int .i64 n)]
def zar (l : List Int) : AV := .lst 1 (l.map zcf)
def zbX (l : List (List Int)) : AV := .lst 1 (l.map fun l => [zar l])
structure zfc where
 name : ByteArray
 progs : List (List (Int × Int))
 keep : Bool
 deriving Inhabited
structure zae where
 cells : Int
 next : List (List Int)
 turn : List Int
 kinds : List zfc
 rights : Int
 must : Bool
 clauses : List (Int × Int × Int × Int)
 blocked : Int
 endless : Int
structure zag where
 at_ : List Int
 h0 : List Int
 h1 : List Int
 rights : Int
 side : Int
 deriving DecidableEq
def zaM (s : Int × Int) : List AV := [.v (.int .i64 s.1), .v (.int .i64 s.2)]
def zaU (k : zfc) : List AV := [.v (.string k.name), .lst 1 (k.progs.map fun p => [.lst 2 (p.map zaM)]), .v (.bool k.keep)]
def zaR (c : Int × Int × Int × Int) : List AV := [.v (.int .i64 c.1), .v (.int .i64 c.2.1), .v (.int .i64 c.2.2.1), .v (.int .i64 c.2.2.2)]
def zu2 (cells : Int) (next : List (List Int)) (turn : List Int) : List AV := [.v (.int .i64 cells), zbX next, zar turn]
def zaf (g : zae) : List AV := [.v (.int .i64 g.cells), zbX g.next, zar g.turn, .lst 3 (g.kinds.map zaU), .v (.int .i64 g.rights), .v (.bool g.must), .lst 4 (g.clauses.map zaR), .v (.int .i64 g.blocked), .v (.int .i64 g.endless)]
def zad (p : zag) : List AV := [zar p.at_, zar p.h0, zar p.h1, .v (.int .i64 p.rights), .v (.int .i64 p.side)]
attribute [go_sem] zcf zar zbX zaM zaU zaR zu2 zaf zad
def zeh (l : List Int) : Prop := l.length ≤ 1099511627776
theorem zuA {n : Nat} {l : List Int} : (∀ r ∈ l.map zcf, ∀ c ∈ r, Bel n c) = True := by
 refine eq_true ?_
 intro r hr c hc
 obtain ⟨x, _, rfl⟩ := List.mem_map.1 hr
 simp only [zcf, List.mem_singleton] at hc
 subst hc; exact .v _
theorem zoI {n : Nat} {l : List Int} : Bel n (.lst 1 (l.map zcf)) = True := by rw [zbG, zuA]
attribute [go_sem high] zoI

def za0 (a b : Int) : Int := if a < b then -1 else if b < a then 1 else 0
theorem zd4 (a b : Int) : zaS Tryz.prog 155 [.v (.int .i64 a), .v (.int .i64 b)] (.v (.int .i64 (za0 a b))) := by
 refine pF Tryz.func155 ?_
 simp [go_sem]
 refine zxN (fun h => ?_) (fun h => ?_)
 ·simp at h
  simp [go_sem, za0, h]
 ·simp at h
  simp [go_sem]
  refine zxN (fun h2 => ?_) (fun h2 => ?_)
  ·simp at h2
   simp [go_sem, za0, h2, show ¬ a < b by omega]
  ·simp at h2
   simp [go_sem, za0, show ¬ b < a by omega, show ¬ a < b by omega]
def zdC : List Int → List Int → Int
 | x :: a, y :: b => if x = y then zdC a b else za0 x y
 | a, b => za0 a.length b.length
theorem zfC (b : List Int) : zdC [] b = za0 0 b.length := by cases b <;> rfl
theorem ze3 (a : List Int) : zdC a [] = za0 a.length 0 := by cases a <;> rfl
theorem zh2 (a b : List Int) (ha : zeh a) (hb : zeh b) : zaS Tryz.prog 154 [zar a, zar b] (.v (.int .i64 (zdC a b))) := by
 refine pF Tryz.func154 ?_
 unfold zeh at ha hb
 simp [go_sem]
 refine zxL (zxP (α := Nat) (fun j => ⟨[(0, zar a), (1, zar b), (5, .v (.int .i64 j))], [], 0⟩)
  (fun d j => j + d = a.length ∧ j ≤ b.length ∧ zdC a b = zdC (a.drop j) (b.drop j)) ?_ a.length 0 ?_) ?_ ?_
 ·rintro d j ⟨i1, i2, i3⟩ hrec
  simp [go_sem]
  refine zxN (fun hj => ?_) (fun hj => ?_)
  ·simp at hj
   obtain ⟨hj1, hj2⟩ := hj
   have hd1 : a.drop j = nth a j :: a.drop (j + 1) := by rw [List.drop_eq_getElem_cons hj1, zaB _ _ hj1]
   have hd2 : b.drop j = nth b j :: b.drop (j + 1) := by rw [List.drop_eq_getElem_cons hj2, zaB _ _ hj2]
   rw [hd1, hd2, zdC] at i3
   simp [go_sem]
   try ((with_reducible refine wZ ?_); (try simp [go_sem]))
   refine zyc hj1 fun _ => ?_
   simp [go_sem, hj1]
   try ((with_reducible refine wZ ?_); (try simp [go_sem]))
   refine zyc hj2 fun _ => ?_
   simp [go_sem, hj2]
   try ((with_reducible refine wZ ?_); (try simp [go_sem]))
   refine zlb.mk (by kernel_rfl) ?_
   simp [go_sem]
   refine zxN (fun he => ?_) (fun he => ?_)
   ·simp at he
    rw [if_neg he] at i3
    simp [go_sem]
    try ((with_reducible refine wZ ?_); (try simp [go_sem]))
    refine zyc hj1 fun _ => ?_
    simp [go_sem, hj1]
    try ((with_reducible refine wZ ?_); (try simp [go_sem]))
    refine zyc hj2 fun _ => ?_
    simp [go_sem, hj2]
    try ((with_reducible refine wZ ?_); (try simp [go_sem]))
    refine zxO (zd4 _ _) (by simp [go_sem]) ?_
    simp [go_sem]
    try ((with_reducible refine wZ ?_); (try simp [go_sem]))
    refine zlb.mk (by kernel_rfl) ?_
    simp [go_sem, i3]
   ·simp at he
    rw [if_pos he] at i3
    simp [go_sem]
    refine zx8 (by omega) fun _ => ?_
    simp [go_sem]
    refine zxL (hrec (d - 1) (by omega) (j + 1) ⟨by omega, by omega, i3⟩) ?_ (by simp)
    simp [go_sem, zah]
  ·simp at hj
   simp [go_sem]
   refine zxM (zd4 _ _) (by simp [go_sem]) ?_
   have : za0 a.length b.length = zdC a b := by
    rw [i3]
    rcases Nat.lt_or_ge j a.length with h | h
    ·have hb' := hj h
     rw [List.drop_eq_nil_of_le hb', ze3]
     simp only [za0, List.length_drop]
     split <;> split <;> (try split) <;> (try split) <;> omega
    ·rw [List.drop_eq_nil_of_le h, zfC]
     simp only [za0, List.length_drop]
     split <;> split <;> (try split) <;> (try split) <;> omega
   simp [go_sem, this]
 ·simp
 ·simp [go_sem, zah]
 ·simp
theorem zfE {l : List Int} {j : Nat} (h : j < l.length) : l.drop j = nth l j :: l.drop (j + 1) := by rw [List.drop_eq_getElem_cons h, zaB _ _ h]
def za3 (p : zag) : Prop := zeh p.at_ ∧ zeh p.h0 ∧ zeh p.h1
def zbw (p q : zag) : Int :=
 if zdC p.at_ q.at_ ≠ 0 then zdC p.at_ q.at_ else if zdC p.h0 q.h0 ≠ 0 then zdC p.h0 q.h0 else if zdC p.h1 q.h1 ≠ 0 then zdC p.h1 q.h1 else if za0 p.rights q.rights ≠ 0 then za0 p.rights q.rights else za0 p.side q.side
theorem zgz (a b : zag) (ha : za3 a) (hb : za3 b) : zaS Tryz.prog 102 [.agg (zad a), .agg (zad b)] (.v (.int .i64 (zbw a b))) := by
 refine pF Tryz.func102 ?_
 obtain ⟨a1, a2, a3⟩ := ha
 obtain ⟨b1, b2, b3⟩ := hb
 simp [go_sem]
 try ((with_reducible refine wZ ?_); (try simp [go_sem]))
 refine zxO (zh2 _ _ a1 b1) (by simp [go_sem]) ?_
 simp [go_sem]
 try ((with_reducible refine wZ ?_); (try simp [go_sem]))
 refine zxO (zh2 _ _ a2 b2) (by simp [go_sem]) ?_
 simp [go_sem]
 try ((with_reducible refine wZ ?_); (try simp [go_sem]))
 refine zxO (zh2 _ _ a3 b3) (by simp [go_sem]) ?_
 simp [go_sem]
 try ((with_reducible refine wZ ?_); (try simp [go_sem]))
 refine zxO (zd4 _ _) (by simp [go_sem]) ?_
 simp [go_sem]
 try ((with_reducible refine wZ ?_); (try simp [go_sem]))
 refine zxO (zd4 _ _) (by simp [go_sem]) ?_
 simp [go_sem]
 try ((with_reducible refine wZ ?_); (try simp [go_sem]))
 refine zlb.mk (by kernel_rfl) ?_
 simp [go_sem]
 generalize e1 : zdC a.at_ b.at_ = x1
 generalize e2 : zdC a.h0 b.h0 = x2
 generalize e3 : zdC a.h1 b.h1 = x3
 generalize e4 : za0 a.rights b.rights = x4
 generalize e5 : za0 a.side b.side = x5
 unfold zbw
 rw [e1, e2, e3, e4, e5]
 refine zxS ?_
 simp [go_sem]
 refine zxN (fun h1 => ?_) (fun h1 => ?_) <;> simp at h1 <;> simp [go_sem, h1]
 refine zxS ?_
 simp [go_sem]
 refine zxN (fun h2 => ?_) (fun h2 => ?_) <;> simp at h2 <;> simp [go_sem, h1, h2]
 refine zxS ?_
 simp [go_sem]
 refine zxN (fun h3 => ?_) (fun h3 => ?_) <;> simp at h3 <;> simp [go_sem, h1, h2, h3]
 refine zxS ?_
 simp [go_sem]
 refine zxN (fun h4 => ?_) (fun h4 => ?_) <;> simp at h4 <;> simp [go_sem, h1, h2, h3, h4]
 refine zxS ?_
 simp [go_sem]
 refine zxN (fun h5 => ?_) (fun h5 => ?_) <;> simp at h5 <;> simp [go_sem, h1, h2, h3, h4, h5]
 refine zxS ?_
 simp [go_sem]
def zo1 (n : Nat) (p : zag) : AV := .agg [.sl (n + 2) 1 1 0 p.at_.length, .sl (n + 3) 1 1 0 p.h0.length, .sl (n + 8) 1 1 0 p.h1.length, .v (.int .i64 p.rights), .v (.int .i64 p.side)]
def zkX (n : Nat) (p : zag) : List (Nat × zbd) := [(n + 2, .rows true 1 1 (p.at_.map zcf)), (n + 3, .rows true 1 1 (p.h0.map zcf)), (n + 8, .rows true 1 1 (p.h1.map zcf))]
attribute [go_sem] zo1 zkX
theorem zc0 (l : List Int) (hl : zeh l) : zgB Tryz.prog 124 [zar l] (fun n => .sl n 1 1 0 l.length) (fun n => [(n, .rows true 1 1 (l.map zcf))]) 1 := by
 refine ⟨zyb (fun hne => zxR (by kernel_rfl) Tryz.func124 rfl rfl (Nat.le_of_ble_eq_true rfl) (by kernel_rfl) ?_)
  (fun he A c => zxR (by kernel_rfl) Tryz.func124 rfl rfl (Nat.le_of_ble_eq_true rfl) (by kernel_rfl) ?_), fun n => ⟨?_, ?_⟩⟩
 ·unfold zeh at hl
  obtain ⟨x, l, rfl⟩ := List.exists_cons_of_ne_nil (show l ≠ [] by intro h; subst h; exact hne rfl)
  simp only [List.length_cons] at hl
  simp [go_sem]
  refine zx8 (by omega) fun _ => ?_
  simp [go_sem, zah]
 ·obtain rfl : l = [] := by simpa using he
  simp [go_sem]
  refine zxN (fun h => ?_) (fun h => ?_)
  ·simp at h
   subst h
   simp [go_sem, zah]
  ·simp [go_sem, zah]
 ·simp [go_sem]
 ·simp [go_sem]
def idxOf (p : Int → Bool) (l : List Int) : Int := match l.findIdx? p with | some i => (i : Int) | none => -1
theorem zvc {p : Int → Bool} {l : List Int} {j : Nat} (hj : j < l.length) (h : ∀ i, i < j → p (nth l i) = false) (hp : p (nth l j) = true) : idxOf p l = j := by
 have : l.findIdx? p = some j := by
  rw [List.findIdx?_eq_some_iff_getElem]
  refine ⟨hj, by rw [← zaB _ _ hj]; exact hp, fun i hi => ?_⟩
  have := h i hi
  rw [zaB _ _ (by omega)] at this
  simp [this]
 simp [idxOf, this]
theorem zqu {p : Int → Bool} {l : List Int} (h : ∀ i, i < l.length → p (nth l i) = false) : idxOf p l = -1 := by
 have : l.findIdx? p = none := by
  rw [List.findIdx?_eq_none_iff]
  intro x hx
  obtain ⟨i, hi, rfl⟩ := List.getElem_of_mem hx
  have := h i hi
  rw [zaB _ _ hi] at this
  exact this
 simp [idxOf, this]
theorem zsP {p : Int → Bool} {l : List Int} : decide (0 ≤ idxOf p l) = l.any p := by
 unfold idxOf
 cases h : l.findIdx? p with
 | none =>
  rw [List.findIdx?_eq_none_iff] at h
  simp
  simpa using h
 | some i =>
  have := List.findIdx?_isSome (xs := l) (p := p)
  rw [h] at this
  simp at this ⊢
  exact this
theorem ziF (l : List Int) (hl : zeh l) (f : FuncId) (first caps : List AV) (p : Int → Bool) (hp : ∀ x ∈ l, zaS Tryz.prog f (first ++ .v (.int .i64 x) :: caps) (.v (.bool (p x)))) (hb : ∀ c ∈ first, Bel 0 c) (hb' : ∀ c ∈ caps, Bel 0 c) :
  zaS Tryz.prog 191 [zar l, .fn (.func f) first caps] (.v (.int .i64 (idxOf p l))) := by
 refine pF Tryz.func191 ?_
 unfold zeh at hl
 simp [go_sem]
 refine zxL (zxP (α := Nat) (fun j => ⟨[(0, zar l), (1, .fn (.func f) first caps), (7, .v (.int .i64 l.length)), (8, .v (.int .i64 j))], [], 0⟩)
  (fun d j => j + d = l.length ∧ (∀ i < j, p (nth l i) = false)) ?_ l.length 0 ?_) ?_ ?_
 ·rintro d j ⟨i1, i2⟩ hrec
  simp [go_sem]
  refine zxN (fun hj => ?_) (fun hj => ?_)
  ·simp at hj
   simp [go_sem]
   refine zx8 hj fun _ => ?_
   simp [go_sem, hj]
   refine zxM (hp _ (zaj hj)) (fun c hc => by
    rcases List.mem_append.1 hc with h | h
    ·exact hb c h
    ·rcases List.mem_cons.1 h with rfl | h
     ·exact .v _
     ·exact hb' c h) ?_
   simp [go_sem]
   refine zxN (fun h => ?_) (fun h => ?_)
   ·simp [go_sem, zvc hj i2 h]
   ·simp [go_sem]
    refine zx8 (by omega) fun _ => ?_
    simp [go_sem]
    refine zxL (hrec (d - 1) (by omega) (j + 1) ⟨by omega, fun i hi => ?_⟩) ?_ (by simp)
    ·rcases Nat.lt_or_ge i j with h' | h'
     ·exact i2 i h'
     ·obtain rfl : i = j := by omega
      exact h
    ·simp [go_sem, zah]
     exact ⟨hb, hb'⟩
  ·simp at hj
   simp [go_sem, zqu fun i hi => i2 i (by omega)]
 ·simp
 ·simp [go_sem, zah]
  exact ⟨hb, hb'⟩
 ·simp
theorem zf1 (l : List Int) (hl : zeh l) (f : FuncId) (first caps : List AV) (p : Int → Bool) (hp : ∀ x ∈ l, zaS Tryz.prog f (first ++ .v (.int .i64 x) :: caps) (.v (.bool (p x)))) (hb : ∀ c ∈ first, Bel 0 c) (hb' : ∀ c ∈ caps, Bel 0 c) :
  zaS Tryz.prog 136 [zar l, .fn (.func f) first caps] (.v (.bool (l.any p))) := by
 refine pF Tryz.func136 ?_
 simp [go_sem]
 refine zxM (ziF l hl f first caps p hp hb hb') (by simp [go_sem]; exact ⟨hb, hb'⟩) ?_
 simp [go_sem, zsP]
theorem zfA {n : Nat} {α : Type} {f : α → List AV} {l : List α} {sz : Nat} (h : ∀ x, ∀ c ∈ f x, Bel n c) : Bel n (.lst sz (l.map f)) := by
 refine .lst fun r hr c hc => ?_
 obtain ⟨x, _, rfl⟩ := List.mem_map.1 hr
 exact h x c hc
theorem zr9 {n : Nat} {l : List zfc} : Bel n (.lst 3 (l.map zaU)) = True := eq_true (zfA fun k c hc => by
 simp only [zaU, List.mem_cons, List.mem_nil_iff, or_false] at hc
 rcases hc with rfl | rfl | rfl
 ·exact .v _
 ·refine zfA fun p c hc => ?_
  simp only [List.mem_cons, List.mem_nil_iff, or_false] at hc
  subst hc
  exact zfA fun s c hc => by
   simp only [zaM, List.mem_cons, List.mem_nil_iff, or_false] at hc
   rcases hc with rfl | rfl <;> exact .v _
 ·exact .v _)
theorem znK {n : Nat} {l : List (Int × Int × Int × Int)} : Bel n (.lst 4 (l.map zaR)) = True := eq_true (zfA fun k c hc => by
 simp only [zaR, List.mem_cons, List.mem_nil_iff, or_false] at hc
 rcases hc with rfl | rfl | rfl | rfl <;> exact .v _)
theorem zwM {n : Nat} {l : List (List Int)} : Bel n (.lst 1 (l.map fun l => [.lst 1 (l.map zcf)])) = True := eq_true (zfA fun k c hc => by
 simp only [List.mem_cons, List.mem_nil_iff, or_false] at hc
 subst hc
 exact of_eq_true zoI)
attribute [go_sem high] zr9 znK zwM
def zjk (g : zae) (x : Int) : Bool := decide (0 ≤ x) && decide (x ≤ 2 * g.kinds.length)
def zf2 (g : zae) : Prop := g.kinds.length ≤ 1000000
theorem zlP (g : zae) (hg : zf2 g) (x : Int) : zaS Tryz.prog 134 [.agg (zaf g), .v (.int .i64 x)] (.v (.bool (zjk g x))) := by
 refine pF Tryz.func134 ?_
 unfold zf2 at hg
 simp [go_sem]
 refine zx8 (by omega) fun _ => ?_
 simp [go_sem, zjk]
theorem zh8 (g : zae) (hg : zf2 g) (x : Int) : zaS Tryz.prog 135 [.v (.int .i64 x), .fp [.fn (.func 134) [.agg (zaf g)] []]] (.v (.bool !zjk g x)) := by
 refine pF Tryz.func135 ?_
 simp [go_sem]
 refine zxM (zlP g hg x) (by simp [go_sem]) ?_
 simp [go_sem]
def zbL : List Int → List zfc → Bool
 | x :: l, k :: ks => decide (0 ≤ x) && decide (x ≤ 8) && (!decide (0 < x) || k.keep) && zbL l ks
 | _, _ => true
def zda (g : zae) (l : List Int) : Bool := decide (l.length = g.kinds.length) && zbL l g.kinds
theorem zmm (g : zae) (hg : zf2 g) (l : List Int) (hl : zeh l) : zaS Tryz.prog 137 [.agg (zaf g), zar l] (.v (.bool (zda g l))) := by
 refine pF Tryz.func137 ?_
 unfold zf2 at hg
 unfold zeh at hl
 simp [go_sem]
 refine zxN (fun hn => ?_) (fun hn => ?_)
 ·simp at hn
  have hn' : l.length ≠ g.kinds.length := by omega
  simp [go_sem, zda, hn']
 ·simp at hn
  have hn' : l.length = g.kinds.length := by omega
  simp [go_sem]
  have hk : zda g l = zbL l g.kinds := by simp [zda, hn']
  rw [hk]
  refine zxL (zxP (α := Nat) (fun j => ⟨[(2, .ref 0 0 9 0 0), (14, zar l), (15, .v (.int .i64 l.length)), (16, .v (.int .i64 j))], [(0, .rows true 0 9 [zaf g])], 1⟩)
   (fun d j => j + d = l.length ∧ zbL l g.kinds = zbL (l.drop j) (g.kinds.drop j)) ?_ l.length 0 ?_) ?_ ?_
  ·rintro d j ⟨i1, i2⟩ hrec
   simp [go_sem]
   refine zxN (fun hj => ?_) (fun hj => ?_)
   ·simp at hj
    have hj2 : j < g.kinds.length := by omega
    rw [zfE hj, show g.kinds.drop j = nth g.kinds j :: g.kinds.drop (j + 1) by rw [List.drop_eq_getElem_cons hj2, zaB _ _ hj2], zbL] at i2
    simp [go_sem]
    refine zx8 hj fun _ => ?_
    simp [go_sem, hj]
    refine zx8 (by intros; omega) fun _ => ?_
    simp [go_sem, hj2]
    refine zx8 (by intros; omega) fun _ => ?_
    simp [go_sem]
    refine zxN (fun hb => ?_) (fun hb => ?_)
    ·have : zbL l g.kinds = false := by
      rw [i2]; generalize nth l j = x at *; generalize (nth g.kinds j).keep = y at *
      cases y <;> simp at hb ⊢ <;> omega
     simp [go_sem, this]
    ·have : zbL l g.kinds = zbL (List.drop (j + 1) l) (List.drop (j + 1) g.kinds) := by
      rw [i2]; generalize nth l j = x at *; generalize (nth g.kinds j).keep = y at *
      cases y <;> simp at hb ⊢ <;> omega
     simp [go_sem]
     refine zx8 (by omega) fun _ => ?_
     simp [go_sem]
     refine zxL (hrec (d - 1) (by omega) (j + 1) ⟨by omega, this⟩) ?_ (by simp)
     simp [go_sem, zah]
   ·simp at hj
    rw [List.drop_eq_nil_of_le hj] at i2
    have : zbL l g.kinds = true := by rw [i2]; rfl
    simp [go_sem, this]
  ·simp
  ·simp [go_sem, zah]
  ·simp
end Go.Av
end
