/- Texts of ours, part 6: our library and contracts of functions. -/
import Derived.Test.YtkahkcakggflaaaGreatDoorB05
import Derived.Test.YtkahkcakggflaaaGreatDoorProg
set_option linter.unusedSimpArgs false
set_option linter.unusedVariables false
set_option maxRecDepth 100000
set_option maxHeartbeats 40000000
section
/- Our library, part 13: equations by which code is evaluated. -/
namespace Go.Av
open Go

section
variable {P : Program} {n0 : Nat} {Q : zb0} {e : Env} {h : zav} {n : Nat} {ops rest : List Oper}
def VC (a b : Prop) : Prop := a ∧ b
theorem zxH {b : Prop} : VC False b = False := by simp [VC]
def VQ (a b : Prop) : Prop := a ∧ b
theorem zzY {b : Prop} : VQ True b = b := by simp [VQ]
theorem VQ.mk {a b : Prop} (h1 : a) (h2 : a → b) : VQ a b := ⟨h1, h2 h1⟩
@[congr] theorem VQ_congr {a b c : Prop} (h1 : a = c) : VQ a b = VQ c b := by subst h1; rfl
theorem VC.mk {a b : Prop} (h1 : a) (h2 : a → b) : VC a b := ⟨h1, h2 h1⟩
@[congr] theorem VC_congr {a b c : Prop} (h1 : a = c) : VC a b = VC c b := by subst h1; rfl
def aIf (t : Bool) (a b : Prop) : Prop := (t = true → a) ∧ (t = false → b)
theorem aIf.mk {t : Bool} {a b : Prop} (h1 : t = true → a) (h2 : t = false → b) : aIf t a b := ⟨h1, h2⟩
theorem zm9 (vs : List AV) (i : Nat) : zfD (.tup vs) i = Res.if (i < vs.length) (cel vs i) := rfl
@[congr] theorem aIf_congr {t t' : Bool} {a b : Prop} (h : t = t') : aIf t a b = aIf t' a b := by subst h; rfl
@[congr] theorem upd_congr {α : Type} {f : Nat → α} {k : Nat} {x : α} {j j' : Nat} (h : j = j') : upd f k x j = upd f k x j' := by subst h; rfl
theorem zaw {α : Type} [Inhabited α] (x : α) (l : List α) : nth (x :: l) 0 = x := rfl
theorem zje {α : Type} [Inhabited α] (x : α) (l : List α) (k : Nat) : nth (x :: l) (k + 1) = nth l k := by simp [nth]
theorem zyi (x : AV) (l : List AV) : cel (x :: l) 0 = x := rfl
theorem zyh (x : AV) (l : List AV) (k : Nat) : cel (x :: l) (k + 1) = cel l k := by simp [cel]
theorem zbg {α β : Type} [Inhabited α] [Inhabited β] (f : α → β) (l : List α) (i : Nat) (h : i < l.length) : nth (l.map f) i = f (nth l i) := by simp [nth, h]
theorem zAr {α : Type} [Inhabited α] (f : α → AV) (l : List α) (i : Nat) (h : i < l.length) : cel (l.map f) i = f (nth l i) := by simp [nth, cel, h]
theorem zaJ {α : Type} [Inhabited α] (l : List α) (i : Nat) (h : i < l.length) : nth l i = l[i] := by simp [nth, h]
theorem zan {α : Type} [Inhabited α] {l : List α} {i : Nat} (h : i < l.length) : nth l i ∈ l := by rw [zaJ l i h]; exact List.getElem_mem _
def zgD (P : Program) (ops : List Oper) (Q : zb0) (rest : List Oper) (e : Env) (h : zav) (n : Nat) : Prop := zbq P ops Q rest e h n
def zzq (P : Program) (n0 : Nat) (c : Code) (Q : zb0) (e : Env) (h : zav) (n : Nat) : Prop := awp P n0 c Q e h n
theorem zzX : VC True (zgD P ops Q rest e h n) = zbq P ops Q rest e h n := by simp [VC, zgD]
theorem zBK {a : Prop} (h1 : a) (h2 : a → zbq P ops Q rest e h n) : VC a (zgD P ops Q rest e h n) := ⟨h1, h2 h1⟩
theorem zuS {a : Code} {y : Prop} : aIf true (zzq P n0 a Q e h n) y = awp P n0 a Q e h n := by simp [aIf, zzq]
theorem zsN {b : Code} {y : Prop} : aIf false y (zzq P n0 b Q e h n) = awp P n0 b Q e h n := by simp [aIf, zzq]
theorem zBo {t : Bool} {a b : Code} (h1 : t = true → awp P n0 a Q e h n) (h2 : t = false → awp P n0 b Q e h n) : aIf t (zzq P n0 a Q e h n) (zzq P n0 b Q e h n) := ⟨h1, h2⟩
def zf2 (P : Program) (ops : List Oper) (Q : zb0) (rest : List Oper) (dst : Option Tmp) (r : Res) (e : Env) (h : zav) (n : Nat) : Prop :=
 VC r.cond (zbq P ops Q rest (put e dst r.val) (zao r.wr h) (n + r.al))
def zgB (P : Program) (ops : List Oper) (Q : zb0) (rest : List Oper) (dst : Option Tmp) (g : Bool) (r : Res) (e : Env) (h : zav) (n : Nat) : Prop :=
 VC (g = true → r.cond) (zbq P ops Q rest (put e dst (.gd g r.val)) (zao (gW g r.wr) h) (n + gN g r.al))
def zp8 (P : Program) (ops : List Oper) (Q : zb0) (rest : List Oper) (dst : Option Tmp) (fv : AV) (args : List AV) (e : Env) (h : zav) (n : Nat) : Prop :=
 zgj P fv args h n (fun r h' n' => zbq P ops Q rest (put e dst r) h' n') ∨ ziZ e fv args h n (fun e' r h' => zbq P ops Q rest (put e' dst r) h' n)
def zsO (P : Program) (ops : List Oper) (Q : zb0) (rest : List Oper) (dst : Option Tmp) (l : Nat) (args : List AV) (e : Env) (h : zav) (n : Nat) : Prop :=
 ziZ e (.fn (.yield l) [] []) args h n (fun e' r h' => zbq P ops Q rest (put e' dst r) h' n)
theorem zuB {e : Env} {f : FuncId} {a b args : List AV} {h : zav} {n : Nat} {K : Env → AV → zav → Prop} : ¬ ziZ e (.fn (.func f) a b) args h n K := by
 rintro ⟨l, more, rows, h1, _⟩; cases h1
def zgi (P : Program) (ops : List Oper) (Q : zb0) (rest : List Oper) (dst : Option Tmp) (op : Op) (g : Option Bool) (e : Env) (h : zav) (n : Nat) : Prop :=
 match g with
 | none => False
 | some g => VQ (∀ t ∈ gT op, okG g (e t)) (zgB P ops Q rest dst g (aev P n op (gE op e) h) e h n)

theorem zx2 : awp P n0 .skip Q e h n = Q .normal e h n := rfl
theorem zvj (l : Nat) : awp P n0 (.label l) Q e h n = Q .normal e h n := rfl
theorem zti (id : Nat) (ops : List Oper) : awp P n0 (.region id ops.toArray false) Q e h n = zbq P ops Q ops e h n := rfl
theorem zAa (a b : Code) : awp P n0 (.seq a b) Q e h n = awp P n0 a (zuD (awp P n0 b Q) Q) e h n := rfl
def zxJ (P : Program) (n0 : Nat) (a b : Code) (Q : zb0) (x : AV) (e : Env) (h : zav) (n : Nat) : Prop := match x with
 | .v (.bool t) => (t = true → awp P n0 a Q e h n) ∧ (t = false → awp P n0 b Q e h n)
 | _ => False
theorem zxX (c : Operand) (a b : Code) : awp P n0 (.cond c a b) Q e h n = zxJ P n0 a b Q (ev e c) e h n := rfl
theorem zsM (a b : Code) (t : Bool) : zxJ P n0 a b Q (.v (.bool t)) e h n = aIf t (zzq P n0 a Q e h n) (zzq P n0 b Q e h n) := rfl
theorem zvk (b : Code) : awp P n0 (.scope b) Q e h n = awp P n0 b (zg2 Q) e h n := rfl
theorem zvi (id : Nat) (b : Code) : awp P n0 (.block id b) Q e h n = awp P n0 b (zfs id Q) e h n := rfl
theorem zx0 (b : Code) : awp P n0 (.loop b) Q e h n = zac n0 (awp P n0 b) Q e h n := rfl
theorem zxZ (id : Nat) : awp P n0 (.exit id) Q e h n = Q (.exit id) e h n := rfl
theorem zz9 : awp P n0 .ret Q e h n = Q .ret e h n := rfl
theorem zpT (K : Env → zav → Nat → Prop) : zuD K Q .normal e h n = K e h n := rfl
theorem zuL (K : Env → zav → Nat → Prop) (id : Nat) : zuD K Q (.exit id) e h n = Q (.exit id) e h n := rfl
theorem zxB (K : Env → zav → Nat → Prop) : zuD K Q .ret e h n = Q .ret e h n := rfl
theorem zmD : zg2 Q .normal e h n = Q .normal e h n := rfl
theorem zpR (id : Nat) : zg2 Q (.exit id) e h n = Q (.exit id) e h n := rfl
theorem zsF : zg2 Q .ret e h n = Q .ret e h n := rfl
theorem zmB (id : Nat) : zfs id Q .normal e h n = Q .normal e h n := rfl
theorem zpN (id id' : Nat) : zfs id Q (.exit id') e h n = if id' = id then Q .normal e h n else Q (.exit id') e h n := rfl
theorem zsC (id : Nat) : zfs id Q .ret e h n = Q .ret e h n := rfl
theorem zxD (rs : List ResultVar) (K : zcS) : RetQ P rs K .ret e h n = VQ (znE P e h rs).1 (K (zzI (znE P e h rs).2) h n) := rfl
theorem zp6 (rs : List ResultVar) (K : zcS) : RetQ P rs K .normal e h n = VQ (znE P e h rs).1 (K (zzI (znE P e h rs).2) h n) := rfl
theorem zxU : zbq P ops Q [] e h n = Q .normal e h n := rfl
theorem zvd {dst : Option Tmp} {f : Operand} {args : Array Operand} {ats : Array TypeId} {ty : TypeId} {pos : String} {after : Array Edge} :
  zbq P ops Q (⟨dst, .call ⟨.value f, args, ats⟩, ty, pos, after, none⟩ :: rest) e h n = zp8 P ops Q rest dst (ev e f) (args.toList.map (ev e)) e h n := rfl
theorem zaV {dst : Option Tmp} {op : Op} {ty : TypeId} {pos : String} {after : Array Edge} {j : Nat} {want : Bool} (hc : zlZ op = false) :
  zbq P ops Q (⟨dst, op, ty, pos, after, some (j, want)⟩ :: rest) e h n = zgi P ops Q rest dst op ((zaK ops j).bind fun t => zaN (e t) want) e h n := by
 unfold zbq zgi zgB
 cases op with
 | call c =>
  obtain ⟨callee, args, ats⟩ := c
  cases callee with
  | value f => simp [zlZ] at hc
  | _ => rfl
 | _ => rfl
theorem zvf {dst : Option Tmp} {ty : TypeId} {pos : String} {after : Array Edge} {x : Operand} : zbq P ops Q (⟨dst, .move x, ty, pos, after, none⟩ :: rest) e h n = zf2 P ops Q rest dst (aev P n (.move x) e h) e h n := rfl
theorem zs6 {dst : Option Tmp} {ty : TypeId} {pos : String} {after : Array Edge} {j : Nat} {want : Bool} {x : Operand} : zbq P ops Q (⟨dst, .move x, ty, pos, after, some (j, want)⟩ :: rest) e h n = zgi P ops Q rest dst (.move x) ((zaK ops j).bind fun t => zaN (e t) want) e h n := zaV rfl
theorem zqr {dst : Option Tmp} {ty : TypeId} {pos : String} {after : Array Edge} {x : Operand} : zbq P ops Q (⟨dst, .assign x, ty, pos, after, none⟩ :: rest) e h n = zf2 P ops Q rest dst (aev P n (.assign x) e h) e h n := rfl
theorem zn8 {dst : Option Tmp} {ty : TypeId} {pos : String} {after : Array Edge} {j : Nat} {want : Bool} {x : Operand} : zbq P ops Q (⟨dst, .assign x, ty, pos, after, some (j, want)⟩ :: rest) e h n = zgi P ops Q rest dst (.assign x) ((zaK ops j).bind fun t => zaN (e t) want) e h n := zaV rfl
theorem zvg {dst : Option Tmp} {ty : TypeId} {pos : String} {after : Array Edge} {c a b : Operand} : zbq P ops Q (⟨dst, .pick c a b, ty, pos, after, none⟩ :: rest) e h n = zf2 P ops Q rest dst (aev P n (.pick c a b) e h) e h n := rfl
theorem zs7 {dst : Option Tmp} {ty : TypeId} {pos : String} {after : Array Edge} {j : Nat} {want : Bool} {c a b : Operand} : zbq P ops Q (⟨dst, .pick c a b, ty, pos, after, some (j, want)⟩ :: rest) e h n = zgi P ops Q rest dst (.pick c a b) ((zaK ops j).bind fun t => zaN (e t) want) e h n := zaV rfl
theorem zs9 {dst : Option Tmp} {ty : TypeId} {pos : String} {after : Array Edge} {t : TypeId} : zbq P ops Q (⟨dst, .alloc t, ty, pos, after, none⟩ :: rest) e h n = zf2 P ops Q rest dst (aev P n (.alloc t) e h) e h n := rfl
theorem zqj {dst : Option Tmp} {ty : TypeId} {pos : String} {after : Array Edge} {j : Nat} {want : Bool} {t : TypeId} : zbq P ops Q (⟨dst, .alloc t, ty, pos, after, some (j, want)⟩ :: rest) e h n = zgi P ops Q rest dst (.alloc t) ((zaK ops j).bind fun t => zaN (e t) want) e h n := zaV rfl
theorem zxT {dst : Option Tmp} {ty : TypeId} {pos : String} {after : Array Edge} {t : TypeId} {x : Operand} : zbq P ops Q (⟨dst, .box t x, ty, pos, after, none⟩ :: rest) e h n = zf2 P ops Q rest dst (aev P n (.box t x) e h) e h n := rfl
theorem zvc {dst : Option Tmp} {ty : TypeId} {pos : String} {after : Array Edge} {j : Nat} {want : Bool} {t : TypeId} {x : Operand} : zbq P ops Q (⟨dst, .box t x, ty, pos, after, some (j, want)⟩ :: rest) e h n = zgi P ops Q rest dst (.box t x) ((zaK ops j).bind fun t => zaN (e t) want) e h n := zaV rfl
theorem ztb {dst : Option Tmp} {ty : TypeId} {pos : String} {after : Array Edge} {t : TypeId} {ps : Array (Nat × Operand)} : zbq P ops Q (⟨dst, .build t ps, ty, pos, after, none⟩ :: rest) e h n = zf2 P ops Q rest dst (aev P n (.build t ps) e h) e h n := rfl
theorem zql {dst : Option Tmp} {ty : TypeId} {pos : String} {after : Array Edge} {j : Nat} {want : Bool} {t : TypeId} {ps : Array (Nat × Operand)} : zbq P ops Q (⟨dst, .build t ps, ty, pos, after, some (j, want)⟩ :: rest) e h n = zgi P ops Q rest dst (.build t ps) ((zaK ops j).bind fun t => zaN (e t) want) e h n := zaV rfl
theorem zjA {dst : Option Tmp} {ty : TypeId} {pos : String} {after : Array Edge} {t : TypeId} {k : Nat} {ps : Array (Nat × Operand)} : zbq P ops Q (⟨dst, .buildSlice t k ps, ty, pos, after, none⟩ :: rest) e h n = zf2 P ops Q rest dst (aev P n (.buildSlice t k ps) e h) e h n := rfl
theorem ziS {dst : Option Tmp} {ty : TypeId} {pos : String} {after : Array Edge} {j : Nat} {want : Bool} {t : TypeId} {k : Nat} {ps : Array (Nat × Operand)} : zbq P ops Q (⟨dst, .buildSlice t k ps, ty, pos, after, some (j, want)⟩ :: rest) e h n = zgi P ops Q rest dst (.buildSlice t k ps) ((zaK ops j).bind fun t => zaN (e t) want) e h n := zaV rfl
theorem zve {dst : Option Tmp} {ty : TypeId} {pos : String} {after : Array Edge} {t : TypeId} {x : Operand} : zbq P ops Q (⟨dst, .load t x, ty, pos, after, none⟩ :: rest) e h n = zf2 P ops Q rest dst (aev P n (.load t x) e h) e h n := rfl
theorem zs5 {dst : Option Tmp} {ty : TypeId} {pos : String} {after : Array Edge} {j : Nat} {want : Bool} {t : TypeId} {x : Operand} : zbq P ops Q (⟨dst, .load t x, ty, pos, after, some (j, want)⟩ :: rest) e h n = zgi P ops Q rest dst (.load t x) ((zaK ops j).bind fun t => zaN (e t) want) e h n := zaV rfl
theorem ztg {dst : Option Tmp} {ty : TypeId} {pos : String} {after : Array Edge} {t : TypeId} {x y : Operand} : zbq P ops Q (⟨dst, .store t x y, ty, pos, after, none⟩ :: rest) e h n = zf2 P ops Q rest dst (aev P n (.store t x y) e h) e h n := rfl
theorem zqq {dst : Option Tmp} {ty : TypeId} {pos : String} {after : Array Edge} {j : Nat} {want : Bool} {t : TypeId} {x y : Operand} : zbq P ops Q (⟨dst, .store t x y, ty, pos, after, some (j, want)⟩ :: rest) e h n = zgi P ops Q rest dst (.store t x y) ((zaK ops j).bind fun t => zaN (e t) want) e h n := zaV rfl
theorem zta {dst : Option Tmp} {ty : TypeId} {pos : String} {after : Array Edge} {o : BinOp} {t : TypeId} {x y : Operand} {t' : TypeId} : zbq P ops Q (⟨dst, .binOp o t x y t', ty, pos, after, none⟩ :: rest) e h n = zf2 P ops Q rest dst (aev P n (.binOp o t x y t') e h) e h n := rfl
theorem zqk {dst : Option Tmp} {ty : TypeId} {pos : String} {after : Array Edge} {j : Nat} {want : Bool} {o : BinOp} {t : TypeId} {x y : Operand} {t' : TypeId} : zbq P ops Q (⟨dst, .binOp o t x y t', ty, pos, after, some (j, want)⟩ :: rest) e h n = zgi P ops Q rest dst (.binOp o t x y t') ((zaK ops j).bind fun t => zaN (e t) want) e h n := zaV rfl
theorem zvh {dst : Option Tmp} {ty : TypeId} {pos : String} {after : Array Edge} {o : UnOp} {t : TypeId} {x : Operand} : zbq P ops Q (⟨dst, .unOp o t x, ty, pos, after, none⟩ :: rest) e h n = zf2 P ops Q rest dst (aev P n (.unOp o t x) e h) e h n := rfl
theorem zmT {dst : Option Tmp} {ty : TypeId} {pos : String} {after : Array Edge} {x : Operand} : zbq P ops Q (⟨dst, .nilCheck x, ty, pos, after, none⟩ :: rest) e h n = zf2 P ops Q rest dst (aev P n (.nilCheck x) e h) e h n := rfl
theorem zs8 {dst : Option Tmp} {ty : TypeId} {pos : String} {after : Array Edge} {j : Nat} {want : Bool} {o : UnOp} {t : TypeId} {x : Operand} : zbq P ops Q (⟨dst, .unOp o t x, ty, pos, after, some (j, want)⟩ :: rest) e h n = zgi P ops Q rest dst (.unOp o t x) ((zaK ops j).bind fun t => zaN (e t) want) e h n := zaV rfl
theorem zlb {dst : Option Tmp} {ty : TypeId} {pos : String} {after : Array Edge} {j : Nat} {want : Bool} {x : Operand} : zbq P ops Q (⟨dst, .nilCheck x, ty, pos, after, some (j, want)⟩ :: rest) e h n = zgi P ops Q rest dst (.nilCheck x) ((zaK ops j).bind fun t => zaN (e t) want) e h n := zaV rfl
theorem zoc {dst : Option Tmp} {ty : TypeId} {pos : String} {after : Array Edge} {s d : TypeId} {x : Operand} : zbq P ops Q (⟨dst, .convert s d x, ty, pos, after, none⟩ :: rest) e h n = zf2 P ops Q rest dst (aev P n (.convert s d x) e h) e h n := rfl
theorem zmP {dst : Option Tmp} {ty : TypeId} {pos : String} {after : Array Edge} {j : Nat} {want : Bool} {s d : TypeId} {x : Operand} : zbq P ops Q (⟨dst, .convert s d x, ty, pos, after, some (j, want)⟩ :: rest) e h n = zgi P ops Q rest dst (.convert s d x) ((zaK ops j).bind fun t => zaN (e t) want) e h n := zaV rfl
theorem zmS {dst : Option Tmp} {ty : TypeId} {pos : String} {after : Array Edge} {f : Fn} {xs ys : Array Operand} : zbq P ops Q (⟨dst, .makeFunc f xs ys, ty, pos, after, none⟩ :: rest) e h n = zf2 P ops Q rest dst (aev P n (.makeFunc f xs ys) e h) e h n := rfl
theorem zla {dst : Option Tmp} {ty : TypeId} {pos : String} {after : Array Edge} {j : Nat} {want : Bool} {f : Fn} {xs ys : Array Operand} : zbq P ops Q (⟨dst, .makeFunc f xs ys, ty, pos, after, some (j, want)⟩ :: rest) e h n = zgi P ops Q rest dst (.makeFunc f xs ys) ((zaK ops j).bind fun t => zaN (e t) want) e h n := zaV rfl
theorem zle {dst : Option Tmp} {ty : TypeId} {pos : String} {after : Array Edge} {t : TypeId} {l c : Operand} : zbq P ops Q (⟨dst, .makeSlice t l c, ty, pos, after, none⟩ :: rest) e h n = zf2 P ops Q rest dst (aev P n (.makeSlice t l c) e h) e h n := rfl
theorem zjy {dst : Option Tmp} {ty : TypeId} {pos : String} {after : Array Edge} {j : Nat} {want : Bool} {t : TypeId} {l c : Operand} : zbq P ops Q (⟨dst, .makeSlice t l c, ty, pos, after, some (j, want)⟩ :: rest) e h n = zgi P ops Q rest dst (.makeSlice t l c) ((zaK ops j).bind fun t => zaN (e t) want) e h n := zaV rfl
theorem ztf {dst : Option Tmp} {ty : TypeId} {pos : String} {after : Array Edge} {t : TypeId} {x : Operand} {lo hi mx : Option Operand} : zbq P ops Q (⟨dst, .slice t x lo hi mx, ty, pos, after, none⟩ :: rest) e h n = zf2 P ops Q rest dst (aev P n (.slice t x lo hi mx) e h) e h n := rfl
theorem zqp {dst : Option Tmp} {ty : TypeId} {pos : String} {after : Array Edge} {j : Nat} {want : Bool} {t : TypeId} {x : Operand} {lo hi mx : Option Operand} : zbq P ops Q (⟨dst, .slice t x lo hi mx, ty, pos, after, some (j, want)⟩ :: rest) e h n = zgi P ops Q rest dst (.slice t x lo hi mx) ((zaK ops j).bind fun t => zaN (e t) want) e h n := zaV rfl
theorem zlc {dst : Option Tmp} {ty : TypeId} {pos : String} {after : Array Edge} {t : TypeId} {x : Operand} {f : Nat} : zbq P ops Q (⟨dst, .fieldAddr t x f, ty, pos, after, none⟩ :: rest) e h n = zf2 P ops Q rest dst (aev P n (.fieldAddr t x f) e h) e h n := rfl
theorem zjw {dst : Option Tmp} {ty : TypeId} {pos : String} {after : Array Edge} {j : Nat} {want : Bool} {t : TypeId} {x : Operand} {f : Nat} : zbq P ops Q (⟨dst, .fieldAddr t x f, ty, pos, after, some (j, want)⟩ :: rest) e h n = zgi P ops Q rest dst (.fieldAddr t x f) ((zaK ops j).bind fun t => zaN (e t) want) e h n := zaV rfl
theorem ztc {dst : Option Tmp} {ty : TypeId} {pos : String} {after : Array Edge} {t : TypeId} {x : Operand} {f : Nat} : zbq P ops Q (⟨dst, .field t x f, ty, pos, after, none⟩ :: rest) e h n = zf2 P ops Q rest dst (aev P n (.field t x f) e h) e h n := rfl
theorem zqm {dst : Option Tmp} {ty : TypeId} {pos : String} {after : Array Edge} {j : Nat} {want : Bool} {t : TypeId} {x : Operand} {f : Nat} : zbq P ops Q (⟨dst, .field t x f, ty, pos, after, some (j, want)⟩ :: rest) e h n = zgi P ops Q rest dst (.field t x f) ((zaK ops j).bind fun t => zaN (e t) want) e h n := zaV rfl
theorem zld {dst : Option Tmp} {ty : TypeId} {pos : String} {after : Array Edge} {t : TypeId} {x i : Operand} : zbq P ops Q (⟨dst, .indexAddr t x i, ty, pos, after, none⟩ :: rest) e h n = zf2 P ops Q rest dst (aev P n (.indexAddr t x i) e h) e h n := rfl
theorem zjx {dst : Option Tmp} {ty : TypeId} {pos : String} {after : Array Edge} {j : Nat} {want : Bool} {t : TypeId} {x i : Operand} : zbq P ops Q (⟨dst, .indexAddr t x i, ty, pos, after, some (j, want)⟩ :: rest) e h n = zgi P ops Q rest dst (.indexAddr t x i) ((zaK ops j).bind fun t => zaN (e t) want) e h n := zaV rfl
theorem ztd {dst : Option Tmp} {ty : TypeId} {pos : String} {after : Array Edge} {t : TypeId} {x i : Operand} : zbq P ops Q (⟨dst, .index t x i, ty, pos, after, none⟩ :: rest) e h n = zf2 P ops Q rest dst (aev P n (.index t x i) e h) e h n := rfl
theorem zqn {dst : Option Tmp} {ty : TypeId} {pos : String} {after : Array Edge} {j : Nat} {want : Bool} {t : TypeId} {x i : Operand} : zbq P ops Q (⟨dst, .index t x i, ty, pos, after, some (j, want)⟩ :: rest) e h n = zgi P ops Q rest dst (.index t x i) ((zaK ops j).bind fun t => zaN (e t) want) e h n := zaV rfl
theorem zod {dst : Option Tmp} {ty : TypeId} {pos : String} {after : Array Edge} {x : Operand} {i : Nat} : zbq P ops Q (⟨dst, .extract x i, ty, pos, after, none⟩ :: rest) e h n = zf2 P ops Q rest dst (aev P n (.extract x i) e h) e h n := rfl
theorem zmQ {dst : Option Tmp} {ty : TypeId} {pos : String} {after : Array Edge} {j : Nat} {want : Bool} {x : Operand} {i : Nat} : zbq P ops Q (⟨dst, .extract x i, ty, pos, after, some (j, want)⟩ :: rest) e h n = zgi P ops Q rest dst (.extract x i) ((zaK ops j).bind fun t => zaN (e t) want) e h n := zaV rfl
theorem zoe {dst : Option Tmp} {ty : TypeId} {pos : String} {after : Array Edge} {t : TypeId} {r : Option Operand} : zbq P ops Q (⟨dst, .makeMap t r, ty, pos, after, none⟩ :: rest) e h n = zf2 P ops Q rest dst (aev P n (.makeMap t r) e h) e h n := rfl
theorem zmR {dst : Option Tmp} {ty : TypeId} {pos : String} {after : Array Edge} {j : Nat} {want : Bool} {t : TypeId} {r : Option Operand} : zbq P ops Q (⟨dst, .makeMap t r, ty, pos, after, some (j, want)⟩ :: rest) e h n = zgi P ops Q rest dst (.makeMap t r) ((zaK ops j).bind fun t => zaN (e t) want) e h n := zaV rfl
theorem zlf {dst : Option Tmp} {ty : TypeId} {pos : String} {after : Array Edge} {t : TypeId} {m' k x : Operand} : zbq P ops Q (⟨dst, .mapUpdate t m' k x, ty, pos, after, none⟩ :: rest) e h n = zf2 P ops Q rest dst (aev P n (.mapUpdate t m' k x) e h) e h n := rfl
theorem zjz {dst : Option Tmp} {ty : TypeId} {pos : String} {after : Array Edge} {j : Nat} {want : Bool} {t : TypeId} {m' k x : Operand} : zbq P ops Q (⟨dst, .mapUpdate t m' k x, ty, pos, after, some (j, want)⟩ :: rest) e h n = zgi P ops Q rest dst (.mapUpdate t m' k x) ((zaK ops j).bind fun t => zaN (e t) want) e h n := zaV rfl
theorem zqs {dst : Option Tmp} {ty : TypeId} {pos : String} {after : Array Edge} {t : TypeId} {m' k x : Operand} : zbq P ops Q (⟨dst, .insert t m' k x, ty, pos, after, none⟩ :: rest) e h n = zf2 P ops Q rest dst (aev P n (.insert t m' k x) e h) e h n := rfl
theorem zn9 {dst : Option Tmp} {ty : TypeId} {pos : String} {after : Array Edge} {j : Nat} {want : Bool} {t : TypeId} {m' k x : Operand} : zbq P ops Q (⟨dst, .insert t m' k x, ty, pos, after, some (j, want)⟩ :: rest) e h n = zgi P ops Q rest dst (.insert t m' k x) ((zaK ops j).bind fun t => zaN (e t) want) e h n := zaV rfl
theorem zqt {dst : Option Tmp} {ty : TypeId} {pos : String} {after : Array Edge} {t : TypeId} {m' k : Operand} {ok : Bool} : zbq P ops Q (⟨dst, .lookup t m' k ok, ty, pos, after, none⟩ :: rest) e h n = zf2 P ops Q rest dst (aev P n (.lookup t m' k ok) e h) e h n := rfl
theorem zoa {dst : Option Tmp} {ty : TypeId} {pos : String} {after : Array Edge} {j : Nat} {want : Bool} {t : TypeId} {m' k : Operand} {ok : Bool} : zbq P ops Q (⟨dst, .lookup t m' k ok, ty, pos, after, some (j, want)⟩ :: rest) e h n = zgi P ops Q rest dst (.lookup t m' k ok) ((zaK ops j).bind fun t => zaN (e t) want) e h n := zaV rfl
theorem zg8 {dst : Option Tmp} {ty : TypeId} {pos : String} {after : Array Edge} {t : TypeId} {x : Operand} : zbq P ops Q (⟨dst, .makeInterface t x, ty, pos, after, none⟩ :: rest) e h n = zf2 P ops Q rest dst (aev P n (.makeInterface t x) e h) e h n := rfl
theorem zgC {dst : Option Tmp} {ty : TypeId} {pos : String} {after : Array Edge} {j : Nat} {want : Bool} {t : TypeId} {x : Operand} : zbq P ops Q (⟨dst, .makeInterface t x, ty, pos, after, some (j, want)⟩ :: rest) e h n = zgi P ops Q rest dst (.makeInterface t x) ((zaK ops j).bind fun t => zaN (e t) want) e h n := zaV rfl
theorem zte {dst : Option Tmp} {ty : TypeId} {pos : String} {after : Array Edge} {x : Operand} : zbq P ops Q (⟨dst, .panic x, ty, pos, after, none⟩ :: rest) e h n = zf2 P ops Q rest dst (aev P n (.panic x) e h) e h n := rfl
theorem zqo {dst : Option Tmp} {ty : TypeId} {pos : String} {after : Array Edge} {j : Nat} {want : Bool} {x : Operand} : zbq P ops Q (⟨dst, .panic x, ty, pos, after, some (j, want)⟩ :: rest) e h n = zgi P ops Q rest dst (.panic x) ((zaK ops j).bind fun t => zaN (e t) want) e h n := zaV rfl
theorem zob {dst : Option Tmp} {ty : TypeId} {pos : String} {after : Array Edge} {b : Builtin} {args : Array Operand} {ats : Array TypeId} : zbq P ops Q (⟨dst, .call ⟨.builtin b, args, ats⟩, ty, pos, after, none⟩ :: rest) e h n = zf2 P ops Q rest dst (aev P n (.call ⟨.builtin b, args, ats⟩) e h) e h n := rfl
theorem zmO {dst : Option Tmp} {ty : TypeId} {pos : String} {after : Array Edge} {j : Nat} {want : Bool} {b : Builtin} {args : Array Operand} {ats : Array TypeId} : zbq P ops Q (⟨dst, .call ⟨.builtin b, args, ats⟩, ty, pos, after, some (j, want)⟩ :: rest) e h n = zgi P ops Q rest dst (.call ⟨.builtin b, args, ats⟩) ((zaK ops j).bind fun t => zaN (e t) want) e h n := zaV rfl
theorem aRes_0 {d : Tmp} {c : Prop} {x : AV} : zf2 P ops Q rest (some d) ⟨c, x, [], 0⟩ e h n = VC c (zgD P ops Q rest (upd e d x) h n) := rfl
theorem zz5 {c : Prop} {x : AV} : zf2 P ops Q rest none ⟨c, x, [], 0⟩ e h n = VC c (zgD P ops Q rest e h n) := rfl
theorem aRes_1 {d : Tmp} {c : Prop} {x : AV} {o : Nat} {y : Option zbt} {al : Nat} : zf2 P ops Q rest (some d) ⟨c, x, [(o, y)], al⟩ e h n = VC c (zgD P ops Q rest (upd e d x) (upd h o y) (n + al)) := rfl
theorem zz6 {c : Prop} {x : AV} {o : Nat} {y : Option zbt} {al : Nat} : zf2 P ops Q rest none ⟨c, x, [(o, y)], al⟩ e h n = VC c (zgD P ops Q rest e (upd h o y) (n + al)) := rfl
theorem zz1 {d : Tmp} {g : Bool} {c : Prop} {x : AV} : zgB P ops Q rest (some d) g ⟨c, x, [], 0⟩ e h n = VC (g = true → c) (zgD P ops Q rest (upd e d (.gd g x)) h n) := by
 cases g <;> simp [zgB, put, VC, zgD, gW, gN, zao]
theorem zz3 {d : Tmp} {c : Prop} {x : AV} {o : Nat} {y : Option zbt} {al : Nat} : zgB P ops Q rest (some d) true ⟨c, x, [(o, y)], al⟩ e h n = VC c (zgD P ops Q rest (upd e d (.gd true x)) (upd h o y) (n + al)) := by
 simp [zgB, put, VC, zgD, gW, gN, zao]
theorem zxL {c : Prop} {x : AV} {o : Nat} {y : Option zbt} {al : Nat} : zgB P ops Q rest none true ⟨c, x, [(o, y)], al⟩ e h n = VC c (zgD P ops Q rest e (upd h o y) (n + al)) := by
 simp [zgB, put, VC, zgD, gW, gN, zao]
theorem zz2 {d : Tmp} {r : Res} : zgB P ops Q rest (some d) false r e h n = zbq P ops Q rest (upd e d (.gd false r.val)) h n := by
 simp [zgB, put, VC, gW, gN, zao]
theorem zxK {r : Res} : zgB P ops Q rest none false r e h n = zbq P ops Q rest e h n := by
 simp [zgB, put, VC, gW, gN, zao]
theorem zuR {dst : Option Tmp} {op : Op} {g : Bool} : zgi P ops Q rest dst op (some g) e h n = (VQ (∀ t ∈ gT op, okG g (e t)) (zgB P ops Q rest dst g (aev P n op (gE op e) h) e h n)) := rfl
theorem zxI {dst : Option Tmp} {f : FuncId} {first caps args : List AV} :
  zp8 P ops Q rest dst (.fn (.func f) first caps) args e h n = zaa P f (first ++ args ++ caps) h n fun r h' n' => zbq P ops Q rest (put e dst r) h' n' := by
 unfold zp8
 simp only [zgj]
 exact propext ⟨fun h => h.elim id (fun h => (zuB h).elim), .inl⟩
theorem zp9 {dst : Option Tmp} {l : Nat} {args : List AV} : zp8 P ops Q rest dst (.fn (.yield l) [] []) args e h n = zsO P ops Q rest dst l args e h n := by
 unfold zp8 zsO
 simp only [zgj]
 exact propext ⟨fun h => h.elim False.elim id, .inr⟩
end
theorem zy5 (e : Env) (d : Nat) (x : AV) : put e (some d) x = upd e d x := rfl
theorem zy4 (e : Env) (x : AV) : put e none x = e := rfl

section congr
variable {P : Program} {n0 : Nat} {Q : zb0} {e e' : Env} {h h' : zav} {n n' : Nat} {ops rest : List Oper}
@[congr] theorem awp_congr {c : Code} (h3 : n = n') : awp P n0 c Q e h n = awp P n0 c Q e h n' := by subst h3; rfl
@[congr] theorem zz0 {a b : Code} {x x' : AV} (h0 : x = x') : zxJ P n0 a b Q x e h n = zxJ P n0 a b Q x' e h n := by subst h0; rfl
@[congr] theorem zBh (h3 : n = n') : zbq P ops Q rest e h n = zbq P ops Q rest e h n' := by subst h3; rfl
@[congr] theorem zBf {dst : Option Tmp} {r r' : Res} (h0 : r = r') : zf2 P ops Q rest dst r e h n = zf2 P ops Q rest dst r' e h n := by subst h0; rfl
@[congr] theorem zz4 {dst : Option Tmp} {g g' : Bool} {r r' : Res} (hg : g = g') (h0 : r = r') : zgB P ops Q rest dst g r e h n = zgB P ops Q rest dst g' r' e h n := by subst h0 hg; rfl
@[congr] theorem zzZ {dst : Option Tmp} {fv fv' : AV} {args args' : List AV} (h0 : fv = fv') (h1 : args = args') : zp8 P ops Q rest dst fv args e h n = zp8 P ops Q rest dst fv' args' e h n := by subst h0 h1; rfl
@[congr] theorem zBe {dst : Option Tmp} {op : Op} {g g' : Option Bool} (h0 : g = g') : zgi P ops Q rest dst op g e h n = zgi P ops Q rest dst op g' e h n := by subst h0; rfl
@[congr] theorem zzm {f : FuncId} {args args' : List AV} {K : zcS} (h1 : args = args') : zaa P f args h n K = zaa P f args' h n K := by subst h1; rfl
@[congr] theorem zzJ {B : zb0 → Env → zav → Nat → Prop} (h3 : n = n') : zac n0 B Q e h n = zac n0 B Q e h n' := by subst h3; rfl
@[congr] theorem zBd {K : Env → zav → Nat → Prop} {x : Exit} (h3 : n = n') : zuD K Q x e h n = zuD K Q x e h n' := by subst h3; rfl
@[congr] theorem zzo {x : Exit} (h3 : n = n') : zg2 Q x e h n = zg2 Q x e h n' := by subst h3; rfl
@[congr] theorem zzn {id : Nat} {x : Exit} (h3 : n = n') : zfs id Q x e h n = zfs id Q x e h n' := by subst h3; rfl
end congr

theorem zzN {n : Nat} : Bel n .top = True := eq_true .top
theorem zxw {n : Nat} {x : Value} : Bel n (.v x) = True := eq_true (.v x)
theorem zzL {n : Nat} {cs : List AV} : Bel n (.agg cs) = ∀ c ∈ cs, Bel n c := propext ⟨fun h => by cases h; assumption, .agg⟩
theorem zmv {n : Nat} {cs : List AV} : Bel n (.tup cs) = ∀ c ∈ cs, Bel n c := propext ⟨fun h => by cases h; assumption, .tup⟩
theorem zck {n sz : Nat} {rows : List (List AV)} : Bel n (.lst sz rows) = ∀ r ∈ rows, ∀ c ∈ r, Bel n c := propext ⟨fun h => by cases h; assumption, .lst⟩
theorem Bel_fp {n : Nat} {cs : List AV} : Bel n (.fp cs) = ∀ c ∈ cs, Bel n c := propext ⟨fun h => by cases h; assumption, .fp⟩
theorem zzM {n o g sz i off : Nat} : Bel n (.ref o g sz i off) = (o < n) := propext ⟨fun h => by cases h; assumption, .ref⟩
theorem Bel_sl {n o g sz i len : Nat} : Bel n (.sl o g sz i len) = (o < n) := propext ⟨fun h => by cases h; assumption, .sl⟩
theorem Bel_fn {n : Nat} {f : Fn} {a b : List AV} : Bel n (.fn f a b) = ((∀ c ∈ a, Bel n c) ∧ ∀ c ∈ b, Bel n c) := propext ⟨fun h => by cases h; exact ⟨by assumption, by assumption⟩, fun h => .fn h.1 h.2⟩
theorem Bel_mp {n o : Nat} : Bel n (.mp o) = (o < n) := propext ⟨fun h => by cases h; assumption, .mp⟩
theorem zru {n : Nat} {g : Bool} {x : AV} : Bel n (.gd g x) = Bel n x := propext ⟨fun h => by cases h; assumption, .gd⟩

theorem zy0 {g : Bool} {x : AV} : okG g (.gd g x) = True := eq_true (fun h => h)
theorem okG_gd {g g' : Bool} {x : AV} : okG g (.gd g' x) = (g = true → g' = true) := rfl
theorem okG_v {g : Bool} {x : Value} : okG g (.v x) = True := rfl
theorem zA0 {o g sz i off : Nat} {b : Bool} : okG b (.ref o g sz i off) = True := rfl
theorem okG_sl {o g sz i len : Nat} {b : Bool} : okG b (.sl o g sz i len) = True := rfl
theorem zAZ {b : Bool} {sz : Nat} {rows : List (List AV)} : okG b (.lst sz rows) = True := rfl
theorem okG_fp {b : Bool} {cs : List AV} : okG b (.fp cs) = True := rfl
theorem zAY {b : Bool} {cs : List AV} : okG b (.agg cs) = True := rfl
theorem zA2 {b : Bool} {cs : List AV} : okG b (.tup cs) = True := rfl
theorem okG_fn {b : Bool} {f : Fn} {x y : List AV} : okG b (.fn f x y) = True := rfl
theorem zA1 {b : Bool} : okG b .top = True := rfl
attribute [go_sem high] zy0
attribute [go_sem] zzX zuS zsN zzY zxH zaw zje zbg zyi zyh zAr zx2 zvj zti zAa zxX zsM zvi zx0 zxZ zz9 zpT zuL zxB zmB zpN zsC zvk zmD zpR zsF zxD zp6
 zoe zmR zlf zjz zqs zn9 zqt zoa zfE zcR zeb zzD zqS zes zhp
 zxU zvd zvf zs6 zqr zn8 zvg zs7 zs9 zqj zxT zvc ztb zql zjA ziS zve zs5 ztg zqq zta zqk zvh zs8 zmT zlb zoc zmP zmS zla zle zjy ztf zqp zlc zjw ztc zqm zld zjx ztd zqn zod zmQ zg8 zgC zte zqo zob zmO aRes_0 zz5 aRes_1 zz6 zz1 zz3 zxL zz2 zxK zuR zxI zy5 zy4 aev ev ofV zxk zoF pB evEq zoA zvX zvW ziy zjZ zfC eqS zee gE gT zvU evUn zix zhh zdq zb7 zjW zb8 zjX zoD zAL
 zao unG okG_gd okG_v zA0 okG_sl zAZ okG_fp zAY zA2 okG_fn zA1 zcF Op.operands Call.operands zaN zaK AV.cells AV.okCells AV.isCell zcI zax ztD zen zm7 zwd zeC zvV zyF zc4 zdJ zdZ zfF zhW zcX zcA zc5 ze1 setMany zfP znE zzI zrF
 zzN zxw zzL zmv zck Bel_fp zzM Bel_sl Bel_fn Bel_mp zru

section draw
variable {P : Program} {n0 : Nat} {Q : zb0} {e e' : Env} {h h' : zav} {n i i' : Nat} {ops rest : List Oper} {acc : List zfi} {K : Env → zav → List zfi → Prop}
def zkY (Q : zb0) (ops : List Oper) (n : Nat) (e : Env) (h : zav) (recs : List zfi) : Prop := zkm ops recs = true ∧ ((zwE recs = true ∧ Q .normal e h n) ∨ Q .normal e h (n + 16 * ops.length))
def adr (P : Program) (n : Nat) (ops : List Oper) (Q : zb0) (m : Nat) (i : Nat) (rest : List Oper) (e : Env) (h : zav) (acc : List zfi) : Prop := zdm P n ops (zkY Q ops m) i rest e h acc
def zn1 (P : Program) (n : Nat) (ops : List Oper) (Q : zb0) (m : Nat) (i : Nat) (rest : List Oper) (e : Env) (h : zav) (acc : List zfi) : Prop := zdm P n ops (zkY Q ops m) i rest e h acc
variable {m : Nat}
def zn2 (P : Program) (n : Nat) (ops : List Oper) (Q : zb0) (e : Env) (h : zav) : Prop := ∃ h', Frz h h' ∧ zs0 P ops Q e h' n
theorem zrC (hk : adr P n ops Q (n + ops.length) 0 ops e h []) : zs0 P ops Q e h n := by
 refine ⟨ops.length, ?_⟩
 rw [List.take_length, List.drop_length]
 exact hk
theorem wZ (hk : adr P n ops Q (n + ops.length) 0 ops e h []) : zn2 P n ops Q e h := ⟨h, .refl h, zrC hk⟩
theorem zn2.frz (h' : zav) (hf : Frz h h') (hk : adr P n ops Q (n + ops.length) 0 ops e h' []) : zn2 P n ops Q e h := ⟨h', hf, zrC hk⟩
def QTail (P : Program) (ops : List Oper) (Q : zb0) (k : Nat) : zb0
 | .normal, e, h, n => zbq P ops Q (ops.drop k) e h n
 | _, _, _, _ => False
theorem znP {k : Nat} : QTail P ops Q k .normal e h n = zbq P ops Q (ops.drop k) e h n := rfl
theorem zn2.split (k : Nat) (hk : adr P n ops (QTail P ops Q k) (n + ops.length) 0 (ops.take k) e h []) : zn2 P n ops Q e h := ⟨h, .refl h, k, hk⟩
attribute [go_sem] znP
theorem zxY (id : Nat) (ops : List Oper) : awp P n0 (.region id ops.toArray true) Q e h n = zn2 P n ops Q e h := rfl
def zfo (P : Program) (n : Nat) (ops : List Oper) (Q : zb0) (m : Nat) (i : Nat) (rest : List Oper) (dst : Option Tmp) (rd : List Nat) (r : Res) (e : Env) (h : zav) (acc : List zfi) : Prop :=
 VC r.cond (adr P n ops Q m (i + 1) rest (put e dst r.val) (zao r.wr h) (acc ++ [(rd, r.wr.map (·.1))]))
def zgG (P : Program) (n : Nat) (ops : List Oper) (Q : zb0) (m : Nat) (i : Nat) (rest : List Oper) (dst : Option Tmp) (g : Bool) (rd : List Nat) (r : Res) (e : Env) (h : zav) (acc : List zfi) : Prop :=
 VC (g = true → r.cond) (adr P n ops Q m (i + 1) rest (put e dst (.gd g r.val)) (zao (gW g r.wr) h) (acc ++ [(rd, (gW g r.wr).map (·.1))]))
def zgk (P : Program) (n : Nat) (ops : List Oper) (Q : zb0) (m : Nat) (i : Nat) (rest : List Oper) (dst : Option Tmp) (op : Op) (g : Option Bool) (e : Env) (h : zav) (acc : List zfi) : Prop :=
 match g with
 | none => False
 | some g => VQ (∀ t ∈ gT op, okG g (e t)) (zgG P n ops Q m i rest dst g ((op.operands.toList.map (ev (gE op e))).flatMap AV.ids) (aev P (n + i) op (gE op e) h) e h acc)
def zay (P : Program) (n : Nat) (ops : List Oper) (Q : zb0) (m : Nat) (i : Nat) (rest : List Oper) (dst : Option Tmp) (fv : AV) (args : List AV) (e : Env) (h : zav) (acc : List zfi) : Prop :=
 ∃ r S wr, zgq P (n + ops.length + 16 * i) fv args h r S wr ∧ adr P n ops Q m (i + 1) rest (put e dst r) (zao wr h) (acc ++ [(S, wr.map (·.1))])
theorem zz8 : adr P n ops Q m i [] e h acc = zkY Q ops m e h acc := rfl
theorem za5 {dst : Option Tmp} {op : Op} {ty : TypeId} {pos : String} {after : Array Edge} (hc : zlZ op = false) :
  adr P n ops Q m i (⟨dst, op, ty, pos, after, none⟩ :: rest) e h acc = zfo P n ops Q m i rest dst ((op.operands.toList.map (ev e)).flatMap AV.ids) (aev P (n + i) op e h) e h acc := by
 unfold adr zfo
 cases op with
 | call c =>
  obtain ⟨callee, args, ats⟩ := c
  cases callee with
  | value f => simp [zlZ] at hc
  | _ => rfl
 | _ => rfl
theorem zxN {dst : Option Tmp} {f : Operand} {args : Array Operand} {ats : Array TypeId} {ty : TypeId} {pos : String} {after : Array Edge} :
  adr P n ops Q m i (⟨dst, .call ⟨.value f, args, ats⟩, ty, pos, after, none⟩ :: rest) e h acc = zay P n ops Q m i rest dst (ev e f) (args.toList.map (ev e)) e h acc := rfl
theorem za6 {dst : Option Tmp} {op : Op} {ty : TypeId} {pos : String} {after : Array Edge} {j : Nat} {want : Bool} (hc : zlZ op = false) :
  adr P n ops Q m i (⟨dst, op, ty, pos, after, some (j, want)⟩ :: rest) e h acc = zgk P n ops Q m i rest dst op ((zaK ops j).bind fun t => zaN (e t) want) e h acc := by
 unfold adr zgk zgG
 cases op with
 | call c =>
  obtain ⟨callee, args, ats⟩ := c
  cases callee with
  | value f => simp [zlZ] at hc
  | _ => rfl
 | _ => rfl
theorem VC_adr : VC True (zn1 P n ops Q m i rest e h acc) = adr P n ops Q m i rest e h acc := by simp [VC, zn1, adr]
theorem zBO {a : Prop} (h1 : a) (h2 : a → adr P n ops Q m i rest e h acc) : VC a (zn1 P n ops Q m i rest e h acc) := ⟨h1, h2 h1⟩
theorem zkY.mk {recs : List zfi} (h1 : (zkm ops recs && zwE recs) = true) (h2 : Q .normal e h n) : zkY Q ops n e h recs := by
 rw [Bool.and_eq_true] at h1
 exact ⟨h1.1, .inl ⟨h1.2, h2⟩⟩
theorem zBP {recs : List zfi} (h1 : zkm ops recs = true) (h2 : Q .normal e h (n + 16 * ops.length)) : zkY Q ops n e h recs := ⟨h1, .inr h2⟩
theorem wL {a : Prop} (h2 : a → zbq P ops Q rest e h n) (h1 : a := by first | omega | exact True.intro | rfl) : VC a (zgD P ops Q rest e h n) := ⟨h1, h2 h1⟩
theorem wD {a : Prop} (h2 : a → adr P n ops Q m i rest e h acc) (h1 : a := by first | omega | exact True.intro | (intros; omega)) : VC a (zn1 P n ops Q m i rest e h acc) := ⟨h1, h2 h1⟩
theorem wE {recs : List zfi} (h2 : Q .normal e h n) (h1 : (zkm ops recs && zwE recs) = true := by kernel_rfl) : zkY Q ops n e h recs := zkY.mk h1 h2
theorem dRes_0 {d : Tmp} {rd : List Nat} {c : Prop} {x : AV} : zfo P n ops Q m i rest (some d) rd ⟨c, x, [], 0⟩ e h acc = VC c (zn1 P n ops Q m (i + 1) rest (upd e d x) h (acc ++ [(rd, [])])) := rfl
theorem zAz {rd : List Nat} {c : Prop} {x : AV} : zfo P n ops Q m i rest none rd ⟨c, x, [], 0⟩ e h acc = VC c (zn1 P n ops Q m (i + 1) rest e h (acc ++ [(rd, [])])) := rfl
theorem dRes_1 {d : Tmp} {rd : List Nat} {c : Prop} {x : AV} {o : Nat} {y : Option zbt} {al : Nat} : zfo P n ops Q m i rest (some d) rd ⟨c, x, [(o, y)], al⟩ e h acc = VC c (zn1 P n ops Q m (i + 1) rest (upd e d x) (upd h o y) (acc ++ [(rd, [o])])) := rfl
theorem zAA {rd : List Nat} {c : Prop} {x : AV} {o : Nat} {y : Option zbt} {al : Nat} : zfo P n ops Q m i rest none rd ⟨c, x, [(o, y)], al⟩ e h acc = VC c (zn1 P n ops Q m (i + 1) rest e (upd h o y) (acc ++ [(rd, [o])])) := rfl
theorem zAv {d : Tmp} {g : Bool} {rd : List Nat} {c : Prop} {x : AV} : zgG P n ops Q m i rest (some d) g rd ⟨c, x, [], 0⟩ e h acc = VC (g = true → c) (zn1 P n ops Q m (i + 1) rest (upd e d (.gd g x)) h (acc ++ [(rd, [])])) := by
 cases g <;> simp [zgG, put, VC, adr, zn1, gW, zao]
theorem zAx {d : Tmp} {rd : List Nat} {c : Prop} {x : AV} {o : Nat} {y : Option zbt} {al : Nat} : zgG P n ops Q m i rest (some d) true rd ⟨c, x, [(o, y)], al⟩ e h acc = VC c (zn1 P n ops Q m (i + 1) rest (upd e d (.gd true x)) (upd h o y) (acc ++ [(rd, [o])])) := by
 simp [zgG, put, VC, adr, zn1, gW, zao]
theorem zyo {rd : List Nat} {c : Prop} {x : AV} {o : Nat} {y : Option zbt} {al : Nat} : zgG P n ops Q m i rest none true rd ⟨c, x, [(o, y)], al⟩ e h acc = VC c (zn1 P n ops Q m (i + 1) rest e (upd h o y) (acc ++ [(rd, [o])])) := by
 simp [zgG, put, VC, adr, zn1, gW, zao]
theorem zAw {d : Tmp} {rd : List Nat} {r : Res} : zgG P n ops Q m i rest (some d) false rd r e h acc = adr P n ops Q m (i + 1) rest (upd e d (.gd false r.val)) h (acc ++ [(rd, [])]) := by
 simp [zgG, put, VC, adr, gW, zao]
theorem zyn {rd : List Nat} {r : Res} : zgG P n ops Q m i rest none false rd r e h acc = adr P n ops Q m (i + 1) rest e h (acc ++ [(rd, [])]) := by
 simp [zgG, put, VC, adr, gW, zao]
theorem zvK {dst : Option Tmp} {op : Op} {g : Bool} : zgk P n ops Q m i rest dst op (some g) e h acc = VQ (∀ t ∈ gT op, okG g (e t)) (zgG P n ops Q m i rest dst g ((op.operands.toList.map (ev (gE op e))).flatMap AV.ids) (aev P (n + i) op (gE op e) h) e h acc) := rfl
theorem zB0 {dst : Option Tmp} {f : FuncId} {first caps args : List AV} (args' : List AV) (r : AV) (S : List Nat) (hp : zaC P f args' r) (hfl : zrv r) (hle : ∀ h₁ : zav, (∀ o ∈ S, h o = h₁ o) → zai h₁ noH 0 (first ++ args ++ caps) args') (hb : ∀ c ∈ args', Bel 0 c)
  (hk : adr P n ops Q m (i + 1) rest (put e dst r) h (acc ++ [(S, [])])) : zay P n ops Q m i rest dst (.fn (.func f) first caps) args e h acc := ⟨r, S, [], .inl ⟨rfl, f, first, caps, args', rfl, hb, hp, .inl ⟨hle, hfl⟩⟩, hk⟩
theorem zBq {dst : Option Tmp} {f : FuncId} {first caps args : List AV} {r : AV} (hp : zaC P f (first ++ args ++ caps) r) (hb : ∀ c ∈ first ++ args ++ caps, Bel 0 c)
  (hk : adr P n ops Q m (i + 1) rest (put e dst r) h (acc ++ [([], [])])) : zay P n ops Q m i rest dst (.fn (.func f) first caps) args e h acc := ⟨r, [], [], .inl ⟨rfl, f, first, caps, _, rfl, hb, hp, .inr rfl⟩, hk⟩
theorem zay.frz {dst : Option Tmp} {f : FuncId} {first caps args : List AV} (args' : List AV) (r : AV) (S : List Nat) (wr : List (Nat × Option zbt)) (hp : zaC P f args' r)
  (hw : ∀ p ∈ wr, p.1 ∈ S ∧ ∃ g sz rs, p.2 = some (.rows false g sz rs) ∧ h p.1 = some (.rows true g sz rs)) (hle : ∀ h₁ : zav, (∀ o ∈ S, h o = h₁ o) → zai h₁ (zao wr h₁) 0 (first ++ args ++ caps) args') (hb : ∀ c ∈ args', Bel 0 c)
  (hk : adr P n ops Q m (i + 1) rest (put e dst r) (zao wr h) (acc ++ [(S, wr.map (·.1))])) : zay P n ops Q m i rest dst (.fn (.func f) first caps) args e h acc := ⟨r, S, wr, .inr (.inl ⟨f, first, caps, args', rfl, hb, hp, hw, hle⟩), hk⟩
@[congr] theorem adr_congr (h1 : i = i') : adr P n ops Q m i rest e h acc = adr P n ops Q m i' rest e h acc := by subst h1; rfl
@[congr] theorem zBg (h1 : i = i') : zn1 P n ops Q m i rest e h acc = zn1 P n ops Q m i' rest e h acc := by subst h1; rfl
@[congr] theorem zBk {dst : Option Tmp} {rd rd' : List Nat} {r r' : Res} (h1 : i = i') (h2 : rd = rd') (h0 : r = r') : zfo P n ops Q m i rest dst rd r e h acc = zfo P n ops Q m i' rest dst rd' r' e h acc := by subst h0 h1 h2; rfl
@[congr] theorem zAy {dst : Option Tmp} {g g' : Bool} {rd rd' : List Nat} {r r' : Res} (h1 : i = i') (hg : g = g') (h2 : rd = rd') (h0 : r = r') : zgG P n ops Q m i rest dst g rd r e h acc = zgG P n ops Q m i' rest dst g' rd' r' e h acc := by subst h0 h1 h2 hg; rfl
@[congr] theorem zBj {dst : Option Tmp} {op : Op} {g g' : Option Bool} (h1 : i = i') (h0 : g = g') : zgk P n ops Q m i rest dst op g e h acc = zgk P n ops Q m i' rest dst op g' e h acc := by subst h0 h1; rfl
@[congr] theorem zAu {dst : Option Tmp} {fv fv' : AV} {args args' : List AV} (h1 : i = i') (h0 : fv = fv') (h2 : args = args') : zay P n ops Q m i rest dst fv args e h acc = zay P n ops Q m i' rest dst fv' args' e h acc := by subst h0 h1 h2; rfl
@[congr] theorem zBi {acc acc' : List zfi} {n' : Nat} (h1 : n = n') (h0 : acc = acc') : zkY Q ops n e h acc = zkY Q ops n' e h acc' := by subst h0 h1; rfl
end draw
section drawEq
variable {P : Program} {Q : zb0} {e : Env} {h : zav} {n m i : Nat} {ops rest : List Oper} {acc : List zfi} {dst : Option Tmp} {ty : TypeId} {pos : String} {after : Array Edge} {j : Nat} {want : Bool}
theorem zxP {x : Operand} : adr P n ops Q m i (⟨dst, .move x, ty, pos, after, none⟩ :: rest) e h acc = zfo P n ops Q m i rest dst (((.move x : Op).operands.toList.map (ev e)).flatMap AV.ids) (aev P (n + i) (.move x) e h) e h acc := za5 rfl
theorem zuW {x : Operand} : adr P n ops Q m i (⟨dst, .move x, ty, pos, after, some (j, want)⟩ :: rest) e h acc = zgk P n ops Q m i rest dst (.move x) ((zaK ops j).bind fun t => zaN (e t) want) e h acc := za6 rfl
theorem zsX {x : Operand} : adr P n ops Q m i (⟨dst, .assign x, ty, pos, after, none⟩ :: rest) e h acc = zfo P n ops Q m i rest dst (((.assign x : Op).operands.toList.map (ev e)).flatMap AV.ids) (aev P (n + i) (.assign x) e h) e h acc := za5 rfl
theorem zqb {x : Operand} : adr P n ops Q m i (⟨dst, .assign x, ty, pos, after, some (j, want)⟩ :: rest) e h acc = zgk P n ops Q m i rest dst (.assign x) ((zaK ops j).bind fun t => zaN (e t) want) e h acc := za6 rfl
theorem zxQ {c a b : Operand} : adr P n ops Q m i (⟨dst, .pick c a b, ty, pos, after, none⟩ :: rest) e h acc = zfo P n ops Q m i rest dst (((.pick c a b : Op).operands.toList.map (ev e)).flatMap AV.ids) (aev P (n + i) (.pick c a b) e h) e h acc := za5 rfl
theorem zuX {c a b : Operand} : adr P n ops Q m i (⟨dst, .pick c a b, ty, pos, after, some (j, want)⟩ :: rest) e h acc = zgk P n ops Q m i rest dst (.pick c a b) ((zaK ops j).bind fun t => zaN (e t) want) e h acc := za6 rfl
theorem zuZ {t : TypeId} : adr P n ops Q m i (⟨dst, .alloc t, ty, pos, after, none⟩ :: rest) e h acc = zfo P n ops Q m i rest dst (((.alloc t : Op).operands.toList.map (ev e)).flatMap AV.ids) (aev P (n + i) (.alloc t) e h) e h acc := za5 rfl
theorem zsP {t : TypeId} : adr P n ops Q m i (⟨dst, .alloc t, ty, pos, after, some (j, want)⟩ :: rest) e h acc = zgk P n ops Q m i rest dst (.alloc t) ((zaK ops j).bind fun t => zaN (e t) want) e h acc := za6 rfl
theorem zz7 {t : TypeId} {x : Operand} : adr P n ops Q m i (⟨dst, .box t x, ty, pos, after, none⟩ :: rest) e h acc = zfo P n ops Q m i rest dst (((.box t x : Op).operands.toList.map (ev e)).flatMap AV.ids) (aev P (n + i) (.box t x) e h) e h acc := za5 rfl
theorem zxM {t : TypeId} {x : Operand} : adr P n ops Q m i (⟨dst, .box t x, ty, pos, after, some (j, want)⟩ :: rest) e h acc = zgk P n ops Q m i rest dst (.box t x) ((zaK ops j).bind fun t => zaN (e t) want) e h acc := za6 rfl
theorem zu1 {t : TypeId} {ps : Array (Nat × Operand)} : adr P n ops Q m i (⟨dst, .build t ps, ty, pos, after, none⟩ :: rest) e h acc = zfo P n ops Q m i rest dst (((.build t ps : Op).operands.toList.map (ev e)).flatMap AV.ids) (aev P (n + i) (.build t ps) e h) e h acc := za5 rfl
theorem zsR {t : TypeId} {ps : Array (Nat × Operand)} : adr P n ops Q m i (⟨dst, .build t ps, ty, pos, after, some (j, want)⟩ :: rest) e h acc = zgk P n ops Q m i rest dst (.build t ps) ((zaK ops j).bind fun t => zaN (e t) want) e h acc := za6 rfl
theorem zk9 {t : TypeId} {k : Nat} {ps : Array (Nat × Operand)} : adr P n ops Q m i (⟨dst, .buildSlice t k ps, ty, pos, after, none⟩ :: rest) e h acc = zfo P n ops Q m i rest dst (((.buildSlice t k ps : Op).operands.toList.map (ev e)).flatMap AV.ids) (aev P (n + i) (.buildSlice t k ps) e h) e h acc := za5 rfl
theorem zjv {t : TypeId} {k : Nat} {ps : Array (Nat × Operand)} : adr P n ops Q m i (⟨dst, .buildSlice t k ps, ty, pos, after, some (j, want)⟩ :: rest) e h acc = zgk P n ops Q m i rest dst (.buildSlice t k ps) ((zaK ops j).bind fun t => zaN (e t) want) e h acc := za6 rfl
theorem zxO {t : TypeId} {x : Operand} : adr P n ops Q m i (⟨dst, .load t x, ty, pos, after, none⟩ :: rest) e h acc = zfo P n ops Q m i rest dst (((.load t x : Op).operands.toList.map (ev e)).flatMap AV.ids) (aev P (n + i) (.load t x) e h) e h acc := za5 rfl
theorem zuV {t : TypeId} {x : Operand} : adr P n ops Q m i (⟨dst, .load t x, ty, pos, after, some (j, want)⟩ :: rest) e h acc = zgk P n ops Q m i rest dst (.load t x) ((zaK ops j).bind fun t => zaN (e t) want) e h acc := za6 rfl
theorem zu6 {t : TypeId} {x y : Operand} : adr P n ops Q m i (⟨dst, .store t x y, ty, pos, after, none⟩ :: rest) e h acc = zfo P n ops Q m i rest dst (((.store t x y : Op).operands.toList.map (ev e)).flatMap AV.ids) (aev P (n + i) (.store t x y) e h) e h acc := za5 rfl
theorem zsW {t : TypeId} {x y : Operand} : adr P n ops Q m i (⟨dst, .store t x y, ty, pos, after, some (j, want)⟩ :: rest) e h acc = zgk P n ops Q m i rest dst (.store t x y) ((zaK ops j).bind fun t => zaN (e t) want) e h acc := za6 rfl
theorem zu0 {o : BinOp} {t : TypeId} {x y : Operand} {t' : TypeId} : adr P n ops Q m i (⟨dst, .binOp o t x y t', ty, pos, after, none⟩ :: rest) e h acc = zfo P n ops Q m i rest dst (((.binOp o t x y t' : Op).operands.toList.map (ev e)).flatMap AV.ids) (aev P (n + i) (.binOp o t x y t') e h) e h acc := za5 rfl
theorem zsQ {o : BinOp} {t : TypeId} {x y : Operand} {t' : TypeId} : adr P n ops Q m i (⟨dst, .binOp o t x y t', ty, pos, after, some (j, want)⟩ :: rest) e h acc = zgk P n ops Q m i rest dst (.binOp o t x y t') ((zaK ops j).bind fun t => zaN (e t) want) e h acc := za6 rfl
theorem zxR {o : UnOp} {t : TypeId} {x : Operand} : adr P n ops Q m i (⟨dst, .unOp o t x, ty, pos, after, none⟩ :: rest) e h acc = zfo P n ops Q m i rest dst (((.unOp o t x : Op).operands.toList.map (ev e)).flatMap AV.ids) (aev P (n + i) (.unOp o t x) e h) e h acc := za5 rfl
theorem zn4 {x : Operand} : adr P n ops Q m i (⟨dst, .nilCheck x, ty, pos, after, none⟩ :: rest) e h acc = zfo P n ops Q m i rest dst (((.nilCheck x : Op).operands.toList.map (ev e)).flatMap AV.ids) (aev P (n + i) (.nilCheck x) e h) e h acc := za5 rfl
theorem zuY {o : UnOp} {t : TypeId} {x : Operand} : adr P n ops Q m i (⟨dst, .unOp o t x, ty, pos, after, some (j, want)⟩ :: rest) e h acc = zgk P n ops Q m i rest dst (.unOp o t x) ((zaK ops j).bind fun t => zaN (e t) want) e h acc := za6 rfl
theorem zmJ {x : Operand} : adr P n ops Q m i (⟨dst, .nilCheck x, ty, pos, after, some (j, want)⟩ :: rest) e h acc = zgk P n ops Q m i rest dst (.nilCheck x) ((zaK ops j).bind fun t => zaN (e t) want) e h acc := za6 rfl
theorem zqf {s d : TypeId} {x : Operand} : adr P n ops Q m i (⟨dst, .convert s d x, ty, pos, after, none⟩ :: rest) e h acc = zfo P n ops Q m i rest dst (((.convert s d x : Op).operands.toList.map (ev e)).flatMap AV.ids) (aev P (n + i) (.convert s d x) e h) e h acc := za5 rfl
theorem znY {s d : TypeId} {x : Operand} : adr P n ops Q m i (⟨dst, .convert s d x, ty, pos, after, some (j, want)⟩ :: rest) e h acc = zgk P n ops Q m i rest dst (.convert s d x) ((zaK ops j).bind fun t => zaN (e t) want) e h acc := za6 rfl
theorem zmK {t : TypeId} {x : Operand} {f : Nat} : adr P n ops Q m i (⟨dst, .fieldAddr t x f, ty, pos, after, none⟩ :: rest) e h acc = zfo P n ops Q m i rest dst (((.fieldAddr t x f : Op).operands.toList.map (ev e)).flatMap AV.ids) (aev P (n + i) (.fieldAddr t x f) e h) e h acc := za5 rfl
theorem zk5 {t : TypeId} {x : Operand} {f : Nat} : adr P n ops Q m i (⟨dst, .fieldAddr t x f, ty, pos, after, some (j, want)⟩ :: rest) e h acc = zgk P n ops Q m i rest dst (.fieldAddr t x f) ((zaK ops j).bind fun t => zaN (e t) want) e h acc := za6 rfl
theorem zu2 {t : TypeId} {x : Operand} {f : Nat} : adr P n ops Q m i (⟨dst, .field t x f, ty, pos, after, none⟩ :: rest) e h acc = zfo P n ops Q m i rest dst (((.field t x f : Op).operands.toList.map (ev e)).flatMap AV.ids) (aev P (n + i) (.field t x f) e h) e h acc := za5 rfl
theorem zsS {t : TypeId} {x : Operand} {f : Nat} : adr P n ops Q m i (⟨dst, .field t x f, ty, pos, after, some (j, want)⟩ :: rest) e h acc = zgk P n ops Q m i rest dst (.field t x f) ((zaK ops j).bind fun t => zaN (e t) want) e h acc := za6 rfl
theorem zmL {t : TypeId} {x ix : Operand} : adr P n ops Q m i (⟨dst, .indexAddr t x ix, ty, pos, after, none⟩ :: rest) e h acc = zfo P n ops Q m i rest dst (((.indexAddr t x ix : Op).operands.toList.map (ev e)).flatMap AV.ids) (aev P (n + i) (.indexAddr t x ix) e h) e h acc := za5 rfl
theorem zk6 {t : TypeId} {x ix : Operand} : adr P n ops Q m i (⟨dst, .indexAddr t x ix, ty, pos, after, some (j, want)⟩ :: rest) e h acc = zgk P n ops Q m i rest dst (.indexAddr t x ix) ((zaK ops j).bind fun t => zaN (e t) want) e h acc := za6 rfl
theorem zu3 {t : TypeId} {x ix : Operand} : adr P n ops Q m i (⟨dst, .index t x ix, ty, pos, after, none⟩ :: rest) e h acc = zfo P n ops Q m i rest dst (((.index t x ix : Op).operands.toList.map (ev e)).flatMap AV.ids) (aev P (n + i) (.index t x ix) e h) e h acc := za5 rfl
theorem zsT {t : TypeId} {x ix : Operand} : adr P n ops Q m i (⟨dst, .index t x ix, ty, pos, after, some (j, want)⟩ :: rest) e h acc = zgk P n ops Q m i rest dst (.index t x ix) ((zaK ops j).bind fun t => zaN (e t) want) e h acc := za6 rfl
theorem zqg {x : Operand} {fi : Nat} : adr P n ops Q m i (⟨dst, .extract x fi, ty, pos, after, none⟩ :: rest) e h acc = zfo P n ops Q m i rest dst (((.extract x fi : Op).operands.toList.map (ev e)).flatMap AV.ids) (aev P (n + i) (.extract x fi) e h) e h acc := za5 rfl
theorem znZ {x : Operand} {fi : Nat} : adr P n ops Q m i (⟨dst, .extract x fi, ty, pos, after, some (j, want)⟩ :: rest) e h acc = zgk P n ops Q m i rest dst (.extract x fi) ((zaK ops j).bind fun t => zaN (e t) want) e h acc := za6 rfl
theorem zqh {t : TypeId} {r : Option Operand} : adr P n ops Q m i (⟨dst, .makeMap t r, ty, pos, after, none⟩ :: rest) e h acc = zfo P n ops Q m i rest dst (((.makeMap t r : Op).operands.toList.map (ev e)).flatMap AV.ids) (aev P (n + i) (.makeMap t r) e h) e h acc := za5 rfl
theorem zn0 {t : TypeId} {r : Option Operand} : adr P n ops Q m i (⟨dst, .makeMap t r, ty, pos, after, some (j, want)⟩ :: rest) e h acc = zgk P n ops Q m i rest dst (.makeMap t r) ((zaK ops j).bind fun t => zaN (e t) want) e h acc := za6 rfl
theorem zmN {t : TypeId} {m' k x : Operand} : adr P n ops Q m i (⟨dst, .mapUpdate t m' k x, ty, pos, after, none⟩ :: rest) e h acc = zfo P n ops Q m i rest dst (((.mapUpdate t m' k x : Op).operands.toList.map (ev e)).flatMap AV.ids) (aev P (n + i) (.mapUpdate t m' k x) e h) e h acc := za5 rfl
theorem zk8 {t : TypeId} {m' k x : Operand} : adr P n ops Q m i (⟨dst, .mapUpdate t m' k x, ty, pos, after, some (j, want)⟩ :: rest) e h acc = zgk P n ops Q m i rest dst (.mapUpdate t m' k x) ((zaK ops j).bind fun t => zaN (e t) want) e h acc := za6 rfl
theorem zsY {t : TypeId} {m' k x : Operand} : adr P n ops Q m i (⟨dst, .insert t m' k x, ty, pos, after, none⟩ :: rest) e h acc = zfo P n ops Q m i rest dst (((.insert t m' k x : Op).operands.toList.map (ev e)).flatMap AV.ids) (aev P (n + i) (.insert t m' k x) e h) e h acc := za5 rfl
theorem zqc {t : TypeId} {m' k x : Operand} : adr P n ops Q m i (⟨dst, .insert t m' k x, ty, pos, after, some (j, want)⟩ :: rest) e h acc = zgk P n ops Q m i rest dst (.insert t m' k x) ((zaK ops j).bind fun t => zaN (e t) want) e h acc := za6 rfl
theorem zsZ {t : TypeId} {m' k : Operand} {ok : Bool} : adr P n ops Q m i (⟨dst, .lookup t m' k ok, ty, pos, after, none⟩ :: rest) e h acc = zfo P n ops Q m i rest dst (((.lookup t m' k ok : Op).operands.toList.map (ev e)).flatMap AV.ids) (aev P (n + i) (.lookup t m' k ok) e h) e h acc := za5 rfl
theorem zqd {t : TypeId} {m' k : Operand} {ok : Bool} : adr P n ops Q m i (⟨dst, .lookup t m' k ok, ty, pos, after, some (j, want)⟩ :: rest) e h acc = zgk P n ops Q m i rest dst (.lookup t m' k ok) ((zaK ops j).bind fun t => zaN (e t) want) e h acc := za6 rfl
theorem zmM {t : TypeId} {l c : Operand} : adr P n ops Q m i (⟨dst, .makeSlice t l c, ty, pos, after, none⟩ :: rest) e h acc = zfo P n ops Q m i rest dst (((.makeSlice t l c : Op).operands.toList.map (ev e)).flatMap AV.ids) (aev P (n + i) (.makeSlice t l c) e h) e h acc := za5 rfl
theorem zk7 {t : TypeId} {l c : Operand} : adr P n ops Q m i (⟨dst, .makeSlice t l c, ty, pos, after, some (j, want)⟩ :: rest) e h acc = zgk P n ops Q m i rest dst (.makeSlice t l c) ((zaK ops j).bind fun t => zaN (e t) want) e h acc := za6 rfl
theorem zu5 {t : TypeId} {x : Operand} {lo hi mx : Option Operand} : adr P n ops Q m i (⟨dst, .slice t x lo hi mx, ty, pos, after, none⟩ :: rest) e h acc = zfo P n ops Q m i rest dst (((.slice t x lo hi mx : Op).operands.toList.map (ev e)).flatMap AV.ids) (aev P (n + i) (.slice t x lo hi mx) e h) e h acc := za5 rfl
theorem zsV {t : TypeId} {x : Operand} {lo hi mx : Option Operand} : adr P n ops Q m i (⟨dst, .slice t x lo hi mx, ty, pos, after, some (j, want)⟩ :: rest) e h acc = zgk P n ops Q m i rest dst (.slice t x lo hi mx) ((zaK ops j).bind fun t => zaN (e t) want) e h acc := za6 rfl
theorem zhN {t : TypeId} {x : Operand} : adr P n ops Q m i (⟨dst, .makeInterface t x, ty, pos, after, none⟩ :: rest) e h acc = zfo P n ops Q m i rest dst (((.makeInterface t x : Op).operands.toList.map (ev e)).flatMap AV.ids) (aev P (n + i) (.makeInterface t x) e h) e h acc := za5 rfl
theorem zg7 {t : TypeId} {x : Operand} : adr P n ops Q m i (⟨dst, .makeInterface t x, ty, pos, after, some (j, want)⟩ :: rest) e h acc = zgk P n ops Q m i rest dst (.makeInterface t x) ((zaK ops j).bind fun t => zaN (e t) want) e h acc := za6 rfl
theorem zu4 {x : Operand} : adr P n ops Q m i (⟨dst, .panic x, ty, pos, after, none⟩ :: rest) e h acc = zfo P n ops Q m i rest dst (((.panic x : Op).operands.toList.map (ev e)).flatMap AV.ids) (aev P (n + i) (.panic x) e h) e h acc := za5 rfl
theorem zsU {x : Operand} : adr P n ops Q m i (⟨dst, .panic x, ty, pos, after, some (j, want)⟩ :: rest) e h acc = zgk P n ops Q m i rest dst (.panic x) ((zaK ops j).bind fun t => zaN (e t) want) e h acc := za6 rfl
theorem zqe {b : Builtin} {args : Array Operand} {ats : Array TypeId} : adr P n ops Q m i (⟨dst, .call ⟨.builtin b, args, ats⟩, ty, pos, after, none⟩ :: rest) e h acc = zfo P n ops Q m i rest dst (((.call ⟨.builtin b, args, ats⟩ : Op).operands.toList.map (ev e)).flatMap AV.ids) (aev P (n + i) (.call ⟨.builtin b, args, ats⟩) e h) e h acc := za5 rfl
theorem znX {b : Builtin} {args : Array Operand} {ats : Array TypeId} : adr P n ops Q m i (⟨dst, .call ⟨.builtin b, args, ats⟩, ty, pos, after, some (j, want)⟩ :: rest) e h acc = zgk P n ops Q m i rest dst (.call ⟨.builtin b, args, ats⟩) ((zaK ops j).bind fun t => zaN (e t) want) e h acc := za6 rfl
theorem zn3 {f : Fn} {xs ys : Array Operand} : adr P n ops Q m i (⟨dst, .makeFunc f xs ys, ty, pos, after, none⟩ :: rest) e h acc = zfo P n ops Q m i rest dst (((.makeFunc f xs ys : Op).operands.toList.map (ev e)).flatMap AV.ids) (aev P (n + i) (.makeFunc f xs ys) e h) e h acc := za5 rfl
theorem zmI {f : Fn} {xs ys : Array Operand} : adr P n ops Q m i (⟨dst, .makeFunc f xs ys, ty, pos, after, some (j, want)⟩ :: rest) e h acc = zgk P n ops Q m i rest dst (.makeFunc f xs ys) ((zaK ops j).bind fun t => zaN (e t) want) e h acc := za6 rfl
end drawEq
attribute [go_sem] zqh zn0 zmN zk8 zsY zqc zsZ zqd zxP zuW zsX zqb zxQ zuX zuZ zsP zz7 zxM zu1 zsR zk9 zjv zxO zuV zu6 zsW zu0 zsQ zxR zuY zn4 zmJ zqf znY zmK zk5 zu2 zsS zmL zk6 zu3 zsT zqg znZ zmM zk7 zu5 zsV zhN zg7 zu4 zsU zqe znX zn3 zmI
attribute [go_sem] zxY zz8 zxN VC_adr dRes_0 zAz dRes_1 zAA zAv zAx zyo zAw zyn zvK AV.ids List.flatMap_cons List.flatMap_nil
section gcall
variable {P : Program} {Q : zb0} {e : Env} {h : zav} {n m i : Nat} {ops rest : List Oper} {acc : List zfi}
def aGC (P : Program) (ops : List Oper) (Q : zb0) (rest : List Oper) (dst : Option Tmp) (g : Bool) (fv : AV) (args : List AV) (e : Env) (h : zav) (n : Nat) : Prop :=
 (∃ x, (g = true → zgj P fv args h n fun r h' n' => r = x ∧ h' = h ∧ n' = n) ∧ zbq P ops Q rest (put e dst (.gd g x)) h n) ∨
 (g = true ∧ zgj P fv args h n fun r h' n' => zbq P ops Q rest (put e dst (.gd true r)) h' n') ∨
 (g = true ∧ ziZ e fv args h n fun e' r h' => zbq P ops Q rest (put e' dst (.gd true r)) h' n)
def zi0 (P : Program) (ops : List Oper) (Q : zb0) (rest : List Oper) (dst : Option Tmp) (f : Operand) (args : List Operand) (op : Op) (g : Option Bool) (e : Env) (h : zav) (n : Nat) : Prop :=
 match g with
 | none => False
 | some g => VQ (∀ t ∈ zcF op, okG g (e t)) (aGC P ops Q rest dst g (ev (fun t => unG (e t)) f) (args.map (ev fun t => unG (e t))) e h n)
theorem zs4 {dst : Option Tmp} {f : Operand} {args : Array Operand} {ats : Array TypeId} {ty : TypeId} {pos : String} {after : Array Edge} {j : Nat} {want : Bool} :
  zbq P ops Q (⟨dst, .call ⟨.value f, args, ats⟩, ty, pos, after, some (j, want)⟩ :: rest) e h n = zi0 P ops Q rest dst f args.toList (.call ⟨.value f, args, ats⟩) ((zaK ops j).bind fun t => zaN (e t) want) e h n := rfl
theorem zmH {dst : Option Tmp} {f : Operand} {args : List Operand} {op : Op} {g : Bool} : zi0 P ops Q rest dst f args op (some g) e h n = VQ (∀ t ∈ zcF op, okG g (e t)) (aGC P ops Q rest dst g (ev (fun t => unG (e t)) f) (args.map (ev fun t => unG (e t))) e h n) := rfl
theorem zBZ {dst : Option Tmp} {g : Bool} {f : FuncId} {first caps args : List AV} (args' : List AV) (r : AV) (hp : g = true → zaC P f args' r) (hfl : zrv r) (hle : zai h noH n (first ++ args ++ caps) args') (hb : ∀ c ∈ args', Bel 0 c)
  (hk : zbq P ops Q rest (put e dst (.gd g r)) h n) : aGC P ops Q rest dst g (.fn (.func f) first caps) args e h n :=
 .inl ⟨r, fun hg => zBW (hp hg) hfl hle hb ⟨rfl, rfl, rfl⟩, hk⟩
theorem zBQ {dst : Option Tmp} {g : Bool} {f : FuncId} {first caps args : List AV} (r : AV) (hp : g = true → zaC P f (first ++ args ++ caps) r) (hb : ∀ c ∈ first ++ args ++ caps, Bel 0 c)
  (hk : zbq P ops Q rest (put e dst (.gd g r)) h n) : aGC P ops Q rest dst g (.fn (.func f) first caps) args e h n :=
 .inl ⟨r, fun hg => zBn (hp hg) hb ⟨rfl, rfl, rfl⟩, hk⟩
theorem aGC.skip (x : AV) {dst : Option Tmp} {fv : AV} {args : List AV} (hk : zbq P ops Q rest (put e dst (.gd false x)) h n) : aGC P ops Q rest dst false fv args e h n := .inl ⟨x, (fun hg => nomatch hg), hk⟩
theorem zBJ {dst : Option Tmp} {f : FuncId} {first caps args : List AV} (hk : zaa P f (first ++ args ++ caps) h n fun r h' n' => zbq P ops Q rest (put e dst (.gd true r)) h' n') : aGC P ops Q rest dst true (.fn (.func f) first caps) args e h n := .inr (.inl ⟨rfl, hk⟩)
def dGC (P : Program) (n : Nat) (ops : List Oper) (Q : zb0) (m : Nat) (i : Nat) (rest : List Oper) (dst : Option Tmp) (g : Bool) (fv : AV) (args : List AV) (e : Env) (h : zav) (acc : List zfi) : Prop :=
 ∃ r S wr, (g = true → zgq P (n + ops.length + 16 * i) fv args h r S wr) ∧ (g = false → wr = []) ∧ adr P n ops Q m (i + 1) rest (put e dst (.gd g r)) (zao wr h) (acc ++ [(S, wr.map (·.1))])
def zi5 (P : Program) (n : Nat) (ops : List Oper) (Q : zb0) (m : Nat) (i : Nat) (rest : List Oper) (dst : Option Tmp) (f : Operand) (args : List Operand) (op : Op) (g : Option Bool) (e : Env) (h : zav) (acc : List zfi) : Prop :=
 match g with
 | none => False
 | some g => VQ (∀ t ∈ zcF op, okG g (e t)) (dGC P n ops Q m i rest dst g (ev (fun t => unG (e t)) f) (args.map (ev fun t => unG (e t))) e h acc)
theorem zuU {dst : Option Tmp} {f : Operand} {args : Array Operand} {ats : Array TypeId} {ty : TypeId} {pos : String} {after : Array Edge} {j : Nat} {want : Bool} :
  adr P n ops Q m i (⟨dst, .call ⟨.value f, args, ats⟩, ty, pos, after, some (j, want)⟩ :: rest) e h acc = zi5 P n ops Q m i rest dst f args.toList (.call ⟨.value f, args, ats⟩) ((zaK ops j).bind fun t => zaN (e t) want) e h acc := rfl
theorem zm5 {dst : Option Tmp} {f : Operand} {args : List Operand} {op : Op} {g : Bool} : zi5 P n ops Q m i rest dst f args op (some g) e h acc = VQ (∀ t ∈ zcF op, okG g (e t)) (dGC P n ops Q m i rest dst g (ev (fun t => unG (e t)) f) (args.map (ev fun t => unG (e t))) e h acc) := rfl
theorem zBT {dst : Option Tmp} {g : Bool} {f : FuncId} {first caps args : List AV} (args' : List AV) (r : AV) (S : List Nat) (hp : g = true → zaC P f args' r) (hfl : zrv r) (hle : ∀ h₁ : zav, (∀ o ∈ S, h o = h₁ o) → zai h₁ noH 0 (first ++ args ++ caps) args')
  (hb : ∀ c ∈ args', Bel 0 c) (hk : adr P n ops Q m (i + 1) rest (put e dst (.gd g r)) h (acc ++ [(S, [])])) : dGC P n ops Q m i rest dst g (.fn (.func f) first caps) args e h acc :=
 ⟨r, S, [], fun hg => .inl ⟨rfl, f, first, caps, args', rfl, hb, hp hg, .inl ⟨hle, hfl⟩⟩, fun _ => rfl, hk⟩
theorem zBz {dst : Option Tmp} {g : Bool} {f : FuncId} {first caps args : List AV} (r : AV) (hp : g = true → zaC P f (first ++ args ++ caps) r) (hb : ∀ c ∈ first ++ args ++ caps, Bel 0 c)
  (hk : adr P n ops Q m (i + 1) rest (put e dst (.gd g r)) h (acc ++ [([], [])])) : dGC P n ops Q m i rest dst g (.fn (.func f) first caps) args e h acc :=
 ⟨r, [], [], fun hg => .inl ⟨rfl, f, first, caps, _, rfl, hb, hp hg, .inr rfl⟩, fun _ => rfl, hk⟩
theorem dGC.skip (x : AV) {dst : Option Tmp} {fv : AV} {args : List AV} (hk : adr P n ops Q m (i + 1) rest (put e dst (.gd false x)) h (acc ++ [([], [])])) : dGC P n ops Q m i rest dst false fv args e h acc :=
 ⟨x, [], [], (fun hg => nomatch hg), fun _ => rfl, hk⟩
theorem dGC.frz {dst : Option Tmp} {f : FuncId} {first caps args : List AV} (args' : List AV) (r : AV) (S : List Nat) (wr : List (Nat × Option zbt)) (hp : zaC P f args' r)
  (hw : ∀ p ∈ wr, p.1 ∈ S ∧ ∃ g sz rs, p.2 = some (.rows false g sz rs) ∧ h p.1 = some (.rows true g sz rs)) (hle : ∀ h₁ : zav, (∀ o ∈ S, h o = h₁ o) → zai h₁ (zao wr h₁) 0 (first ++ args ++ caps) args') (hb : ∀ c ∈ args', Bel 0 c)
  (hk : adr P n ops Q m (i + 1) rest (put e dst (.gd true r)) (zao wr h) (acc ++ [(S, wr.map (·.1))])) : dGC P n ops Q m i rest dst true (.fn (.func f) first caps) args e h acc :=
 ⟨r, S, wr, fun _ => .inr (.inl ⟨f, first, caps, args', rfl, hb, hp, hw, hle⟩), (fun h => nomatch h), hk⟩
@[congr] theorem aGC_congr {dst : Option Tmp} {g g' : Bool} {fv fv' : AV} {args args' : List AV} (hg : g = g') (h0 : fv = fv') (h1 : args = args') : aGC P ops Q rest dst g fv args e h n = aGC P ops Q rest dst g' fv' args' e h n := by subst h0 h1 hg; rfl
@[congr] theorem zxp {dst : Option Tmp} {f : Operand} {args : List Operand} {op : Op} {g g' : Option Bool} (h0 : g = g') : zi0 P ops Q rest dst f args op g e h n = zi0 P ops Q rest dst f args op g' e h n := by subst h0; rfl
@[congr] theorem dGC_congr {dst : Option Tmp} {g g' : Bool} {fv fv' : AV} {args args' : List AV} {i' : Nat} (hi : i = i') (hg : g = g') (h0 : fv = fv') (h1 : args = args') : dGC P n ops Q m i rest dst g fv args e h acc = dGC P n ops Q m i' rest dst g' fv' args' e h acc := by subst h0 h1 hg hi; rfl
@[congr] theorem zxr {dst : Option Tmp} {f : Operand} {args : List Operand} {op : Op} {g g' : Option Bool} {i' : Nat} (hi : i = i') (h0 : g = g') : zi5 P n ops Q m i rest dst f args op g e h acc = zi5 P n ops Q m i' rest dst f args op g' e h acc := by subst h0 hi; rfl
end gcall
attribute [go_sem] zs4 zmH zuU zm5

theorem zmF {n : Nat} : ∀ {xs : List AV}, (∀ c ∈ xs, Bel 0 c) → ShL n xs xs
 | [], _ => .nil
 | x :: xs, h => .cons (.same (h x (by simp))) (zmF fun c hc => h c (by simp [hc]))
theorem Sh_agg {n : Nat} {xs ys : List AV} : Sh n (.agg xs) (.agg ys) = ShL n xs ys := propext ⟨fun h => by
 cases h with
 | same h => cases h with | agg h => exact zmF h
 | agg h => exact h, .agg⟩
theorem Sh_tup {n : Nat} {xs ys : List AV} : Sh n (.tup xs) (.tup ys) = ShL n xs ys := propext ⟨fun h => by
 cases h with
 | same h => cases h with | tup h => exact zmF h
 | tup h => exact h, .tup⟩
theorem Sh_fn {n : Nat} {f : Fn} {a b a' b' : List AV} (h : ShL n a a') (h' : ShL n b b') : Sh n (.fn f a b) (.fn f a' b') = True := eq_true (.fn h h')
theorem Sh_ref {n o g sz i off : Nat} : Sh n (.ref o g sz i off) (.ref (n + o) g sz i off) = True := eq_true .ref
theorem Sh_sl {n o g sz i len : Nat} : Sh n (.sl o g sz i len) (.sl (n + o) g sz i len) = True := eq_true .sl
theorem zzW {n g sz i off : Nat} : Sh n (.ref 0 g sz i off) (.ref n g sz i off) = True := eq_true (.ref (o := 0))
theorem Sh_sl0 {n g sz i len : Nat} : Sh n (.sl 0 g sz i len) (.sl n g sz i len) = True := eq_true (.sl (o := 0))
theorem Sh_v {n : Nat} {x : Value} : Sh n (.v x) (.v x) = True := eq_true (.same (.v x))
theorem Sh_lst {n sz : Nat} {rows : List (List AV)} (h : ∀ r ∈ rows, ∀ c ∈ r, Bel 0 c) : Sh n (.lst sz rows) (.lst sz rows) = True := eq_true (.same (.lst h))
theorem zzV {n : Nat} : ShL n [] [] = True := eq_true .nil
theorem zxF {n : Nat} {x y : AV} {xs ys : List AV} : ShL n (x :: xs) (y :: ys) = (Sh n x y ∧ ShL n xs ys) := propext ⟨fun h => by cases h with | cons a b => exact ⟨a, b⟩, fun h => .cons h.1 h.2⟩
theorem zuP {n : Nat} {rs : List (List AV)} (h : ∀ r ∈ rs, ∀ c ∈ r, Bel 0 c) : zrz n rs rs = True := eq_true (.same h)
theorem zxE {n : Nat} : zrz n [] [] = True := eq_true .nil
theorem zuO {n : Nat} {x y : List AV} {xs ys : List (List AV)} (h : ShL n x y ∧ zrz n xs ys) : zrz n (x :: xs) (y :: ys) = True := eq_true (.cons h.1 h.2)
theorem zxG {n : Nat} {mt : Bool} {g sz : Nat} {rs rs' : List (List AV)} : ShO n (.rows mt g sz rs) (.rows mt g sz rs') = zrz n rs rs' := propext ⟨fun h => by cases h; assumption, .rows⟩
theorem zzU {n : Nat} : ShH n [] [] = True := eq_true .nil
theorem zry {n o : Nat} {x y : zbt} {l l' : List (Nat × zbt)} : ShH n ((o, x) :: l) ((n + o, y) :: l') = (ShO n x y ∧ ShH n l l') :=
 propext ⟨fun h => by cases h with | cons a b => exact ⟨a, b⟩, fun h => .cons h.1 h.2⟩
theorem zuN {n : Nat} {x y : zbt} {l l' : List (Nat × zbt)} : ShH n ((0, x) :: l) ((n, y) :: l') = (ShO n x y ∧ ShH n l l') := zry (o := 0)
attribute [go_sem] Sh_agg Sh_tup Sh_fn Sh_ref Sh_sl zzW Sh_sl0 Sh_v Sh_lst zzV zxF zuP zxE zuO zxG zzU zry zuN zd7
theorem zyM {h h' : zav} {n : Nat} {x : AV} : LeV h h' n x x := .refl x
attribute [go_sem] zyM
theorem zzO {n : Int} : InR .i64 n = (-9223372036854775808 ≤ n ∧ n ≤ 9223372036854775807) := by
 simp [InR, IntKind.min, IntKind.max, IntKind.signed, IntKind.bits]
theorem InR_u8 {n : Int} : InR .u8 n = (0 ≤ n ∧ n ≤ 255) := by
 simp [InR, IntKind.min, IntKind.max, IntKind.signed, IntKind.bits]
theorem zzQ {n : Int} : InR .u64 n = (0 ≤ n ∧ n ≤ 18446744073709551615) := by
 simp [InR, IntKind.min, IntKind.max, IntKind.signed, IntKind.bits]
theorem zzP {n : Int} : InR .u32 n = (0 ≤ n ∧ n ≤ 4294967295) := by
 simp [InR, IntKind.min, IntKind.max, IntKind.signed, IntKind.bits]
attribute [go_sem] zzO InR_u8 zzQ zzP
theorem oc_int {k : IntKind} {n : Int} : (Value.int k n).oneCell' = true := rfl
theorem zAX {b : Bool} : (Value.bool b).oneCell' = true := rfl
theorem zyZ {a : Option Addr} {l c : Nat} : (Value.slice a l c).oneCell' = true := rfl
theorem zt0 {a : Option Addr} : (Value.pointer a).oneCell' = true := rfl
attribute [go_sem] oc_int zAX zyZ zt0
structure LS where
 E : List (Nat × AV)
 H : List (Nat × zbt)
 n : Nat
def zuF (n0 : Nat) (B : zb0 → Env → zav → Nat → Prop) (Q : zb0) (s : LS) : Prop := zac n0 B Q (mkE s.E) (mkH s.H) s.n
theorem zBr {P : Program} {n0 : Nat} {b : Code} {Q : zb0} {α : Type} (S : α → LS) (I : Nat → α → Prop)
  (step : ∀ d a, I d a → (∀ d', d' < d → ∀ a', I d' a' → zuF n0 (awp P n0 b) Q (S a')) → awp P n0 b (zuD (zac n0 (awp P n0 b) Q) Q) (mkE (S a).E) (mkH (S a).H) (S a).n) :
  ∀ d a, I d a → zuF n0 (awp P n0 b) Q (S a) := by
 intro d
 induction d using Nat.strongRecOn with
 | ind d ih => intro a ha; exact zBv (step d a ha fun d' hd a' ha' => ih d' hd a' ha')
theorem zBm {P : Program} {n0 : Nat} {b : Code} {Q : zb0} {e : Env} {h : zav} {n : Nat} {s : LS} (hh : zuF n0 (awp P n0 b) Q s) (hk : Wk e h n s.E s.H s.n) (hn : n0 ≤ s.n) : zac n0 (awp P n0 b) Q e h n :=
 zac.forget s.E s.H s.n hk hn hh
theorem zah {e : Env} {h : zav} {n : Nat} {E : List (Nat × AV)} {HH : List (Nat × zbt)} {n' : Nat} :
  Wk e h n E HH n' = ((∀ p ∈ E, LeV h (mkH HH) n (e p.1) p.2 ∧ Bel n' p.2) ∧ ∀ p ∈ HH, p.1 < n' ∧ LeO h (mkH HH) n p.1 (h p.1) p.2 ∧ zzK n' p.2) :=
 propext ⟨fun h => ⟨h.1, h.2⟩, fun h => ⟨h.1, h.2⟩⟩
theorem zyK {h h' : zav} {n o : Nat} {mt : Bool} {g sz : Nat} {rs : List (List AV)} : LeO h h' n o (some (.rows mt g sz rs)) (.rows mt g sz rs) = True := eq_true (.same (fun h => h) (.refl _))
theorem zAM {h h' : zav} {n o g sz : Nat} (hn : n ≤ o) : LeO h h' n o none (.rows true g sz []) = True := eq_true (.own hn)
theorem zwi {h h' : zav} {n : Nat} : zai h h' n [] [] = True := eq_true .nil
theorem ztR {h h' : zav} {n : Nat} {x y : AV} {xs ys : List AV} : zai h h' n (x :: xs) (y :: ys) = (LeV h h' n x y ∧ zai h h' n xs ys) :=
 propext ⟨fun h => by cases h with | cons a b => exact ⟨a, b⟩, fun h => .cons h.1 h.2⟩
theorem zAN {h h' : zav} {n sz c : Nat} {A : Option Addr} : LeV h h' n (.v (.slice A 0 c)) (.lst sz []) = True := eq_true (.nil sz)
theorem zAP {h h' : zav} {n : Nat} {x : AV} : LeV h h' n x .top = True := eq_true (.top x)
theorem zAO {h h' : zav} {n o g sz : Nat} (hn : n ≤ o) (ho : h' o = some (.rows true g sz [])) : LeV h h' n (.v (.slice none 0 0)) (.sl o g sz 0 0) = True := eq_true (.own hn ho)
theorem noH_eq (o : Nat) : noH o = none := rfl
theorem zam {h h' : zav} {n o g sz i len : Nat} {mt : Bool} {rs rows : List (List AV)} (ho : h o = some (.rows mt g sz rs)) (hl : i + len ≤ rs.length) (ho' : ∀ g sz rs, h' o ≠ some (.rows true g sz rs)) (hr : (rs.drop i).take len = rows) :
  LeV h h' n (.sl o g sz i len) (.lst sz rows) := .frz ho hl ho' (hr ▸ .refl _)
theorem zB6 {h h' : zav} {n : Nat} {xs ys : List AV} (e : xs = ys) : zai h h' n xs ys := e ▸ .refl _ _ _ _
theorem zyJ {h h' : zav} {n o : Nat} {mt mt' : Bool} {g g' sz sz' : Nat} {rs rs' : List (List AV)} : LeO h h' n o (some (.rows mt g sz rs)) (.rows mt' g' sz' rs') = (g = g' ∧ sz = sz' ∧ (mt' = true → mt = true) ∧ zae h h' n rs rs') :=
 propext ⟨fun h => by cases h with | same hm hr => exact ⟨rfl, rfl, hm, hr⟩, fun ⟨h1, h2, h3, h4⟩ => by subst h1 h2; exact .same h3 h4⟩
theorem zqV {h h' : zav} {n : Nat} {rs : List (List AV)} : zae h h' n rs rs = True := eq_true (.refl _)
theorem zqU {h h' : zav} {n : Nat} {x y : List AV} {xs ys : List (List AV)} : zae h h' n (x :: xs) (y :: ys) = (zai h h' n x y ∧ zae h h' n xs ys) :=
 propext ⟨fun h => by cases h with
  | refl => exact ⟨.refl _ _ _ _, .refl _⟩
  | cons h t => exact ⟨h, t⟩, fun h => .cons h.1 h.2⟩
theorem zyL {h h' : zav} {n : Nat} {xs ys : List AV} : LeV h h' n (.agg xs) (.agg ys) = zai h h' n xs ys :=
 propext ⟨fun h => by cases h with
  | refl => exact .refl _ _ _ _
  | agg h => exact h, .agg⟩
theorem zyN {h h' : zav} {n : Nat} {xs ys : List AV} : LeV h h' n (.tup xs) (.tup ys) = zai h h' n xs ys :=
 propext ⟨fun h => by cases h with
  | refl => exact .refl _ _ _ _
  | tup h => exact h, .tup⟩
theorem NoFz_v {x : Value} : zfr (.v x) = True := eq_true (.v x)
theorem zxz {o g sz i off : Nat} : zfr (.ref o g sz i off) = True := eq_true (.ref ..)
theorem zzT {o g sz i len : Nat} : zfr (.sl o g sz i len) = True := eq_true (.sl ..)
theorem zxy {xs : List AV} : zfr (.agg xs) = ∀ x ∈ xs, zfr x := propext ⟨fun h => by cases h; assumption, .agg⟩
theorem zxA {xs : List AV} : zfr (.tup xs) = ∀ x ∈ xs, zfr x := propext ⟨fun h => by cases h; assumption, .tup⟩
theorem zzS {f : Fn} {a b : List AV} : zfr (.fn f a b) = ((∀ x ∈ a, zfr x) ∧ ∀ x ∈ b, zfr x) := propext ⟨fun h => by cases h; exact ⟨by assumption, by assumption⟩, fun h => .fn h.1 h.2⟩
theorem zBC {P : Program} {f : FuncId} {args args' : List AV} {h : zav} {n : Nat} {K : zcS} {R : Nat → AV} {HH : Nat → List (Nat × zbt)} {k : Nat} (hp : zgp P f args' R HH k)
  (hnR : zfr (R 0)) (hnH : ∀ p ∈ HH 0, znL p.2) (hle : zai h noH n args args') (hb : ∀ c ∈ args', Bel 0 c) (hk : K (R n) (zd7 (HH n) h) (n + k)) : zaa P f args h n K :=
 zBS hp.1 (fun _ _ _ h => h) (hp.2 n).1 (hp.2 n).2 hnR hnH hle hb hk
attribute [go_sem] zyJ zqV zqU zyL zyN NoFz_v zxz zzT zxy zxA zzS znL zm9
attribute [go_sem] noH_eq zAO zAM mkE mkH zzK zyK zwi ztR zAN zAP List.forall_mem_cons
theorem zBA {h h' : zav} {n : Nat} {x y : AV} (e : x = y) : LeV h h' n x y := e ▸ .refl x
theorem nadd (a b c : Nat) : a + b + c = a + (b + c) := Nat.add_assoc a b c
attribute [go_sem] nadd
class WS (G : Prop) (a X : outParam Prop) : Prop where out : a → (a → X) → G
instance {P : Program} {ops : List Oper} {Q : zb0} {rest : List Oper} {e : Env} {h : zav} {n : Nat} {a : Prop} : WS (VC a (zgD P ops Q rest e h n)) a (zbq P ops Q rest e h n) := ⟨fun h1 h2 => wL h2 h1⟩
instance {P : Program} {ops : List Oper} {Q : zb0} {rest : List Oper} {e : Env} {h : zav} {n m i : Nat} {a : Prop} {acc : List zfi} : WS (VC a (zn1 P n ops Q m i rest e h acc)) a (adr P n ops Q m i rest e h acc) := ⟨fun h1 h2 => wD h2 h1⟩
instance {P : Program} {ops : List Oper} {Q : zb0} {e : Env} {h : zav} {n : Nat} : WS (zn2 P n ops Q e h) True (adr P n ops Q (n + ops.length) 0 ops e h []) := ⟨fun _ h2 => wZ (h2 trivial)⟩
def KR (p : Prop) : Prop := p
theorem kr {p : Prop} (h : p) : KR p := h
instance {ops : List Oper} {Q : zb0} {n : Nat} {e : Env} {h : zav} {recs : List zfi} : WS (zkY Q ops n e h recs) (KR ((zkm ops recs && zwE recs) = true)) (Q .normal e h n) := ⟨fun h1 h2 => zkY.mk h1 (h2 h1)⟩
theorem wV {G a X : Prop} [i : WS G a X] (h2 : a → X) (h1 : a := by first | omega | exact True.intro | rfl | (refine kr ?_; kernel_rfl) | (intros; omega)) : G := i.out h1 h2
theorem leX {p : Prop} (h : p := by ((try simp only [zar, zau, zaE, zaY, zap, zaX, zat, zal, zad, za9, zaQ, zaz, zas, zab, List.map_cons, List.map_nil, List.nil_append, List.append_nil, List.cons_append]); (repeat (first | (with_reducible exact zai.nil) | (with_reducible exact zae.nil) | (with_reducible exact LeV.refl _) | (with_reducible exact zai.refl _ _ _ _) | (with_reducible exact zae.refl _) | (with_reducible refine zai.cons ?_ ?_) | (with_reducible refine zae.cons ?_ ?_) | (with_reducible refine LeV.agg ?_) | (with_reducible refine LeV.tup ?_) | (with_reducible refine LeV.fn ?_ ?_) | (with_reducible exact LeV.nil _) | (with_reducible refine zag (zae.refl _) ?_) | ((refine zam rfl (by simp) (by simp [zaL, zaS, upd, noH]) ?_); (first | (simp [go_sem]; done) | (simp [go_sem]; exact List.take_of_length_le (by simp)))) | ((refine LeV.frz rfl (by simp) (by simp [zaL, zaS, upd, noH]) ?_); (simp only [List.drop_zero, List.take_succ_cons, List.take_zero, List.map_cons, List.map_nil])) | ((refine LeV.frzP rfl (by simp) (by simp) (by simp [zaL, zaS, upd, noH]) ?_); (simp only [zaw, List.drop_zero])))))) : p := h
theorem blX {p : Prop} (h : p := by (intro r hr c hc; (first | (rcases hr with ⟨_, _, rfl⟩ | rfl) | (rcases hr with rfl | ⟨_, _, rfl⟩) | (rcases hr with rfl | rfl) | ((rcases List.mem_or_eq_of_mem_set hr with hr | rfl) <;> first | (obtain ⟨_, _, rfl⟩ := List.mem_map.1 hr; simp only [zb6] at hc) | skip) | (rcases hr with ⟨_, rfl⟩ | ⟨_, rfl⟩) | (rcases hr with ⟨_, _, rfl⟩ | ⟨_, rfl⟩) | (rcases hr with ⟨_, rfl⟩ | ⟨_, _, rfl⟩) | (rcases hr with ⟨_, _, rfl⟩ | ⟨_, _, rfl⟩) | (obtain ⟨_, rfl⟩ := hr) | (obtain ⟨_, _, rfl⟩ := hr)) <;> simp at hc <;> (try subst hc) <;> first | exact .v _ | (rcases hc with rfl | rfl <;> exact .v _))) : p := h
theorem dpX {p : Prop} (h : p := by ((refine LeV.frz rfl (by simp) (by simp [noH, upd]) ?_); (try simp only [List.drop_zero, List.take_succ_cons, List.take_zero, List.map_cons, List.map_nil]); (repeat (first | (with_reducible exact zae.nil) | (with_reducible refine zae.cons ?_ ?_) | (with_reducible exact zai.nil) | (with_reducible refine zai.cons ?_ ?_) | (with_reducible exact LeV.refl _) | (refine zam rfl (by simp) (by simp [noH, upd]) ?_; first | (simp [go_sem]; done) | (simp [go_sem]; exact List.take_of_length_le (by simp))))))) : p := h
theorem agX {p : Prop} (h : p := by ((try simp only [zat, zal, zad, za9, zaQ, zaz, zas, List.nil_append, List.append_nil, List.cons_append]); (repeat (first | (with_reducible exact zai.nil) | (with_reducible refine zai.cons ?_ ?_) | (with_reducible exact LeV.refl _) | (with_reducible refine LeV.agg ?_) | ((refine zam rfl (by simp) (by simp [zaL, zaS, upd, noH]) ?_); (first | (simp [go_sem]; done) | (simp [go_sem]; exact List.take_of_length_le (by simp)))))))) : p := h
theorem rwX {p : Prop} (h : p := by ((refine zag (.refl _) ?_); (repeat (first | (with_reducible exact zae.nil) | (with_reducible refine zae.cons ?_ ?_) | (with_reducible exact zai.nil) | (with_reducible refine zai.cons ?_ ?_) | (with_reducible exact LeV.refl _) | (refine zam rfl (by simp) (by simp [noH, upd]) ?_; first | (simp [go_sem]; done) | (simp [go_sem]; exact List.take_of_length_le (by simp))))))) : p := h
theorem frX {p : Prop} (h : p := by (refine zam rfl (by simp) (by simp [noH, upd]) ?_; first | (simp [go_sem]; done) | (simp [go_sem]; exact List.take_of_length_le (by simp)))) : p := h
end Go.Av
end
section
namespace Go.Av
open Go Go.Proofs Go.Proofs.Tryz
@[go_sem] theorem t_0 : tk prog 0 = .other ∧ tsz prog 0 = some 1 ∧ tby prog 0 = some 0 ∧ zbl prog 0 = some false := by and_intros <;> kernel_rfl
@[go_sem] theorem t_1 : tk prog 1 = .other ∧ tsz prog 1 = some 1 ∧ tby prog 1 = some 8 ∧ tz prog 1 = some [(.v .nilFunc)] ∧ zbl prog 1 = some false := by and_intros <;> kernel_rfl
@[go_sem] theorem t_2 : tk prog 2 = .int .i64 ∧ tsz prog 2 = some 1 ∧ tby prog 2 = some 8 ∧ tz prog 2 = some [(.v (.int .i64 0))] ∧ zbl prog 2 = some false ∧ tz1 prog 2 = some (.int .i64 0) := by and_intros <;> kernel_rfl
@[go_sem] theorem t_3 : tk prog 3 = .int .i64 ∧ tsz prog 3 = some 1 ∧ tby prog 3 = some 8 ∧ tz prog 3 = some [(.v (.int .i64 0))] ∧ zbl prog 3 = some false ∧ tz1 prog 3 = some (.int .i64 0) := by and_intros <;> kernel_rfl
@[go_sem] theorem t_4 : tk prog 4 = .bool ∧ tsz prog 4 = some 1 ∧ tby prog 4 = some 1 ∧ tz prog 4 = some [(.v (.bool false))] ∧ zbl prog 4 = some false ∧ tz1 prog 4 = some (.bool false) := by and_intros <;> kernel_rfl
@[go_sem] theorem t_5 : tk prog 5 = .int .u8 ∧ tsz prog 5 = some 1 ∧ tby prog 5 = some 1 ∧ tz prog 5 = some [(.v (.int .u8 0))] ∧ zbl prog 5 = some false ∧ tz1 prog 5 = some (.int .u8 0) := by and_intros <;> kernel_rfl
@[go_sem] theorem t_6 : tk prog 6 = .int .u8 ∧ tsz prog 6 = some 1 ∧ tby prog 6 = some 1 ∧ tz prog 6 = some [(.v (.int .u8 0))] ∧ zbl prog 6 = some false ∧ tz1 prog 6 = some (.int .u8 0) := by and_intros <;> kernel_rfl
@[go_sem] theorem t_7 : tk prog 7 = .str ∧ tsz prog 7 = some 4 ∧ tby prog 7 = some 24 ∧ tz prog 7 = some [(.v (.int .i64 0)), (.v (.int .i64 0)), (.v (.bool false)), (.v (.int .u8 0))] ∧ zbl prog 7 = some true ∧ tfi prog 7 = true ∧ zpA prog 7 = some [false, false, true, false] ∧ zcd prog 7 0 = some 2 ∧ zb2 prog 7 0 = some 0 ∧ zcd prog 7 1 = some 3 ∧ zb2 prog 7 1 = some 1 ∧ zcd prog 7 2 = some 4 ∧ zb2 prog 7 2 = some 2 ∧ zcd prog 7 3 = some 6 ∧ zb2 prog 7 3 = some 3 := by and_intros <;> kernel_rfl
@[go_sem] theorem t_8 : tk prog 8 = .str ∧ tsz prog 8 = some 4 ∧ tby prog 8 = some 24 ∧ tz prog 8 = some [(.v (.int .i64 0)), (.v (.int .i64 0)), (.v (.bool false)), (.v (.int .u8 0))] ∧ zbl prog 8 = some true ∧ tfi prog 8 = true ∧ zpA prog 8 = some [false, false, true, false] ∧ zcd prog 8 0 = some 2 ∧ zb2 prog 8 0 = some 0 ∧ zcd prog 8 1 = some 3 ∧ zb2 prog 8 1 = some 1 ∧ zcd prog 8 2 = some 4 ∧ zb2 prog 8 2 = some 2 ∧ zcd prog 8 3 = some 6 ∧ zb2 prog 8 3 = some 3 := by and_intros <;> kernel_rfl
@[go_sem] theorem t_9 : tk prog 9 = .string ∧ tsz prog 9 = some 1 ∧ tby prog 9 = some 16 ∧ tz prog 9 = some [(.v (.string ⟨⟨[]⟩⟩))] ∧ zbl prog 9 = some false ∧ tz1 prog 9 = some (.string ⟨⟨[]⟩⟩) := by and_intros <;> kernel_rfl
@[go_sem] theorem t_10 : tk prog 10 = .string ∧ tsz prog 10 = some 1 ∧ tby prog 10 = some 16 ∧ tz prog 10 = some [(.v (.string ⟨⟨[]⟩⟩))] ∧ zbl prog 10 = some false ∧ tz1 prog 10 = some (.string ⟨⟨[]⟩⟩) := by and_intros <;> kernel_rfl
@[go_sem] theorem t_11 : tk prog 11 = .string ∧ tsz prog 11 = some 1 ∧ tby prog 11 = some 16 ∧ tz prog 11 = some [(.v (.string ⟨⟨[]⟩⟩))] ∧ zbl prog 11 = some false ∧ tz1 prog 11 = some (.string ⟨⟨[]⟩⟩) := by and_intros <;> kernel_rfl
@[go_sem] theorem t_12 : tk prog 12 = .int .u64 ∧ tsz prog 12 = some 1 ∧ tby prog 12 = some 8 ∧ tz prog 12 = some [(.v (.int .u64 0))] ∧ zbl prog 12 = some false ∧ tz1 prog 12 = some (.int .u64 0) := by and_intros <;> kernel_rfl
@[go_sem] theorem t_16 : tk prog 16 = .ptr 364 ∧ tsz prog 16 = some 1 ∧ tby prog 16 = some 8 ∧ tz prog 16 = some [(.v (.pointer .none))] ∧ zbl prog 16 = some false := by and_intros <;> kernel_rfl
@[go_sem] theorem t_20 : tk prog 20 = .other ∧ tsz prog 20 = some 1 ∧ tby prog 20 = some 16 ∧ tz prog 20 = some [(.v .nilIface)] ∧ zbl prog 20 = some false := by and_intros <;> kernel_rfl
@[go_sem] theorem t_22 : tk prog 22 = .sl 5 ∧ tsz prog 22 = some 1 ∧ tby prog 22 = some 24 ∧ tz prog 22 = some [(.v (.slice .none 0 0))] ∧ zbl prog 22 = some false := by and_intros <;> kernel_rfl
@[go_sem] theorem t_23 : tk prog 23 = .arr 2 22 ∧ tsz prog 23 = some 2 ∧ tby prog 23 = some 48 ∧ tz prog 23 = some [(.v (.slice .none 0 0)), (.v (.slice .none 0 0))] ∧ zbl prog 23 = some true := by and_intros <;> kernel_rfl
@[go_sem] theorem t_24 : tk prog 24 = .sl 85 ∧ tsz prog 24 = some 1 ∧ tby prog 24 = some 24 ∧ tz prog 24 = some [(.v (.slice .none 0 0))] ∧ zbl prog 24 = some false := by and_intros <;> kernel_rfl
@[go_sem] theorem t_25 : tk prog 25 = .arr 6 5 ∧ tsz prog 25 = some 6 ∧ tby prog 25 = some 6 ∧ tz prog 25 = some [(.v (.int .u8 0)), (.v (.int .u8 0)), (.v (.int .u8 0)), (.v (.int .u8 0)), (.v (.int .u8 0)), (.v (.int .u8 0))] ∧ zbl prog 25 = some true := by and_intros <;> kernel_rfl
@[go_sem] theorem t_27 : tk prog 27 = .str ∧ tsz prog 27 = some 12 ∧ tby prog 27 = some 88 ∧ tz prog 27 = some [(.v (.int .u8 0)), (.v (.int .u8 0)), (.v (.int .u8 0)), (.v (.slice .none 0 0)), (.v (.slice .none 0 0)), (.v (.slice .none 0 0)), (.v (.int .u8 0)), (.v (.int .u8 0)), (.v (.int .u8 0)), (.v (.int .u8 0)), (.v (.int .u8 0)), (.v (.int .u8 0))] ∧ zbl prog 27 = some true ∧ tfi prog 27 = true ∧ zcd prog 27 0 = some 5 ∧ zb2 prog 27 0 = some 0 ∧ zcd prog 27 1 = some 5 ∧ zb2 prog 27 1 = some 1 ∧ zcd prog 27 2 = some 5 ∧ zb2 prog 27 2 = some 2 ∧ zcd prog 27 3 = some 23 ∧ zb2 prog 27 3 = some 3 ∧ zcd prog 27 4 = some 24 ∧ zb2 prog 27 4 = some 5 ∧ zcd prog 27 5 = some 25 ∧ zb2 prog 27 5 = some 6 := by and_intros <;> kernel_rfl
@[go_sem] theorem t_28 : tk prog 28 = .arr 4 5 ∧ tsz prog 28 = some 4 ∧ tby prog 28 = some 4 ∧ tz prog 28 = some [(.v (.int .u8 0)), (.v (.int .u8 0)), (.v (.int .u8 0)), (.v (.int .u8 0))] ∧ zbl prog 28 = some true := by and_intros <;> kernel_rfl
@[go_sem] theorem t_30 : tk prog 30 = .str ∧ tsz prog 30 = some 18 ∧ tby prog 30 = some 18 ∧ tz prog 30 = some [(.v (.int .u8 0)), (.v (.int .u8 0)), (.v (.int .u8 0)), (.v (.int .u8 0)), (.v (.int .u8 0)), (.v (.int .u8 0)), (.v (.int .u8 0)), (.v (.int .u8 0)), (.v (.int .u8 0)), (.v (.int .u8 0)), (.v (.int .u8 0)), (.v (.int .u8 0)), (.v (.int .u8 0)), (.v (.int .u8 0)), (.v (.int .u8 0)), (.v (.int .u8 0)), (.v (.int .u8 0)), (.v (.int .u8 0))] ∧ zbl prog 30 = some true ∧ tfi prog 30 = true ∧ zcd prog 30 0 = some 25 ∧ zb2 prog 30 0 = some 0 ∧ zcd prog 30 1 = some 25 ∧ zb2 prog 30 1 = some 6 ∧ zcd prog 30 2 = some 28 ∧ zb2 prog 30 2 = some 12 ∧ zcd prog 30 3 = some 5 ∧ zb2 prog 30 3 = some 16 ∧ zcd prog 30 4 = some 5 ∧ zb2 prog 30 4 = some 17 := by and_intros <;> kernel_rfl
@[go_sem] theorem t_32 : tk prog 32 = .sl 33 ∧ tsz prog 32 = some 1 ∧ tby prog 32 = some 24 ∧ tz prog 32 = some [(.v (.slice .none 0 0))] ∧ zbl prog 32 = some false := by and_intros <;> kernel_rfl
@[go_sem] theorem t_33 : tk prog 33 = .sl 3 ∧ tsz prog 33 = some 1 ∧ tby prog 33 = some 24 ∧ tz prog 33 = some [(.v (.slice .none 0 0))] ∧ zbl prog 33 = some false := by and_intros <;> kernel_rfl
@[go_sem] theorem t_35 : tk prog 35 = .str ∧ tsz prog 35 = some 3 ∧ tby prog 35 = some 56 ∧ tz prog 35 = some [(.v (.int .i64 0)), (.v (.slice .none 0 0)), (.v (.slice .none 0 0))] ∧ zbl prog 35 = some true ∧ tfi prog 35 = true ∧ zcd prog 35 0 = some 3 ∧ zb2 prog 35 0 = some 0 ∧ zcd prog 35 1 = some 32 ∧ zb2 prog 35 1 = some 1 ∧ zcd prog 35 2 = some 33 ∧ zb2 prog 35 2 = some 2 := by and_intros <;> kernel_rfl
@[go_sem] theorem t_36 : tk prog 36 = .sl 107 ∧ tsz prog 36 = some 1 ∧ tby prog 36 = some 24 ∧ tz prog 36 = some [(.v (.slice .none 0 0))] ∧ zbl prog 36 = some false := by and_intros <;> kernel_rfl
@[go_sem] theorem t_37 : tk prog 37 = .sl 78 ∧ tsz prog 37 = some 1 ∧ tby prog 37 = some 24 ∧ tz prog 37 = some [(.v (.slice .none 0 0))] ∧ zbl prog 37 = some false := by and_intros <;> kernel_rfl
@[go_sem] theorem t_39 : tk prog 39 = .str ∧ tsz prog 39 = some 9 ∧ tby prog 39 = some 136 ∧ tz prog 39 = some [(.v (.int .i64 0)), (.v (.slice .none 0 0)), (.v (.slice .none 0 0)), (.v (.slice .none 0 0)), (.v (.int .i64 0)), (.v (.bool false)), (.v (.slice .none 0 0)), (.v (.int .i64 0)), (.v (.int .i64 0))] ∧ zbl prog 39 = some true ∧ tfi prog 39 = true ∧ zcd prog 39 0 = some 35 ∧ zb2 prog 39 0 = some 0 ∧ zcd prog 39 1 = some 36 ∧ zb2 prog 39 1 = some 3 ∧ zcd prog 39 2 = some 3 ∧ zb2 prog 39 2 = some 4 ∧ zcd prog 39 3 = some 4 ∧ zb2 prog 39 3 = some 5 ∧ zcd prog 39 4 = some 37 ∧ zb2 prog 39 4 = some 6 ∧ zcd prog 39 5 = some 3 ∧ zb2 prog 39 5 = some 7 ∧ zcd prog 39 6 = some 3 ∧ zb2 prog 39 6 = some 8 := by and_intros <;> kernel_rfl
@[go_sem] theorem t_43 : tk prog 43 = .arr 2 33 ∧ tsz prog 43 = some 2 ∧ tby prog 43 = some 48 ∧ tz prog 43 = some [(.v (.slice .none 0 0)), (.v (.slice .none 0 0))] ∧ zbl prog 43 = some true := by and_intros <;> kernel_rfl
@[go_sem] theorem t_45 : tk prog 45 = .str ∧ tsz prog 45 = some 5 ∧ tby prog 45 = some 88 ∧ tz prog 45 = some [(.v (.slice .none 0 0)), (.v (.slice .none 0 0)), (.v (.slice .none 0 0)), (.v (.int .i64 0)), (.v (.int .i64 0))] ∧ zbl prog 45 = some true ∧ tfi prog 45 = true ∧ zcd prog 45 0 = some 33 ∧ zb2 prog 45 0 = some 0 ∧ zcd prog 45 1 = some 43 ∧ zb2 prog 45 1 = some 1 ∧ zcd prog 45 2 = some 3 ∧ zb2 prog 45 2 = some 3 ∧ zcd prog 45 3 = some 3 ∧ zb2 prog 45 3 = some 4 := by and_intros <;> kernel_rfl
@[go_sem] theorem t_47 : tk prog 47 = .sl 45 ∧ tsz prog 47 = some 1 ∧ tby prog 47 = some 24 ∧ tz prog 47 = some [(.v (.slice .none 0 0))] ∧ zbl prog 47 = some false := by and_intros <;> kernel_rfl
@[go_sem] theorem t_48 : tk prog 48 = .int .i64 ∧ tsz prog 48 = some 1 ∧ tby prog 48 = some 8 ∧ tz prog 48 = some [(.v (.int .i64 0))] ∧ zbl prog 48 = some false ∧ tz1 prog 48 = some (.int .i64 0) := by and_intros <;> kernel_rfl
@[go_sem] theorem t_49 : tk prog 49 = .other ∧ tsz prog 49 = some 1 ∧ tby prog 49 = some 0 ∧ zbl prog 49 = some false := by and_intros <;> kernel_rfl
@[go_sem] theorem t_62 : tk prog 62 = .other ∧ tsz prog 62 = some 1 ∧ tby prog 62 = some 0 ∧ zbl prog 62 = some false := by and_intros <;> kernel_rfl
@[go_sem] theorem t_64 : tk prog 64 = .str ∧ tsz prog 64 = some 31 ∧ tby prog 64 = some 136 ∧ tz prog 64 = some [(.v (.int .u8 0)), (.v (.int .u8 0)), (.v (.int .u8 0)), (.v (.slice .none 0 0)), (.v (.slice .none 0 0)), (.v (.slice .none 0 0)), (.v (.int .u8 0)), (.v (.int .u8 0)), (.v (.int .u8 0)), (.v (.int .u8 0)), (.v (.int .u8 0)), (.v (.int .u8 0)), (.v (.int .u8 0)), (.v (.int .u8 0)), (.v (.int .u8 0)), (.v (.int .u8 0)), (.v (.int .u8 0)), (.v (.int .u8 0)), (.v (.int .u8 0)), (.v (.int .u8 0)), (.v (.int .u8 0)), (.v (.int .u8 0)), (.v (.int .u8 0)), (.v (.int .u8 0)), (.v (.int .u8 0)), (.v (.int .u8 0)), (.v (.int .u8 0)), (.v (.int .u8 0)), (.v (.int .u8 0)), (.v (.int .u8 0)), (.v (.slice .none 0 0))] ∧ zbl prog 64 = some true ∧ tfi prog 64 = true ∧ zcd prog 64 0 = some 27 ∧ zb2 prog 64 0 = some 0 ∧ zcd prog 64 1 = some 30 ∧ zb2 prog 64 1 = some 12 ∧ zcd prog 64 2 = some 22 ∧ zb2 prog 64 2 = some 30 := by and_intros <;> kernel_rfl
@[go_sem] theorem t_65 : tk prog 65 = .str ∧ tsz prog 65 = some 31 ∧ tby prog 65 = some 136 ∧ tz prog 65 = some [(.v (.int .u8 0)), (.v (.int .u8 0)), (.v (.int .u8 0)), (.v (.slice .none 0 0)), (.v (.slice .none 0 0)), (.v (.slice .none 0 0)), (.v (.int .u8 0)), (.v (.int .u8 0)), (.v (.int .u8 0)), (.v (.int .u8 0)), (.v (.int .u8 0)), (.v (.int .u8 0)), (.v (.int .u8 0)), (.v (.int .u8 0)), (.v (.int .u8 0)), (.v (.int .u8 0)), (.v (.int .u8 0)), (.v (.int .u8 0)), (.v (.int .u8 0)), (.v (.int .u8 0)), (.v (.int .u8 0)), (.v (.int .u8 0)), (.v (.int .u8 0)), (.v (.int .u8 0)), (.v (.int .u8 0)), (.v (.int .u8 0)), (.v (.int .u8 0)), (.v (.int .u8 0)), (.v (.int .u8 0)), (.v (.int .u8 0)), (.v (.slice .none 0 0))] ∧ zbl prog 65 = some true ∧ tfi prog 65 = true ∧ zcd prog 65 0 = some 27 ∧ zb2 prog 65 0 = some 0 ∧ zcd prog 65 1 = some 30 ∧ zb2 prog 65 1 = some 12 ∧ zcd prog 65 2 = some 22 ∧ zb2 prog 65 2 = some 30 := by and_intros <;> kernel_rfl
@[go_sem] theorem t_66 : tk prog 66 = .other ∧ tsz prog 66 = some 1 ∧ tby prog 66 = some 0 ∧ zbl prog 66 = some false := by and_intros <;> kernel_rfl
@[go_sem] theorem t_70 : tk prog 70 = .str ∧ tsz prog 70 = some 2 ∧ tby prog 70 = some 32 ∧ tz prog 70 = some [(.v (.slice .none 0 0)), (.v (.int .i64 0))] ∧ zbl prog 70 = some true ∧ tfi prog 70 = true ∧ zcd prog 70 0 = some 47 ∧ zb2 prog 70 0 = some 0 ∧ zcd prog 70 1 = some 48 ∧ zb2 prog 70 1 = some 1 := by and_intros <;> kernel_rfl
@[go_sem] theorem t_78 : tk prog 78 = .str ∧ tsz prog 78 = some 4 ∧ tby prog 78 = some 32 ∧ tz prog 78 = some [(.v (.int .i64 0)), (.v (.int .i64 0)), (.v (.int .i64 0)), (.v (.int .i64 0))] ∧ zbl prog 78 = some true ∧ tfi prog 78 = true ∧ zpA prog 78 = some [false, false, false, false] ∧ zcd prog 78 0 = some 3 ∧ zb2 prog 78 0 = some 0 ∧ zcd prog 78 1 = some 3 ∧ zb2 prog 78 1 = some 1 ∧ zcd prog 78 2 = some 3 ∧ zb2 prog 78 2 = some 2 ∧ zcd prog 78 3 = some 3 ∧ zb2 prog 78 3 = some 3 := by and_intros <;> kernel_rfl
@[go_sem] theorem t_80 : tk prog 80 = .other ∧ tsz prog 80 = some 1 ∧ tby prog 80 = some 8 ∧ tz prog 80 = some [(.v .nilFunc)] ∧ zbl prog 80 = some false := by and_intros <;> kernel_rfl
@[go_sem] theorem t_81 : tk prog 81 = .int .u16 ∧ tsz prog 81 = some 1 ∧ tby prog 81 = some 2 ∧ tz prog 81 = some [(.v (.int .u16 0))] ∧ zbl prog 81 = some false ∧ tz1 prog 81 = some (.int .u16 0) := by and_intros <;> kernel_rfl
@[go_sem] theorem t_85 : tk prog 85 = .arr 3 5 ∧ tsz prog 85 = some 3 ∧ tby prog 85 = some 3 ∧ tz prog 85 = some [(.v (.int .u8 0)), (.v (.int .u8 0)), (.v (.int .u8 0))] ∧ zbl prog 85 = some true := by and_intros <;> kernel_rfl
@[go_sem] theorem t_105 : tk prog 105 = .sl 116 ∧ tsz prog 105 = some 1 ∧ tby prog 105 = some 24 ∧ tz prog 105 = some [(.v (.slice .none 0 0))] ∧ zbl prog 105 = some false := by and_intros <;> kernel_rfl
@[go_sem] theorem t_107 : tk prog 107 = .str ∧ tsz prog 107 = some 3 ∧ tby prog 107 = some 48 ∧ tz prog 107 = some [(.v (.string ⟨⟨[]⟩⟩)), (.v (.slice .none 0 0)), (.v (.bool false))] ∧ zbl prog 107 = some true ∧ tfi prog 107 = true ∧ zcd prog 107 0 = some 9 ∧ zb2 prog 107 0 = some 0 ∧ zcd prog 107 1 = some 105 ∧ zb2 prog 107 1 = some 1 ∧ zcd prog 107 2 = some 4 ∧ zb2 prog 107 2 = some 2 := by and_intros <;> kernel_rfl
@[go_sem] theorem t_108 : tk prog 108 = .sl 112 ∧ tsz prog 108 = some 1 ∧ tby prog 108 = some 24 ∧ tz prog 108 = some [(.v (.slice .none 0 0))] ∧ zbl prog 108 = some false := by and_intros <;> kernel_rfl
@[go_sem] theorem t_109 : tk prog 109 = .other ∧ tsz prog 109 = some 1 ∧ tby prog 109 = some 0 ∧ zbl prog 109 = some false := by and_intros <;> kernel_rfl
@[go_sem] theorem t_112 : tk prog 112 = .str ∧ tsz prog 112 = some 6 ∧ tby prog 112 = some 96 ∧ tz prog 112 = some [(.v (.slice .none 0 0)), (.v (.slice .none 0 0)), (.v (.slice .none 0 0)), (.v (.int .i64 0)), (.v (.int .i64 0)), (.v (.bool false))] ∧ zbl prog 112 = some true ∧ tfi prog 112 = true ∧ zcd prog 112 0 = some 45 ∧ zb2 prog 112 0 = some 0 ∧ zcd prog 112 1 = some 4 ∧ zb2 prog 112 1 = some 5 := by and_intros <;> kernel_rfl
@[go_sem] theorem t_114 : tk prog 114 = .str ∧ tsz prog 114 = some 2 ∧ tby prog 114 = some 16 ∧ tz prog 114 = some [(.v (.int .i64 0)), (.v (.int .i64 0))] ∧ zbl prog 114 = some true ∧ tfi prog 114 = true ∧ zpA prog 114 = some [false, false] ∧ zcd prog 114 0 = some 3 ∧ zb2 prog 114 0 = some 0 ∧ zcd prog 114 1 = some 3 ∧ zb2 prog 114 1 = some 1 := by and_intros <;> kernel_rfl
@[go_sem] theorem t_116 : tk prog 116 = .sl 114 ∧ tsz prog 116 = some 1 ∧ tby prog 116 = some 24 ∧ tz prog 116 = some [(.v (.slice .none 0 0))] ∧ zbl prog 116 = some false := by and_intros <;> kernel_rfl
@[go_sem] theorem t_120 : tk prog 120 = .other ∧ tsz prog 120 = some 1 ∧ tby prog 120 = some 8 ∧ tz prog 120 = some [(.v .nilFunc)] ∧ zbl prog 120 = some false := by and_intros <;> kernel_rfl
@[go_sem] theorem t_124 : tk prog 124 = .sl 9 ∧ tsz prog 124 = some 1 ∧ tby prog 124 = some 24 ∧ tz prog 124 = some [(.v (.slice .none 0 0))] ∧ zbl prog 124 = some false := by and_intros <;> kernel_rfl
@[go_sem] theorem t_127 : tk prog 127 = .sl 139 ∧ tsz prog 127 = some 1 ∧ tby prog 127 = some 24 ∧ tz prog 127 = some [(.v (.slice .none 0 0))] ∧ zbl prog 127 = some false := by and_intros <;> kernel_rfl
@[go_sem] theorem t_128 : tk prog 128 = .arr 2 127 ∧ tsz prog 128 = some 2 ∧ tby prog 128 = some 48 ∧ tz prog 128 = some [(.v (.slice .none 0 0)), (.v (.slice .none 0 0))] ∧ zbl prog 128 = some true := by and_intros <;> kernel_rfl
@[go_sem] theorem t_130 : tk prog 130 = .str ∧ tsz prog 130 = some 2 ∧ tby prog 130 = some 48 ∧ tz prog 130 = some [(.v (.slice .none 0 0)), (.v (.slice .none 0 0))] ∧ zbl prog 130 = some true ∧ tfi prog 130 = true ∧ zcd prog 130 0 = some 128 ∧ zb2 prog 130 0 = some 0 := by and_intros <;> kernel_rfl
@[go_sem] theorem t_134 : tk prog 134 = .other ∧ tsz prog 134 = some 1 ∧ tby prog 134 = some 8 ∧ tz prog 134 = some [(.v .nilFunc)] ∧ zbl prog 134 = some false := by and_intros <;> kernel_rfl
@[go_sem] theorem t_135 : tk prog 135 = .other ∧ tsz prog 135 = some 1 ∧ tby prog 135 = some 8 ∧ tz prog 135 = some [(.v .nilFunc)] ∧ zbl prog 135 = some false := by and_intros <;> kernel_rfl
@[go_sem] theorem t_139 : tk prog 139 = .sl 140 ∧ tsz prog 139 = some 1 ∧ tby prog 139 = some 24 ∧ tz prog 139 = some [(.v (.slice .none 0 0))] ∧ zbl prog 139 = some false := by and_intros <;> kernel_rfl
@[go_sem] theorem t_140 : tk prog 140 = .sl 143 ∧ tsz prog 140 = some 1 ∧ tby prog 140 = some 24 ∧ tz prog 140 = some [(.v (.slice .none 0 0))] ∧ zbl prog 140 = some false := by and_intros <;> kernel_rfl
@[go_sem] theorem t_141 : tk prog 141 = .sl 146 ∧ tsz prog 141 = some 1 ∧ tby prog 141 = some 24 ∧ tz prog 141 = some [(.v (.slice .none 0 0))] ∧ zbl prog 141 = some false := by and_intros <;> kernel_rfl
@[go_sem] theorem t_143 : tk prog 143 = .str ∧ tsz prog 143 = some 2 ∧ tby prog 143 = some 32 ∧ tz prog 143 = some [(.v (.slice .none 0 0)), (.v (.int .i64 0))] ∧ zbl prog 143 = some true ∧ tfi prog 143 = true ∧ zcd prog 143 0 = some 141 ∧ zb2 prog 143 0 = some 0 ∧ zcd prog 143 1 = some 3 ∧ zb2 prog 143 1 = some 1 := by and_intros <;> kernel_rfl
@[go_sem] theorem t_146 : tk prog 146 = .str ∧ tsz prog 146 = some 3 ∧ tby prog 146 = some 24 ∧ tz prog 146 = some [(.v (.int .i64 0)), (.v (.int .i64 0)), (.v (.int .i64 0))] ∧ zbl prog 146 = some true ∧ tfi prog 146 = true ∧ zpA prog 146 = some [false, false, false] ∧ zcd prog 146 0 = some 3 ∧ zb2 prog 146 0 = some 0 ∧ zcd prog 146 1 = some 3 ∧ zb2 prog 146 1 = some 1 ∧ zcd prog 146 2 = some 3 ∧ zb2 prog 146 2 = some 2 := by and_intros <;> kernel_rfl
@[go_sem] theorem t_154 : tk prog 154 = .other ∧ tsz prog 154 = some 1 ∧ tby prog 154 = some 8 ∧ tz prog 154 = some [(.v .nilFunc)] ∧ zbl prog 154 = some false := by and_intros <;> kernel_rfl
@[go_sem] theorem t_179 : tk prog 179 = .other ∧ tsz prog 179 = some 1 ∧ tby prog 179 = some 8 ∧ tz prog 179 = some [(.v .nilFunc)] ∧ zbl prog 179 = some false := by and_intros <;> kernel_rfl
@[go_sem] theorem t_184 : tk prog 184 = .str ∧ tsz prog 184 = some 8 ∧ tby prog 184 = some 112 ∧ tz prog 184 = some [(.v (.slice .none 0 0)), (.v (.slice .none 0 0)), (.v (.slice .none 0 0)), (.v (.int .i64 0)), (.v (.int .i64 0)), (.v (.int .i64 0)), (.v (.int .i64 0)), (.v (.bool false))] ∧ zbl prog 184 = some true ∧ tfi prog 184 = true ∧ zcd prog 184 0 = some 45 ∧ zb2 prog 184 0 = some 0 ∧ zcd prog 184 1 = some 3 ∧ zb2 prog 184 1 = some 5 ∧ zcd prog 184 2 = some 3 ∧ zb2 prog 184 2 = some 6 ∧ zcd prog 184 3 = some 4 ∧ zb2 prog 184 3 = some 7 := by and_intros <;> kernel_rfl
@[go_sem] theorem t_186 : tk prog 186 = .other ∧ tsz prog 186 = some 1 ∧ tby prog 186 = some 8 ∧ tz prog 186 = some [(.v .nilFunc)] ∧ zbl prog 186 = some false := by and_intros <;> kernel_rfl
@[go_sem] theorem t_188 : tk prog 188 = .other ∧ tsz prog 188 = some 1 ∧ tby prog 188 = some 8 ∧ tz prog 188 = some [(.v .nilFunc)] ∧ zbl prog 188 = some false := by and_intros <;> kernel_rfl
@[go_sem] theorem t_190 : tk prog 190 = .other ∧ tsz prog 190 = some 1 ∧ tby prog 190 = some 8 ∧ tz prog 190 = some [(.v .nilFunc)] ∧ zbl prog 190 = some false := by and_intros <;> kernel_rfl
@[go_sem] theorem t_194 : tk prog 194 = .other ∧ tsz prog 194 = some 1 ∧ tby prog 194 = some 0 ∧ zbl prog 194 = some false := by and_intros <;> kernel_rfl
@[go_sem] theorem t_200 : tk prog 200 = .other ∧ tsz prog 200 = some 1 ∧ tby prog 200 = some 8 ∧ tz prog 200 = some [(.v .nilFunc)] ∧ zbl prog 200 = some false := by and_intros <;> kernel_rfl
@[go_sem] theorem t_201 : tk prog 201 = .arr 4 200 ∧ tsz prog 201 = some 4 ∧ tby prog 201 = some 32 ∧ tz prog 201 = some [(.v .nilFunc), (.v .nilFunc), (.v .nilFunc), (.v .nilFunc)] ∧ zbl prog 201 = some true := by and_intros <;> kernel_rfl
@[go_sem] theorem t_202 : tk prog 202 = .other ∧ tsz prog 202 = some 1 ∧ tby prog 202 = some 8 ∧ tz prog 202 = some [(.v .nilFunc)] ∧ zbl prog 202 = some false := by and_intros <;> kernel_rfl
@[go_sem] theorem t_203 : tk prog 203 = .other ∧ tsz prog 203 = some 1 ∧ tby prog 203 = some 0 ∧ zbl prog 203 = some false := by and_intros <;> kernel_rfl
@[go_sem] theorem t_208 : tk prog 208 = .str ∧ tsz prog 208 = some 9 ∧ tby prog 208 = some 136 ∧ tz prog 208 = some [(.v (.int .i64 0)), (.v (.slice .none 0 0)), (.v (.slice .none 0 0)), (.v (.slice .none 0 0)), (.v (.int .i64 0)), (.v (.bool false)), (.v (.slice .none 0 0)), (.v (.int .i64 0)), (.v (.int .i64 0))] ∧ zbl prog 208 = some true ∧ tfi prog 208 = true ∧ zcd prog 208 0 = some 39 ∧ zb2 prog 208 0 = some 0 := by and_intros <;> kernel_rfl
@[go_sem] theorem t_211 : tk prog 211 = .other ∧ tsz prog 211 = some 1 ∧ tby prog 211 = some 8 ∧ tz prog 211 = some [(.v .nilFunc)] ∧ zbl prog 211 = some false := by and_intros <;> kernel_rfl
@[go_sem] theorem t_214 : tk prog 214 = .str ∧ tsz prog 214 = some 2 ∧ tby prog 214 = some 16 ∧ tz prog 214 = some [(.v (.int .i64 0)), (.v (.int .i64 0))] ∧ zbl prog 214 = some true ∧ tfi prog 214 = true ∧ zpA prog 214 = some [false, false] ∧ zcd prog 214 0 = some 3 ∧ zb2 prog 214 0 = some 0 ∧ zcd prog 214 1 = some 3 ∧ zb2 prog 214 1 = some 1 := by and_intros <;> kernel_rfl
@[go_sem] theorem t_219 : tk prog 219 = .int .u64 ∧ tsz prog 219 = some 1 ∧ tby prog 219 = some 8 ∧ tz prog 219 = some [(.v (.int .u64 0))] ∧ zbl prog 219 = some false ∧ tz1 prog 219 = some (.int .u64 0) := by and_intros <;> kernel_rfl
@[go_sem] theorem t_225 : tk prog 225 = .other ∧ tsz prog 225 = some 1 ∧ tby prog 225 = some 8 ∧ tz prog 225 = some [(.v .nilFunc)] ∧ zbl prog 225 = some false := by and_intros <;> kernel_rfl
@[go_sem] theorem t_226 : tk prog 226 = .other ∧ tsz prog 226 = some 1 ∧ tby prog 226 = some 8 ∧ tz prog 226 = some [(.v .nilFunc)] ∧ zbl prog 226 = some false := by and_intros <;> kernel_rfl
@[go_sem] theorem t_230 : tk prog 230 = .map 9 4 ∧ tsz prog 230 = some 1 ∧ tby prog 230 = some 8 ∧ tz prog 230 = some [(.v (.map .none))] ∧ zbl prog 230 = some false := by and_intros <;> kernel_rfl
@[go_sem] theorem t_234 : tk prog 234 = .sl 184 ∧ tsz prog 234 = some 1 ∧ tby prog 234 = some 24 ∧ tz prog 234 = some [(.v (.slice .none 0 0))] ∧ zbl prog 234 = some false := by and_intros <;> kernel_rfl
@[go_sem] theorem t_239 : tk prog 239 = .map 4 3 ∧ tsz prog 239 = some 1 ∧ tby prog 239 = some 8 ∧ tz prog 239 = some [(.v (.map .none))] ∧ zbl prog 239 = some false := by and_intros <;> kernel_rfl
@[go_sem] theorem t_254 : tk prog 254 = .other ∧ tsz prog 254 = some 1 ∧ tby prog 254 = some 8 ∧ tz prog 254 = some [(.v .nilFunc)] ∧ zbl prog 254 = some false := by and_intros <;> kernel_rfl
@[go_sem] theorem t_267 : tk prog 267 = .other ∧ tsz prog 267 = some 1 ∧ tby prog 267 = some 8 ∧ tz prog 267 = some [(.v .nilFunc)] ∧ zbl prog 267 = some false := by and_intros <;> kernel_rfl
@[go_sem] theorem t_269 : tk prog 269 = .arr 11 267 ∧ tsz prog 269 = some 11 ∧ tby prog 269 = some 88 ∧ tz prog 269 = some [(.v .nilFunc), (.v .nilFunc), (.v .nilFunc), (.v .nilFunc), (.v .nilFunc), (.v .nilFunc), (.v .nilFunc), (.v .nilFunc), (.v .nilFunc), (.v .nilFunc), (.v .nilFunc)] ∧ zbl prog 269 = some true := by and_intros <;> kernel_rfl
@[go_sem] theorem t_273 : tk prog 273 = .int .i64 ∧ tsz prog 273 = some 1 ∧ tby prog 273 = some 8 ∧ tz prog 273 = some [(.v (.int .i64 0))] ∧ zbl prog 273 = some false ∧ tz1 prog 273 = some (.int .i64 0) := by and_intros <;> kernel_rfl
@[go_sem] theorem t_274 : tk prog 274 = .other ∧ tsz prog 274 = some 1 ∧ tby prog 274 = some 0 ∧ zbl prog 274 = some false := by and_intros <;> kernel_rfl
@[go_sem] theorem t_280 : tk prog 280 = .int .u32 ∧ tsz prog 280 = some 1 ∧ tby prog 280 = some 4 ∧ tz prog 280 = some [(.v (.int .u32 0))] ∧ zbl prog 280 = some false ∧ tz1 prog 280 = some (.int .u32 0) := by and_intros <;> kernel_rfl
@[go_sem] theorem t_282 : tk prog 282 = .int .u64 ∧ tsz prog 282 = some 1 ∧ tby prog 282 = some 8 ∧ tz prog 282 = some [(.v (.int .u64 0))] ∧ zbl prog 282 = some false ∧ tz1 prog 282 = some (.int .u64 0) := by and_intros <;> kernel_rfl
@[go_sem] theorem t_303 : tk prog 303 = .other ∧ tsz prog 303 = some 1 ∧ tby prog 303 = some 8 ∧ tz prog 303 = some [(.v .nilFunc)] ∧ zbl prog 303 = some false := by and_intros <;> kernel_rfl
@[go_sem] theorem t_313 : tk prog 313 = .int .u64 ∧ tsz prog 313 = some 1 ∧ tby prog 313 = some 8 ∧ tz prog 313 = some [(.v (.int .u64 0))] ∧ zbl prog 313 = some false ∧ tz1 prog 313 = some (.int .u64 0) := by and_intros <;> kernel_rfl
@[go_sem] theorem t_317 : tk prog 317 = .ptr 3 ∧ tsz prog 317 = some 1 ∧ tby prog 317 = some 8 ∧ tz prog 317 = some [(.v (.pointer .none))] ∧ zbl prog 317 = some false := by and_intros <;> kernel_rfl
@[go_sem] theorem t_326 : tk prog 326 = .sl 141 ∧ tsz prog 326 = some 1 ∧ tby prog 326 = some 24 ∧ tz prog 326 = some [(.v (.slice .none 0 0))] ∧ zbl prog 326 = some false := by and_intros <;> kernel_rfl
@[go_sem] theorem t_328 : tk prog 328 = .other ∧ tsz prog 328 = some 1 ∧ tby prog 328 = some 8 ∧ tz prog 328 = some [(.v .nilFunc)] ∧ zbl prog 328 = some false := by and_intros <;> kernel_rfl
@[go_sem] theorem t_329 : tk prog 329 = .other ∧ tsz prog 329 = some 1 ∧ tby prog 329 = some 8 ∧ tz prog 329 = some [(.v .nilFunc)] ∧ zbl prog 329 = some false := by and_intros <;> kernel_rfl
@[go_sem] theorem t_332 : tk prog 332 = .sl 336 ∧ tsz prog 332 = some 1 ∧ tby prog 332 = some 24 ∧ tz prog 332 = some [(.v (.slice .none 0 0))] ∧ zbl prog 332 = some false := by and_intros <;> kernel_rfl
@[go_sem] theorem t_334 : tk prog 334 = .str ∧ tsz prog 334 = some 2 ∧ tby prog 334 = some 32 ∧ tz prog 334 = some [(.v (.slice .none 0 0)), (.v (.int .i64 0))] ∧ zbl prog 334 = some true ∧ tfi prog 334 = true ∧ zcd prog 334 0 = some 332 ∧ zb2 prog 334 0 = some 0 ∧ zcd prog 334 1 = some 48 ∧ zb2 prog 334 1 = some 1 := by and_intros <;> kernel_rfl
@[go_sem] theorem t_336 : tk prog 336 = .sl 338 ∧ tsz prog 336 = some 1 ∧ tby prog 336 = some 24 ∧ tz prog 336 = some [(.v (.slice .none 0 0))] ∧ zbl prog 336 = some false := by and_intros <;> kernel_rfl
@[go_sem] theorem t_338 : tk prog 338 = .str ∧ tsz prog 338 = some 8 ∧ tby prog 338 = some 112 ∧ tz prog 338 = some [(.v (.slice .none 0 0)), (.v (.slice .none 0 0)), (.v (.slice .none 0 0)), (.v (.int .i64 0)), (.v (.int .i64 0)), (.v (.int .i64 0)), (.v (.int .i64 0)), (.v (.bool false))] ∧ zbl prog 338 = some true ∧ tfi prog 338 = true ∧ zcd prog 338 0 = some 45 ∧ zb2 prog 338 0 = some 0 ∧ zcd prog 338 1 = some 3 ∧ zb2 prog 338 1 = some 5 ∧ zcd prog 338 2 = some 3 ∧ zb2 prog 338 2 = some 6 ∧ zcd prog 338 3 = some 4 ∧ zb2 prog 338 3 = some 7 := by and_intros <;> kernel_rfl
@[go_sem] theorem t_341 : tk prog 341 = .ptr 313 ∧ tsz prog 341 = some 1 ∧ tby prog 341 = some 8 ∧ tz prog 341 = some [(.v (.pointer .none))] ∧ zbl prog 341 = some false := by and_intros <;> kernel_rfl
@[go_sem] theorem t_347 : tk prog 347 = .arr 24 5 ∧ tsz prog 347 = some 24 ∧ tby prog 347 = some 24 ∧ tz prog 347 = some [(.v (.int .u8 0)), (.v (.int .u8 0)), (.v (.int .u8 0)), (.v (.int .u8 0)), (.v (.int .u8 0)), (.v (.int .u8 0)), (.v (.int .u8 0)), (.v (.int .u8 0)), (.v (.int .u8 0)), (.v (.int .u8 0)), (.v (.int .u8 0)), (.v (.int .u8 0)), (.v (.int .u8 0)), (.v (.int .u8 0)), (.v (.int .u8 0)), (.v (.int .u8 0)), (.v (.int .u8 0)), (.v (.int .u8 0)), (.v (.int .u8 0)), (.v (.int .u8 0)), (.v (.int .u8 0)), (.v (.int .u8 0)), (.v (.int .u8 0)), (.v (.int .u8 0))] ∧ zbl prog 347 = some true := by and_intros <;> kernel_rfl
@[go_sem] theorem t_349 : tk prog 349 = .other ∧ tsz prog 349 = some 1 ∧ tby prog 349 = some 0 ∧ zbl prog 349 = some false := by and_intros <;> kernel_rfl
@[go_sem] theorem t_362 : tk prog 362 = .arr 0 16 ∧ tsz prog 362 = some 0 ∧ tby prog 362 = some 0 ∧ tz prog 362 = some [] ∧ zbl prog 362 = some true := by and_intros <;> kernel_rfl
@[go_sem] theorem t_364 : tk prog 364 = .str ∧ tsz prog 364 = some 0 ∧ tby prog 364 = some 0 ∧ tz prog 364 = some [] ∧ zbl prog 364 = some true ∧ tfi prog 364 = true ∧ zcd prog 364 0 = some 362 ∧ zb2 prog 364 0 = .none := by and_intros <;> kernel_rfl
end Go.Av
end
section
open Go Go.Proofs
namespace Go.Av
def zb6 (n : Int) : List AV := [.v (.int .i64 n)]
def zas (l : List Int) : AV := .lst 1 (l.map zb6)
def zco (l : List (List Int)) : AV := .lst 1 (l.map fun l => [zas l])
structure zgh where
 name : ByteArray
 progs : List (List (Int × Int))
 keep : Bool
 deriving Inhabited
structure zaf where
 cells : Int
 next : List (List Int)
 turn : List Int
 kinds : List zgh
 rights : Int
 must : Bool
 clauses : List (Int × Int × Int × Int)
 blocked : Int
 endless : Int
structure zaj where
 at_ : List Int
 h0 : List Int
 h1 : List Int
 rights : Int
 side : Int
 deriving DecidableEq
def zau (s : Int × Int) : List AV := [.v (.int .i64 s.1), .v (.int .i64 s.2)]
def zaZ (k : zgh) : List AV := [.v (.string k.name), .lst 1 (k.progs.map fun p => [.lst 2 (p.map zau)]), .v (.bool k.keep)]
def za8 (c : Int × Int × Int × Int) : List AV := [.v (.int .i64 c.1), .v (.int .i64 c.2.1), .v (.int .i64 c.2.2.1), .v (.int .i64 c.2.2.2)]
def zyv (cells : Int) (next : List (List Int)) (turn : List Int) : List AV := [.v (.int .i64 cells), zco next, zas turn]
def zab (g : zaf) : List AV := [.v (.int .i64 g.cells), zco g.next, zas g.turn, .lst 3 (g.kinds.map zaZ), .v (.int .i64 g.rights), .v (.bool g.must), .lst 4 (g.clauses.map za8), .v (.int .i64 g.blocked), .v (.int .i64 g.endless)]
def zad (p : zaj) : List AV := [zas p.at_, zas p.h0, zas p.h1, .v (.int .i64 p.rights), .v (.int .i64 p.side)]
attribute [go_sem] zb6 zas zco zau zaZ za8 zyv zab zad
def zeS (l : List Int) : Prop := l.length ≤ 1099511627776
theorem zx4 {n : Nat} {l : List Int} : (∀ r ∈ l.map zb6, ∀ c ∈ r, Bel n c) = True := by
 refine eq_true ?_
 intro r hr c hc
 obtain ⟨x, _, rfl⟩ := List.mem_map.1 hr
 simp only [zb6, List.mem_singleton] at hc
 subst hc; exact .v _
theorem zrK {n : Nat} {l : List Int} : Bel n (.lst 1 (l.map zb6)) = True := by rw [zck, zx4]
attribute [go_sem high] zrK

def zbf (a b : Int) : Int := if a < b then -1 else if b < a then 1 else 0
theorem ze7 (a b : Int) : zaC Tryz.prog 166 [.v (.int .i64 a), .v (.int .i64 b)] (.v (.int .i64 (zbf a b))) := by
 refine pF Tryz.func166 ?_
 simp [go_sem]
 refine zBo (fun h => ?_) (fun h => ?_)
 ·simp at h
  simp [go_sem, zbf, h]
 ·simp at h
  simp [go_sem]
  refine zBo (fun h2 => ?_) (fun h2 => ?_)
  ·simp at h2
   simp [go_sem, zbf, h2, show ¬ a < b by omega]
  ·simp at h2
   simp [go_sem, zbf, show ¬ b < a by omega, show ¬ a < b by omega]
def zez : List Int → List Int → Int
 | x :: a, y :: b => if x = y then zez a b else zbf x y
 | a, b => zbf a.length b.length
theorem zhe (b : List Int) : zez [] b = zbf 0 b.length := by cases b <;> rfl
theorem zgr (a : List Int) : zez a [] = zbf a.length 0 := by cases a <;> rfl
theorem zkc (a b : List Int) (ha : zeS a) (hb : zeS b) : zaC Tryz.prog 165 [zas a, zas b] (.v (.int .i64 (zez a b))) := by
 refine pF Tryz.func165 ?_
 unfold zeS at ha hb
 simp [go_sem]
 refine zBm (zBr (α := Nat) (fun j => ⟨[(0, zas a), (1, zas b), (5, .v (.int .i64 j))], [], 0⟩)
  (fun d j => j + d = a.length ∧ j ≤ b.length ∧ zez a b = zez (a.drop j) (b.drop j)) ?_ a.length 0 ?_) ?_ ?_
 ·rintro d j ⟨i1, i2, i3⟩ hrec
  simp [go_sem]
  refine zBo (fun hj => ?_) (fun hj => ?_)
  ·simp at hj
   obtain ⟨hj1, hj2⟩ := hj
   have hd1 : a.drop j = nth a j :: a.drop (j + 1) := by rw [List.drop_eq_getElem_cons hj1, zaJ _ _ hj1]
   have hd2 : b.drop j = nth b j :: b.drop (j + 1) := by rw [List.drop_eq_getElem_cons hj2, zaJ _ _ hj2]
   rw [hd1, hd2, zez] at i3
   simp [go_sem]
   try ((with_reducible refine wZ ?_); (try simp [go_sem]))
   refine zBO hj1 fun _ => ?_
   simp [go_sem, hj1]
   try ((with_reducible refine wZ ?_); (try simp [go_sem]))
   refine zBO hj2 fun _ => ?_
   simp [go_sem, hj2]
   try ((with_reducible refine wZ ?_); (try simp [go_sem]))
   refine zkY.mk (by kernel_rfl) ?_
   simp [go_sem]
   refine zBo (fun he => ?_) (fun he => ?_)
   ·simp at he
    rw [if_neg he] at i3
    simp [go_sem]
    try ((with_reducible refine wZ ?_); (try simp [go_sem]))
    refine zBO hj1 fun _ => ?_
    simp [go_sem, hj1]
    try ((with_reducible refine wZ ?_); (try simp [go_sem]))
    refine zBO hj2 fun _ => ?_
    simp [go_sem, hj2]
    try ((with_reducible refine wZ ?_); (try simp [go_sem]))
    refine zBq (ze7 _ _) (by simp [go_sem]) ?_
    simp [go_sem]
    try ((with_reducible refine wZ ?_); (try simp [go_sem]))
    refine zkY.mk (by kernel_rfl) ?_
    simp [go_sem, i3]
   ·simp at he
    rw [if_pos he] at i3
    simp [go_sem]
    refine zBK (by omega) fun _ => ?_
    simp [go_sem]
    refine zBm (hrec (d - 1) (by omega) (j + 1) ⟨by omega, by omega, i3⟩) ?_ (by simp)
    simp [go_sem, zah]
  ·simp at hj
   simp [go_sem]
   refine zBn (ze7 _ _) (by simp [go_sem]) ?_
   have : zbf a.length b.length = zez a b := by
    rw [i3]
    rcases Nat.lt_or_ge j a.length with h | h
    ·have hb' := hj h
     rw [List.drop_eq_nil_of_le hb', zgr]
     simp only [zbf, List.length_drop]
     split <;> split <;> (try split) <;> (try split) <;> omega
    ·rw [List.drop_eq_nil_of_le h, zhe]
     simp only [zbf, List.length_drop]
     split <;> split <;> (try split) <;> (try split) <;> omega
   simp [go_sem, this]
 ·simp
 ·simp [go_sem, zah]
 ·simp
theorem zfB {l : List Int} {j : Nat} (h : j < l.length) : l.drop j = nth l j :: l.drop (j + 1) := by rw [List.drop_eq_getElem_cons h, zaJ _ _ h]
def za0 (p : zaj) : Prop := zeS p.at_ ∧ zeS p.h0 ∧ zeS p.h1
def zbB (p q : zaj) : Int :=
 if zez p.at_ q.at_ ≠ 0 then zez p.at_ q.at_ else if zez p.h0 q.h0 ≠ 0 then zez p.h0 q.h0 else if zez p.h1 q.h1 ≠ 0 then zez p.h1 q.h1 else if zbf p.rights q.rights ≠ 0 then zbf p.rights q.rights else zbf p.side q.side
theorem zd8 (a b : zaj) (ha : za0 a) (hb : za0 b) : zaC Tryz.prog 107 [.agg (zad a), .agg (zad b)] (.v (.int .i64 (zbB a b))) := by
 refine pF Tryz.func107 ?_
 obtain ⟨a1, a2, a3⟩ := ha
 obtain ⟨b1, b2, b3⟩ := hb
 simp [go_sem]
 try ((with_reducible refine wZ ?_); (try simp [go_sem]))
 refine zBq (zkc _ _ a1 b1) (by simp [go_sem]) ?_
 simp [go_sem]
 try ((with_reducible refine wZ ?_); (try simp [go_sem]))
 refine zBq (zkc _ _ a2 b2) (by simp [go_sem]) ?_
 simp [go_sem]
 try ((with_reducible refine wZ ?_); (try simp [go_sem]))
 refine zBq (zkc _ _ a3 b3) (by simp [go_sem]) ?_
 simp [go_sem]
 try ((with_reducible refine wZ ?_); (try simp [go_sem]))
 refine zBq (ze7 _ _) (by simp [go_sem]) ?_
 simp [go_sem]
 try ((with_reducible refine wZ ?_); (try simp [go_sem]))
 refine zBq (ze7 _ _) (by simp [go_sem]) ?_
 simp [go_sem]
 try ((with_reducible refine wZ ?_); (try simp [go_sem]))
 refine zkY.mk (by kernel_rfl) ?_
 simp [go_sem]
 generalize e1 : zez a.at_ b.at_ = x1
 generalize e2 : zez a.h0 b.h0 = x2
 generalize e3 : zez a.h1 b.h1 = x3
 generalize e4 : zbf a.rights b.rights = x4
 generalize e5 : zbf a.side b.side = x5
 unfold zbB
 rw [e1, e2, e3, e4, e5]
 refine zBv ?_
 simp [go_sem]
 refine zBo (fun h1 => ?_) (fun h1 => ?_) <;> simp at h1 <;> simp [go_sem, h1]
 refine zBv ?_
 simp [go_sem]
 refine zBo (fun h2 => ?_) (fun h2 => ?_) <;> simp at h2 <;> simp [go_sem, h1, h2]
 refine zBv ?_
 simp [go_sem]
 refine zBo (fun h3 => ?_) (fun h3 => ?_) <;> simp at h3 <;> simp [go_sem, h1, h2, h3]
 refine zBv ?_
 simp [go_sem]
 refine zBo (fun h4 => ?_) (fun h4 => ?_) <;> simp at h4 <;> simp [go_sem, h1, h2, h3, h4]
 refine zBv ?_
 simp [go_sem]
 refine zBo (fun h5 => ?_) (fun h5 => ?_) <;> simp at h5 <;> simp [go_sem, h1, h2, h3, h4, h5]
 refine zBv ?_
 simp [go_sem]
def zpm (n : Nat) (p : zaj) : AV := .agg [.sl (n + 2) 1 1 0 p.at_.length, .sl (n + 3) 1 1 0 p.h0.length, .sl (n + 8) 1 1 0 p.h1.length, .v (.int .i64 p.rights), .v (.int .i64 p.side)]
def zkq (n : Nat) (p : zaj) : List (Nat × zbt) := [(n + 2, .rows true 1 1 (p.at_.map zb6)), (n + 3, .rows true 1 1 (p.h0.map zb6)), (n + 8, .rows true 1 1 (p.h1.map zb6))]
attribute [go_sem] zpm zkq
theorem zdM (l : List Int) (hl : zeS l) : zgp Tryz.prog 113 [zas l] (fun n => .sl n 1 1 0 l.length) (fun n => [(n, .rows true 1 1 (l.map zb6))]) 1 := by
 refine ⟨zBR (fun hne => zBp (by kernel_rfl) Tryz.func113 rfl rfl (Nat.le_of_ble_eq_true rfl) (by kernel_rfl) ?_)
  (fun he A c => zBp (by kernel_rfl) Tryz.func113 rfl rfl (Nat.le_of_ble_eq_true rfl) (by kernel_rfl) ?_), fun n => ⟨?_, ?_⟩⟩
 ·unfold zeS at hl
  obtain ⟨x, l, rfl⟩ := List.exists_cons_of_ne_nil (show l ≠ [] by intro h; subst h; exact hne rfl)
  simp only [List.length_cons] at hl
  simp [go_sem]
  refine zBK (by omega) fun _ => ?_
  simp [go_sem, zah]
 ·obtain rfl : l = [] := by simpa using he
  simp [go_sem]
  refine zBo (fun h => ?_) (fun h => ?_)
  ·simp at h
   subst h
   simp [go_sem, zah]
  ·simp [go_sem, zah]
 ·simp [go_sem]
 ·simp [go_sem]
def idxOf (p : Int → Bool) (l : List Int) : Int := match l.findIdx? p with | some i => (i : Int) | none => -1
theorem zyE {p : Int → Bool} {l : List Int} {j : Nat} (hj : j < l.length) (h : ∀ i, i < j → p (nth l i) = false) (hp : p (nth l j) = true) : idxOf p l = j := by
 have : l.findIdx? p = some j := by
  rw [List.findIdx?_eq_some_iff_getElem]
  refine ⟨hj, by rw [← zaJ _ _ hj]; exact hp, fun i hi => ?_⟩
  have := h i hi
  rw [zaJ _ _ (by omega)] at this
  simp [this]
 simp [idxOf, this]
theorem ztM {p : Int → Bool} {l : List Int} (h : ∀ i, i < l.length → p (nth l i) = false) : idxOf p l = -1 := by
 have : l.findIdx? p = none := by
  rw [List.findIdx?_eq_none_iff]
  intro x hx
  obtain ⟨i, hi, rfl⟩ := List.getElem_of_mem hx
  have := h i hi
  rw [zaJ _ _ hi] at this
  exact this
 simp [idxOf, this]
theorem zwb {p : Int → Bool} {l : List Int} : decide (0 ≤ idxOf p l) = l.any p := by
 unfold idxOf
 cases h : l.findIdx? p with
 | none =>
  rw [List.findIdx?_eq_none_iff] at h
  simp
  simpa using h
 | some i =>
  have := List.findIdx?_isSome (xs := l) (p := p)
  rw [h] at this
  simp at this ⊢
  exact this
theorem zk0 (l : List Int) (hl : zeS l) (f : FuncId) (first caps : List AV) (p : Int → Bool) (hp : ∀ x ∈ l, zaC Tryz.prog f (first ++ .v (.int .i64 x) :: caps) (.v (.bool (p x)))) (hb : ∀ c ∈ first, Bel 0 c) (hb' : ∀ c ∈ caps, Bel 0 c) :
  zaC Tryz.prog 170 [zas l, .fn (.func f) first caps] (.v (.int .i64 (idxOf p l))) := by
 refine pF Tryz.func170 ?_
 unfold zeS at hl
 simp [go_sem]
 refine zBm (zBr (α := Nat) (fun j => ⟨[(0, zas l), (1, .fn (.func f) first caps), (7, .v (.int .i64 l.length)), (8, .v (.int .i64 j))], [], 0⟩)
  (fun d j => j + d = l.length ∧ (∀ i < j, p (nth l i) = false)) ?_ l.length 0 ?_) ?_ ?_
 ·rintro d j ⟨i1, i2⟩ hrec
  simp [go_sem]
  refine zBo (fun hj => ?_) (fun hj => ?_)
  ·simp at hj
   simp [go_sem]
   refine zBK hj fun _ => ?_
   simp [go_sem, hj]
   refine zBn (hp _ (zan hj)) (fun c hc => by
    rcases List.mem_append.1 hc with h | h
    ·exact hb c h
    ·rcases List.mem_cons.1 h with rfl | h
     ·exact .v _
     ·exact hb' c h) ?_
   simp [go_sem]
   refine zBo (fun h => ?_) (fun h => ?_)
   ·simp [go_sem, zyE hj i2 h]
   ·simp [go_sem]
    refine zBK (by omega) fun _ => ?_
    simp [go_sem]
    refine zBm (hrec (d - 1) (by omega) (j + 1) ⟨by omega, fun i hi => ?_⟩) ?_ (by simp)
    ·rcases Nat.lt_or_ge i j with h' | h'
     ·exact i2 i h'
     ·obtain rfl : i = j := by omega
      exact h
    ·simp [go_sem, zah]
     exact ⟨hb, hb'⟩
  ·simp at hj
   simp [go_sem, ztM fun i hi => i2 i (by omega)]
 ·simp
 ·simp [go_sem, zah]
  exact ⟨hb, hb'⟩
 ·simp
theorem zhI (l : List Int) (hl : zeS l) (f : FuncId) (first caps : List AV) (p : Int → Bool) (hp : ∀ x ∈ l, zaC Tryz.prog f (first ++ .v (.int .i64 x) :: caps) (.v (.bool (p x)))) (hb : ∀ c ∈ first, Bel 0 c) (hb' : ∀ c ∈ caps, Bel 0 c) :
  zaC Tryz.prog 117 [zas l, .fn (.func f) first caps] (.v (.bool (l.any p))) := by
 refine pF Tryz.func117 ?_
 simp [go_sem]
 refine zBn (zk0 l hl f first caps p hp hb hb') (by simp [go_sem]; exact ⟨hb, hb'⟩) ?_
 simp [go_sem, zwb]
end Go.Av
end
