/- Texts of ours, part 6: our library and contracts of functions. -/
import Derived.Test.YtedhfmmlhfmomaaGreatDoorB05
import Derived.Test.YtedhfmmlhfmomaaGreatDoorProg
set_option linter.unusedSimpArgs false
set_option linter.unusedVariables false
set_option maxRecDepth 100000
set_option maxHeartbeats 40000000
section
/- Our library, part 13: equations by which code is evaluated. -/
namespace Go.Av
open Go

section
variable {P : Program} {n0 : Nat} {Q : zbQ} {e : Env} {h : zao} {n : Nat} {ops rest : List Oper}
def VC (a b : Prop) : Prop := a ∧ b
theorem zwV {b : Prop} : VC False b = False := by simp [VC]
def VQ (a b : Prop) : Prop := a ∧ b
theorem zzi {b : Prop} : VQ True b = b := by simp [VQ]
theorem VQ.mk {a b : Prop} (h1 : a) (h2 : a → b) : VQ a b := ⟨h1, h2 h1⟩
@[congr] theorem VQ_congr {a b c : Prop} (h1 : a = c) : VQ a b = VQ c b := by subst h1; rfl
theorem VC.mk {a b : Prop} (h1 : a) (h2 : a → b) : VC a b := ⟨h1, h2 h1⟩
@[congr] theorem VC_congr {a b c : Prop} (h1 : a = c) : VC a b = VC c b := by subst h1; rfl
def aIf (t : Bool) (a b : Prop) : Prop := (t = true → a) ∧ (t = false → b)
theorem aIf.mk {t : Bool} {a b : Prop} (h1 : t = true → a) (h2 : t = false → b) : aIf t a b := ⟨h1, h2⟩
theorem zmq (vs : List AV) (i : Nat) : ze8 (.tup vs) i = Res.if (i < vs.length) (cel vs i) := rfl
@[congr] theorem aIf_congr {t t' : Bool} {a b : Prop} (h : t = t') : aIf t a b = aIf t' a b := by subst h; rfl
@[congr] theorem upd_congr {α : Type} {f : Nat → α} {k : Nat} {x : α} {j j' : Nat} (h : j = j') : upd f k x j = upd f k x j' := by subst h; rfl
theorem zbg {α : Type} [Inhabited α] (x : α) (l : List α) : nth (x :: l) 0 = x := rfl
theorem zfB {α : Type} [Inhabited α] (x : α) (l : List α) (k : Nat) : nth (x :: l) (k + 1) = nth l k := by simp [nth]
theorem zxt (x : AV) (l : List AV) : cel (x :: l) 0 = x := rfl
theorem zxs (x : AV) (l : List AV) (k : Nat) : cel (x :: l) (k + 1) = cel l k := by simp [cel]
theorem zcC {α β : Type} [Inhabited α] [Inhabited β] (f : α → β) (l : List α) (i : Nat) (h : i < l.length) : nth (l.map f) i = f (nth l i) := by simp [nth, h]
theorem zzL {α : Type} [Inhabited α] (f : α → AV) (l : List α) (i : Nat) (h : i < l.length) : cel (l.map f) i = f (nth l i) := by simp [nth, cel, h]
theorem zau {α : Type} [Inhabited α] (l : List α) (i : Nat) (h : i < l.length) : nth l i = l[i] := by simp [nth, h]
theorem zaj {α : Type} [Inhabited α] {l : List α} {i : Nat} (h : i < l.length) : nth l i ∈ l := by rw [zau l i h]; exact List.getElem_mem _
def zfX (P : Program) (ops : List Oper) (Q : zbQ) (rest : List Oper) (e : Env) (h : zao) (n : Nat) : Prop := zbd P ops Q rest e h n
def zyL (P : Program) (n0 : Nat) (c : Code) (Q : zbQ) (e : Env) (h : zao) (n : Nat) : Prop := awp P n0 c Q e h n
theorem zzh : VC True (zfX P ops Q rest e h n) = zbd P ops Q rest e h n := by simp [VC, zfX]
theorem zAZ {a : Prop} (h1 : a) (h2 : a → zbd P ops Q rest e h n) : VC a (zfX P ops Q rest e h n) := ⟨h1, h2 h1⟩
theorem zt1 {a : Code} {y : Prop} : aIf true (zyL P n0 a Q e h n) y = awp P n0 a Q e h n := by simp [aIf, zyL]
theorem zrJ {b : Code} {y : Prop} : aIf false y (zyL P n0 b Q e h n) = awp P n0 b Q e h n := by simp [aIf, zyL]
theorem zAE {t : Bool} {a b : Code} (h1 : t = true → awp P n0 a Q e h n) (h2 : t = false → awp P n0 b Q e h n) : aIf t (zyL P n0 a Q e h n) (zyL P n0 b Q e h n) := ⟨h1, h2⟩
def zfv (P : Program) (ops : List Oper) (Q : zbQ) (rest : List Oper) (dst : Option Tmp) (r : Res) (e : Env) (h : zao) (n : Nat) : Prop :=
 VC r.cond (zbd P ops Q rest (put e dst r.val) (zai r.wr h) (n + r.al))
def zfV (P : Program) (ops : List Oper) (Q : zbQ) (rest : List Oper) (dst : Option Tmp) (g : Bool) (r : Res) (e : Env) (h : zao) (n : Nat) : Prop :=
 VC (g = true → r.cond) (zbd P ops Q rest (put e dst (.gd g r.val)) (zai (gW g r.wr) h) (n + gN g r.al))
def zpl (P : Program) (ops : List Oper) (Q : zbQ) (rest : List Oper) (dst : Option Tmp) (fv : AV) (args : List AV) (e : Env) (h : zao) (n : Nat) : Prop :=
 zfG P fv args h n (fun r h' n' => zbd P ops Q rest (put e dst r) h' n') ∨ zh7 e fv args h n (fun e' r h' => zbd P ops Q rest (put e' dst r) h' n)
def zoP (P : Program) (ops : List Oper) (Q : zbQ) (rest : List Oper) (dst : Option Tmp) (l : Nat) (args : List AV) (e : Env) (h : zao) (n : Nat) : Prop :=
 zh7 e (.fn (.yield l) [] []) args h n (fun e' r h' => zbd P ops Q rest (put e' dst r) h' n)
theorem ztD {e : Env} {f : FuncId} {a b args : List AV} {h : zao} {n : Nat} {K : Env → AV → zao → Prop} : ¬ zh7 e (.fn (.func f) a b) args h n K := by
 rintro ⟨l, more, rows, h1, _⟩; cases h1
def zfF (P : Program) (ops : List Oper) (Q : zbQ) (rest : List Oper) (dst : Option Tmp) (op : Op) (g : Option Bool) (e : Env) (h : zao) (n : Nat) : Prop :=
 match g with
 | none => False
 | some g => VQ (∀ t ∈ gT op, okG g (e t)) (zfV P ops Q rest dst g (aev P n op (gE op e) h) e h n)

theorem zxf : awp P n0 .skip Q e h n = Q .normal e h n := rfl
theorem zuq (l : Nat) : awp P n0 (.label l) Q e h n = Q .normal e h n := rfl
theorem zsd (id : Nat) (ops : List Oper) : awp P n0 (.region id ops.toArray false) Q e h n = zbd P ops Q ops e h n := rfl
theorem zzv (a b : Code) : awp P n0 (.seq a b) Q e h n = awp P n0 a (ztF (awp P n0 b Q) Q) e h n := rfl
def zwX (P : Program) (n0 : Nat) (a b : Code) (Q : zbQ) (x : AV) (e : Env) (h : zao) (n : Nat) : Prop := match x with
 | .v (.bool t) => (t = true → awp P n0 a Q e h n) ∧ (t = false → awp P n0 b Q e h n)
 | _ => False
theorem zxa (c : Operand) (a b : Code) : awp P n0 (.cond c a b) Q e h n = zwX P n0 a b Q (ev e c) e h n := rfl
theorem zrI (a b : Code) (t : Bool) : zwX P n0 a b Q (.v (.bool t)) e h n = aIf t (zyL P n0 a Q e h n) (zyL P n0 b Q e h n) := rfl
theorem zur (b : Code) : awp P n0 (.scope b) Q e h n = awp P n0 b (zgl Q) e h n := rfl
theorem zup (id : Nat) (b : Code) : awp P n0 (.block id b) Q e h n = awp P n0 b (ze1 id Q) e h n := rfl
theorem zxd (b : Code) : awp P n0 (.loop b) Q e h n = zab n0 (awp P n0 b) Q e h n := rfl
theorem zxc (id : Nat) : awp P n0 (.exit id) Q e h n = Q (.exit id) e h n := rfl
theorem zzu : awp P n0 .ret Q e h n = Q .ret e h n := rfl
theorem zo4 (K : Env → zao → Nat → Prop) : ztF K Q .normal e h n = K e h n := rfl
theorem ztV (K : Env → zao → Nat → Prop) (id : Nat) : ztF K Q (.exit id) e h n = Q (.exit id) e h n := rfl
theorem zwP (K : Env → zao → Nat → Prop) : ztF K Q .ret e h n = Q .ret e h n := rfl
theorem zlT : zgl Q .normal e h n = Q .normal e h n := rfl
theorem zo2 (id : Nat) : zgl Q (.exit id) e h n = Q (.exit id) e h n := rfl
theorem zrA : zgl Q .ret e h n = Q .ret e h n := rfl
theorem zlR (id : Nat) : ze1 id Q .normal e h n = Q .normal e h n := rfl
theorem zoY (id id' : Nat) : ze1 id Q (.exit id') e h n = if id' = id then Q .normal e h n else Q (.exit id') e h n := rfl
theorem zrx (id : Nat) : ze1 id Q .ret e h n = Q .ret e h n := rfl
theorem zwR (rs : List ResultVar) (K : zcy) : RetQ P rs K .ret e h n = VQ (zm0 P e h rs).1 (K (zy2 (zm0 P e h rs).2) h n) := rfl
theorem zpj (rs : List ResultVar) (K : zcy) : RetQ P rs K .normal e h n = VQ (zm0 P e h rs).1 (K (zy2 (zm0 P e h rs).2) h n) := rfl
theorem zw8 : zbd P ops Q [] e h n = Q .normal e h n := rfl
theorem zuk {dst : Option Tmp} {f : Operand} {args : Array Operand} {ats : Array TypeId} {ty : TypeId} {pos : String} {after : Array Edge} :
  zbd P ops Q (⟨dst, .call ⟨.value f, args, ats⟩, ty, pos, after, none⟩ :: rest) e h n = zpl P ops Q rest dst (ev e f) (args.toList.map (ev e)) e h n := rfl
theorem zaN {dst : Option Tmp} {op : Op} {ty : TypeId} {pos : String} {after : Array Edge} {j : Nat} {want : Bool} (hc : zlc op = false) :
  zbd P ops Q (⟨dst, op, ty, pos, after, some (j, want)⟩ :: rest) e h n = zfF P ops Q rest dst op ((zaz ops j).bind fun t => zaD (e t) want) e h n := by
 unfold zbd zfF zfV
 cases op with
 | call c =>
  obtain ⟨callee, args, ats⟩ := c
  cases callee with
  | value f => simp [zlc] at hc
  | _ => rfl
 | _ => rfl
theorem zum {dst : Option Tmp} {ty : TypeId} {pos : String} {after : Array Edge} {x : Operand} : zbd P ops Q (⟨dst, .move x, ty, pos, after, none⟩ :: rest) e h n = zfv P ops Q rest dst (aev P n (.move x) e h) e h n := rfl
theorem zr1 {dst : Option Tmp} {ty : TypeId} {pos : String} {after : Array Edge} {j : Nat} {want : Bool} {x : Operand} : zbd P ops Q (⟨dst, .move x, ty, pos, after, some (j, want)⟩ :: rest) e h n = zfF P ops Q rest dst (.move x) ((zaz ops j).bind fun t => zaD (e t) want) e h n := zaN rfl
theorem zpE {dst : Option Tmp} {ty : TypeId} {pos : String} {after : Array Edge} {x : Operand} : zbd P ops Q (⟨dst, .assign x, ty, pos, after, none⟩ :: rest) e h n = zfv P ops Q rest dst (aev P n (.assign x) e h) e h n := rfl
theorem zns {dst : Option Tmp} {ty : TypeId} {pos : String} {after : Array Edge} {j : Nat} {want : Bool} {x : Operand} : zbd P ops Q (⟨dst, .assign x, ty, pos, after, some (j, want)⟩ :: rest) e h n = zfF P ops Q rest dst (.assign x) ((zaz ops j).bind fun t => zaD (e t) want) e h n := zaN rfl
theorem zun {dst : Option Tmp} {ty : TypeId} {pos : String} {after : Array Edge} {c a b : Operand} : zbd P ops Q (⟨dst, .pick c a b, ty, pos, after, none⟩ :: rest) e h n = zfv P ops Q rest dst (aev P n (.pick c a b) e h) e h n := rfl
theorem zr2 {dst : Option Tmp} {ty : TypeId} {pos : String} {after : Array Edge} {j : Nat} {want : Bool} {c a b : Operand} : zbd P ops Q (⟨dst, .pick c a b, ty, pos, after, some (j, want)⟩ :: rest) e h n = zfF P ops Q rest dst (.pick c a b) ((zaz ops j).bind fun t => zaD (e t) want) e h n := zaN rfl
theorem zr4 {dst : Option Tmp} {ty : TypeId} {pos : String} {after : Array Edge} {t : TypeId} : zbd P ops Q (⟨dst, .alloc t, ty, pos, after, none⟩ :: rest) e h n = zfv P ops Q rest dst (aev P n (.alloc t) e h) e h n := rfl
theorem zpw {dst : Option Tmp} {ty : TypeId} {pos : String} {after : Array Edge} {j : Nat} {want : Bool} {t : TypeId} : zbd P ops Q (⟨dst, .alloc t, ty, pos, after, some (j, want)⟩ :: rest) e h n = zfF P ops Q rest dst (.alloc t) ((zaz ops j).bind fun t => zaD (e t) want) e h n := zaN rfl
theorem zw7 {dst : Option Tmp} {ty : TypeId} {pos : String} {after : Array Edge} {t : TypeId} {x : Operand} : zbd P ops Q (⟨dst, .box t x, ty, pos, after, none⟩ :: rest) e h n = zfv P ops Q rest dst (aev P n (.box t x) e h) e h n := rfl
theorem zuj {dst : Option Tmp} {ty : TypeId} {pos : String} {after : Array Edge} {j : Nat} {want : Bool} {t : TypeId} {x : Operand} : zbd P ops Q (⟨dst, .box t x, ty, pos, after, some (j, want)⟩ :: rest) e h n = zfF P ops Q rest dst (.box t x) ((zaz ops j).bind fun t => zaD (e t) want) e h n := zaN rfl
theorem zr6 {dst : Option Tmp} {ty : TypeId} {pos : String} {after : Array Edge} {t : TypeId} {ps : Array (Nat × Operand)} : zbd P ops Q (⟨dst, .build t ps, ty, pos, after, none⟩ :: rest) e h n = zfv P ops Q rest dst (aev P n (.build t ps) e h) e h n := rfl
theorem zpy {dst : Option Tmp} {ty : TypeId} {pos : String} {after : Array Edge} {j : Nat} {want : Bool} {t : TypeId} {ps : Array (Nat × Operand)} : zbd P ops Q (⟨dst, .build t ps, ty, pos, after, some (j, want)⟩ :: rest) e h n = zfF P ops Q rest dst (.build t ps) ((zaz ops j).bind fun t => zaD (e t) want) e h n := zaN rfl
theorem ziL {dst : Option Tmp} {ty : TypeId} {pos : String} {after : Array Edge} {t : TypeId} {k : Nat} {ps : Array (Nat × Operand)} : zbd P ops Q (⟨dst, .buildSlice t k ps, ty, pos, after, none⟩ :: rest) e h n = zfv P ops Q rest dst (aev P n (.buildSlice t k ps) e h) e h n := rfl
theorem zhZ {dst : Option Tmp} {ty : TypeId} {pos : String} {after : Array Edge} {j : Nat} {want : Bool} {t : TypeId} {k : Nat} {ps : Array (Nat × Operand)} : zbd P ops Q (⟨dst, .buildSlice t k ps, ty, pos, after, some (j, want)⟩ :: rest) e h n = zfF P ops Q rest dst (.buildSlice t k ps) ((zaz ops j).bind fun t => zaD (e t) want) e h n := zaN rfl
theorem zul {dst : Option Tmp} {ty : TypeId} {pos : String} {after : Array Edge} {t : TypeId} {x : Operand} : zbd P ops Q (⟨dst, .load t x, ty, pos, after, none⟩ :: rest) e h n = zfv P ops Q rest dst (aev P n (.load t x) e h) e h n := rfl
theorem zr0 {dst : Option Tmp} {ty : TypeId} {pos : String} {after : Array Edge} {j : Nat} {want : Bool} {t : TypeId} {x : Operand} : zbd P ops Q (⟨dst, .load t x, ty, pos, after, some (j, want)⟩ :: rest) e h n = zfF P ops Q rest dst (.load t x) ((zaz ops j).bind fun t => zaD (e t) want) e h n := zaN rfl
theorem zsb {dst : Option Tmp} {ty : TypeId} {pos : String} {after : Array Edge} {t : TypeId} {x y : Operand} : zbd P ops Q (⟨dst, .store t x y, ty, pos, after, none⟩ :: rest) e h n = zfv P ops Q rest dst (aev P n (.store t x y) e h) e h n := rfl
theorem zpD {dst : Option Tmp} {ty : TypeId} {pos : String} {after : Array Edge} {j : Nat} {want : Bool} {t : TypeId} {x y : Operand} : zbd P ops Q (⟨dst, .store t x y, ty, pos, after, some (j, want)⟩ :: rest) e h n = zfF P ops Q rest dst (.store t x y) ((zaz ops j).bind fun t => zaD (e t) want) e h n := zaN rfl
theorem zr5 {dst : Option Tmp} {ty : TypeId} {pos : String} {after : Array Edge} {o : BinOp} {t : TypeId} {x y : Operand} {t' : TypeId} : zbd P ops Q (⟨dst, .binOp o t x y t', ty, pos, after, none⟩ :: rest) e h n = zfv P ops Q rest dst (aev P n (.binOp o t x y t') e h) e h n := rfl
theorem zpx {dst : Option Tmp} {ty : TypeId} {pos : String} {after : Array Edge} {j : Nat} {want : Bool} {o : BinOp} {t : TypeId} {x y : Operand} {t' : TypeId} : zbd P ops Q (⟨dst, .binOp o t x y t', ty, pos, after, some (j, want)⟩ :: rest) e h n = zfF P ops Q rest dst (.binOp o t x y t') ((zaz ops j).bind fun t => zaD (e t) want) e h n := zaN rfl
theorem zuo {dst : Option Tmp} {ty : TypeId} {pos : String} {after : Array Edge} {o : UnOp} {t : TypeId} {x : Operand} : zbd P ops Q (⟨dst, .unOp o t x, ty, pos, after, none⟩ :: rest) e h n = zfv P ops Q rest dst (aev P n (.unOp o t x) e h) e h n := rfl
theorem zmb {dst : Option Tmp} {ty : TypeId} {pos : String} {after : Array Edge} {x : Operand} : zbd P ops Q (⟨dst, .nilCheck x, ty, pos, after, none⟩ :: rest) e h n = zfv P ops Q rest dst (aev P n (.nilCheck x) e h) e h n := rfl
theorem zr3 {dst : Option Tmp} {ty : TypeId} {pos : String} {after : Array Edge} {j : Nat} {want : Bool} {o : UnOp} {t : TypeId} {x : Operand} : zbd P ops Q (⟨dst, .unOp o t x, ty, pos, after, some (j, want)⟩ :: rest) e h n = zfF P ops Q rest dst (.unOp o t x) ((zaz ops j).bind fun t => zaD (e t) want) e h n := zaN rfl
theorem zkl {dst : Option Tmp} {ty : TypeId} {pos : String} {after : Array Edge} {j : Nat} {want : Bool} {x : Operand} : zbd P ops Q (⟨dst, .nilCheck x, ty, pos, after, some (j, want)⟩ :: rest) e h n = zfF P ops Q rest dst (.nilCheck x) ((zaz ops j).bind fun t => zaD (e t) want) e h n := zaN rfl
theorem znw {dst : Option Tmp} {ty : TypeId} {pos : String} {after : Array Edge} {s d : TypeId} {x : Operand} : zbd P ops Q (⟨dst, .convert s d x, ty, pos, after, none⟩ :: rest) e h n = zfv P ops Q rest dst (aev P n (.convert s d x) e h) e h n := rfl
theorem zl7 {dst : Option Tmp} {ty : TypeId} {pos : String} {after : Array Edge} {j : Nat} {want : Bool} {s d : TypeId} {x : Operand} : zbd P ops Q (⟨dst, .convert s d x, ty, pos, after, some (j, want)⟩ :: rest) e h n = zfF P ops Q rest dst (.convert s d x) ((zaz ops j).bind fun t => zaD (e t) want) e h n := zaN rfl
theorem zma {dst : Option Tmp} {ty : TypeId} {pos : String} {after : Array Edge} {f : Fn} {xs ys : Array Operand} : zbd P ops Q (⟨dst, .makeFunc f xs ys, ty, pos, after, none⟩ :: rest) e h n = zfv P ops Q rest dst (aev P n (.makeFunc f xs ys) e h) e h n := rfl
theorem zkk {dst : Option Tmp} {ty : TypeId} {pos : String} {after : Array Edge} {j : Nat} {want : Bool} {f : Fn} {xs ys : Array Operand} : zbd P ops Q (⟨dst, .makeFunc f xs ys, ty, pos, after, some (j, want)⟩ :: rest) e h n = zfF P ops Q rest dst (.makeFunc f xs ys) ((zaz ops j).bind fun t => zaD (e t) want) e h n := zaN rfl
theorem zko {dst : Option Tmp} {ty : TypeId} {pos : String} {after : Array Edge} {t : TypeId} {l c : Operand} : zbd P ops Q (⟨dst, .makeSlice t l c, ty, pos, after, none⟩ :: rest) e h n = zfv P ops Q rest dst (aev P n (.makeSlice t l c) e h) e h n := rfl
theorem ziJ {dst : Option Tmp} {ty : TypeId} {pos : String} {after : Array Edge} {j : Nat} {want : Bool} {t : TypeId} {l c : Operand} : zbd P ops Q (⟨dst, .makeSlice t l c, ty, pos, after, some (j, want)⟩ :: rest) e h n = zfF P ops Q rest dst (.makeSlice t l c) ((zaz ops j).bind fun t => zaD (e t) want) e h n := zaN rfl
theorem zsa {dst : Option Tmp} {ty : TypeId} {pos : String} {after : Array Edge} {t : TypeId} {x : Operand} {lo hi mx : Option Operand} : zbd P ops Q (⟨dst, .slice t x lo hi mx, ty, pos, after, none⟩ :: rest) e h n = zfv P ops Q rest dst (aev P n (.slice t x lo hi mx) e h) e h n := rfl
theorem zpC {dst : Option Tmp} {ty : TypeId} {pos : String} {after : Array Edge} {j : Nat} {want : Bool} {t : TypeId} {x : Operand} {lo hi mx : Option Operand} : zbd P ops Q (⟨dst, .slice t x lo hi mx, ty, pos, after, some (j, want)⟩ :: rest) e h n = zfF P ops Q rest dst (.slice t x lo hi mx) ((zaz ops j).bind fun t => zaD (e t) want) e h n := zaN rfl
theorem zkm {dst : Option Tmp} {ty : TypeId} {pos : String} {after : Array Edge} {t : TypeId} {x : Operand} {f : Nat} : zbd P ops Q (⟨dst, .fieldAddr t x f, ty, pos, after, none⟩ :: rest) e h n = zfv P ops Q rest dst (aev P n (.fieldAddr t x f) e h) e h n := rfl
theorem ziH {dst : Option Tmp} {ty : TypeId} {pos : String} {after : Array Edge} {j : Nat} {want : Bool} {t : TypeId} {x : Operand} {f : Nat} : zbd P ops Q (⟨dst, .fieldAddr t x f, ty, pos, after, some (j, want)⟩ :: rest) e h n = zfF P ops Q rest dst (.fieldAddr t x f) ((zaz ops j).bind fun t => zaD (e t) want) e h n := zaN rfl
theorem zr7 {dst : Option Tmp} {ty : TypeId} {pos : String} {after : Array Edge} {t : TypeId} {x : Operand} {f : Nat} : zbd P ops Q (⟨dst, .field t x f, ty, pos, after, none⟩ :: rest) e h n = zfv P ops Q rest dst (aev P n (.field t x f) e h) e h n := rfl
theorem zpz {dst : Option Tmp} {ty : TypeId} {pos : String} {after : Array Edge} {j : Nat} {want : Bool} {t : TypeId} {x : Operand} {f : Nat} : zbd P ops Q (⟨dst, .field t x f, ty, pos, after, some (j, want)⟩ :: rest) e h n = zfF P ops Q rest dst (.field t x f) ((zaz ops j).bind fun t => zaD (e t) want) e h n := zaN rfl
theorem zkn {dst : Option Tmp} {ty : TypeId} {pos : String} {after : Array Edge} {t : TypeId} {x i : Operand} : zbd P ops Q (⟨dst, .indexAddr t x i, ty, pos, after, none⟩ :: rest) e h n = zfv P ops Q rest dst (aev P n (.indexAddr t x i) e h) e h n := rfl
theorem ziI {dst : Option Tmp} {ty : TypeId} {pos : String} {after : Array Edge} {j : Nat} {want : Bool} {t : TypeId} {x i : Operand} : zbd P ops Q (⟨dst, .indexAddr t x i, ty, pos, after, some (j, want)⟩ :: rest) e h n = zfF P ops Q rest dst (.indexAddr t x i) ((zaz ops j).bind fun t => zaD (e t) want) e h n := zaN rfl
theorem zr8 {dst : Option Tmp} {ty : TypeId} {pos : String} {after : Array Edge} {t : TypeId} {x i : Operand} : zbd P ops Q (⟨dst, .index t x i, ty, pos, after, none⟩ :: rest) e h n = zfv P ops Q rest dst (aev P n (.index t x i) e h) e h n := rfl
theorem zpA {dst : Option Tmp} {ty : TypeId} {pos : String} {after : Array Edge} {j : Nat} {want : Bool} {t : TypeId} {x i : Operand} : zbd P ops Q (⟨dst, .index t x i, ty, pos, after, some (j, want)⟩ :: rest) e h n = zfF P ops Q rest dst (.index t x i) ((zaz ops j).bind fun t => zaD (e t) want) e h n := zaN rfl
theorem znx {dst : Option Tmp} {ty : TypeId} {pos : String} {after : Array Edge} {x : Operand} {i : Nat} : zbd P ops Q (⟨dst, .extract x i, ty, pos, after, none⟩ :: rest) e h n = zfv P ops Q rest dst (aev P n (.extract x i) e h) e h n := rfl
theorem zl8 {dst : Option Tmp} {ty : TypeId} {pos : String} {after : Array Edge} {j : Nat} {want : Bool} {x : Operand} {i : Nat} : zbd P ops Q (⟨dst, .extract x i, ty, pos, after, some (j, want)⟩ :: rest) e h n = zfF P ops Q rest dst (.extract x i) ((zaz ops j).bind fun t => zaD (e t) want) e h n := zaN rfl
theorem zny {dst : Option Tmp} {ty : TypeId} {pos : String} {after : Array Edge} {t : TypeId} {r : Option Operand} : zbd P ops Q (⟨dst, .makeMap t r, ty, pos, after, none⟩ :: rest) e h n = zfv P ops Q rest dst (aev P n (.makeMap t r) e h) e h n := rfl
theorem zl9 {dst : Option Tmp} {ty : TypeId} {pos : String} {after : Array Edge} {j : Nat} {want : Bool} {t : TypeId} {r : Option Operand} : zbd P ops Q (⟨dst, .makeMap t r, ty, pos, after, some (j, want)⟩ :: rest) e h n = zfF P ops Q rest dst (.makeMap t r) ((zaz ops j).bind fun t => zaD (e t) want) e h n := zaN rfl
theorem zkp {dst : Option Tmp} {ty : TypeId} {pos : String} {after : Array Edge} {t : TypeId} {m' k x : Operand} : zbd P ops Q (⟨dst, .mapUpdate t m' k x, ty, pos, after, none⟩ :: rest) e h n = zfv P ops Q rest dst (aev P n (.mapUpdate t m' k x) e h) e h n := rfl
theorem ziK {dst : Option Tmp} {ty : TypeId} {pos : String} {after : Array Edge} {j : Nat} {want : Bool} {t : TypeId} {m' k x : Operand} : zbd P ops Q (⟨dst, .mapUpdate t m' k x, ty, pos, after, some (j, want)⟩ :: rest) e h n = zfF P ops Q rest dst (.mapUpdate t m' k x) ((zaz ops j).bind fun t => zaD (e t) want) e h n := zaN rfl
theorem zpF {dst : Option Tmp} {ty : TypeId} {pos : String} {after : Array Edge} {t : TypeId} {m' k x : Operand} : zbd P ops Q (⟨dst, .insert t m' k x, ty, pos, after, none⟩ :: rest) e h n = zfv P ops Q rest dst (aev P n (.insert t m' k x) e h) e h n := rfl
theorem znt {dst : Option Tmp} {ty : TypeId} {pos : String} {after : Array Edge} {j : Nat} {want : Bool} {t : TypeId} {m' k x : Operand} : zbd P ops Q (⟨dst, .insert t m' k x, ty, pos, after, some (j, want)⟩ :: rest) e h n = zfF P ops Q rest dst (.insert t m' k x) ((zaz ops j).bind fun t => zaD (e t) want) e h n := zaN rfl
theorem zpG {dst : Option Tmp} {ty : TypeId} {pos : String} {after : Array Edge} {t : TypeId} {m' k : Operand} {ok : Bool} : zbd P ops Q (⟨dst, .lookup t m' k ok, ty, pos, after, none⟩ :: rest) e h n = zfv P ops Q rest dst (aev P n (.lookup t m' k ok) e h) e h n := rfl
theorem znu {dst : Option Tmp} {ty : TypeId} {pos : String} {after : Array Edge} {j : Nat} {want : Bool} {t : TypeId} {m' k : Operand} {ok : Bool} : zbd P ops Q (⟨dst, .lookup t m' k ok, ty, pos, after, some (j, want)⟩ :: rest) e h n = zfF P ops Q rest dst (.lookup t m' k ok) ((zaz ops j).bind fun t => zaD (e t) want) e h n := zaN rfl
theorem zgo {dst : Option Tmp} {ty : TypeId} {pos : String} {after : Array Edge} {t : TypeId} {x : Operand} : zbd P ops Q (⟨dst, .makeInterface t x, ty, pos, after, none⟩ :: rest) e h n = zfv P ops Q rest dst (aev P n (.makeInterface t x) e h) e h n := rfl
theorem zfW {dst : Option Tmp} {ty : TypeId} {pos : String} {after : Array Edge} {j : Nat} {want : Bool} {t : TypeId} {x : Operand} : zbd P ops Q (⟨dst, .makeInterface t x, ty, pos, after, some (j, want)⟩ :: rest) e h n = zfF P ops Q rest dst (.makeInterface t x) ((zaz ops j).bind fun t => zaD (e t) want) e h n := zaN rfl
theorem zr9 {dst : Option Tmp} {ty : TypeId} {pos : String} {after : Array Edge} {x : Operand} : zbd P ops Q (⟨dst, .panic x, ty, pos, after, none⟩ :: rest) e h n = zfv P ops Q rest dst (aev P n (.panic x) e h) e h n := rfl
theorem zpB {dst : Option Tmp} {ty : TypeId} {pos : String} {after : Array Edge} {j : Nat} {want : Bool} {x : Operand} : zbd P ops Q (⟨dst, .panic x, ty, pos, after, some (j, want)⟩ :: rest) e h n = zfF P ops Q rest dst (.panic x) ((zaz ops j).bind fun t => zaD (e t) want) e h n := zaN rfl
theorem znv {dst : Option Tmp} {ty : TypeId} {pos : String} {after : Array Edge} {b : Builtin} {args : Array Operand} {ats : Array TypeId} : zbd P ops Q (⟨dst, .call ⟨.builtin b, args, ats⟩, ty, pos, after, none⟩ :: rest) e h n = zfv P ops Q rest dst (aev P n (.call ⟨.builtin b, args, ats⟩) e h) e h n := rfl
theorem zl6 {dst : Option Tmp} {ty : TypeId} {pos : String} {after : Array Edge} {j : Nat} {want : Bool} {b : Builtin} {args : Array Operand} {ats : Array TypeId} : zbd P ops Q (⟨dst, .call ⟨.builtin b, args, ats⟩, ty, pos, after, some (j, want)⟩ :: rest) e h n = zfF P ops Q rest dst (.call ⟨.builtin b, args, ats⟩) ((zaz ops j).bind fun t => zaD (e t) want) e h n := zaN rfl
theorem aRes_0 {d : Tmp} {c : Prop} {x : AV} : zfv P ops Q rest (some d) ⟨c, x, [], 0⟩ e h n = VC c (zfX P ops Q rest (upd e d x) h n) := rfl
theorem zzp {c : Prop} {x : AV} : zfv P ops Q rest none ⟨c, x, [], 0⟩ e h n = VC c (zfX P ops Q rest e h n) := rfl
theorem aRes_1 {d : Tmp} {c : Prop} {x : AV} {o : Nat} {y : Option zbn} {al : Nat} : zfv P ops Q rest (some d) ⟨c, x, [(o, y)], al⟩ e h n = VC c (zfX P ops Q rest (upd e d x) (upd h o y) (n + al)) := rfl
theorem zzq {c : Prop} {x : AV} {o : Nat} {y : Option zbn} {al : Nat} : zfv P ops Q rest none ⟨c, x, [(o, y)], al⟩ e h n = VC c (zfX P ops Q rest e (upd h o y) (n + al)) := rfl
theorem zzl {d : Tmp} {g : Bool} {c : Prop} {x : AV} : zfV P ops Q rest (some d) g ⟨c, x, [], 0⟩ e h n = VC (g = true → c) (zfX P ops Q rest (upd e d (.gd g x)) h n) := by
 cases g <;> simp [zfV, put, VC, zfX, gW, gN, zai]
theorem zzn {d : Tmp} {c : Prop} {x : AV} {o : Nat} {y : Option zbn} {al : Nat} : zfV P ops Q rest (some d) true ⟨c, x, [(o, y)], al⟩ e h n = VC c (zfX P ops Q rest (upd e d (.gd true x)) (upd h o y) (n + al)) := by
 simp [zfV, put, VC, zfX, gW, gN, zai]
theorem zwZ {c : Prop} {x : AV} {o : Nat} {y : Option zbn} {al : Nat} : zfV P ops Q rest none true ⟨c, x, [(o, y)], al⟩ e h n = VC c (zfX P ops Q rest e (upd h o y) (n + al)) := by
 simp [zfV, put, VC, zfX, gW, gN, zai]
theorem zzm {d : Tmp} {r : Res} : zfV P ops Q rest (some d) false r e h n = zbd P ops Q rest (upd e d (.gd false r.val)) h n := by
 simp [zfV, put, VC, gW, gN, zai]
theorem zwY {r : Res} : zfV P ops Q rest none false r e h n = zbd P ops Q rest e h n := by
 simp [zfV, put, VC, gW, gN, zai]
theorem zt0 {dst : Option Tmp} {op : Op} {g : Bool} : zfF P ops Q rest dst op (some g) e h n = (VQ (∀ t ∈ gT op, okG g (e t)) (zfV P ops Q rest dst g (aev P n op (gE op e) h) e h n)) := rfl
theorem zwW {dst : Option Tmp} {f : FuncId} {first caps args : List AV} :
  zpl P ops Q rest dst (.fn (.func f) first caps) args e h n = zaa P f (first ++ args ++ caps) h n fun r h' n' => zbd P ops Q rest (put e dst r) h' n' := by
 unfold zpl
 simp only [zfG]
 exact propext ⟨fun h => h.elim id (fun h => (ztD h).elim), .inl⟩
theorem zpm {dst : Option Tmp} {l : Nat} {args : List AV} : zpl P ops Q rest dst (.fn (.yield l) [] []) args e h n = zoP P ops Q rest dst l args e h n := by
 unfold zpl zoP
 simp only [zfG]
 exact propext ⟨fun h => h.elim False.elim id, .inr⟩
end
theorem zym (e : Env) (d : Nat) (x : AV) : put e (some d) x = upd e d x := rfl
theorem zyl (e : Env) (x : AV) : put e none x = e := rfl

section congr
variable {P : Program} {n0 : Nat} {Q : zbQ} {e e' : Env} {h h' : zao} {n n' : Nat} {ops rest : List Oper}
@[congr] theorem awp_congr {c : Code} (h3 : n = n') : awp P n0 c Q e h n = awp P n0 c Q e h n' := by subst h3; rfl
@[congr] theorem zzk {a b : Code} {x x' : AV} (h0 : x = x') : zwX P n0 a b Q x e h n = zwX P n0 a b Q x' e h n := by subst h0; rfl
@[congr] theorem zAx (h3 : n = n') : zbd P ops Q rest e h n = zbd P ops Q rest e h n' := by subst h3; rfl
@[congr] theorem zAv {dst : Option Tmp} {r r' : Res} (h0 : r = r') : zfv P ops Q rest dst r e h n = zfv P ops Q rest dst r' e h n := by subst h0; rfl
@[congr] theorem zzo {dst : Option Tmp} {g g' : Bool} {r r' : Res} (hg : g = g') (h0 : r = r') : zfV P ops Q rest dst g r e h n = zfV P ops Q rest dst g' r' e h n := by subst h0 hg; rfl
@[congr] theorem zzj {dst : Option Tmp} {fv fv' : AV} {args args' : List AV} (h0 : fv = fv') (h1 : args = args') : zpl P ops Q rest dst fv args e h n = zpl P ops Q rest dst fv' args' e h n := by subst h0 h1; rfl
@[congr] theorem zAu {dst : Option Tmp} {op : Op} {g g' : Option Bool} (h0 : g = g') : zfF P ops Q rest dst op g e h n = zfF P ops Q rest dst op g' e h n := by subst h0; rfl
@[congr] theorem zyH {f : FuncId} {args args' : List AV} {K : zcy} (h1 : args = args') : zaa P f args h n K = zaa P f args' h n K := by subst h1; rfl
@[congr] theorem zy3 {B : zbQ → Env → zao → Nat → Prop} (h3 : n = n') : zab n0 B Q e h n = zab n0 B Q e h n' := by subst h3; rfl
@[congr] theorem zAt {K : Env → zao → Nat → Prop} {x : Exit} (h3 : n = n') : ztF K Q x e h n = ztF K Q x e h n' := by subst h3; rfl
@[congr] theorem zyJ {x : Exit} (h3 : n = n') : zgl Q x e h n = zgl Q x e h n' := by subst h3; rfl
@[congr] theorem zyI {id : Nat} {x : Exit} (h3 : n = n') : ze1 id Q x e h n = ze1 id Q x e h n' := by subst h3; rfl
end congr

theorem zy7 {n : Nat} : Bel n .top = True := eq_true .top
theorem ztM {n : Nat} {x : Value} : Bel n (.v x) = True := eq_true (.v x)
theorem zy5 {n : Nat} {cs : List AV} : Bel n (.agg cs) = ∀ c ∈ cs, Bel n c := propext ⟨fun h => by cases h; assumption, .agg⟩
theorem zir {n : Nat} {cs : List AV} : Bel n (.tup cs) = ∀ c ∈ cs, Bel n c := propext ⟨fun h => by cases h; assumption, .tup⟩
theorem zbR {n sz : Nat} {rows : List (List AV)} : Bel n (.lst sz rows) = ∀ r ∈ rows, ∀ c ∈ r, Bel n c := propext ⟨fun h => by cases h; assumption, .lst⟩
theorem Bel_fp {n : Nat} {cs : List AV} : Bel n (.fp cs) = ∀ c ∈ cs, Bel n c := propext ⟨fun h => by cases h; assumption, .fp⟩
theorem zy6 {n o g sz i off : Nat} : Bel n (.ref o g sz i off) = (o < n) := propext ⟨fun h => by cases h; assumption, .ref⟩
theorem Bel_sl {n o g sz i len : Nat} : Bel n (.sl o g sz i len) = (o < n) := propext ⟨fun h => by cases h; assumption, .sl⟩
theorem Bel_fn {n : Nat} {f : Fn} {a b : List AV} : Bel n (.fn f a b) = ((∀ c ∈ a, Bel n c) ∧ ∀ c ∈ b, Bel n c) := propext ⟨fun h => by cases h; exact ⟨by assumption, by assumption⟩, fun h => .fn h.1 h.2⟩
theorem Bel_mp {n o : Nat} : Bel n (.mp o) = (o < n) := propext ⟨fun h => by cases h; assumption, .mp⟩
theorem zm2 {n : Nat} {g : Bool} {x : AV} : Bel n (.gd g x) = Bel n x := propext ⟨fun h => by cases h; assumption, .gd⟩

theorem zyb {g : Bool} {x : AV} : okG g (.gd g x) = True := eq_true (fun h => h)
theorem okG_gd {g g' : Bool} {x : AV} : okG g (.gd g' x) = (g = true → g' = true) := rfl
theorem okG_v {g : Bool} {x : Value} : okG g (.v x) = True := rfl
theorem zAk {o g sz i off : Nat} {b : Bool} : okG b (.ref o g sz i off) = True := rfl
theorem okG_sl {o g sz i len : Nat} {b : Bool} : okG b (.sl o g sz i len) = True := rfl
theorem zAj {b : Bool} {sz : Nat} {rows : List (List AV)} : okG b (.lst sz rows) = True := rfl
theorem okG_fp {b : Bool} {cs : List AV} : okG b (.fp cs) = True := rfl
theorem zAi {b : Bool} {cs : List AV} : okG b (.agg cs) = True := rfl
theorem zAm {b : Bool} {cs : List AV} : okG b (.tup cs) = True := rfl
theorem okG_fn {b : Bool} {f : Fn} {x y : List AV} : okG b (.fn f x y) = True := rfl
theorem zAl {b : Bool} : okG b .top = True := rfl
attribute [go_sem high] zyb
attribute [go_sem] zzh zt1 zrJ zzi zwV zbg zfB zcC zxt zxs zzL zxf zuq zsd zzv zxa zrI zup zxd zxc zzu zo4 ztV zwP zlR zoY zrx zur zlT zo2 zrA zwR zpj
 zny zl9 zkp ziK zpF znt zpG znu ze9 zcv zdQ zyW zmB zc2 zej
 zw8 zuk zum zr1 zpE zns zun zr2 zr4 zpw zw7 zuj zr6 zpy ziL zhZ zul zr0 zsb zpD zr5 zpx zuo zr3 zmb zkl znw zl7 zma zkk zko ziJ zsa zpC zkm ziH zr7 zpz zkn ziI zr8 zpA znx zl8 zgo zfW zr9 zpB znv zl6 aRes_0 zzp aRes_1 zzq zzl zzn zwZ zzm zwY zt0 zwW zym zyl aev ev ofV zwC znT pB evEq znO zu9 zu8 zhE zi6 ze7 eqS zdT gE gT zu6 evUn zhD zgy zc0 zbT zi3 zbU zi4 znR zz4
 zai unG okG_gd okG_v zAk okG_sl zAj okG_fp zAi zAm okG_fn zAl zci Op.operands Call.operands zaD zaz AV.cells AV.okCells AV.isCell zcn zaq zsx zd1 zmo zvq zee zu7 zxP zcN zds zdE zfa zg5 zcG zce zcO zeB setMany zfh zm0 zy2 zqQ
 zy7 ztM zy5 zir zbR Bel_fp zy6 Bel_sl Bel_fn Bel_mp zm2

section draw
variable {P : Program} {n0 : Nat} {Q : zbQ} {e e' : Env} {h h' : zao} {n i i' : Nat} {ops rest : List Oper} {acc : List zeR} {K : Env → zao → List zeR → Prop}
def zkX (Q : zbQ) (ops : List Oper) (n : Nat) (e : Env) (h : zao) (recs : List zeR) : Prop := zjA ops recs = true ∧ ((zvP recs = true ∧ Q .normal e h n) ∨ Q .normal e h (n + 16 * ops.length))
def adr (P : Program) (n : Nat) (ops : List Oper) (Q : zbQ) (m : Nat) (i : Nat) (rest : List Oper) (e : Env) (h : zao) (acc : List zeR) : Prop := zcY P n ops (zkX Q ops m) i rest e h acc
def znl (P : Program) (n : Nat) (ops : List Oper) (Q : zbQ) (m : Nat) (i : Nat) (rest : List Oper) (e : Env) (h : zao) (acc : List zeR) : Prop := zcY P n ops (zkX Q ops m) i rest e h acc
variable {m : Nat}
def znm (P : Program) (n : Nat) (ops : List Oper) (Q : zbQ) (e : Env) (h : zao) : Prop := ∃ h', Frz h h' ∧ zrV P ops Q e h' n
theorem zqO (hk : adr P n ops Q (n + ops.length) 0 ops e h []) : zrV P ops Q e h n := by
 refine ⟨ops.length, ?_⟩
 rw [List.take_length, List.drop_length]
 exact hk
theorem wZ (hk : adr P n ops Q (n + ops.length) 0 ops e h []) : znm P n ops Q e h := ⟨h, .refl h, zqO hk⟩
theorem znm.frz (h' : zao) (hf : Frz h h') (hk : adr P n ops Q (n + ops.length) 0 ops e h' []) : znm P n ops Q e h := ⟨h', hf, zqO hk⟩
def QTail (P : Program) (ops : List Oper) (Q : zbQ) (k : Nat) : zbQ
 | .normal, e, h, n => zbd P ops Q (ops.drop k) e h n
 | _, _, _, _ => False
theorem znb {k : Nat} : QTail P ops Q k .normal e h n = zbd P ops Q (ops.drop k) e h n := rfl
theorem znm.split (k : Nat) (hk : adr P n ops (QTail P ops Q k) (n + ops.length) 0 (ops.take k) e h []) : znm P n ops Q e h := ⟨h, .refl h, k, hk⟩
attribute [go_sem] znb
theorem zxb (id : Nat) (ops : List Oper) : awp P n0 (.region id ops.toArray true) Q e h n = znm P n ops Q e h := rfl
def zeW (P : Program) (n : Nat) (ops : List Oper) (Q : zbQ) (m : Nat) (i : Nat) (rest : List Oper) (dst : Option Tmp) (rd : List Nat) (r : Res) (e : Env) (h : zao) (acc : List zeR) : Prop :=
 VC r.cond (adr P n ops Q m (i + 1) rest (put e dst r.val) (zai r.wr h) (acc ++ [(rd, r.wr.map (·.1))]))
def zf1 (P : Program) (n : Nat) (ops : List Oper) (Q : zbQ) (m : Nat) (i : Nat) (rest : List Oper) (dst : Option Tmp) (g : Bool) (rd : List Nat) (r : Res) (e : Env) (h : zao) (acc : List zeR) : Prop :=
 VC (g = true → r.cond) (adr P n ops Q m (i + 1) rest (put e dst (.gd g r.val)) (zai (gW g r.wr) h) (acc ++ [(rd, (gW g r.wr).map (·.1))]))
def zfH (P : Program) (n : Nat) (ops : List Oper) (Q : zbQ) (m : Nat) (i : Nat) (rest : List Oper) (dst : Option Tmp) (op : Op) (g : Option Bool) (e : Env) (h : zao) (acc : List zeR) : Prop :=
 match g with
 | none => False
 | some g => VQ (∀ t ∈ gT op, okG g (e t)) (zf1 P n ops Q m i rest dst g ((op.operands.toList.map (ev (gE op e))).flatMap AV.ids) (aev P (n + i) op (gE op e) h) e h acc)
def zaw (P : Program) (n : Nat) (ops : List Oper) (Q : zbQ) (m : Nat) (i : Nat) (rest : List Oper) (dst : Option Tmp) (fv : AV) (args : List AV) (e : Env) (h : zao) (acc : List zeR) : Prop :=
 ∃ r S wr, zfK P (n + ops.length + 16 * i) fv args h r S wr ∧ adr P n ops Q m (i + 1) rest (put e dst r) (zai wr h) (acc ++ [(S, wr.map (·.1))])
theorem zzs : adr P n ops Q m i [] e h acc = zkX Q ops m e h acc := rfl
theorem zaW {dst : Option Tmp} {op : Op} {ty : TypeId} {pos : String} {after : Array Edge} (hc : zlc op = false) :
  adr P n ops Q m i (⟨dst, op, ty, pos, after, none⟩ :: rest) e h acc = zeW P n ops Q m i rest dst ((op.operands.toList.map (ev e)).flatMap AV.ids) (aev P (n + i) op e h) e h acc := by
 unfold adr zeW
 cases op with
 | call c =>
  obtain ⟨callee, args, ats⟩ := c
  cases callee with
  | value f => simp [zlc] at hc
  | _ => rfl
 | _ => rfl
theorem zw1 {dst : Option Tmp} {f : Operand} {args : Array Operand} {ats : Array TypeId} {ty : TypeId} {pos : String} {after : Array Edge} :
  adr P n ops Q m i (⟨dst, .call ⟨.value f, args, ats⟩, ty, pos, after, none⟩ :: rest) e h acc = zaw P n ops Q m i rest dst (ev e f) (args.toList.map (ev e)) e h acc := rfl
theorem zaX {dst : Option Tmp} {op : Op} {ty : TypeId} {pos : String} {after : Array Edge} {j : Nat} {want : Bool} (hc : zlc op = false) :
  adr P n ops Q m i (⟨dst, op, ty, pos, after, some (j, want)⟩ :: rest) e h acc = zfH P n ops Q m i rest dst op ((zaz ops j).bind fun t => zaD (e t) want) e h acc := by
 unfold adr zfH zf1
 cases op with
 | call c =>
  obtain ⟨callee, args, ats⟩ := c
  cases callee with
  | value f => simp [zlc] at hc
  | _ => rfl
 | _ => rfl
theorem VC_adr : VC True (znl P n ops Q m i rest e h acc) = adr P n ops Q m i rest e h acc := by simp [VC, znl, adr]
theorem zA3 {a : Prop} (h1 : a) (h2 : a → adr P n ops Q m i rest e h acc) : VC a (znl P n ops Q m i rest e h acc) := ⟨h1, h2 h1⟩
theorem zkX.mk {recs : List zeR} (h1 : (zjA ops recs && zvP recs) = true) (h2 : Q .normal e h n) : zkX Q ops n e h recs := by
 rw [Bool.and_eq_true] at h1
 exact ⟨h1.1, .inl ⟨h1.2, h2⟩⟩
theorem zBd {recs : List zeR} (h1 : zjA ops recs = true) (h2 : Q .normal e h (n + 16 * ops.length)) : zkX Q ops n e h recs := ⟨h1, .inr h2⟩
theorem wL {a : Prop} (h2 : a → zbd P ops Q rest e h n) (h1 : a := by first | omega | exact True.intro | rfl) : VC a (zfX P ops Q rest e h n) := ⟨h1, h2 h1⟩
theorem wD {a : Prop} (h2 : a → adr P n ops Q m i rest e h acc) (h1 : a := by first | omega | exact True.intro | (intros; omega)) : VC a (znl P n ops Q m i rest e h acc) := ⟨h1, h2 h1⟩
theorem wE {recs : List zeR} (h2 : Q .normal e h n) (h1 : (zjA ops recs && zvP recs) = true := by kernel_rfl) : zkX Q ops n e h recs := zkX.mk h1 h2
theorem dRes_0 {d : Tmp} {rd : List Nat} {c : Prop} {x : AV} : zeW P n ops Q m i rest (some d) rd ⟨c, x, [], 0⟩ e h acc = VC c (znl P n ops Q m (i + 1) rest (upd e d x) h (acc ++ [(rd, [])])) := rfl
theorem zzU {rd : List Nat} {c : Prop} {x : AV} : zeW P n ops Q m i rest none rd ⟨c, x, [], 0⟩ e h acc = VC c (znl P n ops Q m (i + 1) rest e h (acc ++ [(rd, [])])) := rfl
theorem dRes_1 {d : Tmp} {rd : List Nat} {c : Prop} {x : AV} {o : Nat} {y : Option zbn} {al : Nat} : zeW P n ops Q m i rest (some d) rd ⟨c, x, [(o, y)], al⟩ e h acc = VC c (znl P n ops Q m (i + 1) rest (upd e d x) (upd h o y) (acc ++ [(rd, [o])])) := rfl
theorem zzV {rd : List Nat} {c : Prop} {x : AV} {o : Nat} {y : Option zbn} {al : Nat} : zeW P n ops Q m i rest none rd ⟨c, x, [(o, y)], al⟩ e h acc = VC c (znl P n ops Q m (i + 1) rest e (upd h o y) (acc ++ [(rd, [o])])) := rfl
theorem zzQ {d : Tmp} {g : Bool} {rd : List Nat} {c : Prop} {x : AV} : zf1 P n ops Q m i rest (some d) g rd ⟨c, x, [], 0⟩ e h acc = VC (g = true → c) (znl P n ops Q m (i + 1) rest (upd e d (.gd g x)) h (acc ++ [(rd, [])])) := by
 cases g <;> simp [zf1, put, VC, adr, znl, gW, zai]
theorem zzS {d : Tmp} {rd : List Nat} {c : Prop} {x : AV} {o : Nat} {y : Option zbn} {al : Nat} : zf1 P n ops Q m i rest (some d) true rd ⟨c, x, [(o, y)], al⟩ e h acc = VC c (znl P n ops Q m (i + 1) rest (upd e d (.gd true x)) (upd h o y) (acc ++ [(rd, [o])])) := by
 simp [zf1, put, VC, adr, znl, gW, zai]
theorem zxz {rd : List Nat} {c : Prop} {x : AV} {o : Nat} {y : Option zbn} {al : Nat} : zf1 P n ops Q m i rest none true rd ⟨c, x, [(o, y)], al⟩ e h acc = VC c (znl P n ops Q m (i + 1) rest e (upd h o y) (acc ++ [(rd, [o])])) := by
 simp [zf1, put, VC, adr, znl, gW, zai]
theorem zzR {d : Tmp} {rd : List Nat} {r : Res} : zf1 P n ops Q m i rest (some d) false rd r e h acc = adr P n ops Q m (i + 1) rest (upd e d (.gd false r.val)) h (acc ++ [(rd, [])]) := by
 simp [zf1, put, VC, adr, gW, zai]
theorem zxy {rd : List Nat} {r : Res} : zf1 P n ops Q m i rest none false rd r e h acc = adr P n ops Q m (i + 1) rest e h (acc ++ [(rd, [])]) := by
 simp [zf1, put, VC, adr, gW, zai]
theorem zuS {dst : Option Tmp} {op : Op} {g : Bool} : zfH P n ops Q m i rest dst op (some g) e h acc = VQ (∀ t ∈ gT op, okG g (e t)) (zf1 P n ops Q m i rest dst g ((op.operands.toList.map (ev (gE op e))).flatMap AV.ids) (aev P (n + i) op (gE op e) h) e h acc) := rfl
theorem zA6 {dst : Option Tmp} {f : FuncId} {first caps args : List AV} (args' : List AV) (r : AV) (S : List Nat) (hp : zaP P f args' r) (hfl : zqG r) (hle : ∀ h₁ : zao, (∀ o ∈ S, h o = h₁ o) → zan h₁ noH 0 (first ++ args ++ caps) args') (hb : ∀ c ∈ args', Bel 0 c)
  (hk : adr P n ops Q m (i + 1) rest (put e dst r) h (acc ++ [(S, [])])) : zaw P n ops Q m i rest dst (.fn (.func f) first caps) args e h acc := ⟨r, S, [], .inl ⟨rfl, f, first, caps, args', rfl, hb, hp, .inl ⟨hle, hfl⟩⟩, hk⟩
theorem zAF {dst : Option Tmp} {f : FuncId} {first caps args : List AV} {r : AV} (hp : zaP P f (first ++ args ++ caps) r) (hb : ∀ c ∈ first ++ args ++ caps, Bel 0 c)
  (hk : adr P n ops Q m (i + 1) rest (put e dst r) h (acc ++ [([], [])])) : zaw P n ops Q m i rest dst (.fn (.func f) first caps) args e h acc := ⟨r, [], [], .inl ⟨rfl, f, first, caps, _, rfl, hb, hp, .inr rfl⟩, hk⟩
theorem zaw.frz {dst : Option Tmp} {f : FuncId} {first caps args : List AV} (args' : List AV) (r : AV) (S : List Nat) (wr : List (Nat × Option zbn)) (hp : zaP P f args' r)
  (hw : ∀ p ∈ wr, p.1 ∈ S ∧ ∃ g sz rs, p.2 = some (.rows false g sz rs) ∧ h p.1 = some (.rows true g sz rs)) (hle : ∀ h₁ : zao, (∀ o ∈ S, h o = h₁ o) → zan h₁ (zai wr h₁) 0 (first ++ args ++ caps) args') (hb : ∀ c ∈ args', Bel 0 c)
  (hk : adr P n ops Q m (i + 1) rest (put e dst r) (zai wr h) (acc ++ [(S, wr.map (·.1))])) : zaw P n ops Q m i rest dst (.fn (.func f) first caps) args e h acc := ⟨r, S, wr, .inr (.inl ⟨f, first, caps, args', rfl, hb, hp, hw, hle⟩), hk⟩
@[congr] theorem adr_congr (h1 : i = i') : adr P n ops Q m i rest e h acc = adr P n ops Q m i' rest e h acc := by subst h1; rfl
@[congr] theorem zAw (h1 : i = i') : znl P n ops Q m i rest e h acc = znl P n ops Q m i' rest e h acc := by subst h1; rfl
@[congr] theorem zAA {dst : Option Tmp} {rd rd' : List Nat} {r r' : Res} (h1 : i = i') (h2 : rd = rd') (h0 : r = r') : zeW P n ops Q m i rest dst rd r e h acc = zeW P n ops Q m i' rest dst rd' r' e h acc := by subst h0 h1 h2; rfl
@[congr] theorem zzT {dst : Option Tmp} {g g' : Bool} {rd rd' : List Nat} {r r' : Res} (h1 : i = i') (hg : g = g') (h2 : rd = rd') (h0 : r = r') : zf1 P n ops Q m i rest dst g rd r e h acc = zf1 P n ops Q m i' rest dst g' rd' r' e h acc := by subst h0 h1 h2 hg; rfl
@[congr] theorem zAz {dst : Option Tmp} {op : Op} {g g' : Option Bool} (h1 : i = i') (h0 : g = g') : zfH P n ops Q m i rest dst op g e h acc = zfH P n ops Q m i' rest dst op g' e h acc := by subst h0 h1; rfl
@[congr] theorem zzP {dst : Option Tmp} {fv fv' : AV} {args args' : List AV} (h1 : i = i') (h0 : fv = fv') (h2 : args = args') : zaw P n ops Q m i rest dst fv args e h acc = zaw P n ops Q m i' rest dst fv' args' e h acc := by subst h0 h1 h2; rfl
@[congr] theorem zAy {acc acc' : List zeR} {n' : Nat} (h1 : n = n') (h0 : acc = acc') : zkX Q ops n e h acc = zkX Q ops n' e h acc' := by subst h0 h1; rfl
end draw
section drawEq
variable {P : Program} {Q : zbQ} {e : Env} {h : zao} {n m i : Nat} {ops rest : List Oper} {acc : List zeR} {dst : Option Tmp} {ty : TypeId} {pos : String} {after : Array Edge} {j : Nat} {want : Bool}
theorem zw3 {x : Operand} : adr P n ops Q m i (⟨dst, .move x, ty, pos, after, none⟩ :: rest) e h acc = zeW P n ops Q m i rest dst (((.move x : Op).operands.toList.map (ev e)).flatMap AV.ids) (aev P (n + i) (.move x) e h) e h acc := zaW rfl
theorem zt5 {x : Operand} : adr P n ops Q m i (⟨dst, .move x, ty, pos, after, some (j, want)⟩ :: rest) e h acc = zfH P n ops Q m i rest dst (.move x) ((zaz ops j).bind fun t => zaD (e t) want) e h acc := zaX rfl
theorem zrS {x : Operand} : adr P n ops Q m i (⟨dst, .assign x, ty, pos, after, none⟩ :: rest) e h acc = zeW P n ops Q m i rest dst (((.assign x : Op).operands.toList.map (ev e)).flatMap AV.ids) (aev P (n + i) (.assign x) e h) e h acc := zaW rfl
theorem zpo {x : Operand} : adr P n ops Q m i (⟨dst, .assign x, ty, pos, after, some (j, want)⟩ :: rest) e h acc = zfH P n ops Q m i rest dst (.assign x) ((zaz ops j).bind fun t => zaD (e t) want) e h acc := zaX rfl
theorem zw4 {c a b : Operand} : adr P n ops Q m i (⟨dst, .pick c a b, ty, pos, after, none⟩ :: rest) e h acc = zeW P n ops Q m i rest dst (((.pick c a b : Op).operands.toList.map (ev e)).flatMap AV.ids) (aev P (n + i) (.pick c a b) e h) e h acc := zaW rfl
theorem zt6 {c a b : Operand} : adr P n ops Q m i (⟨dst, .pick c a b, ty, pos, after, some (j, want)⟩ :: rest) e h acc = zfH P n ops Q m i rest dst (.pick c a b) ((zaz ops j).bind fun t => zaD (e t) want) e h acc := zaX rfl
theorem zt8 {t : TypeId} : adr P n ops Q m i (⟨dst, .alloc t, ty, pos, after, none⟩ :: rest) e h acc = zeW P n ops Q m i rest dst (((.alloc t : Op).operands.toList.map (ev e)).flatMap AV.ids) (aev P (n + i) (.alloc t) e h) e h acc := zaW rfl
theorem zrK {t : TypeId} : adr P n ops Q m i (⟨dst, .alloc t, ty, pos, after, some (j, want)⟩ :: rest) e h acc = zfH P n ops Q m i rest dst (.alloc t) ((zaz ops j).bind fun t => zaD (e t) want) e h acc := zaX rfl
theorem zzr {t : TypeId} {x : Operand} : adr P n ops Q m i (⟨dst, .box t x, ty, pos, after, none⟩ :: rest) e h acc = zeW P n ops Q m i rest dst (((.box t x : Op).operands.toList.map (ev e)).flatMap AV.ids) (aev P (n + i) (.box t x) e h) e h acc := zaW rfl
theorem zw0 {t : TypeId} {x : Operand} : adr P n ops Q m i (⟨dst, .box t x, ty, pos, after, some (j, want)⟩ :: rest) e h acc = zfH P n ops Q m i rest dst (.box t x) ((zaz ops j).bind fun t => zaD (e t) want) e h acc := zaX rfl
theorem zua {t : TypeId} {ps : Array (Nat × Operand)} : adr P n ops Q m i (⟨dst, .build t ps, ty, pos, after, none⟩ :: rest) e h acc = zeW P n ops Q m i rest dst (((.build t ps : Op).operands.toList.map (ev e)).flatMap AV.ids) (aev P (n + i) (.build t ps) e h) e h acc := zaW rfl
theorem zrM {t : TypeId} {ps : Array (Nat × Operand)} : adr P n ops Q m i (⟨dst, .build t ps, ty, pos, after, some (j, want)⟩ :: rest) e h acc = zfH P n ops Q m i rest dst (.build t ps) ((zaz ops j).bind fun t => zaD (e t) want) e h acc := zaX rfl
theorem zkj {t : TypeId} {k : Nat} {ps : Array (Nat × Operand)} : adr P n ops Q m i (⟨dst, .buildSlice t k ps, ty, pos, after, none⟩ :: rest) e h acc = zeW P n ops Q m i rest dst (((.buildSlice t k ps : Op).operands.toList.map (ev e)).flatMap AV.ids) (aev P (n + i) (.buildSlice t k ps) e h) e h acc := zaW rfl
theorem ziF {t : TypeId} {k : Nat} {ps : Array (Nat × Operand)} : adr P n ops Q m i (⟨dst, .buildSlice t k ps, ty, pos, after, some (j, want)⟩ :: rest) e h acc = zfH P n ops Q m i rest dst (.buildSlice t k ps) ((zaz ops j).bind fun t => zaD (e t) want) e h acc := zaX rfl
theorem zw2 {t : TypeId} {x : Operand} : adr P n ops Q m i (⟨dst, .load t x, ty, pos, after, none⟩ :: rest) e h acc = zeW P n ops Q m i rest dst (((.load t x : Op).operands.toList.map (ev e)).flatMap AV.ids) (aev P (n + i) (.load t x) e h) e h acc := zaW rfl
theorem zt4 {t : TypeId} {x : Operand} : adr P n ops Q m i (⟨dst, .load t x, ty, pos, after, some (j, want)⟩ :: rest) e h acc = zfH P n ops Q m i rest dst (.load t x) ((zaz ops j).bind fun t => zaD (e t) want) e h acc := zaX rfl
theorem zuf {t : TypeId} {x y : Operand} : adr P n ops Q m i (⟨dst, .store t x y, ty, pos, after, none⟩ :: rest) e h acc = zeW P n ops Q m i rest dst (((.store t x y : Op).operands.toList.map (ev e)).flatMap AV.ids) (aev P (n + i) (.store t x y) e h) e h acc := zaW rfl
theorem zrR {t : TypeId} {x y : Operand} : adr P n ops Q m i (⟨dst, .store t x y, ty, pos, after, some (j, want)⟩ :: rest) e h acc = zfH P n ops Q m i rest dst (.store t x y) ((zaz ops j).bind fun t => zaD (e t) want) e h acc := zaX rfl
theorem zt9 {o : BinOp} {t : TypeId} {x y : Operand} {t' : TypeId} : adr P n ops Q m i (⟨dst, .binOp o t x y t', ty, pos, after, none⟩ :: rest) e h acc = zeW P n ops Q m i rest dst (((.binOp o t x y t' : Op).operands.toList.map (ev e)).flatMap AV.ids) (aev P (n + i) (.binOp o t x y t') e h) e h acc := zaW rfl
theorem zrL {o : BinOp} {t : TypeId} {x y : Operand} {t' : TypeId} : adr P n ops Q m i (⟨dst, .binOp o t x y t', ty, pos, after, some (j, want)⟩ :: rest) e h acc = zfH P n ops Q m i rest dst (.binOp o t x y t') ((zaz ops j).bind fun t => zaD (e t) want) e h acc := zaX rfl
theorem zw5 {o : UnOp} {t : TypeId} {x : Operand} : adr P n ops Q m i (⟨dst, .unOp o t x, ty, pos, after, none⟩ :: rest) e h acc = zeW P n ops Q m i rest dst (((.unOp o t x : Op).operands.toList.map (ev e)).flatMap AV.ids) (aev P (n + i) (.unOp o t x) e h) e h acc := zaW rfl
theorem zno {x : Operand} : adr P n ops Q m i (⟨dst, .nilCheck x, ty, pos, after, none⟩ :: rest) e h acc = zeW P n ops Q m i rest dst (((.nilCheck x : Op).operands.toList.map (ev e)).flatMap AV.ids) (aev P (n + i) (.nilCheck x) e h) e h acc := zaW rfl
theorem zt7 {o : UnOp} {t : TypeId} {x : Operand} : adr P n ops Q m i (⟨dst, .unOp o t x, ty, pos, after, some (j, want)⟩ :: rest) e h acc = zfH P n ops Q m i rest dst (.unOp o t x) ((zaz ops j).bind fun t => zaD (e t) want) e h acc := zaX rfl
theorem zl0 {x : Operand} : adr P n ops Q m i (⟨dst, .nilCheck x, ty, pos, after, some (j, want)⟩ :: rest) e h acc = zfH P n ops Q m i rest dst (.nilCheck x) ((zaz ops j).bind fun t => zaD (e t) want) e h acc := zaX rfl
theorem zps {s d : TypeId} {x : Operand} : adr P n ops Q m i (⟨dst, .convert s d x, ty, pos, after, none⟩ :: rest) e h acc = zeW P n ops Q m i rest dst (((.convert s d x : Op).operands.toList.map (ev e)).flatMap AV.ids) (aev P (n + i) (.convert s d x) e h) e h acc := zaW rfl
theorem zni {s d : TypeId} {x : Operand} : adr P n ops Q m i (⟨dst, .convert s d x, ty, pos, after, some (j, want)⟩ :: rest) e h acc = zfH P n ops Q m i rest dst (.convert s d x) ((zaz ops j).bind fun t => zaD (e t) want) e h acc := zaX rfl
theorem zl1 {t : TypeId} {x : Operand} {f : Nat} : adr P n ops Q m i (⟨dst, .fieldAddr t x f, ty, pos, after, none⟩ :: rest) e h acc = zeW P n ops Q m i rest dst (((.fieldAddr t x f : Op).operands.toList.map (ev e)).flatMap AV.ids) (aev P (n + i) (.fieldAddr t x f) e h) e h acc := zaW rfl
theorem zkf {t : TypeId} {x : Operand} {f : Nat} : adr P n ops Q m i (⟨dst, .fieldAddr t x f, ty, pos, after, some (j, want)⟩ :: rest) e h acc = zfH P n ops Q m i rest dst (.fieldAddr t x f) ((zaz ops j).bind fun t => zaD (e t) want) e h acc := zaX rfl
theorem zub {t : TypeId} {x : Operand} {f : Nat} : adr P n ops Q m i (⟨dst, .field t x f, ty, pos, after, none⟩ :: rest) e h acc = zeW P n ops Q m i rest dst (((.field t x f : Op).operands.toList.map (ev e)).flatMap AV.ids) (aev P (n + i) (.field t x f) e h) e h acc := zaW rfl
theorem zrN {t : TypeId} {x : Operand} {f : Nat} : adr P n ops Q m i (⟨dst, .field t x f, ty, pos, after, some (j, want)⟩ :: rest) e h acc = zfH P n ops Q m i rest dst (.field t x f) ((zaz ops j).bind fun t => zaD (e t) want) e h acc := zaX rfl
theorem zl2 {t : TypeId} {x ix : Operand} : adr P n ops Q m i (⟨dst, .indexAddr t x ix, ty, pos, after, none⟩ :: rest) e h acc = zeW P n ops Q m i rest dst (((.indexAddr t x ix : Op).operands.toList.map (ev e)).flatMap AV.ids) (aev P (n + i) (.indexAddr t x ix) e h) e h acc := zaW rfl
theorem zkg {t : TypeId} {x ix : Operand} : adr P n ops Q m i (⟨dst, .indexAddr t x ix, ty, pos, after, some (j, want)⟩ :: rest) e h acc = zfH P n ops Q m i rest dst (.indexAddr t x ix) ((zaz ops j).bind fun t => zaD (e t) want) e h acc := zaX rfl
theorem zuc {t : TypeId} {x ix : Operand} : adr P n ops Q m i (⟨dst, .index t x ix, ty, pos, after, none⟩ :: rest) e h acc = zeW P n ops Q m i rest dst (((.index t x ix : Op).operands.toList.map (ev e)).flatMap AV.ids) (aev P (n + i) (.index t x ix) e h) e h acc := zaW rfl
theorem zrO {t : TypeId} {x ix : Operand} : adr P n ops Q m i (⟨dst, .index t x ix, ty, pos, after, some (j, want)⟩ :: rest) e h acc = zfH P n ops Q m i rest dst (.index t x ix) ((zaz ops j).bind fun t => zaD (e t) want) e h acc := zaX rfl
theorem zpt {x : Operand} {fi : Nat} : adr P n ops Q m i (⟨dst, .extract x fi, ty, pos, after, none⟩ :: rest) e h acc = zeW P n ops Q m i rest dst (((.extract x fi : Op).operands.toList.map (ev e)).flatMap AV.ids) (aev P (n + i) (.extract x fi) e h) e h acc := zaW rfl
theorem znj {x : Operand} {fi : Nat} : adr P n ops Q m i (⟨dst, .extract x fi, ty, pos, after, some (j, want)⟩ :: rest) e h acc = zfH P n ops Q m i rest dst (.extract x fi) ((zaz ops j).bind fun t => zaD (e t) want) e h acc := zaX rfl
theorem zpu {t : TypeId} {r : Option Operand} : adr P n ops Q m i (⟨dst, .makeMap t r, ty, pos, after, none⟩ :: rest) e h acc = zeW P n ops Q m i rest dst (((.makeMap t r : Op).operands.toList.map (ev e)).flatMap AV.ids) (aev P (n + i) (.makeMap t r) e h) e h acc := zaW rfl
theorem znk {t : TypeId} {r : Option Operand} : adr P n ops Q m i (⟨dst, .makeMap t r, ty, pos, after, some (j, want)⟩ :: rest) e h acc = zfH P n ops Q m i rest dst (.makeMap t r) ((zaz ops j).bind fun t => zaD (e t) want) e h acc := zaX rfl
theorem zl4 {t : TypeId} {m' k x : Operand} : adr P n ops Q m i (⟨dst, .mapUpdate t m' k x, ty, pos, after, none⟩ :: rest) e h acc = zeW P n ops Q m i rest dst (((.mapUpdate t m' k x : Op).operands.toList.map (ev e)).flatMap AV.ids) (aev P (n + i) (.mapUpdate t m' k x) e h) e h acc := zaW rfl
theorem zki {t : TypeId} {m' k x : Operand} : adr P n ops Q m i (⟨dst, .mapUpdate t m' k x, ty, pos, after, some (j, want)⟩ :: rest) e h acc = zfH P n ops Q m i rest dst (.mapUpdate t m' k x) ((zaz ops j).bind fun t => zaD (e t) want) e h acc := zaX rfl
theorem zrT {t : TypeId} {m' k x : Operand} : adr P n ops Q m i (⟨dst, .insert t m' k x, ty, pos, after, none⟩ :: rest) e h acc = zeW P n ops Q m i rest dst (((.insert t m' k x : Op).operands.toList.map (ev e)).flatMap AV.ids) (aev P (n + i) (.insert t m' k x) e h) e h acc := zaW rfl
theorem zpp {t : TypeId} {m' k x : Operand} : adr P n ops Q m i (⟨dst, .insert t m' k x, ty, pos, after, some (j, want)⟩ :: rest) e h acc = zfH P n ops Q m i rest dst (.insert t m' k x) ((zaz ops j).bind fun t => zaD (e t) want) e h acc := zaX rfl
theorem zrU {t : TypeId} {m' k : Operand} {ok : Bool} : adr P n ops Q m i (⟨dst, .lookup t m' k ok, ty, pos, after, none⟩ :: rest) e h acc = zeW P n ops Q m i rest dst (((.lookup t m' k ok : Op).operands.toList.map (ev e)).flatMap AV.ids) (aev P (n + i) (.lookup t m' k ok) e h) e h acc := zaW rfl
theorem zpq {t : TypeId} {m' k : Operand} {ok : Bool} : adr P n ops Q m i (⟨dst, .lookup t m' k ok, ty, pos, after, some (j, want)⟩ :: rest) e h acc = zfH P n ops Q m i rest dst (.lookup t m' k ok) ((zaz ops j).bind fun t => zaD (e t) want) e h acc := zaX rfl
theorem zl3 {t : TypeId} {l c : Operand} : adr P n ops Q m i (⟨dst, .makeSlice t l c, ty, pos, after, none⟩ :: rest) e h acc = zeW P n ops Q m i rest dst (((.makeSlice t l c : Op).operands.toList.map (ev e)).flatMap AV.ids) (aev P (n + i) (.makeSlice t l c) e h) e h acc := zaW rfl
theorem zkh {t : TypeId} {l c : Operand} : adr P n ops Q m i (⟨dst, .makeSlice t l c, ty, pos, after, some (j, want)⟩ :: rest) e h acc = zfH P n ops Q m i rest dst (.makeSlice t l c) ((zaz ops j).bind fun t => zaD (e t) want) e h acc := zaX rfl
theorem zue {t : TypeId} {x : Operand} {lo hi mx : Option Operand} : adr P n ops Q m i (⟨dst, .slice t x lo hi mx, ty, pos, after, none⟩ :: rest) e h acc = zeW P n ops Q m i rest dst (((.slice t x lo hi mx : Op).operands.toList.map (ev e)).flatMap AV.ids) (aev P (n + i) (.slice t x lo hi mx) e h) e h acc := zaW rfl
theorem zrQ {t : TypeId} {x : Operand} {lo hi mx : Option Operand} : adr P n ops Q m i (⟨dst, .slice t x lo hi mx, ty, pos, after, some (j, want)⟩ :: rest) e h acc = zfH P n ops Q m i rest dst (.slice t x lo hi mx) ((zaz ops j).bind fun t => zaD (e t) want) e h acc := zaX rfl
theorem zgX {t : TypeId} {x : Operand} : adr P n ops Q m i (⟨dst, .makeInterface t x, ty, pos, after, none⟩ :: rest) e h acc = zeW P n ops Q m i rest dst (((.makeInterface t x : Op).operands.toList.map (ev e)).flatMap AV.ids) (aev P (n + i) (.makeInterface t x) e h) e h acc := zaW rfl
theorem zgn {t : TypeId} {x : Operand} : adr P n ops Q m i (⟨dst, .makeInterface t x, ty, pos, after, some (j, want)⟩ :: rest) e h acc = zfH P n ops Q m i rest dst (.makeInterface t x) ((zaz ops j).bind fun t => zaD (e t) want) e h acc := zaX rfl
theorem zud {x : Operand} : adr P n ops Q m i (⟨dst, .panic x, ty, pos, after, none⟩ :: rest) e h acc = zeW P n ops Q m i rest dst (((.panic x : Op).operands.toList.map (ev e)).flatMap AV.ids) (aev P (n + i) (.panic x) e h) e h acc := zaW rfl
theorem zrP {x : Operand} : adr P n ops Q m i (⟨dst, .panic x, ty, pos, after, some (j, want)⟩ :: rest) e h acc = zfH P n ops Q m i rest dst (.panic x) ((zaz ops j).bind fun t => zaD (e t) want) e h acc := zaX rfl
theorem zpr {b : Builtin} {args : Array Operand} {ats : Array TypeId} : adr P n ops Q m i (⟨dst, .call ⟨.builtin b, args, ats⟩, ty, pos, after, none⟩ :: rest) e h acc = zeW P n ops Q m i rest dst (((.call ⟨.builtin b, args, ats⟩ : Op).operands.toList.map (ev e)).flatMap AV.ids) (aev P (n + i) (.call ⟨.builtin b, args, ats⟩) e h) e h acc := zaW rfl
theorem znh {b : Builtin} {args : Array Operand} {ats : Array TypeId} : adr P n ops Q m i (⟨dst, .call ⟨.builtin b, args, ats⟩, ty, pos, after, some (j, want)⟩ :: rest) e h acc = zfH P n ops Q m i rest dst (.call ⟨.builtin b, args, ats⟩) ((zaz ops j).bind fun t => zaD (e t) want) e h acc := zaX rfl
theorem znn {f : Fn} {xs ys : Array Operand} : adr P n ops Q m i (⟨dst, .makeFunc f xs ys, ty, pos, after, none⟩ :: rest) e h acc = zeW P n ops Q m i rest dst (((.makeFunc f xs ys : Op).operands.toList.map (ev e)).flatMap AV.ids) (aev P (n + i) (.makeFunc f xs ys) e h) e h acc := zaW rfl
theorem zlZ {f : Fn} {xs ys : Array Operand} : adr P n ops Q m i (⟨dst, .makeFunc f xs ys, ty, pos, after, some (j, want)⟩ :: rest) e h acc = zfH P n ops Q m i rest dst (.makeFunc f xs ys) ((zaz ops j).bind fun t => zaD (e t) want) e h acc := zaX rfl
end drawEq
attribute [go_sem] zpu znk zl4 zki zrT zpp zrU zpq zw3 zt5 zrS zpo zw4 zt6 zt8 zrK zzr zw0 zua zrM zkj ziF zw2 zt4 zuf zrR zt9 zrL zw5 zt7 zno zl0 zps zni zl1 zkf zub zrN zl2 zkg zuc zrO zpt znj zl3 zkh zue zrQ zgX zgn zud zrP zpr znh znn zlZ
attribute [go_sem] zxb zzs zw1 VC_adr dRes_0 zzU dRes_1 zzV zzQ zzS zxz zzR zxy zuS AV.ids List.flatMap_cons List.flatMap_nil
section gcall
variable {P : Program} {Q : zbQ} {e : Env} {h : zao} {n m i : Nat} {ops rest : List Oper} {acc : List zeR}
def aGC (P : Program) (ops : List Oper) (Q : zbQ) (rest : List Oper) (dst : Option Tmp) (g : Bool) (fv : AV) (args : List AV) (e : Env) (h : zao) (n : Nat) : Prop :=
 (∃ x, (g = true → zfG P fv args h n fun r h' n' => r = x ∧ h' = h ∧ n' = n) ∧ zbd P ops Q rest (put e dst (.gd g x)) h n) ∨
 (g = true ∧ zfG P fv args h n fun r h' n' => zbd P ops Q rest (put e dst (.gd true r)) h' n') ∨
 (g = true ∧ zh7 e fv args h n fun e' r h' => zbd P ops Q rest (put e' dst (.gd true r)) h' n)
def zh8 (P : Program) (ops : List Oper) (Q : zbQ) (rest : List Oper) (dst : Option Tmp) (f : Operand) (args : List Operand) (op : Op) (g : Option Bool) (e : Env) (h : zao) (n : Nat) : Prop :=
 match g with
 | none => False
 | some g => VQ (∀ t ∈ zci op, okG g (e t)) (aGC P ops Q rest dst g (ev (fun t => unG (e t)) f) (args.map (ev fun t => unG (e t))) e h n)
theorem zrZ {dst : Option Tmp} {f : Operand} {args : Array Operand} {ats : Array TypeId} {ty : TypeId} {pos : String} {after : Array Edge} {j : Nat} {want : Bool} :
  zbd P ops Q (⟨dst, .call ⟨.value f, args, ats⟩, ty, pos, after, some (j, want)⟩ :: rest) e h n = zh8 P ops Q rest dst f args.toList (.call ⟨.value f, args, ats⟩) ((zaz ops j).bind fun t => zaD (e t) want) e h n := rfl
theorem zlY {dst : Option Tmp} {f : Operand} {args : List Operand} {op : Op} {g : Bool} : zh8 P ops Q rest dst f args op (some g) e h n = VQ (∀ t ∈ zci op, okG g (e t)) (aGC P ops Q rest dst g (ev (fun t => unG (e t)) f) (args.map (ev fun t => unG (e t))) e h n) := rfl
theorem zBc {dst : Option Tmp} {g : Bool} {f : FuncId} {first caps args : List AV} (args' : List AV) (r : AV) (hp : g = true → zaP P f args' r) (hfl : zqG r) (hle : zan h noH n (first ++ args ++ caps) args') (hb : ∀ c ∈ args', Bel 0 c)
  (hk : zbd P ops Q rest (put e dst (.gd g r)) h n) : aGC P ops Q rest dst g (.fn (.func f) first caps) args e h n :=
 .inl ⟨r, fun hg => zBa (hp hg) hfl hle hb ⟨rfl, rfl, rfl⟩, hk⟩
theorem zAS {dst : Option Tmp} {g : Bool} {f : FuncId} {first caps args : List AV} (r : AV) (hp : g = true → zaP P f (first ++ args ++ caps) r) (hb : ∀ c ∈ first ++ args ++ caps, Bel 0 c)
  (hk : zbd P ops Q rest (put e dst (.gd g r)) h n) : aGC P ops Q rest dst g (.fn (.func f) first caps) args e h n :=
 .inl ⟨r, fun hg => zAD (hp hg) hb ⟨rfl, rfl, rfl⟩, hk⟩
theorem aGC.skip (x : AV) {dst : Option Tmp} {fv : AV} {args : List AV} (hk : zbd P ops Q rest (put e dst (.gd false x)) h n) : aGC P ops Q rest dst false fv args e h n := .inl ⟨x, (fun hg => nomatch hg), hk⟩
theorem aGC.go {dst : Option Tmp} {f : FuncId} {first caps args : List AV} (hk : zaa P f (first ++ args ++ caps) h n fun r h' n' => zbd P ops Q rest (put e dst (.gd true r)) h' n') : aGC P ops Q rest dst true (.fn (.func f) first caps) args e h n := .inr (.inl ⟨rfl, hk⟩)
def dGC (P : Program) (n : Nat) (ops : List Oper) (Q : zbQ) (m : Nat) (i : Nat) (rest : List Oper) (dst : Option Tmp) (g : Bool) (fv : AV) (args : List AV) (e : Env) (h : zao) (acc : List zeR) : Prop :=
 ∃ r S wr, (g = true → zfK P (n + ops.length + 16 * i) fv args h r S wr) ∧ (g = false → wr = []) ∧ adr P n ops Q m (i + 1) rest (put e dst (.gd g r)) (zai wr h) (acc ++ [(S, wr.map (·.1))])
def zid (P : Program) (n : Nat) (ops : List Oper) (Q : zbQ) (m : Nat) (i : Nat) (rest : List Oper) (dst : Option Tmp) (f : Operand) (args : List Operand) (op : Op) (g : Option Bool) (e : Env) (h : zao) (acc : List zeR) : Prop :=
 match g with
 | none => False
 | some g => VQ (∀ t ∈ zci op, okG g (e t)) (dGC P n ops Q m i rest dst g (ev (fun t => unG (e t)) f) (args.map (ev fun t => unG (e t))) e h acc)
theorem zt3 {dst : Option Tmp} {f : Operand} {args : Array Operand} {ats : Array TypeId} {ty : TypeId} {pos : String} {after : Array Edge} {j : Nat} {want : Bool} :
  adr P n ops Q m i (⟨dst, .call ⟨.value f, args, ats⟩, ty, pos, after, some (j, want)⟩ :: rest) e h acc = zid P n ops Q m i rest dst f args.toList (.call ⟨.value f, args, ats⟩) ((zaz ops j).bind fun t => zaD (e t) want) e h acc := rfl
theorem zmm {dst : Option Tmp} {f : Operand} {args : List Operand} {op : Op} {g : Bool} : zid P n ops Q m i rest dst f args op (some g) e h acc = VQ (∀ t ∈ zci op, okG g (e t)) (dGC P n ops Q m i rest dst g (ev (fun t => unG (e t)) f) (args.map (ev fun t => unG (e t))) e h acc) := rfl
theorem zBe {dst : Option Tmp} {g : Bool} {f : FuncId} {first caps args : List AV} (args' : List AV) (r : AV) (S : List Nat) (hp : g = true → zaP P f args' r) (hfl : zqG r) (hle : ∀ h₁ : zao, (∀ o ∈ S, h o = h₁ o) → zan h₁ noH 0 (first ++ args ++ caps) args')
  (hb : ∀ c ∈ args', Bel 0 c) (hk : adr P n ops Q m (i + 1) rest (put e dst (.gd g r)) h (acc ++ [(S, [])])) : dGC P n ops Q m i rest dst g (.fn (.func f) first caps) args e h acc :=
 ⟨r, S, [], fun hg => .inl ⟨rfl, f, first, caps, args', rfl, hb, hp hg, .inl ⟨hle, hfl⟩⟩, fun _ => rfl, hk⟩
theorem zAO {dst : Option Tmp} {g : Bool} {f : FuncId} {first caps args : List AV} (r : AV) (hp : g = true → zaP P f (first ++ args ++ caps) r) (hb : ∀ c ∈ first ++ args ++ caps, Bel 0 c)
  (hk : adr P n ops Q m (i + 1) rest (put e dst (.gd g r)) h (acc ++ [([], [])])) : dGC P n ops Q m i rest dst g (.fn (.func f) first caps) args e h acc :=
 ⟨r, [], [], fun hg => .inl ⟨rfl, f, first, caps, _, rfl, hb, hp hg, .inr rfl⟩, fun _ => rfl, hk⟩
theorem dGC.skip (x : AV) {dst : Option Tmp} {fv : AV} {args : List AV} (hk : adr P n ops Q m (i + 1) rest (put e dst (.gd false x)) h (acc ++ [([], [])])) : dGC P n ops Q m i rest dst false fv args e h acc :=
 ⟨x, [], [], (fun hg => nomatch hg), fun _ => rfl, hk⟩
theorem dGC.frz {dst : Option Tmp} {f : FuncId} {first caps args : List AV} (args' : List AV) (r : AV) (S : List Nat) (wr : List (Nat × Option zbn)) (hp : zaP P f args' r)
  (hw : ∀ p ∈ wr, p.1 ∈ S ∧ ∃ g sz rs, p.2 = some (.rows false g sz rs) ∧ h p.1 = some (.rows true g sz rs)) (hle : ∀ h₁ : zao, (∀ o ∈ S, h o = h₁ o) → zan h₁ (zai wr h₁) 0 (first ++ args ++ caps) args') (hb : ∀ c ∈ args', Bel 0 c)
  (hk : adr P n ops Q m (i + 1) rest (put e dst (.gd true r)) (zai wr h) (acc ++ [(S, wr.map (·.1))])) : dGC P n ops Q m i rest dst true (.fn (.func f) first caps) args e h acc :=
 ⟨r, S, wr, fun _ => .inr (.inl ⟨f, first, caps, args', rfl, hb, hp, hw, hle⟩), (fun h => nomatch h), hk⟩
@[congr] theorem aGC_congr {dst : Option Tmp} {g g' : Bool} {fv fv' : AV} {args args' : List AV} (hg : g = g') (h0 : fv = fv') (h1 : args = args') : aGC P ops Q rest dst g fv args e h n = aGC P ops Q rest dst g' fv' args' e h n := by subst h0 h1 hg; rfl
@[congr] theorem zwH {dst : Option Tmp} {f : Operand} {args : List Operand} {op : Op} {g g' : Option Bool} (h0 : g = g') : zh8 P ops Q rest dst f args op g e h n = zh8 P ops Q rest dst f args op g' e h n := by subst h0; rfl
@[congr] theorem dGC_congr {dst : Option Tmp} {g g' : Bool} {fv fv' : AV} {args args' : List AV} {i' : Nat} (hi : i = i') (hg : g = g') (h0 : fv = fv') (h1 : args = args') : dGC P n ops Q m i rest dst g fv args e h acc = dGC P n ops Q m i' rest dst g' fv' args' e h acc := by subst h0 h1 hg hi; rfl
@[congr] theorem zwI {dst : Option Tmp} {f : Operand} {args : List Operand} {op : Op} {g g' : Option Bool} {i' : Nat} (hi : i = i') (h0 : g = g') : zid P n ops Q m i rest dst f args op g e h acc = zid P n ops Q m i' rest dst f args op g' e h acc := by subst h0 hi; rfl
end gcall
attribute [go_sem] zrZ zlY zt3 zmm

theorem zlW {n : Nat} : ∀ {xs : List AV}, (∀ c ∈ xs, Bel 0 c) → ShL n xs xs
 | [], _ => .nil
 | x :: xs, h => .cons (.same (h x (by simp))) (zlW fun c hc => h c (by simp [hc]))
theorem Sh_agg {n : Nat} {xs ys : List AV} : Sh n (.agg xs) (.agg ys) = ShL n xs ys := propext ⟨fun h => by
 cases h with
 | same h => cases h with | agg h => exact zlW h
 | agg h => exact h, .agg⟩
theorem Sh_tup {n : Nat} {xs ys : List AV} : Sh n (.tup xs) (.tup ys) = ShL n xs ys := propext ⟨fun h => by
 cases h with
 | same h => cases h with | tup h => exact zlW h
 | tup h => exact h, .tup⟩
theorem Sh_fn {n : Nat} {f : Fn} {a b a' b' : List AV} (h : ShL n a a') (h' : ShL n b b') : Sh n (.fn f a b) (.fn f a' b') = True := eq_true (.fn h h')
theorem Sh_ref {n o g sz i off : Nat} : Sh n (.ref o g sz i off) (.ref (n + o) g sz i off) = True := eq_true .ref
theorem Sh_sl {n o g sz i len : Nat} : Sh n (.sl o g sz i len) (.sl (n + o) g sz i len) = True := eq_true .sl
theorem zzg {n g sz i off : Nat} : Sh n (.ref 0 g sz i off) (.ref n g sz i off) = True := eq_true (.ref (o := 0))
theorem Sh_sl0 {n g sz i len : Nat} : Sh n (.sl 0 g sz i len) (.sl n g sz i len) = True := eq_true (.sl (o := 0))
theorem Sh_v {n : Nat} {x : Value} : Sh n (.v x) (.v x) = True := eq_true (.same (.v x))
theorem Sh_lst {n sz : Nat} {rows : List (List AV)} (h : ∀ r ∈ rows, ∀ c ∈ r, Bel 0 c) : Sh n (.lst sz rows) (.lst sz rows) = True := eq_true (.same (.lst h))
theorem zzf {n : Nat} : ShL n [] [] = True := eq_true .nil
theorem zwT {n : Nat} {x y : AV} {xs ys : List AV} : ShL n (x :: xs) (y :: ys) = (Sh n x y ∧ ShL n xs ys) := propext ⟨fun h => by cases h with | cons a b => exact ⟨a, b⟩, fun h => .cons h.1 h.2⟩
theorem ztZ {n : Nat} {rs : List (List AV)} (h : ∀ r ∈ rs, ∀ c ∈ r, Bel 0 c) : zqL n rs rs = True := eq_true (.same h)
theorem zwS {n : Nat} : zqL n [] [] = True := eq_true .nil
theorem ztY {n : Nat} {x y : List AV} {xs ys : List (List AV)} (h : ShL n x y ∧ zqL n xs ys) : zqL n (x :: xs) (y :: ys) = True := eq_true (.cons h.1 h.2)
theorem zwU {n : Nat} {mt : Bool} {g sz : Nat} {rs rs' : List (List AV)} : ShO n (.rows mt g sz rs) (.rows mt g sz rs') = zqL n rs rs' := propext ⟨fun h => by cases h; assumption, .rows⟩
theorem zze {n : Nat} : ShH n [] [] = True := eq_true .nil
theorem zqK {n o : Nat} {x y : zbn} {l l' : List (Nat × zbn)} : ShH n ((o, x) :: l) ((n + o, y) :: l') = (ShO n x y ∧ ShH n l l') :=
 propext ⟨fun h => by cases h with | cons a b => exact ⟨a, b⟩, fun h => .cons h.1 h.2⟩
theorem ztX {n : Nat} {x y : zbn} {l l' : List (Nat × zbn)} : ShH n ((0, x) :: l) ((n, y) :: l') = (ShO n x y ∧ ShH n l l') := zqK (o := 0)
attribute [go_sem] Sh_agg Sh_tup Sh_fn Sh_ref Sh_sl zzg Sh_sl0 Sh_v Sh_lst zzf zwT ztZ zwS ztY zwU zze zqK ztX zdV
theorem zxZ {h h' : zao} {n : Nat} {x : AV} : LeV h h' n x x := .refl x
attribute [go_sem] zxZ
theorem zy8 {n : Int} : InR .i64 n = (-9223372036854775808 ≤ n ∧ n ≤ 9223372036854775807) := by
 simp [InR, IntKind.min, IntKind.max, IntKind.signed, IntKind.bits]
theorem InR_u8 {n : Int} : InR .u8 n = (0 ≤ n ∧ n ≤ 255) := by
 simp [InR, IntKind.min, IntKind.max, IntKind.signed, IntKind.bits]
theorem zza {n : Int} : InR .u64 n = (0 ≤ n ∧ n ≤ 18446744073709551615) := by
 simp [InR, IntKind.min, IntKind.max, IntKind.signed, IntKind.bits]
theorem zy9 {n : Int} : InR .u32 n = (0 ≤ n ∧ n ≤ 4294967295) := by
 simp [InR, IntKind.min, IntKind.max, IntKind.signed, IntKind.bits]
attribute [go_sem] zy8 InR_u8 zza zy9
theorem oc_int {k : IntKind} {n : Int} : (Value.int k n).oneCell' = true := rfl
theorem zAh {b : Bool} : (Value.bool b).oneCell' = true := rfl
theorem zya {a : Option Addr} {l c : Nat} : (Value.slice a l c).oneCell' = true := rfl
theorem zsZ {a : Option Addr} : (Value.pointer a).oneCell' = true := rfl
attribute [go_sem] oc_int zAh zya zsZ
structure LS where
 E : List (Nat × AV)
 H : List (Nat × zbn)
 n : Nat
def ztK (n0 : Nat) (B : zbQ → Env → zao → Nat → Prop) (Q : zbQ) (s : LS) : Prop := zab n0 B Q (mkE s.E) (mkH s.H) s.n
theorem zAG {P : Program} {n0 : Nat} {b : Code} {Q : zbQ} {α : Type} (S : α → LS) (I : Nat → α → Prop)
  (step : ∀ d a, I d a → (∀ d', d' < d → ∀ a', I d' a' → ztK n0 (awp P n0 b) Q (S a')) → awp P n0 b (ztF (zab n0 (awp P n0 b) Q) Q) (mkE (S a).E) (mkH (S a).H) (S a).n) :
  ∀ d a, I d a → ztK n0 (awp P n0 b) Q (S a) := by
 intro d
 induction d using Nat.strongRecOn with
 | ind d ih => intro a ha; exact zAK (step d a ha fun d' hd a' ha' => ih d' hd a' ha')
theorem zAC {P : Program} {n0 : Nat} {b : Code} {Q : zbQ} {e : Env} {h : zao} {n : Nat} {s : LS} (hh : ztK n0 (awp P n0 b) Q s) (hk : Wk e h n s.E s.H s.n) (hn : n0 ≤ s.n) : zab n0 (awp P n0 b) Q e h n :=
 zab.forget s.E s.H s.n hk hn hh
theorem zaf {e : Env} {h : zao} {n : Nat} {E : List (Nat × AV)} {HH : List (Nat × zbn)} {n' : Nat} :
  Wk e h n E HH n' = ((∀ p ∈ E, LeV h (mkH HH) n (e p.1) p.2 ∧ Bel n' p.2) ∧ ∀ p ∈ HH, p.1 < n' ∧ LeO h (mkH HH) n p.1 (h p.1) p.2 ∧ zy4 n' p.2) :=
 propext ⟨fun h => ⟨h.1, h.2⟩, fun h => ⟨h.1, h.2⟩⟩
theorem zxX {h h' : zao} {n o : Nat} {mt : Bool} {g sz : Nat} {rs : List (List AV)} : LeO h h' n o (some (.rows mt g sz rs)) (.rows mt g sz rs) = True := eq_true (.same (fun h => h) (.refl _))
theorem zz5 {h h' : zao} {n o g sz : Nat} (hn : n ≤ o) : LeO h h' n o none (.rows true g sz []) = True := eq_true (.own hn)
theorem zvw {h h' : zao} {n : Nat} : zan h h' n [] [] = True := eq_true .nil
theorem zsQ {h h' : zao} {n : Nat} {x y : AV} {xs ys : List AV} : zan h h' n (x :: xs) (y :: ys) = (LeV h h' n x y ∧ zan h h' n xs ys) :=
 propext ⟨fun h => by cases h with | cons a b => exact ⟨a, b⟩, fun h => .cons h.1 h.2⟩
theorem zz6 {h h' : zao} {n sz c : Nat} {A : Option Addr} : LeV h h' n (.v (.slice A 0 c)) (.lst sz []) = True := eq_true (.nil sz)
theorem zz8 {h h' : zao} {n : Nat} {x : AV} : LeV h h' n x .top = True := eq_true (.top x)
theorem zz7 {h h' : zao} {n o g sz : Nat} (hn : n ≤ o) (ho : h' o = some (.rows true g sz [])) : LeV h h' n (.v (.slice none 0 0)) (.sl o g sz 0 0) = True := eq_true (.own hn ho)
theorem noH_eq (o : Nat) : noH o = none := rfl
theorem zaB {h h' : zao} {n o g sz i len : Nat} {mt : Bool} {rs rows : List (List AV)} (ho : h o = some (.rows mt g sz rs)) (hl : i + len ≤ rs.length) (ho' : ∀ g sz rs, h' o ≠ some (.rows true g sz rs)) (hr : (rs.drop i).take len = rows) :
  LeV h h' n (.sl o g sz i len) (.lst sz rows) := .frz ho hl ho' (hr ▸ .refl _)
theorem zBk {h h' : zao} {n : Nat} {xs ys : List AV} (e : xs = ys) : zan h h' n xs ys := e ▸ .refl _ _ _ _
theorem zxW {h h' : zao} {n o : Nat} {mt mt' : Bool} {g g' sz sz' : Nat} {rs rs' : List (List AV)} : LeO h h' n o (some (.rows mt g sz rs)) (.rows mt' g' sz' rs') = (g = g' ∧ sz = sz' ∧ (mt' = true → mt = true) ∧ zam h h' n rs rs') :=
 propext ⟨fun h => by cases h with | same hm hr => exact ⟨rfl, rfl, hm, hr⟩, fun ⟨h1, h2, h3, h4⟩ => by subst h1 h2; exact .same h3 h4⟩
theorem zp9 {h h' : zao} {n : Nat} {rs : List (List AV)} : zam h h' n rs rs = True := eq_true (.refl _)
theorem zp8 {h h' : zao} {n : Nat} {x y : List AV} {xs ys : List (List AV)} : zam h h' n (x :: xs) (y :: ys) = (zan h h' n x y ∧ zam h h' n xs ys) :=
 propext ⟨fun h => by cases h with
  | refl => exact ⟨.refl _ _ _ _, .refl _⟩
  | cons h t => exact ⟨h, t⟩, fun h => .cons h.1 h.2⟩
theorem zxY {h h' : zao} {n : Nat} {xs ys : List AV} : LeV h h' n (.agg xs) (.agg ys) = zan h h' n xs ys :=
 propext ⟨fun h => by cases h with
  | refl => exact .refl _ _ _ _
  | agg h => exact h, .agg⟩
theorem zx0 {h h' : zao} {n : Nat} {xs ys : List AV} : LeV h h' n (.tup xs) (.tup ys) = zan h h' n xs ys :=
 propext ⟨fun h => by cases h with
  | refl => exact .refl _ _ _ _
  | tup h => exact h, .tup⟩
theorem NoFz_v {x : Value} : zft (.v x) = True := eq_true (.v x)
theorem zwN {o g sz i off : Nat} : zft (.ref o g sz i off) = True := eq_true (.ref ..)
theorem zzd {o g sz i len : Nat} : zft (.sl o g sz i len) = True := eq_true (.sl ..)
theorem zwM {xs : List AV} : zft (.agg xs) = ∀ x ∈ xs, zft x := propext ⟨fun h => by cases h; assumption, .agg⟩
theorem zwO {xs : List AV} : zft (.tup xs) = ∀ x ∈ xs, zft x := propext ⟨fun h => by cases h; assumption, .tup⟩
theorem zzc {f : Fn} {a b : List AV} : zft (.fn f a b) = ((∀ x ∈ a, zft x) ∧ ∀ x ∈ b, zft x) := propext ⟨fun h => by cases h; exact ⟨by assumption, by assumption⟩, fun h => .fn h.1 h.2⟩
theorem zAQ {P : Program} {f : FuncId} {args args' : List AV} {h : zao} {n : Nat} {K : zcy} {R : Nat → AV} {HH : Nat → List (Nat × zbn)} {k : Nat} (hp : zgS P f args' R HH k)
  (hnR : zft (R 0)) (hnH : ∀ p ∈ HH 0, zoW p.2) (hle : zan h noH n args args') (hb : ∀ c ∈ args', Bel 0 c) (hk : K (R n) (zdV (HH n) h) (n + k)) : zaa P f args h n K :=
 zA7 hp.1 (fun _ _ _ h => h) (hp.2 n).1 (hp.2 n).2 hnR hnH hle hb hk
attribute [go_sem] zxW zp9 zp8 zxY zx0 NoFz_v zwN zzd zwM zwO zzc zoW zmq
attribute [go_sem] noH_eq zz7 zz5 mkE mkH zy4 zxX zvw zsQ zz6 zz8 List.forall_mem_cons
theorem zAP {h h' : zao} {n : Nat} {x y : AV} (e : x = y) : LeV h h' n x y := e ▸ .refl x
theorem nadd (a b c : Nat) : a + b + c = a + (b + c) := Nat.add_assoc a b c
attribute [go_sem] nadd
class WS (G : Prop) (a X : outParam Prop) : Prop where out : a → (a → X) → G
instance {P : Program} {ops : List Oper} {Q : zbQ} {rest : List Oper} {e : Env} {h : zao} {n : Nat} {a : Prop} : WS (VC a (zfX P ops Q rest e h n)) a (zbd P ops Q rest e h n) := ⟨fun h1 h2 => wL h2 h1⟩
instance {P : Program} {ops : List Oper} {Q : zbQ} {rest : List Oper} {e : Env} {h : zao} {n m i : Nat} {a : Prop} {acc : List zeR} : WS (VC a (znl P n ops Q m i rest e h acc)) a (adr P n ops Q m i rest e h acc) := ⟨fun h1 h2 => wD h2 h1⟩
instance {P : Program} {ops : List Oper} {Q : zbQ} {e : Env} {h : zao} {n : Nat} : WS (znm P n ops Q e h) True (adr P n ops Q (n + ops.length) 0 ops e h []) := ⟨fun _ h2 => wZ (h2 trivial)⟩
def KR (p : Prop) : Prop := p
theorem kr {p : Prop} (h : p) : KR p := h
instance {ops : List Oper} {Q : zbQ} {n : Nat} {e : Env} {h : zao} {recs : List zeR} : WS (zkX Q ops n e h recs) (KR ((zjA ops recs && zvP recs) = true)) (Q .normal e h n) := ⟨fun h1 h2 => zkX.mk h1 (h2 h1)⟩
theorem wV {G a X : Prop} [i : WS G a X] (h2 : a → X) (h1 : a := by with_reducible first | omega | exact True.intro | rfl | (refine kr ?_; kernel_rfl) | (intros; omega)) : G := i.out h1 h2
theorem leX {p : Prop} (h : p := by ((try simp only [zax, zaO, zbf, zcp, zaH, zcB, zaF, zal, zac, zcS, zbb, zaI, zap, zae, List.map_cons, List.map_nil, List.nil_append, List.append_nil, List.cons_append]); (repeat (first | (with_reducible exact zan.nil) | (with_reducible exact zam.nil) | (with_reducible exact LeV.refl _) | (with_reducible exact zan.refl _ _ _ _) | (with_reducible exact zam.refl _) | (with_reducible refine zan.cons ?_ ?_) | (with_reducible refine zam.cons ?_ ?_) | (with_reducible refine LeV.agg ?_) | (with_reducible refine LeV.tup ?_) | (with_reducible refine LeV.fn ?_ ?_) | (with_reducible exact LeV.nil _) | (with_reducible refine zar (zam.refl _) ?_) | ((refine zaB rfl (by simp) (by simp [zbt, zbV, upd, noH]) ?_); (first | (simp [go_sem]; done) | (simp [go_sem]; exact List.take_of_length_le (by simp)))) | ((refine LeV.frz rfl (by simp) (by simp [zbt, zbV, upd, noH]) ?_); (simp only [List.drop_zero, List.take_succ_cons, List.take_zero, List.map_cons, List.map_nil])) | ((refine LeV.frzP rfl (by simp) (by simp) (by simp [zbt, zbV, upd, noH]) ?_); (simp only [zbg, List.drop_zero])))))) : p := h
theorem blX {p : Prop} (h : p := by (intro r hr c hc; (first | (rcases hr with ⟨_, _, rfl⟩ | rfl) | (rcases hr with rfl | ⟨_, _, rfl⟩) | (rcases hr with rfl | rfl) | ((rcases List.mem_or_eq_of_mem_set hr with hr | rfl) <;> first | (obtain ⟨_, _, rfl⟩ := List.mem_map.1 hr; simp only [zbB] at hc) | skip) | (rcases hr with ⟨_, rfl⟩ | ⟨_, rfl⟩) | (rcases hr with ⟨_, _, rfl⟩ | ⟨_, rfl⟩) | (rcases hr with ⟨_, rfl⟩ | ⟨_, _, rfl⟩) | (rcases hr with ⟨_, _, rfl⟩ | ⟨_, _, rfl⟩) | (obtain ⟨_, rfl⟩ := hr) | (obtain ⟨_, _, rfl⟩ := hr)) <;> simp at hc <;> (try subst hc) <;> first | exact .v _ | (rcases hc with rfl | rfl <;> exact .v _))) : p := h
theorem dpX {p : Prop} (h : p := by ((refine LeV.frz rfl (by simp) (by simp [noH, upd]) ?_); (try simp only [List.drop_zero, List.take_succ_cons, List.take_zero, List.map_cons, List.map_nil]); (repeat (first | (with_reducible exact zam.nil) | (with_reducible refine zam.cons ?_ ?_) | (with_reducible exact zan.nil) | (with_reducible refine zan.cons ?_ ?_) | (with_reducible exact LeV.refl _) | (refine zaB rfl (by simp) (by simp [noH, upd]) ?_; first | (simp [go_sem]; done) | (simp [go_sem]; exact List.take_of_length_le (by simp))))))) : p := h
theorem agX {p : Prop} (h : p := by ((try simp only [zaF, zal, zac, zcS, zbb, zaI, zap, List.nil_append, List.append_nil, List.cons_append]); (repeat (first | (with_reducible exact zan.nil) | (with_reducible refine zan.cons ?_ ?_) | (with_reducible exact LeV.refl _) | (with_reducible refine LeV.agg ?_) | ((refine zaB rfl (by simp) (by simp [zbt, zbV, upd, noH]) ?_); (first | (simp [go_sem]; done) | (simp [go_sem]; exact List.take_of_length_le (by simp)))))))) : p := h
theorem rwX {p : Prop} (h : p := by ((refine zar (.refl _) ?_); (repeat (first | (with_reducible exact zam.nil) | (with_reducible refine zam.cons ?_ ?_) | (with_reducible exact zan.nil) | (with_reducible refine zan.cons ?_ ?_) | (with_reducible exact LeV.refl _) | (refine zaB rfl (by simp) (by simp [noH, upd]) ?_; first | (simp [go_sem]; done) | (simp [go_sem]; exact List.take_of_length_le (by simp))))))) : p := h
theorem frX {p : Prop} (h : p := by (refine zaB rfl (by simp) (by simp [noH, upd]) ?_; first | (simp [go_sem]; done) | (simp [go_sem]; exact List.take_of_length_le (by simp)))) : p := h
end Go.Av
end
section
namespace Go.Av
open Go Go.Proofs Go.Proofs.Tryz
@[go_sem] theorem t_0 : tk prog 0 = .other ∧ tsz prog 0 = some 1 ∧ tby prog 0 = some 0 ∧ za6 prog 0 = some false := by and_intros <;> kernel_rfl
@[go_sem] theorem t_1 : tk prog 1 = .other ∧ tsz prog 1 = some 1 ∧ tby prog 1 = some 8 ∧ tz prog 1 = some [(.v .nilFunc)] ∧ za6 prog 1 = some false := by and_intros <;> kernel_rfl
@[go_sem] theorem t_2 : tk prog 2 = .int .i64 ∧ tsz prog 2 = some 1 ∧ tby prog 2 = some 8 ∧ tz prog 2 = some [(.v (.int .i64 0))] ∧ za6 prog 2 = some false ∧ tz1 prog 2 = some (.int .i64 0) := by and_intros <;> kernel_rfl
@[go_sem] theorem t_3 : tk prog 3 = .int .i64 ∧ tsz prog 3 = some 1 ∧ tby prog 3 = some 8 ∧ tz prog 3 = some [(.v (.int .i64 0))] ∧ za6 prog 3 = some false ∧ tz1 prog 3 = some (.int .i64 0) := by and_intros <;> kernel_rfl
@[go_sem] theorem t_4 : tk prog 4 = .bool ∧ tsz prog 4 = some 1 ∧ tby prog 4 = some 1 ∧ tz prog 4 = some [(.v (.bool false))] ∧ za6 prog 4 = some false ∧ tz1 prog 4 = some (.bool false) := by and_intros <;> kernel_rfl
@[go_sem] theorem t_5 : tk prog 5 = .int .u8 ∧ tsz prog 5 = some 1 ∧ tby prog 5 = some 1 ∧ tz prog 5 = some [(.v (.int .u8 0))] ∧ za6 prog 5 = some false ∧ tz1 prog 5 = some (.int .u8 0) := by and_intros <;> kernel_rfl
@[go_sem] theorem t_6 : tk prog 6 = .int .u8 ∧ tsz prog 6 = some 1 ∧ tby prog 6 = some 1 ∧ tz prog 6 = some [(.v (.int .u8 0))] ∧ za6 prog 6 = some false ∧ tz1 prog 6 = some (.int .u8 0) := by and_intros <;> kernel_rfl
@[go_sem] theorem t_7 : tk prog 7 = .str ∧ tsz prog 7 = some 4 ∧ tby prog 7 = some 24 ∧ tz prog 7 = some [(.v (.int .i64 0)), (.v (.int .i64 0)), (.v (.bool false)), (.v (.int .u8 0))] ∧ za6 prog 7 = some true ∧ tfi prog 7 = true ∧ zoL prog 7 = some [false, false, true, false] ∧ zbJ prog 7 0 = some 2 ∧ zbC prog 7 0 = some 0 ∧ zbJ prog 7 1 = some 3 ∧ zbC prog 7 1 = some 1 ∧ zbJ prog 7 2 = some 4 ∧ zbC prog 7 2 = some 2 ∧ zbJ prog 7 3 = some 6 ∧ zbC prog 7 3 = some 3 := by and_intros <;> kernel_rfl
@[go_sem] theorem t_8 : tk prog 8 = .str ∧ tsz prog 8 = some 4 ∧ tby prog 8 = some 24 ∧ tz prog 8 = some [(.v (.int .i64 0)), (.v (.int .i64 0)), (.v (.bool false)), (.v (.int .u8 0))] ∧ za6 prog 8 = some true ∧ tfi prog 8 = true ∧ zoL prog 8 = some [false, false, true, false] ∧ zbJ prog 8 0 = some 2 ∧ zbC prog 8 0 = some 0 ∧ zbJ prog 8 1 = some 3 ∧ zbC prog 8 1 = some 1 ∧ zbJ prog 8 2 = some 4 ∧ zbC prog 8 2 = some 2 ∧ zbJ prog 8 3 = some 6 ∧ zbC prog 8 3 = some 3 := by and_intros <;> kernel_rfl
@[go_sem] theorem t_9 : tk prog 9 = .string ∧ tsz prog 9 = some 1 ∧ tby prog 9 = some 16 ∧ tz prog 9 = some [(.v (.string ⟨⟨[]⟩⟩))] ∧ za6 prog 9 = some false ∧ tz1 prog 9 = some (.string ⟨⟨[]⟩⟩) := by and_intros <;> kernel_rfl
@[go_sem] theorem t_10 : tk prog 10 = .string ∧ tsz prog 10 = some 1 ∧ tby prog 10 = some 16 ∧ tz prog 10 = some [(.v (.string ⟨⟨[]⟩⟩))] ∧ za6 prog 10 = some false ∧ tz1 prog 10 = some (.string ⟨⟨[]⟩⟩) := by and_intros <;> kernel_rfl
@[go_sem] theorem t_11 : tk prog 11 = .string ∧ tsz prog 11 = some 1 ∧ tby prog 11 = some 16 ∧ tz prog 11 = some [(.v (.string ⟨⟨[]⟩⟩))] ∧ za6 prog 11 = some false ∧ tz1 prog 11 = some (.string ⟨⟨[]⟩⟩) := by and_intros <;> kernel_rfl
@[go_sem] theorem t_12 : tk prog 12 = .int .u64 ∧ tsz prog 12 = some 1 ∧ tby prog 12 = some 8 ∧ tz prog 12 = some [(.v (.int .u64 0))] ∧ za6 prog 12 = some false ∧ tz1 prog 12 = some (.int .u64 0) := by and_intros <;> kernel_rfl
@[go_sem] theorem t_20 : tk prog 20 = .other ∧ tsz prog 20 = some 1 ∧ tby prog 20 = some 16 ∧ tz prog 20 = some [(.v .nilIface)] ∧ za6 prog 20 = some false := by and_intros <;> kernel_rfl
@[go_sem] theorem t_22 : tk prog 22 = .sl 5 ∧ tsz prog 22 = some 1 ∧ tby prog 22 = some 24 ∧ tz prog 22 = some [(.v (.slice .none 0 0))] ∧ za6 prog 22 = some false := by and_intros <;> kernel_rfl
@[go_sem] theorem t_23 : tk prog 23 = .arr 2 22 ∧ tsz prog 23 = some 2 ∧ tby prog 23 = some 48 ∧ tz prog 23 = some [(.v (.slice .none 0 0)), (.v (.slice .none 0 0))] ∧ za6 prog 23 = some true := by and_intros <;> kernel_rfl
@[go_sem] theorem t_24 : tk prog 24 = .sl 80 ∧ tsz prog 24 = some 1 ∧ tby prog 24 = some 24 ∧ tz prog 24 = some [(.v (.slice .none 0 0))] ∧ za6 prog 24 = some false := by and_intros <;> kernel_rfl
@[go_sem] theorem t_25 : tk prog 25 = .arr 6 5 ∧ tsz prog 25 = some 6 ∧ tby prog 25 = some 6 ∧ tz prog 25 = some [(.v (.int .u8 0)), (.v (.int .u8 0)), (.v (.int .u8 0)), (.v (.int .u8 0)), (.v (.int .u8 0)), (.v (.int .u8 0))] ∧ za6 prog 25 = some true := by and_intros <;> kernel_rfl
@[go_sem] theorem t_27 : tk prog 27 = .str ∧ tsz prog 27 = some 12 ∧ tby prog 27 = some 88 ∧ tz prog 27 = some [(.v (.int .u8 0)), (.v (.int .u8 0)), (.v (.int .u8 0)), (.v (.slice .none 0 0)), (.v (.slice .none 0 0)), (.v (.slice .none 0 0)), (.v (.int .u8 0)), (.v (.int .u8 0)), (.v (.int .u8 0)), (.v (.int .u8 0)), (.v (.int .u8 0)), (.v (.int .u8 0))] ∧ za6 prog 27 = some true ∧ tfi prog 27 = true ∧ zbJ prog 27 0 = some 5 ∧ zbC prog 27 0 = some 0 ∧ zbJ prog 27 1 = some 5 ∧ zbC prog 27 1 = some 1 ∧ zbJ prog 27 2 = some 5 ∧ zbC prog 27 2 = some 2 ∧ zbJ prog 27 3 = some 23 ∧ zbC prog 27 3 = some 3 ∧ zbJ prog 27 4 = some 24 ∧ zbC prog 27 4 = some 5 ∧ zbJ prog 27 5 = some 25 ∧ zbC prog 27 5 = some 6 := by and_intros <;> kernel_rfl
@[go_sem] theorem t_28 : tk prog 28 = .arr 4 5 ∧ tsz prog 28 = some 4 ∧ tby prog 28 = some 4 ∧ tz prog 28 = some [(.v (.int .u8 0)), (.v (.int .u8 0)), (.v (.int .u8 0)), (.v (.int .u8 0))] ∧ za6 prog 28 = some true := by and_intros <;> kernel_rfl
@[go_sem] theorem t_30 : tk prog 30 = .str ∧ tsz prog 30 = some 18 ∧ tby prog 30 = some 18 ∧ tz prog 30 = some [(.v (.int .u8 0)), (.v (.int .u8 0)), (.v (.int .u8 0)), (.v (.int .u8 0)), (.v (.int .u8 0)), (.v (.int .u8 0)), (.v (.int .u8 0)), (.v (.int .u8 0)), (.v (.int .u8 0)), (.v (.int .u8 0)), (.v (.int .u8 0)), (.v (.int .u8 0)), (.v (.int .u8 0)), (.v (.int .u8 0)), (.v (.int .u8 0)), (.v (.int .u8 0)), (.v (.int .u8 0)), (.v (.int .u8 0))] ∧ za6 prog 30 = some true ∧ tfi prog 30 = true ∧ zbJ prog 30 0 = some 25 ∧ zbC prog 30 0 = some 0 ∧ zbJ prog 30 1 = some 25 ∧ zbC prog 30 1 = some 6 ∧ zbJ prog 30 2 = some 28 ∧ zbC prog 30 2 = some 12 ∧ zbJ prog 30 3 = some 5 ∧ zbC prog 30 3 = some 16 ∧ zbJ prog 30 4 = some 5 ∧ zbC prog 30 4 = some 17 := by and_intros <;> kernel_rfl
@[go_sem] theorem t_32 : tk prog 32 = .sl 33 ∧ tsz prog 32 = some 1 ∧ tby prog 32 = some 24 ∧ tz prog 32 = some [(.v (.slice .none 0 0))] ∧ za6 prog 32 = some false := by and_intros <;> kernel_rfl
@[go_sem] theorem t_33 : tk prog 33 = .sl 3 ∧ tsz prog 33 = some 1 ∧ tby prog 33 = some 24 ∧ tz prog 33 = some [(.v (.slice .none 0 0))] ∧ za6 prog 33 = some false := by and_intros <;> kernel_rfl
@[go_sem] theorem t_35 : tk prog 35 = .str ∧ tsz prog 35 = some 3 ∧ tby prog 35 = some 56 ∧ tz prog 35 = some [(.v (.int .i64 0)), (.v (.slice .none 0 0)), (.v (.slice .none 0 0))] ∧ za6 prog 35 = some true ∧ tfi prog 35 = true ∧ zbJ prog 35 0 = some 3 ∧ zbC prog 35 0 = some 0 ∧ zbJ prog 35 1 = some 32 ∧ zbC prog 35 1 = some 1 ∧ zbJ prog 35 2 = some 33 ∧ zbC prog 35 2 = some 2 := by and_intros <;> kernel_rfl
@[go_sem] theorem t_36 : tk prog 36 = .sl 122 ∧ tsz prog 36 = some 1 ∧ tby prog 36 = some 24 ∧ tz prog 36 = some [(.v (.slice .none 0 0))] ∧ za6 prog 36 = some false := by and_intros <;> kernel_rfl
@[go_sem] theorem t_37 : tk prog 37 = .sl 75 ∧ tsz prog 37 = some 1 ∧ tby prog 37 = some 24 ∧ tz prog 37 = some [(.v (.slice .none 0 0))] ∧ za6 prog 37 = some false := by and_intros <;> kernel_rfl
@[go_sem] theorem t_39 : tk prog 39 = .str ∧ tsz prog 39 = some 9 ∧ tby prog 39 = some 136 ∧ tz prog 39 = some [(.v (.int .i64 0)), (.v (.slice .none 0 0)), (.v (.slice .none 0 0)), (.v (.slice .none 0 0)), (.v (.int .i64 0)), (.v (.bool false)), (.v (.slice .none 0 0)), (.v (.int .i64 0)), (.v (.int .i64 0))] ∧ za6 prog 39 = some true ∧ tfi prog 39 = true ∧ zbJ prog 39 0 = some 35 ∧ zbC prog 39 0 = some 0 ∧ zbJ prog 39 1 = some 36 ∧ zbC prog 39 1 = some 3 ∧ zbJ prog 39 2 = some 3 ∧ zbC prog 39 2 = some 4 ∧ zbJ prog 39 3 = some 4 ∧ zbC prog 39 3 = some 5 ∧ zbJ prog 39 4 = some 37 ∧ zbC prog 39 4 = some 6 ∧ zbJ prog 39 5 = some 3 ∧ zbC prog 39 5 = some 7 ∧ zbJ prog 39 6 = some 3 ∧ zbC prog 39 6 = some 8 := by and_intros <;> kernel_rfl
@[go_sem] theorem t_43 : tk prog 43 = .arr 2 33 ∧ tsz prog 43 = some 2 ∧ tby prog 43 = some 48 ∧ tz prog 43 = some [(.v (.slice .none 0 0)), (.v (.slice .none 0 0))] ∧ za6 prog 43 = some true := by and_intros <;> kernel_rfl
@[go_sem] theorem t_45 : tk prog 45 = .str ∧ tsz prog 45 = some 5 ∧ tby prog 45 = some 88 ∧ tz prog 45 = some [(.v (.slice .none 0 0)), (.v (.slice .none 0 0)), (.v (.slice .none 0 0)), (.v (.int .i64 0)), (.v (.int .i64 0))] ∧ za6 prog 45 = some true ∧ tfi prog 45 = true ∧ zbJ prog 45 0 = some 33 ∧ zbC prog 45 0 = some 0 ∧ zbJ prog 45 1 = some 43 ∧ zbC prog 45 1 = some 1 ∧ zbJ prog 45 2 = some 3 ∧ zbC prog 45 2 = some 3 ∧ zbJ prog 45 3 = some 3 ∧ zbC prog 45 3 = some 4 := by and_intros <;> kernel_rfl
@[go_sem] theorem t_47 : tk prog 47 = .sl 45 ∧ tsz prog 47 = some 1 ∧ tby prog 47 = some 24 ∧ tz prog 47 = some [(.v (.slice .none 0 0))] ∧ za6 prog 47 = some false := by and_intros <;> kernel_rfl
@[go_sem] theorem t_48 : tk prog 48 = .int .i64 ∧ tsz prog 48 = some 1 ∧ tby prog 48 = some 8 ∧ tz prog 48 = some [(.v (.int .i64 0))] ∧ za6 prog 48 = some false ∧ tz1 prog 48 = some (.int .i64 0) := by and_intros <;> kernel_rfl
@[go_sem] theorem t_49 : tk prog 49 = .other ∧ tsz prog 49 = some 1 ∧ tby prog 49 = some 0 ∧ za6 prog 49 = some false := by and_intros <;> kernel_rfl
@[go_sem] theorem t_62 : tk prog 62 = .other ∧ tsz prog 62 = some 1 ∧ tby prog 62 = some 0 ∧ za6 prog 62 = some false := by and_intros <;> kernel_rfl
@[go_sem] theorem t_64 : tk prog 64 = .str ∧ tsz prog 64 = some 31 ∧ tby prog 64 = some 136 ∧ tz prog 64 = some [(.v (.int .u8 0)), (.v (.int .u8 0)), (.v (.int .u8 0)), (.v (.slice .none 0 0)), (.v (.slice .none 0 0)), (.v (.slice .none 0 0)), (.v (.int .u8 0)), (.v (.int .u8 0)), (.v (.int .u8 0)), (.v (.int .u8 0)), (.v (.int .u8 0)), (.v (.int .u8 0)), (.v (.int .u8 0)), (.v (.int .u8 0)), (.v (.int .u8 0)), (.v (.int .u8 0)), (.v (.int .u8 0)), (.v (.int .u8 0)), (.v (.int .u8 0)), (.v (.int .u8 0)), (.v (.int .u8 0)), (.v (.int .u8 0)), (.v (.int .u8 0)), (.v (.int .u8 0)), (.v (.int .u8 0)), (.v (.int .u8 0)), (.v (.int .u8 0)), (.v (.int .u8 0)), (.v (.int .u8 0)), (.v (.int .u8 0)), (.v (.slice .none 0 0))] ∧ za6 prog 64 = some true ∧ tfi prog 64 = true ∧ zbJ prog 64 0 = some 27 ∧ zbC prog 64 0 = some 0 ∧ zbJ prog 64 1 = some 30 ∧ zbC prog 64 1 = some 12 ∧ zbJ prog 64 2 = some 22 ∧ zbC prog 64 2 = some 30 := by and_intros <;> kernel_rfl
@[go_sem] theorem t_65 : tk prog 65 = .str ∧ tsz prog 65 = some 31 ∧ tby prog 65 = some 136 ∧ tz prog 65 = some [(.v (.int .u8 0)), (.v (.int .u8 0)), (.v (.int .u8 0)), (.v (.slice .none 0 0)), (.v (.slice .none 0 0)), (.v (.slice .none 0 0)), (.v (.int .u8 0)), (.v (.int .u8 0)), (.v (.int .u8 0)), (.v (.int .u8 0)), (.v (.int .u8 0)), (.v (.int .u8 0)), (.v (.int .u8 0)), (.v (.int .u8 0)), (.v (.int .u8 0)), (.v (.int .u8 0)), (.v (.int .u8 0)), (.v (.int .u8 0)), (.v (.int .u8 0)), (.v (.int .u8 0)), (.v (.int .u8 0)), (.v (.int .u8 0)), (.v (.int .u8 0)), (.v (.int .u8 0)), (.v (.int .u8 0)), (.v (.int .u8 0)), (.v (.int .u8 0)), (.v (.int .u8 0)), (.v (.int .u8 0)), (.v (.int .u8 0)), (.v (.slice .none 0 0))] ∧ za6 prog 65 = some true ∧ tfi prog 65 = true ∧ zbJ prog 65 0 = some 27 ∧ zbC prog 65 0 = some 0 ∧ zbJ prog 65 1 = some 30 ∧ zbC prog 65 1 = some 12 ∧ zbJ prog 65 2 = some 22 ∧ zbC prog 65 2 = some 30 := by and_intros <;> kernel_rfl
@[go_sem] theorem t_66 : tk prog 66 = .other ∧ tsz prog 66 = some 1 ∧ tby prog 66 = some 0 ∧ za6 prog 66 = some false := by and_intros <;> kernel_rfl
@[go_sem] theorem t_75 : tk prog 75 = .str ∧ tsz prog 75 = some 4 ∧ tby prog 75 = some 32 ∧ tz prog 75 = some [(.v (.int .i64 0)), (.v (.int .i64 0)), (.v (.int .i64 0)), (.v (.int .i64 0))] ∧ za6 prog 75 = some true ∧ tfi prog 75 = true ∧ zoL prog 75 = some [false, false, false, false] ∧ zbJ prog 75 0 = some 3 ∧ zbC prog 75 0 = some 0 ∧ zbJ prog 75 1 = some 3 ∧ zbC prog 75 1 = some 1 ∧ zbJ prog 75 2 = some 3 ∧ zbC prog 75 2 = some 2 ∧ zbJ prog 75 3 = some 3 ∧ zbC prog 75 3 = some 3 := by and_intros <;> kernel_rfl
@[go_sem] theorem t_78 : tk prog 78 = .other ∧ tsz prog 78 = some 1 ∧ tby prog 78 = some 8 ∧ tz prog 78 = some [(.v .nilFunc)] ∧ za6 prog 78 = some false := by and_intros <;> kernel_rfl
@[go_sem] theorem t_80 : tk prog 80 = .arr 3 5 ∧ tsz prog 80 = some 3 ∧ tby prog 80 = some 3 ∧ tz prog 80 = some [(.v (.int .u8 0)), (.v (.int .u8 0)), (.v (.int .u8 0))] ∧ za6 prog 80 = some true := by and_intros <;> kernel_rfl
@[go_sem] theorem t_87 : tk prog 87 = .arr 2 5 ∧ tsz prog 87 = some 2 ∧ tby prog 87 = some 2 ∧ tz prog 87 = some [(.v (.int .u8 0)), (.v (.int .u8 0))] ∧ za6 prog 87 = some true := by and_intros <;> kernel_rfl
@[go_sem] theorem t_89 : tk prog 89 = .str ∧ tsz prog 89 = some 19 ∧ tby prog 89 = some 312 ∧ tz prog 89 = some [(.v (.int .i64 0)), (.v (.slice .none 0 0)), (.v (.slice .none 0 0)), (.v (.slice .none 0 0)), (.v (.int .i64 0)), (.v (.bool false)), (.v (.slice .none 0 0)), (.v (.int .i64 0)), (.v (.int .i64 0)), (.v (.slice .none 0 0)), (.v (.slice .none 0 0)), (.v (.slice .none 0 0)), (.v (.int .i64 0)), (.v (.int .i64 0)), (.v (.slice .none 0 0)), (.v (.slice .none 0 0)), (.v (.slice .none 0 0)), (.v (.int .i64 0)), (.v (.int .i64 0))] ∧ za6 prog 89 = some true ∧ tfi prog 89 = true ∧ zbJ prog 89 0 = some 39 ∧ zbC prog 89 0 = some 0 ∧ zbJ prog 89 1 = some 45 ∧ zbC prog 89 1 = some 9 ∧ zbJ prog 89 2 = some 45 ∧ zbC prog 89 2 = some 14 := by and_intros <;> kernel_rfl
@[go_sem] theorem t_92 : tk prog 92 = .str ∧ tsz prog 92 = some 2 ∧ tby prog 92 = some 32 ∧ tz prog 92 = some [(.v (.slice .none 0 0)), (.v (.int .i64 0))] ∧ za6 prog 92 = some true ∧ tfi prog 92 = true ∧ zbJ prog 92 0 = some 47 ∧ zbC prog 92 0 = some 0 ∧ zbJ prog 92 1 = some 48 ∧ zbC prog 92 1 = some 1 := by and_intros <;> kernel_rfl
@[go_sem] theorem t_94 : tk prog 94 = .other ∧ tsz prog 94 = some 1 ∧ tby prog 94 = some 0 ∧ za6 prog 94 = some false := by and_intros <;> kernel_rfl
@[go_sem] theorem t_102 : tk prog 102 = .sl 138 ∧ tsz prog 102 = some 1 ∧ tby prog 102 = some 24 ∧ tz prog 102 = some [(.v (.slice .none 0 0))] ∧ za6 prog 102 = some false := by and_intros <;> kernel_rfl
@[go_sem] theorem t_103 : tk prog 103 = .arr 2 102 ∧ tsz prog 103 = some 2 ∧ tby prog 103 = some 48 ∧ tz prog 103 = some [(.v (.slice .none 0 0)), (.v (.slice .none 0 0))] ∧ za6 prog 103 = some true := by and_intros <;> kernel_rfl
@[go_sem] theorem t_105 : tk prog 105 = .str ∧ tsz prog 105 = some 2 ∧ tby prog 105 = some 48 ∧ tz prog 105 = some [(.v (.slice .none 0 0)), (.v (.slice .none 0 0))] ∧ za6 prog 105 = some true ∧ tfi prog 105 = true ∧ zbJ prog 105 0 = some 103 ∧ zbC prog 105 0 = some 0 := by and_intros <;> kernel_rfl
@[go_sem] theorem t_117 : tk prog 117 = .str ∧ tsz prog 117 = some 2 ∧ tby prog 117 = some 16 ∧ tz prog 117 = some [(.v (.int .i64 0)), (.v (.int .i64 0))] ∧ za6 prog 117 = some true ∧ tfi prog 117 = true ∧ zoL prog 117 = some [false, false] ∧ zbJ prog 117 0 = some 3 ∧ zbC prog 117 0 = some 0 ∧ zbJ prog 117 1 = some 3 ∧ zbC prog 117 1 = some 1 := by and_intros <;> kernel_rfl
@[go_sem] theorem t_119 : tk prog 119 = .sl 117 ∧ tsz prog 119 = some 1 ∧ tby prog 119 = some 24 ∧ tz prog 119 = some [(.v (.slice .none 0 0))] ∧ za6 prog 119 = some false := by and_intros <;> kernel_rfl
@[go_sem] theorem t_120 : tk prog 120 = .sl 119 ∧ tsz prog 120 = some 1 ∧ tby prog 120 = some 24 ∧ tz prog 120 = some [(.v (.slice .none 0 0))] ∧ za6 prog 120 = some false := by and_intros <;> kernel_rfl
@[go_sem] theorem t_122 : tk prog 122 = .str ∧ tsz prog 122 = some 3 ∧ tby prog 122 = some 48 ∧ tz prog 122 = some [(.v (.string ⟨⟨[]⟩⟩)), (.v (.slice .none 0 0)), (.v (.bool false))] ∧ za6 prog 122 = some true ∧ tfi prog 122 = true ∧ zbJ prog 122 0 = some 9 ∧ zbC prog 122 0 = some 0 ∧ zbJ prog 122 1 = some 120 ∧ zbC prog 122 1 = some 1 ∧ zbJ prog 122 2 = some 4 ∧ zbC prog 122 2 = some 2 := by and_intros <;> kernel_rfl
@[go_sem] theorem t_123 : tk prog 123 = .other ∧ tsz prog 123 = some 1 ∧ tby prog 123 = some 8 ∧ tz prog 123 = some [(.v .nilFunc)] ∧ za6 prog 123 = some false := by and_intros <;> kernel_rfl
@[go_sem] theorem t_127 : tk prog 127 = .sl 9 ∧ tsz prog 127 = some 1 ∧ tby prog 127 = some 24 ∧ tz prog 127 = some [(.v (.slice .none 0 0))] ∧ za6 prog 127 = some false := by and_intros <;> kernel_rfl
@[go_sem] theorem t_131 : tk prog 131 = .other ∧ tsz prog 131 = some 1 ∧ tby prog 131 = some 8 ∧ tz prog 131 = some [(.v .nilFunc)] ∧ za6 prog 131 = some false := by and_intros <;> kernel_rfl
@[go_sem] theorem t_132 : tk prog 132 = .other ∧ tsz prog 132 = some 1 ∧ tby prog 132 = some 8 ∧ tz prog 132 = some [(.v .nilFunc)] ∧ za6 prog 132 = some false := by and_intros <;> kernel_rfl
@[go_sem] theorem t_135 : tk prog 135 = .str ∧ tsz prog 135 = some 6 ∧ tby prog 135 = some 96 ∧ tz prog 135 = some [(.v (.slice .none 0 0)), (.v (.slice .none 0 0)), (.v (.slice .none 0 0)), (.v (.int .i64 0)), (.v (.int .i64 0)), (.v (.bool false))] ∧ za6 prog 135 = some true ∧ tfi prog 135 = true ∧ zbJ prog 135 0 = some 45 ∧ zbC prog 135 0 = some 0 ∧ zbJ prog 135 1 = some 4 ∧ zbC prog 135 1 = some 5 := by and_intros <;> kernel_rfl
@[go_sem] theorem t_138 : tk prog 138 = .sl 139 ∧ tsz prog 138 = some 1 ∧ tby prog 138 = some 24 ∧ tz prog 138 = some [(.v (.slice .none 0 0))] ∧ za6 prog 138 = some false := by and_intros <;> kernel_rfl
@[go_sem] theorem t_139 : tk prog 139 = .sl 142 ∧ tsz prog 139 = some 1 ∧ tby prog 139 = some 24 ∧ tz prog 139 = some [(.v (.slice .none 0 0))] ∧ za6 prog 139 = some false := by and_intros <;> kernel_rfl
@[go_sem] theorem t_140 : tk prog 140 = .sl 145 ∧ tsz prog 140 = some 1 ∧ tby prog 140 = some 24 ∧ tz prog 140 = some [(.v (.slice .none 0 0))] ∧ za6 prog 140 = some false := by and_intros <;> kernel_rfl
@[go_sem] theorem t_142 : tk prog 142 = .str ∧ tsz prog 142 = some 2 ∧ tby prog 142 = some 32 ∧ tz prog 142 = some [(.v (.slice .none 0 0)), (.v (.int .i64 0))] ∧ za6 prog 142 = some true ∧ tfi prog 142 = true ∧ zbJ prog 142 0 = some 140 ∧ zbC prog 142 0 = some 0 ∧ zbJ prog 142 1 = some 3 ∧ zbC prog 142 1 = some 1 := by and_intros <;> kernel_rfl
@[go_sem] theorem t_145 : tk prog 145 = .str ∧ tsz prog 145 = some 3 ∧ tby prog 145 = some 24 ∧ tz prog 145 = some [(.v (.int .i64 0)), (.v (.int .i64 0)), (.v (.int .i64 0))] ∧ za6 prog 145 = some true ∧ tfi prog 145 = true ∧ zoL prog 145 = some [false, false, false] ∧ zbJ prog 145 0 = some 3 ∧ zbC prog 145 0 = some 0 ∧ zbJ prog 145 1 = some 3 ∧ zbC prog 145 1 = some 1 ∧ zbJ prog 145 2 = some 3 ∧ zbC prog 145 2 = some 2 := by and_intros <;> kernel_rfl
@[go_sem] theorem t_153 : tk prog 153 = .other ∧ tsz prog 153 = some 1 ∧ tby prog 153 = some 8 ∧ tz prog 153 = some [(.v .nilFunc)] ∧ za6 prog 153 = some false := by and_intros <;> kernel_rfl
@[go_sem] theorem t_162 : tk prog 162 = .str ∧ tsz prog 162 = some 2 ∧ tby prog 162 = some 32 ∧ tz prog 162 = some [(.v (.slice .none 0 0)), (.v (.int .i64 0))] ∧ za6 prog 162 = some true ∧ tfi prog 162 = true ∧ zbJ prog 162 0 = some 33 ∧ zbC prog 162 0 = some 0 ∧ zbJ prog 162 1 = some 48 ∧ zbC prog 162 1 = some 1 := by and_intros <;> kernel_rfl
@[go_sem] theorem t_164 : tk prog 164 = .sl 47 ∧ tsz prog 164 = some 1 ∧ tby prog 164 = some 24 ∧ tz prog 164 = some [(.v (.slice .none 0 0))] ∧ za6 prog 164 = some false := by and_intros <;> kernel_rfl
@[go_sem] theorem t_166 : tk prog 166 = .str ∧ tsz prog 166 = some 2 ∧ tby prog 166 = some 32 ∧ tz prog 166 = some [(.v (.slice .none 0 0)), (.v (.bool false))] ∧ za6 prog 166 = some true ∧ tfi prog 166 = true ∧ zbJ prog 166 0 = some 164 ∧ zbC prog 166 0 = some 0 ∧ zbJ prog 166 1 = some 4 ∧ zbC prog 166 1 = some 1 := by and_intros <;> kernel_rfl
@[go_sem] theorem t_169 : tk prog 169 = .other ∧ tsz prog 169 = some 1 ∧ tby prog 169 = some 8 ∧ tz prog 169 = some [(.v .nilFunc)] ∧ za6 prog 169 = some false := by and_intros <;> kernel_rfl
@[go_sem] theorem t_170 : tk prog 170 = .other ∧ tsz prog 170 = some 1 ∧ tby prog 170 = some 8 ∧ tz prog 170 = some [(.v .nilFunc)] ∧ za6 prog 170 = some false := by and_intros <;> kernel_rfl
@[go_sem] theorem t_178 : tk prog 178 = .map 9 4 ∧ tsz prog 178 = some 1 ∧ tby prog 178 = some 8 ∧ tz prog 178 = some [(.v (.map .none))] ∧ za6 prog 178 = some false := by and_intros <;> kernel_rfl
@[go_sem] theorem t_192 : tk prog 192 = .other ∧ tsz prog 192 = some 1 ∧ tby prog 192 = some 0 ∧ za6 prog 192 = some false := by and_intros <;> kernel_rfl
@[go_sem] theorem t_197 : tk prog 197 = .other ∧ tsz prog 197 = some 1 ∧ tby prog 197 = some 8 ∧ tz prog 197 = some [(.v .nilFunc)] ∧ za6 prog 197 = some false := by and_intros <;> kernel_rfl
@[go_sem] theorem t_198 : tk prog 198 = .arr 4 197 ∧ tsz prog 198 = some 4 ∧ tby prog 198 = some 32 ∧ tz prog 198 = some [(.v .nilFunc), (.v .nilFunc), (.v .nilFunc), (.v .nilFunc)] ∧ za6 prog 198 = some true := by and_intros <;> kernel_rfl
@[go_sem] theorem t_199 : tk prog 199 = .other ∧ tsz prog 199 = some 1 ∧ tby prog 199 = some 8 ∧ tz prog 199 = some [(.v .nilFunc)] ∧ za6 prog 199 = some false := by and_intros <;> kernel_rfl
@[go_sem] theorem t_200 : tk prog 200 = .other ∧ tsz prog 200 = some 1 ∧ tby prog 200 = some 0 ∧ za6 prog 200 = some false := by and_intros <;> kernel_rfl
@[go_sem] theorem t_202 : tk prog 202 = .sl 135 ∧ tsz prog 202 = some 1 ∧ tby prog 202 = some 24 ∧ tz prog 202 = some [(.v (.slice .none 0 0))] ∧ za6 prog 202 = some false := by and_intros <;> kernel_rfl
@[go_sem] theorem t_203 : tk prog 203 = .other ∧ tsz prog 203 = some 1 ∧ tby prog 203 = some 0 ∧ za6 prog 203 = some false := by and_intros <;> kernel_rfl
@[go_sem] theorem t_208 : tk prog 208 = .str ∧ tsz prog 208 = some 8 ∧ tby prog 208 = some 112 ∧ tz prog 208 = some [(.v (.slice .none 0 0)), (.v (.slice .none 0 0)), (.v (.slice .none 0 0)), (.v (.int .i64 0)), (.v (.int .i64 0)), (.v (.int .i64 0)), (.v (.int .i64 0)), (.v (.bool false))] ∧ za6 prog 208 = some true ∧ tfi prog 208 = true ∧ zbJ prog 208 0 = some 45 ∧ zbC prog 208 0 = some 0 ∧ zbJ prog 208 1 = some 3 ∧ zbC prog 208 1 = some 5 ∧ zbJ prog 208 2 = some 3 ∧ zbC prog 208 2 = some 6 ∧ zbJ prog 208 3 = some 4 ∧ zbC prog 208 3 = some 7 := by and_intros <;> kernel_rfl
@[go_sem] theorem t_211 : tk prog 211 = .str ∧ tsz prog 211 = some 9 ∧ tby prog 211 = some 136 ∧ tz prog 211 = some [(.v (.int .i64 0)), (.v (.slice .none 0 0)), (.v (.slice .none 0 0)), (.v (.slice .none 0 0)), (.v (.int .i64 0)), (.v (.bool false)), (.v (.slice .none 0 0)), (.v (.int .i64 0)), (.v (.int .i64 0))] ∧ za6 prog 211 = some true ∧ tfi prog 211 = true ∧ zbJ prog 211 0 = some 39 ∧ zbC prog 211 0 = some 0 := by and_intros <;> kernel_rfl
@[go_sem] theorem t_212 : tk prog 212 = .other ∧ tsz prog 212 = some 1 ∧ tby prog 212 = some 8 ∧ tz prog 212 = some [(.v .nilFunc)] ∧ za6 prog 212 = some false := by and_intros <;> kernel_rfl
@[go_sem] theorem t_216 : tk prog 216 = .other ∧ tsz prog 216 = some 1 ∧ tby prog 216 = some 8 ∧ tz prog 216 = some [(.v .nilFunc)] ∧ za6 prog 216 = some false := by and_intros <;> kernel_rfl
@[go_sem] theorem t_219 : tk prog 219 = .str ∧ tsz prog 219 = some 2 ∧ tby prog 219 = some 16 ∧ tz prog 219 = some [(.v (.int .i64 0)), (.v (.int .i64 0))] ∧ za6 prog 219 = some true ∧ tfi prog 219 = true ∧ zoL prog 219 = some [false, false] ∧ zbJ prog 219 0 = some 3 ∧ zbC prog 219 0 = some 0 ∧ zbJ prog 219 1 = some 3 ∧ zbC prog 219 1 = some 1 := by and_intros <;> kernel_rfl
@[go_sem] theorem t_224 : tk prog 224 = .int .u64 ∧ tsz prog 224 = some 1 ∧ tby prog 224 = some 8 ∧ tz prog 224 = some [(.v (.int .u64 0))] ∧ za6 prog 224 = some false ∧ tz1 prog 224 = some (.int .u64 0) := by and_intros <;> kernel_rfl
@[go_sem] theorem t_225 : tk prog 225 = .other ∧ tsz prog 225 = some 1 ∧ tby prog 225 = some 0 ∧ za6 prog 225 = some false := by and_intros <;> kernel_rfl
@[go_sem] theorem t_229 : tk prog 229 = .other ∧ tsz prog 229 = some 1 ∧ tby prog 229 = some 8 ∧ tz prog 229 = some [(.v .nilFunc)] ∧ za6 prog 229 = some false := by and_intros <;> kernel_rfl
@[go_sem] theorem t_230 : tk prog 230 = .other ∧ tsz prog 230 = some 1 ∧ tby prog 230 = some 8 ∧ tz prog 230 = some [(.v .nilFunc)] ∧ za6 prog 230 = some false := by and_intros <;> kernel_rfl
@[go_sem] theorem t_232 : tk prog 232 = .other ∧ tsz prog 232 = some 1 ∧ tby prog 232 = some 8 ∧ tz prog 232 = some [(.v .nilFunc)] ∧ za6 prog 232 = some false := by and_intros <;> kernel_rfl
@[go_sem] theorem t_257 : tk prog 257 = .other ∧ tsz prog 257 = some 1 ∧ tby prog 257 = some 8 ∧ tz prog 257 = some [(.v .nilFunc)] ∧ za6 prog 257 = some false := by and_intros <;> kernel_rfl
@[go_sem] theorem t_259 : tk prog 259 = .other ∧ tsz prog 259 = some 1 ∧ tby prog 259 = some 8 ∧ tz prog 259 = some [(.v .nilFunc)] ∧ za6 prog 259 = some false := by and_intros <;> kernel_rfl
@[go_sem] theorem t_261 : tk prog 261 = .other ∧ tsz prog 261 = some 1 ∧ tby prog 261 = some 8 ∧ tz prog 261 = some [(.v .nilFunc)] ∧ za6 prog 261 = some false := by and_intros <;> kernel_rfl
@[go_sem] theorem t_266 : tk prog 266 = .other ∧ tsz prog 266 = some 1 ∧ tby prog 266 = some 8 ∧ tz prog 266 = some [(.v .nilFunc)] ∧ za6 prog 266 = some false := by and_intros <;> kernel_rfl
@[go_sem] theorem t_272 : tk prog 272 = .arr 4 3 ∧ tsz prog 272 = some 4 ∧ tby prog 272 = some 32 ∧ tz prog 272 = some [(.v (.int .i64 0)), (.v (.int .i64 0)), (.v (.int .i64 0)), (.v (.int .i64 0))] ∧ za6 prog 272 = some true := by and_intros <;> kernel_rfl
@[go_sem] theorem t_297 : tk prog 297 = .sl 208 ∧ tsz prog 297 = some 1 ∧ tby prog 297 = some 24 ∧ tz prog 297 = some [(.v (.slice .none 0 0))] ∧ za6 prog 297 = some false := by and_intros <;> kernel_rfl
@[go_sem] theorem t_301 : tk prog 301 = .map 4 3 ∧ tsz prog 301 = some 1 ∧ tby prog 301 = some 8 ∧ tz prog 301 = some [(.v (.map .none))] ∧ za6 prog 301 = some false := by and_intros <;> kernel_rfl
@[go_sem] theorem t_303 : tk prog 303 = .int .i64 ∧ tsz prog 303 = some 1 ∧ tby prog 303 = some 8 ∧ tz prog 303 = some [(.v (.int .i64 0))] ∧ za6 prog 303 = some false ∧ tz1 prog 303 = some (.int .i64 0) := by and_intros <;> kernel_rfl
@[go_sem] theorem t_304 : tk prog 304 = .other ∧ tsz prog 304 = some 1 ∧ tby prog 304 = some 0 ∧ za6 prog 304 = some false := by and_intros <;> kernel_rfl
@[go_sem] theorem t_310 : tk prog 310 = .int .u32 ∧ tsz prog 310 = some 1 ∧ tby prog 310 = some 4 ∧ tz prog 310 = some [(.v (.int .u32 0))] ∧ za6 prog 310 = some false ∧ tz1 prog 310 = some (.int .u32 0) := by and_intros <;> kernel_rfl
@[go_sem] theorem t_312 : tk prog 312 = .int .u64 ∧ tsz prog 312 = some 1 ∧ tby prog 312 = some 8 ∧ tz prog 312 = some [(.v (.int .u64 0))] ∧ za6 prog 312 = some false ∧ tz1 prog 312 = some (.int .u64 0) := by and_intros <;> kernel_rfl
@[go_sem] theorem t_314 : tk prog 314 = .other ∧ tsz prog 314 = some 1 ∧ tby prog 314 = some 8 ∧ tz prog 314 = some [(.v .nilFunc)] ∧ za6 prog 314 = some false := by and_intros <;> kernel_rfl
@[go_sem] theorem t_327 : tk prog 327 = .other ∧ tsz prog 327 = some 1 ∧ tby prog 327 = some 8 ∧ tz prog 327 = some [(.v .nilFunc)] ∧ za6 prog 327 = some false := by and_intros <;> kernel_rfl
@[go_sem] theorem t_329 : tk prog 329 = .arr 11 327 ∧ tsz prog 329 = some 11 ∧ tby prog 329 = some 88 ∧ tz prog 329 = some [(.v .nilFunc), (.v .nilFunc), (.v .nilFunc), (.v .nilFunc), (.v .nilFunc), (.v .nilFunc), (.v .nilFunc), (.v .nilFunc), (.v .nilFunc), (.v .nilFunc), (.v .nilFunc)] ∧ za6 prog 329 = some true := by and_intros <;> kernel_rfl
@[go_sem] theorem t_337 : tk prog 337 = .int .u64 ∧ tsz prog 337 = some 1 ∧ tby prog 337 = some 8 ∧ tz prog 337 = some [(.v (.int .u64 0))] ∧ za6 prog 337 = some false ∧ tz1 prog 337 = some (.int .u64 0) := by and_intros <;> kernel_rfl
@[go_sem] theorem t_341 : tk prog 341 = .ptr 3 ∧ tsz prog 341 = some 1 ∧ tby prog 341 = some 8 ∧ tz prog 341 = some [(.v (.pointer .none))] ∧ za6 prog 341 = some false := by and_intros <;> kernel_rfl
@[go_sem] theorem t_343 : tk prog 343 = .sl 140 ∧ tsz prog 343 = some 1 ∧ tby prog 343 = some 24 ∧ tz prog 343 = some [(.v (.slice .none 0 0))] ∧ za6 prog 343 = some false := by and_intros <;> kernel_rfl
@[go_sem] theorem t_345 : tk prog 345 = .other ∧ tsz prog 345 = some 1 ∧ tby prog 345 = some 8 ∧ tz prog 345 = some [(.v .nilFunc)] ∧ za6 prog 345 = some false := by and_intros <;> kernel_rfl
@[go_sem] theorem t_346 : tk prog 346 = .other ∧ tsz prog 346 = some 1 ∧ tby prog 346 = some 8 ∧ tz prog 346 = some [(.v .nilFunc)] ∧ za6 prog 346 = some false := by and_intros <;> kernel_rfl
@[go_sem] theorem t_349 : tk prog 349 = .sl 353 ∧ tsz prog 349 = some 1 ∧ tby prog 349 = some 24 ∧ tz prog 349 = some [(.v (.slice .none 0 0))] ∧ za6 prog 349 = some false := by and_intros <;> kernel_rfl
@[go_sem] theorem t_351 : tk prog 351 = .str ∧ tsz prog 351 = some 2 ∧ tby prog 351 = some 32 ∧ tz prog 351 = some [(.v (.slice .none 0 0)), (.v (.int .i64 0))] ∧ za6 prog 351 = some true ∧ tfi prog 351 = true ∧ zbJ prog 351 0 = some 349 ∧ zbC prog 351 0 = some 0 ∧ zbJ prog 351 1 = some 48 ∧ zbC prog 351 1 = some 1 := by and_intros <;> kernel_rfl
@[go_sem] theorem t_353 : tk prog 353 = .sl 355 ∧ tsz prog 353 = some 1 ∧ tby prog 353 = some 24 ∧ tz prog 353 = some [(.v (.slice .none 0 0))] ∧ za6 prog 353 = some false := by and_intros <;> kernel_rfl
@[go_sem] theorem t_355 : tk prog 355 = .str ∧ tsz prog 355 = some 8 ∧ tby prog 355 = some 112 ∧ tz prog 355 = some [(.v (.slice .none 0 0)), (.v (.slice .none 0 0)), (.v (.slice .none 0 0)), (.v (.int .i64 0)), (.v (.int .i64 0)), (.v (.int .i64 0)), (.v (.int .i64 0)), (.v (.bool false))] ∧ za6 prog 355 = some true ∧ tfi prog 355 = true ∧ zbJ prog 355 0 = some 45 ∧ zbC prog 355 0 = some 0 ∧ zbJ prog 355 1 = some 3 ∧ zbC prog 355 1 = some 5 ∧ zbJ prog 355 2 = some 3 ∧ zbC prog 355 2 = some 6 ∧ zbJ prog 355 3 = some 4 ∧ zbC prog 355 3 = some 7 := by and_intros <;> kernel_rfl
@[go_sem] theorem t_362 : tk prog 362 = .ptr 337 ∧ tsz prog 362 = some 1 ∧ tby prog 362 = some 8 ∧ tz prog 362 = some [(.v (.pointer .none))] ∧ za6 prog 362 = some false := by and_intros <;> kernel_rfl
@[go_sem] theorem t_380 : tk prog 380 = .arr 24 5 ∧ tsz prog 380 = some 24 ∧ tby prog 380 = some 24 ∧ tz prog 380 = some [(.v (.int .u8 0)), (.v (.int .u8 0)), (.v (.int .u8 0)), (.v (.int .u8 0)), (.v (.int .u8 0)), (.v (.int .u8 0)), (.v (.int .u8 0)), (.v (.int .u8 0)), (.v (.int .u8 0)), (.v (.int .u8 0)), (.v (.int .u8 0)), (.v (.int .u8 0)), (.v (.int .u8 0)), (.v (.int .u8 0)), (.v (.int .u8 0)), (.v (.int .u8 0)), (.v (.int .u8 0)), (.v (.int .u8 0)), (.v (.int .u8 0)), (.v (.int .u8 0)), (.v (.int .u8 0)), (.v (.int .u8 0)), (.v (.int .u8 0)), (.v (.int .u8 0))] ∧ za6 prog 380 = some true := by and_intros <;> kernel_rfl
@[go_sem] theorem t_382 : tk prog 382 = .other ∧ tsz prog 382 = some 1 ∧ tby prog 382 = some 0 ∧ za6 prog 382 = some false := by and_intros <;> kernel_rfl
end Go.Av
end
section
open Go Go.Proofs
namespace Go.Av
def zbB (n : Int) : List AV := [.v (.int .i64 n)]
def zap (l : List Int) : AV := .lst 1 (l.map zbB)
def zbY (l : List (List Int)) : AV := .lst 1 (l.map fun l => [zap l])
structure zfU where
 name : ByteArray
 progs : List (List (Int × Int))
 keep : Bool
 deriving Inhabited
structure zad where
 cells : Int
 next : List (List Int)
 turn : List Int
 kinds : List zfU
 rights : Int
 must : Bool
 clauses : List (Int × Int × Int × Int)
 blocked : Int
 endless : Int
structure zag where
 at_ : List Int
 h0 : List Int
 h1 : List Int
 rights : Int
 side : Int
 deriving DecidableEq
def zaO (s : Int × Int) : List AV := [.v (.int .i64 s.1), .v (.int .i64 s.2)]
def zaV (k : zfU) : List AV := [.v (.string k.name), .lst 1 (k.progs.map fun p => [.lst 2 (p.map zaO)]), .v (.bool k.keep)]
def zaZ (c : Int × Int × Int × Int) : List AV := [.v (.int .i64 c.1), .v (.int .i64 c.2.1), .v (.int .i64 c.2.2.1), .v (.int .i64 c.2.2.2)]
def zxH (cells : Int) (next : List (List Int)) (turn : List Int) : List AV := [.v (.int .i64 cells), zbY next, zap turn]
def zae (g : zad) : List AV := [.v (.int .i64 g.cells), zbY g.next, zap g.turn, .lst 3 (g.kinds.map zaV), .v (.int .i64 g.rights), .v (.bool g.must), .lst 4 (g.clauses.map zaZ), .v (.int .i64 g.blocked), .v (.int .i64 g.endless)]
def zac (p : zag) : List AV := [zap p.at_, zap p.h0, zap p.h1, .v (.int .i64 p.rights), .v (.int .i64 p.side)]
attribute [go_sem] zbB zap zbY zaO zaV zaZ zxH zae zac
def zeY (l : List Int) : Prop := l.length ≤ 1099511627776
theorem zxi {n : Nat} {l : List Int} : (∀ r ∈ l.map zbB, ∀ c ∈ r, Bel n c) = True := by
 refine eq_true ?_
 intro r hr c hc
 obtain ⟨x, _, rfl⟩ := List.mem_map.1 hr
 simp only [zbB, List.mem_singleton] at hc
 subst hc; exact .v _
theorem zqT {n : Nat} {l : List Int} : Bel n (.lst 1 (l.map zbB)) = True := by rw [zbR, zxi]
attribute [go_sem high] zqT

def za3 (a b : Int) : Int := if a < b then -1 else if b < a then 1 else 0
theorem zeG (a b : Int) : zaP Tryz.prog 155 [.v (.int .i64 a), .v (.int .i64 b)] (.v (.int .i64 (za3 a b))) := by
 refine pF Tryz.func155 ?_
 simp [go_sem]
 refine zAE (fun h => ?_) (fun h => ?_)
 ·simp at h
  simp [go_sem, za3, h]
 ·simp at h
  simp [go_sem]
  refine zAE (fun h2 => ?_) (fun h2 => ?_)
  ·simp at h2
   simp [go_sem, za3, h2, show ¬ a < b by omega]
  ·simp at h2
   simp [go_sem, za3, show ¬ b < a by omega, show ¬ a < b by omega]
def zeb : List Int → List Int → Int
 | x :: a, y :: b => if x = y then zeb a b else za3 x y
 | a, b => za3 a.length b.length
theorem zgu (b : List Int) : zeb [] b = za3 0 b.length := by cases b <;> rfl
theorem zfM (a : List Int) : zeb a [] = za3 a.length 0 := by cases a <;> rfl
theorem zjn (a b : List Int) (ha : zeY a) (hb : zeY b) : zaP Tryz.prog 154 [zap a, zap b] (.v (.int .i64 (zeb a b))) := by
 refine pF Tryz.func154 ?_
 unfold zeY at ha hb
 simp [go_sem]
 refine zAC (zAG (α := Nat) (fun j => ⟨[(0, zap a), (1, zap b), (5, .v (.int .i64 j))], [], 0⟩)
  (fun d j => j + d = a.length ∧ j ≤ b.length ∧ zeb a b = zeb (a.drop j) (b.drop j)) ?_ a.length 0 ?_) ?_ ?_
 ·rintro d j ⟨i1, i2, i3⟩ hrec
  simp [go_sem]
  refine zAE (fun hj => ?_) (fun hj => ?_)
  ·simp at hj
   obtain ⟨hj1, hj2⟩ := hj
   have hd1 : a.drop j = nth a j :: a.drop (j + 1) := by rw [List.drop_eq_getElem_cons hj1, zau _ _ hj1]
   have hd2 : b.drop j = nth b j :: b.drop (j + 1) := by rw [List.drop_eq_getElem_cons hj2, zau _ _ hj2]
   rw [hd1, hd2, zeb] at i3
   simp [go_sem]
   try ((with_reducible refine wZ ?_); (try simp [go_sem]))
   refine zA3 hj1 fun _ => ?_
   simp [go_sem, hj1]
   try ((with_reducible refine wZ ?_); (try simp [go_sem]))
   refine zA3 hj2 fun _ => ?_
   simp [go_sem, hj2]
   try ((with_reducible refine wZ ?_); (try simp [go_sem]))
   refine zkX.mk (by kernel_rfl) ?_
   simp [go_sem]
   refine zAE (fun he => ?_) (fun he => ?_)
   ·simp at he
    rw [if_neg he] at i3
    simp [go_sem]
    try ((with_reducible refine wZ ?_); (try simp [go_sem]))
    refine zA3 hj1 fun _ => ?_
    simp [go_sem, hj1]
    try ((with_reducible refine wZ ?_); (try simp [go_sem]))
    refine zA3 hj2 fun _ => ?_
    simp [go_sem, hj2]
    try ((with_reducible refine wZ ?_); (try simp [go_sem]))
    refine zAF (zeG _ _) (by simp [go_sem]) ?_
    simp [go_sem]
    try ((with_reducible refine wZ ?_); (try simp [go_sem]))
    refine zkX.mk (by kernel_rfl) ?_
    simp [go_sem, i3]
   ·simp at he
    rw [if_pos he] at i3
    simp [go_sem]
    refine zAZ (by omega) fun _ => ?_
    simp [go_sem]
    refine zAC (hrec (d - 1) (by omega) (j + 1) ⟨by omega, by omega, i3⟩) ?_ (by simp)
    simp [go_sem, zaf]
  ·simp at hj
   simp [go_sem]
   refine zAD (zeG _ _) (by simp [go_sem]) ?_
   have : za3 a.length b.length = zeb a b := by
    rw [i3]
    rcases Nat.lt_or_ge j a.length with h | h
    ·have hb' := hj h
     rw [List.drop_eq_nil_of_le hb', zfM]
     simp only [za3, List.length_drop]
     split <;> split <;> (try split) <;> (try split) <;> omega
    ·rw [List.drop_eq_nil_of_le h, zgu]
     simp only [za3, List.length_drop]
     split <;> split <;> (try split) <;> (try split) <;> omega
   simp [go_sem, this]
 ·simp
 ·simp [go_sem, zaf]
 ·simp
theorem ze6 {l : List Int} {j : Nat} (h : j < l.length) : l.drop j = nth l j :: l.drop (j + 1) := by rw [List.drop_eq_getElem_cons h, zau _ _ h]
def zaK (p : zag) : Prop := zeY p.at_ ∧ zeY p.h0 ∧ zeY p.h1
def za7 (p q : zag) : Int :=
 if zeb p.at_ q.at_ ≠ 0 then zeb p.at_ q.at_ else if zeb p.h0 q.h0 ≠ 0 then zeb p.h0 q.h0 else if zeb p.h1 q.h1 ≠ 0 then zeb p.h1 q.h1 else if za3 p.rights q.rights ≠ 0 then za3 p.rights q.rights else za3 p.side q.side
theorem zcE (a b : zag) (ha : zaK a) (hb : zaK b) : zaP Tryz.prog 102 [.agg (zac a), .agg (zac b)] (.v (.int .i64 (za7 a b))) := by
 refine pF Tryz.func102 ?_
 obtain ⟨a1, a2, a3⟩ := ha
 obtain ⟨b1, b2, b3⟩ := hb
 simp [go_sem]
 try ((with_reducible refine wZ ?_); (try simp [go_sem]))
 refine zAF (zjn _ _ a1 b1) (by simp [go_sem]) ?_
 simp [go_sem]
 try ((with_reducible refine wZ ?_); (try simp [go_sem]))
 refine zAF (zjn _ _ a2 b2) (by simp [go_sem]) ?_
 simp [go_sem]
 try ((with_reducible refine wZ ?_); (try simp [go_sem]))
 refine zAF (zjn _ _ a3 b3) (by simp [go_sem]) ?_
 simp [go_sem]
 try ((with_reducible refine wZ ?_); (try simp [go_sem]))
 refine zAF (zeG _ _) (by simp [go_sem]) ?_
 simp [go_sem]
 try ((with_reducible refine wZ ?_); (try simp [go_sem]))
 refine zAF (zeG _ _) (by simp [go_sem]) ?_
 simp [go_sem]
 try ((with_reducible refine wZ ?_); (try simp [go_sem]))
 refine zkX.mk (by kernel_rfl) ?_
 simp [go_sem]
 generalize e1 : zeb a.at_ b.at_ = x1
 generalize e2 : zeb a.h0 b.h0 = x2
 generalize e3 : zeb a.h1 b.h1 = x3
 generalize e4 : za3 a.rights b.rights = x4
 generalize e5 : za3 a.side b.side = x5
 unfold za7
 rw [e1, e2, e3, e4, e5]
 refine zAK ?_
 simp [go_sem]
 refine zAE (fun h1 => ?_) (fun h1 => ?_) <;> simp at h1 <;> simp [go_sem, h1]
 refine zAK ?_
 simp [go_sem]
 refine zAE (fun h2 => ?_) (fun h2 => ?_) <;> simp at h2 <;> simp [go_sem, h1, h2]
 refine zAK ?_
 simp [go_sem]
 refine zAE (fun h3 => ?_) (fun h3 => ?_) <;> simp at h3 <;> simp [go_sem, h1, h2, h3]
 refine zAK ?_
 simp [go_sem]
 refine zAE (fun h4 => ?_) (fun h4 => ?_) <;> simp at h4 <;> simp [go_sem, h1, h2, h3, h4]
 refine zAK ?_
 simp [go_sem]
 refine zAE (fun h5 => ?_) (fun h5 => ?_) <;> simp at h5 <;> simp [go_sem, h1, h2, h3, h4, h5]
 refine zAK ?_
 simp [go_sem]
def zyY (n : Nat) (p : zag) : AV := .agg [.sl (n + 2) 1 1 0 p.at_.length, .sl (n + 3) 1 1 0 p.h0.length, .sl (n + 8) 1 1 0 p.h1.length, .v (.int .i64 p.rights), .v (.int .i64 p.side)]
def zvZ (n : Nat) (p : zag) : List (Nat × zbn) := [(n + 2, .rows true 1 1 (p.at_.map zbB)), (n + 3, .rows true 1 1 (p.h0.map zbB)), (n + 8, .rows true 1 1 (p.h1.map zbB))]
attribute [go_sem] zyY zvZ
theorem zdB (p : zag) (ha : zaK p) : zgS Tryz.prog 247 [.agg (zac p)] (fun n => zyY n p) (fun n => zvZ n p) 9 := by
 refine ⟨zAJ (by kernel_rfl) Tryz.func247 rfl rfl (Nat.le_of_ble_eq_true rfl) (by kernel_rfl) ?_, fun n => ⟨?_, ?_⟩⟩
 ·obtain ⟨a1, a2, a3⟩ := ha
  unfold zeY at a1 a2 a3
  simp [go_sem]
  refine zAZ (by omega) fun _ => ?_
  simp [go_sem]
  try ((with_reducible refine wZ ?_); (try simp [go_sem]))
  refine zA3 (by omega) fun _ => ?_
  simp [go_sem]
  try ((with_reducible refine wZ ?_); (try simp [go_sem]))
  refine zA3 (by omega) fun _ => ?_
  simp [go_sem]
  try ((with_reducible refine wZ ?_); (try simp [go_sem]))
  refine zkX.mk (by kernel_rfl) ?_
  simp [go_sem, zaf]
 ·simp [go_sem]
 ·simp [go_sem]
end Go.Av
end
