/- Texts of ours, part 6: our library and contracts of functions. -/
import Derived.Test.YtedhfmmlhfmomaaGreatDoorB05
import Derived.Test.YtedhfmmlhfmomaaGreatDoorProg
set_option linter.unusedSimpArgs false
set_option linter.unusedVariables false
set_option maxRecDepth 100000
set_option maxHeartbeats 40000000
section
/- Our library, part 13: equations by which code is evaluated. -/
namespace Go.Av
open Go

section
variable {P : Program} {n0 : Nat} {Q : zbW} {e : Env} {h : zar} {n : Nat} {ops rest : List Oper}
def VC (a b : Prop) : Prop := a ∧ b
theorem zwU {b : Prop} : VC False b = False := by simp [VC]
def VQ (a b : Prop) : Prop := a ∧ b
theorem zy8 {b : Prop} : VQ True b = b := by simp [VQ]
theorem VQ.mk {a b : Prop} (h1 : a) (h2 : a → b) : VQ a b := ⟨h1, h2 h1⟩
@[congr] theorem VQ_congr {a b c : Prop} (h1 : a = c) : VQ a b = VQ c b := by subst h1; rfl
theorem VC.mk {a b : Prop} (h1 : a) (h2 : a → b) : VC a b := ⟨h1, h2 h1⟩
@[congr] theorem VC_congr {a b c : Prop} (h1 : a = c) : VC a b = VC c b := by subst h1; rfl
def aIf (t : Bool) (a b : Prop) : Prop := (t = true → a) ∧ (t = false → b)
theorem aIf.mk {t : Bool} {a b : Prop} (h1 : t = true → a) (h2 : t = false → b) : aIf t a b := ⟨h1, h2⟩
theorem zmA (vs : List AV) (i : Nat) : zfl (.tup vs) i = Res.if (i < vs.length) (cel vs i) := rfl
@[congr] theorem aIf_congr {t t' : Bool} {a b : Prop} (h : t = t') : aIf t a b = aIf t' a b := by subst h; rfl
@[congr] theorem upd_congr {α : Type} {f : Nat → α} {k : Nat} {x : α} {j j' : Nat} (h : j = j') : upd f k x j = upd f k x j' := by subst h; rfl
theorem zaP {α : Type} [Inhabited α] (x : α) (l : List α) : nth (x :: l) 0 = x := rfl
theorem ziP {α : Type} [Inhabited α] (x : α) (l : List α) (k : Nat) : nth (x :: l) (k + 1) = nth l k := by simp [nth]
theorem zxs (x : AV) (l : List AV) : cel (x :: l) 0 = x := rfl
theorem zxr (x : AV) (l : List AV) (k : Nat) : cel (x :: l) (k + 1) = cel l k := by simp [cel]
theorem zbl {α β : Type} [Inhabited α] [Inhabited β] (f : α → β) (l : List α) (i : Nat) (h : i < l.length) : nth (l.map f) i = f (nth l i) := by simp [nth, h]
theorem zzz {α : Type} [Inhabited α] (f : α → AV) (l : List α) (i : Nat) (h : i < l.length) : cel (l.map f) i = f (nth l i) := by simp [nth, cel, h]
theorem zaC {α : Type} [Inhabited α] (l : List α) (i : Nat) (h : i < l.length) : nth l i = l[i] := by simp [nth, h]
theorem zaj {α : Type} [Inhabited α] {l : List α} {i : Nat} (h : i < l.length) : nth l i ∈ l := by rw [zaC l i h]; exact List.getElem_mem _
def zgm (P : Program) (ops : List Oper) (Q : zbW) (rest : List Oper) (e : Env) (h : zar) (n : Nat) : Prop := zbk P ops Q rest e h n
def zyw (P : Program) (n0 : Nat) (c : Code) (Q : zbW) (e : Env) (h : zar) (n : Nat) : Prop := awp P n0 c Q e h n
theorem zy7 : VC True (zgm P ops Q rest e h n) = zbk P ops Q rest e h n := by simp [VC, zgm]
theorem zAP {a : Prop} (h1 : a) (h2 : a → zbk P ops Q rest e h n) : VC a (zgm P ops Q rest e h n) := ⟨h1, h2 h1⟩
theorem zt9 {a : Code} {y : Prop} : aIf true (zyw P n0 a Q e h n) y = awp P n0 a Q e h n := by simp [aIf, zyw]
theorem zr7 {b : Code} {y : Prop} : aIf false y (zyw P n0 b Q e h n) = awp P n0 b Q e h n := by simp [aIf, zyw]
theorem zAt {t : Bool} {a b : Code} (h1 : t = true → awp P n0 a Q e h n) (h2 : t = false → awp P n0 b Q e h n) : aIf t (zyw P n0 a Q e h n) (zyw P n0 b Q e h n) := ⟨h1, h2⟩
def zfL (P : Program) (ops : List Oper) (Q : zbW) (rest : List Oper) (dst : Option Tmp) (r : Res) (e : Env) (h : zar) (n : Nat) : Prop :=
 VC r.cond (zbk P ops Q rest (put e dst r.val) (zal r.wr h) (n + r.al))
def zgk (P : Program) (ops : List Oper) (Q : zbW) (rest : List Oper) (dst : Option Tmp) (g : Bool) (r : Res) (e : Env) (h : zar) (n : Nat) : Prop :=
 VC (g = true → r.cond) (zbk P ops Q rest (put e dst (.gd g r.val)) (zal (gW g r.wr) h) (n + gN g r.al))
def zpu (P : Program) (ops : List Oper) (Q : zbW) (rest : List Oper) (dst : Option Tmp) (fv : AV) (args : List AV) (e : Env) (h : zar) (n : Nat) : Prop :=
 zf1 P fv args h n (fun r h' n' => zbk P ops Q rest (put e dst r) h' n') ∨ ziA e fv args h n (fun e' r h' => zbk P ops Q rest (put e' dst r) h' n)
def zr8 (P : Program) (ops : List Oper) (Q : zbW) (rest : List Oper) (dst : Option Tmp) (l : Nat) (args : List AV) (e : Env) (h : zar) (n : Nat) : Prop :=
 ziA e (.fn (.yield l) [] []) args h n (fun e' r h' => zbk P ops Q rest (put e' dst r) h' n)
theorem ztS {e : Env} {f : FuncId} {a b args : List AV} {h : zar} {n : Nat} {K : Env → AV → zar → Prop} : ¬ ziA e (.fn (.func f) a b) args h n K := by
 rintro ⟨l, more, rows, h1, _⟩; cases h1
def zf0 (P : Program) (ops : List Oper) (Q : zbW) (rest : List Oper) (dst : Option Tmp) (op : Op) (g : Option Bool) (e : Env) (h : zar) (n : Nat) : Prop :=
 match g with
 | none => False
 | some g => VQ (∀ t ∈ gT op, okG g (e t)) (zgk P ops Q rest dst g (aev P n op (gE op e) h) e h n)

theorem zxf : awp P n0 .skip Q e h n = Q .normal e h n := rfl
theorem zuA (l : Nat) : awp P n0 (.label l) Q e h n = Q .normal e h n := rfl
theorem zsC (id : Nat) (ops : List Oper) : awp P n0 (.region id ops.toArray false) Q e h n = zbk P ops Q ops e h n := rfl
theorem zzk (a b : Code) : awp P n0 (.seq a b) Q e h n = awp P n0 a (ztU (awp P n0 b Q) Q) e h n := rfl
def zwW (P : Program) (n0 : Nat) (a b : Code) (Q : zbW) (x : AV) (e : Env) (h : zar) (n : Nat) : Prop := match x with
 | .v (.bool t) => (t = true → awp P n0 a Q e h n) ∧ (t = false → awp P n0 b Q e h n)
 | _ => False
theorem zxa (c : Operand) (a b : Code) : awp P n0 (.cond c a b) Q e h n = zwW P n0 a b Q (ev e c) e h n := rfl
theorem zr6 (a b : Code) (t : Bool) : zwW P n0 a b Q (.v (.bool t)) e h n = aIf t (zyw P n0 a Q e h n) (zyw P n0 b Q e h n) := rfl
theorem zuB (b : Code) : awp P n0 (.scope b) Q e h n = awp P n0 b (zgJ Q) e h n := rfl
theorem zuz (id : Nat) (b : Code) : awp P n0 (.block id b) Q e h n = awp P n0 b (zfb id Q) e h n := rfl
theorem zxd (b : Code) : awp P n0 (.loop b) Q e h n = zab n0 (awp P n0 b) Q e h n := rfl
theorem zxc (id : Nat) : awp P n0 (.exit id) Q e h n = Q (.exit id) e h n := rfl
theorem zzj : awp P n0 .ret Q e h n = Q .ret e h n := rfl
theorem zpf (K : Env → zar → Nat → Prop) : ztU K Q .normal e h n = K e h n := rfl
theorem zt3 (K : Env → zar → Nat → Prop) (id : Nat) : ztU K Q (.exit id) e h n = Q (.exit id) e h n := rfl
theorem zwO (K : Env → zar → Nat → Prop) : ztU K Q .ret e h n = Q .ret e h n := rfl
theorem zl6 : zgJ Q .normal e h n = Q .normal e h n := rfl
theorem zpd (id : Nat) : zgJ Q (.exit id) e h n = Q (.exit id) e h n := rfl
theorem zrY : zgJ Q .ret e h n = Q .ret e h n := rfl
theorem zl4 (id : Nat) : zfb id Q .normal e h n = Q .normal e h n := rfl
theorem zo9 (id id' : Nat) : zfb id Q (.exit id') e h n = if id' = id then Q .normal e h n else Q (.exit id') e h n := rfl
theorem zrV (id : Nat) : zfb id Q .ret e h n = Q .ret e h n := rfl
theorem zwQ (rs : List ResultVar) (K : zcF) : RetQ P rs K .ret e h n = VQ (zm3 P e h rs).1 (K (zyR (zm3 P e h rs).2) h n) := rfl
theorem zps (rs : List ResultVar) (K : zcF) : RetQ P rs K .normal e h n = VQ (zm3 P e h rs).1 (K (zyR (zm3 P e h rs).2) h n) := rfl
theorem zw7 : zbk P ops Q [] e h n = Q .normal e h n := rfl
theorem zuu {dst : Option Tmp} {f : Operand} {args : Array Operand} {ats : Array TypeId} {ty : TypeId} {pos : String} {after : Array Edge} :
  zbk P ops Q (⟨dst, .call ⟨.value f, args, ats⟩, ty, pos, after, none⟩ :: rest) e h n = zpu P ops Q rest dst (ev e f) (args.toList.map (ev e)) e h n := rfl
theorem zaO {dst : Option Tmp} {op : Op} {ty : TypeId} {pos : String} {after : Array Edge} {j : Nat} {want : Bool} (hc : zlu op = false) :
  zbk P ops Q (⟨dst, op, ty, pos, after, some (j, want)⟩ :: rest) e h n = zf0 P ops Q rest dst op ((zaD ops j).bind fun t => zaG (e t) want) e h n := by
 unfold zbk zf0 zgk
 cases op with
 | call c =>
  obtain ⟨callee, args, ats⟩ := c
  cases callee with
  | value f => simp [zlu] at hc
  | _ => rfl
 | _ => rfl
theorem zuw {dst : Option Tmp} {ty : TypeId} {pos : String} {after : Array Edge} {x : Operand} : zbk P ops Q (⟨dst, .move x, ty, pos, after, none⟩ :: rest) e h n = zfL P ops Q rest dst (aev P n (.move x) e h) e h n := rfl
theorem zsq {dst : Option Tmp} {ty : TypeId} {pos : String} {after : Array Edge} {j : Nat} {want : Bool} {x : Operand} : zbk P ops Q (⟨dst, .move x, ty, pos, after, some (j, want)⟩ :: rest) e h n = zf0 P ops Q rest dst (.move x) ((zaD ops j).bind fun t => zaG (e t) want) e h n := zaO rfl
theorem zpN {dst : Option Tmp} {ty : TypeId} {pos : String} {after : Array Edge} {x : Operand} : zbk P ops Q (⟨dst, .assign x, ty, pos, after, none⟩ :: rest) e h n = zfL P ops Q rest dst (aev P n (.assign x) e h) e h n := rfl
theorem znw {dst : Option Tmp} {ty : TypeId} {pos : String} {after : Array Edge} {j : Nat} {want : Bool} {x : Operand} : zbk P ops Q (⟨dst, .assign x, ty, pos, after, some (j, want)⟩ :: rest) e h n = zf0 P ops Q rest dst (.assign x) ((zaD ops j).bind fun t => zaG (e t) want) e h n := zaO rfl
theorem zux {dst : Option Tmp} {ty : TypeId} {pos : String} {after : Array Edge} {c a b : Operand} : zbk P ops Q (⟨dst, .pick c a b, ty, pos, after, none⟩ :: rest) e h n = zfL P ops Q rest dst (aev P n (.pick c a b) e h) e h n := rfl
theorem zsr {dst : Option Tmp} {ty : TypeId} {pos : String} {after : Array Edge} {j : Nat} {want : Bool} {c a b : Operand} : zbk P ops Q (⟨dst, .pick c a b, ty, pos, after, some (j, want)⟩ :: rest) e h n = zf0 P ops Q rest dst (.pick c a b) ((zaD ops j).bind fun t => zaG (e t) want) e h n := zaO rfl
theorem zst {dst : Option Tmp} {ty : TypeId} {pos : String} {after : Array Edge} {t : TypeId} : zbk P ops Q (⟨dst, .alloc t, ty, pos, after, none⟩ :: rest) e h n = zfL P ops Q rest dst (aev P n (.alloc t) e h) e h n := rfl
theorem zpF {dst : Option Tmp} {ty : TypeId} {pos : String} {after : Array Edge} {j : Nat} {want : Bool} {t : TypeId} : zbk P ops Q (⟨dst, .alloc t, ty, pos, after, some (j, want)⟩ :: rest) e h n = zf0 P ops Q rest dst (.alloc t) ((zaD ops j).bind fun t => zaG (e t) want) e h n := zaO rfl
theorem zw6 {dst : Option Tmp} {ty : TypeId} {pos : String} {after : Array Edge} {t : TypeId} {x : Operand} : zbk P ops Q (⟨dst, .box t x, ty, pos, after, none⟩ :: rest) e h n = zfL P ops Q rest dst (aev P n (.box t x) e h) e h n := rfl
theorem zut {dst : Option Tmp} {ty : TypeId} {pos : String} {after : Array Edge} {j : Nat} {want : Bool} {t : TypeId} {x : Operand} : zbk P ops Q (⟨dst, .box t x, ty, pos, after, some (j, want)⟩ :: rest) e h n = zf0 P ops Q rest dst (.box t x) ((zaD ops j).bind fun t => zaG (e t) want) e h n := zaO rfl
theorem zsv {dst : Option Tmp} {ty : TypeId} {pos : String} {after : Array Edge} {t : TypeId} {ps : Array (Nat × Operand)} : zbk P ops Q (⟨dst, .build t ps, ty, pos, after, none⟩ :: rest) e h n = zfL P ops Q rest dst (aev P n (.build t ps) e h) e h n := rfl
theorem zpH {dst : Option Tmp} {ty : TypeId} {pos : String} {after : Array Edge} {j : Nat} {want : Bool} {t : TypeId} {ps : Array (Nat × Operand)} : zbk P ops Q (⟨dst, .build t ps, ty, pos, after, some (j, want)⟩ :: rest) e h n = zf0 P ops Q rest dst (.build t ps) ((zaD ops j).bind fun t => zaG (e t) want) e h n := zaO rfl
theorem zjb {dst : Option Tmp} {ty : TypeId} {pos : String} {after : Array Edge} {t : TypeId} {k : Nat} {ps : Array (Nat × Operand)} : zbk P ops Q (⟨dst, .buildSlice t k ps, ty, pos, after, none⟩ :: rest) e h n = zfL P ops Q rest dst (aev P n (.buildSlice t k ps) e h) e h n := rfl
theorem ziu {dst : Option Tmp} {ty : TypeId} {pos : String} {after : Array Edge} {j : Nat} {want : Bool} {t : TypeId} {k : Nat} {ps : Array (Nat × Operand)} : zbk P ops Q (⟨dst, .buildSlice t k ps, ty, pos, after, some (j, want)⟩ :: rest) e h n = zf0 P ops Q rest dst (.buildSlice t k ps) ((zaD ops j).bind fun t => zaG (e t) want) e h n := zaO rfl
theorem zuv {dst : Option Tmp} {ty : TypeId} {pos : String} {after : Array Edge} {t : TypeId} {x : Operand} : zbk P ops Q (⟨dst, .load t x, ty, pos, after, none⟩ :: rest) e h n = zfL P ops Q rest dst (aev P n (.load t x) e h) e h n := rfl
theorem zsp {dst : Option Tmp} {ty : TypeId} {pos : String} {after : Array Edge} {j : Nat} {want : Bool} {t : TypeId} {x : Operand} : zbk P ops Q (⟨dst, .load t x, ty, pos, after, some (j, want)⟩ :: rest) e h n = zf0 P ops Q rest dst (.load t x) ((zaD ops j).bind fun t => zaG (e t) want) e h n := zaO rfl
theorem zsA {dst : Option Tmp} {ty : TypeId} {pos : String} {after : Array Edge} {t : TypeId} {x y : Operand} : zbk P ops Q (⟨dst, .store t x y, ty, pos, after, none⟩ :: rest) e h n = zfL P ops Q rest dst (aev P n (.store t x y) e h) e h n := rfl
theorem zpM {dst : Option Tmp} {ty : TypeId} {pos : String} {after : Array Edge} {j : Nat} {want : Bool} {t : TypeId} {x y : Operand} : zbk P ops Q (⟨dst, .store t x y, ty, pos, after, some (j, want)⟩ :: rest) e h n = zf0 P ops Q rest dst (.store t x y) ((zaD ops j).bind fun t => zaG (e t) want) e h n := zaO rfl
theorem zsu {dst : Option Tmp} {ty : TypeId} {pos : String} {after : Array Edge} {o : BinOp} {t : TypeId} {x y : Operand} {t' : TypeId} : zbk P ops Q (⟨dst, .binOp o t x y t', ty, pos, after, none⟩ :: rest) e h n = zfL P ops Q rest dst (aev P n (.binOp o t x y t') e h) e h n := rfl
theorem zpG {dst : Option Tmp} {ty : TypeId} {pos : String} {after : Array Edge} {j : Nat} {want : Bool} {o : BinOp} {t : TypeId} {x y : Operand} {t' : TypeId} : zbk P ops Q (⟨dst, .binOp o t x y t', ty, pos, after, some (j, want)⟩ :: rest) e h n = zf0 P ops Q rest dst (.binOp o t x y t') ((zaD ops j).bind fun t => zaG (e t) want) e h n := zaO rfl
theorem zuy {dst : Option Tmp} {ty : TypeId} {pos : String} {after : Array Edge} {o : UnOp} {t : TypeId} {x : Operand} : zbk P ops Q (⟨dst, .unOp o t x, ty, pos, after, none⟩ :: rest) e h n = zfL P ops Q rest dst (aev P n (.unOp o t x) e h) e h n := rfl
theorem zmm {dst : Option Tmp} {ty : TypeId} {pos : String} {after : Array Edge} {x : Operand} : zbk P ops Q (⟨dst, .nilCheck x, ty, pos, after, none⟩ :: rest) e h n = zfL P ops Q rest dst (aev P n (.nilCheck x) e h) e h n := rfl
theorem zss {dst : Option Tmp} {ty : TypeId} {pos : String} {after : Array Edge} {j : Nat} {want : Bool} {o : UnOp} {t : TypeId} {x : Operand} : zbk P ops Q (⟨dst, .unOp o t x, ty, pos, after, some (j, want)⟩ :: rest) e h n = zf0 P ops Q rest dst (.unOp o t x) ((zaD ops j).bind fun t => zaG (e t) want) e h n := zaO rfl
theorem zkG {dst : Option Tmp} {ty : TypeId} {pos : String} {after : Array Edge} {j : Nat} {want : Bool} {x : Operand} : zbk P ops Q (⟨dst, .nilCheck x, ty, pos, after, some (j, want)⟩ :: rest) e h n = zf0 P ops Q rest dst (.nilCheck x) ((zaD ops j).bind fun t => zaG (e t) want) e h n := zaO rfl
theorem znA {dst : Option Tmp} {ty : TypeId} {pos : String} {after : Array Edge} {s d : TypeId} {x : Operand} : zbk P ops Q (⟨dst, .convert s d x, ty, pos, after, none⟩ :: rest) e h n = zfL P ops Q rest dst (aev P n (.convert s d x) e h) e h n := rfl
theorem zmi {dst : Option Tmp} {ty : TypeId} {pos : String} {after : Array Edge} {j : Nat} {want : Bool} {s d : TypeId} {x : Operand} : zbk P ops Q (⟨dst, .convert s d x, ty, pos, after, some (j, want)⟩ :: rest) e h n = zf0 P ops Q rest dst (.convert s d x) ((zaD ops j).bind fun t => zaG (e t) want) e h n := zaO rfl
theorem zml {dst : Option Tmp} {ty : TypeId} {pos : String} {after : Array Edge} {f : Fn} {xs ys : Array Operand} : zbk P ops Q (⟨dst, .makeFunc f xs ys, ty, pos, after, none⟩ :: rest) e h n = zfL P ops Q rest dst (aev P n (.makeFunc f xs ys) e h) e h n := rfl
theorem zkF {dst : Option Tmp} {ty : TypeId} {pos : String} {after : Array Edge} {j : Nat} {want : Bool} {f : Fn} {xs ys : Array Operand} : zbk P ops Q (⟨dst, .makeFunc f xs ys, ty, pos, after, some (j, want)⟩ :: rest) e h n = zf0 P ops Q rest dst (.makeFunc f xs ys) ((zaD ops j).bind fun t => zaG (e t) want) e h n := zaO rfl
theorem zkJ {dst : Option Tmp} {ty : TypeId} {pos : String} {after : Array Edge} {t : TypeId} {l c : Operand} : zbk P ops Q (⟨dst, .makeSlice t l c, ty, pos, after, none⟩ :: rest) e h n = zfL P ops Q rest dst (aev P n (.makeSlice t l c) e h) e h n := rfl
theorem zi9 {dst : Option Tmp} {ty : TypeId} {pos : String} {after : Array Edge} {j : Nat} {want : Bool} {t : TypeId} {l c : Operand} : zbk P ops Q (⟨dst, .makeSlice t l c, ty, pos, after, some (j, want)⟩ :: rest) e h n = zf0 P ops Q rest dst (.makeSlice t l c) ((zaD ops j).bind fun t => zaG (e t) want) e h n := zaO rfl
theorem zsz {dst : Option Tmp} {ty : TypeId} {pos : String} {after : Array Edge} {t : TypeId} {x : Operand} {lo hi mx : Option Operand} : zbk P ops Q (⟨dst, .slice t x lo hi mx, ty, pos, after, none⟩ :: rest) e h n = zfL P ops Q rest dst (aev P n (.slice t x lo hi mx) e h) e h n := rfl
theorem zpL {dst : Option Tmp} {ty : TypeId} {pos : String} {after : Array Edge} {j : Nat} {want : Bool} {t : TypeId} {x : Operand} {lo hi mx : Option Operand} : zbk P ops Q (⟨dst, .slice t x lo hi mx, ty, pos, after, some (j, want)⟩ :: rest) e h n = zf0 P ops Q rest dst (.slice t x lo hi mx) ((zaD ops j).bind fun t => zaG (e t) want) e h n := zaO rfl
theorem zkH {dst : Option Tmp} {ty : TypeId} {pos : String} {after : Array Edge} {t : TypeId} {x : Operand} {f : Nat} : zbk P ops Q (⟨dst, .fieldAddr t x f, ty, pos, after, none⟩ :: rest) e h n = zfL P ops Q rest dst (aev P n (.fieldAddr t x f) e h) e h n := rfl
theorem zi7 {dst : Option Tmp} {ty : TypeId} {pos : String} {after : Array Edge} {j : Nat} {want : Bool} {t : TypeId} {x : Operand} {f : Nat} : zbk P ops Q (⟨dst, .fieldAddr t x f, ty, pos, after, some (j, want)⟩ :: rest) e h n = zf0 P ops Q rest dst (.fieldAddr t x f) ((zaD ops j).bind fun t => zaG (e t) want) e h n := zaO rfl
theorem zsw {dst : Option Tmp} {ty : TypeId} {pos : String} {after : Array Edge} {t : TypeId} {x : Operand} {f : Nat} : zbk P ops Q (⟨dst, .field t x f, ty, pos, after, none⟩ :: rest) e h n = zfL P ops Q rest dst (aev P n (.field t x f) e h) e h n := rfl
theorem zpI {dst : Option Tmp} {ty : TypeId} {pos : String} {after : Array Edge} {j : Nat} {want : Bool} {t : TypeId} {x : Operand} {f : Nat} : zbk P ops Q (⟨dst, .field t x f, ty, pos, after, some (j, want)⟩ :: rest) e h n = zf0 P ops Q rest dst (.field t x f) ((zaD ops j).bind fun t => zaG (e t) want) e h n := zaO rfl
theorem zkI {dst : Option Tmp} {ty : TypeId} {pos : String} {after : Array Edge} {t : TypeId} {x i : Operand} : zbk P ops Q (⟨dst, .indexAddr t x i, ty, pos, after, none⟩ :: rest) e h n = zfL P ops Q rest dst (aev P n (.indexAddr t x i) e h) e h n := rfl
theorem zi8 {dst : Option Tmp} {ty : TypeId} {pos : String} {after : Array Edge} {j : Nat} {want : Bool} {t : TypeId} {x i : Operand} : zbk P ops Q (⟨dst, .indexAddr t x i, ty, pos, after, some (j, want)⟩ :: rest) e h n = zf0 P ops Q rest dst (.indexAddr t x i) ((zaD ops j).bind fun t => zaG (e t) want) e h n := zaO rfl
theorem zsx {dst : Option Tmp} {ty : TypeId} {pos : String} {after : Array Edge} {t : TypeId} {x i : Operand} : zbk P ops Q (⟨dst, .index t x i, ty, pos, after, none⟩ :: rest) e h n = zfL P ops Q rest dst (aev P n (.index t x i) e h) e h n := rfl
theorem zpJ {dst : Option Tmp} {ty : TypeId} {pos : String} {after : Array Edge} {j : Nat} {want : Bool} {t : TypeId} {x i : Operand} : zbk P ops Q (⟨dst, .index t x i, ty, pos, after, some (j, want)⟩ :: rest) e h n = zf0 P ops Q rest dst (.index t x i) ((zaD ops j).bind fun t => zaG (e t) want) e h n := zaO rfl
theorem znB {dst : Option Tmp} {ty : TypeId} {pos : String} {after : Array Edge} {x : Operand} {i : Nat} : zbk P ops Q (⟨dst, .extract x i, ty, pos, after, none⟩ :: rest) e h n = zfL P ops Q rest dst (aev P n (.extract x i) e h) e h n := rfl
theorem zmj {dst : Option Tmp} {ty : TypeId} {pos : String} {after : Array Edge} {j : Nat} {want : Bool} {x : Operand} {i : Nat} : zbk P ops Q (⟨dst, .extract x i, ty, pos, after, some (j, want)⟩ :: rest) e h n = zf0 P ops Q rest dst (.extract x i) ((zaD ops j).bind fun t => zaG (e t) want) e h n := zaO rfl
theorem znC {dst : Option Tmp} {ty : TypeId} {pos : String} {after : Array Edge} {t : TypeId} {r : Option Operand} : zbk P ops Q (⟨dst, .makeMap t r, ty, pos, after, none⟩ :: rest) e h n = zfL P ops Q rest dst (aev P n (.makeMap t r) e h) e h n := rfl
theorem zmk {dst : Option Tmp} {ty : TypeId} {pos : String} {after : Array Edge} {j : Nat} {want : Bool} {t : TypeId} {r : Option Operand} : zbk P ops Q (⟨dst, .makeMap t r, ty, pos, after, some (j, want)⟩ :: rest) e h n = zf0 P ops Q rest dst (.makeMap t r) ((zaD ops j).bind fun t => zaG (e t) want) e h n := zaO rfl
theorem zkK {dst : Option Tmp} {ty : TypeId} {pos : String} {after : Array Edge} {t : TypeId} {m' k x : Operand} : zbk P ops Q (⟨dst, .mapUpdate t m' k x, ty, pos, after, none⟩ :: rest) e h n = zfL P ops Q rest dst (aev P n (.mapUpdate t m' k x) e h) e h n := rfl
theorem zja {dst : Option Tmp} {ty : TypeId} {pos : String} {after : Array Edge} {j : Nat} {want : Bool} {t : TypeId} {m' k x : Operand} : zbk P ops Q (⟨dst, .mapUpdate t m' k x, ty, pos, after, some (j, want)⟩ :: rest) e h n = zf0 P ops Q rest dst (.mapUpdate t m' k x) ((zaD ops j).bind fun t => zaG (e t) want) e h n := zaO rfl
theorem zpO {dst : Option Tmp} {ty : TypeId} {pos : String} {after : Array Edge} {t : TypeId} {m' k x : Operand} : zbk P ops Q (⟨dst, .insert t m' k x, ty, pos, after, none⟩ :: rest) e h n = zfL P ops Q rest dst (aev P n (.insert t m' k x) e h) e h n := rfl
theorem znx {dst : Option Tmp} {ty : TypeId} {pos : String} {after : Array Edge} {j : Nat} {want : Bool} {t : TypeId} {m' k x : Operand} : zbk P ops Q (⟨dst, .insert t m' k x, ty, pos, after, some (j, want)⟩ :: rest) e h n = zf0 P ops Q rest dst (.insert t m' k x) ((zaD ops j).bind fun t => zaG (e t) want) e h n := zaO rfl
theorem zpP {dst : Option Tmp} {ty : TypeId} {pos : String} {after : Array Edge} {t : TypeId} {m' k : Operand} {ok : Bool} : zbk P ops Q (⟨dst, .lookup t m' k ok, ty, pos, after, none⟩ :: rest) e h n = zfL P ops Q rest dst (aev P n (.lookup t m' k ok) e h) e h n := rfl
theorem zny {dst : Option Tmp} {ty : TypeId} {pos : String} {after : Array Edge} {j : Nat} {want : Bool} {t : TypeId} {m' k : Operand} {ok : Bool} : zbk P ops Q (⟨dst, .lookup t m' k ok, ty, pos, after, some (j, want)⟩ :: rest) e h n = zf0 P ops Q rest dst (.lookup t m' k ok) ((zaD ops j).bind fun t => zaG (e t) want) e h n := zaO rfl
theorem zgP {dst : Option Tmp} {ty : TypeId} {pos : String} {after : Array Edge} {t : TypeId} {x : Operand} : zbk P ops Q (⟨dst, .makeInterface t x, ty, pos, after, none⟩ :: rest) e h n = zfL P ops Q rest dst (aev P n (.makeInterface t x) e h) e h n := rfl
theorem zgl {dst : Option Tmp} {ty : TypeId} {pos : String} {after : Array Edge} {j : Nat} {want : Bool} {t : TypeId} {x : Operand} : zbk P ops Q (⟨dst, .makeInterface t x, ty, pos, after, some (j, want)⟩ :: rest) e h n = zf0 P ops Q rest dst (.makeInterface t x) ((zaD ops j).bind fun t => zaG (e t) want) e h n := zaO rfl
theorem zsy {dst : Option Tmp} {ty : TypeId} {pos : String} {after : Array Edge} {x : Operand} : zbk P ops Q (⟨dst, .panic x, ty, pos, after, none⟩ :: rest) e h n = zfL P ops Q rest dst (aev P n (.panic x) e h) e h n := rfl
theorem zpK {dst : Option Tmp} {ty : TypeId} {pos : String} {after : Array Edge} {j : Nat} {want : Bool} {x : Operand} : zbk P ops Q (⟨dst, .panic x, ty, pos, after, some (j, want)⟩ :: rest) e h n = zf0 P ops Q rest dst (.panic x) ((zaD ops j).bind fun t => zaG (e t) want) e h n := zaO rfl
theorem znz {dst : Option Tmp} {ty : TypeId} {pos : String} {after : Array Edge} {b : Builtin} {args : Array Operand} {ats : Array TypeId} : zbk P ops Q (⟨dst, .call ⟨.builtin b, args, ats⟩, ty, pos, after, none⟩ :: rest) e h n = zfL P ops Q rest dst (aev P n (.call ⟨.builtin b, args, ats⟩) e h) e h n := rfl
theorem zmh {dst : Option Tmp} {ty : TypeId} {pos : String} {after : Array Edge} {j : Nat} {want : Bool} {b : Builtin} {args : Array Operand} {ats : Array TypeId} : zbk P ops Q (⟨dst, .call ⟨.builtin b, args, ats⟩, ty, pos, after, some (j, want)⟩ :: rest) e h n = zf0 P ops Q rest dst (.call ⟨.builtin b, args, ats⟩) ((zaD ops j).bind fun t => zaG (e t) want) e h n := zaO rfl
theorem aRes_0 {d : Tmp} {c : Prop} {x : AV} : zfL P ops Q rest (some d) ⟨c, x, [], 0⟩ e h n = VC c (zgm P ops Q rest (upd e d x) h n) := rfl
theorem zzf {c : Prop} {x : AV} : zfL P ops Q rest none ⟨c, x, [], 0⟩ e h n = VC c (zgm P ops Q rest e h n) := rfl
theorem aRes_1 {d : Tmp} {c : Prop} {x : AV} {o : Nat} {y : Option zbq} {al : Nat} : zfL P ops Q rest (some d) ⟨c, x, [(o, y)], al⟩ e h n = VC c (zgm P ops Q rest (upd e d x) (upd h o y) (n + al)) := rfl
theorem zzg {c : Prop} {x : AV} {o : Nat} {y : Option zbq} {al : Nat} : zfL P ops Q rest none ⟨c, x, [(o, y)], al⟩ e h n = VC c (zgm P ops Q rest e (upd h o y) (n + al)) := rfl
theorem zzb {d : Tmp} {g : Bool} {c : Prop} {x : AV} : zgk P ops Q rest (some d) g ⟨c, x, [], 0⟩ e h n = VC (g = true → c) (zgm P ops Q rest (upd e d (.gd g x)) h n) := by
 cases g <;> simp [zgk, put, VC, zgm, gW, gN, zal]
theorem zzd {d : Tmp} {c : Prop} {x : AV} {o : Nat} {y : Option zbq} {al : Nat} : zgk P ops Q rest (some d) true ⟨c, x, [(o, y)], al⟩ e h n = VC c (zgm P ops Q rest (upd e d (.gd true x)) (upd h o y) (n + al)) := by
 simp [zgk, put, VC, zgm, gW, gN, zal]
theorem zwY {c : Prop} {x : AV} {o : Nat} {y : Option zbq} {al : Nat} : zgk P ops Q rest none true ⟨c, x, [(o, y)], al⟩ e h n = VC c (zgm P ops Q rest e (upd h o y) (n + al)) := by
 simp [zgk, put, VC, zgm, gW, gN, zal]
theorem zzc {d : Tmp} {r : Res} : zgk P ops Q rest (some d) false r e h n = zbk P ops Q rest (upd e d (.gd false r.val)) h n := by
 simp [zgk, put, VC, gW, gN, zal]
theorem zwX {r : Res} : zgk P ops Q rest none false r e h n = zbk P ops Q rest e h n := by
 simp [zgk, put, VC, gW, gN, zal]
theorem zt8 {dst : Option Tmp} {op : Op} {g : Bool} : zf0 P ops Q rest dst op (some g) e h n = (VQ (∀ t ∈ gT op, okG g (e t)) (zgk P ops Q rest dst g (aev P n op (gE op e) h) e h n)) := rfl
theorem zwV {dst : Option Tmp} {f : FuncId} {first caps args : List AV} :
  zpu P ops Q rest dst (.fn (.func f) first caps) args e h n = zaa P f (first ++ args ++ caps) h n fun r h' n' => zbk P ops Q rest (put e dst r) h' n' := by
 unfold zpu
 simp only [zf1]
 exact propext ⟨fun h => h.elim id (fun h => (ztS h).elim), .inl⟩
theorem zpv {dst : Option Tmp} {l : Nat} {args : List AV} : zpu P ops Q rest dst (.fn (.yield l) [] []) args e h n = zr8 P ops Q rest dst l args e h n := by
 unfold zpu zr8
 simp only [zf1]
 exact propext ⟨fun h => h.elim False.elim id, .inr⟩
end
theorem zyc (e : Env) (d : Nat) (x : AV) : put e (some d) x = upd e d x := rfl
theorem zyb (e : Env) (x : AV) : put e none x = e := rfl

section congr
variable {P : Program} {n0 : Nat} {Q : zbW} {e e' : Env} {h h' : zar} {n n' : Nat} {ops rest : List Oper}
@[congr] theorem awp_congr {c : Code} (h3 : n = n') : awp P n0 c Q e h n = awp P n0 c Q e h n' := by subst h3; rfl
@[congr] theorem zza {a b : Code} {x x' : AV} (h0 : x = x') : zwW P n0 a b Q x e h n = zwW P n0 a b Q x' e h n := by subst h0; rfl
@[congr] theorem zAm (h3 : n = n') : zbk P ops Q rest e h n = zbk P ops Q rest e h n' := by subst h3; rfl
@[congr] theorem zAk {dst : Option Tmp} {r r' : Res} (h0 : r = r') : zfL P ops Q rest dst r e h n = zfL P ops Q rest dst r' e h n := by subst h0; rfl
@[congr] theorem zze {dst : Option Tmp} {g g' : Bool} {r r' : Res} (hg : g = g') (h0 : r = r') : zgk P ops Q rest dst g r e h n = zgk P ops Q rest dst g' r' e h n := by subst h0 hg; rfl
@[congr] theorem zy9 {dst : Option Tmp} {fv fv' : AV} {args args' : List AV} (h0 : fv = fv') (h1 : args = args') : zpu P ops Q rest dst fv args e h n = zpu P ops Q rest dst fv' args' e h n := by subst h0 h1; rfl
@[congr] theorem zAj {dst : Option Tmp} {op : Op} {g g' : Option Bool} (h0 : g = g') : zf0 P ops Q rest dst op g e h n = zf0 P ops Q rest dst op g' e h n := by subst h0; rfl
@[congr] theorem zys {f : FuncId} {args args' : List AV} {K : zcF} (h1 : args = args') : zaa P f args h n K = zaa P f args' h n K := by subst h1; rfl
@[congr] theorem zyT {B : zbW → Env → zar → Nat → Prop} (h3 : n = n') : zab n0 B Q e h n = zab n0 B Q e h n' := by subst h3; rfl
@[congr] theorem zAi {K : Env → zar → Nat → Prop} {x : Exit} (h3 : n = n') : ztU K Q x e h n = ztU K Q x e h n' := by subst h3; rfl
@[congr] theorem zyu {x : Exit} (h3 : n = n') : zgJ Q x e h n = zgJ Q x e h n' := by subst h3; rfl
@[congr] theorem zyt {id : Nat} {x : Exit} (h3 : n = n') : zfb id Q x e h n = zfb id Q x e h n' := by subst h3; rfl
end congr

theorem zyX {n : Nat} : Bel n .top = True := eq_true .top
theorem zwJ {n : Nat} {x : Value} : Bel n (.v x) = True := eq_true (.v x)
theorem zyV {n : Nat} {cs : List AV} : Bel n (.agg cs) = ∀ c ∈ cs, Bel n c := propext ⟨fun h => by cases h; assumption, .agg⟩
theorem zlY {n : Nat} {cs : List AV} : Bel n (.tup cs) = ∀ c ∈ cs, Bel n c := propext ⟨fun h => by cases h; assumption, .tup⟩
theorem zcc {n sz : Nat} {rows : List (List AV)} : Bel n (.lst sz rows) = ∀ r ∈ rows, ∀ c ∈ r, Bel n c := propext ⟨fun h => by cases h; assumption, .lst⟩
theorem Bel_fp {n : Nat} {cs : List AV} : Bel n (.fp cs) = ∀ c ∈ cs, Bel n c := propext ⟨fun h => by cases h; assumption, .fp⟩
theorem zyW {n o g sz i off : Nat} : Bel n (.ref o g sz i off) = (o < n) := propext ⟨fun h => by cases h; assumption, .ref⟩
theorem Bel_sl {n o g sz i len : Nat} : Bel n (.sl o g sz i len) = (o < n) := propext ⟨fun h => by cases h; assumption, .sl⟩
theorem Bel_fn {n : Nat} {f : Fn} {a b : List AV} : Bel n (.fn f a b) = ((∀ c ∈ a, Bel n c) ∧ ∀ c ∈ b, Bel n c) := propext ⟨fun h => by cases h; exact ⟨by assumption, by assumption⟩, fun h => .fn h.1 h.2⟩
theorem Bel_mp {n o : Nat} : Bel n (.mp o) = (o < n) := propext ⟨fun h => by cases h; assumption, .mp⟩
theorem zqS {n : Nat} {g : Bool} {x : AV} : Bel n (.gd g x) = Bel n x := propext ⟨fun h => by cases h; assumption, .gd⟩

theorem zx7 {g : Bool} {x : AV} : okG g (.gd g x) = True := eq_true (fun h => h)
theorem okG_gd {g g' : Bool} {x : AV} : okG g (.gd g' x) = (g = true → g' = true) := rfl
theorem okG_v {g : Bool} {x : Value} : okG g (.v x) = True := rfl
theorem zz5 {o g sz i off : Nat} {b : Bool} : okG b (.ref o g sz i off) = True := rfl
theorem okG_sl {o g sz i len : Nat} {b : Bool} : okG b (.sl o g sz i len) = True := rfl
theorem zz4 {b : Bool} {sz : Nat} {rows : List (List AV)} : okG b (.lst sz rows) = True := rfl
theorem okG_fp {b : Bool} {cs : List AV} : okG b (.fp cs) = True := rfl
theorem zz3 {b : Bool} {cs : List AV} : okG b (.agg cs) = True := rfl
theorem zz7 {b : Bool} {cs : List AV} : okG b (.tup cs) = True := rfl
theorem okG_fn {b : Bool} {f : Fn} {x y : List AV} : okG b (.fn f x y) = True := rfl
theorem zz6 {b : Bool} : okG b .top = True := rfl
attribute [go_sem high] zx7
attribute [go_sem] zy7 zt9 zr7 zy8 zwU zaP ziP zbl zxs zxr zzz zxf zuA zsC zzk zxa zr6 zuz zxd zxc zzj zpf zt3 zwO zl4 zo9 zrV zuB zl6 zpd zrY zwQ zps
 znC zmk zkK zja zpO znx zpP zny zfm zcE zdU zyL zqe zeb zg6
 zw7 zuu zuw zsq zpN znw zux zsr zst zpF zw6 zut zsv zpH zjb ziu zuv zsp zsA zpM zsu zpG zuy zss zmm zkG znA zmi zml zkF zkJ zi9 zsz zpL zkH zi7 zsw zpI zkI zi8 zsx zpJ znB zmj zgP zgl zsy zpK znz zmh aRes_0 zzf aRes_1 zzg zzb zzd zwY zzc zwX zt8 zwV zyc zyb aev ev ofV zwy zn6 pB evEq zn1 zvf zve zh7 zjy zfk eqS zdW gE gT zvc evUn zh6 zgX zc8 zb1 zjv zb2 zjw zn4 zzQ
 zal unG okG_gd okG_v zz5 okG_sl zz4 okG_fp zz3 zz7 okG_fn zz6 zcv Op.operands Call.operands zaG zaD AV.cells AV.okCells AV.isCell zcy zat zsX zd6 zmy zvw zen zvd zxM zcS zdu zdG zfn zhw zcN zcr zcT zeK setMany zfx zm3 zyR zq4
 zyX zwJ zyV zlY zcc Bel_fp zyW Bel_sl Bel_fn Bel_mp zqS

section draw
variable {P : Program} {n0 : Nat} {Q : zbW} {e e' : Env} {h h' : zar} {n i i' : Nat} {ops rest : List Oper} {acc : List ze1} {K : Env → zar → List ze1 → Prop}
def zkt (Q : zbW) (ops : List Oper) (n : Nat) (e : Env) (h : zar) (recs : List ze1) : Prop := zjU ops recs = true ∧ ((zvX recs = true ∧ Q .normal e h n) ∨ Q .normal e h (n + 16 * ops.length))
def adr (P : Program) (n : Nat) (ops : List Oper) (Q : zbW) (m : Nat) (i : Nat) (rest : List Oper) (e : Env) (h : zar) (acc : List ze1) : Prop := zc5 P n ops (zkt Q ops m) i rest e h acc
def znp (P : Program) (n : Nat) (ops : List Oper) (Q : zbW) (m : Nat) (i : Nat) (rest : List Oper) (e : Env) (h : zar) (acc : List ze1) : Prop := zc5 P n ops (zkt Q ops m) i rest e h acc
variable {m : Nat}
def znq (P : Program) (n : Nat) (ops : List Oper) (Q : zbW) (e : Env) (h : zar) : Prop := ∃ h', Frz h h' ∧ zsk P ops Q e h' n
theorem zq1 (hk : adr P n ops Q (n + ops.length) 0 ops e h []) : zsk P ops Q e h n := by
 refine ⟨ops.length, ?_⟩
 rw [List.take_length, List.drop_length]
 exact hk
theorem wZ (hk : adr P n ops Q (n + ops.length) 0 ops e h []) : znq P n ops Q e h := ⟨h, .refl h, zq1 hk⟩
theorem znq.frz (h' : zar) (hf : Frz h h') (hk : adr P n ops Q (n + ops.length) 0 ops e h' []) : znq P n ops Q e h := ⟨h', hf, zq1 hk⟩
def QTail (P : Program) (ops : List Oper) (Q : zbW) (k : Nat) : zbW
 | .normal, e, h, n => zbk P ops Q (ops.drop k) e h n
 | _, _, _, _ => False
theorem zne {k : Nat} : QTail P ops Q k .normal e h n = zbk P ops Q (ops.drop k) e h n := rfl
theorem znq.split (k : Nat) (hk : adr P n ops (QTail P ops Q k) (n + ops.length) 0 (ops.take k) e h []) : znq P n ops Q e h := ⟨h, .refl h, k, hk⟩
attribute [go_sem] zne
theorem zxb (id : Nat) (ops : List Oper) : awp P n0 (.region id ops.toArray true) Q e h n = znq P n ops Q e h := rfl
def ze8 (P : Program) (n : Nat) (ops : List Oper) (Q : zbW) (m : Nat) (i : Nat) (rest : List Oper) (dst : Option Tmp) (rd : List Nat) (r : Res) (e : Env) (h : zar) (acc : List ze1) : Prop :=
 VC r.cond (adr P n ops Q m (i + 1) rest (put e dst r.val) (zal r.wr h) (acc ++ [(rd, r.wr.map (·.1))]))
def zgp (P : Program) (n : Nat) (ops : List Oper) (Q : zbW) (m : Nat) (i : Nat) (rest : List Oper) (dst : Option Tmp) (g : Bool) (rd : List Nat) (r : Res) (e : Env) (h : zar) (acc : List ze1) : Prop :=
 VC (g = true → r.cond) (adr P n ops Q m (i + 1) rest (put e dst (.gd g r.val)) (zal (gW g r.wr) h) (acc ++ [(rd, (gW g r.wr).map (·.1))]))
def zf2 (P : Program) (n : Nat) (ops : List Oper) (Q : zbW) (m : Nat) (i : Nat) (rest : List Oper) (dst : Option Tmp) (op : Op) (g : Option Bool) (e : Env) (h : zar) (acc : List ze1) : Prop :=
 match g with
 | none => False
 | some g => VQ (∀ t ∈ gT op, okG g (e t)) (zgp P n ops Q m i rest dst g ((op.operands.toList.map (ev (gE op e))).flatMap AV.ids) (aev P (n + i) op (gE op e) h) e h acc)
def zav (P : Program) (n : Nat) (ops : List Oper) (Q : zbW) (m : Nat) (i : Nat) (rest : List Oper) (dst : Option Tmp) (fv : AV) (args : List AV) (e : Env) (h : zar) (acc : List ze1) : Prop :=
 ∃ r S wr, zf7 P (n + ops.length + 16 * i) fv args h r S wr ∧ adr P n ops Q m (i + 1) rest (put e dst r) (zal wr h) (acc ++ [(S, wr.map (·.1))])
theorem zzi : adr P n ops Q m i [] e h acc = zkt Q ops m e h acc := rfl
theorem zaW {dst : Option Tmp} {op : Op} {ty : TypeId} {pos : String} {after : Array Edge} (hc : zlu op = false) :
  adr P n ops Q m i (⟨dst, op, ty, pos, after, none⟩ :: rest) e h acc = ze8 P n ops Q m i rest dst ((op.operands.toList.map (ev e)).flatMap AV.ids) (aev P (n + i) op e h) e h acc := by
 unfold adr ze8
 cases op with
 | call c =>
  obtain ⟨callee, args, ats⟩ := c
  cases callee with
  | value f => simp [zlu] at hc
  | _ => rfl
 | _ => rfl
theorem zw0 {dst : Option Tmp} {f : Operand} {args : Array Operand} {ats : Array TypeId} {ty : TypeId} {pos : String} {after : Array Edge} :
  adr P n ops Q m i (⟨dst, .call ⟨.value f, args, ats⟩, ty, pos, after, none⟩ :: rest) e h acc = zav P n ops Q m i rest dst (ev e f) (args.toList.map (ev e)) e h acc := rfl
theorem zaX {dst : Option Tmp} {op : Op} {ty : TypeId} {pos : String} {after : Array Edge} {j : Nat} {want : Bool} (hc : zlu op = false) :
  adr P n ops Q m i (⟨dst, op, ty, pos, after, some (j, want)⟩ :: rest) e h acc = zf2 P n ops Q m i rest dst op ((zaD ops j).bind fun t => zaG (e t) want) e h acc := by
 unfold adr zf2 zgp
 cases op with
 | call c =>
  obtain ⟨callee, args, ats⟩ := c
  cases callee with
  | value f => simp [zlu] at hc
  | _ => rfl
 | _ => rfl
theorem VC_adr : VC True (znp P n ops Q m i rest e h acc) = adr P n ops Q m i rest e h acc := by simp [VC, znp, adr]
theorem zAT {a : Prop} (h1 : a) (h2 : a → adr P n ops Q m i rest e h acc) : VC a (znp P n ops Q m i rest e h acc) := ⟨h1, h2 h1⟩
theorem zkt.mk {recs : List ze1} (h1 : (zjU ops recs && zvX recs) = true) (h2 : Q .normal e h n) : zkt Q ops n e h recs := by
 rw [Bool.and_eq_true] at h1
 exact ⟨h1.1, .inl ⟨h1.2, h2⟩⟩
theorem zAU {recs : List ze1} (h1 : zjU ops recs = true) (h2 : Q .normal e h (n + 16 * ops.length)) : zkt Q ops n e h recs := ⟨h1, .inr h2⟩
theorem wL {a : Prop} (h2 : a → zbk P ops Q rest e h n) (h1 : a := by first | omega | exact True.intro | rfl) : VC a (zgm P ops Q rest e h n) := ⟨h1, h2 h1⟩
theorem wD {a : Prop} (h2 : a → adr P n ops Q m i rest e h acc) (h1 : a := by first | omega | exact True.intro | (intros; omega)) : VC a (znp P n ops Q m i rest e h acc) := ⟨h1, h2 h1⟩
theorem wE {recs : List ze1} (h2 : Q .normal e h n) (h1 : (zjU ops recs && zvX recs) = true := by kernel_rfl) : zkt Q ops n e h recs := zkt.mk h1 h2
theorem dRes_0 {d : Tmp} {rd : List Nat} {c : Prop} {x : AV} : ze8 P n ops Q m i rest (some d) rd ⟨c, x, [], 0⟩ e h acc = VC c (znp P n ops Q m (i + 1) rest (upd e d x) h (acc ++ [(rd, [])])) := rfl
theorem zzH {rd : List Nat} {c : Prop} {x : AV} : ze8 P n ops Q m i rest none rd ⟨c, x, [], 0⟩ e h acc = VC c (znp P n ops Q m (i + 1) rest e h (acc ++ [(rd, [])])) := rfl
theorem dRes_1 {d : Tmp} {rd : List Nat} {c : Prop} {x : AV} {o : Nat} {y : Option zbq} {al : Nat} : ze8 P n ops Q m i rest (some d) rd ⟨c, x, [(o, y)], al⟩ e h acc = VC c (znp P n ops Q m (i + 1) rest (upd e d x) (upd h o y) (acc ++ [(rd, [o])])) := rfl
theorem zzI {rd : List Nat} {c : Prop} {x : AV} {o : Nat} {y : Option zbq} {al : Nat} : ze8 P n ops Q m i rest none rd ⟨c, x, [(o, y)], al⟩ e h acc = VC c (znp P n ops Q m (i + 1) rest e (upd h o y) (acc ++ [(rd, [o])])) := rfl
theorem zzD {d : Tmp} {g : Bool} {rd : List Nat} {c : Prop} {x : AV} : zgp P n ops Q m i rest (some d) g rd ⟨c, x, [], 0⟩ e h acc = VC (g = true → c) (znp P n ops Q m (i + 1) rest (upd e d (.gd g x)) h (acc ++ [(rd, [])])) := by
 cases g <;> simp [zgp, put, VC, adr, znp, gW, zal]
theorem zzF {d : Tmp} {rd : List Nat} {c : Prop} {x : AV} {o : Nat} {y : Option zbq} {al : Nat} : zgp P n ops Q m i rest (some d) true rd ⟨c, x, [(o, y)], al⟩ e h acc = VC c (znp P n ops Q m (i + 1) rest (upd e d (.gd true x)) (upd h o y) (acc ++ [(rd, [o])])) := by
 simp [zgp, put, VC, adr, znp, gW, zal]
theorem zxy {rd : List Nat} {c : Prop} {x : AV} {o : Nat} {y : Option zbq} {al : Nat} : zgp P n ops Q m i rest none true rd ⟨c, x, [(o, y)], al⟩ e h acc = VC c (znp P n ops Q m (i + 1) rest e (upd h o y) (acc ++ [(rd, [o])])) := by
 simp [zgp, put, VC, adr, znp, gW, zal]
theorem zzE {d : Tmp} {rd : List Nat} {r : Res} : zgp P n ops Q m i rest (some d) false rd r e h acc = adr P n ops Q m (i + 1) rest (upd e d (.gd false r.val)) h (acc ++ [(rd, [])]) := by
 simp [zgp, put, VC, adr, gW, zal]
theorem zxx {rd : List Nat} {r : Res} : zgp P n ops Q m i rest none false rd r e h acc = adr P n ops Q m (i + 1) rest e h (acc ++ [(rd, [])]) := by
 simp [zgp, put, VC, adr, gW, zal]
theorem zu1 {dst : Option Tmp} {op : Op} {g : Bool} : zf2 P n ops Q m i rest dst op (some g) e h acc = VQ (∀ t ∈ gT op, okG g (e t)) (zgp P n ops Q m i rest dst g ((op.operands.toList.map (ev (gE op e))).flatMap AV.ids) (aev P (n + i) op (gE op e) h) e h acc) := rfl
theorem zA5 {dst : Option Tmp} {f : FuncId} {first caps args : List AV} (args' : List AV) (r : AV) (S : List Nat) (hp : zaL P f args' r) (hfl : zqT r) (hle : ∀ h₁ : zar, (∀ o ∈ S, h o = h₁ o) → zam h₁ noH 0 (first ++ args ++ caps) args') (hb : ∀ c ∈ args', Bel 0 c)
  (hk : adr P n ops Q m (i + 1) rest (put e dst r) h (acc ++ [(S, [])])) : zav P n ops Q m i rest dst (.fn (.func f) first caps) args e h acc := ⟨r, S, [], .inl ⟨rfl, f, first, caps, args', rfl, hb, hp, .inl ⟨hle, hfl⟩⟩, hk⟩
theorem zAu {dst : Option Tmp} {f : FuncId} {first caps args : List AV} {r : AV} (hp : zaL P f (first ++ args ++ caps) r) (hb : ∀ c ∈ first ++ args ++ caps, Bel 0 c)
  (hk : adr P n ops Q m (i + 1) rest (put e dst r) h (acc ++ [([], [])])) : zav P n ops Q m i rest dst (.fn (.func f) first caps) args e h acc := ⟨r, [], [], .inl ⟨rfl, f, first, caps, _, rfl, hb, hp, .inr rfl⟩, hk⟩
theorem zav.frz {dst : Option Tmp} {f : FuncId} {first caps args : List AV} (args' : List AV) (r : AV) (S : List Nat) (wr : List (Nat × Option zbq)) (hp : zaL P f args' r)
  (hw : ∀ p ∈ wr, p.1 ∈ S ∧ ∃ g sz rs, p.2 = some (.rows false g sz rs) ∧ h p.1 = some (.rows true g sz rs)) (hle : ∀ h₁ : zar, (∀ o ∈ S, h o = h₁ o) → zam h₁ (zal wr h₁) 0 (first ++ args ++ caps) args') (hb : ∀ c ∈ args', Bel 0 c)
  (hk : adr P n ops Q m (i + 1) rest (put e dst r) (zal wr h) (acc ++ [(S, wr.map (·.1))])) : zav P n ops Q m i rest dst (.fn (.func f) first caps) args e h acc := ⟨r, S, wr, .inr (.inl ⟨f, first, caps, args', rfl, hb, hp, hw, hle⟩), hk⟩
@[congr] theorem adr_congr (h1 : i = i') : adr P n ops Q m i rest e h acc = adr P n ops Q m i' rest e h acc := by subst h1; rfl
@[congr] theorem zAl (h1 : i = i') : znp P n ops Q m i rest e h acc = znp P n ops Q m i' rest e h acc := by subst h1; rfl
@[congr] theorem zAp {dst : Option Tmp} {rd rd' : List Nat} {r r' : Res} (h1 : i = i') (h2 : rd = rd') (h0 : r = r') : ze8 P n ops Q m i rest dst rd r e h acc = ze8 P n ops Q m i' rest dst rd' r' e h acc := by subst h0 h1 h2; rfl
@[congr] theorem zzG {dst : Option Tmp} {g g' : Bool} {rd rd' : List Nat} {r r' : Res} (h1 : i = i') (hg : g = g') (h2 : rd = rd') (h0 : r = r') : zgp P n ops Q m i rest dst g rd r e h acc = zgp P n ops Q m i' rest dst g' rd' r' e h acc := by subst h0 h1 h2 hg; rfl
@[congr] theorem zAo {dst : Option Tmp} {op : Op} {g g' : Option Bool} (h1 : i = i') (h0 : g = g') : zf2 P n ops Q m i rest dst op g e h acc = zf2 P n ops Q m i' rest dst op g' e h acc := by subst h0 h1; rfl
@[congr] theorem zzC {dst : Option Tmp} {fv fv' : AV} {args args' : List AV} (h1 : i = i') (h0 : fv = fv') (h2 : args = args') : zav P n ops Q m i rest dst fv args e h acc = zav P n ops Q m i' rest dst fv' args' e h acc := by subst h0 h1 h2; rfl
@[congr] theorem zAn {acc acc' : List ze1} {n' : Nat} (h1 : n = n') (h0 : acc = acc') : zkt Q ops n e h acc = zkt Q ops n' e h acc' := by subst h0 h1; rfl
end draw
section drawEq
variable {P : Program} {Q : zbW} {e : Env} {h : zar} {n m i : Nat} {ops rest : List Oper} {acc : List ze1} {dst : Option Tmp} {ty : TypeId} {pos : String} {after : Array Edge} {j : Nat} {want : Bool}
theorem zw2 {x : Operand} : adr P n ops Q m i (⟨dst, .move x, ty, pos, after, none⟩ :: rest) e h acc = ze8 P n ops Q m i rest dst (((.move x : Op).operands.toList.map (ev e)).flatMap AV.ids) (aev P (n + i) (.move x) e h) e h acc := zaW rfl
theorem zud {x : Operand} : adr P n ops Q m i (⟨dst, .move x, ty, pos, after, some (j, want)⟩ :: rest) e h acc = zf2 P n ops Q m i rest dst (.move x) ((zaD ops j).bind fun t => zaG (e t) want) e h acc := zaX rfl
theorem zsh {x : Operand} : adr P n ops Q m i (⟨dst, .assign x, ty, pos, after, none⟩ :: rest) e h acc = ze8 P n ops Q m i rest dst (((.assign x : Op).operands.toList.map (ev e)).flatMap AV.ids) (aev P (n + i) (.assign x) e h) e h acc := zaW rfl
theorem zpx {x : Operand} : adr P n ops Q m i (⟨dst, .assign x, ty, pos, after, some (j, want)⟩ :: rest) e h acc = zf2 P n ops Q m i rest dst (.assign x) ((zaD ops j).bind fun t => zaG (e t) want) e h acc := zaX rfl
theorem zw3 {c a b : Operand} : adr P n ops Q m i (⟨dst, .pick c a b, ty, pos, after, none⟩ :: rest) e h acc = ze8 P n ops Q m i rest dst (((.pick c a b : Op).operands.toList.map (ev e)).flatMap AV.ids) (aev P (n + i) (.pick c a b) e h) e h acc := zaW rfl
theorem zue {c a b : Operand} : adr P n ops Q m i (⟨dst, .pick c a b, ty, pos, after, some (j, want)⟩ :: rest) e h acc = zf2 P n ops Q m i rest dst (.pick c a b) ((zaD ops j).bind fun t => zaG (e t) want) e h acc := zaX rfl
theorem zug {t : TypeId} : adr P n ops Q m i (⟨dst, .alloc t, ty, pos, after, none⟩ :: rest) e h acc = ze8 P n ops Q m i rest dst (((.alloc t : Op).operands.toList.map (ev e)).flatMap AV.ids) (aev P (n + i) (.alloc t) e h) e h acc := zaW rfl
theorem zr9 {t : TypeId} : adr P n ops Q m i (⟨dst, .alloc t, ty, pos, after, some (j, want)⟩ :: rest) e h acc = zf2 P n ops Q m i rest dst (.alloc t) ((zaD ops j).bind fun t => zaG (e t) want) e h acc := zaX rfl
theorem zzh {t : TypeId} {x : Operand} : adr P n ops Q m i (⟨dst, .box t x, ty, pos, after, none⟩ :: rest) e h acc = ze8 P n ops Q m i rest dst (((.box t x : Op).operands.toList.map (ev e)).flatMap AV.ids) (aev P (n + i) (.box t x) e h) e h acc := zaW rfl
theorem zwZ {t : TypeId} {x : Operand} : adr P n ops Q m i (⟨dst, .box t x, ty, pos, after, some (j, want)⟩ :: rest) e h acc = zf2 P n ops Q m i rest dst (.box t x) ((zaD ops j).bind fun t => zaG (e t) want) e h acc := zaX rfl
theorem zui {t : TypeId} {ps : Array (Nat × Operand)} : adr P n ops Q m i (⟨dst, .build t ps, ty, pos, after, none⟩ :: rest) e h acc = ze8 P n ops Q m i rest dst (((.build t ps : Op).operands.toList.map (ev e)).flatMap AV.ids) (aev P (n + i) (.build t ps) e h) e h acc := zaW rfl
theorem zsb {t : TypeId} {ps : Array (Nat × Operand)} : adr P n ops Q m i (⟨dst, .build t ps, ty, pos, after, some (j, want)⟩ :: rest) e h acc = zf2 P n ops Q m i rest dst (.build t ps) ((zaD ops j).bind fun t => zaG (e t) want) e h acc := zaX rfl
theorem zkE {t : TypeId} {k : Nat} {ps : Array (Nat × Operand)} : adr P n ops Q m i (⟨dst, .buildSlice t k ps, ty, pos, after, none⟩ :: rest) e h acc = ze8 P n ops Q m i rest dst (((.buildSlice t k ps : Op).operands.toList.map (ev e)).flatMap AV.ids) (aev P (n + i) (.buildSlice t k ps) e h) e h acc := zaW rfl
theorem zi6 {t : TypeId} {k : Nat} {ps : Array (Nat × Operand)} : adr P n ops Q m i (⟨dst, .buildSlice t k ps, ty, pos, after, some (j, want)⟩ :: rest) e h acc = zf2 P n ops Q m i rest dst (.buildSlice t k ps) ((zaD ops j).bind fun t => zaG (e t) want) e h acc := zaX rfl
theorem zw1 {t : TypeId} {x : Operand} : adr P n ops Q m i (⟨dst, .load t x, ty, pos, after, none⟩ :: rest) e h acc = ze8 P n ops Q m i rest dst (((.load t x : Op).operands.toList.map (ev e)).flatMap AV.ids) (aev P (n + i) (.load t x) e h) e h acc := zaW rfl
theorem zuc {t : TypeId} {x : Operand} : adr P n ops Q m i (⟨dst, .load t x, ty, pos, after, some (j, want)⟩ :: rest) e h acc = zf2 P n ops Q m i rest dst (.load t x) ((zaD ops j).bind fun t => zaG (e t) want) e h acc := zaX rfl
theorem zun {t : TypeId} {x y : Operand} : adr P n ops Q m i (⟨dst, .store t x y, ty, pos, after, none⟩ :: rest) e h acc = ze8 P n ops Q m i rest dst (((.store t x y : Op).operands.toList.map (ev e)).flatMap AV.ids) (aev P (n + i) (.store t x y) e h) e h acc := zaW rfl
theorem zsg {t : TypeId} {x y : Operand} : adr P n ops Q m i (⟨dst, .store t x y, ty, pos, after, some (j, want)⟩ :: rest) e h acc = zf2 P n ops Q m i rest dst (.store t x y) ((zaD ops j).bind fun t => zaG (e t) want) e h acc := zaX rfl
theorem zuh {o : BinOp} {t : TypeId} {x y : Operand} {t' : TypeId} : adr P n ops Q m i (⟨dst, .binOp o t x y t', ty, pos, after, none⟩ :: rest) e h acc = ze8 P n ops Q m i rest dst (((.binOp o t x y t' : Op).operands.toList.map (ev e)).flatMap AV.ids) (aev P (n + i) (.binOp o t x y t') e h) e h acc := zaW rfl
theorem zsa {o : BinOp} {t : TypeId} {x y : Operand} {t' : TypeId} : adr P n ops Q m i (⟨dst, .binOp o t x y t', ty, pos, after, some (j, want)⟩ :: rest) e h acc = zf2 P n ops Q m i rest dst (.binOp o t x y t') ((zaD ops j).bind fun t => zaG (e t) want) e h acc := zaX rfl
theorem zw4 {o : UnOp} {t : TypeId} {x : Operand} : adr P n ops Q m i (⟨dst, .unOp o t x, ty, pos, after, none⟩ :: rest) e h acc = ze8 P n ops Q m i rest dst (((.unOp o t x : Op).operands.toList.map (ev e)).flatMap AV.ids) (aev P (n + i) (.unOp o t x) e h) e h acc := zaW rfl
theorem zns {x : Operand} : adr P n ops Q m i (⟨dst, .nilCheck x, ty, pos, after, none⟩ :: rest) e h acc = ze8 P n ops Q m i rest dst (((.nilCheck x : Op).operands.toList.map (ev e)).flatMap AV.ids) (aev P (n + i) (.nilCheck x) e h) e h acc := zaW rfl
theorem zuf {o : UnOp} {t : TypeId} {x : Operand} : adr P n ops Q m i (⟨dst, .unOp o t x, ty, pos, after, some (j, want)⟩ :: rest) e h acc = zf2 P n ops Q m i rest dst (.unOp o t x) ((zaD ops j).bind fun t => zaG (e t) want) e h acc := zaX rfl
theorem zmc {x : Operand} : adr P n ops Q m i (⟨dst, .nilCheck x, ty, pos, after, some (j, want)⟩ :: rest) e h acc = zf2 P n ops Q m i rest dst (.nilCheck x) ((zaD ops j).bind fun t => zaG (e t) want) e h acc := zaX rfl
theorem zpB {s d : TypeId} {x : Operand} : adr P n ops Q m i (⟨dst, .convert s d x, ty, pos, after, none⟩ :: rest) e h acc = ze8 P n ops Q m i rest dst (((.convert s d x : Op).operands.toList.map (ev e)).flatMap AV.ids) (aev P (n + i) (.convert s d x) e h) e h acc := zaW rfl
theorem znm {s d : TypeId} {x : Operand} : adr P n ops Q m i (⟨dst, .convert s d x, ty, pos, after, some (j, want)⟩ :: rest) e h acc = zf2 P n ops Q m i rest dst (.convert s d x) ((zaD ops j).bind fun t => zaG (e t) want) e h acc := zaX rfl
theorem zmd {t : TypeId} {x : Operand} {f : Nat} : adr P n ops Q m i (⟨dst, .fieldAddr t x f, ty, pos, after, none⟩ :: rest) e h acc = ze8 P n ops Q m i rest dst (((.fieldAddr t x f : Op).operands.toList.map (ev e)).flatMap AV.ids) (aev P (n + i) (.fieldAddr t x f) e h) e h acc := zaW rfl
theorem zkA {t : TypeId} {x : Operand} {f : Nat} : adr P n ops Q m i (⟨dst, .fieldAddr t x f, ty, pos, after, some (j, want)⟩ :: rest) e h acc = zf2 P n ops Q m i rest dst (.fieldAddr t x f) ((zaD ops j).bind fun t => zaG (e t) want) e h acc := zaX rfl
theorem zuj {t : TypeId} {x : Operand} {f : Nat} : adr P n ops Q m i (⟨dst, .field t x f, ty, pos, after, none⟩ :: rest) e h acc = ze8 P n ops Q m i rest dst (((.field t x f : Op).operands.toList.map (ev e)).flatMap AV.ids) (aev P (n + i) (.field t x f) e h) e h acc := zaW rfl
theorem zsc {t : TypeId} {x : Operand} {f : Nat} : adr P n ops Q m i (⟨dst, .field t x f, ty, pos, after, some (j, want)⟩ :: rest) e h acc = zf2 P n ops Q m i rest dst (.field t x f) ((zaD ops j).bind fun t => zaG (e t) want) e h acc := zaX rfl
theorem zme {t : TypeId} {x ix : Operand} : adr P n ops Q m i (⟨dst, .indexAddr t x ix, ty, pos, after, none⟩ :: rest) e h acc = ze8 P n ops Q m i rest dst (((.indexAddr t x ix : Op).operands.toList.map (ev e)).flatMap AV.ids) (aev P (n + i) (.indexAddr t x ix) e h) e h acc := zaW rfl
theorem zkB {t : TypeId} {x ix : Operand} : adr P n ops Q m i (⟨dst, .indexAddr t x ix, ty, pos, after, some (j, want)⟩ :: rest) e h acc = zf2 P n ops Q m i rest dst (.indexAddr t x ix) ((zaD ops j).bind fun t => zaG (e t) want) e h acc := zaX rfl
theorem zuk {t : TypeId} {x ix : Operand} : adr P n ops Q m i (⟨dst, .index t x ix, ty, pos, after, none⟩ :: rest) e h acc = ze8 P n ops Q m i rest dst (((.index t x ix : Op).operands.toList.map (ev e)).flatMap AV.ids) (aev P (n + i) (.index t x ix) e h) e h acc := zaW rfl
theorem zsd {t : TypeId} {x ix : Operand} : adr P n ops Q m i (⟨dst, .index t x ix, ty, pos, after, some (j, want)⟩ :: rest) e h acc = zf2 P n ops Q m i rest dst (.index t x ix) ((zaD ops j).bind fun t => zaG (e t) want) e h acc := zaX rfl
theorem zpC {x : Operand} {fi : Nat} : adr P n ops Q m i (⟨dst, .extract x fi, ty, pos, after, none⟩ :: rest) e h acc = ze8 P n ops Q m i rest dst (((.extract x fi : Op).operands.toList.map (ev e)).flatMap AV.ids) (aev P (n + i) (.extract x fi) e h) e h acc := zaW rfl
theorem znn {x : Operand} {fi : Nat} : adr P n ops Q m i (⟨dst, .extract x fi, ty, pos, after, some (j, want)⟩ :: rest) e h acc = zf2 P n ops Q m i rest dst (.extract x fi) ((zaD ops j).bind fun t => zaG (e t) want) e h acc := zaX rfl
theorem zpD {t : TypeId} {r : Option Operand} : adr P n ops Q m i (⟨dst, .makeMap t r, ty, pos, after, none⟩ :: rest) e h acc = ze8 P n ops Q m i rest dst (((.makeMap t r : Op).operands.toList.map (ev e)).flatMap AV.ids) (aev P (n + i) (.makeMap t r) e h) e h acc := zaW rfl
theorem zno {t : TypeId} {r : Option Operand} : adr P n ops Q m i (⟨dst, .makeMap t r, ty, pos, after, some (j, want)⟩ :: rest) e h acc = zf2 P n ops Q m i rest dst (.makeMap t r) ((zaD ops j).bind fun t => zaG (e t) want) e h acc := zaX rfl
theorem zmg {t : TypeId} {m' k x : Operand} : adr P n ops Q m i (⟨dst, .mapUpdate t m' k x, ty, pos, after, none⟩ :: rest) e h acc = ze8 P n ops Q m i rest dst (((.mapUpdate t m' k x : Op).operands.toList.map (ev e)).flatMap AV.ids) (aev P (n + i) (.mapUpdate t m' k x) e h) e h acc := zaW rfl
theorem zkD {t : TypeId} {m' k x : Operand} : adr P n ops Q m i (⟨dst, .mapUpdate t m' k x, ty, pos, after, some (j, want)⟩ :: rest) e h acc = zf2 P n ops Q m i rest dst (.mapUpdate t m' k x) ((zaD ops j).bind fun t => zaG (e t) want) e h acc := zaX rfl
theorem zsi {t : TypeId} {m' k x : Operand} : adr P n ops Q m i (⟨dst, .insert t m' k x, ty, pos, after, none⟩ :: rest) e h acc = ze8 P n ops Q m i rest dst (((.insert t m' k x : Op).operands.toList.map (ev e)).flatMap AV.ids) (aev P (n + i) (.insert t m' k x) e h) e h acc := zaW rfl
theorem zpy {t : TypeId} {m' k x : Operand} : adr P n ops Q m i (⟨dst, .insert t m' k x, ty, pos, after, some (j, want)⟩ :: rest) e h acc = zf2 P n ops Q m i rest dst (.insert t m' k x) ((zaD ops j).bind fun t => zaG (e t) want) e h acc := zaX rfl
theorem zsj {t : TypeId} {m' k : Operand} {ok : Bool} : adr P n ops Q m i (⟨dst, .lookup t m' k ok, ty, pos, after, none⟩ :: rest) e h acc = ze8 P n ops Q m i rest dst (((.lookup t m' k ok : Op).operands.toList.map (ev e)).flatMap AV.ids) (aev P (n + i) (.lookup t m' k ok) e h) e h acc := zaW rfl
theorem zpz {t : TypeId} {m' k : Operand} {ok : Bool} : adr P n ops Q m i (⟨dst, .lookup t m' k ok, ty, pos, after, some (j, want)⟩ :: rest) e h acc = zf2 P n ops Q m i rest dst (.lookup t m' k ok) ((zaD ops j).bind fun t => zaG (e t) want) e h acc := zaX rfl
theorem zmf {t : TypeId} {l c : Operand} : adr P n ops Q m i (⟨dst, .makeSlice t l c, ty, pos, after, none⟩ :: rest) e h acc = ze8 P n ops Q m i rest dst (((.makeSlice t l c : Op).operands.toList.map (ev e)).flatMap AV.ids) (aev P (n + i) (.makeSlice t l c) e h) e h acc := zaW rfl
theorem zkC {t : TypeId} {l c : Operand} : adr P n ops Q m i (⟨dst, .makeSlice t l c, ty, pos, after, some (j, want)⟩ :: rest) e h acc = zf2 P n ops Q m i rest dst (.makeSlice t l c) ((zaD ops j).bind fun t => zaG (e t) want) e h acc := zaX rfl
theorem zum {t : TypeId} {x : Operand} {lo hi mx : Option Operand} : adr P n ops Q m i (⟨dst, .slice t x lo hi mx, ty, pos, after, none⟩ :: rest) e h acc = ze8 P n ops Q m i rest dst (((.slice t x lo hi mx : Op).operands.toList.map (ev e)).flatMap AV.ids) (aev P (n + i) (.slice t x lo hi mx) e h) e h acc := zaW rfl
theorem zsf {t : TypeId} {x : Operand} {lo hi mx : Option Operand} : adr P n ops Q m i (⟨dst, .slice t x lo hi mx, ty, pos, after, some (j, want)⟩ :: rest) e h acc = zf2 P n ops Q m i rest dst (.slice t x lo hi mx) ((zaD ops j).bind fun t => zaG (e t) want) e h acc := zaX rfl
theorem zho {t : TypeId} {x : Operand} : adr P n ops Q m i (⟨dst, .makeInterface t x, ty, pos, after, none⟩ :: rest) e h acc = ze8 P n ops Q m i rest dst (((.makeInterface t x : Op).operands.toList.map (ev e)).flatMap AV.ids) (aev P (n + i) (.makeInterface t x) e h) e h acc := zaW rfl
theorem zgO {t : TypeId} {x : Operand} : adr P n ops Q m i (⟨dst, .makeInterface t x, ty, pos, after, some (j, want)⟩ :: rest) e h acc = zf2 P n ops Q m i rest dst (.makeInterface t x) ((zaD ops j).bind fun t => zaG (e t) want) e h acc := zaX rfl
theorem zul {x : Operand} : adr P n ops Q m i (⟨dst, .panic x, ty, pos, after, none⟩ :: rest) e h acc = ze8 P n ops Q m i rest dst (((.panic x : Op).operands.toList.map (ev e)).flatMap AV.ids) (aev P (n + i) (.panic x) e h) e h acc := zaW rfl
theorem zse {x : Operand} : adr P n ops Q m i (⟨dst, .panic x, ty, pos, after, some (j, want)⟩ :: rest) e h acc = zf2 P n ops Q m i rest dst (.panic x) ((zaD ops j).bind fun t => zaG (e t) want) e h acc := zaX rfl
theorem zpA {b : Builtin} {args : Array Operand} {ats : Array TypeId} : adr P n ops Q m i (⟨dst, .call ⟨.builtin b, args, ats⟩, ty, pos, after, none⟩ :: rest) e h acc = ze8 P n ops Q m i rest dst (((.call ⟨.builtin b, args, ats⟩ : Op).operands.toList.map (ev e)).flatMap AV.ids) (aev P (n + i) (.call ⟨.builtin b, args, ats⟩) e h) e h acc := zaW rfl
theorem znl {b : Builtin} {args : Array Operand} {ats : Array TypeId} : adr P n ops Q m i (⟨dst, .call ⟨.builtin b, args, ats⟩, ty, pos, after, some (j, want)⟩ :: rest) e h acc = zf2 P n ops Q m i rest dst (.call ⟨.builtin b, args, ats⟩) ((zaD ops j).bind fun t => zaG (e t) want) e h acc := zaX rfl
theorem znr {f : Fn} {xs ys : Array Operand} : adr P n ops Q m i (⟨dst, .makeFunc f xs ys, ty, pos, after, none⟩ :: rest) e h acc = ze8 P n ops Q m i rest dst (((.makeFunc f xs ys : Op).operands.toList.map (ev e)).flatMap AV.ids) (aev P (n + i) (.makeFunc f xs ys) e h) e h acc := zaW rfl
theorem zmb {f : Fn} {xs ys : Array Operand} : adr P n ops Q m i (⟨dst, .makeFunc f xs ys, ty, pos, after, some (j, want)⟩ :: rest) e h acc = zf2 P n ops Q m i rest dst (.makeFunc f xs ys) ((zaD ops j).bind fun t => zaG (e t) want) e h acc := zaX rfl
end drawEq
attribute [go_sem] zpD zno zmg zkD zsi zpy zsj zpz zw2 zud zsh zpx zw3 zue zug zr9 zzh zwZ zui zsb zkE zi6 zw1 zuc zun zsg zuh zsa zw4 zuf zns zmc zpB znm zmd zkA zuj zsc zme zkB zuk zsd zpC znn zmf zkC zum zsf zho zgO zul zse zpA znl znr zmb
attribute [go_sem] zxb zzi zw0 VC_adr dRes_0 zzH dRes_1 zzI zzD zzF zxy zzE zxx zu1 AV.ids List.flatMap_cons List.flatMap_nil
section gcall
variable {P : Program} {Q : zbW} {e : Env} {h : zar} {n m i : Nat} {ops rest : List Oper} {acc : List ze1}
def aGC (P : Program) (ops : List Oper) (Q : zbW) (rest : List Oper) (dst : Option Tmp) (g : Bool) (fv : AV) (args : List AV) (e : Env) (h : zar) (n : Nat) : Prop :=
 (∃ x, (g = true → zf1 P fv args h n fun r h' n' => r = x ∧ h' = h ∧ n' = n) ∧ zbk P ops Q rest (put e dst (.gd g x)) h n) ∨
 (g = true ∧ zf1 P fv args h n fun r h' n' => zbk P ops Q rest (put e dst (.gd true r)) h' n') ∨
 (g = true ∧ ziA e fv args h n fun e' r h' => zbk P ops Q rest (put e' dst (.gd true r)) h' n)
def ziB (P : Program) (ops : List Oper) (Q : zbW) (rest : List Oper) (dst : Option Tmp) (f : Operand) (args : List Operand) (op : Op) (g : Option Bool) (e : Env) (h : zar) (n : Nat) : Prop :=
 match g with
 | none => False
 | some g => VQ (∀ t ∈ zcv op, okG g (e t)) (aGC P ops Q rest dst g (ev (fun t => unG (e t)) f) (args.map (ev fun t => unG (e t))) e h n)
theorem zso {dst : Option Tmp} {f : Operand} {args : Array Operand} {ats : Array TypeId} {ty : TypeId} {pos : String} {after : Array Edge} {j : Nat} {want : Bool} :
  zbk P ops Q (⟨dst, .call ⟨.value f, args, ats⟩, ty, pos, after, some (j, want)⟩ :: rest) e h n = ziB P ops Q rest dst f args.toList (.call ⟨.value f, args, ats⟩) ((zaD ops j).bind fun t => zaG (e t) want) e h n := rfl
theorem zma {dst : Option Tmp} {f : Operand} {args : List Operand} {op : Op} {g : Bool} : ziB P ops Q rest dst f args op (some g) e h n = VQ (∀ t ∈ zcv op, okG g (e t)) (aGC P ops Q rest dst g (ev (fun t => unG (e t)) f) (args.map (ev fun t => unG (e t))) e h n) := rfl
theorem zA4 {dst : Option Tmp} {g : Bool} {f : FuncId} {first caps args : List AV} (args' : List AV) (r : AV) (hp : g = true → zaL P f args' r) (hfl : zqT r) (hle : zam h noH n (first ++ args ++ caps) args') (hb : ∀ c ∈ args', Bel 0 c)
  (hk : zbk P ops Q rest (put e dst (.gd g r)) h n) : aGC P ops Q rest dst g (.fn (.func f) first caps) args e h n :=
 .inl ⟨r, fun hg => zA1 (hp hg) hfl hle hb ⟨rfl, rfl, rfl⟩, hk⟩
theorem zAV {dst : Option Tmp} {g : Bool} {f : FuncId} {first caps args : List AV} (r : AV) (hp : g = true → zaL P f (first ++ args ++ caps) r) (hb : ∀ c ∈ first ++ args ++ caps, Bel 0 c)
  (hk : zbk P ops Q rest (put e dst (.gd g r)) h n) : aGC P ops Q rest dst g (.fn (.func f) first caps) args e h n :=
 .inl ⟨r, fun hg => zAs (hp hg) hb ⟨rfl, rfl, rfl⟩, hk⟩
theorem aGC.skip (x : AV) {dst : Option Tmp} {fv : AV} {args : List AV} (hk : zbk P ops Q rest (put e dst (.gd false x)) h n) : aGC P ops Q rest dst false fv args e h n := .inl ⟨x, (fun hg => nomatch hg), hk⟩
theorem zAO {dst : Option Tmp} {f : FuncId} {first caps args : List AV} (hk : zaa P f (first ++ args ++ caps) h n fun r h' n' => zbk P ops Q rest (put e dst (.gd true r)) h' n') : aGC P ops Q rest dst true (.fn (.func f) first caps) args e h n := .inr (.inl ⟨rfl, hk⟩)
def dGC (P : Program) (n : Nat) (ops : List Oper) (Q : zbW) (m : Nat) (i : Nat) (rest : List Oper) (dst : Option Tmp) (g : Bool) (fv : AV) (args : List AV) (e : Env) (h : zar) (acc : List ze1) : Prop :=
 ∃ r S wr, (g = true → zf7 P (n + ops.length + 16 * i) fv args h r S wr) ∧ (g = false → wr = []) ∧ adr P n ops Q m (i + 1) rest (put e dst (.gd g r)) (zal wr h) (acc ++ [(S, wr.map (·.1))])
def ziG (P : Program) (n : Nat) (ops : List Oper) (Q : zbW) (m : Nat) (i : Nat) (rest : List Oper) (dst : Option Tmp) (f : Operand) (args : List Operand) (op : Op) (g : Option Bool) (e : Env) (h : zar) (acc : List ze1) : Prop :=
 match g with
 | none => False
 | some g => VQ (∀ t ∈ zcv op, okG g (e t)) (dGC P n ops Q m i rest dst g (ev (fun t => unG (e t)) f) (args.map (ev fun t => unG (e t))) e h acc)
theorem zub {dst : Option Tmp} {f : Operand} {args : Array Operand} {ats : Array TypeId} {ty : TypeId} {pos : String} {after : Array Edge} {j : Nat} {want : Bool} :
  adr P n ops Q m i (⟨dst, .call ⟨.value f, args, ats⟩, ty, pos, after, some (j, want)⟩ :: rest) e h acc = ziG P n ops Q m i rest dst f args.toList (.call ⟨.value f, args, ats⟩) ((zaD ops j).bind fun t => zaG (e t) want) e h acc := rfl
theorem zmx {dst : Option Tmp} {f : Operand} {args : List Operand} {op : Op} {g : Bool} : ziG P n ops Q m i rest dst f args op (some g) e h acc = VQ (∀ t ∈ zcv op, okG g (e t)) (dGC P n ops Q m i rest dst g (ev (fun t => unG (e t)) f) (args.map (ev fun t => unG (e t))) e h acc) := rfl
theorem zAY {dst : Option Tmp} {g : Bool} {f : FuncId} {first caps args : List AV} (args' : List AV) (r : AV) (S : List Nat) (hp : g = true → zaL P f args' r) (hfl : zqT r) (hle : ∀ h₁ : zar, (∀ o ∈ S, h o = h₁ o) → zam h₁ noH 0 (first ++ args ++ caps) args')
  (hb : ∀ c ∈ args', Bel 0 c) (hk : adr P n ops Q m (i + 1) rest (put e dst (.gd g r)) h (acc ++ [(S, [])])) : dGC P n ops Q m i rest dst g (.fn (.func f) first caps) args e h acc :=
 ⟨r, S, [], fun hg => .inl ⟨rfl, f, first, caps, args', rfl, hb, hp hg, .inl ⟨hle, hfl⟩⟩, fun _ => rfl, hk⟩
theorem zAD {dst : Option Tmp} {g : Bool} {f : FuncId} {first caps args : List AV} (r : AV) (hp : g = true → zaL P f (first ++ args ++ caps) r) (hb : ∀ c ∈ first ++ args ++ caps, Bel 0 c)
  (hk : adr P n ops Q m (i + 1) rest (put e dst (.gd g r)) h (acc ++ [([], [])])) : dGC P n ops Q m i rest dst g (.fn (.func f) first caps) args e h acc :=
 ⟨r, [], [], fun hg => .inl ⟨rfl, f, first, caps, _, rfl, hb, hp hg, .inr rfl⟩, fun _ => rfl, hk⟩
theorem dGC.skip (x : AV) {dst : Option Tmp} {fv : AV} {args : List AV} (hk : adr P n ops Q m (i + 1) rest (put e dst (.gd false x)) h (acc ++ [([], [])])) : dGC P n ops Q m i rest dst false fv args e h acc :=
 ⟨x, [], [], (fun hg => nomatch hg), fun _ => rfl, hk⟩
theorem dGC.frz {dst : Option Tmp} {f : FuncId} {first caps args : List AV} (args' : List AV) (r : AV) (S : List Nat) (wr : List (Nat × Option zbq)) (hp : zaL P f args' r)
  (hw : ∀ p ∈ wr, p.1 ∈ S ∧ ∃ g sz rs, p.2 = some (.rows false g sz rs) ∧ h p.1 = some (.rows true g sz rs)) (hle : ∀ h₁ : zar, (∀ o ∈ S, h o = h₁ o) → zam h₁ (zal wr h₁) 0 (first ++ args ++ caps) args') (hb : ∀ c ∈ args', Bel 0 c)
  (hk : adr P n ops Q m (i + 1) rest (put e dst (.gd true r)) (zal wr h) (acc ++ [(S, wr.map (·.1))])) : dGC P n ops Q m i rest dst true (.fn (.func f) first caps) args e h acc :=
 ⟨r, S, wr, fun _ => .inr (.inl ⟨f, first, caps, args', rfl, hb, hp, hw, hle⟩), (fun h => nomatch h), hk⟩
@[congr] theorem aGC_congr {dst : Option Tmp} {g g' : Bool} {fv fv' : AV} {args args' : List AV} (hg : g = g') (h0 : fv = fv') (h1 : args = args') : aGC P ops Q rest dst g fv args e h n = aGC P ops Q rest dst g' fv' args' e h n := by subst h0 h1 hg; rfl
@[congr] theorem zwC {dst : Option Tmp} {f : Operand} {args : List Operand} {op : Op} {g g' : Option Bool} (h0 : g = g') : ziB P ops Q rest dst f args op g e h n = ziB P ops Q rest dst f args op g' e h n := by subst h0; rfl
@[congr] theorem dGC_congr {dst : Option Tmp} {g g' : Bool} {fv fv' : AV} {args args' : List AV} {i' : Nat} (hi : i = i') (hg : g = g') (h0 : fv = fv') (h1 : args = args') : dGC P n ops Q m i rest dst g fv args e h acc = dGC P n ops Q m i' rest dst g' fv' args' e h acc := by subst h0 h1 hg hi; rfl
@[congr] theorem zwE {dst : Option Tmp} {f : Operand} {args : List Operand} {op : Op} {g g' : Option Bool} {i' : Nat} (hi : i = i') (h0 : g = g') : ziG P n ops Q m i rest dst f args op g e h acc = ziG P n ops Q m i' rest dst f args op g' e h acc := by subst h0 hi; rfl
end gcall
attribute [go_sem] zso zma zub zmx

theorem zl8 {n : Nat} : ∀ {xs : List AV}, (∀ c ∈ xs, Bel 0 c) → ShL n xs xs
 | [], _ => .nil
 | x :: xs, h => .cons (.same (h x (by simp))) (zl8 fun c hc => h c (by simp [hc]))
theorem Sh_agg {n : Nat} {xs ys : List AV} : Sh n (.agg xs) (.agg ys) = ShL n xs ys := propext ⟨fun h => by
 cases h with
 | same h => cases h with | agg h => exact zl8 h
 | agg h => exact h, .agg⟩
theorem Sh_tup {n : Nat} {xs ys : List AV} : Sh n (.tup xs) (.tup ys) = ShL n xs ys := propext ⟨fun h => by
 cases h with
 | same h => cases h with | tup h => exact zl8 h
 | tup h => exact h, .tup⟩
theorem Sh_fn {n : Nat} {f : Fn} {a b a' b' : List AV} (h : ShL n a a') (h' : ShL n b b') : Sh n (.fn f a b) (.fn f a' b') = True := eq_true (.fn h h')
theorem Sh_ref {n o g sz i off : Nat} : Sh n (.ref o g sz i off) (.ref (n + o) g sz i off) = True := eq_true .ref
theorem Sh_sl {n o g sz i len : Nat} : Sh n (.sl o g sz i len) (.sl (n + o) g sz i len) = True := eq_true .sl
theorem zy6 {n g sz i off : Nat} : Sh n (.ref 0 g sz i off) (.ref n g sz i off) = True := eq_true (.ref (o := 0))
theorem Sh_sl0 {n g sz i len : Nat} : Sh n (.sl 0 g sz i len) (.sl n g sz i len) = True := eq_true (.sl (o := 0))
theorem Sh_v {n : Nat} {x : Value} : Sh n (.v x) (.v x) = True := eq_true (.same (.v x))
theorem Sh_lst {n sz : Nat} {rows : List (List AV)} (h : ∀ r ∈ rows, ∀ c ∈ r, Bel 0 c) : Sh n (.lst sz rows) (.lst sz rows) = True := eq_true (.same (.lst h))
theorem zy5 {n : Nat} : ShL n [] [] = True := eq_true .nil
theorem zwS {n : Nat} {x y : AV} {xs ys : List AV} : ShL n (x :: xs) (y :: ys) = (Sh n x y ∧ ShL n xs ys) := propext ⟨fun h => by cases h with | cons a b => exact ⟨a, b⟩, fun h => .cons h.1 h.2⟩
theorem zt7 {n : Nat} {rs : List (List AV)} (h : ∀ r ∈ rs, ∀ c ∈ r, Bel 0 c) : zqY n rs rs = True := eq_true (.same h)
theorem zwR {n : Nat} : zqY n [] [] = True := eq_true .nil
theorem zt6 {n : Nat} {x y : List AV} {xs ys : List (List AV)} (h : ShL n x y ∧ zqY n xs ys) : zqY n (x :: xs) (y :: ys) = True := eq_true (.cons h.1 h.2)
theorem zwT {n : Nat} {mt : Bool} {g sz : Nat} {rs rs' : List (List AV)} : ShO n (.rows mt g sz rs) (.rows mt g sz rs') = zqY n rs rs' := propext ⟨fun h => by cases h; assumption, .rows⟩
theorem zy4 {n : Nat} : ShH n [] [] = True := eq_true .nil
theorem zqX {n o : Nat} {x y : zbq} {l l' : List (Nat × zbq)} : ShH n ((o, x) :: l) ((n + o, y) :: l') = (ShO n x y ∧ ShH n l l') :=
 propext ⟨fun h => by cases h with | cons a b => exact ⟨a, b⟩, fun h => .cons h.1 h.2⟩
theorem zt5 {n : Nat} {x y : zbq} {l l' : List (Nat × zbq)} : ShH n ((0, x) :: l) ((n, y) :: l') = (ShO n x y ∧ ShH n l l') := zqX (o := 0)
attribute [go_sem] Sh_agg Sh_tup Sh_fn Sh_ref Sh_sl zy6 Sh_sl0 Sh_v Sh_lst zy5 zwS zt7 zwR zt6 zwT zy4 zqX zt5 zdP
theorem zxT {h h' : zar} {n : Nat} {x : AV} : LeV h h' n x x := .refl x
attribute [go_sem] zxT
theorem zyY {n : Int} : InR .i64 n = (-9223372036854775808 ≤ n ∧ n ≤ 9223372036854775807) := by
 simp [InR, IntKind.min, IntKind.max, IntKind.signed, IntKind.bits]
theorem InR_u8 {n : Int} : InR .u8 n = (0 ≤ n ∧ n ≤ 255) := by
 simp [InR, IntKind.min, IntKind.max, IntKind.signed, IntKind.bits]
theorem zy0 {n : Int} : InR .u64 n = (0 ≤ n ∧ n ≤ 18446744073709551615) := by
 simp [InR, IntKind.min, IntKind.max, IntKind.signed, IntKind.bits]
theorem zyZ {n : Int} : InR .u32 n = (0 ≤ n ∧ n ≤ 4294967295) := by
 simp [InR, IntKind.min, IntKind.max, IntKind.signed, IntKind.bits]
attribute [go_sem] zyY InR_u8 zy0 zyZ
theorem oc_int {k : IntKind} {n : Int} : (Value.int k n).oneCell' = true := rfl
theorem zz2 {b : Bool} : (Value.bool b).oneCell' = true := rfl
theorem zx6 {a : Option Addr} {l c : Nat} : (Value.slice a l c).oneCell' = true := rfl
theorem ztj {a : Option Addr} : (Value.pointer a).oneCell' = true := rfl
attribute [go_sem] oc_int zz2 zx6 ztj
structure LS where
 E : List (Nat × AV)
 H : List (Nat × zbq)
 n : Nat
def ztX (n0 : Nat) (B : zbW → Env → zar → Nat → Prop) (Q : zbW) (s : LS) : Prop := zab n0 B Q (mkE s.E) (mkH s.H) s.n
theorem zAv {P : Program} {n0 : Nat} {b : Code} {Q : zbW} {α : Type} (S : α → LS) (I : Nat → α → Prop)
  (step : ∀ d a, I d a → (∀ d', d' < d → ∀ a', I d' a' → ztX n0 (awp P n0 b) Q (S a')) → awp P n0 b (ztU (zab n0 (awp P n0 b) Q) Q) (mkE (S a).E) (mkH (S a).H) (S a).n) :
  ∀ d a, I d a → ztX n0 (awp P n0 b) Q (S a) := by
 intro d
 induction d using Nat.strongRecOn with
 | ind d ih => intro a ha; exact zAA (step d a ha fun d' hd a' ha' => ih d' hd a' ha')
theorem zAr {P : Program} {n0 : Nat} {b : Code} {Q : zbW} {e : Env} {h : zar} {n : Nat} {s : LS} (hh : ztX n0 (awp P n0 b) Q s) (hk : Wk e h n s.E s.H s.n) (hn : n0 ≤ s.n) : zab n0 (awp P n0 b) Q e h n :=
 zab.forget s.E s.H s.n hk hn hh
theorem zaf {e : Env} {h : zar} {n : Nat} {E : List (Nat × AV)} {HH : List (Nat × zbq)} {n' : Nat} :
  Wk e h n E HH n' = ((∀ p ∈ E, LeV h (mkH HH) n (e p.1) p.2 ∧ Bel n' p.2) ∧ ∀ p ∈ HH, p.1 < n' ∧ LeO h (mkH HH) n p.1 (h p.1) p.2 ∧ zyU n' p.2) :=
 propext ⟨fun h => ⟨h.1, h.2⟩, fun h => ⟨h.1, h.2⟩⟩
theorem zxR {h h' : zar} {n o : Nat} {mt : Bool} {g sz : Nat} {rs : List (List AV)} : LeO h h' n o (some (.rows mt g sz rs)) (.rows mt g sz rs) = True := eq_true (.same (fun h => h) (.refl _))
theorem zzR {h h' : zar} {n o g sz : Nat} (hn : n ≤ o) : LeO h h' n o none (.rows true g sz []) = True := eq_true (.own hn)
theorem zvB {h h' : zar} {n : Nat} : zam h h' n [] [] = True := eq_true .nil
theorem zta {h h' : zar} {n : Nat} {x y : AV} {xs ys : List AV} : zam h h' n (x :: xs) (y :: ys) = (LeV h h' n x y ∧ zam h h' n xs ys) :=
 propext ⟨fun h => by cases h with | cons a b => exact ⟨a, b⟩, fun h => .cons h.1 h.2⟩
theorem zzS {h h' : zar} {n sz c : Nat} {A : Option Addr} : LeV h h' n (.v (.slice A 0 c)) (.lst sz []) = True := eq_true (.nil sz)
theorem zzU {h h' : zar} {n : Nat} {x : AV} : LeV h h' n x .top = True := eq_true (.top x)
theorem zzT {h h' : zar} {n o g sz : Nat} (hn : n ≤ o) (ho : h' o = some (.rows true g sz [])) : LeV h h' n (.v (.slice none 0 0)) (.sl o g sz 0 0) = True := eq_true (.own hn ho)
theorem noH_eq (o : Nat) : noH o = none := rfl
theorem zas {h h' : zar} {n o g sz i len : Nat} {mt : Bool} {rs rows : List (List AV)} (ho : h o = some (.rows mt g sz rs)) (hl : i + len ≤ rs.length) (ho' : ∀ g sz rs, h' o ≠ some (.rows true g sz rs)) (hr : (rs.drop i).take len = rows) :
  LeV h h' n (.sl o g sz i len) (.lst sz rows) := .frz ho hl ho' (hr ▸ .refl _)
theorem zBb {h h' : zar} {n : Nat} {xs ys : List AV} (e : xs = ys) : zam h h' n xs ys := e ▸ .refl _ _ _ _
theorem zxQ {h h' : zar} {n o : Nat} {mt mt' : Bool} {g g' sz sz' : Nat} {rs rs' : List (List AV)} : LeO h h' n o (some (.rows mt g sz rs)) (.rows mt' g' sz' rs') = (g = g' ∧ sz = sz' ∧ (mt' = true → mt = true) ∧ zai h h' n rs rs') :=
 propext ⟨fun h => by cases h with | same hm hr => exact ⟨rfl, rfl, hm, hr⟩, fun ⟨h1, h2, h3, h4⟩ => by subst h1 h2; exact .same h3 h4⟩
theorem zqh {h h' : zar} {n : Nat} {rs : List (List AV)} : zai h h' n rs rs = True := eq_true (.refl _)
theorem zqg {h h' : zar} {n : Nat} {x y : List AV} {xs ys : List (List AV)} : zai h h' n (x :: xs) (y :: ys) = (zam h h' n x y ∧ zai h h' n xs ys) :=
 propext ⟨fun h => by cases h with
  | refl => exact ⟨.refl _ _ _ _, .refl _⟩
  | cons h t => exact ⟨h, t⟩, fun h => .cons h.1 h.2⟩
theorem zxS {h h' : zar} {n : Nat} {xs ys : List AV} : LeV h h' n (.agg xs) (.agg ys) = zam h h' n xs ys :=
 propext ⟨fun h => by cases h with
  | refl => exact .refl _ _ _ _
  | agg h => exact h, .agg⟩
theorem zxU {h h' : zar} {n : Nat} {xs ys : List AV} : LeV h h' n (.tup xs) (.tup ys) = zam h h' n xs ys :=
 propext ⟨fun h => by cases h with
  | refl => exact .refl _ _ _ _
  | tup h => exact h, .tup⟩
theorem NoFz_v {x : Value} : zfa (.v x) = True := eq_true (.v x)
theorem zwM {o g sz i off : Nat} : zfa (.ref o g sz i off) = True := eq_true (.ref ..)
theorem zy3 {o g sz i len : Nat} : zfa (.sl o g sz i len) = True := eq_true (.sl ..)
theorem zwL {xs : List AV} : zfa (.agg xs) = ∀ x ∈ xs, zfa x := propext ⟨fun h => by cases h; assumption, .agg⟩
theorem zwN {xs : List AV} : zfa (.tup xs) = ∀ x ∈ xs, zfa x := propext ⟨fun h => by cases h; assumption, .tup⟩
theorem zy2 {f : Fn} {a b : List AV} : zfa (.fn f a b) = ((∀ x ∈ a, zfa x) ∧ ∀ x ∈ b, zfa x) := propext ⟨fun h => by cases h; exact ⟨by assumption, by assumption⟩, fun h => .fn h.1 h.2⟩
theorem zAF {P : Program} {f : FuncId} {args args' : List AV} {h : zar} {n : Nat} {K : zcF} {R : Nat → AV} {HH : Nat → List (Nat × zbq)} {k : Nat} (hp : zgi P f args' R HH k)
  (hnR : zfa (R 0)) (hnH : ∀ p ∈ HH 0, zna p.2) (hle : zam h noH n args args') (hb : ∀ c ∈ args', Bel 0 c) (hk : K (R n) (zdP (HH n) h) (n + k)) : zaa P f args h n K :=
 zAX hp.1 (fun _ _ _ h => h) (hp.2 n).1 (hp.2 n).2 hnR hnH hle hb hk
attribute [go_sem] zxQ zqh zqg zxS zxU NoFz_v zwM zy3 zwL zwN zy2 zna zmA
attribute [go_sem] noH_eq zzT zzR mkE mkH zyU zxR zvB zta zzS zzU List.forall_mem_cons
theorem zAE {h h' : zar} {n : Nat} {x y : AV} (e : x = y) : LeV h h' n x y := e ▸ .refl x
theorem nadd (a b c : Nat) : a + b + c = a + (b + c) := Nat.add_assoc a b c
attribute [go_sem] nadd
class WS (G : Prop) (a X : outParam Prop) : Prop where out : a → (a → X) → G
instance {P : Program} {ops : List Oper} {Q : zbW} {rest : List Oper} {e : Env} {h : zar} {n : Nat} {a : Prop} : WS (VC a (zgm P ops Q rest e h n)) a (zbk P ops Q rest e h n) := ⟨fun h1 h2 => wL h2 h1⟩
instance {P : Program} {ops : List Oper} {Q : zbW} {rest : List Oper} {e : Env} {h : zar} {n m i : Nat} {a : Prop} {acc : List ze1} : WS (VC a (znp P n ops Q m i rest e h acc)) a (adr P n ops Q m i rest e h acc) := ⟨fun h1 h2 => wD h2 h1⟩
instance {P : Program} {ops : List Oper} {Q : zbW} {e : Env} {h : zar} {n : Nat} : WS (znq P n ops Q e h) True (adr P n ops Q (n + ops.length) 0 ops e h []) := ⟨fun _ h2 => wZ (h2 trivial)⟩
def KR (p : Prop) : Prop := p
theorem kr {p : Prop} (h : p) : KR p := h
instance {ops : List Oper} {Q : zbW} {n : Nat} {e : Env} {h : zar} {recs : List ze1} : WS (zkt Q ops n e h recs) (KR ((zjU ops recs && zvX recs) = true)) (Q .normal e h n) := ⟨fun h1 h2 => zkt.mk h1 (h2 h1)⟩
theorem wV {G a X : Prop} [i : WS G a X] (h2 : a → X) (h1 : a := by with_reducible first | omega | exact True.intro | rfl | (refine kr ?_; kernel_rfl) | (intros; omega)) : G := i.out h1 h2
theorem leX {p : Prop} (h : p := by ((try simp only [zau, zaA, zaQ, zbj, zaq, zbe, zay, zan, zad, zbI, za0, zaN, zap, zac, List.map_cons, List.map_nil, List.nil_append, List.append_nil, List.cons_append]); (repeat (first | (with_reducible exact zam.nil) | (with_reducible exact zai.nil) | (with_reducible exact LeV.refl _) | (with_reducible exact zam.refl _ _ _ _) | (with_reducible exact zai.refl _) | (with_reducible refine zam.cons ?_ ?_) | (with_reducible refine zai.cons ?_ ?_) | (with_reducible refine LeV.agg ?_) | (with_reducible refine LeV.tup ?_) | (with_reducible refine LeV.fn ?_ ?_) | (with_reducible exact LeV.nil _) | (with_reducible refine zak (zai.refl _) ?_) | ((refine zas rfl (by simp) (by simp [za5, zbb, upd, noH]) ?_); (first | (simp [go_sem]; done) | (simp [go_sem]; exact List.take_of_length_le (by simp)))) | ((refine LeV.frz rfl (by simp) (by simp [za5, zbb, upd, noH]) ?_); (simp only [List.drop_zero, List.take_succ_cons, List.take_zero, List.map_cons, List.map_nil])) | ((refine LeV.frzP rfl (by simp) (by simp) (by simp [za5, zbb, upd, noH]) ?_); (simp only [zaP, List.drop_zero])))))) : p := h
theorem blX {p : Prop} (h : p := by (intro r hr c hc; (first | (rcases hr with ⟨_, _, rfl⟩ | rfl) | (rcases hr with rfl | ⟨_, _, rfl⟩) | (rcases hr with rfl | rfl) | ((rcases List.mem_or_eq_of_mem_set hr with hr | rfl) <;> first | (obtain ⟨_, _, rfl⟩ := List.mem_map.1 hr; simp only [zb5] at hc) | skip) | (rcases hr with ⟨_, rfl⟩ | ⟨_, rfl⟩) | (rcases hr with ⟨_, _, rfl⟩ | ⟨_, rfl⟩) | (rcases hr with ⟨_, rfl⟩ | ⟨_, _, rfl⟩) | (rcases hr with ⟨_, _, rfl⟩ | ⟨_, _, rfl⟩) | (obtain ⟨_, rfl⟩ := hr) | (obtain ⟨_, _, rfl⟩ := hr)) <;> simp at hc <;> (try subst hc) <;> first | exact .v _ | (rcases hc with rfl | rfl <;> exact .v _))) : p := h
theorem dpX {p : Prop} (h : p := by ((refine LeV.frz rfl (by simp) (by simp [noH, upd]) ?_); (try simp only [List.drop_zero, List.take_succ_cons, List.take_zero, List.map_cons, List.map_nil]); (repeat (first | (with_reducible exact zai.nil) | (with_reducible refine zai.cons ?_ ?_) | (with_reducible exact zam.nil) | (with_reducible refine zam.cons ?_ ?_) | (with_reducible exact LeV.refl _) | (refine zas rfl (by simp) (by simp [noH, upd]) ?_; first | (simp [go_sem]; done) | (simp [go_sem]; exact List.take_of_length_le (by simp))))))) : p := h
theorem agX {p : Prop} (h : p := by ((try simp only [zay, zan, zad, zbI, za0, zaN, zap, List.nil_append, List.append_nil, List.cons_append]); (repeat (first | (with_reducible exact zam.nil) | (with_reducible refine zam.cons ?_ ?_) | (with_reducible exact LeV.refl _) | (with_reducible refine LeV.agg ?_) | ((refine zas rfl (by simp) (by simp [za5, zbb, upd, noH]) ?_); (first | (simp [go_sem]; done) | (simp [go_sem]; exact List.take_of_length_le (by simp)))))))) : p := h
theorem rwX {p : Prop} (h : p := by ((refine zak (.refl _) ?_); (repeat (first | (with_reducible exact zai.nil) | (with_reducible refine zai.cons ?_ ?_) | (with_reducible exact zam.nil) | (with_reducible refine zam.cons ?_ ?_) | (with_reducible exact LeV.refl _) | (refine zas rfl (by simp) (by simp [noH, upd]) ?_; first | (simp [go_sem]; done) | (simp [go_sem]; exact List.take_of_length_le (by simp))))))) : p := h
theorem frX {p : Prop} (h : p := by (refine zas rfl (by simp) (by simp [noH, upd]) ?_; first | (simp [go_sem]; done) | (simp [go_sem]; exact List.take_of_length_le (by simp)))) : p := h
end Go.Av
end
section
namespace Go.Av
open Go Go.Proofs Go.Proofs.Tryz
@[go_sem] theorem t_0 : tk prog 0 = .other ∧ tsz prog 0 = some 1 ∧ tby prog 0 = some 0 ∧ zbi prog 0 = some false := by and_intros <;> kernel_rfl
@[go_sem] theorem t_1 : tk prog 1 = .other ∧ tsz prog 1 = some 1 ∧ tby prog 1 = some 8 ∧ tz prog 1 = some [(.v .nilFunc)] ∧ zbi prog 1 = some false := by and_intros <;> kernel_rfl
@[go_sem] theorem t_2 : tk prog 2 = .int .i64 ∧ tsz prog 2 = some 1 ∧ tby prog 2 = some 8 ∧ tz prog 2 = some [(.v (.int .i64 0))] ∧ zbi prog 2 = some false ∧ tz1 prog 2 = some (.int .i64 0) := by and_intros <;> kernel_rfl
@[go_sem] theorem t_3 : tk prog 3 = .int .i64 ∧ tsz prog 3 = some 1 ∧ tby prog 3 = some 8 ∧ tz prog 3 = some [(.v (.int .i64 0))] ∧ zbi prog 3 = some false ∧ tz1 prog 3 = some (.int .i64 0) := by and_intros <;> kernel_rfl
@[go_sem] theorem t_4 : tk prog 4 = .bool ∧ tsz prog 4 = some 1 ∧ tby prog 4 = some 1 ∧ tz prog 4 = some [(.v (.bool false))] ∧ zbi prog 4 = some false ∧ tz1 prog 4 = some (.bool false) := by and_intros <;> kernel_rfl
@[go_sem] theorem t_5 : tk prog 5 = .int .u8 ∧ tsz prog 5 = some 1 ∧ tby prog 5 = some 1 ∧ tz prog 5 = some [(.v (.int .u8 0))] ∧ zbi prog 5 = some false ∧ tz1 prog 5 = some (.int .u8 0) := by and_intros <;> kernel_rfl
@[go_sem] theorem t_6 : tk prog 6 = .int .u8 ∧ tsz prog 6 = some 1 ∧ tby prog 6 = some 1 ∧ tz prog 6 = some [(.v (.int .u8 0))] ∧ zbi prog 6 = some false ∧ tz1 prog 6 = some (.int .u8 0) := by and_intros <;> kernel_rfl
@[go_sem] theorem t_7 : tk prog 7 = .str ∧ tsz prog 7 = some 4 ∧ tby prog 7 = some 24 ∧ tz prog 7 = some [(.v (.int .i64 0)), (.v (.int .i64 0)), (.v (.bool false)), (.v (.int .u8 0))] ∧ zbi prog 7 = some true ∧ tfi prog 7 = true ∧ zoW prog 7 = some [false, false, true, false] ∧ zb8 prog 7 0 = some 2 ∧ zbX prog 7 0 = some 0 ∧ zb8 prog 7 1 = some 3 ∧ zbX prog 7 1 = some 1 ∧ zb8 prog 7 2 = some 4 ∧ zbX prog 7 2 = some 2 ∧ zb8 prog 7 3 = some 6 ∧ zbX prog 7 3 = some 3 := by and_intros <;> kernel_rfl
@[go_sem] theorem t_8 : tk prog 8 = .str ∧ tsz prog 8 = some 4 ∧ tby prog 8 = some 24 ∧ tz prog 8 = some [(.v (.int .i64 0)), (.v (.int .i64 0)), (.v (.bool false)), (.v (.int .u8 0))] ∧ zbi prog 8 = some true ∧ tfi prog 8 = true ∧ zoW prog 8 = some [false, false, true, false] ∧ zb8 prog 8 0 = some 2 ∧ zbX prog 8 0 = some 0 ∧ zb8 prog 8 1 = some 3 ∧ zbX prog 8 1 = some 1 ∧ zb8 prog 8 2 = some 4 ∧ zbX prog 8 2 = some 2 ∧ zb8 prog 8 3 = some 6 ∧ zbX prog 8 3 = some 3 := by and_intros <;> kernel_rfl
@[go_sem] theorem t_9 : tk prog 9 = .string ∧ tsz prog 9 = some 1 ∧ tby prog 9 = some 16 ∧ tz prog 9 = some [(.v (.string ⟨⟨[]⟩⟩))] ∧ zbi prog 9 = some false ∧ tz1 prog 9 = some (.string ⟨⟨[]⟩⟩) := by and_intros <;> kernel_rfl
@[go_sem] theorem t_10 : tk prog 10 = .string ∧ tsz prog 10 = some 1 ∧ tby prog 10 = some 16 ∧ tz prog 10 = some [(.v (.string ⟨⟨[]⟩⟩))] ∧ zbi prog 10 = some false ∧ tz1 prog 10 = some (.string ⟨⟨[]⟩⟩) := by and_intros <;> kernel_rfl
@[go_sem] theorem t_11 : tk prog 11 = .string ∧ tsz prog 11 = some 1 ∧ tby prog 11 = some 16 ∧ tz prog 11 = some [(.v (.string ⟨⟨[]⟩⟩))] ∧ zbi prog 11 = some false ∧ tz1 prog 11 = some (.string ⟨⟨[]⟩⟩) := by and_intros <;> kernel_rfl
@[go_sem] theorem t_12 : tk prog 12 = .int .u64 ∧ tsz prog 12 = some 1 ∧ tby prog 12 = some 8 ∧ tz prog 12 = some [(.v (.int .u64 0))] ∧ zbi prog 12 = some false ∧ tz1 prog 12 = some (.int .u64 0) := by and_intros <;> kernel_rfl
@[go_sem] theorem t_20 : tk prog 20 = .other ∧ tsz prog 20 = some 1 ∧ tby prog 20 = some 16 ∧ tz prog 20 = some [(.v .nilIface)] ∧ zbi prog 20 = some false := by and_intros <;> kernel_rfl
@[go_sem] theorem t_22 : tk prog 22 = .sl 5 ∧ tsz prog 22 = some 1 ∧ tby prog 22 = some 24 ∧ tz prog 22 = some [(.v (.slice .none 0 0))] ∧ zbi prog 22 = some false := by and_intros <;> kernel_rfl
@[go_sem] theorem t_23 : tk prog 23 = .arr 2 22 ∧ tsz prog 23 = some 2 ∧ tby prog 23 = some 48 ∧ tz prog 23 = some [(.v (.slice .none 0 0)), (.v (.slice .none 0 0))] ∧ zbi prog 23 = some true := by and_intros <;> kernel_rfl
@[go_sem] theorem t_24 : tk prog 24 = .sl 80 ∧ tsz prog 24 = some 1 ∧ tby prog 24 = some 24 ∧ tz prog 24 = some [(.v (.slice .none 0 0))] ∧ zbi prog 24 = some false := by and_intros <;> kernel_rfl
@[go_sem] theorem t_25 : tk prog 25 = .arr 6 5 ∧ tsz prog 25 = some 6 ∧ tby prog 25 = some 6 ∧ tz prog 25 = some [(.v (.int .u8 0)), (.v (.int .u8 0)), (.v (.int .u8 0)), (.v (.int .u8 0)), (.v (.int .u8 0)), (.v (.int .u8 0))] ∧ zbi prog 25 = some true := by and_intros <;> kernel_rfl
@[go_sem] theorem t_27 : tk prog 27 = .str ∧ tsz prog 27 = some 12 ∧ tby prog 27 = some 88 ∧ tz prog 27 = some [(.v (.int .u8 0)), (.v (.int .u8 0)), (.v (.int .u8 0)), (.v (.slice .none 0 0)), (.v (.slice .none 0 0)), (.v (.slice .none 0 0)), (.v (.int .u8 0)), (.v (.int .u8 0)), (.v (.int .u8 0)), (.v (.int .u8 0)), (.v (.int .u8 0)), (.v (.int .u8 0))] ∧ zbi prog 27 = some true ∧ tfi prog 27 = true ∧ zb8 prog 27 0 = some 5 ∧ zbX prog 27 0 = some 0 ∧ zb8 prog 27 1 = some 5 ∧ zbX prog 27 1 = some 1 ∧ zb8 prog 27 2 = some 5 ∧ zbX prog 27 2 = some 2 ∧ zb8 prog 27 3 = some 23 ∧ zbX prog 27 3 = some 3 ∧ zb8 prog 27 4 = some 24 ∧ zbX prog 27 4 = some 5 ∧ zb8 prog 27 5 = some 25 ∧ zbX prog 27 5 = some 6 := by and_intros <;> kernel_rfl
@[go_sem] theorem t_28 : tk prog 28 = .arr 4 5 ∧ tsz prog 28 = some 4 ∧ tby prog 28 = some 4 ∧ tz prog 28 = some [(.v (.int .u8 0)), (.v (.int .u8 0)), (.v (.int .u8 0)), (.v (.int .u8 0))] ∧ zbi prog 28 = some true := by and_intros <;> kernel_rfl
@[go_sem] theorem t_30 : tk prog 30 = .str ∧ tsz prog 30 = some 18 ∧ tby prog 30 = some 18 ∧ tz prog 30 = some [(.v (.int .u8 0)), (.v (.int .u8 0)), (.v (.int .u8 0)), (.v (.int .u8 0)), (.v (.int .u8 0)), (.v (.int .u8 0)), (.v (.int .u8 0)), (.v (.int .u8 0)), (.v (.int .u8 0)), (.v (.int .u8 0)), (.v (.int .u8 0)), (.v (.int .u8 0)), (.v (.int .u8 0)), (.v (.int .u8 0)), (.v (.int .u8 0)), (.v (.int .u8 0)), (.v (.int .u8 0)), (.v (.int .u8 0))] ∧ zbi prog 30 = some true ∧ tfi prog 30 = true ∧ zb8 prog 30 0 = some 25 ∧ zbX prog 30 0 = some 0 ∧ zb8 prog 30 1 = some 25 ∧ zbX prog 30 1 = some 6 ∧ zb8 prog 30 2 = some 28 ∧ zbX prog 30 2 = some 12 ∧ zb8 prog 30 3 = some 5 ∧ zbX prog 30 3 = some 16 ∧ zb8 prog 30 4 = some 5 ∧ zbX prog 30 4 = some 17 := by and_intros <;> kernel_rfl
@[go_sem] theorem t_32 : tk prog 32 = .sl 33 ∧ tsz prog 32 = some 1 ∧ tby prog 32 = some 24 ∧ tz prog 32 = some [(.v (.slice .none 0 0))] ∧ zbi prog 32 = some false := by and_intros <;> kernel_rfl
@[go_sem] theorem t_33 : tk prog 33 = .sl 3 ∧ tsz prog 33 = some 1 ∧ tby prog 33 = some 24 ∧ tz prog 33 = some [(.v (.slice .none 0 0))] ∧ zbi prog 33 = some false := by and_intros <;> kernel_rfl
@[go_sem] theorem t_35 : tk prog 35 = .str ∧ tsz prog 35 = some 3 ∧ tby prog 35 = some 56 ∧ tz prog 35 = some [(.v (.int .i64 0)), (.v (.slice .none 0 0)), (.v (.slice .none 0 0))] ∧ zbi prog 35 = some true ∧ tfi prog 35 = true ∧ zb8 prog 35 0 = some 3 ∧ zbX prog 35 0 = some 0 ∧ zb8 prog 35 1 = some 32 ∧ zbX prog 35 1 = some 1 ∧ zb8 prog 35 2 = some 33 ∧ zbX prog 35 2 = some 2 := by and_intros <;> kernel_rfl
@[go_sem] theorem t_36 : tk prog 36 = .sl 122 ∧ tsz prog 36 = some 1 ∧ tby prog 36 = some 24 ∧ tz prog 36 = some [(.v (.slice .none 0 0))] ∧ zbi prog 36 = some false := by and_intros <;> kernel_rfl
@[go_sem] theorem t_37 : tk prog 37 = .sl 75 ∧ tsz prog 37 = some 1 ∧ tby prog 37 = some 24 ∧ tz prog 37 = some [(.v (.slice .none 0 0))] ∧ zbi prog 37 = some false := by and_intros <;> kernel_rfl
@[go_sem] theorem t_39 : tk prog 39 = .str ∧ tsz prog 39 = some 9 ∧ tby prog 39 = some 136 ∧ tz prog 39 = some [(.v (.int .i64 0)), (.v (.slice .none 0 0)), (.v (.slice .none 0 0)), (.v (.slice .none 0 0)), (.v (.int .i64 0)), (.v (.bool false)), (.v (.slice .none 0 0)), (.v (.int .i64 0)), (.v (.int .i64 0))] ∧ zbi prog 39 = some true ∧ tfi prog 39 = true ∧ zb8 prog 39 0 = some 35 ∧ zbX prog 39 0 = some 0 ∧ zb8 prog 39 1 = some 36 ∧ zbX prog 39 1 = some 3 ∧ zb8 prog 39 2 = some 3 ∧ zbX prog 39 2 = some 4 ∧ zb8 prog 39 3 = some 4 ∧ zbX prog 39 3 = some 5 ∧ zb8 prog 39 4 = some 37 ∧ zbX prog 39 4 = some 6 ∧ zb8 prog 39 5 = some 3 ∧ zbX prog 39 5 = some 7 ∧ zb8 prog 39 6 = some 3 ∧ zbX prog 39 6 = some 8 := by and_intros <;> kernel_rfl
@[go_sem] theorem t_43 : tk prog 43 = .arr 2 33 ∧ tsz prog 43 = some 2 ∧ tby prog 43 = some 48 ∧ tz prog 43 = some [(.v (.slice .none 0 0)), (.v (.slice .none 0 0))] ∧ zbi prog 43 = some true := by and_intros <;> kernel_rfl
@[go_sem] theorem t_45 : tk prog 45 = .str ∧ tsz prog 45 = some 5 ∧ tby prog 45 = some 88 ∧ tz prog 45 = some [(.v (.slice .none 0 0)), (.v (.slice .none 0 0)), (.v (.slice .none 0 0)), (.v (.int .i64 0)), (.v (.int .i64 0))] ∧ zbi prog 45 = some true ∧ tfi prog 45 = true ∧ zb8 prog 45 0 = some 33 ∧ zbX prog 45 0 = some 0 ∧ zb8 prog 45 1 = some 43 ∧ zbX prog 45 1 = some 1 ∧ zb8 prog 45 2 = some 3 ∧ zbX prog 45 2 = some 3 ∧ zb8 prog 45 3 = some 3 ∧ zbX prog 45 3 = some 4 := by and_intros <;> kernel_rfl
@[go_sem] theorem t_47 : tk prog 47 = .sl 45 ∧ tsz prog 47 = some 1 ∧ tby prog 47 = some 24 ∧ tz prog 47 = some [(.v (.slice .none 0 0))] ∧ zbi prog 47 = some false := by and_intros <;> kernel_rfl
@[go_sem] theorem t_48 : tk prog 48 = .int .i64 ∧ tsz prog 48 = some 1 ∧ tby prog 48 = some 8 ∧ tz prog 48 = some [(.v (.int .i64 0))] ∧ zbi prog 48 = some false ∧ tz1 prog 48 = some (.int .i64 0) := by and_intros <;> kernel_rfl
@[go_sem] theorem t_49 : tk prog 49 = .other ∧ tsz prog 49 = some 1 ∧ tby prog 49 = some 0 ∧ zbi prog 49 = some false := by and_intros <;> kernel_rfl
@[go_sem] theorem t_62 : tk prog 62 = .other ∧ tsz prog 62 = some 1 ∧ tby prog 62 = some 0 ∧ zbi prog 62 = some false := by and_intros <;> kernel_rfl
@[go_sem] theorem t_64 : tk prog 64 = .str ∧ tsz prog 64 = some 31 ∧ tby prog 64 = some 136 ∧ tz prog 64 = some [(.v (.int .u8 0)), (.v (.int .u8 0)), (.v (.int .u8 0)), (.v (.slice .none 0 0)), (.v (.slice .none 0 0)), (.v (.slice .none 0 0)), (.v (.int .u8 0)), (.v (.int .u8 0)), (.v (.int .u8 0)), (.v (.int .u8 0)), (.v (.int .u8 0)), (.v (.int .u8 0)), (.v (.int .u8 0)), (.v (.int .u8 0)), (.v (.int .u8 0)), (.v (.int .u8 0)), (.v (.int .u8 0)), (.v (.int .u8 0)), (.v (.int .u8 0)), (.v (.int .u8 0)), (.v (.int .u8 0)), (.v (.int .u8 0)), (.v (.int .u8 0)), (.v (.int .u8 0)), (.v (.int .u8 0)), (.v (.int .u8 0)), (.v (.int .u8 0)), (.v (.int .u8 0)), (.v (.int .u8 0)), (.v (.int .u8 0)), (.v (.slice .none 0 0))] ∧ zbi prog 64 = some true ∧ tfi prog 64 = true ∧ zb8 prog 64 0 = some 27 ∧ zbX prog 64 0 = some 0 ∧ zb8 prog 64 1 = some 30 ∧ zbX prog 64 1 = some 12 ∧ zb8 prog 64 2 = some 22 ∧ zbX prog 64 2 = some 30 := by and_intros <;> kernel_rfl
@[go_sem] theorem t_65 : tk prog 65 = .str ∧ tsz prog 65 = some 31 ∧ tby prog 65 = some 136 ∧ tz prog 65 = some [(.v (.int .u8 0)), (.v (.int .u8 0)), (.v (.int .u8 0)), (.v (.slice .none 0 0)), (.v (.slice .none 0 0)), (.v (.slice .none 0 0)), (.v (.int .u8 0)), (.v (.int .u8 0)), (.v (.int .u8 0)), (.v (.int .u8 0)), (.v (.int .u8 0)), (.v (.int .u8 0)), (.v (.int .u8 0)), (.v (.int .u8 0)), (.v (.int .u8 0)), (.v (.int .u8 0)), (.v (.int .u8 0)), (.v (.int .u8 0)), (.v (.int .u8 0)), (.v (.int .u8 0)), (.v (.int .u8 0)), (.v (.int .u8 0)), (.v (.int .u8 0)), (.v (.int .u8 0)), (.v (.int .u8 0)), (.v (.int .u8 0)), (.v (.int .u8 0)), (.v (.int .u8 0)), (.v (.int .u8 0)), (.v (.int .u8 0)), (.v (.slice .none 0 0))] ∧ zbi prog 65 = some true ∧ tfi prog 65 = true ∧ zb8 prog 65 0 = some 27 ∧ zbX prog 65 0 = some 0 ∧ zb8 prog 65 1 = some 30 ∧ zbX prog 65 1 = some 12 ∧ zb8 prog 65 2 = some 22 ∧ zbX prog 65 2 = some 30 := by and_intros <;> kernel_rfl
@[go_sem] theorem t_66 : tk prog 66 = .other ∧ tsz prog 66 = some 1 ∧ tby prog 66 = some 0 ∧ zbi prog 66 = some false := by and_intros <;> kernel_rfl
@[go_sem] theorem t_70 : tk prog 70 = .str ∧ tsz prog 70 = some 2 ∧ tby prog 70 = some 32 ∧ tz prog 70 = some [(.v (.slice .none 0 0)), (.v (.int .i64 0))] ∧ zbi prog 70 = some true ∧ tfi prog 70 = true ∧ zb8 prog 70 0 = some 47 ∧ zbX prog 70 0 = some 0 ∧ zb8 prog 70 1 = some 48 ∧ zbX prog 70 1 = some 1 := by and_intros <;> kernel_rfl
@[go_sem] theorem t_75 : tk prog 75 = .str ∧ tsz prog 75 = some 4 ∧ tby prog 75 = some 32 ∧ tz prog 75 = some [(.v (.int .i64 0)), (.v (.int .i64 0)), (.v (.int .i64 0)), (.v (.int .i64 0))] ∧ zbi prog 75 = some true ∧ tfi prog 75 = true ∧ zoW prog 75 = some [false, false, false, false] ∧ zb8 prog 75 0 = some 3 ∧ zbX prog 75 0 = some 0 ∧ zb8 prog 75 1 = some 3 ∧ zbX prog 75 1 = some 1 ∧ zb8 prog 75 2 = some 3 ∧ zbX prog 75 2 = some 2 ∧ zb8 prog 75 3 = some 3 ∧ zbX prog 75 3 = some 3 := by and_intros <;> kernel_rfl
@[go_sem] theorem t_78 : tk prog 78 = .other ∧ tsz prog 78 = some 1 ∧ tby prog 78 = some 8 ∧ tz prog 78 = some [(.v .nilFunc)] ∧ zbi prog 78 = some false := by and_intros <;> kernel_rfl
@[go_sem] theorem t_80 : tk prog 80 = .arr 3 5 ∧ tsz prog 80 = some 3 ∧ tby prog 80 = some 3 ∧ tz prog 80 = some [(.v (.int .u8 0)), (.v (.int .u8 0)), (.v (.int .u8 0))] ∧ zbi prog 80 = some true := by and_intros <;> kernel_rfl
@[go_sem] theorem t_102 : tk prog 102 = .sl 138 ∧ tsz prog 102 = some 1 ∧ tby prog 102 = some 24 ∧ tz prog 102 = some [(.v (.slice .none 0 0))] ∧ zbi prog 102 = some false := by and_intros <;> kernel_rfl
@[go_sem] theorem t_103 : tk prog 103 = .arr 2 102 ∧ tsz prog 103 = some 2 ∧ tby prog 103 = some 48 ∧ tz prog 103 = some [(.v (.slice .none 0 0)), (.v (.slice .none 0 0))] ∧ zbi prog 103 = some true := by and_intros <;> kernel_rfl
@[go_sem] theorem t_105 : tk prog 105 = .str ∧ tsz prog 105 = some 2 ∧ tby prog 105 = some 48 ∧ tz prog 105 = some [(.v (.slice .none 0 0)), (.v (.slice .none 0 0))] ∧ zbi prog 105 = some true ∧ tfi prog 105 = true ∧ zb8 prog 105 0 = some 103 ∧ zbX prog 105 0 = some 0 := by and_intros <;> kernel_rfl
@[go_sem] theorem t_117 : tk prog 117 = .str ∧ tsz prog 117 = some 2 ∧ tby prog 117 = some 16 ∧ tz prog 117 = some [(.v (.int .i64 0)), (.v (.int .i64 0))] ∧ zbi prog 117 = some true ∧ tfi prog 117 = true ∧ zoW prog 117 = some [false, false] ∧ zb8 prog 117 0 = some 3 ∧ zbX prog 117 0 = some 0 ∧ zb8 prog 117 1 = some 3 ∧ zbX prog 117 1 = some 1 := by and_intros <;> kernel_rfl
@[go_sem] theorem t_119 : tk prog 119 = .sl 117 ∧ tsz prog 119 = some 1 ∧ tby prog 119 = some 24 ∧ tz prog 119 = some [(.v (.slice .none 0 0))] ∧ zbi prog 119 = some false := by and_intros <;> kernel_rfl
@[go_sem] theorem t_120 : tk prog 120 = .sl 119 ∧ tsz prog 120 = some 1 ∧ tby prog 120 = some 24 ∧ tz prog 120 = some [(.v (.slice .none 0 0))] ∧ zbi prog 120 = some false := by and_intros <;> kernel_rfl
@[go_sem] theorem t_122 : tk prog 122 = .str ∧ tsz prog 122 = some 3 ∧ tby prog 122 = some 48 ∧ tz prog 122 = some [(.v (.string ⟨⟨[]⟩⟩)), (.v (.slice .none 0 0)), (.v (.bool false))] ∧ zbi prog 122 = some true ∧ tfi prog 122 = true ∧ zb8 prog 122 0 = some 9 ∧ zbX prog 122 0 = some 0 ∧ zb8 prog 122 1 = some 120 ∧ zbX prog 122 1 = some 1 ∧ zb8 prog 122 2 = some 4 ∧ zbX prog 122 2 = some 2 := by and_intros <;> kernel_rfl
@[go_sem] theorem t_123 : tk prog 123 = .other ∧ tsz prog 123 = some 1 ∧ tby prog 123 = some 8 ∧ tz prog 123 = some [(.v .nilFunc)] ∧ zbi prog 123 = some false := by and_intros <;> kernel_rfl
@[go_sem] theorem t_127 : tk prog 127 = .sl 9 ∧ tsz prog 127 = some 1 ∧ tby prog 127 = some 24 ∧ tz prog 127 = some [(.v (.slice .none 0 0))] ∧ zbi prog 127 = some false := by and_intros <;> kernel_rfl
@[go_sem] theorem t_131 : tk prog 131 = .other ∧ tsz prog 131 = some 1 ∧ tby prog 131 = some 8 ∧ tz prog 131 = some [(.v .nilFunc)] ∧ zbi prog 131 = some false := by and_intros <;> kernel_rfl
@[go_sem] theorem t_132 : tk prog 132 = .other ∧ tsz prog 132 = some 1 ∧ tby prog 132 = some 8 ∧ tz prog 132 = some [(.v .nilFunc)] ∧ zbi prog 132 = some false := by and_intros <;> kernel_rfl
@[go_sem] theorem t_135 : tk prog 135 = .str ∧ tsz prog 135 = some 6 ∧ tby prog 135 = some 96 ∧ tz prog 135 = some [(.v (.slice .none 0 0)), (.v (.slice .none 0 0)), (.v (.slice .none 0 0)), (.v (.int .i64 0)), (.v (.int .i64 0)), (.v (.bool false))] ∧ zbi prog 135 = some true ∧ tfi prog 135 = true ∧ zb8 prog 135 0 = some 45 ∧ zbX prog 135 0 = some 0 ∧ zb8 prog 135 1 = some 4 ∧ zbX prog 135 1 = some 5 := by and_intros <;> kernel_rfl
@[go_sem] theorem t_138 : tk prog 138 = .sl 139 ∧ tsz prog 138 = some 1 ∧ tby prog 138 = some 24 ∧ tz prog 138 = some [(.v (.slice .none 0 0))] ∧ zbi prog 138 = some false := by and_intros <;> kernel_rfl
@[go_sem] theorem t_139 : tk prog 139 = .sl 142 ∧ tsz prog 139 = some 1 ∧ tby prog 139 = some 24 ∧ tz prog 139 = some [(.v (.slice .none 0 0))] ∧ zbi prog 139 = some false := by and_intros <;> kernel_rfl
@[go_sem] theorem t_140 : tk prog 140 = .sl 145 ∧ tsz prog 140 = some 1 ∧ tby prog 140 = some 24 ∧ tz prog 140 = some [(.v (.slice .none 0 0))] ∧ zbi prog 140 = some false := by and_intros <;> kernel_rfl
@[go_sem] theorem t_142 : tk prog 142 = .str ∧ tsz prog 142 = some 2 ∧ tby prog 142 = some 32 ∧ tz prog 142 = some [(.v (.slice .none 0 0)), (.v (.int .i64 0))] ∧ zbi prog 142 = some true ∧ tfi prog 142 = true ∧ zb8 prog 142 0 = some 140 ∧ zbX prog 142 0 = some 0 ∧ zb8 prog 142 1 = some 3 ∧ zbX prog 142 1 = some 1 := by and_intros <;> kernel_rfl
@[go_sem] theorem t_145 : tk prog 145 = .str ∧ tsz prog 145 = some 3 ∧ tby prog 145 = some 24 ∧ tz prog 145 = some [(.v (.int .i64 0)), (.v (.int .i64 0)), (.v (.int .i64 0))] ∧ zbi prog 145 = some true ∧ tfi prog 145 = true ∧ zoW prog 145 = some [false, false, false] ∧ zb8 prog 145 0 = some 3 ∧ zbX prog 145 0 = some 0 ∧ zb8 prog 145 1 = some 3 ∧ zbX prog 145 1 = some 1 ∧ zb8 prog 145 2 = some 3 ∧ zbX prog 145 2 = some 2 := by and_intros <;> kernel_rfl
@[go_sem] theorem t_153 : tk prog 153 = .other ∧ tsz prog 153 = some 1 ∧ tby prog 153 = some 8 ∧ tz prog 153 = some [(.v .nilFunc)] ∧ zbi prog 153 = some false := by and_intros <;> kernel_rfl
@[go_sem] theorem t_178 : tk prog 178 = .map 9 4 ∧ tsz prog 178 = some 1 ∧ tby prog 178 = some 8 ∧ tz prog 178 = some [(.v (.map .none))] ∧ zbi prog 178 = some false := by and_intros <;> kernel_rfl
@[go_sem] theorem t_192 : tk prog 192 = .other ∧ tsz prog 192 = some 1 ∧ tby prog 192 = some 0 ∧ zbi prog 192 = some false := by and_intros <;> kernel_rfl
@[go_sem] theorem t_197 : tk prog 197 = .other ∧ tsz prog 197 = some 1 ∧ tby prog 197 = some 8 ∧ tz prog 197 = some [(.v .nilFunc)] ∧ zbi prog 197 = some false := by and_intros <;> kernel_rfl
@[go_sem] theorem t_198 : tk prog 198 = .arr 4 197 ∧ tsz prog 198 = some 4 ∧ tby prog 198 = some 32 ∧ tz prog 198 = some [(.v .nilFunc), (.v .nilFunc), (.v .nilFunc), (.v .nilFunc)] ∧ zbi prog 198 = some true := by and_intros <;> kernel_rfl
@[go_sem] theorem t_199 : tk prog 199 = .other ∧ tsz prog 199 = some 1 ∧ tby prog 199 = some 8 ∧ tz prog 199 = some [(.v .nilFunc)] ∧ zbi prog 199 = some false := by and_intros <;> kernel_rfl
@[go_sem] theorem t_200 : tk prog 200 = .other ∧ tsz prog 200 = some 1 ∧ tby prog 200 = some 0 ∧ zbi prog 200 = some false := by and_intros <;> kernel_rfl
@[go_sem] theorem t_202 : tk prog 202 = .sl 135 ∧ tsz prog 202 = some 1 ∧ tby prog 202 = some 24 ∧ tz prog 202 = some [(.v (.slice .none 0 0))] ∧ zbi prog 202 = some false := by and_intros <;> kernel_rfl
@[go_sem] theorem t_203 : tk prog 203 = .other ∧ tsz prog 203 = some 1 ∧ tby prog 203 = some 0 ∧ zbi prog 203 = some false := by and_intros <;> kernel_rfl
@[go_sem] theorem t_208 : tk prog 208 = .str ∧ tsz prog 208 = some 8 ∧ tby prog 208 = some 112 ∧ tz prog 208 = some [(.v (.slice .none 0 0)), (.v (.slice .none 0 0)), (.v (.slice .none 0 0)), (.v (.int .i64 0)), (.v (.int .i64 0)), (.v (.int .i64 0)), (.v (.int .i64 0)), (.v (.bool false))] ∧ zbi prog 208 = some true ∧ tfi prog 208 = true ∧ zb8 prog 208 0 = some 45 ∧ zbX prog 208 0 = some 0 ∧ zb8 prog 208 1 = some 3 ∧ zbX prog 208 1 = some 5 ∧ zb8 prog 208 2 = some 3 ∧ zbX prog 208 2 = some 6 ∧ zb8 prog 208 3 = some 4 ∧ zbX prog 208 3 = some 7 := by and_intros <;> kernel_rfl
@[go_sem] theorem t_211 : tk prog 211 = .str ∧ tsz prog 211 = some 9 ∧ tby prog 211 = some 136 ∧ tz prog 211 = some [(.v (.int .i64 0)), (.v (.slice .none 0 0)), (.v (.slice .none 0 0)), (.v (.slice .none 0 0)), (.v (.int .i64 0)), (.v (.bool false)), (.v (.slice .none 0 0)), (.v (.int .i64 0)), (.v (.int .i64 0))] ∧ zbi prog 211 = some true ∧ tfi prog 211 = true ∧ zb8 prog 211 0 = some 39 ∧ zbX prog 211 0 = some 0 := by and_intros <;> kernel_rfl
@[go_sem] theorem t_212 : tk prog 212 = .other ∧ tsz prog 212 = some 1 ∧ tby prog 212 = some 8 ∧ tz prog 212 = some [(.v .nilFunc)] ∧ zbi prog 212 = some false := by and_intros <;> kernel_rfl
@[go_sem] theorem t_216 : tk prog 216 = .other ∧ tsz prog 216 = some 1 ∧ tby prog 216 = some 8 ∧ tz prog 216 = some [(.v .nilFunc)] ∧ zbi prog 216 = some false := by and_intros <;> kernel_rfl
@[go_sem] theorem t_219 : tk prog 219 = .str ∧ tsz prog 219 = some 2 ∧ tby prog 219 = some 16 ∧ tz prog 219 = some [(.v (.int .i64 0)), (.v (.int .i64 0))] ∧ zbi prog 219 = some true ∧ tfi prog 219 = true ∧ zoW prog 219 = some [false, false] ∧ zb8 prog 219 0 = some 3 ∧ zbX prog 219 0 = some 0 ∧ zb8 prog 219 1 = some 3 ∧ zbX prog 219 1 = some 1 := by and_intros <;> kernel_rfl
@[go_sem] theorem t_224 : tk prog 224 = .int .u64 ∧ tsz prog 224 = some 1 ∧ tby prog 224 = some 8 ∧ tz prog 224 = some [(.v (.int .u64 0))] ∧ zbi prog 224 = some false ∧ tz1 prog 224 = some (.int .u64 0) := by and_intros <;> kernel_rfl
@[go_sem] theorem t_229 : tk prog 229 = .other ∧ tsz prog 229 = some 1 ∧ tby prog 229 = some 8 ∧ tz prog 229 = some [(.v .nilFunc)] ∧ zbi prog 229 = some false := by and_intros <;> kernel_rfl
@[go_sem] theorem t_230 : tk prog 230 = .other ∧ tsz prog 230 = some 1 ∧ tby prog 230 = some 8 ∧ tz prog 230 = some [(.v .nilFunc)] ∧ zbi prog 230 = some false := by and_intros <;> kernel_rfl
@[go_sem] theorem t_257 : tk prog 257 = .other ∧ tsz prog 257 = some 1 ∧ tby prog 257 = some 8 ∧ tz prog 257 = some [(.v .nilFunc)] ∧ zbi prog 257 = some false := by and_intros <;> kernel_rfl
@[go_sem] theorem t_259 : tk prog 259 = .other ∧ tsz prog 259 = some 1 ∧ tby prog 259 = some 8 ∧ tz prog 259 = some [(.v .nilFunc)] ∧ zbi prog 259 = some false := by and_intros <;> kernel_rfl
@[go_sem] theorem t_261 : tk prog 261 = .other ∧ tsz prog 261 = some 1 ∧ tby prog 261 = some 8 ∧ tz prog 261 = some [(.v .nilFunc)] ∧ zbi prog 261 = some false := by and_intros <;> kernel_rfl
@[go_sem] theorem t_266 : tk prog 266 = .other ∧ tsz prog 266 = some 1 ∧ tby prog 266 = some 8 ∧ tz prog 266 = some [(.v .nilFunc)] ∧ zbi prog 266 = some false := by and_intros <;> kernel_rfl
@[go_sem] theorem t_297 : tk prog 297 = .sl 208 ∧ tsz prog 297 = some 1 ∧ tby prog 297 = some 24 ∧ tz prog 297 = some [(.v (.slice .none 0 0))] ∧ zbi prog 297 = some false := by and_intros <;> kernel_rfl
@[go_sem] theorem t_301 : tk prog 301 = .map 4 3 ∧ tsz prog 301 = some 1 ∧ tby prog 301 = some 8 ∧ tz prog 301 = some [(.v (.map .none))] ∧ zbi prog 301 = some false := by and_intros <;> kernel_rfl
@[go_sem] theorem t_303 : tk prog 303 = .int .i64 ∧ tsz prog 303 = some 1 ∧ tby prog 303 = some 8 ∧ tz prog 303 = some [(.v (.int .i64 0))] ∧ zbi prog 303 = some false ∧ tz1 prog 303 = some (.int .i64 0) := by and_intros <;> kernel_rfl
@[go_sem] theorem t_304 : tk prog 304 = .other ∧ tsz prog 304 = some 1 ∧ tby prog 304 = some 0 ∧ zbi prog 304 = some false := by and_intros <;> kernel_rfl
@[go_sem] theorem t_310 : tk prog 310 = .int .u32 ∧ tsz prog 310 = some 1 ∧ tby prog 310 = some 4 ∧ tz prog 310 = some [(.v (.int .u32 0))] ∧ zbi prog 310 = some false ∧ tz1 prog 310 = some (.int .u32 0) := by and_intros <;> kernel_rfl
@[go_sem] theorem t_312 : tk prog 312 = .int .u64 ∧ tsz prog 312 = some 1 ∧ tby prog 312 = some 8 ∧ tz prog 312 = some [(.v (.int .u64 0))] ∧ zbi prog 312 = some false ∧ tz1 prog 312 = some (.int .u64 0) := by and_intros <;> kernel_rfl
@[go_sem] theorem t_314 : tk prog 314 = .other ∧ tsz prog 314 = some 1 ∧ tby prog 314 = some 8 ∧ tz prog 314 = some [(.v .nilFunc)] ∧ zbi prog 314 = some false := by and_intros <;> kernel_rfl
@[go_sem] theorem t_327 : tk prog 327 = .other ∧ tsz prog 327 = some 1 ∧ tby prog 327 = some 8 ∧ tz prog 327 = some [(.v .nilFunc)] ∧ zbi prog 327 = some false := by and_intros <;> kernel_rfl
@[go_sem] theorem t_329 : tk prog 329 = .arr 11 327 ∧ tsz prog 329 = some 11 ∧ tby prog 329 = some 88 ∧ tz prog 329 = some [(.v .nilFunc), (.v .nilFunc), (.v .nilFunc), (.v .nilFunc), (.v .nilFunc), (.v .nilFunc), (.v .nilFunc), (.v .nilFunc), (.v .nilFunc), (.v .nilFunc), (.v .nilFunc)] ∧ zbi prog 329 = some true := by and_intros <;> kernel_rfl
@[go_sem] theorem t_337 : tk prog 337 = .int .u64 ∧ tsz prog 337 = some 1 ∧ tby prog 337 = some 8 ∧ tz prog 337 = some [(.v (.int .u64 0))] ∧ zbi prog 337 = some false ∧ tz1 prog 337 = some (.int .u64 0) := by and_intros <;> kernel_rfl
@[go_sem] theorem t_341 : tk prog 341 = .ptr 3 ∧ tsz prog 341 = some 1 ∧ tby prog 341 = some 8 ∧ tz prog 341 = some [(.v (.pointer .none))] ∧ zbi prog 341 = some false := by and_intros <;> kernel_rfl
@[go_sem] theorem t_343 : tk prog 343 = .sl 140 ∧ tsz prog 343 = some 1 ∧ tby prog 343 = some 24 ∧ tz prog 343 = some [(.v (.slice .none 0 0))] ∧ zbi prog 343 = some false := by and_intros <;> kernel_rfl
@[go_sem] theorem t_345 : tk prog 345 = .other ∧ tsz prog 345 = some 1 ∧ tby prog 345 = some 8 ∧ tz prog 345 = some [(.v .nilFunc)] ∧ zbi prog 345 = some false := by and_intros <;> kernel_rfl
@[go_sem] theorem t_346 : tk prog 346 = .other ∧ tsz prog 346 = some 1 ∧ tby prog 346 = some 8 ∧ tz prog 346 = some [(.v .nilFunc)] ∧ zbi prog 346 = some false := by and_intros <;> kernel_rfl
@[go_sem] theorem t_349 : tk prog 349 = .sl 353 ∧ tsz prog 349 = some 1 ∧ tby prog 349 = some 24 ∧ tz prog 349 = some [(.v (.slice .none 0 0))] ∧ zbi prog 349 = some false := by and_intros <;> kernel_rfl
@[go_sem] theorem t_351 : tk prog 351 = .str ∧ tsz prog 351 = some 2 ∧ tby prog 351 = some 32 ∧ tz prog 351 = some [(.v (.slice .none 0 0)), (.v (.int .i64 0))] ∧ zbi prog 351 = some true ∧ tfi prog 351 = true ∧ zb8 prog 351 0 = some 349 ∧ zbX prog 351 0 = some 0 ∧ zb8 prog 351 1 = some 48 ∧ zbX prog 351 1 = some 1 := by and_intros <;> kernel_rfl
@[go_sem] theorem t_353 : tk prog 353 = .sl 355 ∧ tsz prog 353 = some 1 ∧ tby prog 353 = some 24 ∧ tz prog 353 = some [(.v (.slice .none 0 0))] ∧ zbi prog 353 = some false := by and_intros <;> kernel_rfl
@[go_sem] theorem t_355 : tk prog 355 = .str ∧ tsz prog 355 = some 8 ∧ tby prog 355 = some 112 ∧ tz prog 355 = some [(.v (.slice .none 0 0)), (.v (.slice .none 0 0)), (.v (.slice .none 0 0)), (.v (.int .i64 0)), (.v (.int .i64 0)), (.v (.int .i64 0)), (.v (.int .i64 0)), (.v (.bool false))] ∧ zbi prog 355 = some true ∧ tfi prog 355 = true ∧ zb8 prog 355 0 = some 45 ∧ zbX prog 355 0 = some 0 ∧ zb8 prog 355 1 = some 3 ∧ zbX prog 355 1 = some 5 ∧ zb8 prog 355 2 = some 3 ∧ zbX prog 355 2 = some 6 ∧ zb8 prog 355 3 = some 4 ∧ zbX prog 355 3 = some 7 := by and_intros <;> kernel_rfl
@[go_sem] theorem t_362 : tk prog 362 = .ptr 337 ∧ tsz prog 362 = some 1 ∧ tby prog 362 = some 8 ∧ tz prog 362 = some [(.v (.pointer .none))] ∧ zbi prog 362 = some false := by and_intros <;> kernel_rfl
@[go_sem] theorem t_380 : tk prog 380 = .arr 24 5 ∧ tsz prog 380 = some 24 ∧ tby prog 380 = some 24 ∧ tz prog 380 = some [(.v (.int .u8 0)), (.v (.int .u8 0)), (.v (.int .u8 0)), (.v (.int .u8 0)), (.v (.int .u8 0)), (.v (.int .u8 0)), (.v (.int .u8 0)), (.v (.int .u8 0)), (.v (.int .u8 0)), (.v (.int .u8 0)), (.v (.int .u8 0)), (.v (.int .u8 0)), (.v (.int .u8 0)), (.v (.int .u8 0)), (.v (.int .u8 0)), (.v (.int .u8 0)), (.v (.int .u8 0)), (.v (.int .u8 0)), (.v (.int .u8 0)), (.v (.int .u8 0)), (.v (.int .u8 0)), (.v (.int .u8 0)), (.v (.int .u8 0)), (.v (.int .u8 0))] ∧ zbi prog 380 = some true := by and_intros <;> kernel_rfl
@[go_sem] theorem t_382 : tk prog 382 = .other ∧ tsz prog 382 = some 1 ∧ tby prog 382 = some 0 ∧ zbi prog 382 = some false := by and_intros <;> kernel_rfl
end Go.Av
end
section
open Go Go.Proofs
namespace Go.Av
def zb5 (n : Int) : List AV := [.v (.int .i64 n)]
def zap (l : List Int) : AV := .lst 1 (l.map zb5)
def zcg (l : List (List Int)) : AV := .lst 1 (l.map fun l => [zap l])
structure zfZ where
 name : ByteArray
 progs : List (List (Int × Int))
 keep : Bool
 deriving Inhabited
structure zae where
 cells : Int
 next : List (List Int)
 turn : List Int
 kinds : List zfZ
 rights : Int
 must : Bool
 clauses : List (Int × Int × Int × Int)
 blocked : Int
 endless : Int
structure zah where
 at_ : List Int
 h0 : List Int
 h1 : List Int
 rights : Int
 side : Int
 deriving DecidableEq
def zaA (s : Int × Int) : List AV := [.v (.int .i64 s.1), .v (.int .i64 s.2)]
def zaS (k : zfZ) : List AV := [.v (.string k.name), .lst 1 (k.progs.map fun p => [.lst 2 (p.map zaA)]), .v (.bool k.keep)]
def zaZ (c : Int × Int × Int × Int) : List AV := [.v (.int .i64 c.1), .v (.int .i64 c.2.1), .v (.int .i64 c.2.2.1), .v (.int .i64 c.2.2.2)]
def zxF (cells : Int) (next : List (List Int)) (turn : List Int) : List AV := [.v (.int .i64 cells), zcg next, zap turn]
def zac (g : zae) : List AV := [.v (.int .i64 g.cells), zcg g.next, zap g.turn, .lst 3 (g.kinds.map zaS), .v (.int .i64 g.rights), .v (.bool g.must), .lst 4 (g.clauses.map zaZ), .v (.int .i64 g.blocked), .v (.int .i64 g.endless)]
def zad (p : zah) : List AV := [zap p.at_, zap p.h0, zap p.h1, .v (.int .i64 p.rights), .v (.int .i64 p.side)]
attribute [go_sem] zb5 zap zcg zaA zaS zaZ zxF zac zad
def ze5 (l : List Int) : Prop := l.length ≤ 1099511627776
theorem zxh {n : Nat} {l : List Int} : (∀ r ∈ l.map zb5, ∀ c ∈ r, Bel n c) = True := by
 refine eq_true ?_
 intro r hr c hc
 obtain ⟨x, _, rfl⟩ := List.mem_map.1 hr
 simp only [zb5, List.mem_singleton] at hc
 subst hc; exact .v _
theorem zq9 {n : Nat} {l : List Int} : Bel n (.lst 1 (l.map zb5)) = True := by rw [zcc, zxh]
attribute [go_sem high] zq9

def za6 (a b : Int) : Int := if a < b then -1 else if b < a then 1 else 0
theorem zeR (a b : Int) : zaL Tryz.prog 155 [.v (.int .i64 a), .v (.int .i64 b)] (.v (.int .i64 (za6 a b))) := by
 refine pF Tryz.func155 ?_
 simp [go_sem]
 refine zAt (fun h => ?_) (fun h => ?_)
 ·simp at h
  simp [go_sem, za6, h]
 ·simp at h
  simp [go_sem]
  refine zAt (fun h2 => ?_) (fun h2 => ?_)
  ·simp at h2
   simp [go_sem, za6, h2, show ¬ a < b by omega]
  ·simp at h2
   simp [go_sem, za6, show ¬ b < a by omega, show ¬ a < b by omega]
def zej : List Int → List Int → Int
 | x :: a, y :: b => if x = y then zej a b else za6 x y
 | a, b => za6 a.length b.length
theorem zgU (b : List Int) : zej [] b = za6 0 b.length := by cases b <;> rfl
theorem zf9 (a : List Int) : zej a [] = za6 a.length 0 := by cases a <;> rfl
theorem zjK (a b : List Int) (ha : ze5 a) (hb : ze5 b) : zaL Tryz.prog 154 [zap a, zap b] (.v (.int .i64 (zej a b))) := by
 refine pF Tryz.func154 ?_
 unfold ze5 at ha hb
 simp [go_sem]
 refine zAr (zAv (α := Nat) (fun j => ⟨[(0, zap a), (1, zap b), (5, .v (.int .i64 j))], [], 0⟩)
  (fun d j => j + d = a.length ∧ j ≤ b.length ∧ zej a b = zej (a.drop j) (b.drop j)) ?_ a.length 0 ?_) ?_ ?_
 ·rintro d j ⟨i1, i2, i3⟩ hrec
  simp [go_sem]
  refine zAt (fun hj => ?_) (fun hj => ?_)
  ·simp at hj
   obtain ⟨hj1, hj2⟩ := hj
   have hd1 : a.drop j = nth a j :: a.drop (j + 1) := by rw [List.drop_eq_getElem_cons hj1, zaC _ _ hj1]
   have hd2 : b.drop j = nth b j :: b.drop (j + 1) := by rw [List.drop_eq_getElem_cons hj2, zaC _ _ hj2]
   rw [hd1, hd2, zej] at i3
   simp [go_sem]
   try ((with_reducible refine wZ ?_); (try simp [go_sem]))
   refine zAT hj1 fun _ => ?_
   simp [go_sem, hj1]
   try ((with_reducible refine wZ ?_); (try simp [go_sem]))
   refine zAT hj2 fun _ => ?_
   simp [go_sem, hj2]
   try ((with_reducible refine wZ ?_); (try simp [go_sem]))
   refine zkt.mk (by kernel_rfl) ?_
   simp [go_sem]
   refine zAt (fun he => ?_) (fun he => ?_)
   ·simp at he
    rw [if_neg he] at i3
    simp [go_sem]
    try ((with_reducible refine wZ ?_); (try simp [go_sem]))
    refine zAT hj1 fun _ => ?_
    simp [go_sem, hj1]
    try ((with_reducible refine wZ ?_); (try simp [go_sem]))
    refine zAT hj2 fun _ => ?_
    simp [go_sem, hj2]
    try ((with_reducible refine wZ ?_); (try simp [go_sem]))
    refine zAu (zeR _ _) (by simp [go_sem]) ?_
    simp [go_sem]
    try ((with_reducible refine wZ ?_); (try simp [go_sem]))
    refine zkt.mk (by kernel_rfl) ?_
    simp [go_sem, i3]
   ·simp at he
    rw [if_pos he] at i3
    simp [go_sem]
    refine zAP (by omega) fun _ => ?_
    simp [go_sem]
    refine zAr (hrec (d - 1) (by omega) (j + 1) ⟨by omega, by omega, i3⟩) ?_ (by simp)
    simp [go_sem, zaf]
  ·simp at hj
   simp [go_sem]
   refine zAs (zeR _ _) (by simp [go_sem]) ?_
   have : za6 a.length b.length = zej a b := by
    rw [i3]
    rcases Nat.lt_or_ge j a.length with h | h
    ·have hb' := hj h
     rw [List.drop_eq_nil_of_le hb', zf9]
     simp only [za6, List.length_drop]
     split <;> split <;> (try split) <;> (try split) <;> omega
    ·rw [List.drop_eq_nil_of_le h, zgU]
     simp only [za6, List.length_drop]
     split <;> split <;> (try split) <;> (try split) <;> omega
   simp [go_sem, this]
 ·simp
 ·simp [go_sem, zaf]
 ·simp
theorem zfj {l : List Int} {j : Nat} (h : j < l.length) : l.drop j = nth l j :: l.drop (j + 1) := by rw [List.drop_eq_getElem_cons h, zaC _ _ h]
def zaU (p : zah) : Prop := ze5 p.at_ ∧ ze5 p.h0 ∧ ze5 p.h1
def zbx (p q : zah) : Int :=
 if zej p.at_ q.at_ ≠ 0 then zej p.at_ q.at_ else if zej p.h0 q.h0 ≠ 0 then zej p.h0 q.h0 else if zej p.h1 q.h1 ≠ 0 then zej p.h1 q.h1 else if za6 p.rights q.rights ≠ 0 then za6 p.rights q.rights else za6 p.side q.side
theorem zdQ (a b : zah) (ha : zaU a) (hb : zaU b) : zaL Tryz.prog 102 [.agg (zad a), .agg (zad b)] (.v (.int .i64 (zbx a b))) := by
 refine pF Tryz.func102 ?_
 obtain ⟨a1, a2, a3⟩ := ha
 obtain ⟨b1, b2, b3⟩ := hb
 simp [go_sem]
 try ((with_reducible refine wZ ?_); (try simp [go_sem]))
 refine zAu (zjK _ _ a1 b1) (by simp [go_sem]) ?_
 simp [go_sem]
 try ((with_reducible refine wZ ?_); (try simp [go_sem]))
 refine zAu (zjK _ _ a2 b2) (by simp [go_sem]) ?_
 simp [go_sem]
 try ((with_reducible refine wZ ?_); (try simp [go_sem]))
 refine zAu (zjK _ _ a3 b3) (by simp [go_sem]) ?_
 simp [go_sem]
 try ((with_reducible refine wZ ?_); (try simp [go_sem]))
 refine zAu (zeR _ _) (by simp [go_sem]) ?_
 simp [go_sem]
 try ((with_reducible refine wZ ?_); (try simp [go_sem]))
 refine zAu (zeR _ _) (by simp [go_sem]) ?_
 simp [go_sem]
 try ((with_reducible refine wZ ?_); (try simp [go_sem]))
 refine zkt.mk (by kernel_rfl) ?_
 simp [go_sem]
 generalize e1 : zej a.at_ b.at_ = x1
 generalize e2 : zej a.h0 b.h0 = x2
 generalize e3 : zej a.h1 b.h1 = x3
 generalize e4 : za6 a.rights b.rights = x4
 generalize e5 : za6 a.side b.side = x5
 unfold zbx
 rw [e1, e2, e3, e4, e5]
 refine zAA ?_
 simp [go_sem]
 refine zAt (fun h1 => ?_) (fun h1 => ?_) <;> simp at h1 <;> simp [go_sem, h1]
 refine zAA ?_
 simp [go_sem]
 refine zAt (fun h2 => ?_) (fun h2 => ?_) <;> simp at h2 <;> simp [go_sem, h1, h2]
 refine zAA ?_
 simp [go_sem]
 refine zAt (fun h3 => ?_) (fun h3 => ?_) <;> simp at h3 <;> simp [go_sem, h1, h2, h3]
 refine zAA ?_
 simp [go_sem]
 refine zAt (fun h4 => ?_) (fun h4 => ?_) <;> simp at h4 <;> simp [go_sem, h1, h2, h3, h4]
 refine zAA ?_
 simp [go_sem]
 refine zAt (fun h5 => ?_) (fun h5 => ?_) <;> simp at h5 <;> simp [go_sem, h1, h2, h3, h4, h5]
 refine zAA ?_
 simp [go_sem]
def zv7 (n : Nat) (p : zah) : AV := .agg [.sl (n + 2) 1 1 0 p.at_.length, .sl (n + 3) 1 1 0 p.h0.length, .sl (n + 8) 1 1 0 p.h1.length, .v (.int .i64 p.rights), .v (.int .i64 p.side)]
def zqw (n : Nat) (p : zah) : List (Nat × zbq) := [(n + 2, .rows true 1 1 (p.at_.map zb5)), (n + 3, .rows true 1 1 (p.h0.map zb5)), (n + 8, .rows true 1 1 (p.h1.map zb5))]
attribute [go_sem] zv7 zqw
theorem zdF (p : zah) (ha : zaU p) : zgi Tryz.prog 247 [.agg (zad p)] (fun n => zv7 n p) (fun n => zqw n p) 9 := by
 refine ⟨zAw (by kernel_rfl) Tryz.func247 rfl rfl (Nat.le_of_ble_eq_true rfl) (by kernel_rfl) ?_, fun n => ⟨?_, ?_⟩⟩
 ·obtain ⟨a1, a2, a3⟩ := ha
  unfold ze5 at a1 a2 a3
  simp [go_sem]
  refine zAP (by omega) fun _ => ?_
  simp [go_sem]
  try ((with_reducible refine wZ ?_); (try simp [go_sem]))
  refine zAT (by omega) fun _ => ?_
  simp [go_sem]
  try ((with_reducible refine wZ ?_); (try simp [go_sem]))
  refine zAT (by omega) fun _ => ?_
  simp [go_sem]
  try ((with_reducible refine wZ ?_); (try simp [go_sem]))
  refine zkt.mk (by kernel_rfl) ?_
  simp [go_sem, zaf]
 ·simp [go_sem]
 ·simp [go_sem]
theorem zdx (l : List Int) (hl : ze5 l) : zgi Tryz.prog 124 [zap l] (fun n => .sl n 1 1 0 l.length) (fun n => [(n, .rows true 1 1 (l.map zb5))]) 1 := by
 refine ⟨zAW (fun hne => zAw (by kernel_rfl) Tryz.func124 rfl rfl (Nat.le_of_ble_eq_true rfl) (by kernel_rfl) ?_)
  (fun he A c => zAw (by kernel_rfl) Tryz.func124 rfl rfl (Nat.le_of_ble_eq_true rfl) (by kernel_rfl) ?_), fun n => ⟨?_, ?_⟩⟩
 ·unfold ze5 at hl
  obtain ⟨x, l, rfl⟩ := List.exists_cons_of_ne_nil (show l ≠ [] by intro h; subst h; exact hne rfl)
  simp only [List.length_cons] at hl
  simp [go_sem]
  refine zAP (by omega) fun _ => ?_
  simp [go_sem, zaf]
 ·obtain rfl : l = [] := by simpa using he
  simp [go_sem]
  refine zAt (fun h => ?_) (fun h => ?_)
  ·simp at h
   subst h
   simp [go_sem, zaf]
  ·simp [go_sem, zaf]
 ·simp [go_sem]
 ·simp [go_sem]
def idxOf (p : Int → Bool) (l : List Int) : Int := match l.findIdx? p with | some i => (i : Int) | none => -1
theorem zxL {p : Int → Bool} {l : List Int} {j : Nat} (hj : j < l.length) (h : ∀ i, i < j → p (nth l i) = false) (hp : p (nth l j) = true) : idxOf p l = j := by
 have : l.findIdx? p = some j := by
  rw [List.findIdx?_eq_some_iff_getElem]
  refine ⟨hj, by rw [← zaC _ _ hj]; exact hp, fun i hi => ?_⟩
  have := h i hi
  rw [zaC _ _ (by omega)] at this
  simp [this]
 simp [idxOf, this]
theorem zs5 {p : Int → Bool} {l : List Int} (h : ∀ i, i < l.length → p (nth l i) = false) : idxOf p l = -1 := by
 have : l.findIdx? p = none := by
  rw [List.findIdx?_eq_none_iff]
  intro x hx
  obtain ⟨i, hi, rfl⟩ := List.getElem_of_mem hx
  have := h i hi
  rw [zaC _ _ hi] at this
  exact this
 simp [idxOf, this]
theorem zvu {p : Int → Bool} {l : List Int} : decide (0 ≤ idxOf p l) = l.any p := by
 unfold idxOf
 cases h : l.findIdx? p with
 | none =>
  rw [List.findIdx?_eq_none_iff] at h
  simp
  simpa using h
 | some i =>
  have := List.findIdx?_isSome (xs := l) (p := p)
  rw [h] at this
  simp at this ⊢
  exact this
theorem zkv (l : List Int) (hl : ze5 l) (f : FuncId) (first caps : List AV) (p : Int → Bool) (hp : ∀ x ∈ l, zaL Tryz.prog f (first ++ .v (.int .i64 x) :: caps) (.v (.bool (p x)))) (hb : ∀ c ∈ first, Bel 0 c) (hb' : ∀ c ∈ caps, Bel 0 c) :
  zaL Tryz.prog 191 [zap l, .fn (.func f) first caps] (.v (.int .i64 (idxOf p l))) := by
 refine pF Tryz.func191 ?_
 unfold ze5 at hl
 simp [go_sem]
 refine zAr (zAv (α := Nat) (fun j => ⟨[(0, zap l), (1, .fn (.func f) first caps), (7, .v (.int .i64 l.length)), (8, .v (.int .i64 j))], [], 0⟩)
  (fun d j => j + d = l.length ∧ (∀ i < j, p (nth l i) = false)) ?_ l.length 0 ?_) ?_ ?_
 ·rintro d j ⟨i1, i2⟩ hrec
  simp [go_sem]
  refine zAt (fun hj => ?_) (fun hj => ?_)
  ·simp at hj
   simp [go_sem]
   refine zAP hj fun _ => ?_
   simp [go_sem, hj]
   refine zAs (hp _ (zaj hj)) (fun c hc => by
    rcases List.mem_append.1 hc with h | h
    ·exact hb c h
    ·rcases List.mem_cons.1 h with rfl | h
     ·exact .v _
     ·exact hb' c h) ?_
   simp [go_sem]
   refine zAt (fun h => ?_) (fun h => ?_)
   ·simp [go_sem, zxL hj i2 h]
   ·simp [go_sem]
    refine zAP (by omega) fun _ => ?_
    simp [go_sem]
    refine zAr (hrec (d - 1) (by omega) (j + 1) ⟨by omega, fun i hi => ?_⟩) ?_ (by simp)
    ·rcases Nat.lt_or_ge i j with h' | h'
     ·exact i2 i h'
     ·obtain rfl : i = j := by omega
      exact h
    ·simp [go_sem, zaf]
     exact ⟨hb, hb'⟩
  ·simp at hj
   simp [go_sem, zs5 fun i hi => i2 i (by omega)]
 ·simp
 ·simp [go_sem, zaf]
  exact ⟨hb, hb'⟩
 ·simp
theorem zhk (l : List Int) (hl : ze5 l) (f : FuncId) (first caps : List AV) (p : Int → Bool) (hp : ∀ x ∈ l, zaL Tryz.prog f (first ++ .v (.int .i64 x) :: caps) (.v (.bool (p x)))) (hb : ∀ c ∈ first, Bel 0 c) (hb' : ∀ c ∈ caps, Bel 0 c) :
  zaL Tryz.prog 136 [zap l, .fn (.func f) first caps] (.v (.bool (l.any p))) := by
 refine pF Tryz.func136 ?_
 simp [go_sem]
 refine zAs (zkv l hl f first caps p hp hb hb') (by simp [go_sem]; exact ⟨hb, hb'⟩) ?_
 simp [go_sem, zvu]
end Go.Av
end
