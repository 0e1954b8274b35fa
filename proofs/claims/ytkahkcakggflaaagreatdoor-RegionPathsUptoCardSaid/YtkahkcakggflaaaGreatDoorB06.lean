/- Texts of ours, part 6: our library and contracts of functions. -/
import Derived.Test.YtkahkcakggflaaaGreatDoorB05
import Derived.Test.YtkahkcakggflaaaGreatDoorProg
set_option linter.unusedSimpArgs false
set_option linter.unusedVariables false
set_option maxRecDepth 100000
set_option maxHeartbeats 40000000
section
/- Our library, part 13: equations by which code is evaluated. -/
namespace Go.Av
open Go

section
variable {P : Program} {n0 : Nat} {Q : Post} {e : Env} {h : Heap} {n : Nat} {ops rest : List Oper}
def VC (a b : Prop) : Prop := a ∧ b
theorem VC_false {b : Prop} : VC False b = False := by simp [VC]
def VQ (a b : Prop) : Prop := a ∧ b
theorem VQ_true {b : Prop} : VQ True b = b := by simp [VQ]
theorem VQ.mk {a b : Prop} (h1 : a) (h2 : a → b) : VQ a b := ⟨h1, h2 h1⟩
@[congr] theorem VQ_congr {a b c : Prop} (h1 : a = c) : VQ a b = VQ c b := by subst h1; rfl
theorem VC.mk {a b : Prop} (h1 : a) (h2 : a → b) : VC a b := ⟨h1, h2 h1⟩
@[congr] theorem VC_congr {a b c : Prop} (h1 : a = c) : VC a b = VC c b := by subst h1; rfl
def aIf (t : Bool) (a b : Prop) : Prop := (t = true → a) ∧ (t = false → b)
theorem aIf.mk {t : Bool} {a b : Prop} (h1 : t = true → a) (h2 : t = false → b) : aIf t a b := ⟨h1, h2⟩
theorem evExtract_tup (vs : List AV) (i : Nat) : evExtract (.tup vs) i = Res.if (i < vs.length) (cel vs i) := rfl
@[congr] theorem aIf_congr {t t' : Bool} {a b : Prop} (h : t = t') : aIf t a b = aIf t' a b := by subst h; rfl
@[congr] theorem upd_congr {α : Type} {f : Nat → α} {k : Nat} {x : α} {j j' : Nat} (h : j = j') : upd f k x j = upd f k x j' := by subst h; rfl
theorem nth_zero {α : Type} [Inhabited α] (x : α) (l : List α) : nth (x :: l) 0 = x := rfl
theorem nth_succ {α : Type} [Inhabited α] (x : α) (l : List α) (k : Nat) : nth (x :: l) (k + 1) = nth l k := by simp [nth]
theorem cel_zero (x : AV) (l : List AV) : cel (x :: l) 0 = x := rfl
theorem cel_succ (x : AV) (l : List AV) (k : Nat) : cel (x :: l) (k + 1) = cel l k := by simp [cel]
theorem nth_map {α β : Type} [Inhabited α] [Inhabited β] (f : α → β) (l : List α) (i : Nat) (h : i < l.length) : nth (l.map f) i = f (nth l i) := by simp [nth, h]
theorem cel_map {α : Type} [Inhabited α] (f : α → AV) (l : List α) (i : Nat) (h : i < l.length) : cel (l.map f) i = f (nth l i) := by simp [nth, cel, h]
theorem nth_eq {α : Type} [Inhabited α] (l : List α) (i : Nat) (h : i < l.length) : nth l i = l[i] := by simp [nth, h]
theorem nth_mem {α : Type} [Inhabited α] {l : List α} {i : Nat} (h : i < l.length) : nth l i ∈ l := by rw [nth_eq l i h]; exact List.getElem_mem _
def aopsL (P : Program) (ops : List Oper) (Q : Post) (rest : List Oper) (e : Env) (h : Heap) (n : Nat) : Prop := aops P ops Q rest e h n
def awpL (P : Program) (n0 : Nat) (c : Code) (Q : Post) (e : Env) (h : Heap) (n : Nat) : Prop := awp P n0 c Q e h n
theorem VC_aops : VC True (aopsL P ops Q rest e h n) = aops P ops Q rest e h n := by simp [VC, aopsL]
theorem VC.mkL {a : Prop} (h1 : a) (h2 : a → aops P ops Q rest e h n) : VC a (aopsL P ops Q rest e h n) := ⟨h1, h2 h1⟩
theorem aIf_trueL {a : Code} {y : Prop} : aIf true (awpL P n0 a Q e h n) y = awp P n0 a Q e h n := by simp [aIf, awpL]
theorem aIf_falseL {b : Code} {y : Prop} : aIf false y (awpL P n0 b Q e h n) = awp P n0 b Q e h n := by simp [aIf, awpL]
theorem aIf.mkL {t : Bool} {a b : Code} (h1 : t = true → awp P n0 a Q e h n) (h2 : t = false → awp P n0 b Q e h n) : aIf t (awpL P n0 a Q e h n) (awpL P n0 b Q e h n) := ⟨h1, h2⟩
def aRes (P : Program) (ops : List Oper) (Q : Post) (rest : List Oper) (dst : Option Tmp) (r : Res) (e : Env) (h : Heap) (n : Nat) : Prop :=
 VC r.cond (aops P ops Q rest (put e dst r.val) (applyW r.wr h) (n + r.al))
def aResG (P : Program) (ops : List Oper) (Q : Post) (rest : List Oper) (dst : Option Tmp) (g : Bool) (r : Res) (e : Env) (h : Heap) (n : Nat) : Prop :=
 VC (g = true → r.cond) (aops P ops Q rest (put e dst (.gd g r.val)) (applyW (gW g r.wr) h) (n + gN g r.al))
def aCall (P : Program) (ops : List Oper) (Q : Post) (rest : List Oper) (dst : Option Tmp) (fv : AV) (args : List AV) (e : Env) (h : Heap) (n : Nat) : Prop :=
 acall P fv args h n (fun r h' n' => aops P ops Q rest (put e dst r) h' n') ∨ ycall e fv args h n (fun e' r h' => aops P ops Q rest (put e' dst r) h' n)
def aYld (P : Program) (ops : List Oper) (Q : Post) (rest : List Oper) (dst : Option Tmp) (l : Nat) (args : List AV) (e : Env) (h : Heap) (n : Nat) : Prop :=
 ycall e (.fn (.yield l) [] []) args h n (fun e' r h' => aops P ops Q rest (put e' dst r) h' n)
theorem ycall_func {e : Env} {f : FuncId} {a b args : List AV} {h : Heap} {n : Nat} {K : Env → AV → Heap → Prop} : ¬ ycall e (.fn (.func f) a b) args h n K := by
 rintro ⟨l, more, rows, h1, _⟩; cases h1
def aGrd (P : Program) (ops : List Oper) (Q : Post) (rest : List Oper) (dst : Option Tmp) (op : Op) (g : Option Bool) (e : Env) (h : Heap) (n : Nat) : Prop :=
 match g with
 | none => False
 | some g => VQ (∀ t ∈ gT op, okG g (e t)) (aResG P ops Q rest dst g (aev P n op (gE op e) h) e h n)

theorem awp_skip : awp P n0 .skip Q e h n = Q .normal e h n := rfl
theorem awp_label (l : Nat) : awp P n0 (.label l) Q e h n = Q .normal e h n := rfl
theorem awp_region (id : Nat) (ops : List Oper) : awp P n0 (.region id ops.toArray false) Q e h n = aops P ops Q ops e h n := rfl
theorem awp_seq (a b : Code) : awp P n0 (.seq a b) Q e h n = awp P n0 a (QSeq (awp P n0 b Q) Q) e h n := rfl
def aCond (P : Program) (n0 : Nat) (a b : Code) (Q : Post) (x : AV) (e : Env) (h : Heap) (n : Nat) : Prop := match x with
 | .v (.bool t) => (t = true → awp P n0 a Q e h n) ∧ (t = false → awp P n0 b Q e h n)
 | _ => False
theorem awp_cond (c : Operand) (a b : Code) : awp P n0 (.cond c a b) Q e h n = aCond P n0 a b Q (ev e c) e h n := rfl
theorem aCond_bool (a b : Code) (t : Bool) : aCond P n0 a b Q (.v (.bool t)) e h n = aIf t (awpL P n0 a Q e h n) (awpL P n0 b Q e h n) := rfl
theorem awp_scope (b : Code) : awp P n0 (.scope b) Q e h n = awp P n0 b (QScope Q) e h n := rfl
theorem awp_block (id : Nat) (b : Code) : awp P n0 (.block id b) Q e h n = awp P n0 b (QBlock id Q) e h n := rfl
theorem awp_loop (b : Code) : awp P n0 (.loop b) Q e h n = ALoop n0 (awp P n0 b) Q e h n := rfl
theorem awp_exit (id : Nat) : awp P n0 (.exit id) Q e h n = Q (.exit id) e h n := rfl
theorem awp_ret : awp P n0 .ret Q e h n = Q .ret e h n := rfl
theorem QSeq_normal (K : Env → Heap → Nat → Prop) : QSeq K Q .normal e h n = K e h n := rfl
theorem QSeq_exit (K : Env → Heap → Nat → Prop) (id : Nat) : QSeq K Q (.exit id) e h n = Q (.exit id) e h n := rfl
theorem QSeq_ret (K : Env → Heap → Nat → Prop) : QSeq K Q .ret e h n = Q .ret e h n := rfl
theorem QScope_normal : QScope Q .normal e h n = Q .normal e h n := rfl
theorem QScope_exit (id : Nat) : QScope Q (.exit id) e h n = Q (.exit id) e h n := rfl
theorem QScope_ret : QScope Q .ret e h n = Q .ret e h n := rfl
theorem QBlock_normal (id : Nat) : QBlock id Q .normal e h n = Q .normal e h n := rfl
theorem QBlock_exit (id id' : Nat) : QBlock id Q (.exit id') e h n = if id' = id then Q .normal e h n else Q (.exit id') e h n := rfl
theorem QBlock_ret (id : Nat) : QBlock id Q .ret e h n = Q .ret e h n := rfl
theorem RetQ_ret (rs : List ResultVar) (K : CallK) : RetQ P rs K .ret e h n = VQ (resL P e h rs).1 (K (resV (resL P e h rs).2) h n) := rfl
theorem RetQ_normal (rs : List ResultVar) (K : CallK) : RetQ P rs K .normal e h n = VQ (resL P e h rs).1 (K (resV (resL P e h rs).2) h n) := rfl
theorem aops_nil : aops P ops Q [] e h n = Q .normal e h n := rfl
theorem aops_call {dst : Option Tmp} {f : Operand} {args : Array Operand} {ats : Array TypeId} {ty : TypeId} {pos : String} {after : Array Edge} :
  aops P ops Q (⟨dst, .call ⟨.value f, args, ats⟩, ty, pos, after, none⟩ :: rest) e h n = aCall P ops Q rest dst (ev e f) (args.toList.map (ev e)) e h n := rfl
theorem aops_some {dst : Option Tmp} {op : Op} {ty : TypeId} {pos : String} {after : Array Edge} {j : Nat} {want : Bool} (hc : isCall op = false) :
  aops P ops Q (⟨dst, op, ty, pos, after, some (j, want)⟩ :: rest) e h n = aGrd P ops Q rest dst op ((slotOf ops j).bind fun t => guardB (e t) want) e h n := by
 unfold aops aGrd aResG
 cases op with
 | call c =>
  obtain ⟨callee, args, ats⟩ := c
  cases callee with
  | value f => simp [isCall] at hc
  | _ => rfl
 | _ => rfl
theorem aops_move {dst : Option Tmp} {ty : TypeId} {pos : String} {after : Array Edge} {x : Operand} : aops P ops Q (⟨dst, .move x, ty, pos, after, none⟩ :: rest) e h n = aRes P ops Q rest dst (aev P n (.move x) e h) e h n := rfl
theorem aopsG_move {dst : Option Tmp} {ty : TypeId} {pos : String} {after : Array Edge} {j : Nat} {want : Bool} {x : Operand} : aops P ops Q (⟨dst, .move x, ty, pos, after, some (j, want)⟩ :: rest) e h n = aGrd P ops Q rest dst (.move x) ((slotOf ops j).bind fun t => guardB (e t) want) e h n := aops_some rfl
theorem aops_assign {dst : Option Tmp} {ty : TypeId} {pos : String} {after : Array Edge} {x : Operand} : aops P ops Q (⟨dst, .assign x, ty, pos, after, none⟩ :: rest) e h n = aRes P ops Q rest dst (aev P n (.assign x) e h) e h n := rfl
theorem aopsG_assign {dst : Option Tmp} {ty : TypeId} {pos : String} {after : Array Edge} {j : Nat} {want : Bool} {x : Operand} : aops P ops Q (⟨dst, .assign x, ty, pos, after, some (j, want)⟩ :: rest) e h n = aGrd P ops Q rest dst (.assign x) ((slotOf ops j).bind fun t => guardB (e t) want) e h n := aops_some rfl
theorem aops_pick {dst : Option Tmp} {ty : TypeId} {pos : String} {after : Array Edge} {c a b : Operand} : aops P ops Q (⟨dst, .pick c a b, ty, pos, after, none⟩ :: rest) e h n = aRes P ops Q rest dst (aev P n (.pick c a b) e h) e h n := rfl
theorem aopsG_pick {dst : Option Tmp} {ty : TypeId} {pos : String} {after : Array Edge} {j : Nat} {want : Bool} {c a b : Operand} : aops P ops Q (⟨dst, .pick c a b, ty, pos, after, some (j, want)⟩ :: rest) e h n = aGrd P ops Q rest dst (.pick c a b) ((slotOf ops j).bind fun t => guardB (e t) want) e h n := aops_some rfl
theorem aops_alloc {dst : Option Tmp} {ty : TypeId} {pos : String} {after : Array Edge} {t : TypeId} : aops P ops Q (⟨dst, .alloc t, ty, pos, after, none⟩ :: rest) e h n = aRes P ops Q rest dst (aev P n (.alloc t) e h) e h n := rfl
theorem aopsG_alloc {dst : Option Tmp} {ty : TypeId} {pos : String} {after : Array Edge} {j : Nat} {want : Bool} {t : TypeId} : aops P ops Q (⟨dst, .alloc t, ty, pos, after, some (j, want)⟩ :: rest) e h n = aGrd P ops Q rest dst (.alloc t) ((slotOf ops j).bind fun t => guardB (e t) want) e h n := aops_some rfl
theorem aops_box {dst : Option Tmp} {ty : TypeId} {pos : String} {after : Array Edge} {t : TypeId} {x : Operand} : aops P ops Q (⟨dst, .box t x, ty, pos, after, none⟩ :: rest) e h n = aRes P ops Q rest dst (aev P n (.box t x) e h) e h n := rfl
theorem aopsG_box {dst : Option Tmp} {ty : TypeId} {pos : String} {after : Array Edge} {j : Nat} {want : Bool} {t : TypeId} {x : Operand} : aops P ops Q (⟨dst, .box t x, ty, pos, after, some (j, want)⟩ :: rest) e h n = aGrd P ops Q rest dst (.box t x) ((slotOf ops j).bind fun t => guardB (e t) want) e h n := aops_some rfl
theorem aops_build {dst : Option Tmp} {ty : TypeId} {pos : String} {after : Array Edge} {t : TypeId} {ps : Array (Nat × Operand)} : aops P ops Q (⟨dst, .build t ps, ty, pos, after, none⟩ :: rest) e h n = aRes P ops Q rest dst (aev P n (.build t ps) e h) e h n := rfl
theorem aopsG_build {dst : Option Tmp} {ty : TypeId} {pos : String} {after : Array Edge} {j : Nat} {want : Bool} {t : TypeId} {ps : Array (Nat × Operand)} : aops P ops Q (⟨dst, .build t ps, ty, pos, after, some (j, want)⟩ :: rest) e h n = aGrd P ops Q rest dst (.build t ps) ((slotOf ops j).bind fun t => guardB (e t) want) e h n := aops_some rfl
theorem aops_buildSlice {dst : Option Tmp} {ty : TypeId} {pos : String} {after : Array Edge} {t : TypeId} {k : Nat} {ps : Array (Nat × Operand)} : aops P ops Q (⟨dst, .buildSlice t k ps, ty, pos, after, none⟩ :: rest) e h n = aRes P ops Q rest dst (aev P n (.buildSlice t k ps) e h) e h n := rfl
theorem aopsG_buildSlice {dst : Option Tmp} {ty : TypeId} {pos : String} {after : Array Edge} {j : Nat} {want : Bool} {t : TypeId} {k : Nat} {ps : Array (Nat × Operand)} : aops P ops Q (⟨dst, .buildSlice t k ps, ty, pos, after, some (j, want)⟩ :: rest) e h n = aGrd P ops Q rest dst (.buildSlice t k ps) ((slotOf ops j).bind fun t => guardB (e t) want) e h n := aops_some rfl
theorem aops_load {dst : Option Tmp} {ty : TypeId} {pos : String} {after : Array Edge} {t : TypeId} {x : Operand} : aops P ops Q (⟨dst, .load t x, ty, pos, after, none⟩ :: rest) e h n = aRes P ops Q rest dst (aev P n (.load t x) e h) e h n := rfl
theorem aopsG_load {dst : Option Tmp} {ty : TypeId} {pos : String} {after : Array Edge} {j : Nat} {want : Bool} {t : TypeId} {x : Operand} : aops P ops Q (⟨dst, .load t x, ty, pos, after, some (j, want)⟩ :: rest) e h n = aGrd P ops Q rest dst (.load t x) ((slotOf ops j).bind fun t => guardB (e t) want) e h n := aops_some rfl
theorem aops_store {dst : Option Tmp} {ty : TypeId} {pos : String} {after : Array Edge} {t : TypeId} {x y : Operand} : aops P ops Q (⟨dst, .store t x y, ty, pos, after, none⟩ :: rest) e h n = aRes P ops Q rest dst (aev P n (.store t x y) e h) e h n := rfl
theorem aopsG_store {dst : Option Tmp} {ty : TypeId} {pos : String} {after : Array Edge} {j : Nat} {want : Bool} {t : TypeId} {x y : Operand} : aops P ops Q (⟨dst, .store t x y, ty, pos, after, some (j, want)⟩ :: rest) e h n = aGrd P ops Q rest dst (.store t x y) ((slotOf ops j).bind fun t => guardB (e t) want) e h n := aops_some rfl
theorem aops_binOp {dst : Option Tmp} {ty : TypeId} {pos : String} {after : Array Edge} {o : BinOp} {t : TypeId} {x y : Operand} {t' : TypeId} : aops P ops Q (⟨dst, .binOp o t x y t', ty, pos, after, none⟩ :: rest) e h n = aRes P ops Q rest dst (aev P n (.binOp o t x y t') e h) e h n := rfl
theorem aopsG_binOp {dst : Option Tmp} {ty : TypeId} {pos : String} {after : Array Edge} {j : Nat} {want : Bool} {o : BinOp} {t : TypeId} {x y : Operand} {t' : TypeId} : aops P ops Q (⟨dst, .binOp o t x y t', ty, pos, after, some (j, want)⟩ :: rest) e h n = aGrd P ops Q rest dst (.binOp o t x y t') ((slotOf ops j).bind fun t => guardB (e t) want) e h n := aops_some rfl
theorem aops_unOp {dst : Option Tmp} {ty : TypeId} {pos : String} {after : Array Edge} {o : UnOp} {t : TypeId} {x : Operand} : aops P ops Q (⟨dst, .unOp o t x, ty, pos, after, none⟩ :: rest) e h n = aRes P ops Q rest dst (aev P n (.unOp o t x) e h) e h n := rfl
theorem aops_nilCheck {dst : Option Tmp} {ty : TypeId} {pos : String} {after : Array Edge} {x : Operand} : aops P ops Q (⟨dst, .nilCheck x, ty, pos, after, none⟩ :: rest) e h n = aRes P ops Q rest dst (aev P n (.nilCheck x) e h) e h n := rfl
theorem aopsG_unOp {dst : Option Tmp} {ty : TypeId} {pos : String} {after : Array Edge} {j : Nat} {want : Bool} {o : UnOp} {t : TypeId} {x : Operand} : aops P ops Q (⟨dst, .unOp o t x, ty, pos, after, some (j, want)⟩ :: rest) e h n = aGrd P ops Q rest dst (.unOp o t x) ((slotOf ops j).bind fun t => guardB (e t) want) e h n := aops_some rfl
theorem aopsG_nilCheck {dst : Option Tmp} {ty : TypeId} {pos : String} {after : Array Edge} {j : Nat} {want : Bool} {x : Operand} : aops P ops Q (⟨dst, .nilCheck x, ty, pos, after, some (j, want)⟩ :: rest) e h n = aGrd P ops Q rest dst (.nilCheck x) ((slotOf ops j).bind fun t => guardB (e t) want) e h n := aops_some rfl
theorem aops_convert {dst : Option Tmp} {ty : TypeId} {pos : String} {after : Array Edge} {s d : TypeId} {x : Operand} : aops P ops Q (⟨dst, .convert s d x, ty, pos, after, none⟩ :: rest) e h n = aRes P ops Q rest dst (aev P n (.convert s d x) e h) e h n := rfl
theorem aopsG_convert {dst : Option Tmp} {ty : TypeId} {pos : String} {after : Array Edge} {j : Nat} {want : Bool} {s d : TypeId} {x : Operand} : aops P ops Q (⟨dst, .convert s d x, ty, pos, after, some (j, want)⟩ :: rest) e h n = aGrd P ops Q rest dst (.convert s d x) ((slotOf ops j).bind fun t => guardB (e t) want) e h n := aops_some rfl
theorem aops_makeFunc {dst : Option Tmp} {ty : TypeId} {pos : String} {after : Array Edge} {f : Fn} {xs ys : Array Operand} : aops P ops Q (⟨dst, .makeFunc f xs ys, ty, pos, after, none⟩ :: rest) e h n = aRes P ops Q rest dst (aev P n (.makeFunc f xs ys) e h) e h n := rfl
theorem aopsG_makeFunc {dst : Option Tmp} {ty : TypeId} {pos : String} {after : Array Edge} {j : Nat} {want : Bool} {f : Fn} {xs ys : Array Operand} : aops P ops Q (⟨dst, .makeFunc f xs ys, ty, pos, after, some (j, want)⟩ :: rest) e h n = aGrd P ops Q rest dst (.makeFunc f xs ys) ((slotOf ops j).bind fun t => guardB (e t) want) e h n := aops_some rfl
theorem aops_makeSlice {dst : Option Tmp} {ty : TypeId} {pos : String} {after : Array Edge} {t : TypeId} {l c : Operand} : aops P ops Q (⟨dst, .makeSlice t l c, ty, pos, after, none⟩ :: rest) e h n = aRes P ops Q rest dst (aev P n (.makeSlice t l c) e h) e h n := rfl
theorem aopsG_makeSlice {dst : Option Tmp} {ty : TypeId} {pos : String} {after : Array Edge} {j : Nat} {want : Bool} {t : TypeId} {l c : Operand} : aops P ops Q (⟨dst, .makeSlice t l c, ty, pos, after, some (j, want)⟩ :: rest) e h n = aGrd P ops Q rest dst (.makeSlice t l c) ((slotOf ops j).bind fun t => guardB (e t) want) e h n := aops_some rfl
theorem aops_slice {dst : Option Tmp} {ty : TypeId} {pos : String} {after : Array Edge} {t : TypeId} {x : Operand} {lo hi mx : Option Operand} : aops P ops Q (⟨dst, .slice t x lo hi mx, ty, pos, after, none⟩ :: rest) e h n = aRes P ops Q rest dst (aev P n (.slice t x lo hi mx) e h) e h n := rfl
theorem aopsG_slice {dst : Option Tmp} {ty : TypeId} {pos : String} {after : Array Edge} {j : Nat} {want : Bool} {t : TypeId} {x : Operand} {lo hi mx : Option Operand} : aops P ops Q (⟨dst, .slice t x lo hi mx, ty, pos, after, some (j, want)⟩ :: rest) e h n = aGrd P ops Q rest dst (.slice t x lo hi mx) ((slotOf ops j).bind fun t => guardB (e t) want) e h n := aops_some rfl
theorem aops_fieldAddr {dst : Option Tmp} {ty : TypeId} {pos : String} {after : Array Edge} {t : TypeId} {x : Operand} {f : Nat} : aops P ops Q (⟨dst, .fieldAddr t x f, ty, pos, after, none⟩ :: rest) e h n = aRes P ops Q rest dst (aev P n (.fieldAddr t x f) e h) e h n := rfl
theorem aopsG_fieldAddr {dst : Option Tmp} {ty : TypeId} {pos : String} {after : Array Edge} {j : Nat} {want : Bool} {t : TypeId} {x : Operand} {f : Nat} : aops P ops Q (⟨dst, .fieldAddr t x f, ty, pos, after, some (j, want)⟩ :: rest) e h n = aGrd P ops Q rest dst (.fieldAddr t x f) ((slotOf ops j).bind fun t => guardB (e t) want) e h n := aops_some rfl
theorem aops_field {dst : Option Tmp} {ty : TypeId} {pos : String} {after : Array Edge} {t : TypeId} {x : Operand} {f : Nat} : aops P ops Q (⟨dst, .field t x f, ty, pos, after, none⟩ :: rest) e h n = aRes P ops Q rest dst (aev P n (.field t x f) e h) e h n := rfl
theorem aopsG_field {dst : Option Tmp} {ty : TypeId} {pos : String} {after : Array Edge} {j : Nat} {want : Bool} {t : TypeId} {x : Operand} {f : Nat} : aops P ops Q (⟨dst, .field t x f, ty, pos, after, some (j, want)⟩ :: rest) e h n = aGrd P ops Q rest dst (.field t x f) ((slotOf ops j).bind fun t => guardB (e t) want) e h n := aops_some rfl
theorem aops_indexAddr {dst : Option Tmp} {ty : TypeId} {pos : String} {after : Array Edge} {t : TypeId} {x i : Operand} : aops P ops Q (⟨dst, .indexAddr t x i, ty, pos, after, none⟩ :: rest) e h n = aRes P ops Q rest dst (aev P n (.indexAddr t x i) e h) e h n := rfl
theorem aopsG_indexAddr {dst : Option Tmp} {ty : TypeId} {pos : String} {after : Array Edge} {j : Nat} {want : Bool} {t : TypeId} {x i : Operand} : aops P ops Q (⟨dst, .indexAddr t x i, ty, pos, after, some (j, want)⟩ :: rest) e h n = aGrd P ops Q rest dst (.indexAddr t x i) ((slotOf ops j).bind fun t => guardB (e t) want) e h n := aops_some rfl
theorem aops_index {dst : Option Tmp} {ty : TypeId} {pos : String} {after : Array Edge} {t : TypeId} {x i : Operand} : aops P ops Q (⟨dst, .index t x i, ty, pos, after, none⟩ :: rest) e h n = aRes P ops Q rest dst (aev P n (.index t x i) e h) e h n := rfl
theorem aopsG_index {dst : Option Tmp} {ty : TypeId} {pos : String} {after : Array Edge} {j : Nat} {want : Bool} {t : TypeId} {x i : Operand} : aops P ops Q (⟨dst, .index t x i, ty, pos, after, some (j, want)⟩ :: rest) e h n = aGrd P ops Q rest dst (.index t x i) ((slotOf ops j).bind fun t => guardB (e t) want) e h n := aops_some rfl
theorem aops_extract {dst : Option Tmp} {ty : TypeId} {pos : String} {after : Array Edge} {x : Operand} {i : Nat} : aops P ops Q (⟨dst, .extract x i, ty, pos, after, none⟩ :: rest) e h n = aRes P ops Q rest dst (aev P n (.extract x i) e h) e h n := rfl
theorem aopsG_extract {dst : Option Tmp} {ty : TypeId} {pos : String} {after : Array Edge} {j : Nat} {want : Bool} {x : Operand} {i : Nat} : aops P ops Q (⟨dst, .extract x i, ty, pos, after, some (j, want)⟩ :: rest) e h n = aGrd P ops Q rest dst (.extract x i) ((slotOf ops j).bind fun t => guardB (e t) want) e h n := aops_some rfl
theorem aops_makeMap {dst : Option Tmp} {ty : TypeId} {pos : String} {after : Array Edge} {t : TypeId} {r : Option Operand} : aops P ops Q (⟨dst, .makeMap t r, ty, pos, after, none⟩ :: rest) e h n = aRes P ops Q rest dst (aev P n (.makeMap t r) e h) e h n := rfl
theorem aopsG_makeMap {dst : Option Tmp} {ty : TypeId} {pos : String} {after : Array Edge} {j : Nat} {want : Bool} {t : TypeId} {r : Option Operand} : aops P ops Q (⟨dst, .makeMap t r, ty, pos, after, some (j, want)⟩ :: rest) e h n = aGrd P ops Q rest dst (.makeMap t r) ((slotOf ops j).bind fun t => guardB (e t) want) e h n := aops_some rfl
theorem aops_mapUpdate {dst : Option Tmp} {ty : TypeId} {pos : String} {after : Array Edge} {t : TypeId} {m' k x : Operand} : aops P ops Q (⟨dst, .mapUpdate t m' k x, ty, pos, after, none⟩ :: rest) e h n = aRes P ops Q rest dst (aev P n (.mapUpdate t m' k x) e h) e h n := rfl
theorem aopsG_mapUpdate {dst : Option Tmp} {ty : TypeId} {pos : String} {after : Array Edge} {j : Nat} {want : Bool} {t : TypeId} {m' k x : Operand} : aops P ops Q (⟨dst, .mapUpdate t m' k x, ty, pos, after, some (j, want)⟩ :: rest) e h n = aGrd P ops Q rest dst (.mapUpdate t m' k x) ((slotOf ops j).bind fun t => guardB (e t) want) e h n := aops_some rfl
theorem aops_insert {dst : Option Tmp} {ty : TypeId} {pos : String} {after : Array Edge} {t : TypeId} {m' k x : Operand} : aops P ops Q (⟨dst, .insert t m' k x, ty, pos, after, none⟩ :: rest) e h n = aRes P ops Q rest dst (aev P n (.insert t m' k x) e h) e h n := rfl
theorem aopsG_insert {dst : Option Tmp} {ty : TypeId} {pos : String} {after : Array Edge} {j : Nat} {want : Bool} {t : TypeId} {m' k x : Operand} : aops P ops Q (⟨dst, .insert t m' k x, ty, pos, after, some (j, want)⟩ :: rest) e h n = aGrd P ops Q rest dst (.insert t m' k x) ((slotOf ops j).bind fun t => guardB (e t) want) e h n := aops_some rfl
theorem aops_lookup {dst : Option Tmp} {ty : TypeId} {pos : String} {after : Array Edge} {t : TypeId} {m' k : Operand} {ok : Bool} : aops P ops Q (⟨dst, .lookup t m' k ok, ty, pos, after, none⟩ :: rest) e h n = aRes P ops Q rest dst (aev P n (.lookup t m' k ok) e h) e h n := rfl
theorem aopsG_lookup {dst : Option Tmp} {ty : TypeId} {pos : String} {after : Array Edge} {j : Nat} {want : Bool} {t : TypeId} {m' k : Operand} {ok : Bool} : aops P ops Q (⟨dst, .lookup t m' k ok, ty, pos, after, some (j, want)⟩ :: rest) e h n = aGrd P ops Q rest dst (.lookup t m' k ok) ((slotOf ops j).bind fun t => guardB (e t) want) e h n := aops_some rfl
theorem aops_makeInterface {dst : Option Tmp} {ty : TypeId} {pos : String} {after : Array Edge} {t : TypeId} {x : Operand} : aops P ops Q (⟨dst, .makeInterface t x, ty, pos, after, none⟩ :: rest) e h n = aRes P ops Q rest dst (aev P n (.makeInterface t x) e h) e h n := rfl
theorem aopsG_makeInterface {dst : Option Tmp} {ty : TypeId} {pos : String} {after : Array Edge} {j : Nat} {want : Bool} {t : TypeId} {x : Operand} : aops P ops Q (⟨dst, .makeInterface t x, ty, pos, after, some (j, want)⟩ :: rest) e h n = aGrd P ops Q rest dst (.makeInterface t x) ((slotOf ops j).bind fun t => guardB (e t) want) e h n := aops_some rfl
theorem aops_panic {dst : Option Tmp} {ty : TypeId} {pos : String} {after : Array Edge} {x : Operand} : aops P ops Q (⟨dst, .panic x, ty, pos, after, none⟩ :: rest) e h n = aRes P ops Q rest dst (aev P n (.panic x) e h) e h n := rfl
theorem aopsG_panic {dst : Option Tmp} {ty : TypeId} {pos : String} {after : Array Edge} {j : Nat} {want : Bool} {x : Operand} : aops P ops Q (⟨dst, .panic x, ty, pos, after, some (j, want)⟩ :: rest) e h n = aGrd P ops Q rest dst (.panic x) ((slotOf ops j).bind fun t => guardB (e t) want) e h n := aops_some rfl
theorem aops_builtin {dst : Option Tmp} {ty : TypeId} {pos : String} {after : Array Edge} {b : Builtin} {args : Array Operand} {ats : Array TypeId} : aops P ops Q (⟨dst, .call ⟨.builtin b, args, ats⟩, ty, pos, after, none⟩ :: rest) e h n = aRes P ops Q rest dst (aev P n (.call ⟨.builtin b, args, ats⟩) e h) e h n := rfl
theorem aopsG_builtin {dst : Option Tmp} {ty : TypeId} {pos : String} {after : Array Edge} {j : Nat} {want : Bool} {b : Builtin} {args : Array Operand} {ats : Array TypeId} : aops P ops Q (⟨dst, .call ⟨.builtin b, args, ats⟩, ty, pos, after, some (j, want)⟩ :: rest) e h n = aGrd P ops Q rest dst (.call ⟨.builtin b, args, ats⟩) ((slotOf ops j).bind fun t => guardB (e t) want) e h n := aops_some rfl
theorem aRes_0 {d : Tmp} {c : Prop} {x : AV} : aRes P ops Q rest (some d) ⟨c, x, [], 0⟩ e h n = VC c (aopsL P ops Q rest (upd e d x) h n) := rfl
theorem aRes_0n {c : Prop} {x : AV} : aRes P ops Q rest none ⟨c, x, [], 0⟩ e h n = VC c (aopsL P ops Q rest e h n) := rfl
theorem aRes_1 {d : Tmp} {c : Prop} {x : AV} {o : Nat} {y : Option AObj} {al : Nat} : aRes P ops Q rest (some d) ⟨c, x, [(o, y)], al⟩ e h n = VC c (aopsL P ops Q rest (upd e d x) (upd h o y) (n + al)) := rfl
theorem aRes_1n {c : Prop} {x : AV} {o : Nat} {y : Option AObj} {al : Nat} : aRes P ops Q rest none ⟨c, x, [(o, y)], al⟩ e h n = VC c (aopsL P ops Q rest e (upd h o y) (n + al)) := rfl
theorem aResG_0 {d : Tmp} {g : Bool} {c : Prop} {x : AV} : aResG P ops Q rest (some d) g ⟨c, x, [], 0⟩ e h n = VC (g = true → c) (aopsL P ops Q rest (upd e d (.gd g x)) h n) := by
 cases g <;> simp [aResG, put, VC, aopsL, gW, gN, applyW]
theorem aResG_T {d : Tmp} {c : Prop} {x : AV} {o : Nat} {y : Option AObj} {al : Nat} : aResG P ops Q rest (some d) true ⟨c, x, [(o, y)], al⟩ e h n = VC c (aopsL P ops Q rest (upd e d (.gd true x)) (upd h o y) (n + al)) := by
 simp [aResG, put, VC, aopsL, gW, gN, applyW]
theorem aResG_Tn {c : Prop} {x : AV} {o : Nat} {y : Option AObj} {al : Nat} : aResG P ops Q rest none true ⟨c, x, [(o, y)], al⟩ e h n = VC c (aopsL P ops Q rest e (upd h o y) (n + al)) := by
 simp [aResG, put, VC, aopsL, gW, gN, applyW]
theorem aResG_F {d : Tmp} {r : Res} : aResG P ops Q rest (some d) false r e h n = aops P ops Q rest (upd e d (.gd false r.val)) h n := by
 simp [aResG, put, VC, gW, gN, applyW]
theorem aResG_Fn {r : Res} : aResG P ops Q rest none false r e h n = aops P ops Q rest e h n := by
 simp [aResG, put, VC, gW, gN, applyW]
theorem aGrd_some {dst : Option Tmp} {op : Op} {g : Bool} : aGrd P ops Q rest dst op (some g) e h n = (VQ (∀ t ∈ gT op, okG g (e t)) (aResG P ops Q rest dst g (aev P n op (gE op e) h) e h n)) := rfl
theorem aCall_fn {dst : Option Tmp} {f : FuncId} {first caps args : List AV} :
  aCall P ops Q rest dst (.fn (.func f) first caps) args e h n = ACallP P f (first ++ args ++ caps) h n fun r h' n' => aops P ops Q rest (put e dst r) h' n' := by
 unfold aCall
 simp only [acall]
 exact propext ⟨fun h => h.elim id (fun h => (ycall_func h).elim), .inl⟩
theorem aCall_yield {dst : Option Tmp} {l : Nat} {args : List AV} : aCall P ops Q rest dst (.fn (.yield l) [] []) args e h n = aYld P ops Q rest dst l args e h n := by
 unfold aCall aYld
 simp only [acall]
 exact propext ⟨fun h => h.elim False.elim id, .inr⟩
end
theorem put_some (e : Env) (d : Nat) (x : AV) : put e (some d) x = upd e d x := rfl
theorem put_none (e : Env) (x : AV) : put e none x = e := rfl

section congr
variable {P : Program} {n0 : Nat} {Q : Post} {e e' : Env} {h h' : Heap} {n n' : Nat} {ops rest : List Oper}
@[congr] theorem awp_congr {c : Code} (h3 : n = n') : awp P n0 c Q e h n = awp P n0 c Q e h n' := by subst h3; rfl
@[congr] theorem aCond_congr {a b : Code} {x x' : AV} (h0 : x = x') : aCond P n0 a b Q x e h n = aCond P n0 a b Q x' e h n := by subst h0; rfl
@[congr] theorem aops_congr (h3 : n = n') : aops P ops Q rest e h n = aops P ops Q rest e h n' := by subst h3; rfl
@[congr] theorem aRes_congr {dst : Option Tmp} {r r' : Res} (h0 : r = r') : aRes P ops Q rest dst r e h n = aRes P ops Q rest dst r' e h n := by subst h0; rfl
@[congr] theorem aResG_congr {dst : Option Tmp} {g g' : Bool} {r r' : Res} (hg : g = g') (h0 : r = r') : aResG P ops Q rest dst g r e h n = aResG P ops Q rest dst g' r' e h n := by subst h0 hg; rfl
@[congr] theorem aCall_congr {dst : Option Tmp} {fv fv' : AV} {args args' : List AV} (h0 : fv = fv') (h1 : args = args') : aCall P ops Q rest dst fv args e h n = aCall P ops Q rest dst fv' args' e h n := by subst h0 h1; rfl
@[congr] theorem aGrd_congr {dst : Option Tmp} {op : Op} {g g' : Option Bool} (h0 : g = g') : aGrd P ops Q rest dst op g e h n = aGrd P ops Q rest dst op g' e h n := by subst h0; rfl
@[congr] theorem ACallP_congr {f : FuncId} {args args' : List AV} {K : CallK} (h1 : args = args') : ACallP P f args h n K = ACallP P f args' h n K := by subst h1; rfl
@[congr] theorem ALoop_congr {B : Post → Env → Heap → Nat → Prop} (h3 : n = n') : ALoop n0 B Q e h n = ALoop n0 B Q e h n' := by subst h3; rfl
@[congr] theorem QSeq_congr {K : Env → Heap → Nat → Prop} {x : Exit} (h3 : n = n') : QSeq K Q x e h n = QSeq K Q x e h n' := by subst h3; rfl
@[congr] theorem QScope_congr {x : Exit} (h3 : n = n') : QScope Q x e h n = QScope Q x e h n' := by subst h3; rfl
@[congr] theorem QBlock_congr {id : Nat} {x : Exit} (h3 : n = n') : QBlock id Q x e h n = QBlock id Q x e h n' := by subst h3; rfl
end congr

theorem Bel_top {n : Nat} : Bel n .top = True := eq_true .top
theorem Bel_v {n : Nat} {x : Value} : Bel n (.v x) = True := eq_true (.v x)
theorem Bel_agg {n : Nat} {cs : List AV} : Bel n (.agg cs) = ∀ c ∈ cs, Bel n c := propext ⟨fun h => by cases h; assumption, .agg⟩
theorem Bel_tup {n : Nat} {cs : List AV} : Bel n (.tup cs) = ∀ c ∈ cs, Bel n c := propext ⟨fun h => by cases h; assumption, .tup⟩
theorem Bel_lst {n sz : Nat} {rows : List (List AV)} : Bel n (.lst sz rows) = ∀ r ∈ rows, ∀ c ∈ r, Bel n c := propext ⟨fun h => by cases h; assumption, .lst⟩
theorem Bel_fp {n : Nat} {cs : List AV} : Bel n (.fp cs) = ∀ c ∈ cs, Bel n c := propext ⟨fun h => by cases h; assumption, .fp⟩
theorem Bel_ref {n o g sz i off : Nat} : Bel n (.ref o g sz i off) = (o < n) := propext ⟨fun h => by cases h; assumption, .ref⟩
theorem Bel_sl {n o g sz i len : Nat} : Bel n (.sl o g sz i len) = (o < n) := propext ⟨fun h => by cases h; assumption, .sl⟩
theorem Bel_fn {n : Nat} {f : Fn} {a b : List AV} : Bel n (.fn f a b) = ((∀ c ∈ a, Bel n c) ∧ ∀ c ∈ b, Bel n c) := propext ⟨fun h => by cases h; exact ⟨by assumption, by assumption⟩, fun h => .fn h.1 h.2⟩
theorem Bel_mp {n o : Nat} : Bel n (.mp o) = (o < n) := propext ⟨fun h => by cases h; assumption, .mp⟩
theorem Bel_gd {n : Nat} {g : Bool} {x : AV} : Bel n (.gd g x) = Bel n x := propext ⟨fun h => by cases h; assumption, .gd⟩

theorem okG_self {g : Bool} {x : AV} : okG g (.gd g x) = True := eq_true (fun h => h)
theorem okG_gd {g g' : Bool} {x : AV} : okG g (.gd g' x) = (g = true → g' = true) := rfl
theorem okG_v {g : Bool} {x : Value} : okG g (.v x) = True := rfl
theorem okG_ref {o g sz i off : Nat} {b : Bool} : okG b (.ref o g sz i off) = True := rfl
theorem okG_sl {o g sz i len : Nat} {b : Bool} : okG b (.sl o g sz i len) = True := rfl
theorem okG_lst {b : Bool} {sz : Nat} {rows : List (List AV)} : okG b (.lst sz rows) = True := rfl
theorem okG_fp {b : Bool} {cs : List AV} : okG b (.fp cs) = True := rfl
theorem okG_agg {b : Bool} {cs : List AV} : okG b (.agg cs) = True := rfl
theorem okG_tup {b : Bool} {cs : List AV} : okG b (.tup cs) = True := rfl
theorem okG_fn {b : Bool} {f : Fn} {x y : List AV} : okG b (.fn f x y) = True := rfl
theorem okG_top {b : Bool} : okG b .top = True := rfl
attribute [go_sem high] okG_self
attribute [go_sem] VC_aops aIf_trueL aIf_falseL VQ_true VC_false nth_zero nth_succ nth_map cel_zero cel_succ cel_map awp_skip awp_label awp_region awp_seq awp_cond aCond_bool awp_block awp_loop awp_exit awp_ret QSeq_normal QSeq_exit QSeq_ret QBlock_normal QBlock_exit QBlock_ret awp_scope QScope_normal QScope_exit QScope_ret RetQ_ret RetQ_normal
 aops_makeMap aopsG_makeMap aops_mapUpdate aopsG_mapUpdate aops_insert aopsG_insert aops_lookup aopsG_lookup evMakeMap evMapUpd evLookup keyK keyEq mapFind mapPut
 aops_nil aops_call aops_move aopsG_move aops_assign aopsG_assign aops_pick aopsG_pick aops_alloc aopsG_alloc aops_box aopsG_box aops_build aopsG_build aops_buildSlice aopsG_buildSlice aops_load aopsG_load aops_store aopsG_store aops_binOp aopsG_binOp aops_unOp aopsG_unOp aops_nilCheck aopsG_nilCheck aops_convert aopsG_convert aops_makeFunc aopsG_makeFunc aops_makeSlice aopsG_makeSlice aops_slice aopsG_slice aops_fieldAddr aopsG_fieldAddr aops_field aopsG_field aops_indexAddr aopsG_indexAddr aops_index aopsG_index aops_extract aopsG_extract aops_makeInterface aopsG_makeInterface aops_panic aopsG_panic aops_builtin aopsG_builtin aRes_0 aRes_0n aRes_1 aRes_1n aResG_0 aResG_T aResG_Tn aResG_F aResG_Fn aGrd_some aCall_fn put_some put_none aev ev ofV upd_apply evPick pB evEq evBin2 evMin evMax evCopy evNil evClear eqS mixCells gE gT evBin evUn evConv evLoad evStore evFieldAddr evField evIndexAddr evIndex evLen ldRow
 applyW unG okG_gd okG_v okG_ref okG_sl okG_lst okG_fp okG_agg okG_tup okG_fn okG_top opTmps Op.operands Call.operands guardB slotOf AV.cells AV.okCells AV.isCell alive rowsOf evStr bytesOf evApp isInt evAppendN evCap keepQ evAppendK evAppend evMakeSlice evSlice evBuild evBuildSlice fillRows fillCells fillArr setMany optInt resL resV argE
 Bel_top Bel_v Bel_agg Bel_tup Bel_lst Bel_fp Bel_ref Bel_sl Bel_fn Bel_mp Bel_gd

section draw
variable {P : Program} {n0 : Nat} {Q : Post} {e e' : Env} {h h' : Heap} {n i i' : Nat} {ops rest : List Oper} {acc : List DRec} {K : Env → Heap → List DRec → Prop}
def dEnd (Q : Post) (ops : List Oper) (n : Nat) (e : Env) (h : Heap) (recs : List DRec) : Prop := okDraw ops recs = true ∧ ((noNew recs = true ∧ Q .normal e h n) ∨ Q .normal e h (n + 16 * ops.length))
def adr (P : Program) (n : Nat) (ops : List Oper) (Q : Post) (m : Nat) (i : Nat) (rest : List Oper) (e : Env) (h : Heap) (acc : List DRec) : Prop := adrawGo P n ops (dEnd Q ops m) i rest e h acc
def adrL (P : Program) (n : Nat) (ops : List Oper) (Q : Post) (m : Nat) (i : Nat) (rest : List Oper) (e : Env) (h : Heap) (acc : List DRec) : Prop := adrawGo P n ops (dEnd Q ops m) i rest e h acc
variable {m : Nat}
def adrZ (P : Program) (n : Nat) (ops : List Oper) (Q : Post) (e : Env) (h : Heap) : Prop := ∃ h', Frz h h' ∧ adraw P ops Q e h' n
theorem adr_draw (hk : adr P n ops Q (n + ops.length) 0 ops e h []) : adraw P ops Q e h n := by
 refine ⟨ops.length, ?_⟩
 rw [List.take_length, List.drop_length]
 exact hk
theorem wZ (hk : adr P n ops Q (n + ops.length) 0 ops e h []) : adrZ P n ops Q e h := ⟨h, .refl h, adr_draw hk⟩
theorem adrZ.frz (h' : Heap) (hf : Frz h h') (hk : adr P n ops Q (n + ops.length) 0 ops e h' []) : adrZ P n ops Q e h := ⟨h', hf, adr_draw hk⟩
def QTail (P : Program) (ops : List Oper) (Q : Post) (k : Nat) : Post
 | .normal, e, h, n => aops P ops Q (ops.drop k) e h n
 | _, _, _, _ => False
theorem QTail_normal {k : Nat} : QTail P ops Q k .normal e h n = aops P ops Q (ops.drop k) e h n := rfl
theorem adrZ.split (k : Nat) (hk : adr P n ops (QTail P ops Q k) (n + ops.length) 0 (ops.take k) e h []) : adrZ P n ops Q e h := ⟨h, .refl h, k, hk⟩
attribute [go_sem] QTail_normal
theorem awp_draw (id : Nat) (ops : List Oper) : awp P n0 (.region id ops.toArray true) Q e h n = adrZ P n ops Q e h := rfl
def dRes (P : Program) (n : Nat) (ops : List Oper) (Q : Post) (m : Nat) (i : Nat) (rest : List Oper) (dst : Option Tmp) (rd : List Nat) (r : Res) (e : Env) (h : Heap) (acc : List DRec) : Prop :=
 VC r.cond (adr P n ops Q m (i + 1) rest (put e dst r.val) (applyW r.wr h) (acc ++ [(rd, r.wr.map (·.1))]))
def dResG (P : Program) (n : Nat) (ops : List Oper) (Q : Post) (m : Nat) (i : Nat) (rest : List Oper) (dst : Option Tmp) (g : Bool) (rd : List Nat) (r : Res) (e : Env) (h : Heap) (acc : List DRec) : Prop :=
 VC (g = true → r.cond) (adr P n ops Q m (i + 1) rest (put e dst (.gd g r.val)) (applyW (gW g r.wr) h) (acc ++ [(rd, (gW g r.wr).map (·.1))]))
def dGrd (P : Program) (n : Nat) (ops : List Oper) (Q : Post) (m : Nat) (i : Nat) (rest : List Oper) (dst : Option Tmp) (op : Op) (g : Option Bool) (e : Env) (h : Heap) (acc : List DRec) : Prop :=
 match g with
 | none => False
 | some g => VQ (∀ t ∈ gT op, okG g (e t)) (dResG P n ops Q m i rest dst g ((op.operands.toList.map (ev (gE op e))).flatMap AV.ids) (aev P (n + i) op (gE op e) h) e h acc)
def dCall (P : Program) (n : Nat) (ops : List Oper) (Q : Post) (m : Nat) (i : Nat) (rest : List Oper) (dst : Option Tmp) (fv : AV) (args : List AV) (e : Env) (h : Heap) (acc : List DRec) : Prop :=
 ∃ r S wr, PCallW P (n + ops.length + 16 * i) fv args h r S wr ∧ adr P n ops Q m (i + 1) rest (put e dst r) (applyW wr h) (acc ++ [(S, wr.map (·.1))])
theorem adr_nil : adr P n ops Q m i [] e h acc = dEnd Q ops m e h acc := rfl
theorem adr_none {dst : Option Tmp} {op : Op} {ty : TypeId} {pos : String} {after : Array Edge} (hc : isCall op = false) :
  adr P n ops Q m i (⟨dst, op, ty, pos, after, none⟩ :: rest) e h acc = dRes P n ops Q m i rest dst ((op.operands.toList.map (ev e)).flatMap AV.ids) (aev P (n + i) op e h) e h acc := by
 unfold adr dRes
 cases op with
 | call c =>
  obtain ⟨callee, args, ats⟩ := c
  cases callee with
  | value f => simp [isCall] at hc
  | _ => rfl
 | _ => rfl
theorem adr_call {dst : Option Tmp} {f : Operand} {args : Array Operand} {ats : Array TypeId} {ty : TypeId} {pos : String} {after : Array Edge} :
  adr P n ops Q m i (⟨dst, .call ⟨.value f, args, ats⟩, ty, pos, after, none⟩ :: rest) e h acc = dCall P n ops Q m i rest dst (ev e f) (args.toList.map (ev e)) e h acc := rfl
theorem adr_some {dst : Option Tmp} {op : Op} {ty : TypeId} {pos : String} {after : Array Edge} {j : Nat} {want : Bool} (hc : isCall op = false) :
  adr P n ops Q m i (⟨dst, op, ty, pos, after, some (j, want)⟩ :: rest) e h acc = dGrd P n ops Q m i rest dst op ((slotOf ops j).bind fun t => guardB (e t) want) e h acc := by
 unfold adr dGrd dResG
 cases op with
 | call c =>
  obtain ⟨callee, args, ats⟩ := c
  cases callee with
  | value f => simp [isCall] at hc
  | _ => rfl
 | _ => rfl
theorem VC_adr : VC True (adrL P n ops Q m i rest e h acc) = adr P n ops Q m i rest e h acc := by simp [VC, adrL, adr]
theorem VC.mkD {a : Prop} (h1 : a) (h2 : a → adr P n ops Q m i rest e h acc) : VC a (adrL P n ops Q m i rest e h acc) := ⟨h1, h2 h1⟩
theorem dEnd.mk {recs : List DRec} (h1 : (okDraw ops recs && noNew recs) = true) (h2 : Q .normal e h n) : dEnd Q ops n e h recs := by
 rw [Bool.and_eq_true] at h1
 exact ⟨h1.1, .inl ⟨h1.2, h2⟩⟩
theorem dEnd.mkN {recs : List DRec} (h1 : okDraw ops recs = true) (h2 : Q .normal e h (n + 16 * ops.length)) : dEnd Q ops n e h recs := ⟨h1, .inr h2⟩
theorem wL {a : Prop} (h2 : a → aops P ops Q rest e h n) (h1 : a := by first | omega | exact True.intro | rfl) : VC a (aopsL P ops Q rest e h n) := ⟨h1, h2 h1⟩
theorem wD {a : Prop} (h2 : a → adr P n ops Q m i rest e h acc) (h1 : a := by first | omega | exact True.intro | (intros; omega)) : VC a (adrL P n ops Q m i rest e h acc) := ⟨h1, h2 h1⟩
theorem wE {recs : List DRec} (h2 : Q .normal e h n) (h1 : (okDraw ops recs && noNew recs) = true := by kernel_rfl) : dEnd Q ops n e h recs := dEnd.mk h1 h2
theorem dRes_0 {d : Tmp} {rd : List Nat} {c : Prop} {x : AV} : dRes P n ops Q m i rest (some d) rd ⟨c, x, [], 0⟩ e h acc = VC c (adrL P n ops Q m (i + 1) rest (upd e d x) h (acc ++ [(rd, [])])) := rfl
theorem dRes_0n {rd : List Nat} {c : Prop} {x : AV} : dRes P n ops Q m i rest none rd ⟨c, x, [], 0⟩ e h acc = VC c (adrL P n ops Q m (i + 1) rest e h (acc ++ [(rd, [])])) := rfl
theorem dRes_1 {d : Tmp} {rd : List Nat} {c : Prop} {x : AV} {o : Nat} {y : Option AObj} {al : Nat} : dRes P n ops Q m i rest (some d) rd ⟨c, x, [(o, y)], al⟩ e h acc = VC c (adrL P n ops Q m (i + 1) rest (upd e d x) (upd h o y) (acc ++ [(rd, [o])])) := rfl
theorem dRes_1n {rd : List Nat} {c : Prop} {x : AV} {o : Nat} {y : Option AObj} {al : Nat} : dRes P n ops Q m i rest none rd ⟨c, x, [(o, y)], al⟩ e h acc = VC c (adrL P n ops Q m (i + 1) rest e (upd h o y) (acc ++ [(rd, [o])])) := rfl
theorem dResG_0 {d : Tmp} {g : Bool} {rd : List Nat} {c : Prop} {x : AV} : dResG P n ops Q m i rest (some d) g rd ⟨c, x, [], 0⟩ e h acc = VC (g = true → c) (adrL P n ops Q m (i + 1) rest (upd e d (.gd g x)) h (acc ++ [(rd, [])])) := by
 cases g <;> simp [dResG, put, VC, adr, adrL, gW, applyW]
theorem dResG_T {d : Tmp} {rd : List Nat} {c : Prop} {x : AV} {o : Nat} {y : Option AObj} {al : Nat} : dResG P n ops Q m i rest (some d) true rd ⟨c, x, [(o, y)], al⟩ e h acc = VC c (adrL P n ops Q m (i + 1) rest (upd e d (.gd true x)) (upd h o y) (acc ++ [(rd, [o])])) := by
 simp [dResG, put, VC, adr, adrL, gW, applyW]
theorem dResG_Tn {rd : List Nat} {c : Prop} {x : AV} {o : Nat} {y : Option AObj} {al : Nat} : dResG P n ops Q m i rest none true rd ⟨c, x, [(o, y)], al⟩ e h acc = VC c (adrL P n ops Q m (i + 1) rest e (upd h o y) (acc ++ [(rd, [o])])) := by
 simp [dResG, put, VC, adr, adrL, gW, applyW]
theorem dResG_F {d : Tmp} {rd : List Nat} {r : Res} : dResG P n ops Q m i rest (some d) false rd r e h acc = adr P n ops Q m (i + 1) rest (upd e d (.gd false r.val)) h (acc ++ [(rd, [])]) := by
 simp [dResG, put, VC, adr, gW, applyW]
theorem dResG_Fn {rd : List Nat} {r : Res} : dResG P n ops Q m i rest none false rd r e h acc = adr P n ops Q m (i + 1) rest e h (acc ++ [(rd, [])]) := by
 simp [dResG, put, VC, adr, gW, applyW]
theorem dGrd_some {dst : Option Tmp} {op : Op} {g : Bool} : dGrd P n ops Q m i rest dst op (some g) e h acc = VQ (∀ t ∈ gT op, okG g (e t)) (dResG P n ops Q m i rest dst g ((op.operands.toList.map (ev (gE op e))).flatMap AV.ids) (aev P (n + i) op (gE op e) h) e h acc) := rfl
theorem dCall.flat {dst : Option Tmp} {f : FuncId} {first caps args : List AV} (args' : List AV) (r : AV) (S : List Nat) (hp : Pure P f args' r) (hfl : Flat r) (hle : ∀ h₁ : Heap, (∀ o ∈ S, h o = h₁ o) → LeRow h₁ noH 0 (first ++ args ++ caps) args') (hb : ∀ c ∈ args', Bel 0 c)
  (hk : adr P n ops Q m (i + 1) rest (put e dst r) h (acc ++ [(S, [])])) : dCall P n ops Q m i rest dst (.fn (.func f) first caps) args e h acc := ⟨r, S, [], .inl ⟨rfl, f, first, caps, args', rfl, hb, hp, .inl ⟨hle, hfl⟩⟩, hk⟩
theorem dCall.plain {dst : Option Tmp} {f : FuncId} {first caps args : List AV} {r : AV} (hp : Pure P f (first ++ args ++ caps) r) (hb : ∀ c ∈ first ++ args ++ caps, Bel 0 c)
  (hk : adr P n ops Q m (i + 1) rest (put e dst r) h (acc ++ [([], [])])) : dCall P n ops Q m i rest dst (.fn (.func f) first caps) args e h acc := ⟨r, [], [], .inl ⟨rfl, f, first, caps, _, rfl, hb, hp, .inr rfl⟩, hk⟩
theorem dCall.frz {dst : Option Tmp} {f : FuncId} {first caps args : List AV} (args' : List AV) (r : AV) (S : List Nat) (wr : List (Nat × Option AObj)) (hp : Pure P f args' r)
  (hw : ∀ p ∈ wr, p.1 ∈ S ∧ ∃ g sz rs, p.2 = some (.rows false g sz rs) ∧ h p.1 = some (.rows true g sz rs)) (hle : ∀ h₁ : Heap, (∀ o ∈ S, h o = h₁ o) → LeRow h₁ (applyW wr h₁) 0 (first ++ args ++ caps) args') (hb : ∀ c ∈ args', Bel 0 c)
  (hk : adr P n ops Q m (i + 1) rest (put e dst r) (applyW wr h) (acc ++ [(S, wr.map (·.1))])) : dCall P n ops Q m i rest dst (.fn (.func f) first caps) args e h acc := ⟨r, S, wr, .inr (.inl ⟨f, first, caps, args', rfl, hb, hp, hw, hle⟩), hk⟩
@[congr] theorem adr_congr (h1 : i = i') : adr P n ops Q m i rest e h acc = adr P n ops Q m i' rest e h acc := by subst h1; rfl
@[congr] theorem adrL_congr (h1 : i = i') : adrL P n ops Q m i rest e h acc = adrL P n ops Q m i' rest e h acc := by subst h1; rfl
@[congr] theorem dRes_congr {dst : Option Tmp} {rd rd' : List Nat} {r r' : Res} (h1 : i = i') (h2 : rd = rd') (h0 : r = r') : dRes P n ops Q m i rest dst rd r e h acc = dRes P n ops Q m i' rest dst rd' r' e h acc := by subst h0 h1 h2; rfl
@[congr] theorem dResG_congr {dst : Option Tmp} {g g' : Bool} {rd rd' : List Nat} {r r' : Res} (h1 : i = i') (hg : g = g') (h2 : rd = rd') (h0 : r = r') : dResG P n ops Q m i rest dst g rd r e h acc = dResG P n ops Q m i' rest dst g' rd' r' e h acc := by subst h0 h1 h2 hg; rfl
@[congr] theorem dGrd_congr {dst : Option Tmp} {op : Op} {g g' : Option Bool} (h1 : i = i') (h0 : g = g') : dGrd P n ops Q m i rest dst op g e h acc = dGrd P n ops Q m i' rest dst op g' e h acc := by subst h0 h1; rfl
@[congr] theorem dCall_congr {dst : Option Tmp} {fv fv' : AV} {args args' : List AV} (h1 : i = i') (h0 : fv = fv') (h2 : args = args') : dCall P n ops Q m i rest dst fv args e h acc = dCall P n ops Q m i' rest dst fv' args' e h acc := by subst h0 h1 h2; rfl
@[congr] theorem dEnd_congr {acc acc' : List DRec} {n' : Nat} (h1 : n = n') (h0 : acc = acc') : dEnd Q ops n e h acc = dEnd Q ops n' e h acc' := by subst h0 h1; rfl
end draw
section drawEq
variable {P : Program} {Q : Post} {e : Env} {h : Heap} {n m i : Nat} {ops rest : List Oper} {acc : List DRec} {dst : Option Tmp} {ty : TypeId} {pos : String} {after : Array Edge} {j : Nat} {want : Bool}
theorem adr_move {x : Operand} : adr P n ops Q m i (⟨dst, .move x, ty, pos, after, none⟩ :: rest) e h acc = dRes P n ops Q m i rest dst (((.move x : Op).operands.toList.map (ev e)).flatMap AV.ids) (aev P (n + i) (.move x) e h) e h acc := adr_none rfl
theorem adrG_move {x : Operand} : adr P n ops Q m i (⟨dst, .move x, ty, pos, after, some (j, want)⟩ :: rest) e h acc = dGrd P n ops Q m i rest dst (.move x) ((slotOf ops j).bind fun t => guardB (e t) want) e h acc := adr_some rfl
theorem adr_assign {x : Operand} : adr P n ops Q m i (⟨dst, .assign x, ty, pos, after, none⟩ :: rest) e h acc = dRes P n ops Q m i rest dst (((.assign x : Op).operands.toList.map (ev e)).flatMap AV.ids) (aev P (n + i) (.assign x) e h) e h acc := adr_none rfl
theorem adrG_assign {x : Operand} : adr P n ops Q m i (⟨dst, .assign x, ty, pos, after, some (j, want)⟩ :: rest) e h acc = dGrd P n ops Q m i rest dst (.assign x) ((slotOf ops j).bind fun t => guardB (e t) want) e h acc := adr_some rfl
theorem adr_pick {c a b : Operand} : adr P n ops Q m i (⟨dst, .pick c a b, ty, pos, after, none⟩ :: rest) e h acc = dRes P n ops Q m i rest dst (((.pick c a b : Op).operands.toList.map (ev e)).flatMap AV.ids) (aev P (n + i) (.pick c a b) e h) e h acc := adr_none rfl
theorem adrG_pick {c a b : Operand} : adr P n ops Q m i (⟨dst, .pick c a b, ty, pos, after, some (j, want)⟩ :: rest) e h acc = dGrd P n ops Q m i rest dst (.pick c a b) ((slotOf ops j).bind fun t => guardB (e t) want) e h acc := adr_some rfl
theorem adr_alloc {t : TypeId} : adr P n ops Q m i (⟨dst, .alloc t, ty, pos, after, none⟩ :: rest) e h acc = dRes P n ops Q m i rest dst (((.alloc t : Op).operands.toList.map (ev e)).flatMap AV.ids) (aev P (n + i) (.alloc t) e h) e h acc := adr_none rfl
theorem adrG_alloc {t : TypeId} : adr P n ops Q m i (⟨dst, .alloc t, ty, pos, after, some (j, want)⟩ :: rest) e h acc = dGrd P n ops Q m i rest dst (.alloc t) ((slotOf ops j).bind fun t => guardB (e t) want) e h acc := adr_some rfl
theorem adr_box {t : TypeId} {x : Operand} : adr P n ops Q m i (⟨dst, .box t x, ty, pos, after, none⟩ :: rest) e h acc = dRes P n ops Q m i rest dst (((.box t x : Op).operands.toList.map (ev e)).flatMap AV.ids) (aev P (n + i) (.box t x) e h) e h acc := adr_none rfl
theorem adrG_box {t : TypeId} {x : Operand} : adr P n ops Q m i (⟨dst, .box t x, ty, pos, after, some (j, want)⟩ :: rest) e h acc = dGrd P n ops Q m i rest dst (.box t x) ((slotOf ops j).bind fun t => guardB (e t) want) e h acc := adr_some rfl
theorem adr_build {t : TypeId} {ps : Array (Nat × Operand)} : adr P n ops Q m i (⟨dst, .build t ps, ty, pos, after, none⟩ :: rest) e h acc = dRes P n ops Q m i rest dst (((.build t ps : Op).operands.toList.map (ev e)).flatMap AV.ids) (aev P (n + i) (.build t ps) e h) e h acc := adr_none rfl
theorem adrG_build {t : TypeId} {ps : Array (Nat × Operand)} : adr P n ops Q m i (⟨dst, .build t ps, ty, pos, after, some (j, want)⟩ :: rest) e h acc = dGrd P n ops Q m i rest dst (.build t ps) ((slotOf ops j).bind fun t => guardB (e t) want) e h acc := adr_some rfl
theorem adr_buildSlice {t : TypeId} {k : Nat} {ps : Array (Nat × Operand)} : adr P n ops Q m i (⟨dst, .buildSlice t k ps, ty, pos, after, none⟩ :: rest) e h acc = dRes P n ops Q m i rest dst (((.buildSlice t k ps : Op).operands.toList.map (ev e)).flatMap AV.ids) (aev P (n + i) (.buildSlice t k ps) e h) e h acc := adr_none rfl
theorem adrG_buildSlice {t : TypeId} {k : Nat} {ps : Array (Nat × Operand)} : adr P n ops Q m i (⟨dst, .buildSlice t k ps, ty, pos, after, some (j, want)⟩ :: rest) e h acc = dGrd P n ops Q m i rest dst (.buildSlice t k ps) ((slotOf ops j).bind fun t => guardB (e t) want) e h acc := adr_some rfl
theorem adr_load {t : TypeId} {x : Operand} : adr P n ops Q m i (⟨dst, .load t x, ty, pos, after, none⟩ :: rest) e h acc = dRes P n ops Q m i rest dst (((.load t x : Op).operands.toList.map (ev e)).flatMap AV.ids) (aev P (n + i) (.load t x) e h) e h acc := adr_none rfl
theorem adrG_load {t : TypeId} {x : Operand} : adr P n ops Q m i (⟨dst, .load t x, ty, pos, after, some (j, want)⟩ :: rest) e h acc = dGrd P n ops Q m i rest dst (.load t x) ((slotOf ops j).bind fun t => guardB (e t) want) e h acc := adr_some rfl
theorem adr_store {t : TypeId} {x y : Operand} : adr P n ops Q m i (⟨dst, .store t x y, ty, pos, after, none⟩ :: rest) e h acc = dRes P n ops Q m i rest dst (((.store t x y : Op).operands.toList.map (ev e)).flatMap AV.ids) (aev P (n + i) (.store t x y) e h) e h acc := adr_none rfl
theorem adrG_store {t : TypeId} {x y : Operand} : adr P n ops Q m i (⟨dst, .store t x y, ty, pos, after, some (j, want)⟩ :: rest) e h acc = dGrd P n ops Q m i rest dst (.store t x y) ((slotOf ops j).bind fun t => guardB (e t) want) e h acc := adr_some rfl
theorem adr_binOp {o : BinOp} {t : TypeId} {x y : Operand} {t' : TypeId} : adr P n ops Q m i (⟨dst, .binOp o t x y t', ty, pos, after, none⟩ :: rest) e h acc = dRes P n ops Q m i rest dst (((.binOp o t x y t' : Op).operands.toList.map (ev e)).flatMap AV.ids) (aev P (n + i) (.binOp o t x y t') e h) e h acc := adr_none rfl
theorem adrG_binOp {o : BinOp} {t : TypeId} {x y : Operand} {t' : TypeId} : adr P n ops Q m i (⟨dst, .binOp o t x y t', ty, pos, after, some (j, want)⟩ :: rest) e h acc = dGrd P n ops Q m i rest dst (.binOp o t x y t') ((slotOf ops j).bind fun t => guardB (e t) want) e h acc := adr_some rfl
theorem adr_unOp {o : UnOp} {t : TypeId} {x : Operand} : adr P n ops Q m i (⟨dst, .unOp o t x, ty, pos, after, none⟩ :: rest) e h acc = dRes P n ops Q m i rest dst (((.unOp o t x : Op).operands.toList.map (ev e)).flatMap AV.ids) (aev P (n + i) (.unOp o t x) e h) e h acc := adr_none rfl
theorem adr_nilCheck {x : Operand} : adr P n ops Q m i (⟨dst, .nilCheck x, ty, pos, after, none⟩ :: rest) e h acc = dRes P n ops Q m i rest dst (((.nilCheck x : Op).operands.toList.map (ev e)).flatMap AV.ids) (aev P (n + i) (.nilCheck x) e h) e h acc := adr_none rfl
theorem adrG_unOp {o : UnOp} {t : TypeId} {x : Operand} : adr P n ops Q m i (⟨dst, .unOp o t x, ty, pos, after, some (j, want)⟩ :: rest) e h acc = dGrd P n ops Q m i rest dst (.unOp o t x) ((slotOf ops j).bind fun t => guardB (e t) want) e h acc := adr_some rfl
theorem adrG_nilCheck {x : Operand} : adr P n ops Q m i (⟨dst, .nilCheck x, ty, pos, after, some (j, want)⟩ :: rest) e h acc = dGrd P n ops Q m i rest dst (.nilCheck x) ((slotOf ops j).bind fun t => guardB (e t) want) e h acc := adr_some rfl
theorem adr_convert {s d : TypeId} {x : Operand} : adr P n ops Q m i (⟨dst, .convert s d x, ty, pos, after, none⟩ :: rest) e h acc = dRes P n ops Q m i rest dst (((.convert s d x : Op).operands.toList.map (ev e)).flatMap AV.ids) (aev P (n + i) (.convert s d x) e h) e h acc := adr_none rfl
theorem adrG_convert {s d : TypeId} {x : Operand} : adr P n ops Q m i (⟨dst, .convert s d x, ty, pos, after, some (j, want)⟩ :: rest) e h acc = dGrd P n ops Q m i rest dst (.convert s d x) ((slotOf ops j).bind fun t => guardB (e t) want) e h acc := adr_some rfl
theorem adr_fieldAddr {t : TypeId} {x : Operand} {f : Nat} : adr P n ops Q m i (⟨dst, .fieldAddr t x f, ty, pos, after, none⟩ :: rest) e h acc = dRes P n ops Q m i rest dst (((.fieldAddr t x f : Op).operands.toList.map (ev e)).flatMap AV.ids) (aev P (n + i) (.fieldAddr t x f) e h) e h acc := adr_none rfl
theorem adrG_fieldAddr {t : TypeId} {x : Operand} {f : Nat} : adr P n ops Q m i (⟨dst, .fieldAddr t x f, ty, pos, after, some (j, want)⟩ :: rest) e h acc = dGrd P n ops Q m i rest dst (.fieldAddr t x f) ((slotOf ops j).bind fun t => guardB (e t) want) e h acc := adr_some rfl
theorem adr_field {t : TypeId} {x : Operand} {f : Nat} : adr P n ops Q m i (⟨dst, .field t x f, ty, pos, after, none⟩ :: rest) e h acc = dRes P n ops Q m i rest dst (((.field t x f : Op).operands.toList.map (ev e)).flatMap AV.ids) (aev P (n + i) (.field t x f) e h) e h acc := adr_none rfl
theorem adrG_field {t : TypeId} {x : Operand} {f : Nat} : adr P n ops Q m i (⟨dst, .field t x f, ty, pos, after, some (j, want)⟩ :: rest) e h acc = dGrd P n ops Q m i rest dst (.field t x f) ((slotOf ops j).bind fun t => guardB (e t) want) e h acc := adr_some rfl
theorem adr_indexAddr {t : TypeId} {x ix : Operand} : adr P n ops Q m i (⟨dst, .indexAddr t x ix, ty, pos, after, none⟩ :: rest) e h acc = dRes P n ops Q m i rest dst (((.indexAddr t x ix : Op).operands.toList.map (ev e)).flatMap AV.ids) (aev P (n + i) (.indexAddr t x ix) e h) e h acc := adr_none rfl
theorem adrG_indexAddr {t : TypeId} {x ix : Operand} : adr P n ops Q m i (⟨dst, .indexAddr t x ix, ty, pos, after, some (j, want)⟩ :: rest) e h acc = dGrd P n ops Q m i rest dst (.indexAddr t x ix) ((slotOf ops j).bind fun t => guardB (e t) want) e h acc := adr_some rfl
theorem adr_index {t : TypeId} {x ix : Operand} : adr P n ops Q m i (⟨dst, .index t x ix, ty, pos, after, none⟩ :: rest) e h acc = dRes P n ops Q m i rest dst (((.index t x ix : Op).operands.toList.map (ev e)).flatMap AV.ids) (aev P (n + i) (.index t x ix) e h) e h acc := adr_none rfl
theorem adrG_index {t : TypeId} {x ix : Operand} : adr P n ops Q m i (⟨dst, .index t x ix, ty, pos, after, some (j, want)⟩ :: rest) e h acc = dGrd P n ops Q m i rest dst (.index t x ix) ((slotOf ops j).bind fun t => guardB (e t) want) e h acc := adr_some rfl
theorem adr_extract {x : Operand} {fi : Nat} : adr P n ops Q m i (⟨dst, .extract x fi, ty, pos, after, none⟩ :: rest) e h acc = dRes P n ops Q m i rest dst (((.extract x fi : Op).operands.toList.map (ev e)).flatMap AV.ids) (aev P (n + i) (.extract x fi) e h) e h acc := adr_none rfl
theorem adrG_extract {x : Operand} {fi : Nat} : adr P n ops Q m i (⟨dst, .extract x fi, ty, pos, after, some (j, want)⟩ :: rest) e h acc = dGrd P n ops Q m i rest dst (.extract x fi) ((slotOf ops j).bind fun t => guardB (e t) want) e h acc := adr_some rfl
theorem adr_makeMap {t : TypeId} {r : Option Operand} : adr P n ops Q m i (⟨dst, .makeMap t r, ty, pos, after, none⟩ :: rest) e h acc = dRes P n ops Q m i rest dst (((.makeMap t r : Op).operands.toList.map (ev e)).flatMap AV.ids) (aev P (n + i) (.makeMap t r) e h) e h acc := adr_none rfl
theorem adrG_makeMap {t : TypeId} {r : Option Operand} : adr P n ops Q m i (⟨dst, .makeMap t r, ty, pos, after, some (j, want)⟩ :: rest) e h acc = dGrd P n ops Q m i rest dst (.makeMap t r) ((slotOf ops j).bind fun t => guardB (e t) want) e h acc := adr_some rfl
theorem adr_mapUpdate {t : TypeId} {m' k x : Operand} : adr P n ops Q m i (⟨dst, .mapUpdate t m' k x, ty, pos, after, none⟩ :: rest) e h acc = dRes P n ops Q m i rest dst (((.mapUpdate t m' k x : Op).operands.toList.map (ev e)).flatMap AV.ids) (aev P (n + i) (.mapUpdate t m' k x) e h) e h acc := adr_none rfl
theorem adrG_mapUpdate {t : TypeId} {m' k x : Operand} : adr P n ops Q m i (⟨dst, .mapUpdate t m' k x, ty, pos, after, some (j, want)⟩ :: rest) e h acc = dGrd P n ops Q m i rest dst (.mapUpdate t m' k x) ((slotOf ops j).bind fun t => guardB (e t) want) e h acc := adr_some rfl
theorem adr_insert {t : TypeId} {m' k x : Operand} : adr P n ops Q m i (⟨dst, .insert t m' k x, ty, pos, after, none⟩ :: rest) e h acc = dRes P n ops Q m i rest dst (((.insert t m' k x : Op).operands.toList.map (ev e)).flatMap AV.ids) (aev P (n + i) (.insert t m' k x) e h) e h acc := adr_none rfl
theorem adrG_insert {t : TypeId} {m' k x : Operand} : adr P n ops Q m i (⟨dst, .insert t m' k x, ty, pos, after, some (j, want)⟩ :: rest) e h acc = dGrd P n ops Q m i rest dst (.insert t m' k x) ((slotOf ops j).bind fun t => guardB (e t) want) e h acc := adr_some rfl
theorem adr_lookup {t : TypeId} {m' k : Operand} {ok : Bool} : adr P n ops Q m i (⟨dst, .lookup t m' k ok, ty, pos, after, none⟩ :: rest) e h acc = dRes P n ops Q m i rest dst (((.lookup t m' k ok : Op).operands.toList.map (ev e)).flatMap AV.ids) (aev P (n + i) (.lookup t m' k ok) e h) e h acc := adr_none rfl
theorem adrG_lookup {t : TypeId} {m' k : Operand} {ok : Bool} : adr P n ops Q m i (⟨dst, .lookup t m' k ok, ty, pos, after, some (j, want)⟩ :: rest) e h acc = dGrd P n ops Q m i rest dst (.lookup t m' k ok) ((slotOf ops j).bind fun t => guardB (e t) want) e h acc := adr_some rfl
theorem adr_makeSlice {t : TypeId} {l c : Operand} : adr P n ops Q m i (⟨dst, .makeSlice t l c, ty, pos, after, none⟩ :: rest) e h acc = dRes P n ops Q m i rest dst (((.makeSlice t l c : Op).operands.toList.map (ev e)).flatMap AV.ids) (aev P (n + i) (.makeSlice t l c) e h) e h acc := adr_none rfl
theorem adrG_makeSlice {t : TypeId} {l c : Operand} : adr P n ops Q m i (⟨dst, .makeSlice t l c, ty, pos, after, some (j, want)⟩ :: rest) e h acc = dGrd P n ops Q m i rest dst (.makeSlice t l c) ((slotOf ops j).bind fun t => guardB (e t) want) e h acc := adr_some rfl
theorem adr_slice {t : TypeId} {x : Operand} {lo hi mx : Option Operand} : adr P n ops Q m i (⟨dst, .slice t x lo hi mx, ty, pos, after, none⟩ :: rest) e h acc = dRes P n ops Q m i rest dst (((.slice t x lo hi mx : Op).operands.toList.map (ev e)).flatMap AV.ids) (aev P (n + i) (.slice t x lo hi mx) e h) e h acc := adr_none rfl
theorem adrG_slice {t : TypeId} {x : Operand} {lo hi mx : Option Operand} : adr P n ops Q m i (⟨dst, .slice t x lo hi mx, ty, pos, after, some (j, want)⟩ :: rest) e h acc = dGrd P n ops Q m i rest dst (.slice t x lo hi mx) ((slotOf ops j).bind fun t => guardB (e t) want) e h acc := adr_some rfl
theorem adr_makeInterface {t : TypeId} {x : Operand} : adr P n ops Q m i (⟨dst, .makeInterface t x, ty, pos, after, none⟩ :: rest) e h acc = dRes P n ops Q m i rest dst (((.makeInterface t x : Op).operands.toList.map (ev e)).flatMap AV.ids) (aev P (n + i) (.makeInterface t x) e h) e h acc := adr_none rfl
theorem adrG_makeInterface {t : TypeId} {x : Operand} : adr P n ops Q m i (⟨dst, .makeInterface t x, ty, pos, after, some (j, want)⟩ :: rest) e h acc = dGrd P n ops Q m i rest dst (.makeInterface t x) ((slotOf ops j).bind fun t => guardB (e t) want) e h acc := adr_some rfl
theorem adr_panic {x : Operand} : adr P n ops Q m i (⟨dst, .panic x, ty, pos, after, none⟩ :: rest) e h acc = dRes P n ops Q m i rest dst (((.panic x : Op).operands.toList.map (ev e)).flatMap AV.ids) (aev P (n + i) (.panic x) e h) e h acc := adr_none rfl
theorem adrG_panic {x : Operand} : adr P n ops Q m i (⟨dst, .panic x, ty, pos, after, some (j, want)⟩ :: rest) e h acc = dGrd P n ops Q m i rest dst (.panic x) ((slotOf ops j).bind fun t => guardB (e t) want) e h acc := adr_some rfl
theorem adr_builtin {b : Builtin} {args : Array Operand} {ats : Array TypeId} : adr P n ops Q m i (⟨dst, .call ⟨.builtin b, args, ats⟩, ty, pos, after, none⟩ :: rest) e h acc = dRes P n ops Q m i rest dst (((.call ⟨.builtin b, args, ats⟩ : Op).operands.toList.map (ev e)).flatMap AV.ids) (aev P (n + i) (.call ⟨.builtin b, args, ats⟩) e h) e h acc := adr_none rfl
theorem adrG_builtin {b : Builtin} {args : Array Operand} {ats : Array TypeId} : adr P n ops Q m i (⟨dst, .call ⟨.builtin b, args, ats⟩, ty, pos, after, some (j, want)⟩ :: rest) e h acc = dGrd P n ops Q m i rest dst (.call ⟨.builtin b, args, ats⟩) ((slotOf ops j).bind fun t => guardB (e t) want) e h acc := adr_some rfl
theorem adr_makeFunc {f : Fn} {xs ys : Array Operand} : adr P n ops Q m i (⟨dst, .makeFunc f xs ys, ty, pos, after, none⟩ :: rest) e h acc = dRes P n ops Q m i rest dst (((.makeFunc f xs ys : Op).operands.toList.map (ev e)).flatMap AV.ids) (aev P (n + i) (.makeFunc f xs ys) e h) e h acc := adr_none rfl
theorem adrG_makeFunc {f : Fn} {xs ys : Array Operand} : adr P n ops Q m i (⟨dst, .makeFunc f xs ys, ty, pos, after, some (j, want)⟩ :: rest) e h acc = dGrd P n ops Q m i rest dst (.makeFunc f xs ys) ((slotOf ops j).bind fun t => guardB (e t) want) e h acc := adr_some rfl
end drawEq
attribute [go_sem] adr_makeMap adrG_makeMap adr_mapUpdate adrG_mapUpdate adr_insert adrG_insert adr_lookup adrG_lookup adr_move adrG_move adr_assign adrG_assign adr_pick adrG_pick adr_alloc adrG_alloc adr_box adrG_box adr_build adrG_build adr_buildSlice adrG_buildSlice adr_load adrG_load adr_store adrG_store adr_binOp adrG_binOp adr_unOp adrG_unOp adr_nilCheck adrG_nilCheck adr_convert adrG_convert adr_fieldAddr adrG_fieldAddr adr_field adrG_field adr_indexAddr adrG_indexAddr adr_index adrG_index adr_extract adrG_extract adr_makeSlice adrG_makeSlice adr_slice adrG_slice adr_makeInterface adrG_makeInterface adr_panic adrG_panic adr_builtin adrG_builtin adr_makeFunc adrG_makeFunc
attribute [go_sem] awp_draw adr_nil adr_call VC_adr dRes_0 dRes_0n dRes_1 dRes_1n dResG_0 dResG_T dResG_Tn dResG_F dResG_Fn dGrd_some AV.ids List.flatMap_cons List.flatMap_nil
section gcall
variable {P : Program} {Q : Post} {e : Env} {h : Heap} {n m i : Nat} {ops rest : List Oper} {acc : List DRec}
def aGC (P : Program) (ops : List Oper) (Q : Post) (rest : List Oper) (dst : Option Tmp) (g : Bool) (fv : AV) (args : List AV) (e : Env) (h : Heap) (n : Nat) : Prop :=
 (∃ x, (g = true → acall P fv args h n fun r h' n' => r = x ∧ h' = h ∧ n' = n) ∧ aops P ops Q rest (put e dst (.gd g x)) h n) ∨
 (g = true ∧ acall P fv args h n fun r h' n' => aops P ops Q rest (put e dst (.gd true r)) h' n') ∨
 (g = true ∧ ycall e fv args h n fun e' r h' => aops P ops Q rest (put e' dst (.gd true r)) h' n)
def aGrdCall (P : Program) (ops : List Oper) (Q : Post) (rest : List Oper) (dst : Option Tmp) (f : Operand) (args : List Operand) (op : Op) (g : Option Bool) (e : Env) (h : Heap) (n : Nat) : Prop :=
 match g with
 | none => False
 | some g => VQ (∀ t ∈ opTmps op, okG g (e t)) (aGC P ops Q rest dst g (ev (fun t => unG (e t)) f) (args.map (ev fun t => unG (e t))) e h n)
theorem aopsG_call {dst : Option Tmp} {f : Operand} {args : Array Operand} {ats : Array TypeId} {ty : TypeId} {pos : String} {after : Array Edge} {j : Nat} {want : Bool} :
  aops P ops Q (⟨dst, .call ⟨.value f, args, ats⟩, ty, pos, after, some (j, want)⟩ :: rest) e h n = aGrdCall P ops Q rest dst f args.toList (.call ⟨.value f, args, ats⟩) ((slotOf ops j).bind fun t => guardB (e t) want) e h n := rfl
theorem aGrdCall_some {dst : Option Tmp} {f : Operand} {args : List Operand} {op : Op} {g : Bool} : aGrdCall P ops Q rest dst f args op (some g) e h n = VQ (∀ t ∈ opTmps op, okG g (e t)) (aGC P ops Q rest dst g (ev (fun t => unG (e t)) f) (args.map (ev fun t => unG (e t))) e h n) := rfl
theorem aGC.flat {dst : Option Tmp} {g : Bool} {f : FuncId} {first caps args : List AV} (args' : List AV) (r : AV) (hp : g = true → Pure P f args' r) (hfl : Flat r) (hle : LeRow h noH n (first ++ args ++ caps) args') (hb : ∀ c ∈ args', Bel 0 c)
  (hk : aops P ops Q rest (put e dst (.gd g r)) h n) : aGC P ops Q rest dst g (.fn (.func f) first caps) args e h n :=
 .inl ⟨r, fun hg => ACallP.flat (hp hg) hfl hle hb ⟨rfl, rfl, rfl⟩, hk⟩
theorem aGC.plain {dst : Option Tmp} {g : Bool} {f : FuncId} {first caps args : List AV} (r : AV) (hp : g = true → Pure P f (first ++ args ++ caps) r) (hb : ∀ c ∈ first ++ args ++ caps, Bel 0 c)
  (hk : aops P ops Q rest (put e dst (.gd g r)) h n) : aGC P ops Q rest dst g (.fn (.func f) first caps) args e h n :=
 .inl ⟨r, fun hg => ACallP.plain (hp hg) hb ⟨rfl, rfl, rfl⟩, hk⟩
theorem aGC.skip (x : AV) {dst : Option Tmp} {fv : AV} {args : List AV} (hk : aops P ops Q rest (put e dst (.gd false x)) h n) : aGC P ops Q rest dst false fv args e h n := .inl ⟨x, (fun hg => nomatch hg), hk⟩
theorem aGC.go {dst : Option Tmp} {f : FuncId} {first caps args : List AV} (hk : ACallP P f (first ++ args ++ caps) h n fun r h' n' => aops P ops Q rest (put e dst (.gd true r)) h' n') : aGC P ops Q rest dst true (.fn (.func f) first caps) args e h n := .inr (.inl ⟨rfl, hk⟩)
def dGC (P : Program) (n : Nat) (ops : List Oper) (Q : Post) (m : Nat) (i : Nat) (rest : List Oper) (dst : Option Tmp) (g : Bool) (fv : AV) (args : List AV) (e : Env) (h : Heap) (acc : List DRec) : Prop :=
 ∃ r S wr, (g = true → PCallW P (n + ops.length + 16 * i) fv args h r S wr) ∧ (g = false → wr = []) ∧ adr P n ops Q m (i + 1) rest (put e dst (.gd g r)) (applyW wr h) (acc ++ [(S, wr.map (·.1))])
def dGrdCall (P : Program) (n : Nat) (ops : List Oper) (Q : Post) (m : Nat) (i : Nat) (rest : List Oper) (dst : Option Tmp) (f : Operand) (args : List Operand) (op : Op) (g : Option Bool) (e : Env) (h : Heap) (acc : List DRec) : Prop :=
 match g with
 | none => False
 | some g => VQ (∀ t ∈ opTmps op, okG g (e t)) (dGC P n ops Q m i rest dst g (ev (fun t => unG (e t)) f) (args.map (ev fun t => unG (e t))) e h acc)
theorem adrG_call {dst : Option Tmp} {f : Operand} {args : Array Operand} {ats : Array TypeId} {ty : TypeId} {pos : String} {after : Array Edge} {j : Nat} {want : Bool} :
  adr P n ops Q m i (⟨dst, .call ⟨.value f, args, ats⟩, ty, pos, after, some (j, want)⟩ :: rest) e h acc = dGrdCall P n ops Q m i rest dst f args.toList (.call ⟨.value f, args, ats⟩) ((slotOf ops j).bind fun t => guardB (e t) want) e h acc := rfl
theorem dGrdCall_some {dst : Option Tmp} {f : Operand} {args : List Operand} {op : Op} {g : Bool} : dGrdCall P n ops Q m i rest dst f args op (some g) e h acc = VQ (∀ t ∈ opTmps op, okG g (e t)) (dGC P n ops Q m i rest dst g (ev (fun t => unG (e t)) f) (args.map (ev fun t => unG (e t))) e h acc) := rfl
theorem dGC.flat {dst : Option Tmp} {g : Bool} {f : FuncId} {first caps args : List AV} (args' : List AV) (r : AV) (S : List Nat) (hp : g = true → Pure P f args' r) (hfl : Flat r) (hle : ∀ h₁ : Heap, (∀ o ∈ S, h o = h₁ o) → LeRow h₁ noH 0 (first ++ args ++ caps) args')
  (hb : ∀ c ∈ args', Bel 0 c) (hk : adr P n ops Q m (i + 1) rest (put e dst (.gd g r)) h (acc ++ [(S, [])])) : dGC P n ops Q m i rest dst g (.fn (.func f) first caps) args e h acc :=
 ⟨r, S, [], fun hg => .inl ⟨rfl, f, first, caps, args', rfl, hb, hp hg, .inl ⟨hle, hfl⟩⟩, fun _ => rfl, hk⟩
theorem dGC.plain {dst : Option Tmp} {g : Bool} {f : FuncId} {first caps args : List AV} (r : AV) (hp : g = true → Pure P f (first ++ args ++ caps) r) (hb : ∀ c ∈ first ++ args ++ caps, Bel 0 c)
  (hk : adr P n ops Q m (i + 1) rest (put e dst (.gd g r)) h (acc ++ [([], [])])) : dGC P n ops Q m i rest dst g (.fn (.func f) first caps) args e h acc :=
 ⟨r, [], [], fun hg => .inl ⟨rfl, f, first, caps, _, rfl, hb, hp hg, .inr rfl⟩, fun _ => rfl, hk⟩
theorem dGC.skip (x : AV) {dst : Option Tmp} {fv : AV} {args : List AV} (hk : adr P n ops Q m (i + 1) rest (put e dst (.gd false x)) h (acc ++ [([], [])])) : dGC P n ops Q m i rest dst false fv args e h acc :=
 ⟨x, [], [], (fun hg => nomatch hg), fun _ => rfl, hk⟩
theorem dGC.frz {dst : Option Tmp} {f : FuncId} {first caps args : List AV} (args' : List AV) (r : AV) (S : List Nat) (wr : List (Nat × Option AObj)) (hp : Pure P f args' r)
  (hw : ∀ p ∈ wr, p.1 ∈ S ∧ ∃ g sz rs, p.2 = some (.rows false g sz rs) ∧ h p.1 = some (.rows true g sz rs)) (hle : ∀ h₁ : Heap, (∀ o ∈ S, h o = h₁ o) → LeRow h₁ (applyW wr h₁) 0 (first ++ args ++ caps) args') (hb : ∀ c ∈ args', Bel 0 c)
  (hk : adr P n ops Q m (i + 1) rest (put e dst (.gd true r)) (applyW wr h) (acc ++ [(S, wr.map (·.1))])) : dGC P n ops Q m i rest dst true (.fn (.func f) first caps) args e h acc :=
 ⟨r, S, wr, fun _ => .inr (.inl ⟨f, first, caps, args', rfl, hb, hp, hw, hle⟩), (fun h => nomatch h), hk⟩
@[congr] theorem aGC_congr {dst : Option Tmp} {g g' : Bool} {fv fv' : AV} {args args' : List AV} (hg : g = g') (h0 : fv = fv') (h1 : args = args') : aGC P ops Q rest dst g fv args e h n = aGC P ops Q rest dst g' fv' args' e h n := by subst h0 h1 hg; rfl
@[congr] theorem aGrdCall_congr {dst : Option Tmp} {f : Operand} {args : List Operand} {op : Op} {g g' : Option Bool} (h0 : g = g') : aGrdCall P ops Q rest dst f args op g e h n = aGrdCall P ops Q rest dst f args op g' e h n := by subst h0; rfl
@[congr] theorem dGC_congr {dst : Option Tmp} {g g' : Bool} {fv fv' : AV} {args args' : List AV} {i' : Nat} (hi : i = i') (hg : g = g') (h0 : fv = fv') (h1 : args = args') : dGC P n ops Q m i rest dst g fv args e h acc = dGC P n ops Q m i' rest dst g' fv' args' e h acc := by subst h0 h1 hg hi; rfl
@[congr] theorem dGrdCall_congr {dst : Option Tmp} {f : Operand} {args : List Operand} {op : Op} {g g' : Option Bool} {i' : Nat} (hi : i = i') (h0 : g = g') : dGrdCall P n ops Q m i rest dst f args op g e h acc = dGrdCall P n ops Q m i' rest dst f args op g' e h acc := by subst h0 hi; rfl
end gcall
attribute [go_sem] aopsG_call aGrdCall_some adrG_call dGrdCall_some

theorem ShL_self {n : Nat} : ∀ {xs : List AV}, (∀ c ∈ xs, Bel 0 c) → ShL n xs xs
 | [], _ => .nil
 | x :: xs, h => .cons (.same (h x (by simp))) (ShL_self fun c hc => h c (by simp [hc]))
theorem Sh_agg {n : Nat} {xs ys : List AV} : Sh n (.agg xs) (.agg ys) = ShL n xs ys := propext ⟨fun h => by
 cases h with
 | same h => cases h with | agg h => exact ShL_self h
 | agg h => exact h, .agg⟩
theorem Sh_tup {n : Nat} {xs ys : List AV} : Sh n (.tup xs) (.tup ys) = ShL n xs ys := propext ⟨fun h => by
 cases h with
 | same h => cases h with | tup h => exact ShL_self h
 | tup h => exact h, .tup⟩
theorem Sh_fn {n : Nat} {f : Fn} {a b a' b' : List AV} (h : ShL n a a') (h' : ShL n b b') : Sh n (.fn f a b) (.fn f a' b') = True := eq_true (.fn h h')
theorem Sh_ref {n o g sz i off : Nat} : Sh n (.ref o g sz i off) (.ref (n + o) g sz i off) = True := eq_true .ref
theorem Sh_sl {n o g sz i len : Nat} : Sh n (.sl o g sz i len) (.sl (n + o) g sz i len) = True := eq_true .sl
theorem Sh_ref0 {n g sz i off : Nat} : Sh n (.ref 0 g sz i off) (.ref n g sz i off) = True := eq_true (.ref (o := 0))
theorem Sh_sl0 {n g sz i len : Nat} : Sh n (.sl 0 g sz i len) (.sl n g sz i len) = True := eq_true (.sl (o := 0))
theorem Sh_v {n : Nat} {x : Value} : Sh n (.v x) (.v x) = True := eq_true (.same (.v x))
theorem Sh_lst {n sz : Nat} {rows : List (List AV)} (h : ∀ r ∈ rows, ∀ c ∈ r, Bel 0 c) : Sh n (.lst sz rows) (.lst sz rows) = True := eq_true (.same (.lst h))
theorem ShL_nil {n : Nat} : ShL n [] [] = True := eq_true .nil
theorem ShL_cons {n : Nat} {x y : AV} {xs ys : List AV} : ShL n (x :: xs) (y :: ys) = (Sh n x y ∧ ShL n xs ys) := propext ⟨fun h => by cases h with | cons a b => exact ⟨a, b⟩, fun h => .cons h.1 h.2⟩
theorem ShLL_same {n : Nat} {rs : List (List AV)} (h : ∀ r ∈ rs, ∀ c ∈ r, Bel 0 c) : ShLL n rs rs = True := eq_true (.same h)
theorem ShLL_nil {n : Nat} : ShLL n [] [] = True := eq_true .nil
theorem ShLL_cons {n : Nat} {x y : List AV} {xs ys : List (List AV)} (h : ShL n x y ∧ ShLL n xs ys) : ShLL n (x :: xs) (y :: ys) = True := eq_true (.cons h.1 h.2)
theorem ShO_rows {n : Nat} {mt : Bool} {g sz : Nat} {rs rs' : List (List AV)} : ShO n (.rows mt g sz rs) (.rows mt g sz rs') = ShLL n rs rs' := propext ⟨fun h => by cases h; assumption, .rows⟩
theorem ShH_nil {n : Nat} : ShH n [] [] = True := eq_true .nil
theorem ShH_cons {n o : Nat} {x y : AObj} {l l' : List (Nat × AObj)} : ShH n ((o, x) :: l) ((n + o, y) :: l') = (ShO n x y ∧ ShH n l l') :=
 propext ⟨fun h => by cases h with | cons a b => exact ⟨a, b⟩, fun h => .cons h.1 h.2⟩
theorem ShH_cons0 {n : Nat} {x y : AObj} {l l' : List (Nat × AObj)} : ShH n ((0, x) :: l) ((n, y) :: l') = (ShO n x y ∧ ShH n l l') := ShH_cons (o := 0)
attribute [go_sem] Sh_agg Sh_tup Sh_fn Sh_ref Sh_sl Sh_ref0 Sh_sl0 Sh_v Sh_lst ShL_nil ShL_cons ShLL_same ShLL_nil ShLL_cons ShO_rows ShH_nil ShH_cons ShH_cons0 over
theorem leV_refl {h h' : Heap} {n : Nat} {x : AV} : LeV h h' n x x := .refl x
attribute [go_sem] leV_refl
theorem InR_i64 {n : Int} : InR .i64 n = (-9223372036854775808 ≤ n ∧ n ≤ 9223372036854775807) := by
 simp [InR, IntKind.min, IntKind.max, IntKind.signed, IntKind.bits]
theorem InR_u8 {n : Int} : InR .u8 n = (0 ≤ n ∧ n ≤ 255) := by
 simp [InR, IntKind.min, IntKind.max, IntKind.signed, IntKind.bits]
theorem InR_u64 {n : Int} : InR .u64 n = (0 ≤ n ∧ n ≤ 18446744073709551615) := by
 simp [InR, IntKind.min, IntKind.max, IntKind.signed, IntKind.bits]
theorem InR_u32 {n : Int} : InR .u32 n = (0 ≤ n ∧ n ≤ 4294967295) := by
 simp [InR, IntKind.min, IntKind.max, IntKind.signed, IntKind.bits]
attribute [go_sem] InR_i64 InR_u8 InR_u64 InR_u32
theorem oc_int {k : IntKind} {n : Int} : (Value.int k n).oneCell' = true := rfl
theorem oc_bool {b : Bool} : (Value.bool b).oneCell' = true := rfl
theorem oc_slice {a : Option Addr} {l c : Nat} : (Value.slice a l c).oneCell' = true := rfl
theorem oc_pointer {a : Option Addr} : (Value.pointer a).oneCell' = true := rfl
attribute [go_sem] oc_int oc_bool oc_slice oc_pointer
structure LS where
 E : List (Nat × AV)
 H : List (Nat × AObj)
 n : Nat
def ALoopS (n0 : Nat) (B : Post → Env → Heap → Nat → Prop) (Q : Post) (s : LS) : Prop := ALoop n0 B Q (mkE s.E) (mkH s.H) s.n
theorem ALoop.ind {P : Program} {n0 : Nat} {b : Code} {Q : Post} {α : Type} (S : α → LS) (I : Nat → α → Prop)
  (step : ∀ d a, I d a → (∀ d', d' < d → ∀ a', I d' a' → ALoopS n0 (awp P n0 b) Q (S a')) → awp P n0 b (QSeq (ALoop n0 (awp P n0 b) Q) Q) (mkE (S a).E) (mkH (S a).H) (S a).n) :
  ∀ d a, I d a → ALoopS n0 (awp P n0 b) Q (S a) := by
 intro d
 induction d using Nat.strongRecOn with
 | ind d ih => intro a ha; exact ALoop.unroll (step d a ha fun d' hd a' ha' => ih d' hd a' ha')
theorem ALoop.start {P : Program} {n0 : Nat} {b : Code} {Q : Post} {e : Env} {h : Heap} {n : Nat} {s : LS} (hh : ALoopS n0 (awp P n0 b) Q s) (hk : Wk e h n s.E s.H s.n) (hn : n0 ≤ s.n) : ALoop n0 (awp P n0 b) Q e h n :=
 ALoop.forget s.E s.H s.n hk hn hh
theorem Wk_eq {e : Env} {h : Heap} {n : Nat} {E : List (Nat × AV)} {HH : List (Nat × AObj)} {n' : Nat} :
  Wk e h n E HH n' = ((∀ p ∈ E, LeV h (mkH HH) n (e p.1) p.2 ∧ Bel n' p.2) ∧ ∀ p ∈ HH, p.1 < n' ∧ LeO h (mkH HH) n p.1 (h p.1) p.2 ∧ BelO n' p.2) :=
 propext ⟨fun h => ⟨h.1, h.2⟩, fun h => ⟨h.1, h.2⟩⟩
theorem leO_same {h h' : Heap} {n o : Nat} {mt : Bool} {g sz : Nat} {rs : List (List AV)} : LeO h h' n o (some (.rows mt g sz rs)) (.rows mt g sz rs) = True := eq_true (.same (fun h => h) (.refl _))
theorem leO_own {h h' : Heap} {n o g sz : Nat} (hn : n ≤ o) : LeO h h' n o none (.rows true g sz []) = True := eq_true (.own hn)
theorem leRow_nil {h h' : Heap} {n : Nat} : LeRow h h' n [] [] = True := eq_true .nil
theorem leRow_cons {h h' : Heap} {n : Nat} {x y : AV} {xs ys : List AV} : LeRow h h' n (x :: xs) (y :: ys) = (LeV h h' n x y ∧ LeRow h h' n xs ys) :=
 propext ⟨fun h => by cases h with | cons a b => exact ⟨a, b⟩, fun h => .cons h.1 h.2⟩
theorem leV_nil {h h' : Heap} {n sz c : Nat} {A : Option Addr} : LeV h h' n (.v (.slice A 0 c)) (.lst sz []) = True := eq_true (.nil sz)
theorem leV_top {h h' : Heap} {n : Nat} {x : AV} : LeV h h' n x .top = True := eq_true (.top x)
theorem leV_own {h h' : Heap} {n o g sz : Nat} (hn : n ≤ o) (ho : h' o = some (.rows true g sz [])) : LeV h h' n (.v (.slice none 0 0)) (.sl o g sz 0 0) = True := eq_true (.own hn ho)
theorem noH_eq (o : Nat) : noH o = none := rfl
theorem leV_frz {h h' : Heap} {n o g sz i len : Nat} {mt : Bool} {rs rows : List (List AV)} (ho : h o = some (.rows mt g sz rs)) (hl : i + len ≤ rs.length) (ho' : ∀ g sz rs, h' o ≠ some (.rows true g sz rs)) (hr : (rs.drop i).take len = rows) :
  LeV h h' n (.sl o g sz i len) (.lst sz rows) := .frz ho hl ho' (hr ▸ .refl _)
theorem LeRow.of_eq {h h' : Heap} {n : Nat} {xs ys : List AV} (e : xs = ys) : LeRow h h' n xs ys := e ▸ .refl _ _ _ _
theorem leO_rows {h h' : Heap} {n o : Nat} {mt mt' : Bool} {g g' sz sz' : Nat} {rs rs' : List (List AV)} : LeO h h' n o (some (.rows mt g sz rs)) (.rows mt' g' sz' rs') = (g = g' ∧ sz = sz' ∧ (mt' = true → mt = true) ∧ LeRows h h' n rs rs') :=
 propext ⟨fun h => by cases h with | same hm hr => exact ⟨rfl, rfl, hm, hr⟩, fun ⟨h1, h2, h3, h4⟩ => by subst h1 h2; exact .same h3 h4⟩
theorem leRows_refl {h h' : Heap} {n : Nat} {rs : List (List AV)} : LeRows h h' n rs rs = True := eq_true (.refl _)
theorem leRows_cons {h h' : Heap} {n : Nat} {x y : List AV} {xs ys : List (List AV)} : LeRows h h' n (x :: xs) (y :: ys) = (LeRow h h' n x y ∧ LeRows h h' n xs ys) :=
 propext ⟨fun h => by cases h with
  | refl => exact ⟨.refl _ _ _ _, .refl _⟩
  | cons h t => exact ⟨h, t⟩, fun h => .cons h.1 h.2⟩
theorem leV_aggE {h h' : Heap} {n : Nat} {xs ys : List AV} : LeV h h' n (.agg xs) (.agg ys) = LeRow h h' n xs ys :=
 propext ⟨fun h => by cases h with
  | refl => exact .refl _ _ _ _
  | agg h => exact h, .agg⟩
theorem leV_tupE {h h' : Heap} {n : Nat} {xs ys : List AV} : LeV h h' n (.tup xs) (.tup ys) = LeRow h h' n xs ys :=
 propext ⟨fun h => by cases h with
  | refl => exact .refl _ _ _ _
  | tup h => exact h, .tup⟩
theorem NoFz_v {x : Value} : NoFz (.v x) = True := eq_true (.v x)
theorem NoFz_ref {o g sz i off : Nat} : NoFz (.ref o g sz i off) = True := eq_true (.ref ..)
theorem NoFz_sl {o g sz i len : Nat} : NoFz (.sl o g sz i len) = True := eq_true (.sl ..)
theorem NoFz_agg {xs : List AV} : NoFz (.agg xs) = ∀ x ∈ xs, NoFz x := propext ⟨fun h => by cases h; assumption, .agg⟩
theorem NoFz_tup {xs : List AV} : NoFz (.tup xs) = ∀ x ∈ xs, NoFz x := propext ⟨fun h => by cases h; assumption, .tup⟩
theorem NoFz_fn {f : Fn} {a b : List AV} : NoFz (.fn f a b) = ((∀ x ∈ a, NoFz x) ∧ ∀ x ∈ b, NoFz x) := propext ⟨fun h => by cases h; exact ⟨by assumption, by assumption⟩, fun h => .fn h.1 h.2⟩
theorem ACallP.ownsN {P : Program} {f : FuncId} {args args' : List AV} {h : Heap} {n : Nat} {K : CallK} {R : Nat → AV} {HH : Nat → List (Nat × AObj)} {k : Nat} (hp : Owns P f args' R HH k)
  (hnR : NoFz (R 0)) (hnH : ∀ p ∈ HH 0, NoFzO p.2) (hle : LeRow h noH n args args') (hb : ∀ c ∈ args', Bel 0 c) (hk : K (R n) (over (HH n) h) (n + k)) : ACallP P f args h n K :=
 ACallP.frameN hp.1 (fun _ _ _ h => h) (hp.2 n).1 (hp.2 n).2 hnR hnH hle hb hk
attribute [go_sem] leO_rows leRows_refl leRows_cons leV_aggE leV_tupE NoFz_v NoFz_ref NoFz_sl NoFz_agg NoFz_tup NoFz_fn NoFzO evExtract_tup
attribute [go_sem] noH_eq leV_own leO_own mkE mkH BelO leO_same leRow_nil leRow_cons leV_nil leV_top List.forall_mem_cons
theorem LeV.of_eq {h h' : Heap} {n : Nat} {x y : AV} (e : x = y) : LeV h h' n x y := e ▸ .refl x
theorem nadd (a b c : Nat) : a + b + c = a + (b + c) := Nat.add_assoc a b c
attribute [go_sem] nadd
class WS (G : Prop) (a X : outParam Prop) : Prop where out : a → (a → X) → G
instance {P : Program} {ops : List Oper} {Q : Post} {rest : List Oper} {e : Env} {h : Heap} {n : Nat} {a : Prop} : WS (VC a (aopsL P ops Q rest e h n)) a (aops P ops Q rest e h n) := ⟨fun h1 h2 => wL h2 h1⟩
instance {P : Program} {ops : List Oper} {Q : Post} {rest : List Oper} {e : Env} {h : Heap} {n m i : Nat} {a : Prop} {acc : List DRec} : WS (VC a (adrL P n ops Q m i rest e h acc)) a (adr P n ops Q m i rest e h acc) := ⟨fun h1 h2 => wD h2 h1⟩
instance {P : Program} {ops : List Oper} {Q : Post} {e : Env} {h : Heap} {n : Nat} : WS (adrZ P n ops Q e h) True (adr P n ops Q (n + ops.length) 0 ops e h []) := ⟨fun _ h2 => wZ (h2 trivial)⟩
def KR (p : Prop) : Prop := p
theorem kr {p : Prop} (h : p) : KR p := h
instance {ops : List Oper} {Q : Post} {n : Nat} {e : Env} {h : Heap} {recs : List DRec} : WS (dEnd Q ops n e h recs) (KR ((okDraw ops recs && noNew recs) = true)) (Q .normal e h n) := ⟨fun h1 h2 => dEnd.mk h1 (h2 h1)⟩
theorem wV {G a X : Prop} [i : WS G a X] (h2 : a → X) (h1 : a := by first | omega | exact True.intro | rfl | (refine kr ?_; kernel_rfl) | (intros; omega)) : G := i.out h1 h2
theorem leX {p : Prop} (h : p := by ((try simp only [encProg, encStep, encAct, encAs, encPath, encPt, encOut, encState, encPos, encOs, encSs, encPs, encIs, encGame, List.map_cons, List.map_nil, List.nil_append, List.append_nil, List.cons_append]); (repeat (first | (with_reducible exact LeRow.nil) | (with_reducible exact LeRows.nil) | (with_reducible exact LeV.refl _) | (with_reducible exact LeRow.refl _ _ _ _) | (with_reducible exact LeRows.refl _) | (with_reducible refine LeRow.cons ?_ ?_) | (with_reducible refine LeRows.cons ?_ ?_) | (with_reducible refine LeV.agg ?_) | (with_reducible refine LeV.tup ?_) | (with_reducible refine LeV.fn ?_ ?_) | (with_reducible exact LeV.nil _) | (with_reducible refine leRows_append (LeRows.refl _) ?_) | ((refine leV_frz rfl (by simp) (by simp [frzO, frz1, upd, noH]) ?_); (first | (simp [go_sem]; done) | (simp [go_sem]; exact List.take_of_length_le (by simp)))) | ((refine LeV.frz rfl (by simp) (by simp [frzO, frz1, upd, noH]) ?_); (simp only [List.drop_zero, List.take_succ_cons, List.take_zero, List.map_cons, List.map_nil])) | ((refine LeV.frzP rfl (by simp) (by simp) (by simp [frzO, frz1, upd, noH]) ?_); (simp only [nth_zero, List.drop_zero])))))) : p := h
theorem blX {p : Prop} (h : p := by (intro r hr c hc; (first | (rcases hr with ⟨_, _, rfl⟩ | rfl) | (rcases hr with rfl | ⟨_, _, rfl⟩) | (rcases hr with rfl | rfl) | ((rcases List.mem_or_eq_of_mem_set hr with hr | rfl) <;> first | (obtain ⟨_, _, rfl⟩ := List.mem_map.1 hr; simp only [encI] at hc) | skip) | (rcases hr with ⟨_, rfl⟩ | ⟨_, rfl⟩) | (rcases hr with ⟨_, _, rfl⟩ | ⟨_, rfl⟩) | (rcases hr with ⟨_, rfl⟩ | ⟨_, _, rfl⟩) | (rcases hr with ⟨_, _, rfl⟩ | ⟨_, _, rfl⟩) | (obtain ⟨_, rfl⟩ := hr) | (obtain ⟨_, _, rfl⟩ := hr)) <;> simp at hc <;> (try subst hc) <;> first | exact .v _ | (rcases hc with rfl | rfl <;> exact .v _))) : p := h
theorem dpX {p : Prop} (h : p := by ((refine LeV.frz rfl (by simp) (by simp [noH, upd]) ?_); (try simp only [List.drop_zero, List.take_succ_cons, List.take_zero, List.map_cons, List.map_nil]); (repeat (first | (with_reducible exact LeRows.nil) | (with_reducible refine LeRows.cons ?_ ?_) | (with_reducible exact LeRow.nil) | (with_reducible refine LeRow.cons ?_ ?_) | (with_reducible exact LeV.refl _) | (refine leV_frz rfl (by simp) (by simp [noH, upd]) ?_; first | (simp [go_sem]; done) | (simp [go_sem]; exact List.take_of_length_le (by simp))))))) : p := h
theorem agX {p : Prop} (h : p := by ((try simp only [encOut, encState, encPos, encOs, encSs, encPs, encIs, List.nil_append, List.append_nil, List.cons_append]); (repeat (first | (with_reducible exact LeRow.nil) | (with_reducible refine LeRow.cons ?_ ?_) | (with_reducible exact LeV.refl _) | (with_reducible refine LeV.agg ?_) | ((refine leV_frz rfl (by simp) (by simp [frzO, frz1, upd, noH]) ?_); (first | (simp [go_sem]; done) | (simp [go_sem]; exact List.take_of_length_le (by simp)))))))) : p := h
theorem rwX {p : Prop} (h : p := by ((refine leRows_append (.refl _) ?_); (repeat (first | (with_reducible exact LeRows.nil) | (with_reducible refine LeRows.cons ?_ ?_) | (with_reducible exact LeRow.nil) | (with_reducible refine LeRow.cons ?_ ?_) | (with_reducible exact LeV.refl _) | (refine leV_frz rfl (by simp) (by simp [noH, upd]) ?_; first | (simp [go_sem]; done) | (simp [go_sem]; exact List.take_of_length_le (by simp))))))) : p := h
theorem frX {p : Prop} (h : p := by (refine leV_frz rfl (by simp) (by simp [noH, upd]) ?_; first | (simp [go_sem]; done) | (simp [go_sem]; exact List.take_of_length_le (by simp)))) : p := h
end Go.Av
end
section
namespace Go.Av
open Go Go.Proofs Go.Proofs.Tryz
@[go_sem] theorem t_0 : tk prog 0 = .other ∧ tsz prog 0 = some 1 ∧ tby prog 0 = some 0 ∧ tagg prog 0 = some false := by and_intros <;> kernel_rfl
@[go_sem] theorem t_1 : tk prog 1 = .other ∧ tsz prog 1 = some 1 ∧ tby prog 1 = some 8 ∧ tz prog 1 = some [(.v .nilFunc)] ∧ tagg prog 1 = some false := by and_intros <;> kernel_rfl
@[go_sem] theorem t_2 : tk prog 2 = .int .i64 ∧ tsz prog 2 = some 1 ∧ tby prog 2 = some 8 ∧ tz prog 2 = some [(.v (.int .i64 0))] ∧ tagg prog 2 = some false ∧ tz1 prog 2 = some (.int .i64 0) := by and_intros <;> kernel_rfl
@[go_sem] theorem t_3 : tk prog 3 = .int .i64 ∧ tsz prog 3 = some 1 ∧ tby prog 3 = some 8 ∧ tz prog 3 = some [(.v (.int .i64 0))] ∧ tagg prog 3 = some false ∧ tz1 prog 3 = some (.int .i64 0) := by and_intros <;> kernel_rfl
@[go_sem] theorem t_4 : tk prog 4 = .bool ∧ tsz prog 4 = some 1 ∧ tby prog 4 = some 1 ∧ tz prog 4 = some [(.v (.bool false))] ∧ tagg prog 4 = some false ∧ tz1 prog 4 = some (.bool false) := by and_intros <;> kernel_rfl
@[go_sem] theorem t_5 : tk prog 5 = .int .u8 ∧ tsz prog 5 = some 1 ∧ tby prog 5 = some 1 ∧ tz prog 5 = some [(.v (.int .u8 0))] ∧ tagg prog 5 = some false ∧ tz1 prog 5 = some (.int .u8 0) := by and_intros <;> kernel_rfl
@[go_sem] theorem t_6 : tk prog 6 = .int .u8 ∧ tsz prog 6 = some 1 ∧ tby prog 6 = some 1 ∧ tz prog 6 = some [(.v (.int .u8 0))] ∧ tagg prog 6 = some false ∧ tz1 prog 6 = some (.int .u8 0) := by and_intros <;> kernel_rfl
@[go_sem] theorem t_7 : tk prog 7 = .str ∧ tsz prog 7 = some 4 ∧ tby prog 7 = some 24 ∧ tz prog 7 = some [(.v (.int .i64 0)), (.v (.int .i64 0)), (.v (.bool false)), (.v (.int .u8 0))] ∧ tagg prog 7 = some true ∧ tfi prog 7 = true ∧ tflat prog 7 = some [false, false, true, false] ∧ ftyp prog 7 0 = some 2 ∧ foff prog 7 0 = some 0 ∧ ftyp prog 7 1 = some 3 ∧ foff prog 7 1 = some 1 ∧ ftyp prog 7 2 = some 4 ∧ foff prog 7 2 = some 2 ∧ ftyp prog 7 3 = some 6 ∧ foff prog 7 3 = some 3 := by and_intros <;> kernel_rfl
@[go_sem] theorem t_8 : tk prog 8 = .str ∧ tsz prog 8 = some 4 ∧ tby prog 8 = some 24 ∧ tz prog 8 = some [(.v (.int .i64 0)), (.v (.int .i64 0)), (.v (.bool false)), (.v (.int .u8 0))] ∧ tagg prog 8 = some true ∧ tfi prog 8 = true ∧ tflat prog 8 = some [false, false, true, false] ∧ ftyp prog 8 0 = some 2 ∧ foff prog 8 0 = some 0 ∧ ftyp prog 8 1 = some 3 ∧ foff prog 8 1 = some 1 ∧ ftyp prog 8 2 = some 4 ∧ foff prog 8 2 = some 2 ∧ ftyp prog 8 3 = some 6 ∧ foff prog 8 3 = some 3 := by and_intros <;> kernel_rfl
@[go_sem] theorem t_9 : tk prog 9 = .string ∧ tsz prog 9 = some 1 ∧ tby prog 9 = some 16 ∧ tz prog 9 = some [(.v (.string ⟨⟨[]⟩⟩))] ∧ tagg prog 9 = some false ∧ tz1 prog 9 = some (.string ⟨⟨[]⟩⟩) := by and_intros <;> kernel_rfl
@[go_sem] theorem t_10 : tk prog 10 = .string ∧ tsz prog 10 = some 1 ∧ tby prog 10 = some 16 ∧ tz prog 10 = some [(.v (.string ⟨⟨[]⟩⟩))] ∧ tagg prog 10 = some false ∧ tz1 prog 10 = some (.string ⟨⟨[]⟩⟩) := by and_intros <;> kernel_rfl
@[go_sem] theorem t_11 : tk prog 11 = .string ∧ tsz prog 11 = some 1 ∧ tby prog 11 = some 16 ∧ tz prog 11 = some [(.v (.string ⟨⟨[]⟩⟩))] ∧ tagg prog 11 = some false ∧ tz1 prog 11 = some (.string ⟨⟨[]⟩⟩) := by and_intros <;> kernel_rfl
@[go_sem] theorem t_12 : tk prog 12 = .int .u64 ∧ tsz prog 12 = some 1 ∧ tby prog 12 = some 8 ∧ tz prog 12 = some [(.v (.int .u64 0))] ∧ tagg prog 12 = some false ∧ tz1 prog 12 = some (.int .u64 0) := by and_intros <;> kernel_rfl
@[go_sem] theorem t_20 : tk prog 20 = .other ∧ tsz prog 20 = some 1 ∧ tby prog 20 = some 16 ∧ tz prog 20 = some [(.v .nilIface)] ∧ tagg prog 20 = some false := by and_intros <;> kernel_rfl
@[go_sem] theorem t_21 : tk prog 21 = .int .i32 ∧ tsz prog 21 = some 1 ∧ tby prog 21 = some 4 ∧ tz prog 21 = some [(.v (.int .i32 0))] ∧ tagg prog 21 = some false ∧ tz1 prog 21 = some (.int .i32 0) := by and_intros <;> kernel_rfl
@[go_sem] theorem t_22 : tk prog 22 = .sl 5 ∧ tsz prog 22 = some 1 ∧ tby prog 22 = some 24 ∧ tz prog 22 = some [(.v (.slice .none 0 0))] ∧ tagg prog 22 = some false := by and_intros <;> kernel_rfl
@[go_sem] theorem t_23 : tk prog 23 = .arr 2 22 ∧ tsz prog 23 = some 2 ∧ tby prog 23 = some 48 ∧ tz prog 23 = some [(.v (.slice .none 0 0)), (.v (.slice .none 0 0))] ∧ tagg prog 23 = some true := by and_intros <;> kernel_rfl
@[go_sem] theorem t_24 : tk prog 24 = .sl 85 ∧ tsz prog 24 = some 1 ∧ tby prog 24 = some 24 ∧ tz prog 24 = some [(.v (.slice .none 0 0))] ∧ tagg prog 24 = some false := by and_intros <;> kernel_rfl
@[go_sem] theorem t_25 : tk prog 25 = .arr 6 5 ∧ tsz prog 25 = some 6 ∧ tby prog 25 = some 6 ∧ tz prog 25 = some [(.v (.int .u8 0)), (.v (.int .u8 0)), (.v (.int .u8 0)), (.v (.int .u8 0)), (.v (.int .u8 0)), (.v (.int .u8 0))] ∧ tagg prog 25 = some true := by and_intros <;> kernel_rfl
@[go_sem] theorem t_27 : tk prog 27 = .str ∧ tsz prog 27 = some 12 ∧ tby prog 27 = some 88 ∧ tz prog 27 = some [(.v (.int .u8 0)), (.v (.int .u8 0)), (.v (.int .u8 0)), (.v (.slice .none 0 0)), (.v (.slice .none 0 0)), (.v (.slice .none 0 0)), (.v (.int .u8 0)), (.v (.int .u8 0)), (.v (.int .u8 0)), (.v (.int .u8 0)), (.v (.int .u8 0)), (.v (.int .u8 0))] ∧ tagg prog 27 = some true ∧ tfi prog 27 = true ∧ ftyp prog 27 0 = some 5 ∧ foff prog 27 0 = some 0 ∧ ftyp prog 27 1 = some 5 ∧ foff prog 27 1 = some 1 ∧ ftyp prog 27 2 = some 5 ∧ foff prog 27 2 = some 2 ∧ ftyp prog 27 3 = some 23 ∧ foff prog 27 3 = some 3 ∧ ftyp prog 27 4 = some 24 ∧ foff prog 27 4 = some 5 ∧ ftyp prog 27 5 = some 25 ∧ foff prog 27 5 = some 6 := by and_intros <;> kernel_rfl
@[go_sem] theorem t_28 : tk prog 28 = .arr 4 5 ∧ tsz prog 28 = some 4 ∧ tby prog 28 = some 4 ∧ tz prog 28 = some [(.v (.int .u8 0)), (.v (.int .u8 0)), (.v (.int .u8 0)), (.v (.int .u8 0))] ∧ tagg prog 28 = some true := by and_intros <;> kernel_rfl
@[go_sem] theorem t_30 : tk prog 30 = .str ∧ tsz prog 30 = some 18 ∧ tby prog 30 = some 18 ∧ tz prog 30 = some [(.v (.int .u8 0)), (.v (.int .u8 0)), (.v (.int .u8 0)), (.v (.int .u8 0)), (.v (.int .u8 0)), (.v (.int .u8 0)), (.v (.int .u8 0)), (.v (.int .u8 0)), (.v (.int .u8 0)), (.v (.int .u8 0)), (.v (.int .u8 0)), (.v (.int .u8 0)), (.v (.int .u8 0)), (.v (.int .u8 0)), (.v (.int .u8 0)), (.v (.int .u8 0)), (.v (.int .u8 0)), (.v (.int .u8 0))] ∧ tagg prog 30 = some true ∧ tfi prog 30 = true ∧ ftyp prog 30 0 = some 25 ∧ foff prog 30 0 = some 0 ∧ ftyp prog 30 1 = some 25 ∧ foff prog 30 1 = some 6 ∧ ftyp prog 30 2 = some 28 ∧ foff prog 30 2 = some 12 ∧ ftyp prog 30 3 = some 5 ∧ foff prog 30 3 = some 16 ∧ ftyp prog 30 4 = some 5 ∧ foff prog 30 4 = some 17 := by and_intros <;> kernel_rfl
@[go_sem] theorem t_32 : tk prog 32 = .sl 33 ∧ tsz prog 32 = some 1 ∧ tby prog 32 = some 24 ∧ tz prog 32 = some [(.v (.slice .none 0 0))] ∧ tagg prog 32 = some false := by and_intros <;> kernel_rfl
@[go_sem] theorem t_33 : tk prog 33 = .sl 3 ∧ tsz prog 33 = some 1 ∧ tby prog 33 = some 24 ∧ tz prog 33 = some [(.v (.slice .none 0 0))] ∧ tagg prog 33 = some false := by and_intros <;> kernel_rfl
@[go_sem] theorem t_35 : tk prog 35 = .str ∧ tsz prog 35 = some 3 ∧ tby prog 35 = some 56 ∧ tz prog 35 = some [(.v (.int .i64 0)), (.v (.slice .none 0 0)), (.v (.slice .none 0 0))] ∧ tagg prog 35 = some true ∧ tfi prog 35 = true ∧ ftyp prog 35 0 = some 3 ∧ foff prog 35 0 = some 0 ∧ ftyp prog 35 1 = some 32 ∧ foff prog 35 1 = some 1 ∧ ftyp prog 35 2 = some 33 ∧ foff prog 35 2 = some 2 := by and_intros <;> kernel_rfl
@[go_sem] theorem t_36 : tk prog 36 = .sl 107 ∧ tsz prog 36 = some 1 ∧ tby prog 36 = some 24 ∧ tz prog 36 = some [(.v (.slice .none 0 0))] ∧ tagg prog 36 = some false := by and_intros <;> kernel_rfl
@[go_sem] theorem t_37 : tk prog 37 = .sl 78 ∧ tsz prog 37 = some 1 ∧ tby prog 37 = some 24 ∧ tz prog 37 = some [(.v (.slice .none 0 0))] ∧ tagg prog 37 = some false := by and_intros <;> kernel_rfl
@[go_sem] theorem t_39 : tk prog 39 = .str ∧ tsz prog 39 = some 9 ∧ tby prog 39 = some 136 ∧ tz prog 39 = some [(.v (.int .i64 0)), (.v (.slice .none 0 0)), (.v (.slice .none 0 0)), (.v (.slice .none 0 0)), (.v (.int .i64 0)), (.v (.bool false)), (.v (.slice .none 0 0)), (.v (.int .i64 0)), (.v (.int .i64 0))] ∧ tagg prog 39 = some true ∧ tfi prog 39 = true ∧ ftyp prog 39 0 = some 35 ∧ foff prog 39 0 = some 0 ∧ ftyp prog 39 1 = some 36 ∧ foff prog 39 1 = some 3 ∧ ftyp prog 39 2 = some 3 ∧ foff prog 39 2 = some 4 ∧ ftyp prog 39 3 = some 4 ∧ foff prog 39 3 = some 5 ∧ ftyp prog 39 4 = some 37 ∧ foff prog 39 4 = some 6 ∧ ftyp prog 39 5 = some 3 ∧ foff prog 39 5 = some 7 ∧ ftyp prog 39 6 = some 3 ∧ foff prog 39 6 = some 8 := by and_intros <;> kernel_rfl
@[go_sem] theorem t_43 : tk prog 43 = .arr 2 33 ∧ tsz prog 43 = some 2 ∧ tby prog 43 = some 48 ∧ tz prog 43 = some [(.v (.slice .none 0 0)), (.v (.slice .none 0 0))] ∧ tagg prog 43 = some true := by and_intros <;> kernel_rfl
@[go_sem] theorem t_45 : tk prog 45 = .str ∧ tsz prog 45 = some 5 ∧ tby prog 45 = some 88 ∧ tz prog 45 = some [(.v (.slice .none 0 0)), (.v (.slice .none 0 0)), (.v (.slice .none 0 0)), (.v (.int .i64 0)), (.v (.int .i64 0))] ∧ tagg prog 45 = some true ∧ tfi prog 45 = true ∧ ftyp prog 45 0 = some 33 ∧ foff prog 45 0 = some 0 ∧ ftyp prog 45 1 = some 43 ∧ foff prog 45 1 = some 1 ∧ ftyp prog 45 2 = some 3 ∧ foff prog 45 2 = some 3 ∧ ftyp prog 45 3 = some 3 ∧ foff prog 45 3 = some 4 := by and_intros <;> kernel_rfl
@[go_sem] theorem t_47 : tk prog 47 = .sl 45 ∧ tsz prog 47 = some 1 ∧ tby prog 47 = some 24 ∧ tz prog 47 = some [(.v (.slice .none 0 0))] ∧ tagg prog 47 = some false := by and_intros <;> kernel_rfl
@[go_sem] theorem t_48 : tk prog 48 = .int .i64 ∧ tsz prog 48 = some 1 ∧ tby prog 48 = some 8 ∧ tz prog 48 = some [(.v (.int .i64 0))] ∧ tagg prog 48 = some false ∧ tz1 prog 48 = some (.int .i64 0) := by and_intros <;> kernel_rfl
@[go_sem] theorem t_49 : tk prog 49 = .other ∧ tsz prog 49 = some 1 ∧ tby prog 49 = some 0 ∧ tagg prog 49 = some false := by and_intros <;> kernel_rfl
@[go_sem] theorem t_53 : tk prog 53 = .other ∧ tsz prog 53 = some 1 ∧ tby prog 53 = some 0 ∧ tagg prog 53 = some false := by and_intros <;> kernel_rfl
@[go_sem] theorem t_62 : tk prog 62 = .other ∧ tsz prog 62 = some 1 ∧ tby prog 62 = some 0 ∧ tagg prog 62 = some false := by and_intros <;> kernel_rfl
@[go_sem] theorem t_64 : tk prog 64 = .str ∧ tsz prog 64 = some 31 ∧ tby prog 64 = some 136 ∧ tz prog 64 = some [(.v (.int .u8 0)), (.v (.int .u8 0)), (.v (.int .u8 0)), (.v (.slice .none 0 0)), (.v (.slice .none 0 0)), (.v (.slice .none 0 0)), (.v (.int .u8 0)), (.v (.int .u8 0)), (.v (.int .u8 0)), (.v (.int .u8 0)), (.v (.int .u8 0)), (.v (.int .u8 0)), (.v (.int .u8 0)), (.v (.int .u8 0)), (.v (.int .u8 0)), (.v (.int .u8 0)), (.v (.int .u8 0)), (.v (.int .u8 0)), (.v (.int .u8 0)), (.v (.int .u8 0)), (.v (.int .u8 0)), (.v (.int .u8 0)), (.v (.int .u8 0)), (.v (.int .u8 0)), (.v (.int .u8 0)), (.v (.int .u8 0)), (.v (.int .u8 0)), (.v (.int .u8 0)), (.v (.int .u8 0)), (.v (.int .u8 0)), (.v (.slice .none 0 0))] ∧ tagg prog 64 = some true ∧ tfi prog 64 = true ∧ ftyp prog 64 0 = some 27 ∧ foff prog 64 0 = some 0 ∧ ftyp prog 64 1 = some 30 ∧ foff prog 64 1 = some 12 ∧ ftyp prog 64 2 = some 22 ∧ foff prog 64 2 = some 30 := by and_intros <;> kernel_rfl
@[go_sem] theorem t_65 : tk prog 65 = .str ∧ tsz prog 65 = some 31 ∧ tby prog 65 = some 136 ∧ tz prog 65 = some [(.v (.int .u8 0)), (.v (.int .u8 0)), (.v (.int .u8 0)), (.v (.slice .none 0 0)), (.v (.slice .none 0 0)), (.v (.slice .none 0 0)), (.v (.int .u8 0)), (.v (.int .u8 0)), (.v (.int .u8 0)), (.v (.int .u8 0)), (.v (.int .u8 0)), (.v (.int .u8 0)), (.v (.int .u8 0)), (.v (.int .u8 0)), (.v (.int .u8 0)), (.v (.int .u8 0)), (.v (.int .u8 0)), (.v (.int .u8 0)), (.v (.int .u8 0)), (.v (.int .u8 0)), (.v (.int .u8 0)), (.v (.int .u8 0)), (.v (.int .u8 0)), (.v (.int .u8 0)), (.v (.int .u8 0)), (.v (.int .u8 0)), (.v (.int .u8 0)), (.v (.int .u8 0)), (.v (.int .u8 0)), (.v (.int .u8 0)), (.v (.slice .none 0 0))] ∧ tagg prog 65 = some true ∧ tfi prog 65 = true ∧ ftyp prog 65 0 = some 27 ∧ foff prog 65 0 = some 0 ∧ ftyp prog 65 1 = some 30 ∧ foff prog 65 1 = some 12 ∧ ftyp prog 65 2 = some 22 ∧ foff prog 65 2 = some 30 := by and_intros <;> kernel_rfl
@[go_sem] theorem t_66 : tk prog 66 = .other ∧ tsz prog 66 = some 1 ∧ tby prog 66 = some 0 ∧ tagg prog 66 = some false := by and_intros <;> kernel_rfl
@[go_sem] theorem t_78 : tk prog 78 = .str ∧ tsz prog 78 = some 4 ∧ tby prog 78 = some 32 ∧ tz prog 78 = some [(.v (.int .i64 0)), (.v (.int .i64 0)), (.v (.int .i64 0)), (.v (.int .i64 0))] ∧ tagg prog 78 = some true ∧ tfi prog 78 = true ∧ tflat prog 78 = some [false, false, false, false] ∧ ftyp prog 78 0 = some 3 ∧ foff prog 78 0 = some 0 ∧ ftyp prog 78 1 = some 3 ∧ foff prog 78 1 = some 1 ∧ ftyp prog 78 2 = some 3 ∧ foff prog 78 2 = some 2 ∧ ftyp prog 78 3 = some 3 ∧ foff prog 78 3 = some 3 := by and_intros <;> kernel_rfl
@[go_sem] theorem t_85 : tk prog 85 = .arr 3 5 ∧ tsz prog 85 = some 3 ∧ tby prog 85 = some 3 ∧ tz prog 85 = some [(.v (.int .u8 0)), (.v (.int .u8 0)), (.v (.int .u8 0))] ∧ tagg prog 85 = some true := by and_intros <;> kernel_rfl
@[go_sem] theorem t_105 : tk prog 105 = .sl 116 ∧ tsz prog 105 = some 1 ∧ tby prog 105 = some 24 ∧ tz prog 105 = some [(.v (.slice .none 0 0))] ∧ tagg prog 105 = some false := by and_intros <;> kernel_rfl
@[go_sem] theorem t_107 : tk prog 107 = .str ∧ tsz prog 107 = some 3 ∧ tby prog 107 = some 48 ∧ tz prog 107 = some [(.v (.string ⟨⟨[]⟩⟩)), (.v (.slice .none 0 0)), (.v (.bool false))] ∧ tagg prog 107 = some true ∧ tfi prog 107 = true ∧ ftyp prog 107 0 = some 9 ∧ foff prog 107 0 = some 0 ∧ ftyp prog 107 1 = some 105 ∧ foff prog 107 1 = some 1 ∧ ftyp prog 107 2 = some 4 ∧ foff prog 107 2 = some 2 := by and_intros <;> kernel_rfl
@[go_sem] theorem t_108 : tk prog 108 = .sl 112 ∧ tsz prog 108 = some 1 ∧ tby prog 108 = some 24 ∧ tz prog 108 = some [(.v (.slice .none 0 0))] ∧ tagg prog 108 = some false := by and_intros <;> kernel_rfl
@[go_sem] theorem t_109 : tk prog 109 = .other ∧ tsz prog 109 = some 1 ∧ tby prog 109 = some 0 ∧ tagg prog 109 = some false := by and_intros <;> kernel_rfl
@[go_sem] theorem t_112 : tk prog 112 = .str ∧ tsz prog 112 = some 6 ∧ tby prog 112 = some 96 ∧ tz prog 112 = some [(.v (.slice .none 0 0)), (.v (.slice .none 0 0)), (.v (.slice .none 0 0)), (.v (.int .i64 0)), (.v (.int .i64 0)), (.v (.bool false))] ∧ tagg prog 112 = some true ∧ tfi prog 112 = true ∧ ftyp prog 112 0 = some 45 ∧ foff prog 112 0 = some 0 ∧ ftyp prog 112 1 = some 4 ∧ foff prog 112 1 = some 5 := by and_intros <;> kernel_rfl
@[go_sem] theorem t_114 : tk prog 114 = .str ∧ tsz prog 114 = some 2 ∧ tby prog 114 = some 16 ∧ tz prog 114 = some [(.v (.int .i64 0)), (.v (.int .i64 0))] ∧ tagg prog 114 = some true ∧ tfi prog 114 = true ∧ tflat prog 114 = some [false, false] ∧ ftyp prog 114 0 = some 3 ∧ foff prog 114 0 = some 0 ∧ ftyp prog 114 1 = some 3 ∧ foff prog 114 1 = some 1 := by and_intros <;> kernel_rfl
@[go_sem] theorem t_116 : tk prog 116 = .sl 114 ∧ tsz prog 116 = some 1 ∧ tby prog 116 = some 24 ∧ tz prog 116 = some [(.v (.slice .none 0 0))] ∧ tagg prog 116 = some false := by and_intros <;> kernel_rfl
@[go_sem] theorem t_124 : tk prog 124 = .sl 9 ∧ tsz prog 124 = some 1 ∧ tby prog 124 = some 24 ∧ tz prog 124 = some [(.v (.slice .none 0 0))] ∧ tagg prog 124 = some false := by and_intros <;> kernel_rfl
@[go_sem] theorem t_127 : tk prog 127 = .sl 139 ∧ tsz prog 127 = some 1 ∧ tby prog 127 = some 24 ∧ tz prog 127 = some [(.v (.slice .none 0 0))] ∧ tagg prog 127 = some false := by and_intros <;> kernel_rfl
@[go_sem] theorem t_128 : tk prog 128 = .arr 2 127 ∧ tsz prog 128 = some 2 ∧ tby prog 128 = some 48 ∧ tz prog 128 = some [(.v (.slice .none 0 0)), (.v (.slice .none 0 0))] ∧ tagg prog 128 = some true := by and_intros <;> kernel_rfl
@[go_sem] theorem t_130 : tk prog 130 = .str ∧ tsz prog 130 = some 2 ∧ tby prog 130 = some 48 ∧ tz prog 130 = some [(.v (.slice .none 0 0)), (.v (.slice .none 0 0))] ∧ tagg prog 130 = some true ∧ tfi prog 130 = true ∧ ftyp prog 130 0 = some 128 ∧ foff prog 130 0 = some 0 := by and_intros <;> kernel_rfl
@[go_sem] theorem t_138 : tk prog 138 = .arr 64 3 ∧ tsz prog 138 = some 64 ∧ tby prog 138 = some 512 ∧ tz prog 138 = some [(.v (.int .i64 0)), (.v (.int .i64 0)), (.v (.int .i64 0)), (.v (.int .i64 0)), (.v (.int .i64 0)), (.v (.int .i64 0)), (.v (.int .i64 0)), (.v (.int .i64 0)), (.v (.int .i64 0)), (.v (.int .i64 0)), (.v (.int .i64 0)), (.v (.int .i64 0)), (.v (.int .i64 0)), (.v (.int .i64 0)), (.v (.int .i64 0)), (.v (.int .i64 0)), (.v (.int .i64 0)), (.v (.int .i64 0)), (.v (.int .i64 0)), (.v (.int .i64 0)), (.v (.int .i64 0)), (.v (.int .i64 0)), (.v (.int .i64 0)), (.v (.int .i64 0)), (.v (.int .i64 0)), (.v (.int .i64 0)), (.v (.int .i64 0)), (.v (.int .i64 0)), (.v (.int .i64 0)), (.v (.int .i64 0)), (.v (.int .i64 0)), (.v (.int .i64 0)), (.v (.int .i64 0)), (.v (.int .i64 0)), (.v (.int .i64 0)), (.v (.int .i64 0)), (.v (.int .i64 0)), (.v (.int .i64 0)), (.v (.int .i64 0)), (.v (.int .i64 0)), (.v (.int .i64 0)), (.v (.int .i64 0)), (.v (.int .i64 0)), (.v (.int .i64 0)), (.v (.int .i64 0)), (.v (.int .i64 0)), (.v (.int .i64 0)), (.v (.int .i64 0)), (.v (.int .i64 0)), (.v (.int .i64 0)), (.v (.int .i64 0)), (.v (.int .i64 0)), (.v (.int .i64 0)), (.v (.int .i64 0)), (.v (.int .i64 0)), (.v (.int .i64 0)), (.v (.int .i64 0)), (.v (.int .i64 0)), (.v (.int .i64 0)), (.v (.int .i64 0)), (.v (.int .i64 0)), (.v (.int .i64 0)), (.v (.int .i64 0)), (.v (.int .i64 0))] ∧ tagg prog 138 = some true := by and_intros <;> kernel_rfl
@[go_sem] theorem t_139 : tk prog 139 = .sl 140 ∧ tsz prog 139 = some 1 ∧ tby prog 139 = some 24 ∧ tz prog 139 = some [(.v (.slice .none 0 0))] ∧ tagg prog 139 = some false := by and_intros <;> kernel_rfl
@[go_sem] theorem t_140 : tk prog 140 = .sl 143 ∧ tsz prog 140 = some 1 ∧ tby prog 140 = some 24 ∧ tz prog 140 = some [(.v (.slice .none 0 0))] ∧ tagg prog 140 = some false := by and_intros <;> kernel_rfl
@[go_sem] theorem t_141 : tk prog 141 = .sl 146 ∧ tsz prog 141 = some 1 ∧ tby prog 141 = some 24 ∧ tz prog 141 = some [(.v (.slice .none 0 0))] ∧ tagg prog 141 = some false := by and_intros <;> kernel_rfl
@[go_sem] theorem t_143 : tk prog 143 = .str ∧ tsz prog 143 = some 2 ∧ tby prog 143 = some 32 ∧ tz prog 143 = some [(.v (.slice .none 0 0)), (.v (.int .i64 0))] ∧ tagg prog 143 = some true ∧ tfi prog 143 = true ∧ ftyp prog 143 0 = some 141 ∧ foff prog 143 0 = some 0 ∧ ftyp prog 143 1 = some 3 ∧ foff prog 143 1 = some 1 := by and_intros <;> kernel_rfl
@[go_sem] theorem t_146 : tk prog 146 = .str ∧ tsz prog 146 = some 3 ∧ tby prog 146 = some 24 ∧ tz prog 146 = some [(.v (.int .i64 0)), (.v (.int .i64 0)), (.v (.int .i64 0))] ∧ tagg prog 146 = some true ∧ tfi prog 146 = true ∧ tflat prog 146 = some [false, false, false] ∧ ftyp prog 146 0 = some 3 ∧ foff prog 146 0 = some 0 ∧ ftyp prog 146 1 = some 3 ∧ foff prog 146 1 = some 1 ∧ ftyp prog 146 2 = some 3 ∧ foff prog 146 2 = some 2 := by and_intros <;> kernel_rfl
@[go_sem] theorem t_179 : tk prog 179 = .other ∧ tsz prog 179 = some 1 ∧ tby prog 179 = some 8 ∧ tz prog 179 = some [(.v .nilFunc)] ∧ tagg prog 179 = some false := by and_intros <;> kernel_rfl
@[go_sem] theorem t_184 : tk prog 184 = .str ∧ tsz prog 184 = some 8 ∧ tby prog 184 = some 112 ∧ tz prog 184 = some [(.v (.slice .none 0 0)), (.v (.slice .none 0 0)), (.v (.slice .none 0 0)), (.v (.int .i64 0)), (.v (.int .i64 0)), (.v (.int .i64 0)), (.v (.int .i64 0)), (.v (.bool false))] ∧ tagg prog 184 = some true ∧ tfi prog 184 = true ∧ ftyp prog 184 0 = some 45 ∧ foff prog 184 0 = some 0 ∧ ftyp prog 184 1 = some 3 ∧ foff prog 184 1 = some 5 ∧ ftyp prog 184 2 = some 3 ∧ foff prog 184 2 = some 6 ∧ ftyp prog 184 3 = some 4 ∧ foff prog 184 3 = some 7 := by and_intros <;> kernel_rfl
@[go_sem] theorem t_186 : tk prog 186 = .other ∧ tsz prog 186 = some 1 ∧ tby prog 186 = some 8 ∧ tz prog 186 = some [(.v .nilFunc)] ∧ tagg prog 186 = some false := by and_intros <;> kernel_rfl
@[go_sem] theorem t_188 : tk prog 188 = .other ∧ tsz prog 188 = some 1 ∧ tby prog 188 = some 8 ∧ tz prog 188 = some [(.v .nilFunc)] ∧ tagg prog 188 = some false := by and_intros <;> kernel_rfl
@[go_sem] theorem t_190 : tk prog 190 = .other ∧ tsz prog 190 = some 1 ∧ tby prog 190 = some 8 ∧ tz prog 190 = some [(.v .nilFunc)] ∧ tagg prog 190 = some false := by and_intros <;> kernel_rfl
@[go_sem] theorem t_192 : tk prog 192 = .other ∧ tsz prog 192 = some 1 ∧ tby prog 192 = some 8 ∧ tz prog 192 = some [(.v .nilFunc)] ∧ tagg prog 192 = some false := by and_intros <;> kernel_rfl
@[go_sem] theorem t_194 : tk prog 194 = .other ∧ tsz prog 194 = some 1 ∧ tby prog 194 = some 0 ∧ tagg prog 194 = some false := by and_intros <;> kernel_rfl
@[go_sem] theorem t_203 : tk prog 203 = .other ∧ tsz prog 203 = some 1 ∧ tby prog 203 = some 0 ∧ tagg prog 203 = some false := by and_intros <;> kernel_rfl
@[go_sem] theorem t_208 : tk prog 208 = .str ∧ tsz prog 208 = some 9 ∧ tby prog 208 = some 136 ∧ tz prog 208 = some [(.v (.int .i64 0)), (.v (.slice .none 0 0)), (.v (.slice .none 0 0)), (.v (.slice .none 0 0)), (.v (.int .i64 0)), (.v (.bool false)), (.v (.slice .none 0 0)), (.v (.int .i64 0)), (.v (.int .i64 0))] ∧ tagg prog 208 = some true ∧ tfi prog 208 = true ∧ ftyp prog 208 0 = some 39 ∧ foff prog 208 0 = some 0 := by and_intros <;> kernel_rfl
@[go_sem] theorem t_211 : tk prog 211 = .other ∧ tsz prog 211 = some 1 ∧ tby prog 211 = some 8 ∧ tz prog 211 = some [(.v .nilFunc)] ∧ tagg prog 211 = some false := by and_intros <;> kernel_rfl
@[go_sem] theorem t_212 : tk prog 212 = .ptr 138 ∧ tsz prog 212 = some 1 ∧ tby prog 212 = some 8 ∧ tz prog 212 = some [(.v (.pointer .none))] ∧ tagg prog 212 = some false := by and_intros <;> kernel_rfl
@[go_sem] theorem t_214 : tk prog 214 = .str ∧ tsz prog 214 = some 2 ∧ tby prog 214 = some 16 ∧ tz prog 214 = some [(.v (.int .i64 0)), (.v (.int .i64 0))] ∧ tagg prog 214 = some true ∧ tfi prog 214 = true ∧ tflat prog 214 = some [false, false] ∧ ftyp prog 214 0 = some 3 ∧ foff prog 214 0 = some 0 ∧ ftyp prog 214 1 = some 3 ∧ foff prog 214 1 = some 1 := by and_intros <;> kernel_rfl
@[go_sem] theorem t_219 : tk prog 219 = .int .u64 ∧ tsz prog 219 = some 1 ∧ tby prog 219 = some 8 ∧ tz prog 219 = some [(.v (.int .u64 0))] ∧ tagg prog 219 = some false ∧ tz1 prog 219 = some (.int .u64 0) := by and_intros <;> kernel_rfl
@[go_sem] theorem t_230 : tk prog 230 = .map 9 4 ∧ tsz prog 230 = some 1 ∧ tby prog 230 = some 8 ∧ tz prog 230 = some [(.v (.map .none))] ∧ tagg prog 230 = some false := by and_intros <;> kernel_rfl
@[go_sem] theorem t_234 : tk prog 234 = .sl 184 ∧ tsz prog 234 = some 1 ∧ tby prog 234 = some 24 ∧ tz prog 234 = some [(.v (.slice .none 0 0))] ∧ tagg prog 234 = some false := by and_intros <;> kernel_rfl
@[go_sem] theorem t_239 : tk prog 239 = .map 4 3 ∧ tsz prog 239 = some 1 ∧ tby prog 239 = some 8 ∧ tz prog 239 = some [(.v (.map .none))] ∧ tagg prog 239 = some false := by and_intros <;> kernel_rfl
@[go_sem] theorem t_242 : tk prog 242 = .other ∧ tsz prog 242 = some 1 ∧ tby prog 242 = some 8 ∧ tz prog 242 = some [(.v .nilFunc)] ∧ tagg prog 242 = some false := by and_intros <;> kernel_rfl
@[go_sem] theorem t_248 : tk prog 248 = .other ∧ tsz prog 248 = some 1 ∧ tby prog 248 = some 8 ∧ tz prog 248 = some [(.v .nilFunc)] ∧ tagg prog 248 = some false := by and_intros <;> kernel_rfl
@[go_sem] theorem t_254 : tk prog 254 = .other ∧ tsz prog 254 = some 1 ∧ tby prog 254 = some 8 ∧ tz prog 254 = some [(.v .nilFunc)] ∧ tagg prog 254 = some false := by and_intros <;> kernel_rfl
@[go_sem] theorem t_257 : tk prog 257 = .other ∧ tsz prog 257 = some 1 ∧ tby prog 257 = some 8 ∧ tz prog 257 = some [(.v .nilFunc)] ∧ tagg prog 257 = some false := by and_intros <;> kernel_rfl
@[go_sem] theorem t_260 : tk prog 260 = .arr 4 3 ∧ tsz prog 260 = some 4 ∧ tby prog 260 = some 32 ∧ tz prog 260 = some [(.v (.int .i64 0)), (.v (.int .i64 0)), (.v (.int .i64 0)), (.v (.int .i64 0))] ∧ tagg prog 260 = some true := by and_intros <;> kernel_rfl
@[go_sem] theorem t_267 : tk prog 267 = .other ∧ tsz prog 267 = some 1 ∧ tby prog 267 = some 8 ∧ tz prog 267 = some [(.v .nilFunc)] ∧ tagg prog 267 = some false := by and_intros <;> kernel_rfl
@[go_sem] theorem t_269 : tk prog 269 = .arr 11 267 ∧ tsz prog 269 = some 11 ∧ tby prog 269 = some 88 ∧ tz prog 269 = some [(.v .nilFunc), (.v .nilFunc), (.v .nilFunc), (.v .nilFunc), (.v .nilFunc), (.v .nilFunc), (.v .nilFunc), (.v .nilFunc), (.v .nilFunc), (.v .nilFunc), (.v .nilFunc)] ∧ tagg prog 269 = some true := by and_intros <;> kernel_rfl
@[go_sem] theorem t_273 : tk prog 273 = .int .i64 ∧ tsz prog 273 = some 1 ∧ tby prog 273 = some 8 ∧ tz prog 273 = some [(.v (.int .i64 0))] ∧ tagg prog 273 = some false ∧ tz1 prog 273 = some (.int .i64 0) := by and_intros <;> kernel_rfl
@[go_sem] theorem t_274 : tk prog 274 = .other ∧ tsz prog 274 = some 1 ∧ tby prog 274 = some 0 ∧ tagg prog 274 = some false := by and_intros <;> kernel_rfl
@[go_sem] theorem t_280 : tk prog 280 = .int .u32 ∧ tsz prog 280 = some 1 ∧ tby prog 280 = some 4 ∧ tz prog 280 = some [(.v (.int .u32 0))] ∧ tagg prog 280 = some false ∧ tz1 prog 280 = some (.int .u32 0) := by and_intros <;> kernel_rfl
@[go_sem] theorem t_282 : tk prog 282 = .int .u64 ∧ tsz prog 282 = some 1 ∧ tby prog 282 = some 8 ∧ tz prog 282 = some [(.v (.int .u64 0))] ∧ tagg prog 282 = some false ∧ tz1 prog 282 = some (.int .u64 0) := by and_intros <;> kernel_rfl
@[go_sem] theorem t_284 : tk prog 284 = .str ∧ tsz prog 284 = some 2 ∧ tby prog 284 = some 24 ∧ tz prog 284 = some [(.v (.string ⟨⟨[]⟩⟩)), (.v (.int .i64 0))] ∧ tagg prog 284 = some true ∧ tfi prog 284 = true ∧ ftyp prog 284 0 = some 9 ∧ foff prog 284 0 = some 0 ∧ ftyp prog 284 1 = some 3 ∧ foff prog 284 1 = some 1 := by and_intros <;> kernel_rfl
@[go_sem] theorem t_285 : tk prog 285 = .other ∧ tsz prog 285 = some 1 ∧ tby prog 285 = some 0 ∧ tagg prog 285 = some false := by and_intros <;> kernel_rfl
@[go_sem] theorem t_287 : tk prog 287 = .other ∧ tsz prog 287 = some 1 ∧ tby prog 287 = some 8 ∧ tz prog 287 = some [(.v .nilFunc)] ∧ tagg prog 287 = some false := by and_intros <;> kernel_rfl
@[go_sem] theorem t_291 : tk prog 291 = .other ∧ tsz prog 291 = some 1 ∧ tby prog 291 = some 8 ∧ tz prog 291 = some [(.v .nilFunc)] ∧ tagg prog 291 = some false := by and_intros <;> kernel_rfl
@[go_sem] theorem t_303 : tk prog 303 = .other ∧ tsz prog 303 = some 1 ∧ tby prog 303 = some 8 ∧ tz prog 303 = some [(.v .nilFunc)] ∧ tagg prog 303 = some false := by and_intros <;> kernel_rfl
@[go_sem] theorem t_313 : tk prog 313 = .int .u64 ∧ tsz prog 313 = some 1 ∧ tby prog 313 = some 8 ∧ tz prog 313 = some [(.v (.int .u64 0))] ∧ tagg prog 313 = some false ∧ tz1 prog 313 = some (.int .u64 0) := by and_intros <;> kernel_rfl
@[go_sem] theorem t_317 : tk prog 317 = .ptr 3 ∧ tsz prog 317 = some 1 ∧ tby prog 317 = some 8 ∧ tz prog 317 = some [(.v (.pointer .none))] ∧ tagg prog 317 = some false := by and_intros <;> kernel_rfl
@[go_sem] theorem t_319 : tk prog 319 = .arr 11 284 ∧ tsz prog 319 = some 22 ∧ tby prog 319 = some 264 ∧ tz prog 319 = some [(.v (.string ⟨⟨[]⟩⟩)), (.v (.int .i64 0)), (.v (.string ⟨⟨[]⟩⟩)), (.v (.int .i64 0)), (.v (.string ⟨⟨[]⟩⟩)), (.v (.int .i64 0)), (.v (.string ⟨⟨[]⟩⟩)), (.v (.int .i64 0)), (.v (.string ⟨⟨[]⟩⟩)), (.v (.int .i64 0)), (.v (.string ⟨⟨[]⟩⟩)), (.v (.int .i64 0)), (.v (.string ⟨⟨[]⟩⟩)), (.v (.int .i64 0)), (.v (.string ⟨⟨[]⟩⟩)), (.v (.int .i64 0)), (.v (.string ⟨⟨[]⟩⟩)), (.v (.int .i64 0)), (.v (.string ⟨⟨[]⟩⟩)), (.v (.int .i64 0)), (.v (.string ⟨⟨[]⟩⟩)), (.v (.int .i64 0))] ∧ tagg prog 319 = some true := by and_intros <;> kernel_rfl
@[go_sem] theorem t_326 : tk prog 326 = .sl 141 ∧ tsz prog 326 = some 1 ∧ tby prog 326 = some 24 ∧ tz prog 326 = some [(.v (.slice .none 0 0))] ∧ tagg prog 326 = some false := by and_intros <;> kernel_rfl
@[go_sem] theorem t_328 : tk prog 328 = .other ∧ tsz prog 328 = some 1 ∧ tby prog 328 = some 8 ∧ tz prog 328 = some [(.v .nilFunc)] ∧ tagg prog 328 = some false := by and_intros <;> kernel_rfl
@[go_sem] theorem t_329 : tk prog 329 = .other ∧ tsz prog 329 = some 1 ∧ tby prog 329 = some 8 ∧ tz prog 329 = some [(.v .nilFunc)] ∧ tagg prog 329 = some false := by and_intros <;> kernel_rfl
@[go_sem] theorem t_332 : tk prog 332 = .sl 336 ∧ tsz prog 332 = some 1 ∧ tby prog 332 = some 24 ∧ tz prog 332 = some [(.v (.slice .none 0 0))] ∧ tagg prog 332 = some false := by and_intros <;> kernel_rfl
@[go_sem] theorem t_334 : tk prog 334 = .str ∧ tsz prog 334 = some 2 ∧ tby prog 334 = some 32 ∧ tz prog 334 = some [(.v (.slice .none 0 0)), (.v (.int .i64 0))] ∧ tagg prog 334 = some true ∧ tfi prog 334 = true ∧ ftyp prog 334 0 = some 332 ∧ foff prog 334 0 = some 0 ∧ ftyp prog 334 1 = some 48 ∧ foff prog 334 1 = some 1 := by and_intros <;> kernel_rfl
@[go_sem] theorem t_336 : tk prog 336 = .sl 338 ∧ tsz prog 336 = some 1 ∧ tby prog 336 = some 24 ∧ tz prog 336 = some [(.v (.slice .none 0 0))] ∧ tagg prog 336 = some false := by and_intros <;> kernel_rfl
@[go_sem] theorem t_338 : tk prog 338 = .str ∧ tsz prog 338 = some 8 ∧ tby prog 338 = some 112 ∧ tz prog 338 = some [(.v (.slice .none 0 0)), (.v (.slice .none 0 0)), (.v (.slice .none 0 0)), (.v (.int .i64 0)), (.v (.int .i64 0)), (.v (.int .i64 0)), (.v (.int .i64 0)), (.v (.bool false))] ∧ tagg prog 338 = some true ∧ tfi prog 338 = true ∧ ftyp prog 338 0 = some 45 ∧ foff prog 338 0 = some 0 ∧ ftyp prog 338 1 = some 3 ∧ foff prog 338 1 = some 5 ∧ ftyp prog 338 2 = some 3 ∧ foff prog 338 2 = some 6 ∧ ftyp prog 338 3 = some 4 ∧ foff prog 338 3 = some 7 := by and_intros <;> kernel_rfl
@[go_sem] theorem t_341 : tk prog 341 = .ptr 313 ∧ tsz prog 341 = some 1 ∧ tby prog 341 = some 8 ∧ tz prog 341 = some [(.v (.pointer .none))] ∧ tagg prog 341 = some false := by and_intros <;> kernel_rfl
@[go_sem] theorem t_347 : tk prog 347 = .arr 24 5 ∧ tsz prog 347 = some 24 ∧ tby prog 347 = some 24 ∧ tz prog 347 = some [(.v (.int .u8 0)), (.v (.int .u8 0)), (.v (.int .u8 0)), (.v (.int .u8 0)), (.v (.int .u8 0)), (.v (.int .u8 0)), (.v (.int .u8 0)), (.v (.int .u8 0)), (.v (.int .u8 0)), (.v (.int .u8 0)), (.v (.int .u8 0)), (.v (.int .u8 0)), (.v (.int .u8 0)), (.v (.int .u8 0)), (.v (.int .u8 0)), (.v (.int .u8 0)), (.v (.int .u8 0)), (.v (.int .u8 0)), (.v (.int .u8 0)), (.v (.int .u8 0)), (.v (.int .u8 0)), (.v (.int .u8 0)), (.v (.int .u8 0)), (.v (.int .u8 0))] ∧ tagg prog 347 = some true := by and_intros <;> kernel_rfl
@[go_sem] theorem t_349 : tk prog 349 = .other ∧ tsz prog 349 = some 1 ∧ tby prog 349 = some 0 ∧ tagg prog 349 = some false := by and_intros <;> kernel_rfl
end Go.Av
end
section
/- Contracts, part 1: how data is laid; lists of numbers. -/
open Go Go.Proofs
namespace Go.Av
def encI (n : Int) : List AV := [.v (.int .i64 n)]
def encIs (l : List Int) : AV := .lst 1 (l.map encI)
def encIss (l : List (List Int)) : AV := .lst 1 (l.map fun l => [encIs l])
structure KindD where
 name : ByteArray
 progs : List (List (Int × Int))
 keep : Bool
 deriving Inhabited
structure GameD where
 cells : Int
 next : List (List Int)
 turn : List Int
 kinds : List KindD
 rights : Int
 must : Bool
 clauses : List (Int × Int × Int × Int)
 blocked : Int
 endless : Int
structure PosD where
 at_ : List Int
 h0 : List Int
 h1 : List Int
 rights : Int
 side : Int
 deriving DecidableEq
def encStep (s : Int × Int) : List AV := [.v (.int .i64 s.1), .v (.int .i64 s.2)]
def encKind (k : KindD) : List AV := [.v (.string k.name), .lst 1 (k.progs.map fun p => [.lst 2 (p.map encStep)]), .v (.bool k.keep)]
def encClause (c : Int × Int × Int × Int) : List AV := [.v (.int .i64 c.1), .v (.int .i64 c.2.1), .v (.int .i64 c.2.2.1), .v (.int .i64 c.2.2.2)]
def encBoard (cells : Int) (next : List (List Int)) (turn : List Int) : List AV := [.v (.int .i64 cells), encIss next, encIs turn]
def encGame (g : GameD) : List AV := [.v (.int .i64 g.cells), encIss g.next, encIs g.turn, .lst 3 (g.kinds.map encKind), .v (.int .i64 g.rights), .v (.bool g.must), .lst 4 (g.clauses.map encClause), .v (.int .i64 g.blocked), .v (.int .i64 g.endless)]
def encPos (p : PosD) : List AV := [encIs p.at_, encIs p.h0, encIs p.h1, .v (.int .i64 p.rights), .v (.int .i64 p.side)]
attribute [go_sem] encI encIs encIss encStep encKind encClause encBoard encGame encPos
def Fits (l : List Int) : Prop := l.length ≤ 1099511627776
theorem bel_I {n : Nat} {l : List Int} : (∀ r ∈ l.map encI, ∀ c ∈ r, Bel n c) = True := by
 refine eq_true ?_
 intro r hr c hc
 obtain ⟨x, _, rfl⟩ := List.mem_map.1 hr
 simp only [encI, List.mem_singleton] at hc
 subst hc; exact .v _
theorem bel_Is {n : Nat} {l : List Int} : Bel n (.lst 1 (l.map encI)) = True := by rw [Bel_lst, bel_I]
attribute [go_sem high] bel_Is

def number (a b : Int) : Int := if a < b then -1 else if b < a then 1 else 0
theorem number_pure (a b : Int) : Pure Tryz.prog 166 [.v (.int .i64 a), .v (.int .i64 b)] (.v (.int .i64 (number a b))) := by
 refine pF Tryz.func166 ?_
 simp [go_sem]
 refine aIf.mkL (fun h => ?_) (fun h => ?_)
 ·simp at h
  simp [go_sem, number, h]
 ·simp at h
  simp [go_sem]
  refine aIf.mkL (fun h2 => ?_) (fun h2 => ?_)
  ·simp at h2
   simp [go_sem, number, h2, show ¬ a < b by omega]
  ·simp at h2
   simp [go_sem, number, show ¬ b < a by omega, show ¬ a < b by omega]
def cmpL : List Int → List Int → Int
 | x :: a, y :: b => if x = y then cmpL a b else number x y
 | a, b => number a.length b.length
theorem cmpL_nil_left (b : List Int) : cmpL [] b = number 0 b.length := by cases b <;> rfl
theorem cmpL_nil_right (a : List Int) : cmpL a [] = number a.length 0 := by cases a <;> rfl
theorem list_pure (a b : List Int) (ha : Fits a) (hb : Fits b) : Pure Tryz.prog 165 [encIs a, encIs b] (.v (.int .i64 (cmpL a b))) := by
 refine pF Tryz.func165 ?_
 unfold Fits at ha hb
 simp [go_sem]
 refine ALoop.start (ALoop.ind (α := Nat) (fun j => ⟨[(0, encIs a), (1, encIs b), (5, .v (.int .i64 j))], [], 0⟩)
  (fun d j => j + d = a.length ∧ j ≤ b.length ∧ cmpL a b = cmpL (a.drop j) (b.drop j)) ?_ a.length 0 ?_) ?_ ?_
 ·rintro d j ⟨i1, i2, i3⟩ hrec
  simp [go_sem]
  refine aIf.mkL (fun hj => ?_) (fun hj => ?_)
  ·simp at hj
   obtain ⟨hj1, hj2⟩ := hj
   have hd1 : a.drop j = nth a j :: a.drop (j + 1) := by rw [List.drop_eq_getElem_cons hj1, nth_eq _ _ hj1]
   have hd2 : b.drop j = nth b j :: b.drop (j + 1) := by rw [List.drop_eq_getElem_cons hj2, nth_eq _ _ hj2]
   rw [hd1, hd2, cmpL] at i3
   simp [go_sem]
   try ((with_reducible refine wZ ?_); (try simp [go_sem]))
   refine VC.mkD hj1 fun _ => ?_
   simp [go_sem, hj1]
   try ((with_reducible refine wZ ?_); (try simp [go_sem]))
   refine VC.mkD hj2 fun _ => ?_
   simp [go_sem, hj2]
   try ((with_reducible refine wZ ?_); (try simp [go_sem]))
   refine dEnd.mk (by kernel_rfl) ?_
   simp [go_sem]
   refine aIf.mkL (fun he => ?_) (fun he => ?_)
   ·simp at he
    rw [if_neg he] at i3
    simp [go_sem]
    try ((with_reducible refine wZ ?_); (try simp [go_sem]))
    refine VC.mkD hj1 fun _ => ?_
    simp [go_sem, hj1]
    try ((with_reducible refine wZ ?_); (try simp [go_sem]))
    refine VC.mkD hj2 fun _ => ?_
    simp [go_sem, hj2]
    try ((with_reducible refine wZ ?_); (try simp [go_sem]))
    refine dCall.plain (number_pure _ _) (by simp [go_sem]) ?_
    simp [go_sem]
    try ((with_reducible refine wZ ?_); (try simp [go_sem]))
    refine dEnd.mk (by kernel_rfl) ?_
    simp [go_sem, i3]
   ·simp at he
    rw [if_pos he] at i3
    simp [go_sem]
    refine VC.mkL (by omega) fun _ => ?_
    simp [go_sem]
    refine ALoop.start (hrec (d - 1) (by omega) (j + 1) ⟨by omega, by omega, i3⟩) ?_ (by simp)
    simp [go_sem, Wk_eq]
  ·simp at hj
   simp [go_sem]
   refine ACallP.plain (number_pure _ _) (by simp [go_sem]) ?_
   have : number a.length b.length = cmpL a b := by
    rw [i3]
    rcases Nat.lt_or_ge j a.length with h | h
    ·have hb' := hj h
     rw [List.drop_eq_nil_of_le hb', cmpL_nil_right]
     simp only [number, List.length_drop]
     split <;> split <;> (try split) <;> (try split) <;> omega
    ·rw [List.drop_eq_nil_of_le h, cmpL_nil_left]
     simp only [number, List.length_drop]
     split <;> split <;> (try split) <;> (try split) <;> omega
   simp [go_sem, this]
 ·simp
 ·simp [go_sem, Wk_eq]
 ·simp
theorem drop_cons {l : List Int} {j : Nat} (h : j < l.length) : l.drop j = nth l j :: l.drop (j + 1) := by rw [List.drop_eq_getElem_cons h, nth_eq _ _ h]
def FitsP (p : PosD) : Prop := Fits p.at_ ∧ Fits p.h0 ∧ Fits p.h1
def cmpP (p q : PosD) : Int :=
 if cmpL p.at_ q.at_ ≠ 0 then cmpL p.at_ q.at_ else if cmpL p.h0 q.h0 ≠ 0 then cmpL p.h0 q.h0 else if cmpL p.h1 q.h1 ≠ 0 then cmpL p.h1 q.h1 else if number p.rights q.rights ≠ 0 then number p.rights q.rights else number p.side q.side
theorem Compare_pure (a b : PosD) (ha : FitsP a) (hb : FitsP b) : Pure Tryz.prog 107 [.agg (encPos a), .agg (encPos b)] (.v (.int .i64 (cmpP a b))) := by
 refine pF Tryz.func107 ?_
 obtain ⟨a1, a2, a3⟩ := ha
 obtain ⟨b1, b2, b3⟩ := hb
 simp [go_sem]
 try ((with_reducible refine wZ ?_); (try simp [go_sem]))
 refine dCall.plain (list_pure _ _ a1 b1) (by simp [go_sem]) ?_
 simp [go_sem]
 try ((with_reducible refine wZ ?_); (try simp [go_sem]))
 refine dCall.plain (list_pure _ _ a2 b2) (by simp [go_sem]) ?_
 simp [go_sem]
 try ((with_reducible refine wZ ?_); (try simp [go_sem]))
 refine dCall.plain (list_pure _ _ a3 b3) (by simp [go_sem]) ?_
 simp [go_sem]
 try ((with_reducible refine wZ ?_); (try simp [go_sem]))
 refine dCall.plain (number_pure _ _) (by simp [go_sem]) ?_
 simp [go_sem]
 try ((with_reducible refine wZ ?_); (try simp [go_sem]))
 refine dCall.plain (number_pure _ _) (by simp [go_sem]) ?_
 simp [go_sem]
 try ((with_reducible refine wZ ?_); (try simp [go_sem]))
 refine dEnd.mk (by kernel_rfl) ?_
 simp [go_sem]
 generalize e1 : cmpL a.at_ b.at_ = x1
 generalize e2 : cmpL a.h0 b.h0 = x2
 generalize e3 : cmpL a.h1 b.h1 = x3
 generalize e4 : number a.rights b.rights = x4
 generalize e5 : number a.side b.side = x5
 unfold cmpP
 rw [e1, e2, e3, e4, e5]
 refine ALoop.unroll ?_
 simp [go_sem]
 refine aIf.mkL (fun h1 => ?_) (fun h1 => ?_) <;> simp at h1 <;> simp [go_sem, h1]
 refine ALoop.unroll ?_
 simp [go_sem]
 refine aIf.mkL (fun h2 => ?_) (fun h2 => ?_) <;> simp at h2 <;> simp [go_sem, h1, h2]
 refine ALoop.unroll ?_
 simp [go_sem]
 refine aIf.mkL (fun h3 => ?_) (fun h3 => ?_) <;> simp at h3 <;> simp [go_sem, h1, h2, h3]
 refine ALoop.unroll ?_
 simp [go_sem]
 refine aIf.mkL (fun h4 => ?_) (fun h4 => ?_) <;> simp at h4 <;> simp [go_sem, h1, h2, h3, h4]
 refine ALoop.unroll ?_
 simp [go_sem]
 refine aIf.mkL (fun h5 => ?_) (fun h5 => ?_) <;> simp at h5 <;> simp [go_sem, h1, h2, h3, h4, h5]
 refine ALoop.unroll ?_
 simp [go_sem]
def ownPos (n : Nat) (p : PosD) : AV := .agg [.sl (n + 2) 1 1 0 p.at_.length, .sl (n + 3) 1 1 0 p.h0.length, .sl (n + 8) 1 1 0 p.h1.length, .v (.int .i64 p.rights), .v (.int .i64 p.side)]
def ownPosH (n : Nat) (p : PosD) : List (Nat × AObj) := [(n + 2, .rows true 1 1 (p.at_.map encI)), (n + 3, .rows true 1 1 (p.h0.map encI)), (n + 8, .rows true 1 1 (p.h1.map encI))]
attribute [go_sem] ownPos ownPosH
theorem copied_owns (p : PosD) (ha : FitsP p) : Owns Tryz.prog 169 [.agg (encPos p)] (fun n => ownPos n p) (fun n => ownPosH n p) 9 := by
 refine ⟨ACallP.of_awp (by kernel_rfl) Tryz.func169 rfl rfl (Nat.le_of_ble_eq_true rfl) (by kernel_rfl) ?_, fun n => ⟨?_, ?_⟩⟩
 ·obtain ⟨a1, a2, a3⟩ := ha
  unfold Fits at a1 a2 a3
  simp [go_sem]
  refine VC.mkL (by omega) fun _ => ?_
  simp [go_sem]
  try ((with_reducible refine wZ ?_); (try simp [go_sem]))
  refine VC.mkD (by omega) fun _ => ?_
  simp [go_sem]
  try ((with_reducible refine wZ ?_); (try simp [go_sem]))
  refine VC.mkD (by omega) fun _ => ?_
  simp [go_sem]
  try ((with_reducible refine wZ ?_); (try simp [go_sem]))
  refine dEnd.mk (by kernel_rfl) ?_
  simp [go_sem, Wk_eq]
 ·simp [go_sem]
 ·simp [go_sem]
end Go.Av
end
