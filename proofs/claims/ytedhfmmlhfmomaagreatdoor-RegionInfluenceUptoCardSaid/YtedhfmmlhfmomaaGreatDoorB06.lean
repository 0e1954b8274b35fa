/- Texts of ours, part 6: our library and contracts of functions. -/
import Derived.Test.YtedhfmmlhfmomaaGreatDoorB05
import Derived.Test.YtedhfmmlhfmomaaGreatDoorProg
set_option linter.unusedSimpArgs false
set_option linter.unusedVariables false
set_option maxRecDepth 100000
set_option maxHeartbeats 40000000
section
/- Our library, part 13: equations by which code is evaluated. -/
namespace Go.Av
open Go

section
variable {P : Program} {n0 : Nat} {Q : zbK} {e : Env} {h : zan} {n : Nat} {ops rest : List Oper}
def VC (a b : Prop) : Prop := a ∧ b
theorem zxN {b : Prop} : VC False b = False := by simp [VC]
def VQ (a b : Prop) : Prop := a ∧ b
theorem zzW {b : Prop} : VQ True b = b := by simp [VQ]
theorem VQ.mk {a b : Prop} (h1 : a) (h2 : a → b) : VQ a b := ⟨h1, h2 h1⟩
@[congr] theorem VQ_congr {a b c : Prop} (h1 : a = c) : VQ a b = VQ c b := by subst h1; rfl
theorem VC.mk {a b : Prop} (h1 : a) (h2 : a → b) : VC a b := ⟨h1, h2 h1⟩
@[congr] theorem VC_congr {a b c : Prop} (h1 : a = c) : VC a b = VC c b := by subst h1; rfl
def aIf (t : Bool) (a b : Prop) : Prop := (t = true → a) ∧ (t = false → b)
theorem aIf.mk {t : Bool} {a b : Prop} (h1 : t = true → a) (h2 : t = false → b) : aIf t a b := ⟨h1, h2⟩
theorem zna (vs : List AV) (i : Nat) : zfv (.tup vs) i = Res.if (i < vs.length) (cel vs i) := rfl
@[congr] theorem aIf_congr {t t' : Bool} {a b : Prop} (h : t = t') : aIf t a b = aIf t' a b := by subst h; rfl
@[congr] theorem upd_congr {α : Type} {f : Nat → α} {k : Nat} {x : α} {j j' : Nat} (h : j = j') : upd f k x j = upd f k x j' := by subst h; rfl
theorem zbe {α : Type} [Inhabited α] (x : α) (l : List α) : nth (x :: l) 0 = x := rfl
theorem zyP {α : Type} [Inhabited α] (x : α) (l : List α) (k : Nat) : nth (x :: l) (k + 1) = nth l k := by simp [nth]
theorem zye (x : AV) (l : List AV) : cel (x :: l) 0 = x := rfl
theorem zyd (x : AV) (l : List AV) (k : Nat) : cel (x :: l) (k + 1) = cel l k := by simp [cel]
theorem zcb {α β : Type} [Inhabited α] [Inhabited β] (f : α → β) (l : List α) (i : Nat) (h : i < l.length) : nth (l.map f) i = f (nth l i) := by simp [nth, h]
theorem zAk {α : Type} [Inhabited α] (f : α → AV) (l : List α) (i : Nat) (h : i < l.length) : cel (l.map f) i = f (nth l i) := by simp [nth, cel, h]
theorem zaA {α : Type} [Inhabited α] (l : List α) (i : Nat) (h : i < l.length) : nth l i = l[i] := by simp [nth, h]
theorem zah {α : Type} [Inhabited α] {l : List α} {i : Nat} (h : i < l.length) : nth l i ∈ l := by rw [zaA l i h]; exact List.getElem_mem _
def zgF (P : Program) (ops : List Oper) (Q : zbK) (rest : List Oper) (e : Env) (h : zan) (n : Nat) : Prop := za7 P ops Q rest e h n
def zzk (P : Program) (n0 : Nat) (c : Code) (Q : zbK) (e : Env) (h : zan) (n : Nat) : Prop := awp P n0 c Q e h n
theorem zzV : VC True (zgF P ops Q rest e h n) = za7 P ops Q rest e h n := by simp [VC, zgF]
theorem zBE {a : Prop} (h1 : a) (h2 : a → za7 P ops Q rest e h n) : VC a (zgF P ops Q rest e h n) := ⟨h1, h2 h1⟩
theorem zuT {a : Code} {y : Prop} : aIf true (zzk P n0 a Q e h n) y = awp P n0 a Q e h n := by simp [aIf, zzk]
theorem zsG {b : Code} {y : Prop} : aIf false y (zzk P n0 b Q e h n) = awp P n0 b Q e h n := by simp [aIf, zzk]
theorem zBj {t : Bool} {a b : Code} (h1 : t = true → awp P n0 a Q e h n) (h2 : t = false → awp P n0 b Q e h n) : aIf t (zzk P n0 a Q e h n) (zzk P n0 b Q e h n) := ⟨h1, h2⟩
def zfR (P : Program) (ops : List Oper) (Q : zbK) (rest : List Oper) (dst : Option Tmp) (r : Res) (e : Env) (h : zan) (n : Nat) : Prop :=
 VC r.cond (za7 P ops Q rest (put e dst r.val) (zai r.wr h) (n + r.al))
def zgC (P : Program) (ops : List Oper) (Q : zbK) (rest : List Oper) (dst : Option Tmp) (g : Bool) (r : Res) (e : Env) (h : zan) (n : Nat) : Prop :=
 VC (g = true → r.cond) (za7 P ops Q rest (put e dst (.gd g r.val)) (zai (gW g r.wr) h) (n + gN g r.al))
def zp2 (P : Program) (ops : List Oper) (Q : zbK) (rest : List Oper) (dst : Option Tmp) (fv : AV) (args : List AV) (e : Env) (h : zan) (n : Nat) : Prop :=
 zgc P fv args h n (fun r h' n' => za7 P ops Q rest (put e dst r) h' n') ∨ ziX e fv args h n (fun e' r h' => za7 P ops Q rest (put e' dst r) h' n)
def zz5 (P : Program) (ops : List Oper) (Q : zbK) (rest : List Oper) (dst : Option Tmp) (l : Nat) (args : List AV) (e : Env) (h : zan) (n : Nat) : Prop :=
 ziX e (.fn (.yield l) [] []) args h n (fun e' r h' => za7 P ops Q rest (put e' dst r) h' n)
theorem zux {e : Env} {f : FuncId} {a b args : List AV} {h : zan} {n : Nat} {K : Env → AV → zan → Prop} : ¬ ziX e (.fn (.func f) a b) args h n K := by
 rintro ⟨l, more, rows, h1, _⟩; cases h1
def zgb (P : Program) (ops : List Oper) (Q : zbK) (rest : List Oper) (dst : Option Tmp) (op : Op) (g : Option Bool) (e : Env) (h : zan) (n : Nat) : Prop :=
 match g with
 | none => False
 | some g => VQ (∀ t ∈ gT op, okG g (e t)) (zgC P ops Q rest dst g (aev P n op (gE op e) h) e h n)

theorem zx8 : awp P n0 .skip Q e h n = Q .normal e h n := rfl
theorem zvn (l : Nat) : awp P n0 (.label l) Q e h n = Q .normal e h n := rfl
theorem ztc (id : Nat) (ops : List Oper) : awp P n0 (.region id ops.toArray false) Q e h n = za7 P ops Q ops e h n := rfl
theorem zAa (a b : Code) : awp P n0 (.seq a b) Q e h n = awp P n0 a (zuA (awp P n0 b Q) Q) e h n := rfl
def zxP (P : Program) (n0 : Nat) (a b : Code) (Q : zbK) (x : AV) (e : Env) (h : zan) (n : Nat) : Prop := match x with
 | .v (.bool t) => (t = true → awp P n0 a Q e h n) ∧ (t = false → awp P n0 b Q e h n)
 | _ => False
theorem zx3 (c : Operand) (a b : Code) : awp P n0 (.cond c a b) Q e h n = zxP P n0 a b Q (ev e c) e h n := rfl
theorem zsF (a b : Code) (t : Bool) : zxP P n0 a b Q (.v (.bool t)) e h n = aIf t (zzk P n0 a Q e h n) (zzk P n0 b Q e h n) := rfl
theorem zvo (b : Code) : awp P n0 (.scope b) Q e h n = awp P n0 b (zgY Q) e h n := rfl
theorem zvm (id : Nat) (b : Code) : awp P n0 (.block id b) Q e h n = awp P n0 b (zfo id Q) e h n := rfl
theorem zx6 (b : Code) : awp P n0 (.loop b) Q e h n = zab n0 (awp P n0 b) Q e h n := rfl
theorem zx5 (id : Nat) : awp P n0 (.exit id) Q e h n = Q (.exit id) e h n := rfl
theorem zz9 : awp P n0 .ret Q e h n = Q .ret e h n := rfl
theorem zpU (K : Env → zan → Nat → Prop) : zuA K Q .normal e h n = K e h n := rfl
theorem zuN (K : Env → zan → Nat → Prop) (id : Nat) : zuA K Q (.exit id) e h n = Q (.exit id) e h n := rfl
theorem zxH (K : Env → zan → Nat → Prop) : zuA K Q .ret e h n = Q .ret e h n := rfl
theorem zmD : zgY Q .normal e h n = Q .normal e h n := rfl
theorem zpS (id : Nat) : zgY Q (.exit id) e h n = Q (.exit id) e h n := rfl
theorem zsA : zgY Q .ret e h n = Q .ret e h n := rfl
theorem zmB (id : Nat) : zfo id Q .normal e h n = Q .normal e h n := rfl
theorem zpO (id id' : Nat) : zfo id Q (.exit id') e h n = if id' = id then Q .normal e h n else Q (.exit id') e h n := rfl
theorem zsx (id : Nat) : zfo id Q .ret e h n = Q .ret e h n := rfl
theorem zxJ (rs : List ResultVar) (K : zco) : RetQ P rs K .ret e h n = VQ (znN P e h rs).1 (K (zzD (znN P e h rs).2) h n) := rfl
theorem zp1 (rs : List ResultVar) (K : zco) : RetQ P rs K .normal e h n = VQ (znN P e h rs).1 (K (zzD (znN P e h rs).2) h n) := rfl
theorem zx1 : za7 P ops Q [] e h n = Q .normal e h n := rfl
theorem zvg {dst : Option Tmp} {f : Operand} {args : Array Operand} {ats : Array TypeId} {ty : TypeId} {pos : String} {after : Array Edge} :
  za7 P ops Q (⟨dst, .call ⟨.value f, args, ats⟩, ty, pos, after, none⟩ :: rest) e h n = zp2 P ops Q rest dst (ev e f) (args.toList.map (ev e)) e h n := rfl
theorem zaP {dst : Option Tmp} {op : Op} {ty : TypeId} {pos : String} {after : Array Edge} {j : Nat} {want : Bool} (hc : zlU op = false) :
  za7 P ops Q (⟨dst, op, ty, pos, after, some (j, want)⟩ :: rest) e h n = zgb P ops Q rest dst op ((zaB ops j).bind fun t => zaF (e t) want) e h n := by
 unfold za7 zgb zgC
 cases op with
 | call c =>
  obtain ⟨callee, args, ats⟩ := c
  cases callee with
  | value f => simp [zlU] at hc
  | _ => rfl
 | _ => rfl
theorem zvi {dst : Option Tmp} {ty : TypeId} {pos : String} {after : Array Edge} {x : Operand} : za7 P ops Q (⟨dst, .move x, ty, pos, after, none⟩ :: rest) e h n = zfR P ops Q rest dst (aev P n (.move x) e h) e h n := rfl
theorem zsZ {dst : Option Tmp} {ty : TypeId} {pos : String} {after : Array Edge} {j : Nat} {want : Bool} {x : Operand} : za7 P ops Q (⟨dst, .move x, ty, pos, after, some (j, want)⟩ :: rest) e h n = zgb P ops Q rest dst (.move x) ((zaB ops j).bind fun t => zaF (e t) want) e h n := zaP rfl
theorem zql {dst : Option Tmp} {ty : TypeId} {pos : String} {after : Array Edge} {x : Operand} : za7 P ops Q (⟨dst, .assign x, ty, pos, after, none⟩ :: rest) e h n = zfR P ops Q rest dst (aev P n (.assign x) e h) e h n := rfl
theorem zn7 {dst : Option Tmp} {ty : TypeId} {pos : String} {after : Array Edge} {j : Nat} {want : Bool} {x : Operand} : za7 P ops Q (⟨dst, .assign x, ty, pos, after, some (j, want)⟩ :: rest) e h n = zgb P ops Q rest dst (.assign x) ((zaB ops j).bind fun t => zaF (e t) want) e h n := zaP rfl
theorem zvj {dst : Option Tmp} {ty : TypeId} {pos : String} {after : Array Edge} {c a b : Operand} : za7 P ops Q (⟨dst, .pick c a b, ty, pos, after, none⟩ :: rest) e h n = zfR P ops Q rest dst (aev P n (.pick c a b) e h) e h n := rfl
theorem zs0 {dst : Option Tmp} {ty : TypeId} {pos : String} {after : Array Edge} {j : Nat} {want : Bool} {c a b : Operand} : za7 P ops Q (⟨dst, .pick c a b, ty, pos, after, some (j, want)⟩ :: rest) e h n = zgb P ops Q rest dst (.pick c a b) ((zaB ops j).bind fun t => zaF (e t) want) e h n := zaP rfl
theorem zs2 {dst : Option Tmp} {ty : TypeId} {pos : String} {after : Array Edge} {t : TypeId} : za7 P ops Q (⟨dst, .alloc t, ty, pos, after, none⟩ :: rest) e h n = zfR P ops Q rest dst (aev P n (.alloc t) e h) e h n := rfl
theorem zqd {dst : Option Tmp} {ty : TypeId} {pos : String} {after : Array Edge} {j : Nat} {want : Bool} {t : TypeId} : za7 P ops Q (⟨dst, .alloc t, ty, pos, after, some (j, want)⟩ :: rest) e h n = zgb P ops Q rest dst (.alloc t) ((zaB ops j).bind fun t => zaF (e t) want) e h n := zaP rfl
theorem zx0 {dst : Option Tmp} {ty : TypeId} {pos : String} {after : Array Edge} {t : TypeId} {x : Operand} : za7 P ops Q (⟨dst, .box t x, ty, pos, after, none⟩ :: rest) e h n = zfR P ops Q rest dst (aev P n (.box t x) e h) e h n := rfl
theorem zvf {dst : Option Tmp} {ty : TypeId} {pos : String} {after : Array Edge} {j : Nat} {want : Bool} {t : TypeId} {x : Operand} : za7 P ops Q (⟨dst, .box t x, ty, pos, after, some (j, want)⟩ :: rest) e h n = zgb P ops Q rest dst (.box t x) ((zaB ops j).bind fun t => zaF (e t) want) e h n := zaP rfl
theorem zs4 {dst : Option Tmp} {ty : TypeId} {pos : String} {after : Array Edge} {t : TypeId} {ps : Array (Nat × Operand)} : za7 P ops Q (⟨dst, .build t ps, ty, pos, after, none⟩ :: rest) e h n = zfR P ops Q rest dst (aev P n (.build t ps) e h) e h n := rfl
theorem zqf {dst : Option Tmp} {ty : TypeId} {pos : String} {after : Array Edge} {j : Nat} {want : Bool} {t : TypeId} {ps : Array (Nat × Operand)} : za7 P ops Q (⟨dst, .build t ps, ty, pos, after, some (j, want)⟩ :: rest) e h n = zgb P ops Q rest dst (.build t ps) ((zaB ops j).bind fun t => zaF (e t) want) e h n := zaP rfl
theorem zjz {dst : Option Tmp} {ty : TypeId} {pos : String} {after : Array Edge} {t : TypeId} {k : Nat} {ps : Array (Nat × Operand)} : za7 P ops Q (⟨dst, .buildSlice t k ps, ty, pos, after, none⟩ :: rest) e h n = zfR P ops Q rest dst (aev P n (.buildSlice t k ps) e h) e h n := rfl
theorem ziP {dst : Option Tmp} {ty : TypeId} {pos : String} {after : Array Edge} {j : Nat} {want : Bool} {t : TypeId} {k : Nat} {ps : Array (Nat × Operand)} : za7 P ops Q (⟨dst, .buildSlice t k ps, ty, pos, after, some (j, want)⟩ :: rest) e h n = zgb P ops Q rest dst (.buildSlice t k ps) ((zaB ops j).bind fun t => zaF (e t) want) e h n := zaP rfl
theorem zvh {dst : Option Tmp} {ty : TypeId} {pos : String} {after : Array Edge} {t : TypeId} {x : Operand} : za7 P ops Q (⟨dst, .load t x, ty, pos, after, none⟩ :: rest) e h n = zfR P ops Q rest dst (aev P n (.load t x) e h) e h n := rfl
theorem zsY {dst : Option Tmp} {ty : TypeId} {pos : String} {after : Array Edge} {j : Nat} {want : Bool} {t : TypeId} {x : Operand} : za7 P ops Q (⟨dst, .load t x, ty, pos, after, some (j, want)⟩ :: rest) e h n = zgb P ops Q rest dst (.load t x) ((zaB ops j).bind fun t => zaF (e t) want) e h n := zaP rfl
theorem zs9 {dst : Option Tmp} {ty : TypeId} {pos : String} {after : Array Edge} {t : TypeId} {x y : Operand} : za7 P ops Q (⟨dst, .store t x y, ty, pos, after, none⟩ :: rest) e h n = zfR P ops Q rest dst (aev P n (.store t x y) e h) e h n := rfl
theorem zqk {dst : Option Tmp} {ty : TypeId} {pos : String} {after : Array Edge} {j : Nat} {want : Bool} {t : TypeId} {x y : Operand} : za7 P ops Q (⟨dst, .store t x y, ty, pos, after, some (j, want)⟩ :: rest) e h n = zgb P ops Q rest dst (.store t x y) ((zaB ops j).bind fun t => zaF (e t) want) e h n := zaP rfl
theorem zs3 {dst : Option Tmp} {ty : TypeId} {pos : String} {after : Array Edge} {o : BinOp} {t : TypeId} {x y : Operand} {t' : TypeId} : za7 P ops Q (⟨dst, .binOp o t x y t', ty, pos, after, none⟩ :: rest) e h n = zfR P ops Q rest dst (aev P n (.binOp o t x y t') e h) e h n := rfl
theorem zqe {dst : Option Tmp} {ty : TypeId} {pos : String} {after : Array Edge} {j : Nat} {want : Bool} {o : BinOp} {t : TypeId} {x y : Operand} {t' : TypeId} : za7 P ops Q (⟨dst, .binOp o t x y t', ty, pos, after, some (j, want)⟩ :: rest) e h n = zgb P ops Q rest dst (.binOp o t x y t') ((zaB ops j).bind fun t => zaF (e t) want) e h n := zaP rfl
theorem zvk {dst : Option Tmp} {ty : TypeId} {pos : String} {after : Array Edge} {o : UnOp} {t : TypeId} {x : Operand} : za7 P ops Q (⟨dst, .unOp o t x, ty, pos, after, none⟩ :: rest) e h n = zfR P ops Q rest dst (aev P n (.unOp o t x) e h) e h n := rfl
theorem zmU {dst : Option Tmp} {ty : TypeId} {pos : String} {after : Array Edge} {x : Operand} : za7 P ops Q (⟨dst, .nilCheck x, ty, pos, after, none⟩ :: rest) e h n = zfR P ops Q rest dst (aev P n (.nilCheck x) e h) e h n := rfl
theorem zs1 {dst : Option Tmp} {ty : TypeId} {pos : String} {after : Array Edge} {j : Nat} {want : Bool} {o : UnOp} {t : TypeId} {x : Operand} : za7 P ops Q (⟨dst, .unOp o t x, ty, pos, after, some (j, want)⟩ :: rest) e h n = zgb P ops Q rest dst (.unOp o t x) ((zaB ops j).bind fun t => zaF (e t) want) e h n := zaP rfl
theorem zk7 {dst : Option Tmp} {ty : TypeId} {pos : String} {after : Array Edge} {j : Nat} {want : Bool} {x : Operand} : za7 P ops Q (⟨dst, .nilCheck x, ty, pos, after, some (j, want)⟩ :: rest) e h n = zgb P ops Q rest dst (.nilCheck x) ((zaB ops j).bind fun t => zaF (e t) want) e h n := zaP rfl
theorem zob {dst : Option Tmp} {ty : TypeId} {pos : String} {after : Array Edge} {s d : TypeId} {x : Operand} : za7 P ops Q (⟨dst, .convert s d x, ty, pos, after, none⟩ :: rest) e h n = zfR P ops Q rest dst (aev P n (.convert s d x) e h) e h n := rfl
theorem zmQ {dst : Option Tmp} {ty : TypeId} {pos : String} {after : Array Edge} {j : Nat} {want : Bool} {s d : TypeId} {x : Operand} : za7 P ops Q (⟨dst, .convert s d x, ty, pos, after, some (j, want)⟩ :: rest) e h n = zgb P ops Q rest dst (.convert s d x) ((zaB ops j).bind fun t => zaF (e t) want) e h n := zaP rfl
theorem zmT {dst : Option Tmp} {ty : TypeId} {pos : String} {after : Array Edge} {f : Fn} {xs ys : Array Operand} : za7 P ops Q (⟨dst, .makeFunc f xs ys, ty, pos, after, none⟩ :: rest) e h n = zfR P ops Q rest dst (aev P n (.makeFunc f xs ys) e h) e h n := rfl
theorem zk6 {dst : Option Tmp} {ty : TypeId} {pos : String} {after : Array Edge} {j : Nat} {want : Bool} {f : Fn} {xs ys : Array Operand} : za7 P ops Q (⟨dst, .makeFunc f xs ys, ty, pos, after, some (j, want)⟩ :: rest) e h n = zgb P ops Q rest dst (.makeFunc f xs ys) ((zaB ops j).bind fun t => zaF (e t) want) e h n := zaP rfl
theorem zla {dst : Option Tmp} {ty : TypeId} {pos : String} {after : Array Edge} {t : TypeId} {l c : Operand} : za7 P ops Q (⟨dst, .makeSlice t l c, ty, pos, after, none⟩ :: rest) e h n = zfR P ops Q rest dst (aev P n (.makeSlice t l c) e h) e h n := rfl
theorem zjx {dst : Option Tmp} {ty : TypeId} {pos : String} {after : Array Edge} {j : Nat} {want : Bool} {t : TypeId} {l c : Operand} : za7 P ops Q (⟨dst, .makeSlice t l c, ty, pos, after, some (j, want)⟩ :: rest) e h n = zgb P ops Q rest dst (.makeSlice t l c) ((zaB ops j).bind fun t => zaF (e t) want) e h n := zaP rfl
theorem zs8 {dst : Option Tmp} {ty : TypeId} {pos : String} {after : Array Edge} {t : TypeId} {x : Operand} {lo hi mx : Option Operand} : za7 P ops Q (⟨dst, .slice t x lo hi mx, ty, pos, after, none⟩ :: rest) e h n = zfR P ops Q rest dst (aev P n (.slice t x lo hi mx) e h) e h n := rfl
theorem zqj {dst : Option Tmp} {ty : TypeId} {pos : String} {after : Array Edge} {j : Nat} {want : Bool} {t : TypeId} {x : Operand} {lo hi mx : Option Operand} : za7 P ops Q (⟨dst, .slice t x lo hi mx, ty, pos, after, some (j, want)⟩ :: rest) e h n = zgb P ops Q rest dst (.slice t x lo hi mx) ((zaB ops j).bind fun t => zaF (e t) want) e h n := zaP rfl
theorem zk8 {dst : Option Tmp} {ty : TypeId} {pos : String} {after : Array Edge} {t : TypeId} {x : Operand} {f : Nat} : za7 P ops Q (⟨dst, .fieldAddr t x f, ty, pos, after, none⟩ :: rest) e h n = zfR P ops Q rest dst (aev P n (.fieldAddr t x f) e h) e h n := rfl
theorem zjv {dst : Option Tmp} {ty : TypeId} {pos : String} {after : Array Edge} {j : Nat} {want : Bool} {t : TypeId} {x : Operand} {f : Nat} : za7 P ops Q (⟨dst, .fieldAddr t x f, ty, pos, after, some (j, want)⟩ :: rest) e h n = zgb P ops Q rest dst (.fieldAddr t x f) ((zaB ops j).bind fun t => zaF (e t) want) e h n := zaP rfl
theorem zs5 {dst : Option Tmp} {ty : TypeId} {pos : String} {after : Array Edge} {t : TypeId} {x : Operand} {f : Nat} : za7 P ops Q (⟨dst, .field t x f, ty, pos, after, none⟩ :: rest) e h n = zfR P ops Q rest dst (aev P n (.field t x f) e h) e h n := rfl
theorem zqg {dst : Option Tmp} {ty : TypeId} {pos : String} {after : Array Edge} {j : Nat} {want : Bool} {t : TypeId} {x : Operand} {f : Nat} : za7 P ops Q (⟨dst, .field t x f, ty, pos, after, some (j, want)⟩ :: rest) e h n = zgb P ops Q rest dst (.field t x f) ((zaB ops j).bind fun t => zaF (e t) want) e h n := zaP rfl
theorem zk9 {dst : Option Tmp} {ty : TypeId} {pos : String} {after : Array Edge} {t : TypeId} {x i : Operand} : za7 P ops Q (⟨dst, .indexAddr t x i, ty, pos, after, none⟩ :: rest) e h n = zfR P ops Q rest dst (aev P n (.indexAddr t x i) e h) e h n := rfl
theorem zjw {dst : Option Tmp} {ty : TypeId} {pos : String} {after : Array Edge} {j : Nat} {want : Bool} {t : TypeId} {x i : Operand} : za7 P ops Q (⟨dst, .indexAddr t x i, ty, pos, after, some (j, want)⟩ :: rest) e h n = zgb P ops Q rest dst (.indexAddr t x i) ((zaB ops j).bind fun t => zaF (e t) want) e h n := zaP rfl
theorem zs6 {dst : Option Tmp} {ty : TypeId} {pos : String} {after : Array Edge} {t : TypeId} {x i : Operand} : za7 P ops Q (⟨dst, .index t x i, ty, pos, after, none⟩ :: rest) e h n = zfR P ops Q rest dst (aev P n (.index t x i) e h) e h n := rfl
theorem zqh {dst : Option Tmp} {ty : TypeId} {pos : String} {after : Array Edge} {j : Nat} {want : Bool} {t : TypeId} {x i : Operand} : za7 P ops Q (⟨dst, .index t x i, ty, pos, after, some (j, want)⟩ :: rest) e h n = zgb P ops Q rest dst (.index t x i) ((zaB ops j).bind fun t => zaF (e t) want) e h n := zaP rfl
theorem zoc {dst : Option Tmp} {ty : TypeId} {pos : String} {after : Array Edge} {x : Operand} {i : Nat} : za7 P ops Q (⟨dst, .extract x i, ty, pos, after, none⟩ :: rest) e h n = zfR P ops Q rest dst (aev P n (.extract x i) e h) e h n := rfl
theorem zmR {dst : Option Tmp} {ty : TypeId} {pos : String} {after : Array Edge} {j : Nat} {want : Bool} {x : Operand} {i : Nat} : za7 P ops Q (⟨dst, .extract x i, ty, pos, after, some (j, want)⟩ :: rest) e h n = zgb P ops Q rest dst (.extract x i) ((zaB ops j).bind fun t => zaF (e t) want) e h n := zaP rfl
theorem zod {dst : Option Tmp} {ty : TypeId} {pos : String} {after : Array Edge} {t : TypeId} {r : Option Operand} : za7 P ops Q (⟨dst, .makeMap t r, ty, pos, after, none⟩ :: rest) e h n = zfR P ops Q rest dst (aev P n (.makeMap t r) e h) e h n := rfl
theorem zmS {dst : Option Tmp} {ty : TypeId} {pos : String} {after : Array Edge} {j : Nat} {want : Bool} {t : TypeId} {r : Option Operand} : za7 P ops Q (⟨dst, .makeMap t r, ty, pos, after, some (j, want)⟩ :: rest) e h n = zgb P ops Q rest dst (.makeMap t r) ((zaB ops j).bind fun t => zaF (e t) want) e h n := zaP rfl
theorem zlb {dst : Option Tmp} {ty : TypeId} {pos : String} {after : Array Edge} {t : TypeId} {m' k x : Operand} : za7 P ops Q (⟨dst, .mapUpdate t m' k x, ty, pos, after, none⟩ :: rest) e h n = zfR P ops Q rest dst (aev P n (.mapUpdate t m' k x) e h) e h n := rfl
theorem zjy {dst : Option Tmp} {ty : TypeId} {pos : String} {after : Array Edge} {j : Nat} {want : Bool} {t : TypeId} {m' k x : Operand} : za7 P ops Q (⟨dst, .mapUpdate t m' k x, ty, pos, after, some (j, want)⟩ :: rest) e h n = zgb P ops Q rest dst (.mapUpdate t m' k x) ((zaB ops j).bind fun t => zaF (e t) want) e h n := zaP rfl
theorem zqm {dst : Option Tmp} {ty : TypeId} {pos : String} {after : Array Edge} {t : TypeId} {m' k x : Operand} : za7 P ops Q (⟨dst, .insert t m' k x, ty, pos, after, none⟩ :: rest) e h n = zfR P ops Q rest dst (aev P n (.insert t m' k x) e h) e h n := rfl
theorem zn8 {dst : Option Tmp} {ty : TypeId} {pos : String} {after : Array Edge} {j : Nat} {want : Bool} {t : TypeId} {m' k x : Operand} : za7 P ops Q (⟨dst, .insert t m' k x, ty, pos, after, some (j, want)⟩ :: rest) e h n = zgb P ops Q rest dst (.insert t m' k x) ((zaB ops j).bind fun t => zaF (e t) want) e h n := zaP rfl
theorem zqn {dst : Option Tmp} {ty : TypeId} {pos : String} {after : Array Edge} {t : TypeId} {m' k : Operand} {ok : Bool} : za7 P ops Q (⟨dst, .lookup t m' k ok, ty, pos, after, none⟩ :: rest) e h n = zfR P ops Q rest dst (aev P n (.lookup t m' k ok) e h) e h n := rfl
theorem zn9 {dst : Option Tmp} {ty : TypeId} {pos : String} {after : Array Edge} {j : Nat} {want : Bool} {t : TypeId} {m' k : Operand} {ok : Bool} : za7 P ops Q (⟨dst, .lookup t m' k ok, ty, pos, after, some (j, want)⟩ :: rest) e h n = zgb P ops Q rest dst (.lookup t m' k ok) ((zaB ops j).bind fun t => zaF (e t) want) e h n := zaP rfl
theorem zg1 {dst : Option Tmp} {ty : TypeId} {pos : String} {after : Array Edge} {t : TypeId} {x : Operand} : za7 P ops Q (⟨dst, .makeInterface t x, ty, pos, after, none⟩ :: rest) e h n = zfR P ops Q rest dst (aev P n (.makeInterface t x) e h) e h n := rfl
theorem zgE {dst : Option Tmp} {ty : TypeId} {pos : String} {after : Array Edge} {j : Nat} {want : Bool} {t : TypeId} {x : Operand} : za7 P ops Q (⟨dst, .makeInterface t x, ty, pos, after, some (j, want)⟩ :: rest) e h n = zgb P ops Q rest dst (.makeInterface t x) ((zaB ops j).bind fun t => zaF (e t) want) e h n := zaP rfl
theorem zs7 {dst : Option Tmp} {ty : TypeId} {pos : String} {after : Array Edge} {x : Operand} : za7 P ops Q (⟨dst, .panic x, ty, pos, after, none⟩ :: rest) e h n = zfR P ops Q rest dst (aev P n (.panic x) e h) e h n := rfl
theorem zqi {dst : Option Tmp} {ty : TypeId} {pos : String} {after : Array Edge} {j : Nat} {want : Bool} {x : Operand} : za7 P ops Q (⟨dst, .panic x, ty, pos, after, some (j, want)⟩ :: rest) e h n = zgb P ops Q rest dst (.panic x) ((zaB ops j).bind fun t => zaF (e t) want) e h n := zaP rfl
theorem zoa {dst : Option Tmp} {ty : TypeId} {pos : String} {after : Array Edge} {b : Builtin} {args : Array Operand} {ats : Array TypeId} : za7 P ops Q (⟨dst, .call ⟨.builtin b, args, ats⟩, ty, pos, after, none⟩ :: rest) e h n = zfR P ops Q rest dst (aev P n (.call ⟨.builtin b, args, ats⟩) e h) e h n := rfl
theorem zmP {dst : Option Tmp} {ty : TypeId} {pos : String} {after : Array Edge} {j : Nat} {want : Bool} {b : Builtin} {args : Array Operand} {ats : Array TypeId} : za7 P ops Q (⟨dst, .call ⟨.builtin b, args, ats⟩, ty, pos, after, some (j, want)⟩ :: rest) e h n = zgb P ops Q rest dst (.call ⟨.builtin b, args, ats⟩) ((zaB ops j).bind fun t => zaF (e t) want) e h n := zaP rfl
theorem aRes_0 {d : Tmp} {c : Prop} {x : AV} : zfR P ops Q rest (some d) ⟨c, x, [], 0⟩ e h n = VC c (zgF P ops Q rest (upd e d x) h n) := rfl
theorem zz3 {c : Prop} {x : AV} : zfR P ops Q rest none ⟨c, x, [], 0⟩ e h n = VC c (zgF P ops Q rest e h n) := rfl
theorem aRes_1 {d : Tmp} {c : Prop} {x : AV} {o : Nat} {y : Option zbi} {al : Nat} : zfR P ops Q rest (some d) ⟨c, x, [(o, y)], al⟩ e h n = VC c (zgF P ops Q rest (upd e d x) (upd h o y) (n + al)) := rfl
theorem zz4 {c : Prop} {x : AV} {o : Nat} {y : Option zbi} {al : Nat} : zfR P ops Q rest none ⟨c, x, [(o, y)], al⟩ e h n = VC c (zgF P ops Q rest e (upd h o y) (n + al)) := rfl
theorem zzZ {d : Tmp} {g : Bool} {c : Prop} {x : AV} : zgC P ops Q rest (some d) g ⟨c, x, [], 0⟩ e h n = VC (g = true → c) (zgF P ops Q rest (upd e d (.gd g x)) h n) := by
 cases g <;> simp [zgC, put, VC, zgF, gW, gN, zai]
theorem zz1 {d : Tmp} {c : Prop} {x : AV} {o : Nat} {y : Option zbi} {al : Nat} : zgC P ops Q rest (some d) true ⟨c, x, [(o, y)], al⟩ e h n = VC c (zgF P ops Q rest (upd e d (.gd true x)) (upd h o y) (n + al)) := by
 simp [zgC, put, VC, zgF, gW, gN, zai]
theorem zxR {c : Prop} {x : AV} {o : Nat} {y : Option zbi} {al : Nat} : zgC P ops Q rest none true ⟨c, x, [(o, y)], al⟩ e h n = VC c (zgF P ops Q rest e (upd h o y) (n + al)) := by
 simp [zgC, put, VC, zgF, gW, gN, zai]
theorem zz0 {d : Tmp} {r : Res} : zgC P ops Q rest (some d) false r e h n = za7 P ops Q rest (upd e d (.gd false r.val)) h n := by
 simp [zgC, put, VC, gW, gN, zai]
theorem zxQ {r : Res} : zgC P ops Q rest none false r e h n = za7 P ops Q rest e h n := by
 simp [zgC, put, VC, gW, gN, zai]
theorem zuS {dst : Option Tmp} {op : Op} {g : Bool} : zgb P ops Q rest dst op (some g) e h n = (VQ (∀ t ∈ gT op, okG g (e t)) (zgC P ops Q rest dst g (aev P n op (gE op e) h) e h n)) := rfl
theorem zxO {dst : Option Tmp} {f : FuncId} {first caps args : List AV} :
  zp2 P ops Q rest dst (.fn (.func f) first caps) args e h n = zaa P f (first ++ args ++ caps) h n fun r h' n' => za7 P ops Q rest (put e dst r) h' n' := by
 unfold zp2
 simp only [zgc]
 exact propext ⟨fun h => h.elim id (fun h => (zux h).elim), .inl⟩
theorem zp3 {dst : Option Tmp} {l : Nat} {args : List AV} : zp2 P ops Q rest dst (.fn (.yield l) [] []) args e h n = zz5 P ops Q rest dst l args e h n := by
 unfold zp2 zz5
 simp only [zgc]
 exact propext ⟨fun h => h.elim False.elim id, .inr⟩
end
theorem zy1 (e : Env) (d : Nat) (x : AV) : put e (some d) x = upd e d x := rfl
theorem zy0 (e : Env) (x : AV) : put e none x = e := rfl

section congr
variable {P : Program} {n0 : Nat} {Q : zbK} {e e' : Env} {h h' : zan} {n n' : Nat} {ops rest : List Oper}
@[congr] theorem awp_congr {c : Code} (h3 : n = n') : awp P n0 c Q e h n = awp P n0 c Q e h n' := by subst h3; rfl
@[congr] theorem zzY {a b : Code} {x x' : AV} (h0 : x = x') : zxP P n0 a b Q x e h n = zxP P n0 a b Q x' e h n := by subst h0; rfl
@[congr] theorem zBb (h3 : n = n') : za7 P ops Q rest e h n = za7 P ops Q rest e h n' := by subst h3; rfl
@[congr] theorem zA8 {dst : Option Tmp} {r r' : Res} (h0 : r = r') : zfR P ops Q rest dst r e h n = zfR P ops Q rest dst r' e h n := by subst h0; rfl
@[congr] theorem zz2 {dst : Option Tmp} {g g' : Bool} {r r' : Res} (hg : g = g') (h0 : r = r') : zgC P ops Q rest dst g r e h n = zgC P ops Q rest dst g' r' e h n := by subst h0 hg; rfl
@[congr] theorem zzX {dst : Option Tmp} {fv fv' : AV} {args args' : List AV} (h0 : fv = fv') (h1 : args = args') : zp2 P ops Q rest dst fv args e h n = zp2 P ops Q rest dst fv' args' e h n := by subst h0 h1; rfl
@[congr] theorem zA7 {dst : Option Tmp} {op : Op} {g g' : Option Bool} (h0 : g = g') : zgb P ops Q rest dst op g e h n = zgb P ops Q rest dst op g' e h n := by subst h0; rfl
@[congr] theorem zzg {f : FuncId} {args args' : List AV} {K : zco} (h1 : args = args') : zaa P f args h n K = zaa P f args' h n K := by subst h1; rfl
@[congr] theorem zzF {B : zbK → Env → zan → Nat → Prop} (h3 : n = n') : zab n0 B Q e h n = zab n0 B Q e h n' := by subst h3; rfl
@[congr] theorem zA6 {K : Env → zan → Nat → Prop} {x : Exit} (h3 : n = n') : zuA K Q x e h n = zuA K Q x e h n' := by subst h3; rfl
@[congr] theorem zzi {x : Exit} (h3 : n = n') : zgY Q x e h n = zgY Q x e h n' := by subst h3; rfl
@[congr] theorem zzh {id : Nat} {x : Exit} (h3 : n = n') : zfo id Q x e h n = zfo id Q x e h n' := by subst h3; rfl
end congr

theorem zzK {n : Nat} : Bel n .top = True := eq_true .top
theorem zzL {n : Nat} {x : Value} : Bel n (.v x) = True := eq_true (.v x)
theorem zzI {n : Nat} {cs : List AV} : Bel n (.agg cs) = ∀ c ∈ cs, Bel n c := propext ⟨fun h => by cases h; assumption, .agg⟩
theorem zpI {n : Nat} {cs : List AV} : Bel n (.tup cs) = ∀ c ∈ cs, Bel n c := propext ⟨fun h => by cases h; assumption, .tup⟩
theorem zb7 {n sz : Nat} {rows : List (List AV)} : Bel n (.lst sz rows) = ∀ r ∈ rows, ∀ c ∈ r, Bel n c := propext ⟨fun h => by cases h; assumption, .lst⟩
theorem Bel_fp {n : Nat} {cs : List AV} : Bel n (.fp cs) = ∀ c ∈ cs, Bel n c := propext ⟨fun h => by cases h; assumption, .fp⟩
theorem zzJ {n o g sz i off : Nat} : Bel n (.ref o g sz i off) = (o < n) := propext ⟨fun h => by cases h; assumption, .ref⟩
theorem Bel_sl {n o g sz i len : Nat} : Bel n (.sl o g sz i len) = (o < n) := propext ⟨fun h => by cases h; assumption, .sl⟩
theorem Bel_fn {n : Nat} {f : Fn} {a b : List AV} : Bel n (.fn f a b) = ((∀ c ∈ a, Bel n c) ∧ ∀ c ∈ b, Bel n c) := propext ⟨fun h => by cases h; exact ⟨by assumption, by assumption⟩, fun h => .fn h.1 h.2⟩
theorem Bel_mp {n o : Nat} : Bel n (.mp o) = (o < n) := propext ⟨fun h => by cases h; assumption, .mp⟩
theorem zuE {n : Nat} {g : Bool} {x : AV} : Bel n (.gd g x) = Bel n x := propext ⟨fun h => by cases h; assumption, .gd⟩

theorem zyS {g : Bool} {x : AV} : okG g (.gd g x) = True := eq_true (fun h => h)
theorem okG_gd {g g' : Bool} {x : AV} : okG g (.gd g' x) = (g = true → g' = true) := rfl
theorem okG_v {g : Bool} {x : Value} : okG g (.v x) = True := rfl
theorem zAO {o g sz i off : Nat} {b : Bool} : okG b (.ref o g sz i off) = True := rfl
theorem okG_sl {o g sz i len : Nat} {b : Bool} : okG b (.sl o g sz i len) = True := rfl
theorem zAN {b : Bool} {sz : Nat} {rows : List (List AV)} : okG b (.lst sz rows) = True := rfl
theorem okG_fp {b : Bool} {cs : List AV} : okG b (.fp cs) = True := rfl
theorem zAM {b : Bool} {cs : List AV} : okG b (.agg cs) = True := rfl
theorem zAQ {b : Bool} {cs : List AV} : okG b (.tup cs) = True := rfl
theorem okG_fn {b : Bool} {f : Fn} {x y : List AV} : okG b (.fn f x y) = True := rfl
theorem zAP {b : Bool} : okG b .top = True := rfl
attribute [go_sem high] zyS
attribute [go_sem] zzV zuT zsG zzW zxN zbe zyP zcb zye zyd zAk zx8 zvn ztc zAa zx3 zsF zvm zx6 zx5 zz9 zpU zuN zxH zmB zpO zsx zvo zmD zpS zsA zxJ zp1
 zod zmS zlb zjy zqm zn8 zqn zn9 zfw zcw zdR zzy zqR zd8 zhq
 zx1 zvg zvi zsZ zql zn7 zvj zs0 zs2 zqd zx0 zvf zs4 zqf zjz ziP zvh zsY zs9 zqk zs3 zqe zvk zs1 zmU zk7 zob zmQ zmT zk6 zla zjx zs8 zqj zk8 zjv zs5 zqg zk9 zjw zs6 zqh zoc zmR zg1 zgE zs7 zqi zoa zmP aRes_0 zz3 aRes_1 zz4 zzZ zz1 zxR zz0 zxQ zuS zxO zy1 zy0 aev ev ofV zxs zoz pB evEq zou zvX zvW ziy zjV zfu eqS zdU gE gT zvU evUn zix zhd zcY zbM zjS zbN zjT zox zAC
 zai unG okG_gd okG_v zAO okG_sl zAN okG_fp zAM zAQ okG_fn zAP zcl Op.operands Call.operands zaF zaB AV.cells AV.okCells AV.isCell zcp zap ztv zd5 zm8 zwj zem zvV zyy zcL zdt zdD zfx zhY zcz zcg zcM zeM setMany zfG znN zzD zrL
 zzK zzL zzI zpI zb7 Bel_fp zzJ Bel_sl Bel_fn Bel_mp zuE

section draw
variable {P : Program} {n0 : Nat} {Q : zbK} {e e' : Env} {h h' : zan} {n i i' : Nat} {ops rest : List Oper} {acc : List zfe} {K : Env → zan → List zfe → Prop}
def zm4 (Q : zbK) (ops : List Oper) (n : Nat) (e : Env) (h : zan) (recs : List zfe) : Prop := zkr ops recs = true ∧ ((zwG recs = true ∧ Q .normal e h n) ∨ Q .normal e h (n + 16 * ops.length))
def adr (P : Program) (n : Nat) (ops : List Oper) (Q : zbK) (m : Nat) (i : Nat) (rest : List Oper) (e : Env) (h : zan) (acc : List zfe) : Prop := zcW P n ops (zm4 Q ops m) i rest e h acc
def zn1 (P : Program) (n : Nat) (ops : List Oper) (Q : zbK) (m : Nat) (i : Nat) (rest : List Oper) (e : Env) (h : zan) (acc : List zfe) : Prop := zcW P n ops (zm4 Q ops m) i rest e h acc
variable {m : Nat}
def zsP (P : Program) (n : Nat) (ops : List Oper) (Q : zbK) (e : Env) (h : zan) : Prop := ∃ h', Frz h h' ∧ zsT P ops Q e h' n
theorem zrI (hk : adr P n ops Q (n + ops.length) 0 ops e h []) : zsT P ops Q e h n := by
 refine ⟨ops.length, ?_⟩
 rw [List.take_length, List.drop_length]
 exact hk
theorem wZ (hk : adr P n ops Q (n + ops.length) 0 ops e h []) : zsP P n ops Q e h := ⟨h, .refl h, zrI hk⟩
theorem zsP.frz (h' : zan) (hf : Frz h h') (hk : adr P n ops Q (n + ops.length) 0 ops e h' []) : zsP P n ops Q e h := ⟨h', hf, zrI hk⟩
def QTail (P : Program) (ops : List Oper) (Q : zbK) (k : Nat) : zbK
 | .normal, e, h, n => za7 P ops Q (ops.drop k) e h n
 | _, _, _, _ => False
theorem znT {k : Nat} : QTail P ops Q k .normal e h n = za7 P ops Q (ops.drop k) e h n := rfl
theorem zsP.split (k : Nat) (hk : adr P n ops (QTail P ops Q k) (n + ops.length) 0 (ops.take k) e h []) : zsP P n ops Q e h := ⟨h, .refl h, k, hk⟩
attribute [go_sem] znT
theorem zx4 (id : Nat) (ops : List Oper) : awp P n0 (.region id ops.toArray true) Q e h n = zsP P n ops Q e h := rfl
def zfj (P : Program) (n : Nat) (ops : List Oper) (Q : zbK) (m : Nat) (i : Nat) (rest : List Oper) (dst : Option Tmp) (rd : List Nat) (r : Res) (e : Env) (h : zan) (acc : List zfe) : Prop :=
 VC r.cond (adr P n ops Q m (i + 1) rest (put e dst r.val) (zai r.wr h) (acc ++ [(rd, r.wr.map (·.1))]))
def zgH (P : Program) (n : Nat) (ops : List Oper) (Q : zbK) (m : Nat) (i : Nat) (rest : List Oper) (dst : Option Tmp) (g : Bool) (rd : List Nat) (r : Res) (e : Env) (h : zan) (acc : List zfe) : Prop :=
 VC (g = true → r.cond) (adr P n ops Q m (i + 1) rest (put e dst (.gd g r.val)) (zai (gW g r.wr) h) (acc ++ [(rd, (gW g r.wr).map (·.1))]))
def zgd (P : Program) (n : Nat) (ops : List Oper) (Q : zbK) (m : Nat) (i : Nat) (rest : List Oper) (dst : Option Tmp) (op : Op) (g : Option Bool) (e : Env) (h : zan) (acc : List zfe) : Prop :=
 match g with
 | none => False
 | some g => VQ (∀ t ∈ gT op, okG g (e t)) (zgH P n ops Q m i rest dst g ((op.operands.toList.map (ev (gE op e))).flatMap AV.ids) (aev P (n + i) op (gE op e) h) e h acc)
def zaQ (P : Program) (n : Nat) (ops : List Oper) (Q : zbK) (m : Nat) (i : Nat) (rest : List Oper) (dst : Option Tmp) (fv : AV) (args : List AV) (e : Env) (h : zan) (acc : List zfe) : Prop :=
 ∃ r S wr, zgh P (n + ops.length + 16 * i) fv args h r S wr ∧ adr P n ops Q m (i + 1) rest (put e dst r) (zai wr h) (acc ++ [(S, wr.map (·.1))])
theorem zz7 : adr P n ops Q m i [] e h acc = zm4 Q ops m e h acc := rfl
theorem zaT {dst : Option Tmp} {op : Op} {ty : TypeId} {pos : String} {after : Array Edge} (hc : zlU op = false) :
  adr P n ops Q m i (⟨dst, op, ty, pos, after, none⟩ :: rest) e h acc = zfj P n ops Q m i rest dst ((op.operands.toList.map (ev e)).flatMap AV.ids) (aev P (n + i) op e h) e h acc := by
 unfold adr zfj
 cases op with
 | call c =>
  obtain ⟨callee, args, ats⟩ := c
  cases callee with
  | value f => simp [zlU] at hc
  | _ => rfl
 | _ => rfl
theorem zxU {dst : Option Tmp} {f : Operand} {args : Array Operand} {ats : Array TypeId} {ty : TypeId} {pos : String} {after : Array Edge} :
  adr P n ops Q m i (⟨dst, .call ⟨.value f, args, ats⟩, ty, pos, after, none⟩ :: rest) e h acc = zaQ P n ops Q m i rest dst (ev e f) (args.toList.map (ev e)) e h acc := rfl
theorem zaU {dst : Option Tmp} {op : Op} {ty : TypeId} {pos : String} {after : Array Edge} {j : Nat} {want : Bool} (hc : zlU op = false) :
  adr P n ops Q m i (⟨dst, op, ty, pos, after, some (j, want)⟩ :: rest) e h acc = zgd P n ops Q m i rest dst op ((zaB ops j).bind fun t => zaF (e t) want) e h acc := by
 unfold adr zgd zgH
 cases op with
 | call c =>
  obtain ⟨callee, args, ats⟩ := c
  cases callee with
  | value f => simp [zlU] at hc
  | _ => rfl
 | _ => rfl
theorem VC_adr : VC True (zn1 P n ops Q m i rest e h acc) = adr P n ops Q m i rest e h acc := by simp [VC, zn1, adr]
theorem zBJ {a : Prop} (h1 : a) (h2 : a → adr P n ops Q m i rest e h acc) : VC a (zn1 P n ops Q m i rest e h acc) := ⟨h1, h2 h1⟩
theorem zm4.mk {recs : List zfe} (h1 : (zkr ops recs && zwG recs) = true) (h2 : Q .normal e h n) : zm4 Q ops n e h recs := by
 rw [Bool.and_eq_true] at h1
 exact ⟨h1.1, .inl ⟨h1.2, h2⟩⟩
theorem zBR {recs : List zfe} (h1 : zkr ops recs = true) (h2 : Q .normal e h (n + 16 * ops.length)) : zm4 Q ops n e h recs := ⟨h1, .inr h2⟩
theorem wL {a : Prop} (h2 : a → za7 P ops Q rest e h n) (h1 : a := by first | omega | exact True.intro | rfl) : VC a (zgF P ops Q rest e h n) := ⟨h1, h2 h1⟩
theorem wD {a : Prop} (h2 : a → adr P n ops Q m i rest e h acc) (h1 : a := by first | omega | exact True.intro | (intros; omega)) : VC a (zn1 P n ops Q m i rest e h acc) := ⟨h1, h2 h1⟩
theorem wE {recs : List zfe} (h2 : Q .normal e h n) (h1 : (zkr ops recs && zwG recs) = true := by kernel_rfl) : zm4 Q ops n e h recs := zm4.mk h1 h2
theorem dRes_0 {d : Tmp} {rd : List Nat} {c : Prop} {x : AV} : zfj P n ops Q m i rest (some d) rd ⟨c, x, [], 0⟩ e h acc = VC c (zn1 P n ops Q m (i + 1) rest (upd e d x) h (acc ++ [(rd, [])])) := rfl
theorem zAs {rd : List Nat} {c : Prop} {x : AV} : zfj P n ops Q m i rest none rd ⟨c, x, [], 0⟩ e h acc = VC c (zn1 P n ops Q m (i + 1) rest e h (acc ++ [(rd, [])])) := rfl
theorem dRes_1 {d : Tmp} {rd : List Nat} {c : Prop} {x : AV} {o : Nat} {y : Option zbi} {al : Nat} : zfj P n ops Q m i rest (some d) rd ⟨c, x, [(o, y)], al⟩ e h acc = VC c (zn1 P n ops Q m (i + 1) rest (upd e d x) (upd h o y) (acc ++ [(rd, [o])])) := rfl
theorem zAt {rd : List Nat} {c : Prop} {x : AV} {o : Nat} {y : Option zbi} {al : Nat} : zfj P n ops Q m i rest none rd ⟨c, x, [(o, y)], al⟩ e h acc = VC c (zn1 P n ops Q m (i + 1) rest e (upd h o y) (acc ++ [(rd, [o])])) := rfl
theorem zAo {d : Tmp} {g : Bool} {rd : List Nat} {c : Prop} {x : AV} : zgH P n ops Q m i rest (some d) g rd ⟨c, x, [], 0⟩ e h acc = VC (g = true → c) (zn1 P n ops Q m (i + 1) rest (upd e d (.gd g x)) h (acc ++ [(rd, [])])) := by
 cases g <;> simp [zgH, put, VC, adr, zn1, gW, zai]
theorem zAq {d : Tmp} {rd : List Nat} {c : Prop} {x : AV} {o : Nat} {y : Option zbi} {al : Nat} : zgH P n ops Q m i rest (some d) true rd ⟨c, x, [(o, y)], al⟩ e h acc = VC c (zn1 P n ops Q m (i + 1) rest (upd e d (.gd true x)) (upd h o y) (acc ++ [(rd, [o])])) := by
 simp [zgH, put, VC, adr, zn1, gW, zai]
theorem zyj {rd : List Nat} {c : Prop} {x : AV} {o : Nat} {y : Option zbi} {al : Nat} : zgH P n ops Q m i rest none true rd ⟨c, x, [(o, y)], al⟩ e h acc = VC c (zn1 P n ops Q m (i + 1) rest e (upd h o y) (acc ++ [(rd, [o])])) := by
 simp [zgH, put, VC, adr, zn1, gW, zai]
theorem zAp {d : Tmp} {rd : List Nat} {r : Res} : zgH P n ops Q m i rest (some d) false rd r e h acc = adr P n ops Q m (i + 1) rest (upd e d (.gd false r.val)) h (acc ++ [(rd, [])]) := by
 simp [zgH, put, VC, adr, gW, zai]
theorem zyi {rd : List Nat} {r : Res} : zgH P n ops Q m i rest none false rd r e h acc = adr P n ops Q m (i + 1) rest e h (acc ++ [(rd, [])]) := by
 simp [zgH, put, VC, adr, gW, zai]
theorem zvH {dst : Option Tmp} {op : Op} {g : Bool} : zgd P n ops Q m i rest dst op (some g) e h acc = VQ (∀ t ∈ gT op, okG g (e t)) (zgH P n ops Q m i rest dst g ((op.operands.toList.map (ev (gE op e))).flatMap AV.ids) (aev P (n + i) op (gE op e) h) e h acc) := rfl
theorem zBX {dst : Option Tmp} {f : FuncId} {first caps args : List AV} (args' : List AV) (r : AV) (S : List Nat) (hp : zaJ P f args' r) (hfl : zss r) (hle : ∀ h₁ : zan, (∀ o ∈ S, h o = h₁ o) → zam h₁ noH 0 (first ++ args ++ caps) args') (hb : ∀ c ∈ args', Bel 0 c)
  (hk : adr P n ops Q m (i + 1) rest (put e dst r) h (acc ++ [(S, [])])) : zaQ P n ops Q m i rest dst (.fn (.func f) first caps) args e h acc := ⟨r, S, [], .inl ⟨rfl, f, first, caps, args', rfl, hb, hp, .inl ⟨hle, hfl⟩⟩, hk⟩
theorem zBl {dst : Option Tmp} {f : FuncId} {first caps args : List AV} {r : AV} (hp : zaJ P f (first ++ args ++ caps) r) (hb : ∀ c ∈ first ++ args ++ caps, Bel 0 c)
  (hk : adr P n ops Q m (i + 1) rest (put e dst r) h (acc ++ [([], [])])) : zaQ P n ops Q m i rest dst (.fn (.func f) first caps) args e h acc := ⟨r, [], [], .inl ⟨rfl, f, first, caps, _, rfl, hb, hp, .inr rfl⟩, hk⟩
theorem zaQ.frz {dst : Option Tmp} {f : FuncId} {first caps args : List AV} (args' : List AV) (r : AV) (S : List Nat) (wr : List (Nat × Option zbi)) (hp : zaJ P f args' r)
  (hw : ∀ p ∈ wr, p.1 ∈ S ∧ ∃ g sz rs, p.2 = some (.rows false g sz rs) ∧ h p.1 = some (.rows true g sz rs)) (hle : ∀ h₁ : zan, (∀ o ∈ S, h o = h₁ o) → zam h₁ (zai wr h₁) 0 (first ++ args ++ caps) args') (hb : ∀ c ∈ args', Bel 0 c)
  (hk : adr P n ops Q m (i + 1) rest (put e dst r) (zai wr h) (acc ++ [(S, wr.map (·.1))])) : zaQ P n ops Q m i rest dst (.fn (.func f) first caps) args e h acc := ⟨r, S, wr, .inr (.inl ⟨f, first, caps, args', rfl, hb, hp, hw, hle⟩), hk⟩
@[congr] theorem adr_congr (h1 : i = i') : adr P n ops Q m i rest e h acc = adr P n ops Q m i' rest e h acc := by subst h1; rfl
@[congr] theorem zA9 (h1 : i = i') : zn1 P n ops Q m i rest e h acc = zn1 P n ops Q m i' rest e h acc := by subst h1; rfl
@[congr] theorem zBe {dst : Option Tmp} {rd rd' : List Nat} {r r' : Res} (h1 : i = i') (h2 : rd = rd') (h0 : r = r') : zfj P n ops Q m i rest dst rd r e h acc = zfj P n ops Q m i' rest dst rd' r' e h acc := by subst h0 h1 h2; rfl
@[congr] theorem zAr {dst : Option Tmp} {g g' : Bool} {rd rd' : List Nat} {r r' : Res} (h1 : i = i') (hg : g = g') (h2 : rd = rd') (h0 : r = r') : zgH P n ops Q m i rest dst g rd r e h acc = zgH P n ops Q m i' rest dst g' rd' r' e h acc := by subst h0 h1 h2 hg; rfl
@[congr] theorem zBd {dst : Option Tmp} {op : Op} {g g' : Option Bool} (h1 : i = i') (h0 : g = g') : zgd P n ops Q m i rest dst op g e h acc = zgd P n ops Q m i' rest dst op g' e h acc := by subst h0 h1; rfl
@[congr] theorem zAn {dst : Option Tmp} {fv fv' : AV} {args args' : List AV} (h1 : i = i') (h0 : fv = fv') (h2 : args = args') : zaQ P n ops Q m i rest dst fv args e h acc = zaQ P n ops Q m i' rest dst fv' args' e h acc := by subst h0 h1 h2; rfl
@[congr] theorem zBc {acc acc' : List zfe} {n' : Nat} (h1 : n = n') (h0 : acc = acc') : zm4 Q ops n e h acc = zm4 Q ops n' e h acc' := by subst h0 h1; rfl
end draw
section drawEq
variable {P : Program} {Q : zbK} {e : Env} {h : zan} {n m i : Nat} {ops rest : List Oper} {acc : List zfe} {dst : Option Tmp} {ty : TypeId} {pos : String} {after : Array Edge} {j : Nat} {want : Bool}
theorem zxW {x : Operand} : adr P n ops Q m i (⟨dst, .move x, ty, pos, after, none⟩ :: rest) e h acc = zfj P n ops Q m i rest dst (((.move x : Op).operands.toList.map (ev e)).flatMap AV.ids) (aev P (n + i) (.move x) e h) e h acc := zaT rfl
theorem zuZ {x : Operand} : adr P n ops Q m i (⟨dst, .move x, ty, pos, after, some (j, want)⟩ :: rest) e h acc = zgd P n ops Q m i rest dst (.move x) ((zaB ops j).bind fun t => zaF (e t) want) e h acc := zaU rfl
theorem zsQ {x : Operand} : adr P n ops Q m i (⟨dst, .assign x, ty, pos, after, none⟩ :: rest) e h acc = zfj P n ops Q m i rest dst (((.assign x : Op).operands.toList.map (ev e)).flatMap AV.ids) (aev P (n + i) (.assign x) e h) e h acc := zaT rfl
theorem zp5 {x : Operand} : adr P n ops Q m i (⟨dst, .assign x, ty, pos, after, some (j, want)⟩ :: rest) e h acc = zgd P n ops Q m i rest dst (.assign x) ((zaB ops j).bind fun t => zaF (e t) want) e h acc := zaU rfl
theorem zxX {c a b : Operand} : adr P n ops Q m i (⟨dst, .pick c a b, ty, pos, after, none⟩ :: rest) e h acc = zfj P n ops Q m i rest dst (((.pick c a b : Op).operands.toList.map (ev e)).flatMap AV.ids) (aev P (n + i) (.pick c a b) e h) e h acc := zaT rfl
theorem zu0 {c a b : Operand} : adr P n ops Q m i (⟨dst, .pick c a b, ty, pos, after, some (j, want)⟩ :: rest) e h acc = zgd P n ops Q m i rest dst (.pick c a b) ((zaB ops j).bind fun t => zaF (e t) want) e h acc := zaU rfl
theorem zu2 {t : TypeId} : adr P n ops Q m i (⟨dst, .alloc t, ty, pos, after, none⟩ :: rest) e h acc = zfj P n ops Q m i rest dst (((.alloc t : Op).operands.toList.map (ev e)).flatMap AV.ids) (aev P (n + i) (.alloc t) e h) e h acc := zaT rfl
theorem zsH {t : TypeId} : adr P n ops Q m i (⟨dst, .alloc t, ty, pos, after, some (j, want)⟩ :: rest) e h acc = zgd P n ops Q m i rest dst (.alloc t) ((zaB ops j).bind fun t => zaF (e t) want) e h acc := zaU rfl
theorem zz6 {t : TypeId} {x : Operand} : adr P n ops Q m i (⟨dst, .box t x, ty, pos, after, none⟩ :: rest) e h acc = zfj P n ops Q m i rest dst (((.box t x : Op).operands.toList.map (ev e)).flatMap AV.ids) (aev P (n + i) (.box t x) e h) e h acc := zaT rfl
theorem zxT {t : TypeId} {x : Operand} : adr P n ops Q m i (⟨dst, .box t x, ty, pos, after, some (j, want)⟩ :: rest) e h acc = zgd P n ops Q m i rest dst (.box t x) ((zaB ops j).bind fun t => zaF (e t) want) e h acc := zaU rfl
theorem zu4 {t : TypeId} {ps : Array (Nat × Operand)} : adr P n ops Q m i (⟨dst, .build t ps, ty, pos, after, none⟩ :: rest) e h acc = zfj P n ops Q m i rest dst (((.build t ps : Op).operands.toList.map (ev e)).flatMap AV.ids) (aev P (n + i) (.build t ps) e h) e h acc := zaT rfl
theorem zsJ {t : TypeId} {ps : Array (Nat × Operand)} : adr P n ops Q m i (⟨dst, .build t ps, ty, pos, after, some (j, want)⟩ :: rest) e h acc = zgd P n ops Q m i rest dst (.build t ps) ((zaB ops j).bind fun t => zaF (e t) want) e h acc := zaU rfl
theorem zk5 {t : TypeId} {k : Nat} {ps : Array (Nat × Operand)} : adr P n ops Q m i (⟨dst, .buildSlice t k ps, ty, pos, after, none⟩ :: rest) e h acc = zfj P n ops Q m i rest dst (((.buildSlice t k ps : Op).operands.toList.map (ev e)).flatMap AV.ids) (aev P (n + i) (.buildSlice t k ps) e h) e h acc := zaT rfl
theorem zju {t : TypeId} {k : Nat} {ps : Array (Nat × Operand)} : adr P n ops Q m i (⟨dst, .buildSlice t k ps, ty, pos, after, some (j, want)⟩ :: rest) e h acc = zgd P n ops Q m i rest dst (.buildSlice t k ps) ((zaB ops j).bind fun t => zaF (e t) want) e h acc := zaU rfl
theorem zxV {t : TypeId} {x : Operand} : adr P n ops Q m i (⟨dst, .load t x, ty, pos, after, none⟩ :: rest) e h acc = zfj P n ops Q m i rest dst (((.load t x : Op).operands.toList.map (ev e)).flatMap AV.ids) (aev P (n + i) (.load t x) e h) e h acc := zaT rfl
theorem zuY {t : TypeId} {x : Operand} : adr P n ops Q m i (⟨dst, .load t x, ty, pos, after, some (j, want)⟩ :: rest) e h acc = zgd P n ops Q m i rest dst (.load t x) ((zaB ops j).bind fun t => zaF (e t) want) e h acc := zaU rfl
theorem zu9 {t : TypeId} {x y : Operand} : adr P n ops Q m i (⟨dst, .store t x y, ty, pos, after, none⟩ :: rest) e h acc = zfj P n ops Q m i rest dst (((.store t x y : Op).operands.toList.map (ev e)).flatMap AV.ids) (aev P (n + i) (.store t x y) e h) e h acc := zaT rfl
theorem zsO {t : TypeId} {x y : Operand} : adr P n ops Q m i (⟨dst, .store t x y, ty, pos, after, some (j, want)⟩ :: rest) e h acc = zgd P n ops Q m i rest dst (.store t x y) ((zaB ops j).bind fun t => zaF (e t) want) e h acc := zaU rfl
theorem zu3 {o : BinOp} {t : TypeId} {x y : Operand} {t' : TypeId} : adr P n ops Q m i (⟨dst, .binOp o t x y t', ty, pos, after, none⟩ :: rest) e h acc = zfj P n ops Q m i rest dst (((.binOp o t x y t' : Op).operands.toList.map (ev e)).flatMap AV.ids) (aev P (n + i) (.binOp o t x y t') e h) e h acc := zaT rfl
theorem zsI {o : BinOp} {t : TypeId} {x y : Operand} {t' : TypeId} : adr P n ops Q m i (⟨dst, .binOp o t x y t', ty, pos, after, some (j, want)⟩ :: rest) e h acc = zgd P n ops Q m i rest dst (.binOp o t x y t') ((zaB ops j).bind fun t => zaF (e t) want) e h acc := zaU rfl
theorem zxY {o : UnOp} {t : TypeId} {x : Operand} : adr P n ops Q m i (⟨dst, .unOp o t x, ty, pos, after, none⟩ :: rest) e h acc = zfj P n ops Q m i rest dst (((.unOp o t x : Op).operands.toList.map (ev e)).flatMap AV.ids) (aev P (n + i) (.unOp o t x) e h) e h acc := zaT rfl
theorem zn3 {x : Operand} : adr P n ops Q m i (⟨dst, .nilCheck x, ty, pos, after, none⟩ :: rest) e h acc = zfj P n ops Q m i rest dst (((.nilCheck x : Op).operands.toList.map (ev e)).flatMap AV.ids) (aev P (n + i) (.nilCheck x) e h) e h acc := zaT rfl
theorem zu1 {o : UnOp} {t : TypeId} {x : Operand} : adr P n ops Q m i (⟨dst, .unOp o t x, ty, pos, after, some (j, want)⟩ :: rest) e h acc = zgd P n ops Q m i rest dst (.unOp o t x) ((zaB ops j).bind fun t => zaF (e t) want) e h acc := zaU rfl
theorem zmK {x : Operand} : adr P n ops Q m i (⟨dst, .nilCheck x, ty, pos, after, some (j, want)⟩ :: rest) e h acc = zgd P n ops Q m i rest dst (.nilCheck x) ((zaB ops j).bind fun t => zaF (e t) want) e h acc := zaU rfl
theorem zp9 {s d : TypeId} {x : Operand} : adr P n ops Q m i (⟨dst, .convert s d x, ty, pos, after, none⟩ :: rest) e h acc = zfj P n ops Q m i rest dst (((.convert s d x : Op).operands.toList.map (ev e)).flatMap AV.ids) (aev P (n + i) (.convert s d x) e h) e h acc := zaT rfl
theorem znY {s d : TypeId} {x : Operand} : adr P n ops Q m i (⟨dst, .convert s d x, ty, pos, after, some (j, want)⟩ :: rest) e h acc = zgd P n ops Q m i rest dst (.convert s d x) ((zaB ops j).bind fun t => zaF (e t) want) e h acc := zaU rfl
theorem zmL {t : TypeId} {x : Operand} {f : Nat} : adr P n ops Q m i (⟨dst, .fieldAddr t x f, ty, pos, after, none⟩ :: rest) e h acc = zfj P n ops Q m i rest dst (((.fieldAddr t x f : Op).operands.toList.map (ev e)).flatMap AV.ids) (aev P (n + i) (.fieldAddr t x f) e h) e h acc := zaT rfl
theorem zk1 {t : TypeId} {x : Operand} {f : Nat} : adr P n ops Q m i (⟨dst, .fieldAddr t x f, ty, pos, after, some (j, want)⟩ :: rest) e h acc = zgd P n ops Q m i rest dst (.fieldAddr t x f) ((zaB ops j).bind fun t => zaF (e t) want) e h acc := zaU rfl
theorem zu5 {t : TypeId} {x : Operand} {f : Nat} : adr P n ops Q m i (⟨dst, .field t x f, ty, pos, after, none⟩ :: rest) e h acc = zfj P n ops Q m i rest dst (((.field t x f : Op).operands.toList.map (ev e)).flatMap AV.ids) (aev P (n + i) (.field t x f) e h) e h acc := zaT rfl
theorem zsK {t : TypeId} {x : Operand} {f : Nat} : adr P n ops Q m i (⟨dst, .field t x f, ty, pos, after, some (j, want)⟩ :: rest) e h acc = zgd P n ops Q m i rest dst (.field t x f) ((zaB ops j).bind fun t => zaF (e t) want) e h acc := zaU rfl
theorem zmM {t : TypeId} {x ix : Operand} : adr P n ops Q m i (⟨dst, .indexAddr t x ix, ty, pos, after, none⟩ :: rest) e h acc = zfj P n ops Q m i rest dst (((.indexAddr t x ix : Op).operands.toList.map (ev e)).flatMap AV.ids) (aev P (n + i) (.indexAddr t x ix) e h) e h acc := zaT rfl
theorem zk2 {t : TypeId} {x ix : Operand} : adr P n ops Q m i (⟨dst, .indexAddr t x ix, ty, pos, after, some (j, want)⟩ :: rest) e h acc = zgd P n ops Q m i rest dst (.indexAddr t x ix) ((zaB ops j).bind fun t => zaF (e t) want) e h acc := zaU rfl
theorem zu6 {t : TypeId} {x ix : Operand} : adr P n ops Q m i (⟨dst, .index t x ix, ty, pos, after, none⟩ :: rest) e h acc = zfj P n ops Q m i rest dst (((.index t x ix : Op).operands.toList.map (ev e)).flatMap AV.ids) (aev P (n + i) (.index t x ix) e h) e h acc := zaT rfl
theorem zsL {t : TypeId} {x ix : Operand} : adr P n ops Q m i (⟨dst, .index t x ix, ty, pos, after, some (j, want)⟩ :: rest) e h acc = zgd P n ops Q m i rest dst (.index t x ix) ((zaB ops j).bind fun t => zaF (e t) want) e h acc := zaU rfl
theorem zqa {x : Operand} {fi : Nat} : adr P n ops Q m i (⟨dst, .extract x fi, ty, pos, after, none⟩ :: rest) e h acc = zfj P n ops Q m i rest dst (((.extract x fi : Op).operands.toList.map (ev e)).flatMap AV.ids) (aev P (n + i) (.extract x fi) e h) e h acc := zaT rfl
theorem znZ {x : Operand} {fi : Nat} : adr P n ops Q m i (⟨dst, .extract x fi, ty, pos, after, some (j, want)⟩ :: rest) e h acc = zgd P n ops Q m i rest dst (.extract x fi) ((zaB ops j).bind fun t => zaF (e t) want) e h acc := zaU rfl
theorem zqb {t : TypeId} {r : Option Operand} : adr P n ops Q m i (⟨dst, .makeMap t r, ty, pos, after, none⟩ :: rest) e h acc = zfj P n ops Q m i rest dst (((.makeMap t r : Op).operands.toList.map (ev e)).flatMap AV.ids) (aev P (n + i) (.makeMap t r) e h) e h acc := zaT rfl
theorem zn0 {t : TypeId} {r : Option Operand} : adr P n ops Q m i (⟨dst, .makeMap t r, ty, pos, after, some (j, want)⟩ :: rest) e h acc = zgd P n ops Q m i rest dst (.makeMap t r) ((zaB ops j).bind fun t => zaF (e t) want) e h acc := zaU rfl
theorem zmO {t : TypeId} {m' k x : Operand} : adr P n ops Q m i (⟨dst, .mapUpdate t m' k x, ty, pos, after, none⟩ :: rest) e h acc = zfj P n ops Q m i rest dst (((.mapUpdate t m' k x : Op).operands.toList.map (ev e)).flatMap AV.ids) (aev P (n + i) (.mapUpdate t m' k x) e h) e h acc := zaT rfl
theorem zk4 {t : TypeId} {m' k x : Operand} : adr P n ops Q m i (⟨dst, .mapUpdate t m' k x, ty, pos, after, some (j, want)⟩ :: rest) e h acc = zgd P n ops Q m i rest dst (.mapUpdate t m' k x) ((zaB ops j).bind fun t => zaF (e t) want) e h acc := zaU rfl
theorem zsR {t : TypeId} {m' k x : Operand} : adr P n ops Q m i (⟨dst, .insert t m' k x, ty, pos, after, none⟩ :: rest) e h acc = zfj P n ops Q m i rest dst (((.insert t m' k x : Op).operands.toList.map (ev e)).flatMap AV.ids) (aev P (n + i) (.insert t m' k x) e h) e h acc := zaT rfl
theorem zp6 {t : TypeId} {m' k x : Operand} : adr P n ops Q m i (⟨dst, .insert t m' k x, ty, pos, after, some (j, want)⟩ :: rest) e h acc = zgd P n ops Q m i rest dst (.insert t m' k x) ((zaB ops j).bind fun t => zaF (e t) want) e h acc := zaU rfl
theorem zsS {t : TypeId} {m' k : Operand} {ok : Bool} : adr P n ops Q m i (⟨dst, .lookup t m' k ok, ty, pos, after, none⟩ :: rest) e h acc = zfj P n ops Q m i rest dst (((.lookup t m' k ok : Op).operands.toList.map (ev e)).flatMap AV.ids) (aev P (n + i) (.lookup t m' k ok) e h) e h acc := zaT rfl
theorem zp7 {t : TypeId} {m' k : Operand} {ok : Bool} : adr P n ops Q m i (⟨dst, .lookup t m' k ok, ty, pos, after, some (j, want)⟩ :: rest) e h acc = zgd P n ops Q m i rest dst (.lookup t m' k ok) ((zaB ops j).bind fun t => zaF (e t) want) e h acc := zaU rfl
theorem zmN {t : TypeId} {l c : Operand} : adr P n ops Q m i (⟨dst, .makeSlice t l c, ty, pos, after, none⟩ :: rest) e h acc = zfj P n ops Q m i rest dst (((.makeSlice t l c : Op).operands.toList.map (ev e)).flatMap AV.ids) (aev P (n + i) (.makeSlice t l c) e h) e h acc := zaT rfl
theorem zk3 {t : TypeId} {l c : Operand} : adr P n ops Q m i (⟨dst, .makeSlice t l c, ty, pos, after, some (j, want)⟩ :: rest) e h acc = zgd P n ops Q m i rest dst (.makeSlice t l c) ((zaB ops j).bind fun t => zaF (e t) want) e h acc := zaU rfl
theorem zu8 {t : TypeId} {x : Operand} {lo hi mx : Option Operand} : adr P n ops Q m i (⟨dst, .slice t x lo hi mx, ty, pos, after, none⟩ :: rest) e h acc = zfj P n ops Q m i rest dst (((.slice t x lo hi mx : Op).operands.toList.map (ev e)).flatMap AV.ids) (aev P (n + i) (.slice t x lo hi mx) e h) e h acc := zaT rfl
theorem zsN {t : TypeId} {x : Operand} {lo hi mx : Option Operand} : adr P n ops Q m i (⟨dst, .slice t x lo hi mx, ty, pos, after, some (j, want)⟩ :: rest) e h acc = zgd P n ops Q m i rest dst (.slice t x lo hi mx) ((zaB ops j).bind fun t => zaF (e t) want) e h acc := zaU rfl
theorem zhL {t : TypeId} {x : Operand} : adr P n ops Q m i (⟨dst, .makeInterface t x, ty, pos, after, none⟩ :: rest) e h acc = zfj P n ops Q m i rest dst (((.makeInterface t x : Op).operands.toList.map (ev e)).flatMap AV.ids) (aev P (n + i) (.makeInterface t x) e h) e h acc := zaT rfl
theorem zg0 {t : TypeId} {x : Operand} : adr P n ops Q m i (⟨dst, .makeInterface t x, ty, pos, after, some (j, want)⟩ :: rest) e h acc = zgd P n ops Q m i rest dst (.makeInterface t x) ((zaB ops j).bind fun t => zaF (e t) want) e h acc := zaU rfl
theorem zu7 {x : Operand} : adr P n ops Q m i (⟨dst, .panic x, ty, pos, after, none⟩ :: rest) e h acc = zfj P n ops Q m i rest dst (((.panic x : Op).operands.toList.map (ev e)).flatMap AV.ids) (aev P (n + i) (.panic x) e h) e h acc := zaT rfl
theorem zsM {x : Operand} : adr P n ops Q m i (⟨dst, .panic x, ty, pos, after, some (j, want)⟩ :: rest) e h acc = zgd P n ops Q m i rest dst (.panic x) ((zaB ops j).bind fun t => zaF (e t) want) e h acc := zaU rfl
theorem zp8 {b : Builtin} {args : Array Operand} {ats : Array TypeId} : adr P n ops Q m i (⟨dst, .call ⟨.builtin b, args, ats⟩, ty, pos, after, none⟩ :: rest) e h acc = zfj P n ops Q m i rest dst (((.call ⟨.builtin b, args, ats⟩ : Op).operands.toList.map (ev e)).flatMap AV.ids) (aev P (n + i) (.call ⟨.builtin b, args, ats⟩) e h) e h acc := zaT rfl
theorem znX {b : Builtin} {args : Array Operand} {ats : Array TypeId} : adr P n ops Q m i (⟨dst, .call ⟨.builtin b, args, ats⟩, ty, pos, after, some (j, want)⟩ :: rest) e h acc = zgd P n ops Q m i rest dst (.call ⟨.builtin b, args, ats⟩) ((zaB ops j).bind fun t => zaF (e t) want) e h acc := zaU rfl
theorem zn2 {f : Fn} {xs ys : Array Operand} : adr P n ops Q m i (⟨dst, .makeFunc f xs ys, ty, pos, after, none⟩ :: rest) e h acc = zfj P n ops Q m i rest dst (((.makeFunc f xs ys : Op).operands.toList.map (ev e)).flatMap AV.ids) (aev P (n + i) (.makeFunc f xs ys) e h) e h acc := zaT rfl
theorem zmJ {f : Fn} {xs ys : Array Operand} : adr P n ops Q m i (⟨dst, .makeFunc f xs ys, ty, pos, after, some (j, want)⟩ :: rest) e h acc = zgd P n ops Q m i rest dst (.makeFunc f xs ys) ((zaB ops j).bind fun t => zaF (e t) want) e h acc := zaU rfl
end drawEq
attribute [go_sem] zqb zn0 zmO zk4 zsR zp6 zsS zp7 zxW zuZ zsQ zp5 zxX zu0 zu2 zsH zz6 zxT zu4 zsJ zk5 zju zxV zuY zu9 zsO zu3 zsI zxY zu1 zn3 zmK zp9 znY zmL zk1 zu5 zsK zmM zk2 zu6 zsL zqa znZ zmN zk3 zu8 zsN zhL zg0 zu7 zsM zp8 znX zn2 zmJ
attribute [go_sem] zx4 zz7 zxU VC_adr dRes_0 zAs dRes_1 zAt zAo zAq zyj zAp zyi zvH AV.ids List.flatMap_cons List.flatMap_nil
section gcall
variable {P : Program} {Q : zbK} {e : Env} {h : zan} {n m i : Nat} {ops rest : List Oper} {acc : List zfe}
def aGC (P : Program) (ops : List Oper) (Q : zbK) (rest : List Oper) (dst : Option Tmp) (g : Bool) (fv : AV) (args : List AV) (e : Env) (h : zan) (n : Nat) : Prop :=
 (∃ x, (g = true → zgc P fv args h n fun r h' n' => r = x ∧ h' = h ∧ n' = n) ∧ za7 P ops Q rest (put e dst (.gd g x)) h n) ∨
 (g = true ∧ zgc P fv args h n fun r h' n' => za7 P ops Q rest (put e dst (.gd true r)) h' n') ∨
 (g = true ∧ ziX e fv args h n fun e' r h' => za7 P ops Q rest (put e' dst (.gd true r)) h' n)
def ziY (P : Program) (ops : List Oper) (Q : zbK) (rest : List Oper) (dst : Option Tmp) (f : Operand) (args : List Operand) (op : Op) (g : Option Bool) (e : Env) (h : zan) (n : Nat) : Prop :=
 match g with
 | none => False
 | some g => VQ (∀ t ∈ zcl op, okG g (e t)) (aGC P ops Q rest dst g (ev (fun t => unG (e t)) f) (args.map (ev fun t => unG (e t))) e h n)
theorem zsX {dst : Option Tmp} {f : Operand} {args : Array Operand} {ats : Array TypeId} {ty : TypeId} {pos : String} {after : Array Edge} {j : Nat} {want : Bool} :
  za7 P ops Q (⟨dst, .call ⟨.value f, args, ats⟩, ty, pos, after, some (j, want)⟩ :: rest) e h n = ziY P ops Q rest dst f args.toList (.call ⟨.value f, args, ats⟩) ((zaB ops j).bind fun t => zaF (e t) want) e h n := rfl
theorem zmH {dst : Option Tmp} {f : Operand} {args : List Operand} {op : Op} {g : Bool} : ziY P ops Q rest dst f args op (some g) e h n = VQ (∀ t ∈ zcl op, okG g (e t)) (aGC P ops Q rest dst g (ev (fun t => unG (e t)) f) (args.map (ev fun t => unG (e t))) e h n) := rfl
theorem zBF {dst : Option Tmp} {g : Bool} {f : FuncId} {first caps args : List AV} (args' : List AV) (r : AV) (hp : g = true → zaJ P f args' r) (hfl : zss r) (hle : zam h noH n (first ++ args ++ caps) args') (hb : ∀ c ∈ args', Bel 0 c)
  (hk : za7 P ops Q rest (put e dst (.gd g r)) h n) : aGC P ops Q rest dst g (.fn (.func f) first caps) args e h n :=
 .inl ⟨r, fun hg => zBu (hp hg) hfl hle hb ⟨rfl, rfl, rfl⟩, hk⟩
theorem zBw {dst : Option Tmp} {g : Bool} {f : FuncId} {first caps args : List AV} (r : AV) (hp : g = true → zaJ P f (first ++ args ++ caps) r) (hb : ∀ c ∈ first ++ args ++ caps, Bel 0 c)
  (hk : za7 P ops Q rest (put e dst (.gd g r)) h n) : aGC P ops Q rest dst g (.fn (.func f) first caps) args e h n :=
 .inl ⟨r, fun hg => zBi (hp hg) hb ⟨rfl, rfl, rfl⟩, hk⟩
theorem aGC.skip (x : AV) {dst : Option Tmp} {fv : AV} {args : List AV} (hk : za7 P ops Q rest (put e dst (.gd false x)) h n) : aGC P ops Q rest dst false fv args e h n := .inl ⟨x, (fun hg => nomatch hg), hk⟩
theorem zBK {dst : Option Tmp} {f : FuncId} {first caps args : List AV} (hk : zaa P f (first ++ args ++ caps) h n fun r h' n' => za7 P ops Q rest (put e dst (.gd true r)) h' n') : aGC P ops Q rest dst true (.fn (.func f) first caps) args e h n := .inr (.inl ⟨rfl, hk⟩)
def dGC (P : Program) (n : Nat) (ops : List Oper) (Q : zbK) (m : Nat) (i : Nat) (rest : List Oper) (dst : Option Tmp) (g : Bool) (fv : AV) (args : List AV) (e : Env) (h : zan) (acc : List zfe) : Prop :=
 ∃ r S wr, (g = true → zgh P (n + ops.length + 16 * i) fv args h r S wr) ∧ (g = false → wr = []) ∧ adr P n ops Q m (i + 1) rest (put e dst (.gd g r)) (zai wr h) (acc ++ [(S, wr.map (·.1))])
def zi4 (P : Program) (n : Nat) (ops : List Oper) (Q : zbK) (m : Nat) (i : Nat) (rest : List Oper) (dst : Option Tmp) (f : Operand) (args : List Operand) (op : Op) (g : Option Bool) (e : Env) (h : zan) (acc : List zfe) : Prop :=
 match g with
 | none => False
 | some g => VQ (∀ t ∈ zcl op, okG g (e t)) (dGC P n ops Q m i rest dst g (ev (fun t => unG (e t)) f) (args.map (ev fun t => unG (e t))) e h acc)
theorem zuX {dst : Option Tmp} {f : Operand} {args : Array Operand} {ats : Array TypeId} {ty : TypeId} {pos : String} {after : Array Edge} {j : Nat} {want : Bool} :
  adr P n ops Q m i (⟨dst, .call ⟨.value f, args, ats⟩, ty, pos, after, some (j, want)⟩ :: rest) e h acc = zi4 P n ops Q m i rest dst f args.toList (.call ⟨.value f, args, ats⟩) ((zaB ops j).bind fun t => zaF (e t) want) e h acc := rfl
theorem zm5 {dst : Option Tmp} {f : Operand} {args : List Operand} {op : Op} {g : Bool} : zi4 P n ops Q m i rest dst f args op (some g) e h acc = VQ (∀ t ∈ zcl op, okG g (e t)) (dGC P n ops Q m i rest dst g (ev (fun t => unG (e t)) f) (args.map (ev fun t => unG (e t))) e h acc) := rfl
theorem zBV {dst : Option Tmp} {g : Bool} {f : FuncId} {first caps args : List AV} (args' : List AV) (r : AV) (S : List Nat) (hp : g = true → zaJ P f args' r) (hfl : zss r) (hle : ∀ h₁ : zan, (∀ o ∈ S, h o = h₁ o) → zam h₁ noH 0 (first ++ args ++ caps) args')
  (hb : ∀ c ∈ args', Bel 0 c) (hk : adr P n ops Q m (i + 1) rest (put e dst (.gd g r)) h (acc ++ [(S, [])])) : dGC P n ops Q m i rest dst g (.fn (.func f) first caps) args e h acc :=
 ⟨r, S, [], fun hg => .inl ⟨rfl, f, first, caps, args', rfl, hb, hp hg, .inl ⟨hle, hfl⟩⟩, fun _ => rfl, hk⟩
theorem zBt {dst : Option Tmp} {g : Bool} {f : FuncId} {first caps args : List AV} (r : AV) (hp : g = true → zaJ P f (first ++ args ++ caps) r) (hb : ∀ c ∈ first ++ args ++ caps, Bel 0 c)
  (hk : adr P n ops Q m (i + 1) rest (put e dst (.gd g r)) h (acc ++ [([], [])])) : dGC P n ops Q m i rest dst g (.fn (.func f) first caps) args e h acc :=
 ⟨r, [], [], fun hg => .inl ⟨rfl, f, first, caps, _, rfl, hb, hp hg, .inr rfl⟩, fun _ => rfl, hk⟩
theorem dGC.skip (x : AV) {dst : Option Tmp} {fv : AV} {args : List AV} (hk : adr P n ops Q m (i + 1) rest (put e dst (.gd false x)) h (acc ++ [([], [])])) : dGC P n ops Q m i rest dst false fv args e h acc :=
 ⟨x, [], [], (fun hg => nomatch hg), fun _ => rfl, hk⟩
theorem dGC.frz {dst : Option Tmp} {f : FuncId} {first caps args : List AV} (args' : List AV) (r : AV) (S : List Nat) (wr : List (Nat × Option zbi)) (hp : zaJ P f args' r)
  (hw : ∀ p ∈ wr, p.1 ∈ S ∧ ∃ g sz rs, p.2 = some (.rows false g sz rs) ∧ h p.1 = some (.rows true g sz rs)) (hle : ∀ h₁ : zan, (∀ o ∈ S, h o = h₁ o) → zam h₁ (zai wr h₁) 0 (first ++ args ++ caps) args') (hb : ∀ c ∈ args', Bel 0 c)
  (hk : adr P n ops Q m (i + 1) rest (put e dst (.gd true r)) (zai wr h) (acc ++ [(S, wr.map (·.1))])) : dGC P n ops Q m i rest dst true (.fn (.func f) first caps) args e h acc :=
 ⟨r, S, wr, fun _ => .inr (.inl ⟨f, first, caps, args', rfl, hb, hp, hw, hle⟩), (fun h => nomatch h), hk⟩
@[congr] theorem aGC_congr {dst : Option Tmp} {g g' : Bool} {fv fv' : AV} {args args' : List AV} (hg : g = g') (h0 : fv = fv') (h1 : args = args') : aGC P ops Q rest dst g fv args e h n = aGC P ops Q rest dst g' fv' args' e h n := by subst h0 h1 hg; rfl
@[congr] theorem zxw {dst : Option Tmp} {f : Operand} {args : List Operand} {op : Op} {g g' : Option Bool} (h0 : g = g') : ziY P ops Q rest dst f args op g e h n = ziY P ops Q rest dst f args op g' e h n := by subst h0; rfl
@[congr] theorem dGC_congr {dst : Option Tmp} {g g' : Bool} {fv fv' : AV} {args args' : List AV} {i' : Nat} (hi : i = i') (hg : g = g') (h0 : fv = fv') (h1 : args = args') : dGC P n ops Q m i rest dst g fv args e h acc = dGC P n ops Q m i' rest dst g' fv' args' e h acc := by subst h0 h1 hg hi; rfl
@[congr] theorem zxx {dst : Option Tmp} {f : Operand} {args : List Operand} {op : Op} {g g' : Option Bool} {i' : Nat} (hi : i = i') (h0 : g = g') : zi4 P n ops Q m i rest dst f args op g e h acc = zi4 P n ops Q m i' rest dst f args op g' e h acc := by subst h0 hi; rfl
end gcall
attribute [go_sem] zsX zmH zuX zm5

theorem zmF {n : Nat} : ∀ {xs : List AV}, (∀ c ∈ xs, Bel 0 c) → ShL n xs xs
 | [], _ => .nil
 | x :: xs, h => .cons (.same (h x (by simp))) (zmF fun c hc => h c (by simp [hc]))
theorem Sh_agg {n : Nat} {xs ys : List AV} : Sh n (.agg xs) (.agg ys) = ShL n xs ys := propext ⟨fun h => by
 cases h with
 | same h => cases h with | agg h => exact zmF h
 | agg h => exact h, .agg⟩
theorem Sh_tup {n : Nat} {xs ys : List AV} : Sh n (.tup xs) (.tup ys) = ShL n xs ys := propext ⟨fun h => by
 cases h with
 | same h => cases h with | tup h => exact zmF h
 | tup h => exact h, .tup⟩
theorem Sh_fn {n : Nat} {f : Fn} {a b a' b' : List AV} (h : ShL n a a') (h' : ShL n b b') : Sh n (.fn f a b) (.fn f a' b') = True := eq_true (.fn h h')
theorem Sh_ref {n o g sz i off : Nat} : Sh n (.ref o g sz i off) (.ref (n + o) g sz i off) = True := eq_true .ref
theorem Sh_sl {n o g sz i len : Nat} : Sh n (.sl o g sz i len) (.sl (n + o) g sz i len) = True := eq_true .sl
theorem zzU {n g sz i off : Nat} : Sh n (.ref 0 g sz i off) (.ref n g sz i off) = True := eq_true (.ref (o := 0))
theorem Sh_sl0 {n g sz i len : Nat} : Sh n (.sl 0 g sz i len) (.sl n g sz i len) = True := eq_true (.sl (o := 0))
theorem Sh_v {n : Nat} {x : Value} : Sh n (.v x) (.v x) = True := eq_true (.same (.v x))
theorem Sh_lst {n sz : Nat} {rows : List (List AV)} (h : ∀ r ∈ rows, ∀ c ∈ r, Bel 0 c) : Sh n (.lst sz rows) (.lst sz rows) = True := eq_true (.same (.lst h))
theorem zzT {n : Nat} : ShL n [] [] = True := eq_true .nil
theorem zxL {n : Nat} {x y : AV} {xs ys : List AV} : ShL n (x :: xs) (y :: ys) = (Sh n x y ∧ ShL n xs ys) := propext ⟨fun h => by cases h with | cons a b => exact ⟨a, b⟩, fun h => .cons h.1 h.2⟩
theorem zuR {n : Nat} {rs : List (List AV)} (h : ∀ r ∈ rs, ∀ c ∈ r, Bel 0 c) : zrE n rs rs = True := eq_true (.same h)
theorem zxK {n : Nat} : zrE n [] [] = True := eq_true .nil
theorem zuQ {n : Nat} {x y : List AV} {xs ys : List (List AV)} (h : ShL n x y ∧ zrE n xs ys) : zrE n (x :: xs) (y :: ys) = True := eq_true (.cons h.1 h.2)
theorem zxM {n : Nat} {mt : Bool} {g sz : Nat} {rs rs' : List (List AV)} : ShO n (.rows mt g sz rs) (.rows mt g sz rs') = zrE n rs rs' := propext ⟨fun h => by cases h; assumption, .rows⟩
theorem zzS {n : Nat} : ShH n [] [] = True := eq_true .nil
theorem zrD {n o : Nat} {x y : zbi} {l l' : List (Nat × zbi)} : ShH n ((o, x) :: l) ((n + o, y) :: l') = (ShO n x y ∧ ShH n l l') :=
 propext ⟨fun h => by cases h with | cons a b => exact ⟨a, b⟩, fun h => .cons h.1 h.2⟩
theorem zuP {n : Nat} {x y : zbi} {l l' : List (Nat × zbi)} : ShH n ((0, x) :: l) ((n, y) :: l') = (ShO n x y ∧ ShH n l l') := zrD (o := 0)
attribute [go_sem] Sh_agg Sh_tup Sh_fn Sh_ref Sh_sl zzU Sh_sl0 Sh_v Sh_lst zzT zxL zuR zxK zuQ zxM zzS zrD zuP zdM
theorem zyG {h h' : zan} {n : Nat} {x : AV} : LeV h h' n x x := .refl x
attribute [go_sem] zyG
theorem zzM {n : Int} : InR .i64 n = (-9223372036854775808 ≤ n ∧ n ≤ 9223372036854775807) := by
 simp [InR, IntKind.min, IntKind.max, IntKind.signed, IntKind.bits]
theorem InR_u8 {n : Int} : InR .u8 n = (0 ≤ n ∧ n ≤ 255) := by
 simp [InR, IntKind.min, IntKind.max, IntKind.signed, IntKind.bits]
theorem zzO {n : Int} : InR .u64 n = (0 ≤ n ∧ n ≤ 18446744073709551615) := by
 simp [InR, IntKind.min, IntKind.max, IntKind.signed, IntKind.bits]
theorem zzN {n : Int} : InR .u32 n = (0 ≤ n ∧ n ≤ 4294967295) := by
 simp [InR, IntKind.min, IntKind.max, IntKind.signed, IntKind.bits]
attribute [go_sem] zzM InR_u8 zzO zzN
theorem oc_int {k : IntKind} {n : Int} : (Value.int k n).oneCell' = true := rfl
theorem zAL {b : Bool} : (Value.bool b).oneCell' = true := rfl
theorem zyR {a : Option Addr} {l c : Nat} : (Value.slice a l c).oneCell' = true := rfl
theorem ztY {a : Option Addr} : (Value.pointer a).oneCell' = true := rfl
attribute [go_sem] oc_int zAL zyR ztY
structure LS where
 E : List (Nat × AV)
 H : List (Nat × zbi)
 n : Nat
def zuD (n0 : Nat) (B : zbK → Env → zan → Nat → Prop) (Q : zbK) (s : LS) : Prop := zab n0 B Q (mkE s.E) (mkH s.H) s.n
theorem zBk {P : Program} {n0 : Nat} {b : Code} {Q : zbK} {α : Type} (S : α → LS) (I : Nat → α → Prop)
  (step : ∀ d a, I d a → (∀ d', d' < d → ∀ a', I d' a' → zuD n0 (awp P n0 b) Q (S a')) → awp P n0 b (zuA (zab n0 (awp P n0 b) Q) Q) (mkE (S a).E) (mkH (S a).H) (S a).n) :
  ∀ d a, I d a → zuD n0 (awp P n0 b) Q (S a) := by
 intro d
 induction d using Nat.strongRecOn with
 | ind d ih => intro a ha; exact zBn (step d a ha fun d' hd a' ha' => ih d' hd a' ha')
theorem zBh {P : Program} {n0 : Nat} {b : Code} {Q : zbK} {e : Env} {h : zan} {n : Nat} {s : LS} (hh : zuD n0 (awp P n0 b) Q s) (hk : Wk e h n s.E s.H s.n) (hn : n0 ≤ s.n) : zab n0 (awp P n0 b) Q e h n :=
 zab.forget s.E s.H s.n hk hn hh
theorem zaf {e : Env} {h : zan} {n : Nat} {E : List (Nat × AV)} {HH : List (Nat × zbi)} {n' : Nat} :
  Wk e h n E HH n' = ((∀ p ∈ E, LeV h (mkH HH) n (e p.1) p.2 ∧ Bel n' p.2) ∧ ∀ p ∈ HH, p.1 < n' ∧ LeO h (mkH HH) n p.1 (h p.1) p.2 ∧ zzH n' p.2) :=
 propext ⟨fun h => ⟨h.1, h.2⟩, fun h => ⟨h.1, h.2⟩⟩
theorem zyE {h h' : zan} {n o : Nat} {mt : Bool} {g sz : Nat} {rs : List (List AV)} : LeO h h' n o (some (.rows mt g sz rs)) (.rows mt g sz rs) = True := eq_true (.same (fun h => h) (.refl _))
theorem zAD {h h' : zan} {n o g sz : Nat} (hn : n ≤ o) : LeO h h' n o none (.rows true g sz []) = True := eq_true (.own hn)
theorem zwp {h h' : zan} {n : Nat} : zam h h' n [] [] = True := eq_true .nil
theorem ztO {h h' : zan} {n : Nat} {x y : AV} {xs ys : List AV} : zam h h' n (x :: xs) (y :: ys) = (LeV h h' n x y ∧ zam h h' n xs ys) :=
 propext ⟨fun h => by cases h with | cons a b => exact ⟨a, b⟩, fun h => .cons h.1 h.2⟩
theorem zAE {h h' : zan} {n sz c : Nat} {A : Option Addr} : LeV h h' n (.v (.slice A 0 c)) (.lst sz []) = True := eq_true (.nil sz)
theorem zAG {h h' : zan} {n : Nat} {x : AV} : LeV h h' n x .top = True := eq_true (.top x)
theorem zAF {h h' : zan} {n o g sz : Nat} (hn : n ≤ o) (ho : h' o = some (.rows true g sz [])) : LeV h h' n (.v (.slice none 0 0)) (.sl o g sz 0 0) = True := eq_true (.own hn ho)
theorem noH_eq (o : Nat) : noH o = none := rfl
theorem zaL {h h' : zan} {n o g sz i len : Nat} {mt : Bool} {rs rows : List (List AV)} (ho : h o = some (.rows mt g sz rs)) (hl : i + len ≤ rs.length) (ho' : ∀ g sz rs, h' o ≠ some (.rows true g sz rs)) (hr : (rs.drop i).take len = rows) :
  LeV h h' n (.sl o g sz i len) (.lst sz rows) := .frz ho hl ho' (hr ▸ .refl _)
theorem zBD {h h' : zan} {n : Nat} {xs ys : List AV} (e : xs = ys) : zam h h' n xs ys := e ▸ .refl _ _ _ _
theorem zyD {h h' : zan} {n o : Nat} {mt mt' : Bool} {g g' sz sz' : Nat} {rs rs' : List (List AV)} : LeO h h' n o (some (.rows mt g sz rs)) (.rows mt' g' sz' rs') = (g = g' ∧ sz = sz' ∧ (mt' = true → mt = true) ∧ zak h h' n rs rs') :=
 propext ⟨fun h => by cases h with | same hm hr => exact ⟨rfl, rfl, hm, hr⟩, fun ⟨h1, h2, h3, h4⟩ => by subst h1 h2; exact .same h3 h4⟩
theorem zqU {h h' : zan} {n : Nat} {rs : List (List AV)} : zak h h' n rs rs = True := eq_true (.refl _)
theorem zqT {h h' : zan} {n : Nat} {x y : List AV} {xs ys : List (List AV)} : zak h h' n (x :: xs) (y :: ys) = (zam h h' n x y ∧ zak h h' n xs ys) :=
 propext ⟨fun h => by cases h with
  | refl => exact ⟨.refl _ _ _ _, .refl _⟩
  | cons h t => exact ⟨h, t⟩, fun h => .cons h.1 h.2⟩
theorem zyF {h h' : zan} {n : Nat} {xs ys : List AV} : LeV h h' n (.agg xs) (.agg ys) = zam h h' n xs ys :=
 propext ⟨fun h => by cases h with
  | refl => exact .refl _ _ _ _
  | agg h => exact h, .agg⟩
theorem zyH {h h' : zan} {n : Nat} {xs ys : List AV} : LeV h h' n (.tup xs) (.tup ys) = zam h h' n xs ys :=
 propext ⟨fun h => by cases h with
  | refl => exact .refl _ _ _ _
  | tup h => exact h, .tup⟩
theorem NoFz_v {x : Value} : zfn (.v x) = True := eq_true (.v x)
theorem zxE {o g sz i off : Nat} : zfn (.ref o g sz i off) = True := eq_true (.ref ..)
theorem zzR {o g sz i len : Nat} : zfn (.sl o g sz i len) = True := eq_true (.sl ..)
theorem zxD {xs : List AV} : zfn (.agg xs) = ∀ x ∈ xs, zfn x := propext ⟨fun h => by cases h; assumption, .agg⟩
theorem zxF {xs : List AV} : zfn (.tup xs) = ∀ x ∈ xs, zfn x := propext ⟨fun h => by cases h; assumption, .tup⟩
theorem zzQ {f : Fn} {a b : List AV} : zfn (.fn f a b) = ((∀ x ∈ a, zfn x) ∧ ∀ x ∈ b, zfn x) := propext ⟨fun h => by cases h; exact ⟨by assumption, by assumption⟩, fun h => .fn h.1 h.2⟩
theorem zBx {P : Program} {f : FuncId} {args args' : List AV} {h : zan} {n : Nat} {K : zco} {R : Nat → AV} {HH : Nat → List (Nat × zbi)} {k : Nat} (hp : zlt P f args' R HH k)
  (hnR : zfn (R 0)) (hnH : ∀ p ∈ HH 0, znR p.2) (hle : zam h noH n args args') (hb : ∀ c ∈ args', Bel 0 c) (hk : K (R n) (zdM (HH n) h) (n + k)) : zaa P f args h n K :=
 zBM hp.1 (fun _ _ _ h => h) (hp.2 n).1 (hp.2 n).2 hnR hnH hle hb hk
attribute [go_sem] zyD zqU zqT zyF zyH NoFz_v zxE zzR zxD zxF zzQ znR zna
attribute [go_sem] noH_eq zAF zAD mkE mkH zzH zyE zwp ztO zAE zAG List.forall_mem_cons
theorem zBv {h h' : zan} {n : Nat} {x y : AV} (e : x = y) : LeV h h' n x y := e ▸ .refl x
theorem nadd (a b c : Nat) : a + b + c = a + (b + c) := Nat.add_assoc a b c
attribute [go_sem] nadd
class WS (G : Prop) (a X : outParam Prop) : Prop where out : a → (a → X) → G
instance {P : Program} {ops : List Oper} {Q : zbK} {rest : List Oper} {e : Env} {h : zan} {n : Nat} {a : Prop} : WS (VC a (zgF P ops Q rest e h n)) a (za7 P ops Q rest e h n) := ⟨fun h1 h2 => wL h2 h1⟩
instance {P : Program} {ops : List Oper} {Q : zbK} {rest : List Oper} {e : Env} {h : zan} {n m i : Nat} {a : Prop} {acc : List zfe} : WS (VC a (zn1 P n ops Q m i rest e h acc)) a (adr P n ops Q m i rest e h acc) := ⟨fun h1 h2 => wD h2 h1⟩
instance {P : Program} {ops : List Oper} {Q : zbK} {e : Env} {h : zan} {n : Nat} : WS (zsP P n ops Q e h) True (adr P n ops Q (n + ops.length) 0 ops e h []) := ⟨fun _ h2 => wZ (h2 trivial)⟩
def KR (p : Prop) : Prop := p
theorem kr {p : Prop} (h : p) : KR p := h
instance {ops : List Oper} {Q : zbK} {n : Nat} {e : Env} {h : zan} {recs : List zfe} : WS (zm4 Q ops n e h recs) (KR ((zkr ops recs && zwG recs) = true)) (Q .normal e h n) := ⟨fun h1 h2 => zm4.mk h1 (h2 h1)⟩
theorem wV {G a X : Prop} [i : WS G a X] (h2 : a → X) (h1 : a := by with_reducible first | omega | exact True.intro | rfl | (refine kr ?_; kernel_rfl) | (intros; omega)) : G := i.out h1 h2
theorem leX {p : Prop} (h : p := by ((try simp only [zaq, zaE, zbt, zcG, zaw, zbm, zaM, zar, zag, zdC, zbz, zaV, zaj, zad, List.map_cons, List.map_nil, List.nil_append, List.append_nil, List.cons_append]); (repeat (first | (with_reducible exact zam.nil) | (with_reducible exact zak.nil) | (with_reducible exact LeV.refl _) | (with_reducible exact zam.refl _ _ _ _) | (with_reducible exact zak.refl _) | (with_reducible refine zam.cons ?_ ?_) | (with_reducible refine zak.cons ?_ ?_) | (with_reducible refine LeV.agg ?_) | (with_reducible refine LeV.tup ?_) | (with_reducible refine LeV.fn ?_ ?_) | (with_reducible exact LeV.nil _) | (with_reducible refine zao (zak.refl _) ?_) | ((refine zaL rfl (by simp) (by simp [zbB, zb5, upd, noH]) ?_); (first | (simp [go_sem]; done) | (simp [go_sem]; exact List.take_of_length_le (by simp)))) | ((refine LeV.frz rfl (by simp) (by simp [zbB, zb5, upd, noH]) ?_); (simp only [List.drop_zero, List.take_succ_cons, List.take_zero, List.map_cons, List.map_nil])) | ((refine LeV.frzP rfl (by simp) (by simp) (by simp [zbB, zb5, upd, noH]) ?_); (simp only [zbe, List.drop_zero])))))) : p := h
theorem blX {p : Prop} (h : p := by (intro r hr c hc; (first | (rcases hr with ⟨_, _, rfl⟩ | rfl) | (rcases hr with rfl | ⟨_, _, rfl⟩) | (rcases hr with rfl | rfl) | ((rcases List.mem_or_eq_of_mem_set hr with hr | rfl) <;> first | (obtain ⟨_, _, rfl⟩ := List.mem_map.1 hr; simp only [zbd] at hc) | skip) | (rcases hr with ⟨_, rfl⟩ | ⟨_, rfl⟩) | (rcases hr with ⟨_, _, rfl⟩ | ⟨_, rfl⟩) | (rcases hr with ⟨_, rfl⟩ | ⟨_, _, rfl⟩) | (rcases hr with ⟨_, _, rfl⟩ | ⟨_, _, rfl⟩) | (obtain ⟨_, rfl⟩ := hr) | (obtain ⟨_, _, rfl⟩ := hr)) <;> simp at hc <;> (try subst hc) <;> first | exact .v _ | (rcases hc with rfl | rfl <;> exact .v _))) : p := h
theorem dpX {p : Prop} (h : p := by ((refine LeV.frz rfl (by simp) (by simp [noH, upd]) ?_); (try simp only [List.drop_zero, List.take_succ_cons, List.take_zero, List.map_cons, List.map_nil]); (repeat (first | (with_reducible exact zak.nil) | (with_reducible refine zak.cons ?_ ?_) | (with_reducible exact zam.nil) | (with_reducible refine zam.cons ?_ ?_) | (with_reducible exact LeV.refl _) | (refine zaL rfl (by simp) (by simp [noH, upd]) ?_; first | (simp [go_sem]; done) | (simp [go_sem]; exact List.take_of_length_le (by simp))))))) : p := h
theorem agX {p : Prop} (h : p := by ((try simp only [zaM, zar, zag, zdC, zbz, zaV, zaj, List.nil_append, List.append_nil, List.cons_append]); (repeat (first | (with_reducible exact zam.nil) | (with_reducible refine zam.cons ?_ ?_) | (with_reducible exact LeV.refl _) | (with_reducible refine LeV.agg ?_) | ((refine zaL rfl (by simp) (by simp [zbB, zb5, upd, noH]) ?_); (first | (simp [go_sem]; done) | (simp [go_sem]; exact List.take_of_length_le (by simp)))))))) : p := h
theorem rwX {p : Prop} (h : p := by ((refine zao (.refl _) ?_); (repeat (first | (with_reducible exact zak.nil) | (with_reducible refine zak.cons ?_ ?_) | (with_reducible exact zam.nil) | (with_reducible refine zam.cons ?_ ?_) | (with_reducible exact LeV.refl _) | (refine zaL rfl (by simp) (by simp [noH, upd]) ?_; first | (simp [go_sem]; done) | (simp [go_sem]; exact List.take_of_length_le (by simp))))))) : p := h
theorem frX {p : Prop} (h : p := by (refine zaL rfl (by simp) (by simp [noH, upd]) ?_; first | (simp [go_sem]; done) | (simp [go_sem]; exact List.take_of_length_le (by simp)))) : p := h
end Go.Av
end
section
namespace Go.Av
open Go Go.Proofs Go.Proofs.Tryz
@[go_sem] theorem t_0 : tk prog 0 = .other ∧ tsz prog 0 = some 1 ∧ tby prog 0 = some 0 ∧ za5 prog 0 = some false := by and_intros <;> kernel_rfl
@[go_sem] theorem t_1 : tk prog 1 = .other ∧ tsz prog 1 = some 1 ∧ tby prog 1 = some 8 ∧ tz prog 1 = some [(.v .nilFunc)] ∧ za5 prog 1 = some false := by and_intros <;> kernel_rfl
@[go_sem] theorem t_2 : tk prog 2 = .int .i64 ∧ tsz prog 2 = some 1 ∧ tby prog 2 = some 8 ∧ tz prog 2 = some [(.v (.int .i64 0))] ∧ za5 prog 2 = some false ∧ tz1 prog 2 = some (.int .i64 0) := by and_intros <;> kernel_rfl
@[go_sem] theorem t_3 : tk prog 3 = .int .i64 ∧ tsz prog 3 = some 1 ∧ tby prog 3 = some 8 ∧ tz prog 3 = some [(.v (.int .i64 0))] ∧ za5 prog 3 = some false ∧ tz1 prog 3 = some (.int .i64 0) := by and_intros <;> kernel_rfl
@[go_sem] theorem t_4 : tk prog 4 = .bool ∧ tsz prog 4 = some 1 ∧ tby prog 4 = some 1 ∧ tz prog 4 = some [(.v (.bool false))] ∧ za5 prog 4 = some false ∧ tz1 prog 4 = some (.bool false) := by and_intros <;> kernel_rfl
@[go_sem] theorem t_5 : tk prog 5 = .int .u8 ∧ tsz prog 5 = some 1 ∧ tby prog 5 = some 1 ∧ tz prog 5 = some [(.v (.int .u8 0))] ∧ za5 prog 5 = some false ∧ tz1 prog 5 = some (.int .u8 0) := by and_intros <;> kernel_rfl
@[go_sem] theorem t_6 : tk prog 6 = .int .u8 ∧ tsz prog 6 = some 1 ∧ tby prog 6 = some 1 ∧ tz prog 6 = some [(.v (.int .u8 0))] ∧ za5 prog 6 = some false ∧ tz1 prog 6 = some (.int .u8 0) := by and_intros <;> kernel_rfl
@[go_sem] theorem t_7 : tk prog 7 = .str ∧ tsz prog 7 = some 4 ∧ tby prog 7 = some 24 ∧ tz prog 7 = some [(.v (.int .i64 0)), (.v (.int .i64 0)), (.v (.bool false)), (.v (.int .u8 0))] ∧ za5 prog 7 = some true ∧ tfi prog 7 = true ∧ zru prog 7 = some [false, false, true, false] ∧ zcn prog 7 0 = some 2 ∧ zch prog 7 0 = some 0 ∧ zcn prog 7 1 = some 3 ∧ zch prog 7 1 = some 1 ∧ zcn prog 7 2 = some 4 ∧ zch prog 7 2 = some 2 ∧ zcn prog 7 3 = some 6 ∧ zch prog 7 3 = some 3 := by and_intros <;> kernel_rfl
@[go_sem] theorem t_8 : tk prog 8 = .str ∧ tsz prog 8 = some 4 ∧ tby prog 8 = some 24 ∧ tz prog 8 = some [(.v (.int .i64 0)), (.v (.int .i64 0)), (.v (.bool false)), (.v (.int .u8 0))] ∧ za5 prog 8 = some true ∧ tfi prog 8 = true ∧ zru prog 8 = some [false, false, true, false] ∧ zcn prog 8 0 = some 2 ∧ zch prog 8 0 = some 0 ∧ zcn prog 8 1 = some 3 ∧ zch prog 8 1 = some 1 ∧ zcn prog 8 2 = some 4 ∧ zch prog 8 2 = some 2 ∧ zcn prog 8 3 = some 6 ∧ zch prog 8 3 = some 3 := by and_intros <;> kernel_rfl
@[go_sem] theorem t_9 : tk prog 9 = .string ∧ tsz prog 9 = some 1 ∧ tby prog 9 = some 16 ∧ tz prog 9 = some [(.v (.string ⟨⟨[]⟩⟩))] ∧ za5 prog 9 = some false ∧ tz1 prog 9 = some (.string ⟨⟨[]⟩⟩) := by and_intros <;> kernel_rfl
@[go_sem] theorem t_10 : tk prog 10 = .string ∧ tsz prog 10 = some 1 ∧ tby prog 10 = some 16 ∧ tz prog 10 = some [(.v (.string ⟨⟨[]⟩⟩))] ∧ za5 prog 10 = some false ∧ tz1 prog 10 = some (.string ⟨⟨[]⟩⟩) := by and_intros <;> kernel_rfl
@[go_sem] theorem t_11 : tk prog 11 = .string ∧ tsz prog 11 = some 1 ∧ tby prog 11 = some 16 ∧ tz prog 11 = some [(.v (.string ⟨⟨[]⟩⟩))] ∧ za5 prog 11 = some false ∧ tz1 prog 11 = some (.string ⟨⟨[]⟩⟩) := by and_intros <;> kernel_rfl
@[go_sem] theorem t_12 : tk prog 12 = .int .u64 ∧ tsz prog 12 = some 1 ∧ tby prog 12 = some 8 ∧ tz prog 12 = some [(.v (.int .u64 0))] ∧ za5 prog 12 = some false ∧ tz1 prog 12 = some (.int .u64 0) := by and_intros <;> kernel_rfl
@[go_sem] theorem t_20 : tk prog 20 = .other ∧ tsz prog 20 = some 1 ∧ tby prog 20 = some 16 ∧ tz prog 20 = some [(.v .nilIface)] ∧ za5 prog 20 = some false := by and_intros <;> kernel_rfl
@[go_sem] theorem t_21 : tk prog 21 = .int .i32 ∧ tsz prog 21 = some 1 ∧ tby prog 21 = some 4 ∧ tz prog 21 = some [(.v (.int .i32 0))] ∧ za5 prog 21 = some false ∧ tz1 prog 21 = some (.int .i32 0) := by and_intros <;> kernel_rfl
@[go_sem] theorem t_22 : tk prog 22 = .sl 5 ∧ tsz prog 22 = some 1 ∧ tby prog 22 = some 24 ∧ tz prog 22 = some [(.v (.slice .none 0 0))] ∧ za5 prog 22 = some false := by and_intros <;> kernel_rfl
@[go_sem] theorem t_23 : tk prog 23 = .arr 2 22 ∧ tsz prog 23 = some 2 ∧ tby prog 23 = some 48 ∧ tz prog 23 = some [(.v (.slice .none 0 0)), (.v (.slice .none 0 0))] ∧ za5 prog 23 = some true := by and_intros <;> kernel_rfl
@[go_sem] theorem t_24 : tk prog 24 = .sl 80 ∧ tsz prog 24 = some 1 ∧ tby prog 24 = some 24 ∧ tz prog 24 = some [(.v (.slice .none 0 0))] ∧ za5 prog 24 = some false := by and_intros <;> kernel_rfl
@[go_sem] theorem t_25 : tk prog 25 = .arr 6 5 ∧ tsz prog 25 = some 6 ∧ tby prog 25 = some 6 ∧ tz prog 25 = some [(.v (.int .u8 0)), (.v (.int .u8 0)), (.v (.int .u8 0)), (.v (.int .u8 0)), (.v (.int .u8 0)), (.v (.int .u8 0))] ∧ za5 prog 25 = some true := by and_intros <;> kernel_rfl
@[go_sem] theorem t_27 : tk prog 27 = .str ∧ tsz prog 27 = some 12 ∧ tby prog 27 = some 88 ∧ tz prog 27 = some [(.v (.int .u8 0)), (.v (.int .u8 0)), (.v (.int .u8 0)), (.v (.slice .none 0 0)), (.v (.slice .none 0 0)), (.v (.slice .none 0 0)), (.v (.int .u8 0)), (.v (.int .u8 0)), (.v (.int .u8 0)), (.v (.int .u8 0)), (.v (.int .u8 0)), (.v (.int .u8 0))] ∧ za5 prog 27 = some true ∧ tfi prog 27 = true ∧ zcn prog 27 0 = some 5 ∧ zch prog 27 0 = some 0 ∧ zcn prog 27 1 = some 5 ∧ zch prog 27 1 = some 1 ∧ zcn prog 27 2 = some 5 ∧ zch prog 27 2 = some 2 ∧ zcn prog 27 3 = some 23 ∧ zch prog 27 3 = some 3 ∧ zcn prog 27 4 = some 24 ∧ zch prog 27 4 = some 5 ∧ zcn prog 27 5 = some 25 ∧ zch prog 27 5 = some 6 := by and_intros <;> kernel_rfl
@[go_sem] theorem t_28 : tk prog 28 = .arr 4 5 ∧ tsz prog 28 = some 4 ∧ tby prog 28 = some 4 ∧ tz prog 28 = some [(.v (.int .u8 0)), (.v (.int .u8 0)), (.v (.int .u8 0)), (.v (.int .u8 0))] ∧ za5 prog 28 = some true := by and_intros <;> kernel_rfl
@[go_sem] theorem t_30 : tk prog 30 = .str ∧ tsz prog 30 = some 18 ∧ tby prog 30 = some 18 ∧ tz prog 30 = some [(.v (.int .u8 0)), (.v (.int .u8 0)), (.v (.int .u8 0)), (.v (.int .u8 0)), (.v (.int .u8 0)), (.v (.int .u8 0)), (.v (.int .u8 0)), (.v (.int .u8 0)), (.v (.int .u8 0)), (.v (.int .u8 0)), (.v (.int .u8 0)), (.v (.int .u8 0)), (.v (.int .u8 0)), (.v (.int .u8 0)), (.v (.int .u8 0)), (.v (.int .u8 0)), (.v (.int .u8 0)), (.v (.int .u8 0))] ∧ za5 prog 30 = some true ∧ tfi prog 30 = true ∧ zcn prog 30 0 = some 25 ∧ zch prog 30 0 = some 0 ∧ zcn prog 30 1 = some 25 ∧ zch prog 30 1 = some 6 ∧ zcn prog 30 2 = some 28 ∧ zch prog 30 2 = some 12 ∧ zcn prog 30 3 = some 5 ∧ zch prog 30 3 = some 16 ∧ zcn prog 30 4 = some 5 ∧ zch prog 30 4 = some 17 := by and_intros <;> kernel_rfl
@[go_sem] theorem t_32 : tk prog 32 = .sl 33 ∧ tsz prog 32 = some 1 ∧ tby prog 32 = some 24 ∧ tz prog 32 = some [(.v (.slice .none 0 0))] ∧ za5 prog 32 = some false := by and_intros <;> kernel_rfl
@[go_sem] theorem t_33 : tk prog 33 = .sl 3 ∧ tsz prog 33 = some 1 ∧ tby prog 33 = some 24 ∧ tz prog 33 = some [(.v (.slice .none 0 0))] ∧ za5 prog 33 = some false := by and_intros <;> kernel_rfl
@[go_sem] theorem t_35 : tk prog 35 = .str ∧ tsz prog 35 = some 3 ∧ tby prog 35 = some 56 ∧ tz prog 35 = some [(.v (.int .i64 0)), (.v (.slice .none 0 0)), (.v (.slice .none 0 0))] ∧ za5 prog 35 = some true ∧ tfi prog 35 = true ∧ zcn prog 35 0 = some 3 ∧ zch prog 35 0 = some 0 ∧ zcn prog 35 1 = some 32 ∧ zch prog 35 1 = some 1 ∧ zcn prog 35 2 = some 33 ∧ zch prog 35 2 = some 2 := by and_intros <;> kernel_rfl
@[go_sem] theorem t_36 : tk prog 36 = .sl 122 ∧ tsz prog 36 = some 1 ∧ tby prog 36 = some 24 ∧ tz prog 36 = some [(.v (.slice .none 0 0))] ∧ za5 prog 36 = some false := by and_intros <;> kernel_rfl
@[go_sem] theorem t_37 : tk prog 37 = .sl 75 ∧ tsz prog 37 = some 1 ∧ tby prog 37 = some 24 ∧ tz prog 37 = some [(.v (.slice .none 0 0))] ∧ za5 prog 37 = some false := by and_intros <;> kernel_rfl
@[go_sem] theorem t_39 : tk prog 39 = .str ∧ tsz prog 39 = some 9 ∧ tby prog 39 = some 136 ∧ tz prog 39 = some [(.v (.int .i64 0)), (.v (.slice .none 0 0)), (.v (.slice .none 0 0)), (.v (.slice .none 0 0)), (.v (.int .i64 0)), (.v (.bool false)), (.v (.slice .none 0 0)), (.v (.int .i64 0)), (.v (.int .i64 0))] ∧ za5 prog 39 = some true ∧ tfi prog 39 = true ∧ zcn prog 39 0 = some 35 ∧ zch prog 39 0 = some 0 ∧ zcn prog 39 1 = some 36 ∧ zch prog 39 1 = some 3 ∧ zcn prog 39 2 = some 3 ∧ zch prog 39 2 = some 4 ∧ zcn prog 39 3 = some 4 ∧ zch prog 39 3 = some 5 ∧ zcn prog 39 4 = some 37 ∧ zch prog 39 4 = some 6 ∧ zcn prog 39 5 = some 3 ∧ zch prog 39 5 = some 7 ∧ zcn prog 39 6 = some 3 ∧ zch prog 39 6 = some 8 := by and_intros <;> kernel_rfl
@[go_sem] theorem t_43 : tk prog 43 = .arr 2 33 ∧ tsz prog 43 = some 2 ∧ tby prog 43 = some 48 ∧ tz prog 43 = some [(.v (.slice .none 0 0)), (.v (.slice .none 0 0))] ∧ za5 prog 43 = some true := by and_intros <;> kernel_rfl
@[go_sem] theorem t_45 : tk prog 45 = .str ∧ tsz prog 45 = some 5 ∧ tby prog 45 = some 88 ∧ tz prog 45 = some [(.v (.slice .none 0 0)), (.v (.slice .none 0 0)), (.v (.slice .none 0 0)), (.v (.int .i64 0)), (.v (.int .i64 0))] ∧ za5 prog 45 = some true ∧ tfi prog 45 = true ∧ zcn prog 45 0 = some 33 ∧ zch prog 45 0 = some 0 ∧ zcn prog 45 1 = some 43 ∧ zch prog 45 1 = some 1 ∧ zcn prog 45 2 = some 3 ∧ zch prog 45 2 = some 3 ∧ zcn prog 45 3 = some 3 ∧ zch prog 45 3 = some 4 := by and_intros <;> kernel_rfl
@[go_sem] theorem t_47 : tk prog 47 = .sl 45 ∧ tsz prog 47 = some 1 ∧ tby prog 47 = some 24 ∧ tz prog 47 = some [(.v (.slice .none 0 0))] ∧ za5 prog 47 = some false := by and_intros <;> kernel_rfl
@[go_sem] theorem t_48 : tk prog 48 = .int .i64 ∧ tsz prog 48 = some 1 ∧ tby prog 48 = some 8 ∧ tz prog 48 = some [(.v (.int .i64 0))] ∧ za5 prog 48 = some false ∧ tz1 prog 48 = some (.int .i64 0) := by and_intros <;> kernel_rfl
@[go_sem] theorem t_49 : tk prog 49 = .other ∧ tsz prog 49 = some 1 ∧ tby prog 49 = some 0 ∧ za5 prog 49 = some false := by and_intros <;> kernel_rfl
@[go_sem] theorem t_53 : tk prog 53 = .other ∧ tsz prog 53 = some 1 ∧ tby prog 53 = some 0 ∧ za5 prog 53 = some false := by and_intros <;> kernel_rfl
@[go_sem] theorem t_58 : tk prog 58 = .arr 2 30 ∧ tsz prog 58 = some 36 ∧ tby prog 58 = some 36 ∧ tz prog 58 = some [(.v (.int .u8 0)), (.v (.int .u8 0)), (.v (.int .u8 0)), (.v (.int .u8 0)), (.v (.int .u8 0)), (.v (.int .u8 0)), (.v (.int .u8 0)), (.v (.int .u8 0)), (.v (.int .u8 0)), (.v (.int .u8 0)), (.v (.int .u8 0)), (.v (.int .u8 0)), (.v (.int .u8 0)), (.v (.int .u8 0)), (.v (.int .u8 0)), (.v (.int .u8 0)), (.v (.int .u8 0)), (.v (.int .u8 0)), (.v (.int .u8 0)), (.v (.int .u8 0)), (.v (.int .u8 0)), (.v (.int .u8 0)), (.v (.int .u8 0)), (.v (.int .u8 0)), (.v (.int .u8 0)), (.v (.int .u8 0)), (.v (.int .u8 0)), (.v (.int .u8 0)), (.v (.int .u8 0)), (.v (.int .u8 0)), (.v (.int .u8 0)), (.v (.int .u8 0)), (.v (.int .u8 0)), (.v (.int .u8 0)), (.v (.int .u8 0)), (.v (.int .u8 0))] ∧ za5 prog 58 = some true := by and_intros <;> kernel_rfl
@[go_sem] theorem t_62 : tk prog 62 = .other ∧ tsz prog 62 = some 1 ∧ tby prog 62 = some 0 ∧ za5 prog 62 = some false := by and_intros <;> kernel_rfl
@[go_sem] theorem t_64 : tk prog 64 = .str ∧ tsz prog 64 = some 31 ∧ tby prog 64 = some 136 ∧ tz prog 64 = some [(.v (.int .u8 0)), (.v (.int .u8 0)), (.v (.int .u8 0)), (.v (.slice .none 0 0)), (.v (.slice .none 0 0)), (.v (.slice .none 0 0)), (.v (.int .u8 0)), (.v (.int .u8 0)), (.v (.int .u8 0)), (.v (.int .u8 0)), (.v (.int .u8 0)), (.v (.int .u8 0)), (.v (.int .u8 0)), (.v (.int .u8 0)), (.v (.int .u8 0)), (.v (.int .u8 0)), (.v (.int .u8 0)), (.v (.int .u8 0)), (.v (.int .u8 0)), (.v (.int .u8 0)), (.v (.int .u8 0)), (.v (.int .u8 0)), (.v (.int .u8 0)), (.v (.int .u8 0)), (.v (.int .u8 0)), (.v (.int .u8 0)), (.v (.int .u8 0)), (.v (.int .u8 0)), (.v (.int .u8 0)), (.v (.int .u8 0)), (.v (.slice .none 0 0))] ∧ za5 prog 64 = some true ∧ tfi prog 64 = true ∧ zcn prog 64 0 = some 27 ∧ zch prog 64 0 = some 0 ∧ zcn prog 64 1 = some 30 ∧ zch prog 64 1 = some 12 ∧ zcn prog 64 2 = some 22 ∧ zch prog 64 2 = some 30 := by and_intros <;> kernel_rfl
@[go_sem] theorem t_75 : tk prog 75 = .str ∧ tsz prog 75 = some 4 ∧ tby prog 75 = some 32 ∧ tz prog 75 = some [(.v (.int .i64 0)), (.v (.int .i64 0)), (.v (.int .i64 0)), (.v (.int .i64 0))] ∧ za5 prog 75 = some true ∧ tfi prog 75 = true ∧ zru prog 75 = some [false, false, false, false] ∧ zcn prog 75 0 = some 3 ∧ zch prog 75 0 = some 0 ∧ zcn prog 75 1 = some 3 ∧ zch prog 75 1 = some 1 ∧ zcn prog 75 2 = some 3 ∧ zch prog 75 2 = some 2 ∧ zcn prog 75 3 = some 3 ∧ zch prog 75 3 = some 3 := by and_intros <;> kernel_rfl
@[go_sem] theorem t_78 : tk prog 78 = .other ∧ tsz prog 78 = some 1 ∧ tby prog 78 = some 8 ∧ tz prog 78 = some [(.v .nilFunc)] ∧ za5 prog 78 = some false := by and_intros <;> kernel_rfl
@[go_sem] theorem t_80 : tk prog 80 = .arr 3 5 ∧ tsz prog 80 = some 3 ∧ tby prog 80 = some 3 ∧ tz prog 80 = some [(.v (.int .u8 0)), (.v (.int .u8 0)), (.v (.int .u8 0))] ∧ za5 prog 80 = some true := by and_intros <;> kernel_rfl
@[go_sem] theorem t_102 : tk prog 102 = .sl 138 ∧ tsz prog 102 = some 1 ∧ tby prog 102 = some 24 ∧ tz prog 102 = some [(.v (.slice .none 0 0))] ∧ za5 prog 102 = some false := by and_intros <;> kernel_rfl
@[go_sem] theorem t_103 : tk prog 103 = .arr 2 102 ∧ tsz prog 103 = some 2 ∧ tby prog 103 = some 48 ∧ tz prog 103 = some [(.v (.slice .none 0 0)), (.v (.slice .none 0 0))] ∧ za5 prog 103 = some true := by and_intros <;> kernel_rfl
@[go_sem] theorem t_105 : tk prog 105 = .str ∧ tsz prog 105 = some 2 ∧ tby prog 105 = some 48 ∧ tz prog 105 = some [(.v (.slice .none 0 0)), (.v (.slice .none 0 0))] ∧ za5 prog 105 = some true ∧ tfi prog 105 = true ∧ zcn prog 105 0 = some 103 ∧ zch prog 105 0 = some 0 := by and_intros <;> kernel_rfl
@[go_sem] theorem t_117 : tk prog 117 = .str ∧ tsz prog 117 = some 2 ∧ tby prog 117 = some 16 ∧ tz prog 117 = some [(.v (.int .i64 0)), (.v (.int .i64 0))] ∧ za5 prog 117 = some true ∧ tfi prog 117 = true ∧ zru prog 117 = some [false, false] ∧ zcn prog 117 0 = some 3 ∧ zch prog 117 0 = some 0 ∧ zcn prog 117 1 = some 3 ∧ zch prog 117 1 = some 1 := by and_intros <;> kernel_rfl
@[go_sem] theorem t_119 : tk prog 119 = .sl 117 ∧ tsz prog 119 = some 1 ∧ tby prog 119 = some 24 ∧ tz prog 119 = some [(.v (.slice .none 0 0))] ∧ za5 prog 119 = some false := by and_intros <;> kernel_rfl
@[go_sem] theorem t_120 : tk prog 120 = .sl 119 ∧ tsz prog 120 = some 1 ∧ tby prog 120 = some 24 ∧ tz prog 120 = some [(.v (.slice .none 0 0))] ∧ za5 prog 120 = some false := by and_intros <;> kernel_rfl
@[go_sem] theorem t_122 : tk prog 122 = .str ∧ tsz prog 122 = some 3 ∧ tby prog 122 = some 48 ∧ tz prog 122 = some [(.v (.string ⟨⟨[]⟩⟩)), (.v (.slice .none 0 0)), (.v (.bool false))] ∧ za5 prog 122 = some true ∧ tfi prog 122 = true ∧ zcn prog 122 0 = some 9 ∧ zch prog 122 0 = some 0 ∧ zcn prog 122 1 = some 120 ∧ zch prog 122 1 = some 1 ∧ zcn prog 122 2 = some 4 ∧ zch prog 122 2 = some 2 := by and_intros <;> kernel_rfl
@[go_sem] theorem t_123 : tk prog 123 = .other ∧ tsz prog 123 = some 1 ∧ tby prog 123 = some 8 ∧ tz prog 123 = some [(.v .nilFunc)] ∧ za5 prog 123 = some false := by and_intros <;> kernel_rfl
@[go_sem] theorem t_127 : tk prog 127 = .sl 9 ∧ tsz prog 127 = some 1 ∧ tby prog 127 = some 24 ∧ tz prog 127 = some [(.v (.slice .none 0 0))] ∧ za5 prog 127 = some false := by and_intros <;> kernel_rfl
@[go_sem] theorem t_131 : tk prog 131 = .other ∧ tsz prog 131 = some 1 ∧ tby prog 131 = some 8 ∧ tz prog 131 = some [(.v .nilFunc)] ∧ za5 prog 131 = some false := by and_intros <;> kernel_rfl
@[go_sem] theorem t_132 : tk prog 132 = .other ∧ tsz prog 132 = some 1 ∧ tby prog 132 = some 8 ∧ tz prog 132 = some [(.v .nilFunc)] ∧ za5 prog 132 = some false := by and_intros <;> kernel_rfl
@[go_sem] theorem t_135 : tk prog 135 = .str ∧ tsz prog 135 = some 6 ∧ tby prog 135 = some 96 ∧ tz prog 135 = some [(.v (.slice .none 0 0)), (.v (.slice .none 0 0)), (.v (.slice .none 0 0)), (.v (.int .i64 0)), (.v (.int .i64 0)), (.v (.bool false))] ∧ za5 prog 135 = some true ∧ tfi prog 135 = true ∧ zcn prog 135 0 = some 45 ∧ zch prog 135 0 = some 0 ∧ zcn prog 135 1 = some 4 ∧ zch prog 135 1 = some 5 := by and_intros <;> kernel_rfl
@[go_sem] theorem t_137 : tk prog 137 = .arr 64 3 ∧ tsz prog 137 = some 64 ∧ tby prog 137 = some 512 ∧ tz prog 137 = some [(.v (.int .i64 0)), (.v (.int .i64 0)), (.v (.int .i64 0)), (.v (.int .i64 0)), (.v (.int .i64 0)), (.v (.int .i64 0)), (.v (.int .i64 0)), (.v (.int .i64 0)), (.v (.int .i64 0)), (.v (.int .i64 0)), (.v (.int .i64 0)), (.v (.int .i64 0)), (.v (.int .i64 0)), (.v (.int .i64 0)), (.v (.int .i64 0)), (.v (.int .i64 0)), (.v (.int .i64 0)), (.v (.int .i64 0)), (.v (.int .i64 0)), (.v (.int .i64 0)), (.v (.int .i64 0)), (.v (.int .i64 0)), (.v (.int .i64 0)), (.v (.int .i64 0)), (.v (.int .i64 0)), (.v (.int .i64 0)), (.v (.int .i64 0)), (.v (.int .i64 0)), (.v (.int .i64 0)), (.v (.int .i64 0)), (.v (.int .i64 0)), (.v (.int .i64 0)), (.v (.int .i64 0)), (.v (.int .i64 0)), (.v (.int .i64 0)), (.v (.int .i64 0)), (.v (.int .i64 0)), (.v (.int .i64 0)), (.v (.int .i64 0)), (.v (.int .i64 0)), (.v (.int .i64 0)), (.v (.int .i64 0)), (.v (.int .i64 0)), (.v (.int .i64 0)), (.v (.int .i64 0)), (.v (.int .i64 0)), (.v (.int .i64 0)), (.v (.int .i64 0)), (.v (.int .i64 0)), (.v (.int .i64 0)), (.v (.int .i64 0)), (.v (.int .i64 0)), (.v (.int .i64 0)), (.v (.int .i64 0)), (.v (.int .i64 0)), (.v (.int .i64 0)), (.v (.int .i64 0)), (.v (.int .i64 0)), (.v (.int .i64 0)), (.v (.int .i64 0)), (.v (.int .i64 0)), (.v (.int .i64 0)), (.v (.int .i64 0)), (.v (.int .i64 0))] ∧ za5 prog 137 = some true := by and_intros <;> kernel_rfl
@[go_sem] theorem t_138 : tk prog 138 = .sl 139 ∧ tsz prog 138 = some 1 ∧ tby prog 138 = some 24 ∧ tz prog 138 = some [(.v (.slice .none 0 0))] ∧ za5 prog 138 = some false := by and_intros <;> kernel_rfl
@[go_sem] theorem t_139 : tk prog 139 = .sl 142 ∧ tsz prog 139 = some 1 ∧ tby prog 139 = some 24 ∧ tz prog 139 = some [(.v (.slice .none 0 0))] ∧ za5 prog 139 = some false := by and_intros <;> kernel_rfl
@[go_sem] theorem t_140 : tk prog 140 = .sl 145 ∧ tsz prog 140 = some 1 ∧ tby prog 140 = some 24 ∧ tz prog 140 = some [(.v (.slice .none 0 0))] ∧ za5 prog 140 = some false := by and_intros <;> kernel_rfl
@[go_sem] theorem t_142 : tk prog 142 = .str ∧ tsz prog 142 = some 2 ∧ tby prog 142 = some 32 ∧ tz prog 142 = some [(.v (.slice .none 0 0)), (.v (.int .i64 0))] ∧ za5 prog 142 = some true ∧ tfi prog 142 = true ∧ zcn prog 142 0 = some 140 ∧ zch prog 142 0 = some 0 ∧ zcn prog 142 1 = some 3 ∧ zch prog 142 1 = some 1 := by and_intros <;> kernel_rfl
@[go_sem] theorem t_145 : tk prog 145 = .str ∧ tsz prog 145 = some 3 ∧ tby prog 145 = some 24 ∧ tz prog 145 = some [(.v (.int .i64 0)), (.v (.int .i64 0)), (.v (.int .i64 0))] ∧ za5 prog 145 = some true ∧ tfi prog 145 = true ∧ zru prog 145 = some [false, false, false] ∧ zcn prog 145 0 = some 3 ∧ zch prog 145 0 = some 0 ∧ zcn prog 145 1 = some 3 ∧ zch prog 145 1 = some 1 ∧ zcn prog 145 2 = some 3 ∧ zch prog 145 2 = some 2 := by and_intros <;> kernel_rfl
@[go_sem] theorem t_178 : tk prog 178 = .map 9 4 ∧ tsz prog 178 = some 1 ∧ tby prog 178 = some 8 ∧ tz prog 178 = some [(.v (.map .none))] ∧ za5 prog 178 = some false := by and_intros <;> kernel_rfl
@[go_sem] theorem t_190 : tk prog 190 = .other ∧ tsz prog 190 = some 1 ∧ tby prog 190 = some 8 ∧ tz prog 190 = some [(.v .nilFunc)] ∧ za5 prog 190 = some false := by and_intros <;> kernel_rfl
@[go_sem] theorem t_192 : tk prog 192 = .other ∧ tsz prog 192 = some 1 ∧ tby prog 192 = some 0 ∧ za5 prog 192 = some false := by and_intros <;> kernel_rfl
@[go_sem] theorem t_197 : tk prog 197 = .other ∧ tsz prog 197 = some 1 ∧ tby prog 197 = some 8 ∧ tz prog 197 = some [(.v .nilFunc)] ∧ za5 prog 197 = some false := by and_intros <;> kernel_rfl
@[go_sem] theorem t_198 : tk prog 198 = .arr 4 197 ∧ tsz prog 198 = some 4 ∧ tby prog 198 = some 32 ∧ tz prog 198 = some [(.v .nilFunc), (.v .nilFunc), (.v .nilFunc), (.v .nilFunc)] ∧ za5 prog 198 = some true := by and_intros <;> kernel_rfl
@[go_sem] theorem t_199 : tk prog 199 = .other ∧ tsz prog 199 = some 1 ∧ tby prog 199 = some 8 ∧ tz prog 199 = some [(.v .nilFunc)] ∧ za5 prog 199 = some false := by and_intros <;> kernel_rfl
@[go_sem] theorem t_200 : tk prog 200 = .other ∧ tsz prog 200 = some 1 ∧ tby prog 200 = some 0 ∧ za5 prog 200 = some false := by and_intros <;> kernel_rfl
@[go_sem] theorem t_202 : tk prog 202 = .sl 135 ∧ tsz prog 202 = some 1 ∧ tby prog 202 = some 24 ∧ tz prog 202 = some [(.v (.slice .none 0 0))] ∧ za5 prog 202 = some false := by and_intros <;> kernel_rfl
@[go_sem] theorem t_203 : tk prog 203 = .other ∧ tsz prog 203 = some 1 ∧ tby prog 203 = some 0 ∧ za5 prog 203 = some false := by and_intros <;> kernel_rfl
@[go_sem] theorem t_208 : tk prog 208 = .str ∧ tsz prog 208 = some 8 ∧ tby prog 208 = some 112 ∧ tz prog 208 = some [(.v (.slice .none 0 0)), (.v (.slice .none 0 0)), (.v (.slice .none 0 0)), (.v (.int .i64 0)), (.v (.int .i64 0)), (.v (.int .i64 0)), (.v (.int .i64 0)), (.v (.bool false))] ∧ za5 prog 208 = some true ∧ tfi prog 208 = true ∧ zcn prog 208 0 = some 45 ∧ zch prog 208 0 = some 0 ∧ zcn prog 208 1 = some 3 ∧ zch prog 208 1 = some 5 ∧ zcn prog 208 2 = some 3 ∧ zch prog 208 2 = some 6 ∧ zcn prog 208 3 = some 4 ∧ zch prog 208 3 = some 7 := by and_intros <;> kernel_rfl
@[go_sem] theorem t_211 : tk prog 211 = .str ∧ tsz prog 211 = some 9 ∧ tby prog 211 = some 136 ∧ tz prog 211 = some [(.v (.int .i64 0)), (.v (.slice .none 0 0)), (.v (.slice .none 0 0)), (.v (.slice .none 0 0)), (.v (.int .i64 0)), (.v (.bool false)), (.v (.slice .none 0 0)), (.v (.int .i64 0)), (.v (.int .i64 0))] ∧ za5 prog 211 = some true ∧ tfi prog 211 = true ∧ zcn prog 211 0 = some 39 ∧ zch prog 211 0 = some 0 := by and_intros <;> kernel_rfl
@[go_sem] theorem t_212 : tk prog 212 = .other ∧ tsz prog 212 = some 1 ∧ tby prog 212 = some 8 ∧ tz prog 212 = some [(.v .nilFunc)] ∧ za5 prog 212 = some false := by and_intros <;> kernel_rfl
@[go_sem] theorem t_216 : tk prog 216 = .other ∧ tsz prog 216 = some 1 ∧ tby prog 216 = some 8 ∧ tz prog 216 = some [(.v .nilFunc)] ∧ za5 prog 216 = some false := by and_intros <;> kernel_rfl
@[go_sem] theorem t_217 : tk prog 217 = .ptr 137 ∧ tsz prog 217 = some 1 ∧ tby prog 217 = some 8 ∧ tz prog 217 = some [(.v (.pointer .none))] ∧ za5 prog 217 = some false := by and_intros <;> kernel_rfl
@[go_sem] theorem t_224 : tk prog 224 = .int .u64 ∧ tsz prog 224 = some 1 ∧ tby prog 224 = some 8 ∧ tz prog 224 = some [(.v (.int .u64 0))] ∧ za5 prog 224 = some false ∧ tz1 prog 224 = some (.int .u64 0) := by and_intros <;> kernel_rfl
@[go_sem] theorem t_247 : tk prog 247 = .other ∧ tsz prog 247 = some 1 ∧ tby prog 247 = some 8 ∧ tz prog 247 = some [(.v .nilFunc)] ∧ za5 prog 247 = some false := by and_intros <;> kernel_rfl
@[go_sem] theorem t_253 : tk prog 253 = .other ∧ tsz prog 253 = some 1 ∧ tby prog 253 = some 8 ∧ tz prog 253 = some [(.v .nilFunc)] ∧ za5 prog 253 = some false := by and_intros <;> kernel_rfl
@[go_sem] theorem t_257 : tk prog 257 = .other ∧ tsz prog 257 = some 1 ∧ tby prog 257 = some 8 ∧ tz prog 257 = some [(.v .nilFunc)] ∧ za5 prog 257 = some false := by and_intros <;> kernel_rfl
@[go_sem] theorem t_259 : tk prog 259 = .other ∧ tsz prog 259 = some 1 ∧ tby prog 259 = some 8 ∧ tz prog 259 = some [(.v .nilFunc)] ∧ za5 prog 259 = some false := by and_intros <;> kernel_rfl
@[go_sem] theorem t_261 : tk prog 261 = .other ∧ tsz prog 261 = some 1 ∧ tby prog 261 = some 8 ∧ tz prog 261 = some [(.v .nilFunc)] ∧ za5 prog 261 = some false := by and_intros <;> kernel_rfl
@[go_sem] theorem t_266 : tk prog 266 = .other ∧ tsz prog 266 = some 1 ∧ tby prog 266 = some 8 ∧ tz prog 266 = some [(.v .nilFunc)] ∧ za5 prog 266 = some false := by and_intros <;> kernel_rfl
@[go_sem] theorem t_269 : tk prog 269 = .other ∧ tsz prog 269 = some 1 ∧ tby prog 269 = some 8 ∧ tz prog 269 = some [(.v .nilFunc)] ∧ za5 prog 269 = some false := by and_intros <;> kernel_rfl
@[go_sem] theorem t_272 : tk prog 272 = .arr 4 3 ∧ tsz prog 272 = some 4 ∧ tby prog 272 = some 32 ∧ tz prog 272 = some [(.v (.int .i64 0)), (.v (.int .i64 0)), (.v (.int .i64 0)), (.v (.int .i64 0))] ∧ za5 prog 272 = some true := by and_intros <;> kernel_rfl
@[go_sem] theorem t_287 : tk prog 287 = .str ∧ tsz prog 287 = some 2 ∧ tby prog 287 = some 24 ∧ tz prog 287 = some [(.v (.string ⟨⟨[]⟩⟩)), (.v (.int .i64 0))] ∧ za5 prog 287 = some true ∧ tfi prog 287 = true ∧ zcn prog 287 0 = some 9 ∧ zch prog 287 0 = some 0 ∧ zcn prog 287 1 = some 3 ∧ zch prog 287 1 = some 1 := by and_intros <;> kernel_rfl
@[go_sem] theorem t_288 : tk prog 288 = .other ∧ tsz prog 288 = some 1 ∧ tby prog 288 = some 0 ∧ za5 prog 288 = some false := by and_intros <;> kernel_rfl
@[go_sem] theorem t_290 : tk prog 290 = .other ∧ tsz prog 290 = some 1 ∧ tby prog 290 = some 8 ∧ tz prog 290 = some [(.v .nilFunc)] ∧ za5 prog 290 = some false := by and_intros <;> kernel_rfl
@[go_sem] theorem t_294 : tk prog 294 = .other ∧ tsz prog 294 = some 1 ∧ tby prog 294 = some 8 ∧ tz prog 294 = some [(.v .nilFunc)] ∧ za5 prog 294 = some false := by and_intros <;> kernel_rfl
@[go_sem] theorem t_297 : tk prog 297 = .sl 208 ∧ tsz prog 297 = some 1 ∧ tby prog 297 = some 24 ∧ tz prog 297 = some [(.v (.slice .none 0 0))] ∧ za5 prog 297 = some false := by and_intros <;> kernel_rfl
@[go_sem] theorem t_301 : tk prog 301 = .map 4 3 ∧ tsz prog 301 = some 1 ∧ tby prog 301 = some 8 ∧ tz prog 301 = some [(.v (.map .none))] ∧ za5 prog 301 = some false := by and_intros <;> kernel_rfl
@[go_sem] theorem t_303 : tk prog 303 = .int .i64 ∧ tsz prog 303 = some 1 ∧ tby prog 303 = some 8 ∧ tz prog 303 = some [(.v (.int .i64 0))] ∧ za5 prog 303 = some false ∧ tz1 prog 303 = some (.int .i64 0) := by and_intros <;> kernel_rfl
@[go_sem] theorem t_304 : tk prog 304 = .other ∧ tsz prog 304 = some 1 ∧ tby prog 304 = some 0 ∧ za5 prog 304 = some false := by and_intros <;> kernel_rfl
@[go_sem] theorem t_310 : tk prog 310 = .int .u32 ∧ tsz prog 310 = some 1 ∧ tby prog 310 = some 4 ∧ tz prog 310 = some [(.v (.int .u32 0))] ∧ za5 prog 310 = some false ∧ tz1 prog 310 = some (.int .u32 0) := by and_intros <;> kernel_rfl
@[go_sem] theorem t_312 : tk prog 312 = .int .u64 ∧ tsz prog 312 = some 1 ∧ tby prog 312 = some 8 ∧ tz prog 312 = some [(.v (.int .u64 0))] ∧ za5 prog 312 = some false ∧ tz1 prog 312 = some (.int .u64 0) := by and_intros <;> kernel_rfl
@[go_sem] theorem t_314 : tk prog 314 = .other ∧ tsz prog 314 = some 1 ∧ tby prog 314 = some 8 ∧ tz prog 314 = some [(.v .nilFunc)] ∧ za5 prog 314 = some false := by and_intros <;> kernel_rfl
@[go_sem] theorem t_323 : tk prog 323 = .arr 11 287 ∧ tsz prog 323 = some 22 ∧ tby prog 323 = some 264 ∧ tz prog 323 = some [(.v (.string ⟨⟨[]⟩⟩)), (.v (.int .i64 0)), (.v (.string ⟨⟨[]⟩⟩)), (.v (.int .i64 0)), (.v (.string ⟨⟨[]⟩⟩)), (.v (.int .i64 0)), (.v (.string ⟨⟨[]⟩⟩)), (.v (.int .i64 0)), (.v (.string ⟨⟨[]⟩⟩)), (.v (.int .i64 0)), (.v (.string ⟨⟨[]⟩⟩)), (.v (.int .i64 0)), (.v (.string ⟨⟨[]⟩⟩)), (.v (.int .i64 0)), (.v (.string ⟨⟨[]⟩⟩)), (.v (.int .i64 0)), (.v (.string ⟨⟨[]⟩⟩)), (.v (.int .i64 0)), (.v (.string ⟨⟨[]⟩⟩)), (.v (.int .i64 0)), (.v (.string ⟨⟨[]⟩⟩)), (.v (.int .i64 0))] ∧ za5 prog 323 = some true := by and_intros <;> kernel_rfl
@[go_sem] theorem t_327 : tk prog 327 = .other ∧ tsz prog 327 = some 1 ∧ tby prog 327 = some 8 ∧ tz prog 327 = some [(.v .nilFunc)] ∧ za5 prog 327 = some false := by and_intros <;> kernel_rfl
@[go_sem] theorem t_329 : tk prog 329 = .arr 11 327 ∧ tsz prog 329 = some 11 ∧ tby prog 329 = some 88 ∧ tz prog 329 = some [(.v .nilFunc), (.v .nilFunc), (.v .nilFunc), (.v .nilFunc), (.v .nilFunc), (.v .nilFunc), (.v .nilFunc), (.v .nilFunc), (.v .nilFunc), (.v .nilFunc), (.v .nilFunc)] ∧ za5 prog 329 = some true := by and_intros <;> kernel_rfl
@[go_sem] theorem t_337 : tk prog 337 = .int .u64 ∧ tsz prog 337 = some 1 ∧ tby prog 337 = some 8 ∧ tz prog 337 = some [(.v (.int .u64 0))] ∧ za5 prog 337 = some false ∧ tz1 prog 337 = some (.int .u64 0) := by and_intros <;> kernel_rfl
@[go_sem] theorem t_341 : tk prog 341 = .ptr 3 ∧ tsz prog 341 = some 1 ∧ tby prog 341 = some 8 ∧ tz prog 341 = some [(.v (.pointer .none))] ∧ za5 prog 341 = some false := by and_intros <;> kernel_rfl
@[go_sem] theorem t_343 : tk prog 343 = .sl 140 ∧ tsz prog 343 = some 1 ∧ tby prog 343 = some 24 ∧ tz prog 343 = some [(.v (.slice .none 0 0))] ∧ za5 prog 343 = some false := by and_intros <;> kernel_rfl
@[go_sem] theorem t_345 : tk prog 345 = .other ∧ tsz prog 345 = some 1 ∧ tby prog 345 = some 8 ∧ tz prog 345 = some [(.v .nilFunc)] ∧ za5 prog 345 = some false := by and_intros <;> kernel_rfl
@[go_sem] theorem t_346 : tk prog 346 = .other ∧ tsz prog 346 = some 1 ∧ tby prog 346 = some 8 ∧ tz prog 346 = some [(.v .nilFunc)] ∧ za5 prog 346 = some false := by and_intros <;> kernel_rfl
@[go_sem] theorem t_362 : tk prog 362 = .ptr 337 ∧ tsz prog 362 = some 1 ∧ tby prog 362 = some 8 ∧ tz prog 362 = some [(.v (.pointer .none))] ∧ za5 prog 362 = some false := by and_intros <;> kernel_rfl
@[go_sem] theorem t_380 : tk prog 380 = .arr 24 5 ∧ tsz prog 380 = some 24 ∧ tby prog 380 = some 24 ∧ tz prog 380 = some [(.v (.int .u8 0)), (.v (.int .u8 0)), (.v (.int .u8 0)), (.v (.int .u8 0)), (.v (.int .u8 0)), (.v (.int .u8 0)), (.v (.int .u8 0)), (.v (.int .u8 0)), (.v (.int .u8 0)), (.v (.int .u8 0)), (.v (.int .u8 0)), (.v (.int .u8 0)), (.v (.int .u8 0)), (.v (.int .u8 0)), (.v (.int .u8 0)), (.v (.int .u8 0)), (.v (.int .u8 0)), (.v (.int .u8 0)), (.v (.int .u8 0)), (.v (.int .u8 0)), (.v (.int .u8 0)), (.v (.int .u8 0)), (.v (.int .u8 0)), (.v (.int .u8 0))] ∧ za5 prog 380 = some true := by and_intros <;> kernel_rfl
@[go_sem] theorem t_382 : tk prog 382 = .other ∧ tsz prog 382 = some 1 ∧ tby prog 382 = some 0 ∧ za5 prog 382 = some false := by and_intros <;> kernel_rfl
end Go.Av
end
section
open Go Go.Proofs
namespace Go.Av
def zbd (n : Int) : List AV := [.v (.int .i64 n)]
def zaj (l : List Int) : AV := .lst 1 (l.map zbd)
def za1 (l : List (List Int)) : AV := .lst 1 (l.map fun l => [zaj l])
structure zc6 where
 name : ByteArray
 progs : List (List (Int × Int))
 keep : Bool
 deriving Inhabited
structure zac where
 cells : Int
 next : List (List Int)
 turn : List Int
 kinds : List zc6
 rights : Int
 must : Bool
 clauses : List (Int × Int × Int × Int)
 blocked : Int
 endless : Int
structure zal where
 at_ : List Int
 h0 : List Int
 h1 : List Int
 rights : Int
 side : Int
 deriving DecidableEq
def zaE (s : Int × Int) : List AV := [.v (.int .i64 s.1), .v (.int .i64 s.2)]
def zay (k : zc6) : List AV := [.v (.string k.name), .lst 1 (k.progs.map fun p => [.lst 2 (p.map zaE)]), .v (.bool k.keep)]
def zaz (c : Int × Int × Int × Int) : List AV := [.v (.int .i64 c.1), .v (.int .i64 c.2.1), .v (.int .i64 c.2.2.1), .v (.int .i64 c.2.2.2)]
def zyn (cells : Int) (next : List (List Int)) (turn : List Int) : List AV := [.v (.int .i64 cells), za1 next, zaj turn]
def zad (g : zac) : List AV := [.v (.int .i64 g.cells), za1 g.next, zaj g.turn, .lst 3 (g.kinds.map zay), .v (.int .i64 g.rights), .v (.bool g.must), .lst 4 (g.clauses.map zaz), .v (.int .i64 g.blocked), .v (.int .i64 g.endless)]
def zag (p : zal) : List AV := [zaj p.at_, zaj p.h0, zaj p.h1, .v (.int .i64 p.rights), .v (.int .i64 p.side)]
attribute [go_sem] zbd zaj za1 zaE zay zaz zyn zad zag
def zfk (l : List Int) : Prop := l.length ≤ 1099511627776
theorem zya {n : Nat} {l : List Int} : (∀ r ∈ l.map zbd, ∀ c ∈ r, Bel n c) = True := by
 refine eq_true ?_
 intro r hr c hc
 obtain ⟨x, _, rfl⟩ := List.mem_map.1 hr
 simp only [zbd, List.mem_singleton] at hc
 subst hc; exact .v _
theorem zrN {n : Nat} {l : List Int} : Bel n (.lst 1 (l.map zbd)) = True := by rw [zb7, zya]
attribute [go_sem high] zrN

def za0 (a b : Int) : Int := if a < b then -1 else if b < a then 1 else 0
theorem zeT (a b : Int) : zaJ Tryz.prog 155 [.v (.int .i64 a), .v (.int .i64 b)] (.v (.int .i64 (za0 a b))) := by
 refine pF Tryz.func155 ?_
 simp [go_sem]
 refine zBj (fun h => ?_) (fun h => ?_)
 ·simp at h
  simp [go_sem, za0, h]
 ·simp at h
  simp [go_sem]
  refine zBj (fun h2 => ?_) (fun h2 => ?_)
  ·simp at h2
   simp [go_sem, za0, h2, show ¬ a < b by omega]
  ·simp at h2
   simp [go_sem, za0, show ¬ b < a by omega, show ¬ a < b by omega]
def zeh : List Int → List Int → Int
 | x :: a, y :: b => if x = y then zeh a b else za0 x y
 | a, b => za0 a.length b.length
theorem zg7 (b : List Int) : zeh [] b = za0 0 b.length := by cases b <;> rfl
theorem zgl (a : List Int) : zeh a [] = za0 a.length 0 := by cases a <;> rfl
theorem zka (a b : List Int) (ha : zfk a) (hb : zfk b) : zaJ Tryz.prog 154 [zaj a, zaj b] (.v (.int .i64 (zeh a b))) := by
 refine pF Tryz.func154 ?_
 unfold zfk at ha hb
 simp [go_sem]
 refine zBh (zBk (α := Nat) (fun j => ⟨[(0, zaj a), (1, zaj b), (5, .v (.int .i64 j))], [], 0⟩)
  (fun d j => j + d = a.length ∧ j ≤ b.length ∧ zeh a b = zeh (a.drop j) (b.drop j)) ?_ a.length 0 ?_) ?_ ?_
 ·rintro d j ⟨i1, i2, i3⟩ hrec
  simp [go_sem]
  refine zBj (fun hj => ?_) (fun hj => ?_)
  ·simp at hj
   obtain ⟨hj1, hj2⟩ := hj
   have hd1 : a.drop j = nth a j :: a.drop (j + 1) := by rw [List.drop_eq_getElem_cons hj1, zaA _ _ hj1]
   have hd2 : b.drop j = nth b j :: b.drop (j + 1) := by rw [List.drop_eq_getElem_cons hj2, zaA _ _ hj2]
   rw [hd1, hd2, zeh] at i3
   simp [go_sem]
   try ((with_reducible refine wZ ?_); (try simp [go_sem]))
   refine zBJ hj1 fun _ => ?_
   simp [go_sem, hj1]
   try ((with_reducible refine wZ ?_); (try simp [go_sem]))
   refine zBJ hj2 fun _ => ?_
   simp [go_sem, hj2]
   try ((with_reducible refine wZ ?_); (try simp [go_sem]))
   refine zm4.mk (by kernel_rfl) ?_
   simp [go_sem]
   refine zBj (fun he => ?_) (fun he => ?_)
   ·simp at he
    rw [if_neg he] at i3
    simp [go_sem]
    try ((with_reducible refine wZ ?_); (try simp [go_sem]))
    refine zBJ hj1 fun _ => ?_
    simp [go_sem, hj1]
    try ((with_reducible refine wZ ?_); (try simp [go_sem]))
    refine zBJ hj2 fun _ => ?_
    simp [go_sem, hj2]
    try ((with_reducible refine wZ ?_); (try simp [go_sem]))
    refine zBl (zeT _ _) (by simp [go_sem]) ?_
    simp [go_sem]
    try ((with_reducible refine wZ ?_); (try simp [go_sem]))
    refine zm4.mk (by kernel_rfl) ?_
    simp [go_sem, i3]
   ·simp at he
    rw [if_pos he] at i3
    simp [go_sem]
    refine zBE (by omega) fun _ => ?_
    simp [go_sem]
    refine zBh (hrec (d - 1) (by omega) (j + 1) ⟨by omega, by omega, i3⟩) ?_ (by simp)
    simp [go_sem, zaf]
  ·simp at hj
   simp [go_sem]
   refine zBi (zeT _ _) (by simp [go_sem]) ?_
   have : za0 a.length b.length = zeh a b := by
    rw [i3]
    rcases Nat.lt_or_ge j a.length with h | h
    ·have hb' := hj h
     rw [List.drop_eq_nil_of_le hb', zgl]
     simp only [za0, List.length_drop]
     split <;> split <;> (try split) <;> (try split) <;> omega
    ·rw [List.drop_eq_nil_of_le h, zg7]
     simp only [za0, List.length_drop]
     split <;> split <;> (try split) <;> (try split) <;> omega
   simp [go_sem, this]
 ·simp
 ·simp [go_sem, zaf]
 ·simp
theorem zft {l : List Int} {j : Nat} (h : j < l.length) : l.drop j = nth l j :: l.drop (j + 1) := by rw [List.drop_eq_getElem_cons h, zaA _ _ h]
def zbw (p : zal) : Prop := zfk p.at_ ∧ zfk p.h0 ∧ zfk p.h1
def zcK (p q : zal) : Int :=
 if zeh p.at_ q.at_ ≠ 0 then zeh p.at_ q.at_ else if zeh p.h0 q.h0 ≠ 0 then zeh p.h0 q.h0 else if zeh p.h1 q.h1 ≠ 0 then zeh p.h1 q.h1 else if za0 p.rights q.rights ≠ 0 then za0 p.rights q.rights else za0 p.side q.side
theorem ziq (a b : zal) (ha : zbw a) (hb : zbw b) : zaJ Tryz.prog 102 [.agg (zag a), .agg (zag b)] (.v (.int .i64 (zcK a b))) := by
 refine pF Tryz.func102 ?_
 obtain ⟨a1, a2, a3⟩ := ha
 obtain ⟨b1, b2, b3⟩ := hb
 simp [go_sem]
 try ((with_reducible refine wZ ?_); (try simp [go_sem]))
 refine zBl (zka _ _ a1 b1) (by simp [go_sem]) ?_
 simp [go_sem]
 try ((with_reducible refine wZ ?_); (try simp [go_sem]))
 refine zBl (zka _ _ a2 b2) (by simp [go_sem]) ?_
 simp [go_sem]
 try ((with_reducible refine wZ ?_); (try simp [go_sem]))
 refine zBl (zka _ _ a3 b3) (by simp [go_sem]) ?_
 simp [go_sem]
 try ((with_reducible refine wZ ?_); (try simp [go_sem]))
 refine zBl (zeT _ _) (by simp [go_sem]) ?_
 simp [go_sem]
 try ((with_reducible refine wZ ?_); (try simp [go_sem]))
 refine zBl (zeT _ _) (by simp [go_sem]) ?_
 simp [go_sem]
 try ((with_reducible refine wZ ?_); (try simp [go_sem]))
 refine zm4.mk (by kernel_rfl) ?_
 simp [go_sem]
 generalize e1 : zeh a.at_ b.at_ = x1
 generalize e2 : zeh a.h0 b.h0 = x2
 generalize e3 : zeh a.h1 b.h1 = x3
 generalize e4 : za0 a.rights b.rights = x4
 generalize e5 : za0 a.side b.side = x5
 unfold zcK
 rw [e1, e2, e3, e4, e5]
 refine zBn ?_
 simp [go_sem]
 refine zBj (fun h1 => ?_) (fun h1 => ?_) <;> simp at h1 <;> simp [go_sem, h1]
 refine zBn ?_
 simp [go_sem]
 refine zBj (fun h2 => ?_) (fun h2 => ?_) <;> simp at h2 <;> simp [go_sem, h1, h2]
 refine zBn ?_
 simp [go_sem]
 refine zBj (fun h3 => ?_) (fun h3 => ?_) <;> simp at h3 <;> simp [go_sem, h1, h2, h3]
 refine zBn ?_
 simp [go_sem]
 refine zBj (fun h4 => ?_) (fun h4 => ?_) <;> simp at h4 <;> simp [go_sem, h1, h2, h3, h4]
 refine zBn ?_
 simp [go_sem]
 refine zBj (fun h5 => ?_) (fun h5 => ?_) <;> simp at h5 <;> simp [go_sem, h1, h2, h3, h4, h5]
 refine zBn ?_
 simp [go_sem]
def ownPos (n : Nat) (p : zal) : AV := .agg [.sl (n + 2) 1 1 0 p.at_.length, .sl (n + 3) 1 1 0 p.h0.length, .sl (n + 8) 1 1 0 p.h1.length, .v (.int .i64 p.rights), .v (.int .i64 p.side)]
def zAV (n : Nat) (p : zal) : List (Nat × zbi) := [(n + 2, .rows true 1 1 (p.at_.map zbd)), (n + 3, .rows true 1 1 (p.h0.map zbd)), (n + 8, .rows true 1 1 (p.h1.map zbd))]
attribute [go_sem] ownPos zAV
theorem zfQ (l : List Int) (hl : zfk l) : zlt Tryz.prog 124 [zaj l] (fun n => .sl n 1 1 0 l.length) (fun n => [(n, .rows true 1 1 (l.map zbd))]) 1 := by
 refine ⟨zBI (fun hne => zBm (by kernel_rfl) Tryz.func124 rfl rfl (Nat.le_of_ble_eq_true rfl) (by kernel_rfl) ?_)
  (fun he A c => zBm (by kernel_rfl) Tryz.func124 rfl rfl (Nat.le_of_ble_eq_true rfl) (by kernel_rfl) ?_), fun n => ⟨?_, ?_⟩⟩
 ·unfold zfk at hl
  obtain ⟨x, l, rfl⟩ := List.exists_cons_of_ne_nil (show l ≠ [] by intro h; subst h; exact hne rfl)
  simp only [List.length_cons] at hl
  simp [go_sem]
  refine zBE (by omega) fun _ => ?_
  simp [go_sem, zaf]
 ·obtain rfl : l = [] := by simpa using he
  simp [go_sem]
  refine zBj (fun h => ?_) (fun h => ?_)
  ·simp at h
   subst h
   simp [go_sem, zaf]
  ·simp [go_sem, zaf]
 ·simp [go_sem]
 ·simp [go_sem]
def idxOf (p : Int → Bool) (l : List Int) : Int := match l.findIdx? p with | some i => (i : Int) | none => -1
theorem zyt {p : Int → Bool} {l : List Int} {j : Nat} (hj : j < l.length) (h : ∀ i, i < j → p (nth l i) = false) (hp : p (nth l j) = true) : idxOf p l = j := by
 have : l.findIdx? p = some j := by
  rw [List.findIdx?_eq_some_iff_getElem]
  refine ⟨hj, by rw [← zaA _ _ hj]; exact hp, fun i hi => ?_⟩
  have := h i hi
  rw [zaA _ _ (by omega)] at this
  simp [this]
 simp [idxOf, this]
theorem ztG {p : Int → Bool} {l : List Int} (h : ∀ i, i < l.length → p (nth l i) = false) : idxOf p l = -1 := by
 have : l.findIdx? p = none := by
  rw [List.findIdx?_eq_none_iff]
  intro x hx
  obtain ⟨i, hi, rfl⟩ := List.getElem_of_mem hx
  have := h i hi
  rw [zaA _ _ hi] at this
  exact this
 simp [idxOf, this]
theorem zwb {p : Int → Bool} {l : List Int} : decide (0 ≤ idxOf p l) = l.any p := by
 unfold idxOf
 cases h : l.findIdx? p with
 | none =>
  rw [List.findIdx?_eq_none_iff] at h
  simp
  simpa using h
 | some i =>
  have := List.findIdx?_isSome (xs := l) (p := p)
  rw [h] at this
  simp at this ⊢
  exact this
theorem zkX (l : List Int) (hl : zfk l) (f : FuncId) (first caps : List AV) (p : Int → Bool) (hp : ∀ x ∈ l, zaJ Tryz.prog f (first ++ .v (.int .i64 x) :: caps) (.v (.bool (p x)))) (hb : ∀ c ∈ first, Bel 0 c) (hb' : ∀ c ∈ caps, Bel 0 c) :
  zaJ Tryz.prog 191 [zaj l, .fn (.func f) first caps] (.v (.int .i64 (idxOf p l))) := by
 refine pF Tryz.func191 ?_
 unfold zfk at hl
 simp [go_sem]
 refine zBh (zBk (α := Nat) (fun j => ⟨[(0, zaj l), (1, .fn (.func f) first caps), (7, .v (.int .i64 l.length)), (8, .v (.int .i64 j))], [], 0⟩)
  (fun d j => j + d = l.length ∧ (∀ i < j, p (nth l i) = false)) ?_ l.length 0 ?_) ?_ ?_
 ·rintro d j ⟨i1, i2⟩ hrec
  simp [go_sem]
  refine zBj (fun hj => ?_) (fun hj => ?_)
  ·simp at hj
   simp [go_sem]
   refine zBE hj fun _ => ?_
   simp [go_sem, hj]
   refine zBi (hp _ (zah hj)) (fun c hc => by
    rcases List.mem_append.1 hc with h | h
    ·exact hb c h
    ·rcases List.mem_cons.1 h with rfl | h
     ·exact .v _
     ·exact hb' c h) ?_
   simp [go_sem]
   refine zBj (fun h => ?_) (fun h => ?_)
   ·simp [go_sem, zyt hj i2 h]
   ·simp [go_sem]
    refine zBE (by omega) fun _ => ?_
    simp [go_sem]
    refine zBh (hrec (d - 1) (by omega) (j + 1) ⟨by omega, fun i hi => ?_⟩) ?_ (by simp)
    ·rcases Nat.lt_or_ge i j with h' | h'
     ·exact i2 i h'
     ·obtain rfl : i = j := by omega
      exact h
    ·simp [go_sem, zaf]
     exact ⟨hb, hb'⟩
  ·simp at hj
   simp [go_sem, ztG fun i hi => i2 i (by omega)]
 ·simp
 ·simp [go_sem, zaf]
  exact ⟨hb, hb'⟩
 ·simp
theorem zee (l : List Int) (hl : zfk l) (f : FuncId) (first caps : List AV) (p : Int → Bool) (hp : ∀ x ∈ l, zaJ Tryz.prog f (first ++ .v (.int .i64 x) :: caps) (.v (.bool (p x)))) (hb : ∀ c ∈ first, Bel 0 c) (hb' : ∀ c ∈ caps, Bel 0 c) :
  zaJ Tryz.prog 136 [zaj l, .fn (.func f) first caps] (.v (.bool (l.any p))) := by
 refine pF Tryz.func136 ?_
 simp [go_sem]
 refine zBi (zkX l hl f first caps p hp hb hb') (by simp [go_sem]; exact ⟨hb, hb'⟩) ?_
 simp [go_sem, zwb]
end Go.Av
end
