/- Our library, part 3: the abstract interpreter over code. -/
import Derived.Test.YtmmboiafelbgbaaAv2
set_option linter.unusedSimpArgs false
set_option linter.unusedVariables false
namespace Go.Av
open Go

/-! ### what a caller's code asks of a call: for every world that fits -/
structure HRelF (φ : Place) (F : Nat → Prop) (w : World) (M0 : Nat → Prop) (H : Heap) : Prop where
  m0 : ∀ k, M0 k → k < w.heap.size
  fresh : ∀ o, F o → φ o = none
  obj : ∀ o mt g sz rs, H o = some (.rows mt g sz rs) → ∃ A, φ o = some (g, A) ∧
    ((A = none ∧ rs = []) ∨ ∃ a bs C T, A = some (a, bs) ∧ a.spot = none ∧ ¬ M0 a.block ∧ w.heap[a.block]? = some (.cells C T (0, 0)) ∧ C.size = bs ∧
      (∀ r ∈ rs, r.length = sz) ∧ a.off + rs.length * sz ≤ bs ∧ (∀ u ∈ (C.toList.drop a.off).take (rs.length * sz), cellV u = true) ∧
      RelL φ w (Or M0 (Mut φ H)) rs.flatten ((C.toList.drop a.off).take (rs.length * sz)))
  inj : ∀ o o' mt g sz rs mt' g' sz' rs' a a' b b', H o = some (.rows mt g sz rs) → H o' = some (.rows mt' g' sz' rs') → o ≠ o' → (mt = true ∨ mt' = true) →
    φ o = some (g, some (a, b)) → φ o' = some (g', some (a', b')) → a.block ≠ a'.block

/-- all ids from n on are free -/
abbrev HRel (φ : Place) (n : Nat) (w : World) (M0 : Nat → Prop) (H : Heap) : Prop := HRelF φ (fun o => n ≤ o) w M0 H

/-- what was there, but for the blocks U, lies as it lay -/
structure Fr (w : World) (U : Nat → Prop) (w' : World) : Prop where
  os : w'.os = w.os
  tape : w'.tape = w.tape
  output : w'.output = w.output
  size : w.heap.size ≤ w'.heap.size
  block : ∀ k, k < w.heap.size → ¬ U k → w'.heap[k]? = w.heap[k]?

structure Step (φ : Place) (w : World) (M0 : Nat → Prop) (h : Heap) (φ' : Place) (w' : World) (h' : Heap) : Prop where
  le : φ.le φ'
  or : ∀ k, Or M0 (Mut φ' h') k → Or M0 (Mut φ h) k ∨ w.heap.size ≤ k
  fr : Fr w (Mut φ h) w'
  mutd : ∀ k, Mut φ' h' k → Mut φ h k ∨ w.heap.size ≤ k

abbrev CallK := AV → Heap → Nat → Prop
/-- f has a body -/
def Enters (P : Program) (f : FuncId) : Prop := ∀ (args : Array Value) (w : World), (callFunc f args).run P w = .ok (.enter f args) w
/-- THE CALL OF f AT THE ABSTRACT ARGUMENTS, IN WHATEVER WORLD FITS, RETURNS, AND WHAT IT LEAVES FITS K. -/
def ACallP (P : Program) (f : FuncId) (args : List AV) (h : Heap) (n : Nat) (K : CallK) : Prop :=
  Enters P f ∧ ∀ (M0 : Nat → Prop) (φ : Place) (w : World) (vs : List Value), HRel φ n w M0 h → RelL φ w (Or M0 (Mut φ h)) args vs →
    Calls P f ⟨vs⟩ w fun e w' => ∃ v φ' r h' n', e = .returned v ∧ K r h' n' ∧ HRel φ' n' w' M0 h' ∧ Rel φ' w' (Or M0 (Mut φ' h')) r v ∧ Step φ w M0 h φ' w' h'

/-- A call by a function's value. -/
def acall (P : Program) (fv : AV) (args : List AV) (h : Heap) (n : Nat) (K : CallK) : Prop :=
  match fv with
  | .fn (.func f) first caps => ACallP P f (first ++ args ++ caps) h n K
  | _ => False

/-! ### weakening: slots that are not named are forgotten, objects that are not named are nobody's any more -/
inductive Cl : AV → Prop
  | top : Cl .top
  | v (x : Value) : Cl (.v x)
  | agg {cs : List AV} (h : ∀ c ∈ cs, Cl c) : Cl (.agg cs)
  | tup {cs : List AV} (h : ∀ c ∈ cs, Cl c) : Cl (.tup cs)
  | lst {sz : Nat} {rows : List (List AV)} (h : ∀ r ∈ rows, ∀ c ∈ r, Cl c) : Cl (.lst sz rows)
  | fp {cs : List AV} (h : ∀ c ∈ cs, Cl c) : Cl (.fp cs)
  | fn {f : Fn} {a b : List AV} (h : ∀ c ∈ a, Cl c) (h' : ∀ c ∈ b, Cl c) : Cl (.fn f a b)
  | gd {g : Bool} {x : AV} (h : Cl x) : Cl (.gd g x)
def ClRows (rs : List (List AV)) : Prop := ∀ r ∈ rs, ∀ c ∈ r, Cl c

abbrev Post := Exit → Env → Heap → Nat → Prop
def QSeq (K : Env → Heap → Nat → Prop) (Q : Post) : Post
  | .normal, e, h, n => K e h n
  | x, e, h, n => Q x e h n
def QBlock (id : Nat) (Q : Post) : Post
  | .exit id', e, h, n => if id' = id then Q .normal e h n else Q (.exit id') e h n
  | x, e, h, n => Q x e h n

def unG : AV → AV
  | .gd _ x => x
  | x => x
def okG (g : Bool) : AV → Prop
  | .gd g' _ => g = true → g' = true
  | _ => True
def opTmps (op : Op) : List Tmp := op.operands.toList.filterMap fun | .tmp t => some t | _ => none
/-- the slots as a guarded operation sees them; those that must be there -/
def gE (op : Op) (e : Env) : Env := match op with
  | .pick _ _ _ => e
  | _ => fun t => unG (e t)
def gT (op : Op) : List Tmp := match op with
  | .pick _ _ _ => []
  | op => opTmps op
/-- is the operation wanted? -/
def guardB (x : AV) (want : Bool) : Option Bool :=
  match x with
  | .v (.bool b) => some (b == want)
  | .gd g (.v (.bool b)) => some (g && (b == want))
  | _ => none
def slotOf (ops : List Oper) (j : Nat) : Option Tmp := (ops[j]?).bind (·.dst)
def isCall : Op → Bool
  | .call { callee := .value _, .. } => true
  | _ => false

/-- what a guarded operation writes -/
def gW {α : Type} (g : Bool) (wr : List α) : List α := bif g then wr else []
def gN (g : Bool) (al : Nat) : Nat := bif g then al else 0
def aops (P : Program) (ops : List Oper) (Q : Post) : List Oper → Env → Heap → Nat → Prop
  | [], e, h, n => Q .normal e h n
  | o :: rest, e, h, n =>
    match o.guard with
    | none =>
      match o.op with
      | .call { callee := .value f, args, .. } => acall P (ev e f) (args.toList.map (ev e)) h n fun r h' n' => aops P ops Q rest (put e o.dst r) h' n'
      | op =>
        let r := aev P n op e h
        r.cond ∧ aops P ops Q rest (put e o.dst r.val) (applyW r.wr h) (n + r.al)
    | some (j, want) =>
      match (slotOf ops j).bind fun t => guardB (e t) want with
      | none => False
      | some g =>
        match o.op with
        | .call { callee := .value f, args, .. } =>
          (∀ t ∈ opTmps o.op, okG g (e t)) ∧ ((∃ x, (g = true → acall P (ev (fun t => unG (e t)) f) (args.toList.map (ev fun t => unG (e t))) h n fun r h' n' => r = x ∧ h' = h ∧ n' = n) ∧
            aops P ops Q rest (put e o.dst (.gd g x)) h n) ∨
            (g = true ∧ acall P (ev (fun t => unG (e t)) f) (args.toList.map (ev fun t => unG (e t))) h n fun r h' n' => aops P ops Q rest (put e o.dst (.gd true r)) h' n'))
        | op =>
          let r := aev P n op (gE op e) h
          (∀ t ∈ gT op, okG g (e t)) ∧ (g = true → r.cond) ∧ aops P ops Q rest (put e o.dst (.gd g r.val)) (applyW (gW g r.wr) h) (n + gN g r.al)

/-- canonical slots and objects -/
def mkE : List (Nat × AV) → Env
  | [] => fun _ => .top
  | (t, x) :: l => upd (mkE l) t x
def mkH : List (Nat × AObj) → Heap
  | [] => fun _ => none
  | (o, x) :: l => upd (mkH l) o (some x)
mutual
/-- x may be forgotten into y -/
inductive LeV (h h' : Heap) (n : Nat) : AV → AV → Prop
  | refl (x : AV) : LeV h h' n x x
  | top (x : AV) : LeV h h' n x .top
  | frz {o g sz i len : Nat} {mt : Bool} {rs rows : List (List AV)} (ho : h o = some (.rows mt g sz rs)) (hl : i + len ≤ rs.length) (ho' : ∀ g sz rs, h' o ≠ some (.rows true g sz rs)) (hr : LeRows h h' n ((rs.drop i).take len) rows) :
      LeV h h' n (.sl o g sz i len) (.lst sz rows)
  | frzP {o g sz i off : Nat} {mt : Bool} {rs : List (List AV)} {cells : List AV} (ho : h o = some (.rows mt g sz rs)) (hi : i < rs.length) (hoff : off < sz) (ho' : ∀ g sz rs, h' o ≠ some (.rows true g sz rs)) (hr : LeRow h h' n ((nth rs i).drop off) cells) :
      LeV h h' n (.ref o g sz i off) (.fp cells)
  | nil {A : Option Addr} {c : Nat} (sz : Nat) : LeV h h' n (.v (.slice A 0 c)) (.lst sz [])
  | own {o g sz : Nat} (hn : n ≤ o) (ho' : h' o = some (.rows true g sz [])) : LeV h h' n (.v (.slice none 0 0)) (.sl o g sz 0 0)
  | agg {xs ys : List AV} (hr : LeRow h h' n xs ys) : LeV h h' n (.agg xs) (.agg ys)
  | tup {xs ys : List AV} (hr : LeRow h h' n xs ys) : LeV h h' n (.tup xs) (.tup ys)
  | fn {f : Fn} {a b a' b' : List AV} (ha : LeRow h h' n a a') (hb : LeRow h h' n b b') : LeV h h' n (.fn f a b) (.fn f a' b')
inductive LeRow (h h' : Heap) (n : Nat) : List AV → List AV → Prop
  | nil : LeRow h h' n [] []
  | cons {x y : AV} {xs ys : List AV} (hx : LeV h h' n x y) (t : LeRow h h' n xs ys) : LeRow h h' n (x :: xs) (y :: ys)
inductive LeRows (h h' : Heap) (n : Nat) : List (List AV) → List (List AV) → Prop
  | refl (rs : List (List AV)) : LeRows h h' n rs rs
  | nil : LeRows h h' n [] []
  | cons {x y : List AV} {xs ys : List (List AV)} (hx : LeRow h h' n x y) (t : LeRows h h' n xs ys) : LeRows h h' n (x :: xs) (y :: ys)
end
theorem LeRow.refl (h h' : Heap) (n : Nat) : ∀ xs, LeRow h h' n xs xs
  | [] => .nil
  | x :: xs => .cons (.refl x) (LeRow.refl h h' n xs)
inductive LeO (h h' : Heap) (n : Nat) (o : Nat) : Option AObj → AObj → Prop
  | same {mt mt' : Bool} {g sz : Nat} {rs rs' : List (List AV)} (hm : mt' = true → mt = true) (hr : LeRows h h' n rs rs') : LeO h h' n o (some (.rows mt g sz rs)) (.rows mt' g sz rs')
  | own {g sz : Nat} (hn : n ≤ o) : LeO h h' n o none (.rows true g sz [])
/-- ids below n -/
inductive Bel (n : Nat) : AV → Prop
  | top : Bel n .top
  | v (x : Value) : Bel n (.v x)
  | agg {cs : List AV} (h : ∀ c ∈ cs, Bel n c) : Bel n (.agg cs)
  | tup {cs : List AV} (h : ∀ c ∈ cs, Bel n c) : Bel n (.tup cs)
  | lst {sz : Nat} {rows : List (List AV)} (h : ∀ r ∈ rows, ∀ c ∈ r, Bel n c) : Bel n (.lst sz rows)
  | fp {cs : List AV} (h : ∀ c ∈ cs, Bel n c) : Bel n (.fp cs)
  | ref {o g sz i off : Nat} (h : o < n) : Bel n (.ref o g sz i off)
  | sl {o g sz i len : Nat} (h : o < n) : Bel n (.sl o g sz i len)
  | fn {f : Fn} {a b : List AV} (h : ∀ c ∈ a, Bel n c) (h' : ∀ c ∈ b, Bel n c) : Bel n (.fn f a b)
  | gd {g : Bool} {x : AV} (h : Bel n x) : Bel n (.gd g x)
def BelO (n : Nat) : AObj → Prop
  | .rows _ _ _ rs => ∀ r ∈ rs, ∀ c ∈ r, Bel n c
/-- (e, h, n) may be forgotten into the canonical state -/
structure Wk (e : Env) (h : Heap) (n : Nat) (E : List (Nat × AV)) (HH : List (Nat × AObj)) (n' : Nat) : Prop where
  env : ∀ p ∈ E, LeV h (mkH HH) n (e p.1) p.2 ∧ Bel n' p.2
  obj : ∀ p ∈ HH, p.1 < n' ∧ LeO h (mkH HH) n p.1 (h p.1) p.2 ∧ BelO n' p.2

/-- a loop: the least predicate that is closed under a round and under forgetting -/
def ALoop (n0 : Nat) (B : Post → Env → Heap → Nat → Prop) (Q : Post) (e : Env) (h : Heap) (n : Nat) : Prop :=
  ∀ X : Env → Heap → Nat → Prop, (∀ e h n, B (QSeq X Q) e h n → X e h n) → (∀ e h n E HH n', Wk e h n E HH n' → n0 ≤ n' → X (mkE E) (mkH HH) n' → X e h n) → X e h n

/-! ### functions that only compute -/
def noP : Place := fun _ => none
def noH : Heap := fun _ => none
/-- f, called at these arguments, gives r, and turns nothing. -/
def Pure (P : Program) (f : FuncId) (args : List AV) (r : AV) : Prop :=
  Enters P f ∧ ∀ (M : Nat → Prop) (w : World) (vs : List Value), (∀ k, M k → k < w.heap.size) → RelL noP w M args vs →
    Calls P f ⟨vs⟩ w fun e w' => ∃ v, e = .returned v ∧ Rel noP w' M r v ∧ Fr w (fun _ => False) w'
/-- values without memory -/
inductive Flat : AV → Prop
  | v (x : Value) : Flat (.v x)
  | tup {xs : List AV} (h : ∀ x ∈ xs, Flat x) : Flat (.tup xs)
  | agg {xs : List AV} (h : ∀ x ∈ xs, Flat x) : Flat (.agg xs)
/-- a call of such a function: the arguments as data (S: the objects that are looked at); the result holds no memory, or nothing of ours is among the arguments -/
def PCall (P : Program) (fv : AV) (args : List AV) (h : Heap) (r : AV) (S : List Nat) : Prop :=
  ∃ f first caps args', fv = .fn (.func f) first caps ∧ (∀ c ∈ args', Bel 0 c) ∧ Pure P f args' r ∧ (((∀ h₁ : Heap, (∀ o ∈ S, h o = h₁ o) → LeRow h₁ noH 0 (first ++ args ++ caps) args') ∧ Flat r) ∨ args' = first ++ args ++ caps)

/-- .. or what it was given of ours (among S) is frozen: wr -/
def PCallW (P : Program) (fv : AV) (args : List AV) (h : Heap) (r : AV) (S : List Nat) (wr : List (Nat × Option AObj)) : Prop :=
  (wr = [] ∧ PCall P fv args h r S) ∨
  ∃ f first caps args', fv = .fn (.func f) first caps ∧ (∀ c ∈ args', Bel 0 c) ∧ Pure P f args' r ∧
    (∀ p ∈ wr, p.1 ∈ S ∧ ∃ g sz rs, p.2 = some (.rows false g sz rs) ∧ h p.1 = some (.rows true g sz rs)) ∧
    ∀ h₁ : Heap, (∀ o ∈ S, h o = h₁ o) → LeRow h₁ (applyW wr h₁) 0 (first ++ args ++ caps) args'
/-! ### a region that draws its order -/
/-- the ids that an operation may look at in a value -/
def AV.ids : AV → List Nat
  | .ref o _ _ _ _ | .sl o _ _ _ _ | .mp o => [o]
  | _ => []
abbrev DRec := List Nat × List Nat
def adrawGo (P : Program) (n : Nat) (ops : List Oper) (K : Env → Heap → List DRec → Prop) : Nat → List Oper → Env → Heap → List DRec → Prop
  | _, [], e, h, acc => K e h acc
  | i, o :: rest, e, h, acc =>
    match o.guard with
    | none =>
      match o.op with
      | .call { callee := .value f, args, .. } => ∃ r S wr, PCallW P (ev e f) (args.toList.map (ev e)) h r S wr ∧ adrawGo P n ops K (i + 1) rest (put e o.dst r) (applyW wr h) (acc ++ [(S, wr.map (·.1))])
      | op =>
        let r := aev P (n + i) op e h
        r.cond ∧ adrawGo P n ops K (i + 1) rest (put e o.dst r.val) (applyW r.wr h) (acc ++ [((op.operands.toList.map (ev e)).flatMap AV.ids, r.wr.map (·.1))])
    | some (j, want) =>
      match (slotOf ops j).bind fun t => guardB (e t) want with
      | none => False
      | some g =>
        match o.op with
        | .call { callee := .value f, args, .. } =>
          (∀ t ∈ opTmps o.op, okG g (e t)) ∧ ∃ r S wr, (g = true → PCallW P (ev (fun t => unG (e t)) f) (args.toList.map (ev fun t => unG (e t))) h r S wr) ∧ (g = false → wr = []) ∧
            adrawGo P n ops K (i + 1) rest (put e o.dst (.gd g r)) (applyW wr h) (acc ++ [(S, wr.map (·.1))])
        | op =>
          let r := aev P (n + i) op (gE op e) h
          (∀ t ∈ gT op, okG g (e t)) ∧ (g = true → r.cond) ∧
            adrawGo P n ops K (i + 1) rest (put e o.dst (.gd g r.val)) (applyW (gW g r.wr) h) (acc ++ [((op.operands.toList.map (ev (gE op e))).flatMap AV.ids, (gW g r.wr).map (·.1))])
/-- which operations come before each -/
def masks : List Oper → List Nat → List Nat
  | [], acc => acc
  | o :: l, acc => masks l (acc ++ [o.after.toList.foldl (fun s e => if Region.binds .any e then s ||| 2 ^ e.on ||| acc.getD e.on 0 else s) 0])
def namesOf (ops : List Oper) (o : Oper) : List Tmp := opTmps o.op ++ (match o.guard with | some (j, _) => (slotOf ops j).toList | none => [])
def disj (a b : List Nat) : Bool := a.all fun x => !b.contains x
def freeP (ops : List Oper) (x y : Oper) (r s : DRec) : Bool :=
  disj x.dst.toList (namesOf ops y) && disj y.dst.toList (namesOf ops x) && disj x.dst.toList y.dst.toList && disj r.2 s.1 && disj s.2 r.1 && disj r.2 s.2
def okDraw (ops : List Oper) (recs : List DRec) : Bool :=
  let mk := masks ops []
  decide (recs.length = ops.length) && (List.range ops.length).all fun j => (ops.getD j default).after.toList.all (fun e => !Region.binds .any e || decide (e.on < j)) &&
    (List.range j).all fun i => (mk.getD j 0).testBit i || freeP ops (ops.getD i default) (ops.getD j default) (recs.getD i default) (recs.getD j default)
def adraw (P : Program) (ops : List Oper) (Q : Post) (e : Env) (h : Heap) (n : Nat) : Prop :=
  adrawGo P n ops (fun e h recs => okDraw ops recs = true ∧ Q .normal e h (n + ops.length)) 0 ops e h []

def awp (P : Program) (n0 : Nat) : Code → Post → Env → Heap → Nat → Prop
  | .skip, Q, e, h, n | .label _, Q, e, h, n => Q .normal e h n
  | .region _ ops false, Q, e, h, n => aops P ops.toList Q ops.toList e h n
  | .region _ ops true, Q, e, h, n => adraw P ops.toList Q e h n
  | .seq a b, Q, e, h, n => awp P n0 a (QSeq (awp P n0 b Q) Q) e h n
  | .cond c a b, Q, e, h, n => match ev e c with
    | .v (.bool t) => (t = true → awp P n0 a Q e h n) ∧ (t = false → awp P n0 b Q e h n)
    | _ => False
  | .block id b, Q, e, h, n => awp P n0 b (QBlock id Q) e h n
  | .loop b, Q, e, h, n => ALoop n0 (awp P n0 b) Q e h n
  | .exit id, Q, e, h, n => Q (.exit id) e h n
  | .ret, Q, e, h, n => Q .ret e h n
  | _, _, _, _, _ => False
/-! ### functions -/
def argE : Nat → List AV → Env
  | _, [] => fun _ => .top
  | i, x :: l => upd (argE (i + 1) l) i x
def resL (P : Program) (e : Env) (h : Heap) : List ResultVar → Prop × List AV
  | [] => (True, [])
  | .tmp t :: l => let r := resL P e h l; (r.1, e t :: r.2)
  | .cell a t :: l => let r := resL P e h l; let x := evLoad P t (e a) h; (x.cond ∧ r.1, x.val :: r.2)
def resV : List AV → AV
  | [x] => x
  | xs => .tup xs
/-- what is asked at a function's end -/
def RetQ (P : Program) (rs : List ResultVar) (K : CallK) : Post
  | .normal, e, h, n | .ret, e, h, n => (resL P e h rs).1 ∧ K (resV (resL P e h rs).2) h n
  | _, _, _, _ => False
/-- every slot that is written lies in the frame -/
def dstB (N : Nat) : Code → Bool
  | .region _ ops _ => ops.toList.all fun o => match o.dst with | none => true | some d => decide (d < N)
  | .seq a b => dstB N a && dstB N b
  | .cond _ a b => dstB N a && dstB N b
  | .block _ b | .loop b | .scope b => dstB N b
  | .rangeFunc _ _ a b => dstB N a && dstB N b
  | _ => true
end Go.Av
