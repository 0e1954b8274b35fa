/- Our library, part 1: abstract values, their relation to the model's values in a world, and that relation's persistence. -/
import Derived.CallsIn
import Derived.KernelRfl
import Derived.Below
import Derived.Laws.Sem
set_option linter.unusedSimpArgs false
set_option linter.unusedVariables false
namespace Go.Av
open Go

/-- Abstract values. -/
inductive AV where
  | top
  | v (x : Value)
  | agg (cs : List AV)
  | tup (vs : List AV)
  | lst (sz : Nat) (rows : List (List AV))
  | fp (cells : List AV)
  | ref (o g sz i off : Nat)
  | sl (o g sz i len : Nat)
  | fn (f : Fn) (first caps : List AV)
  | mp (o : Nat)
  | gd (g : Bool) (x : AV)
  deriving Inhabited

abbrev AV.int (n : Int) : AV := .v (.int .i64 n)
abbrev AV.bool (b : Bool) : AV := .v (.bool b)
abbrev AV.nils : AV := .v (.slice none 0 0)

inductive AObj where
  | rows (mt : Bool) (g sz : Nat) (rs : List (List AV))
  deriving Inhabited

abbrev Env := Nat → AV
abbrev Heap := Nat → Option AObj
/-- where the objects lie: generation; the block's address and its number of cells, or none for a nil slice -/
abbrev Place := Nat → Option (Nat × Option (Addr × Nat))

def upd {α : Type} (f : Nat → α) (k : Nat) (x : α) : Nat → α := fun j => if j = k then x else f j
theorem upd_apply {α : Type} (f : Nat → α) (k : Nat) (x : α) (j : Nat) : upd f k x j = if j = k then x else f j := rfl
theorem upd_same {α : Type} (f : Nat → α) (k : Nat) (x : α) : upd f k x k = x := by simp [upd]
theorem upd_ne {α : Type} (f : Nat → α) {k j : Nat} (x : α) (h : j ≠ k) : upd f k x j = f j := by simp [upd, h]

/-- the value of one cell -/
abbrev cellV (v : Value) : Bool := v.oneCell'

mutual
inductive Rel (φ : Place) (w : World) (M : Nat → Prop) : AV → Value → Prop
  | top (v : Value) : Rel φ w M .top v
  | v (x : Value) : Rel φ w M (.v x) x
  | agg {cs : List AV} {vs : List Value} (hv : ∀ u ∈ vs, cellV u = true) (h : RelL φ w M cs vs) : Rel φ w M (.agg cs) (.agg ⟨vs⟩)
  | tup {cs : List AV} {vs : List Value} (h : RelL φ w M cs vs) : Rel φ w M (.tup cs) (.tuple ⟨vs⟩)
  | nil (sz : Nat) (A : Option Addr) (cap : Nat) : Rel φ w M (.lst sz []) (.slice A 0 cap)
  | lst {sz : Nat} {rows : List (List AV)} {a : Addr} {len cap : Nat} {C : Array Value} {T : TypeId} {fz : Nat × Nat}
      (hs : a.spot = none) (hM : ¬ M a.block) (hb : w.heap[a.block]? = some (.cells C T fz)) (hr : ∀ r ∈ rows, r.length = sz)
      (hl : len = rows.length) (hc : a.off + rows.length * sz ≤ C.size) (hcap : len ≤ cap) (hv : ∀ u ∈ (C.toList.drop a.off).take (rows.length * sz), cellV u = true)
      (h : RelL φ w M rows.flatten ((C.toList.drop a.off).take (rows.length * sz))) : Rel φ w M (.lst sz rows) (.slice (some a) len cap)
  | fp {cells : List AV} {a : Addr} {C : Array Value} {T : TypeId} {fz : Nat × Nat}
      (hs : a.spot = none) (hM : ¬ M a.block) (hb : w.heap[a.block]? = some (.cells C T fz)) (hc : a.off + cells.length ≤ C.size)
      (hv : ∀ u ∈ (C.toList.drop a.off).take cells.length, cellV u = true)
      (h : RelL φ w M cells ((C.toList.drop a.off).take cells.length)) : Rel φ w M (.fp cells) (.pointer (some a))
  | ref {o g sz i off g' : Nat} {A : Option (Addr × Nat)} {v : Value} (ho : φ o = some (g', A)) (hg : g ≤ g')
      (h : g' = g → ∃ a bs, A = some (a, bs) ∧ v = .pointer (some ⟨a.block, a.off + i * sz + off, none⟩)) : Rel φ w M (.ref o g sz i off) v
  | sl {o g sz i len g' : Nat} {A : Option (Addr × Nat)} {v : Value} (ho : φ o = some (g', A)) (hg : g ≤ g')
      (h : g' = g → (A = none ∧ i = 0 ∧ len = 0 ∧ v = .slice none 0 0) ∨ (len = 0 ∧ ∃ a', v = .slice (some a') 0 0) ∨
        ∃ a bs cap, A = some (a, bs) ∧ v = .slice (some ⟨a.block, a.off + i * sz, none⟩) len cap ∧ len ≤ cap ∧ a.off + i * sz + cap * sz ≤ bs) : Rel φ w M (.sl o g sz i len) v
  | fn {f : Fn} {first caps : List AV} {fs cs : List Value} (h1 : RelL φ w M first fs) (h2 : RelL φ w M caps cs) : Rel φ w M (.fn f first caps) (.func f ⟨fs⟩ ⟨cs⟩)
  | gd {g : Bool} {x : AV} {v : Value} (h : g = true → Rel φ w M x v) (h' : g = false → v = undef) : Rel φ w M (.gd g x) v
inductive RelL (φ : Place) (w : World) (M : Nat → Prop) : List AV → List Value → Prop
  | nil : RelL φ w M [] []
  | cons {x : AV} {v : Value} {xs : List AV} {vs : List Value} (h : Rel φ w M x v) (t : RelL φ w M xs vs) : RelL φ w M (x :: xs) (v :: vs)
end

section lists
variable {φ : Place} {w : World} {M : Nat → Prop}
theorem RelL.length {xs : List AV} {vs : List Value} (h : RelL φ w M xs vs) : xs.length = vs.length := by
  induction xs generalizing vs with
  | nil => cases h; rfl
  | cons x xs ih => cases h with | cons h t => simp [ih t]
theorem RelL.get {xs : List AV} {vs : List Value} (h : RelL φ w M xs vs) (k : Nat) (hk : k < xs.length) (hv : k < vs.length) : Rel φ w M xs[k] vs[k] := by
  induction xs generalizing vs k with
  | nil => simp at hk
  | cons x xs ih =>
    cases h with
    | cons h t =>
      cases k with
      | zero => exact h
      | succ k => exact ih t k (by simpa using hk) (by simpa using hv)
theorem RelL.of_get {xs : List AV} {vs : List Value} (hl : xs.length = vs.length) (h : ∀ k (hk : k < xs.length) (hv : k < vs.length), Rel φ w M xs[k] vs[k]) : RelL φ w M xs vs := by
  induction xs generalizing vs with
  | nil => cases vs with
    | nil => exact .nil
    | cons => simp at hl
  | cons x xs ih => cases vs with
    | nil => simp at hl
    | cons v vs =>
      refine .cons (h 0 (by simp) (by simp)) (ih (by simpa using hl) fun k hk hv => ?_)
      have := h (k + 1) (by simpa using hk) (by simpa using hv)
      simpa using this
theorem RelL.append {xs ys : List AV} {vs us : List Value} (h : RelL φ w M xs vs) (h' : RelL φ w M ys us) : RelL φ w M (xs ++ ys) (vs ++ us) := by
  induction xs generalizing vs with
  | nil => cases h; exact h'
  | cons x xs ih => cases h with | cons h t => exact .cons h (ih t)
theorem RelL.take {xs : List AV} {vs : List Value} (h : RelL φ w M xs vs) (k : Nat) : RelL φ w M (xs.take k) (vs.take k) := by
  induction xs generalizing vs k with
  | nil => cases h; simp; exact .nil
  | cons x xs ih =>
    cases h with
    | cons h t =>
      cases k with
      | zero => exact .nil
      | succ k => exact .cons h (ih t k)
theorem RelL.drop {xs : List AV} {vs : List Value} (h : RelL φ w M xs vs) (k : Nat) : RelL φ w M (xs.drop k) (vs.drop k) := by
  induction xs generalizing vs k with
  | nil => cases h; simp; exact .nil
  | cons x xs ih =>
    cases h with
    | cons h t =>
      cases k with
      | zero => exact .cons h t
      | succ k => exact ih t k
theorem RelL.set {xs : List AV} {vs : List Value} (h : RelL φ w M xs vs) {x : AV} {v : Value} (hx : Rel φ w M x v) (k : Nat) : RelL φ w M (xs.set k x) (vs.set k v) := by
  induction xs generalizing vs k with
  | nil => cases h; exact .nil
  | cons y xs ih =>
    cases h with
    | cons h t =>
      cases k with
      | zero => exact .cons hx t
      | succ k => exact .cons h (ih t k)
end lists

/-- the blocks of the objects that may be written -/
def Mut (φ : Place) (H : Heap) : Nat → Prop := fun k => ∃ o g sz rs g' a bs, H o = some (.rows true g sz rs) ∧ φ o = some (g', some (a, bs)) ∧ a.block = k
def Or (A B : Nat → Prop) : Nat → Prop := fun k => A k ∨ B k

/-- a place grows: generations rise, and an object of the same generation lies where it lay -/
def Place.le (φ φ' : Place) : Prop := ∀ o x, φ o = some x → ∃ x', φ' o = some x' ∧ x.1 ≤ x'.1 ∧ (x'.1 = x.1 → x' = x)
theorem Place.le_refl (φ : Place) : φ.le φ := fun _ x h => ⟨x, h, Nat.le_refl _, fun _ => rfl⟩
theorem Place.le_trans {a b c : Place} (h : a.le b) (k : b.le c) : a.le c := by
  intro o x hx
  obtain ⟨y, hy, h1, h2⟩ := h o x hx
  obtain ⟨z, hz, k1, k2⟩ := k o y hy
  refine ⟨z, hz, Nat.le_trans h1 k1, fun e => ?_⟩
  have e1 : y.1 = x.1 := by omega
  have := h2 e1
  subst this
  exact k2 e

/-- RELATION PERSISTS: what is outside M lies as it lay; M' grows by new blocks alone; places grow. -/
theorem Rel.keep {φ φ' : Place} {w w' : World} {M M' : Nat → Prop} (hφ : φ.le φ')
    (hw : ∀ k, ¬ M k → k < w.heap.size → w'.heap[k]? = w.heap[k]?) (hM : ∀ k, M' k → M k ∨ w.heap.size ≤ k) :
    ∀ {x : AV} {v : Value}, Rel φ w M x v → Rel φ' w' M' x v := by
  have blk : ∀ {k : Nat} {o : Obj}, w.heap[k]? = some o → k < w.heap.size := fun h => (Array.getElem?_eq_some_iff.1 h).1
  intro x v h
  refine Rel.rec (φ := φ) (w := w) (M := M) (motive_1 := fun x v _ => Rel φ' w' M' x v) (motive_2 := fun xs vs _ => RelL φ' w' M' xs vs) ?_ ?_ ?_ ?_ ?_ ?_ ?_ ?_ ?_ ?_ ?_ ?_ ?_ h
  · exact fun v => .top v
  · exact fun v => .v v
  · exact fun hv _ ih => .agg hv ih
  · exact fun _ ih => .tup ih
  · exact fun sz A cap => .nil sz A cap
  · intro sz rows a len cap C T fz hs hm hb hr hl hc hcap hv _ ih
    have hlt := blk hb
    exact .lst hs (fun hk => (hM _ hk).elim hm (fun h => by omega)) ((hw _ hm hlt).trans hb) hr hl hc hcap hv ih
  · intro cells a C T fz hs hm hb hc hv _ ih
    have hlt := blk hb
    exact .fp hs (fun hk => (hM _ hk).elim hm (fun h => by omega)) ((hw _ hm hlt).trans hb) hc hv ih
  · intro o g sz i off g' A v ho hg h
    obtain ⟨⟨g'', A'⟩, hx, h1, h2⟩ := hφ o _ ho
    refine .ref hx (by simp at h1; omega) fun e => ?_
    simp at h1 h2
    have e' : g' = g := by omega
    obtain ⟨a, bs, hA, hv⟩ := h e'
    have := h2 (by omega)
    exact ⟨a, bs, by rw [this.2]; exact hA, hv⟩
  · intro o g sz i len g' A v ho hg h
    obtain ⟨⟨g'', A'⟩, hx, h1, h2⟩ := hφ o _ ho
    refine .sl hx (by simp at h1; omega) fun e => ?_
    simp at h1 h2
    have e' : g' = g := by omega
    have := h2 (by omega)
    rw [this.2]; exact h e'
  · exact fun _ _ ih1 ih2 => .fn ih1 ih2
  · exact fun _ h' ih => .gd ih h'
  · exact .nil
  · exact fun _ _ ih1 ih2 => .cons ih1 ih2
theorem RelL.keep {φ φ' : Place} {w w' : World} {M M' : Nat → Prop} (hφ : φ.le φ')
    (hw : ∀ k, ¬ M k → k < w.heap.size → w'.heap[k]? = w.heap[k]?) (hM : ∀ k, M' k → M k ∨ w.heap.size ≤ k)
    {xs : List AV} {vs : List Value} (h : RelL φ w M xs vs) : RelL φ' w' M' xs vs := by
  induction xs generalizing vs with
  | nil => cases h; exact .nil
  | cons x xs ih => cases h with | cons h t => exact .cons (h.keep hφ hw hM) (ih t)

end Go.Av
