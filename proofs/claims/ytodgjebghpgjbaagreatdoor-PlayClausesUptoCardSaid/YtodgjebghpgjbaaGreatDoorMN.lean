/- Our library, part 14: arguments, as the statements read them, are values of the abstract domain. -/
import Derived.Test.YtodgjebghpgjbaaGreatDoorAvC
import Derived.OpenShut
import Derived.Test.YtodgjebghpgjbaaGreatDoorRows
import Derived.Test.YtodgjebghpgjbaaGreatDoorDB
import Derived.Test.YtodgjebghpgjbaaGreatDoorRk
import Derived.Test.YtodgjebghpgjbaaGreatDoorDH
import Derived.Test.YtodgjebghpgjbaaGreatDoorGT
section
set_option linter.unusedSimpArgs false
set_option linter.unusedVariables false
namespace Go.Av
open Go

abbrev NoM : Nat → Prop := fun _ => False

structure Bulk (B : Nat) (bk : ∀ {H : Type}, DataW H → Nat) : Prop where
 len : ∀ {H : Type} (l r : List (DataW H)), bk (.slice l r) ≤ B → l.length ≤ maxLen → l.length ≤ B
 elem : ∀ {H : Type} (l r : List (DataW H)) d, d ∈ l → bk (.slice l r) ≤ B → bk d ≤ B
 part : ∀ {H : Type} (l : List (DataW H)) d, d ∈ l → bk (.agg l) ≤ B → bk d ≤ B
 str : ∀ {H : Type} (l : List UInt8), bk (DataW.lit (H := H) (.string l)) ≤ B → l.length ≤ maxLen → l.length ≤ B

theorem Bulk.any : Bulk maxLen (fun _ => 0) := ⟨fun _ _ _ h => h, fun _ _ _ _ _ => Nat.zero_le _, fun _ _ _ _ => Nat.zero_le _, fun _ _ h => h⟩

def Opn (P : Program) (B : Nat) (bk : ∀ {H : Type}, DataW H → Nat) {α : Type} (t : TypeId) (en : α → List AV) (Q : α → Prop) : Prop :=
 ∀ {H : Type} (enc : TypeId × Value → H) (w : World) (fuel : Nat) (cs : List Value) (d : DataW H) (ps : List MemPlace),
  DataW.trod enc P w 0 (fun _ => true) true fuel t cs = some (d, ps) → bk d ≤ B → ∃ x, RelL noP w NoM (en x) cs ∧ (∀ c ∈ cs, cellV c = true) ∧ cs.length = P.cellsOf t ∧ Q x

section
variable {P : Program} {B : Nat} {bk : ∀ {H : Type}, DataW H → Nat}
theorem Opn.int {t : TypeId} {k : IntKind} (ht : P.underlying t = some (.int k)) (hc : P.cellsOf t = 1) : Opn P B bk t (fun n : Int => [.v (.int k n)]) (fun n => (Lit.int k n).wf = true) := by
 intro H enc w fuel cs d ps h _
 obtain ⟨n, rfl, _, hw⟩ := DataW.trod_int ht h
 exact ⟨n, .cons (.v _) .nil, by simp [cellV, Value.oneCell'], by simp [hc], hw⟩
theorem Opn.bool {t : TypeId} (ht : P.underlying t = some .bool) (hc : P.cellsOf t = 1) : Opn P B bk t (fun b : Bool => [.v (.bool b)]) (fun _ => True) := by
 intro H enc w fuel cs d ps h _
 obtain ⟨n, rfl, _⟩ := DataW.trod_bool ht h
 exact ⟨n, .cons (.v _) .nil, by simp [cellV, Value.oneCell'], by simp [hc], trivial⟩
theorem Opn.string {t : TypeId} (hB : Bulk B bk) (ht : P.underlying t = some .string) (hc : P.cellsOf t = 1) : Opn P B bk t (fun s : ByteArray => [.v (.string s)]) (fun s => s.size ≤ B) := by
 intro H enc w fuel cs d ps h hb
 obtain ⟨n, rfl, hx, hm⟩ := DataW.trod_string ht h
 simp only [Prod.mk.injEq] at hx
 obtain ⟨rfl, _⟩ := hx
 refine ⟨n, .cons (.v _) .nil, by simp [cellV, Value.oneCell'], by simp [hc], ?_⟩
 have := hB.str _ hb (by simpa using hm)
 simpa using this
theorem Opn.imp {α : Type} {t : TypeId} {en : α → List AV} {Q Q' : α → Prop} (h : Opn P B bk t en Q) (hq : ∀ x, Q x → Q' x) : Opn P B bk t en Q' := by
 intro H enc w fuel cs d ps h1 h2
 obtain ⟨x, a, b, c, e⟩ := h enc w fuel cs d ps h1 h2
 exact ⟨x, a, b, c, hq x e⟩
theorem Opn.map {α β : Type} {t : TypeId} {en : α → List AV} {en' : β → List AV} {Q : α → Prop} {Q' : β → Prop} (h : Opn P B bk t en Q) (f : α → β) (hq : ∀ x, Q x → Q' (f x)) (he : ∀ x, Q x → en' (f x) = en x) : Opn P B bk t en' Q' := by
 intro H enc w fuel cs d ps h1 h2
 obtain ⟨x, a, b, c, e⟩ := h enc w fuel cs d ps h1 h2
 exact ⟨f x, by rw [he x e]; exact a, b, c, hq x e⟩
theorem cells?_get {w : World} {a : Addr} {n : Nat} {cs : List Value} (h : w.cells? 0 a n = some cs) : cs.length = n ∧ ∀ i, i < n → w.cell? (a.add i) = cs[i]? := by
 unfold World.cells? at h
 rw [if_pos (Nat.zero_le _)] at h
 exact ⟨by simpa using mapM_some_length h, fun i hi => mapM_some_get h i i (by simp [hi])⟩
theorem cell?_block {w : World} {a : Addr} {v : Value} (h : w.cell? a = some v) : ∃ C T fz, w.heap[a.block]? = some (.cells C T fz) ∧ a.spot = none ∧ C[a.off]? = some v := by
 unfold World.cell? at h
 split at h
 ·rename_i C T fz hb
  split at h
  ·cases h
  ·rename_i hs
   refine ⟨C, T, fz, hb, ?_, h⟩
   cases hsp : a.spot with
   | none => rfl
   | some x => simp [hsp] at hs
 ·cases h
theorem add_block (a : Addr) (n : Nat) : (a.add n).block = a.block := by unfold Addr.add; split <;> rfl
theorem add_off (a : Addr) (n : Nat) : (a.add n).off = a.off + n := by
 unfold Addr.add
 split
 ·rename_i h; subst h; rfl
 ·rfl
theorem relL_flatten {φ : Place} {w : World} {M : Nat → Prop} {rows : List (List AV)} {L : List Value} {sz : Nat} (hl : L.length = rows.length * sz)
  (h : ∀ i (hi : i < rows.length), RelL φ w M rows[i] ((L.drop (i * sz)).take sz)) : RelL φ w M rows.flatten L := by
 induction rows generalizing L with
 | nil => simp at hl; subst hl; exact .nil
 | cons r rows ih =>
  have h0 := h 0 (by simp)
  simp only [List.getElem_cons_zero, Nat.zero_mul, List.drop_zero] at h0
  rw [List.flatten_cons, ← List.take_append_drop sz L]
  refine RelL.append h0 (ih (by simp at hl ⊢; rw [hl, Nat.add_mul]; omega) fun i hi => ?_)
  have := h (i + 1) (by simpa using hi)
  simp only [List.getElem_cons_succ] at this
  rw [List.drop_drop, show sz + i * sz = (i + 1) * sz by rw [Nat.add_mul]; omega]
  exact this
theorem exists_list {α : Type} (n : Nat) (p : Nat → α → Prop) (h : ∀ i, i < n → ∃ x, p i x) : ∃ l : List α, l.length = n ∧ ∀ i (hi : i < l.length), p i l[i] := by
 induction n with
 | zero => exact ⟨[], rfl, fun i hi => by simp at hi⟩
 | succ n ih =>
  obtain ⟨l, hl, hp⟩ := ih fun i hi => h i (by omega)
  obtain ⟨x, hx⟩ := h n (by omega)
  refine ⟨l ++ [x], by simp [hl], fun i hi => ?_⟩
  rcases Nat.lt_or_ge i l.length with h1 | h1
  ·rw [List.getElem_append_left h1]; exact hp i h1
  ·have : i = n := by simp at hi; omega
   subst this
   simp [List.getElem_append_right, hl, hx]
theorem Opn.slice {α : Type} {t e : TypeId} {en : α → List AV} {Q : α → Prop} {sz : Nat} (hB : Bulk B bk) (ht : P.underlying t = some (.slice e)) (hc : P.cellsOf t = 1) (hz : P.cellsOf e = sz) (hp : 0 < sz)
  (he : Opn P B bk e en Q) : Opn P B bk t (fun l : List α => [.lst sz (l.map en)]) (fun l => l.length ≤ B ∧ ∀ x ∈ l, Q x) := by
 intro H enc w fuel cs d ps h hb
 rcases DataW.trod_slice ht h with ⟨rfl, _⟩ | ⟨a, len, cap, elems, rest, n, rfl, rfl, hx, _, hlen, hmax, hel, hget, _, _⟩
 ·exact ⟨[], .cons (.nil _ _ _) .nil, by simp [cellV, Value.oneCell'], by simp [hc], by simp, by simp⟩
 ·simp only [Prod.mk.injEq] at hx
  obtain ⟨rfl, _⟩ := hx
  rw [hz] at hget
  have key : ∀ i (hi : i < len), ∃ x ci, w.cells? 0 (a.add (i * sz)) sz = some ci ∧ RelL noP w NoM (en x) ci ∧ (∀ c ∈ ci, cellV c = true) ∧ Q x := by
   intro i hi
   have h1 := hget i hi
   rw [List.getElem?_eq_getElem (by omega), Option.bind_eq_some_iff] at h1
   obtain ⟨ci, h2, h3⟩ := h1
   obtain ⟨x, a1, a2, _, a4⟩ := he enc w n ci elems[i].1 elems[i].2 h3 (hB.elem _ _ _ (List.mem_map.2 ⟨elems[i], List.getElem_mem _, rfl⟩) hb)
   exact ⟨x, ci, h2, a1, a2, a4⟩
  have hlb : len ≤ B := by have := hB.len _ _ hb (by simp; omega); simp at this; omega
  obtain ⟨l, hl, hx⟩ := exists_list len _ key
  refine ⟨l, ?_, by simp [cellV, Value.oneCell'], by simp [hc], by omega, fun x hxm => ?_⟩
  ·rcases Nat.eq_zero_or_pos len with h0 | h0
   ·have : l = [] := List.eq_nil_of_length_eq_zero (by omega)
    subst this
    rw [h0]
    exact .cons (.nil _ _ _) .nil
   ·have cellI : ∀ i, i < len → ∀ j, j < sz → ∃ v, w.cell? (a.add (i * sz + j)) = some v ∧ cellV v = true := by
     intro i hi j hj
     obtain ⟨x, ci, h2, a1, a2, a3⟩ := key i hi
     obtain ⟨hcl, hcg⟩ := cells?_get h2
     refine ⟨ci[j], ?_, a2 _ (List.getElem_mem (by omega))⟩
     have := hcg j hj
     rw [List.getElem?_eq_getElem (by omega)] at this
     rw [← this]
     simp only [World.cell?, add_block, add_off, Nat.add_assoc]
     by_cases hj0 : j = 0
     ·subst hj0; simp [Addr.add]
     ·simp [Addr.add, hj0]
    obtain ⟨v0, hv0, _⟩ := cellI 0 h0 0 hp
    obtain ⟨C, T, fz, hC, hs, _⟩ := cell?_block hv0
    simp only [Nat.zero_mul, Nat.zero_add, Addr.add, if_true] at hC hs
    have cellC : ∀ k, k < len * sz → ∃ v, C[a.off + k]? = some v ∧ w.cell? (a.add k) = some v ∧ cellV v = true := by
     intro k hk
     have hi : k / sz < len := Nat.div_lt_of_lt_mul (by rw [Nat.mul_comm]; exact hk)
     have hj : k % sz < sz := Nat.mod_lt _ hp
     obtain ⟨v, h1, h2⟩ := cellI _ hi _ hj
     rw [show k / sz * sz + k % sz = k by rw [Nat.mul_comm]; exact Nat.div_add_mod k sz] at h1
     obtain ⟨C', T', fz', hC', hs', hv'⟩ := cell?_block h1
     rw [add_block, hC] at hC'
     simp only [Option.some.injEq, Obj.cells.injEq] at hC'
     obtain ⟨rfl, _, _⟩ := hC'
     rw [add_off] at hv'
     exact ⟨v, hv', h1, h2⟩
    have hsz : a.off + len * sz ≤ C.size := by
     have hpos : 0 < len * sz := Nat.mul_pos h0 hp
     obtain ⟨v, h1, _⟩ := cellC (len * sz - 1) (by omega)
     have := (Array.getElem?_eq_some_iff.1 h1).1
     omega
    have hL : ((C.toList.drop a.off).take (len * sz)).length = len * sz := by simp; omega
    have hget : ∀ k, k < len * sz → ((C.toList.drop a.off).take (len * sz))[k]? = C[a.off + k]? := by
     intro k hk
     rw [List.getElem?_take, if_pos hk, List.getElem?_drop]; simp
    have hrl : ∀ i (hi : i < l.length), ∃ ci, w.cells? 0 (a.add (i * sz)) sz = some ci ∧ RelL noP w NoM (en l[i]) ci := fun i hi => by
     obtain ⟨ci, h2, a1, _⟩ := hx i hi
     exact ⟨ci, h2, a1⟩
    refine .cons (.lst (C := C) (T := T) (fz := fz) hs (fun h => h) hC (fun r hr => ?_) (by simp; omega) (by rw [List.length_map, hl]; exact hsz) (by omega) (fun u hu => ?_) ?_) .nil
    ·obtain ⟨x, hxm, rfl⟩ := List.mem_map.1 hr
     obtain ⟨i, hi, rfl⟩ := List.getElem_of_mem hxm
     obtain ⟨ci, h2, a1⟩ := hrl i hi
     rw [a1.length, (cells?_get h2).1]
    ·rw [List.length_map, hl] at hu
     obtain ⟨k, hk, rfl⟩ := List.getElem_of_mem hu
     rw [hL] at hk
     obtain ⟨v, h1, _, h3⟩ := cellC k hk
     have := hget k hk
     rw [List.getElem?_eq_getElem (by omega), h1] at this
     simp only [Option.some.injEq] at this
     rw [this]; exact h3
    ·rw [List.length_map, hl]
     refine relL_flatten (sz := sz) (by rw [hL, List.length_map, hl]) fun i hi => ?_
     rw [List.length_map] at hi
     obtain ⟨ci, h2, a1⟩ := hrl i hi
     rw [List.getElem_map]
     obtain ⟨hcl, hcg⟩ := cells?_get h2
     have hle : (i + 1) * sz ≤ len * sz := Nat.mul_le_mul_right _ (by omega)
     rw [Nat.add_mul] at hle
     have : ci = (((C.toList.drop a.off).take (len * sz)).drop (i * sz)).take sz := by
      refine List.ext_getElem? fun j => ?_
      rcases Nat.lt_or_ge j sz with hj | hj
      ·rw [← hcg j hj, List.getElem?_take, if_pos hj, List.getElem?_drop, hget _ (by omega)]
       obtain ⟨v, h1, h3, _⟩ := cellC (i * sz + j) (by omega)
       rw [h1, ← h3]
       simp only [World.cell?, add_block, add_off, Nat.add_assoc]
       by_cases hj0 : j = 0
       ·subst hj0; simp [Addr.add]
       ·simp [Addr.add, hj0]
      ·rw [List.getElem?_eq_none (by omega), List.getElem?_eq_none (by simp; omega)]
     rw [← this]; exact a1
  ·obtain ⟨i, hi, rfl⟩ := List.getElem_of_mem hxm
   obtain ⟨ci, _, _, _, a4⟩ := hx i hi
   exact a4
theorem Opn.array {α : Type} {t e : TypeId} {en : α → List AV} {Q : α → Prop} {n sz : Nat} (hB : Bulk B bk) (ht : P.underlying t = some (.array n e)) (hz : P.cellsOf e = sz) (hc : P.cellsOf t = n * sz)
  (he : Opn P B bk e en Q) : Opn P B bk t (fun l : List α => (l.map en).flatten) (fun l => l.length = n ∧ ∀ x ∈ l, Q x) := by
 intro H enc w fuel cs d ps h hb
 obtain ⟨xs, m, _, hx, hl, hxl, hget⟩ := DataW.trod_array ht h
 simp only [Prod.mk.injEq] at hx
 obtain ⟨rfl, _⟩ := hx
 rw [hz] at hget
 have key : ∀ i, i < n → ∃ x, RelL noP w NoM (en x) ((cs.drop (i * sz)).take sz) ∧ (∀ c ∈ (cs.drop (i * sz)).take sz, cellV c = true) ∧ Q x := by
  intro i hi
  have h1 := hget i hi
  rw [List.getElem?_eq_getElem (by omega)] at h1
  obtain ⟨x, a1, a2, _, a4⟩ := he enc w m _ xs[i].1 xs[i].2 h1 (hB.part _ _ (List.mem_map.2 ⟨xs[i], List.getElem_mem _, rfl⟩) hb)
  exact ⟨x, a1, a2, a4⟩
 obtain ⟨l, hll, hx⟩ := exists_list n _ key
 rw [hc] at hl
 refine ⟨l, relL_flatten (sz := sz) (by rw [List.length_map, hll]; exact hl) (fun i hi => ?_), fun c hcm => ?_, by rw [hc]; exact hl, hll, fun x hxm => ?_⟩
 ·rw [List.length_map] at hi
  rw [List.getElem_map]; exact (hx i hi).1
 ·obtain ⟨k, hk, rfl⟩ := List.getElem_of_mem hcm
  have hp : 0 < sz := Nat.pos_of_ne_zero fun h0 => by subst h0; simp at hl; subst hl; simp at hk
  have hi : k / sz < n := Nat.div_lt_of_lt_mul (by rw [Nat.mul_comm, ← hl]; exact hk)
  have hj : k % sz < sz := Nat.mod_lt _ hp
  have e : k / sz * sz + k % sz = k := by rw [Nat.mul_comm]; exact Nat.div_add_mod k sz
  refine (hx (k / sz) (by omega)).2.1 _ (List.mem_iff_getElem?.2 ⟨k % sz, ?_⟩)
  rw [List.getElem?_take, if_pos hj, List.getElem?_drop, e]
  exact List.getElem?_eq_getElem hk
 ·obtain ⟨i, hi, rfl⟩ := List.getElem_of_mem hxm
  exact (hx i hi).2.2
def OpnF (P : Program) (B : Nat) (bk : ∀ {H : Type}, DataW H → Nat) {α : Type} (ts : List TypeId) (en : α → List AV) (Q : α → Prop) : Prop :=
 ∀ {H : Type} (enc : TypeId × Value → H) (w : World) (fuel : Nat) (cs : List Value), cs.length = (ts.map P.cellsOf).sum →
  (∀ i (hi : i < ts.length), ∃ d ps, DataW.trod enc P w 0 (fun _ => true) true fuel ts[i] ((cs.drop ((ts.take i).map P.cellsOf).sum).take (P.cellsOf ts[i])) = some (d, ps) ∧ bk d ≤ B) →
  ∃ x, RelL noP w NoM (en x) cs ∧ (∀ c ∈ cs, cellV c = true) ∧ Q x
theorem OpnF.nil : OpnF P B bk [] (fun _ : Unit => []) (fun _ => True) := by
 intro H enc w fuel cs hl _
 have : cs = [] := List.eq_nil_of_length_eq_zero (by simpa using hl)
 subst this
 exact ⟨(), .nil, by simp, trivial⟩
theorem OpnF.cons {α β : Type} {t : TypeId} {ts : List TypeId} {en : α → List AV} {Q : α → Prop} {en' : β → List AV} {Q' : β → Prop} (h : Opn P B bk t en Q) (h' : OpnF P B bk ts en' Q') :
  OpnF P B bk (t :: ts) (fun x : α × β => en x.1 ++ en' x.2) (fun x => Q x.1 ∧ Q' x.2) := by
 intro H enc w fuel cs hl hd
 obtain ⟨d, ps, h1, h2⟩ := hd 0 (by simp)
 simp only [List.getElem_cons_zero, List.take_zero, List.map_nil, List.sum_nil, List.drop_zero] at h1
 obtain ⟨x, a1, a2, a3, a4⟩ := h enc w fuel _ d ps h1 h2
 obtain ⟨y, b1, b2, b3⟩ := h' enc w fuel (cs.drop (P.cellsOf t)) (by simp at hl ⊢; omega) (fun i hi => by
  obtain ⟨d, ps, k1, k2⟩ := hd (i + 1) (by simpa using hi)
  simp only [List.getElem_cons_succ, List.take_succ_cons, List.map_cons, List.sum_cons] at k1
  exact ⟨d, ps, by rw [List.drop_drop]; exact k1, k2⟩)
 refine ⟨(x, y), ?_, fun c hc => ?_, a4, b3⟩
 ·rw [← List.take_append_drop (P.cellsOf t) cs]
  exact RelL.append a1 b1
 ·rw [← List.take_append_drop (P.cellsOf t) cs] at hc
  rcases List.mem_append.1 hc with hc | hc
  ·exact a2 c hc
  ·exact b2 c hc
def fieldsOk (P : Program) (t : TypeId) (ts : List TypeId) : Bool := match P.underlying t with
 | some (.struct fs) => decide (fs.toList.map (·.type) = ts) && decide (fs.toList.map (·.offset) = (List.range ts.length).map fun i => ((ts.take i).map P.cellsOf).sum) && decide (P.cellsOf t = (ts.map P.cellsOf).sum)
 | _ => false
theorem Opn.struct {α : Type} {t : TypeId} {ts : List TypeId} {en : α → List AV} {Q : α → Prop} (hB : Bulk B bk) (ht : fieldsOk P t ts = true) (h : OpnF P B bk ts en Q) : Opn P B bk t en Q := by
 unfold fieldsOk at ht
 split at ht
 ·rename_i fs hfs
  simp only [Bool.and_eq_true, decide_eq_true_eq] at ht
  obtain ⟨⟨h1, h2⟩, h3⟩ := ht
  intro H enc w fuel cs d ps hd hb
  obtain ⟨xs, n, _, hx, hl, hxl, hget⟩ := DataW.trod_struct hfs hd
  simp only [Prod.mk.injEq] at hx
  obtain ⟨rfl, _⟩ := hx
  have hlen : fs.size = ts.length := by rw [← h1]; simp
  obtain ⟨x, a1, a2, a3⟩ := h enc w n cs (by rw [hl, h3]) (fun i hi => by
   have hi' : i < fs.size := by omega
   have e1 : fs[i].type = ts[i] := by
    have := congrArg (fun l => l[i]?) h1
    simp [hi', List.getElem?_eq_getElem hi] at this
    exact this
   have e2 : fs[i].offset = ((ts.take i).map P.cellsOf).sum := by
    have := congrArg (fun l => l[i]?) h2
    simp [hi', hi] at this
    rw [this, List.map_take]
   have := hget i fs[i] (Array.getElem?_eq_getElem hi')
   rw [e1, e2, List.getElem?_eq_getElem (by omega)] at this
   exact ⟨xs[i].1, xs[i].2, this, hB.part _ _ (List.mem_map.2 ⟨xs[i], List.getElem_mem _, rfl⟩) hb⟩)
  exact ⟨x, a1, a2, hl, a3⟩
 ·cases ht
def outer (P : Program) (t : TypeId) : Bool := match P.underlying t with
 | some (.struct _) | some (.array _ _) => true
 | _ => false
def wrapAV (agg : Bool) (cs : List AV) : AV := if agg then .agg cs else cel cs 0
theorem Opn.arg {α : Type} {t : TypeId} {en : α → List AV} {Q : α → Prop} (h : Opn P B bk t en Q) {ag : Bool} (ho : outer P t = ag) (h1 : ag = false → P.cellsOf t = 1) {H : Type} {enc : TypeId × Value → H} {W : World} {base : Nat} {r : Reach} {v : Value} {d : DataW H} {ps : List MemPlace}
  (hval : Value.okWide P W r base t v) (hd : DataW.Trod enc P W 0 (fun _ => true) true t v d ps) (hb : bk d ≤ B) : ∃ x, Rel noP W NoM (wrapAV ag (en x)) v ∧ Q x := by
 obtain ⟨fuel, hd⟩ := hd
 obtain ⟨x, a1, a2, a3, a4⟩ := h enc W fuel _ d ps hd hb
 refine ⟨x, ?_, a4⟩
 unfold outer at ho
 unfold Value.okWide at hval
 split at ho
 ·rename_i hu
  subst ho
  rw [hu] at hval
  obtain ⟨cs, rfl, _, _⟩ := hval
  exact .agg (vs := cs.toList) a2 a1
 ·rename_i hu
  subst ho
  rw [hu] at hval
  obtain ⟨cs, rfl, _, _⟩ := hval
  exact .agg (vs := cs.toList) a2 a1
 ·subst ho
  rw [h1 rfl] at a3
  have hv : v.cells.toList = [v] := by
   unfold Value.cells at a3 a2 ⊢
   split
   ·rename_i cs
    exfalso
    split at hval
    ·simp_all
    ·simp_all
    ·unfold Cell.okWide at hval
     split at hval <;> simp_all [Cell.ok]
   ·rfl
  rw [hv] at a1
  cases he : en x with
  | nil => rw [he] at a1; cases a1
  | cons y ys =>
   rw [he] at a1
   cases a1 with
   | cons a1 _ => exact a1

theorem post_of_fr {f : Func} {s : ChangeSpec} {apart fresh handsOn again : Bool} {H : Type} {enc : TypeId × Value → H} {W W' : World} {args : Array Value} {v : Value} {ds gs : List (DataW H)} {before : List MemPlace}
  (hlo : laidOutB P = true) (hts : f.params.toList.all (fun t => P.readableRec t && decide (t < P.types.size)) = true) (hv : s.vars = [])
  (hW : DataW.Whole enc P f.params.toList s.vars apart W args.toList ds gs before)
  (hres : ∀ (b : Nat) (sp : Nat → Bool) (hd : Bool), DataW.TrodAll enc P W' b sp hd f.resultTypes.toList (v.resultList f.resultTypes.size) (s.fn H (ds ++ gs)).results [])
  (hargs : (s.fn H (ds ++ gs)).args = ds) (hvars : (s.fn H (ds ++ gs)).vars = [])
  (hfr : Fr W (fun _ => False) W')
  (hok : ∀ (j : Nat) (t : TypeId) (r : Value), f.resultTypes[j]? = some t → (v.resultList f.resultTypes.size)[j]? = some r → Value.okWide P W' .any 0 t r) :
  s.post enc P f apart fresh handsOn again W args v W' := by
 have hlt : ∀ p ∈ before, p.block < W.heap.size := fun p hp => hW.lt p hp
 have hsame : ∀ p : MemPlace, p.block < W.heap.size → W.sameAt W' p := fun p hp => (Go.RowKit.Below.same ⟨hfr.os, hfr.tape, hfr.output, hfr.size, fun k hk => hfr.block k hk (fun h => h)⟩ hp)
 obtain ⟨p, q, hA, hV, hpq, hz, hn⟩ := id hW
 rw [hv] at hV
 have hq : q = [] ∧ gs = [] := by
  cases gs with
  | nil => exact ⟨hV, rfl⟩
  | cons g gs => exact hV.elim
 obtain ⟨rfl, rfl⟩ := hq
 rw [List.append_nil] at hpq
 subst hpq
 have key : ∀ (sp : Nat → Bool) (ts : List TypeId) (vs : List Value) (ds : List (DataW H)) (ps : List MemPlace), ts.all (fun t => P.readableRec t && decide (t < P.types.size)) = true → (∀ x ∈ ps, x.block < W.heap.size) → (∀ x ∈ ps, sp x.block = true) →
   DataW.TrodAll enc P W 0 (fun _ => true) true ts vs ds ps → DataW.TrodAll enc P W' 0 sp true ts vs ds ps := by
  intro sp ts
  induction ts with
  | nil =>
   intro vs ds ps _ _ _ h
   cases vs <;> cases ds <;> simp [DataW.TrodAll] at h ⊢
   exact h
  | cons t ts ih =>
   intro vs ds ps ht hlt hsp h
   obtain ⟨v, vs', d, ds', a, b, rfl, rfl, rfl, h1, h2⟩ := ChangeShapes.trodAll_cons h
   simp only [List.all_cons, Bool.and_eq_true, decide_eq_true_eq] at ht
   obtain ⟨⟨hr, hs⟩, hts⟩ := ht
   exact ⟨a, b, WideElems.Trod_stays hlo hr hs h1 (fun x hx => hsame x (hlt x (List.mem_append_left _ hx))) (fun x hx => hsp x (List.mem_append_left _ hx)),
    ih _ _ _ (by simpa using hts) (fun x hx => hlt x (List.mem_append_right _ hx)) (fun x hx => hsp x (List.mem_append_right _ hx)) h2, rfl⟩
 have key' : ∀ sp : Nat → Bool, (∀ x ∈ before, sp x.block = true) → DataW.TrodAll enc P W' 0 sp true f.params.toList args.toList (s.fn H (ds ++ [])).args before := fun sp hsp => by
  rw [hargs]; exact key sp _ _ _ _ hts hlt hsp hA
 have kv : ∀ sp : Nat → Bool, DataW.TrodVars enc P W' sp s.vars (s.fn H (ds ++ [])).vars [] := fun sp => by rw [hv, hvars]; rfl
 refine ⟨ds, [], before, [], before, [], hW, hres _ _ _, key' _ (fun x hx => by simpa using hlt x hx), kv _, ?_, fun _ => ⟨hok, _, _, ([] ++ before) ++ [], ⟨[] ++ before, [], ChangeShapes.trodAll_append (key' _ fun _ _ => rfl) (hres _ _ _), kv _, rfl, ?_, ?_⟩, ?_⟩⟩
 ·refine ⟨hfr.os, hfr.output, fun i hi => ?_⟩
  rw [hfr.block i hi (fun h => h)]
  cases h : W.heap[i]? with
  | none => simp
  | some o => cases o <;> simp
 ·intro b off hp
  have hp' : MemPlace.cell b off ∈ before := by simpa using hp
  have hb := hlt _ hp'
  have := hz b off hp'
  unfold World.frozen? at this ⊢
  simp only [MemPlace.block] at hb
  rw [show W'.heap[b]? = W.heap[b]? from hfr.block b hb (fun h => h)]
  exact this
 ·intro ha
  simpa using hn ha
 ·intro x hx _
  simpa using hx
theorem contract_of_pure {f : FuncId} {fn : Func} {tb : TypeId} {s : ChangeSpec} {apart fresh handsOn again : Bool} {H : Type} {enc : TypeId × Value → H} {W : World} {args : Array Value} {ds gs : List (DataW H)} {before : List MemPlace}
  (hlo : laidOutB P = true) (hts : fn.params.toList.all (fun t => P.readableRec t && decide (t < P.types.size)) = true) (hv : s.vars = []) (hrt : fn.resultTypes = #[tb]) (hb : P.underlying tb = some .bool)
  (hW : DataW.Whole enc P fn.params.toList s.vars apart W args.toList ds gs before)
  (hfn : gs = [] → s.fn H (ds ++ gs) = { results := [.lit (.bool true)], args := ds }) {avs : List AV} (hp : Pure P f avs (.v (.bool true))) (hr : RelL noP W NoM avs args.toList) (hg : GlbOk W NoM := by intro p hp; simp [glbs] at hp) :
  Calls P f args W fun e W' => ∃ v, e = .returned v ∧ s.post enc P fn apart fresh handsOn again W args v W' := by
 have hgs : gs = [] := by
  obtain ⟨p, q, hA, hV, _⟩ := hW
  rw [hv] at hV
  cases gs with
  | nil => rfl
  | cons g gs => exact hV.elim
 have := hp.2 NoM W args.toList (fun k hk => hk.elim) hg hr
 rw [show (⟨args.toList⟩ : Array Value) = args from rfl] at this
 refine this.mono ?_
 rintro e W' ⟨v, rfl, hv', hfr⟩
 cases hv'
 refine ⟨_, rfl, post_of_fr hlo hts hv hW (fun b sp hd => ?_) (by rw [hfn hgs]) (by rw [hfn hgs]) hfr ?_⟩
 ·rw [hfn hgs, hrt]
  exact trodAll_cons_mk (RowKit.shut_bool hb _) ChangeShapes.trodAll_mk0
 ·exact RowKit.ok_one hrt rfl (RowKit.okWide_bool_mk hb true)
end
end Go.Av
end
section
set_option linter.unusedSimpArgs false
set_option linter.unusedVariables false
open Go Go.Proofs
namespace Go.Av
open Go.Proofs.YtodgjebghpgjbaaGreatDoor
theorem upto_one {H : Type} (d : DataW H) : 1 ≤ Rows.uptoBulk d := by
 cases d with
 | lit l => cases l <;> simp [Rows.uptoBulk]
 | _ => simp [Rows.uptoBulk]
theorem upto_part {H : Type} {d : DataW H} {l : List (DataW H)} (h : d ∈ l) : Rows.uptoBulk d ≤ Rows.uptoBulkAll l := by
 induction l with
 | nil => cases h
 | cons x r ih =>
  simp only [Rows.uptoBulkAll]
  rcases List.mem_cons.1 h with e | e
  ·subst e; omega
  ·have := ih e; omega
theorem upto_length {H : Type} (l : List (DataW H)) : l.length ≤ Rows.uptoBulkAll l := by
 induction l with
 | nil => simp [Rows.uptoBulkAll]
 | cons x r ih => have := upto_one x; simp only [Rows.uptoBulkAll, List.length_cons]; omega
theorem Bulk.upto {B : Nat} : Bulk B (fun d => Rows.uptoBulk d) where
 len := fun l r h _ => by
  have := upto_length l
  simp only [Rows.uptoBulk] at h; omega
 elem := fun l r d hd h => by
  have := upto_part hd
  simp only [Rows.uptoBulk] at h; omega
 part := fun l d hd h => by
  have := upto_part hd
  simp only [Rows.uptoBulk] at h; omega
 str := fun l h _ => by
  simp only [Rows.uptoBulk] at h; omega
theorem upto_bound {H : Type} {l : List (DataW H)} (hk : Rows.uptoSmall H l = true) {d : DataW H} (hd : d ∈ l) : Rows.uptoBulk d ≤ 1048576 := by
 have := upto_part hd
 have h := of_decide_eq_true hk
 omega
end Go.Av
end
section
set_option linter.unusedSimpArgs false
set_option linter.unusedVariables false
open Go Go.Proofs Go.Av
set_option maxRecDepth 100000
namespace Go.Av
open Go.Proofs.YtodgjebghpgjbaaGreatDoor
abbrev UpB : {H : Type} → DataW H → Nat := fun d => Rows.uptoBulk d
abbrev G3T := Int × Int × Int × List (List Int) × List (List Int) × List Int × Unit
def encG3T (x : G3T) : List AV := [.v (.int .u8 x.1)] ++ ([.v (.int .u8 x.2.1)] ++ ([.v (.int .u8 x.2.2.1)] ++ ((x.2.2.2.1.map fun l => [AV.lst 1 (l.map fun n => [.v (.int .u8 n)])]).flatten ++
 ([AV.lst 3 (x.2.2.2.2.1.map fun l => (l.map fun n => [AV.v (.int .u8 n)]).flatten)] ++ ((x.2.2.2.2.2.1.map fun n => [AV.v (.int .u8 n)]).flatten ++ [])))))
abbrev P4T := List Int × List Int × List Int × Int × Int × Unit
def encP4T (x : P4T) : List AV := (x.1.map fun n => [AV.v (.int .u8 n)]).flatten ++ ((x.2.1.map fun n => [AV.v (.int .u8 n)]).flatten ++ ((x.2.2.1.map fun n => [AV.v (.int .u8 n)]).flatten ++ ([.v (.int .u8 x.2.2.2.1)] ++ ([.v (.int .u8 x.2.2.2.2.1)] ++ []))))
abbrev U8W (n : Int) : Prop := (Lit.int .u8 n).wf = true
theorem opn_u8 : Opn Tryz.prog 1048576 UpB 5 (fun n : Int => [.v (.int .u8 n)]) U8W := Opn.int Tryz.underlying5 (by kernel_rfl)
theorem opn_u8s : Opn Tryz.prog 1048576 UpB 22 (fun l : List Int => [.lst 1 (l.map fun n => [.v (.int .u8 n)])]) (fun l => l.length ≤ 1048576 ∧ ∀ x ∈ l, U8W x) :=
 Opn.slice (sz := 1) Bulk.upto Tryz.underlying22 (by kernel_rfl) (by kernel_rfl) Nat.one_pos opn_u8
abbrev I64W (n : Int) : Prop := (Lit.int .i64 n).wf = true
theorem opn_ints : Opn Tryz.prog 1048576 UpB 33 (fun l : List Int => [.lst 1 (l.map fun n => [.v (.int .i64 n)])]) (fun l => l.length ≤ 1048576 ∧ ∀ x ∈ l, I64W x) :=
 Opn.slice (sz := 1) Bulk.upto Tryz.underlying33 (by kernel_rfl) (by kernel_rfl) Nat.one_pos (Opn.int Tryz.underlying3 (by kernel_rfl))
theorem opn_g3 : Opn Tryz.prog 1048576 UpB 27 encRaw (fun x => RawOk x ∧ x.k0.length ≤ 1048576 ∧ x.k1.length ≤ 1048576 ∧ x.c.length ≤ 1048576) := by
 have hK : Opn Tryz.prog 1048576 UpB 23 (fun l : List (List Int) => (l.map fun l => [AV.lst 1 (l.map fun n => [.v (.int .u8 n)])]).flatten) (fun l => l.length = 2 ∧ ∀ x ∈ l, x.length ≤ 1048576 ∧ ∀ y ∈ x, U8W y) :=
  Opn.array (sz := 1) (n := 2) Bulk.upto Tryz.underlying23 (by kernel_rfl) (by kernel_rfl) opn_u8s
 have h3 : Opn Tryz.prog 1048576 UpB 61 (fun l : List Int => (l.map fun n => [AV.v (.int .u8 n)]).flatten) (fun l => l.length = 3 ∧ ∀ x ∈ l, U8W x) :=
  Opn.array (sz := 1) (n := 3) Bulk.upto Tryz.underlying61 (by kernel_rfl) (by kernel_rfl) opn_u8
 have hC : Opn Tryz.prog 1048576 UpB 24 (fun l : List (List Int) => [.lst 3 (l.map fun l => (l.map fun n => [AV.v (.int .u8 n)]).flatten)]) (fun l => l.length ≤ 1048576 ∧ ∀ x ∈ l, x.length = 3 ∧ ∀ y ∈ x, U8W y) :=
  Opn.slice (sz := 3) Bulk.upto Tryz.underlying24 (by kernel_rfl) (by kernel_rfl) (by decide) h3
 have hFF : Opn Tryz.prog 1048576 UpB 25 (fun l : List Int => (l.map fun n => [AV.v (.int .u8 n)]).flatten) (fun l => l.length = 6 ∧ ∀ x ∈ l, U8W x) :=
  Opn.array (sz := 1) (n := 6) Bulk.upto Tryz.underlying25 (by kernel_rfl) (by kernel_rfl) opn_u8
 have hF : OpnF Tryz.prog 1048576 UpB [5, 5, 5, 23, 24, 25] encG3T (fun x => U8W x.1 ∧ U8W x.2.1 ∧ U8W x.2.2.1 ∧ (x.2.2.2.1.length = 2 ∧ ∀ z ∈ x.2.2.2.1, z.length ≤ 1048576 ∧ ∀ y ∈ z, U8W y) ∧
   (x.2.2.2.2.1.length ≤ 1048576 ∧ ∀ z ∈ x.2.2.2.2.1, z.length = 3 ∧ ∀ y ∈ z, U8W y) ∧ (x.2.2.2.2.2.1.length = 6 ∧ ∀ y ∈ x.2.2.2.2.2.1, U8W y) ∧ True) :=
  OpnF.cons opn_u8 (OpnF.cons opn_u8 (OpnF.cons opn_u8 (OpnF.cons hK (OpnF.cons hC (OpnF.cons hFF OpnF.nil)))))
 have hT : Opn Tryz.prog 1048576 UpB 27 encG3T (fun x => U8W x.1 ∧ U8W x.2.1 ∧ U8W x.2.2.1 ∧ (x.2.2.2.1.length = 2 ∧ ∀ z ∈ x.2.2.2.1, z.length ≤ 1048576 ∧ ∀ y ∈ z, U8W y) ∧
   (x.2.2.2.2.1.length ≤ 1048576 ∧ ∀ z ∈ x.2.2.2.2.1, z.length = 3 ∧ ∀ y ∈ z, U8W y) ∧ (x.2.2.2.2.2.1.length = 6 ∧ ∀ y ∈ x.2.2.2.2.2.1, U8W y) ∧ True) := Opn.struct Bulk.upto (by kernel_rfl) hF
 intro H enc w fuel cs d ps k1 k2
 obtain ⟨x, r1, r2, r3, hx⟩ := hT enc w fuel cs d ps k1 k2
 obtain ⟨W, Hh, cut, K, C, F, ⟨⟩⟩ := x
 obtain ⟨h1, h2, h3', ⟨h4, h4'⟩, ⟨h5, h5'⟩, ⟨h6, h6'⟩, _⟩ := hx
 simp only at h1 h2 h3' h4 h4' h5 h5' h6 h6'
 match K, h4 with
 | [ka, kb], _ =>
  match F, h6 with
  | [f0, f1, f2, f3, f4, f5], _ =>
   have hCl : ∀ (C : List (List Int)), (∀ z ∈ C, z.length = 3) → (C.map fun l => (nth l 0, nth l 1, nth l 2)).map encC3 = C.map fun l => (l.map fun n => [AV.v (.int .u8 n)]).flatten := by
    intro C hC
    rw [List.map_map]
    refine List.map_congr_left fun l hl => ?_
    have := hC l hl
    match l, this with
    | [a, b, c], _ => rfl
   refine ⟨⟨W, Hh, cut, ka, kb, C.map fun l => (nth l 0, nth l 1, nth l 2), f0, f1, f2, f3, f4, f5⟩, ?_, r2, r3, ⟨bounds_u8 h1, bounds_u8 h2, bounds_u8 h3', fun n hn => bounds_u8 ((h4' ka (by simp)).2 n hn), fun n hn => bounds_u8 ((h4' kb (by simp)).2 n hn), ?_,
    bounds_u8 (h6' f0 (by simp)), bounds_u8 (h6' f1 (by simp)), bounds_u8 (h6' f2 (by simp)), bounds_u8 (h6' f3 (by simp)), bounds_u8 (h6' f4 (by simp)), bounds_u8 (h6' f5 (by simp))⟩, (h4' ka (by simp)).1, (h4' kb (by simp)).1, by simpa using h5⟩
   ·unfold encRaw
    simp only
    rw [hCl C (fun z hz => (h5' z hz).1)]
    exact r1
   ·intro t ht
    obtain ⟨z, hz, rfl⟩ := List.mem_map.1 ht
    obtain ⟨q1, q2⟩ := h5' z hz
    match z, q1 with
    | [a, b, c], _ => exact ⟨bounds_u8 (q2 a (by simp)), bounds_u8 (q2 b (by simp)), bounds_u8 (q2 c (by simp))⟩
theorem opn_p4 : Opn Tryz.prog 1048576 UpB 30 encRawP RawPOk := by
 have hFF : Opn Tryz.prog 1048576 UpB 25 (fun l : List Int => (l.map fun n => [AV.v (.int .u8 n)]).flatten) (fun l => l.length = 6 ∧ ∀ x ∈ l, U8W x) :=
  Opn.array (sz := 1) (n := 6) Bulk.upto Tryz.underlying25 (by kernel_rfl) (by kernel_rfl) opn_u8
 have h4 : Opn Tryz.prog 1048576 UpB 28 (fun l : List Int => (l.map fun n => [AV.v (.int .u8 n)]).flatten) (fun l => l.length = 4 ∧ ∀ x ∈ l, U8W x) :=
  Opn.array (sz := 1) (n := 4) Bulk.upto Tryz.underlying28 (by kernel_rfl) (by kernel_rfl) opn_u8
 have hF : OpnF Tryz.prog 1048576 UpB [25, 25, 28, 5, 5] encP4T (fun x => (x.1.length = 6 ∧ ∀ y ∈ x.1, U8W y) ∧ (x.2.1.length = 6 ∧ ∀ y ∈ x.2.1, U8W y) ∧ (x.2.2.1.length = 4 ∧ ∀ y ∈ x.2.2.1, U8W y) ∧ U8W x.2.2.2.1 ∧ U8W x.2.2.2.2.1 ∧ True) :=
  OpnF.cons hFF (OpnF.cons hFF (OpnF.cons h4 (OpnF.cons opn_u8 (OpnF.cons opn_u8 OpnF.nil))))
 have hT : Opn Tryz.prog 1048576 UpB 30 encP4T (fun x => (x.1.length = 6 ∧ ∀ y ∈ x.1, U8W y) ∧ (x.2.1.length = 6 ∧ ∀ y ∈ x.2.1, U8W y) ∧ (x.2.2.1.length = 4 ∧ ∀ y ∈ x.2.2.1, U8W y) ∧ U8W x.2.2.2.1 ∧ U8W x.2.2.2.2.1 ∧ True) := Opn.struct Bulk.upto (by kernel_rfl) hF
 intro H enc w fuel cs d ps k1 k2
 obtain ⟨x, r1, r2, r3, hx⟩ := hT enc w fuel cs d ps k1 k2
 obtain ⟨c, k, h, r, s, ⟨⟩⟩ := x
 obtain ⟨⟨a1, a2⟩, ⟨b1, b2⟩, ⟨c1, c2⟩, d1, e1, _⟩ := hx
 simp only at a1 a2 b1 b2 c1 c2 d1 e1
 have hfl : ∀ l : List Int, (l.map fun n => [AV.v (.int .u8 n)]).flatten = l.map fun n => AV.v (.int .u8 n) := fun l => by
  induction l with
  | nil => rfl
  | cons x l ih => simp only [List.map_cons, List.flatten_cons, ih]; rfl
 refine ⟨⟨c, k, h, r, s⟩, ?_, r2, r3, ⟨a1, b1, c1, fun n hn => bounds_u8 (a2 n hn), fun n hn => bounds_u8 (b2 n hn), fun n hn => bounds_u8 (c2 n hn), bounds_u8 d1, bounds_u8 e1⟩⟩
 unfold encP4T at r1
 rw [hfl, hfl, hfl] at r1
 exact r1
theorem opn_u8x3 : Opn Tryz.prog 1048576 UpB 61 (fun y : Int × Int × Int => [AV.v (.int .u8 y.1), AV.v (.int .u8 y.2.1), AV.v (.int .u8 y.2.2)]) (fun y => U8 y.1 ∧ U8 y.2.1 ∧ U8 y.2.2) := by
 have hA : Opn Tryz.prog 1048576 UpB 61 (fun l : List Int => (l.map fun n => [AV.v (.int .u8 n)]).flatten) (fun l => l.length = 3 ∧ ∀ x ∈ l, U8W x) :=
  Opn.array (sz := 1) (n := 3) Bulk.upto Tryz.underlying61 (by kernel_rfl) (by kernel_rfl) opn_u8
 intro H enc w fuel cs d ps k1 k2
 obtain ⟨x, r1, r2, r3, h1, h2⟩ := hA enc w fuel cs d ps k1 k2
 match x, h1 with
 | [a, b, c], _ => exact ⟨(a, b, c), r1, r2, r3, bounds_u8 (h2 a (by simp)), bounds_u8 (h2 b (by simp)), bounds_u8 (h2 c (by simp))⟩
end Go.Av
end
section
set_option linter.unusedSimpArgs false
set_option linter.unusedVariables false
open Go Go.Proofs Go.Av
set_option maxRecDepth 100000
namespace Go.Av
open Go.Proofs.YtodgjebghpgjbaaGreatDoor
theorem opn_raw6 : Opn Tryz.prog 1048576 UpB 32 encRaw6 Raw6Ok := by
 have hF : OpnF Tryz.prog 1048576 UpB [27, 30, 22] (fun x : RawG × RawP × List Int × Unit => encRaw x.1 ++ (encRawP x.2.1 ++ ([.lst 1 (x.2.2.1.map fun n => [.v (.int .u8 n)])] ++ [])))
   (fun x => (RawOk x.1 ∧ x.1.k0.length ≤ 1048576 ∧ x.1.k1.length ≤ 1048576 ∧ x.1.c.length ≤ 1048576) ∧ RawPOk x.2.1 ∧ (x.2.2.1.length ≤ 1048576 ∧ ∀ y ∈ x.2.2.1, U8W y) ∧ True) := OpnF.cons opn_g3 (OpnF.cons opn_p4 (OpnF.cons opn_u8s OpnF.nil))
 have hT : Opn Tryz.prog 1048576 UpB 32 (fun x : RawG × RawP × List Int × Unit => encRaw x.1 ++ (encRawP x.2.1 ++ ([.lst 1 (x.2.2.1.map fun n => [.v (.int .u8 n)])] ++ [])))
   (fun x => (RawOk x.1 ∧ x.1.k0.length ≤ 1048576 ∧ x.1.k1.length ≤ 1048576 ∧ x.1.c.length ≤ 1048576) ∧ RawPOk x.2.1 ∧ (x.2.2.1.length ≤ 1048576 ∧ ∀ y ∈ x.2.2.1, U8W y) ∧ True) := Opn.struct Bulk.upto (by kernel_rfl) hF
 intro H enc w fuel cs d ps k1 k2
 obtain ⟨x, r1, r2, r3, hx⟩ := hT enc w fuel cs d ps k1 k2
 obtain ⟨g, p, k, ⟨⟩⟩ := x
 obtain ⟨⟨a1, a2, a3, a4⟩, b1, ⟨c1, c2⟩, _⟩ := hx
 simp only at a1 a2 a3 a4 b1 c1 c2
 exact ⟨⟨g, p, k⟩, r1, r2, r3, ⟨a1, b1, fun n hn => bounds_u8 (c2 n hn), by simp only; omega, by simp only; omega, by simp only; omega, by simp only; omega⟩⟩
end Go.Av
end
section
set_option linter.unusedSimpArgs false
set_option linter.unusedVariables false
open Go Go.Proofs
namespace Go.Av
theorem len_sub {α : Type} [DecidableEq α] : ∀ {l r : List α}, l.Nodup → (∀ x ∈ l, x ∈ r) → l.length ≤ r.length
 | [], r, _, _ => by simp
 | x :: l, r, hn, hs => by
  rw [List.nodup_cons] at hn
  have hx := hs x (by simp)
  have := len_sub (l := l) (r := r.erase x) hn.2 (fun y hy => by
   have hne : y ≠ x := fun h => hn.1 (h ▸ hy)
   exact (List.mem_erase_of_ne hne).2 (hs y (by simp [hy])))
  rw [List.length_erase_of_mem hx] at this
  have := List.length_pos_of_mem hx
  simp only [List.length_cons]
  omega
theorem addS_memK : ∀ {more l : List StD} {s : StD}, s ∈ addS l more ↔ s ∈ l ∨ s ∈ more
 | [], l, s => by simp [addS]
 | x :: more, l, s => by
  show s ∈ addS (if x ∈ l then l else l ++ [x]) more ↔ _
  rw [addS_memK]
  split
  ·rename_i h
   simp only [List.mem_cons]
   exact ⟨fun h => by rcases h with h | h <;> simp [h], fun h' => by rcases h' with h' | rfl | h' <;> simp [*]⟩
  ·simp [or_assoc]
theorem addS_nodup : ∀ {more l : List StD}, l.Nodup → (addS l more).Nodup
 | [], l, h => h
 | x :: more, l, h => by
  show (addS (if x ∈ l then l else l ++ [x]) more).Nodup
  split
  ·exact addS_nodup h
  ·rename_i hx
   refine addS_nodup (List.nodup_append.2 ⟨h, by simp, ?_⟩)
   intro a ha b hb e
   simp only [List.mem_singleton] at hb
   subst hb; subst e
   exact hx ha
theorem nextS_foldK (g : GameD) (x : Int × Int) : ∀ (now acc : List StD) (s : StD), s ∈ now.foldl (fun next s => addS next (stepS g s x)) acc ↔ s ∈ acc ∨ ∃ r ∈ now, s ∈ stepS g r x
 | [], acc, s => by simp
 | r :: now, acc, s => by
  rw [List.foldl_cons, nextS_foldK g x now, addS_memK]
  simp [or_assoc]
theorem nextS_memK {g : GameD} {x : Int × Int} {now : List StD} {s : StD} : s ∈ nextS g now x ↔ ∃ r ∈ now, s ∈ stepS g r x := by
 unfold nextS
 rw [nextS_foldK]
 simp
theorem nextS_nodupK (g : GameD) (x : Int × Int) : ∀ (now acc : List StD), acc.Nodup → (now.foldl (fun next s => addS next (stepS g s x)) acc).Nodup
 | [], acc, h => h
 | r :: now, acc, h => nextS_nodupK g x now _ (addS_nodup h)
theorem nextS_nodup (g : GameD) (now : List StD) (x : Int × Int) : (nextS g now x).Nodup := nextS_nodupK g x now [] (by simp)
theorem fold_nodup (g : GameD) : ∀ (prog : List (Int × Int)) (now : List StD), now.Nodup → (prog.foldl (nextS g) now).Nodup
 | [], now, h => h
 | x :: prog, now, _ => fold_nodup g prog _ (nextS_nodup g now x)
def curS (s : StD) (c : Int) : StD := { s with cursor := c }
def FewS (n : Nat) (l : List StD) : Prop := ∃ B : List StD, B.length ≤ n ∧ ∀ s ∈ l, ∃ t ∈ B, s = curS t s.cursor
theorem slideGo_cur {s : StD} : ∀ {l : List Int}, ∀ t ∈ slideGo s l, t = curS s t.cursor
 | [], t, h => by simp [slideGo] at h
 | c :: l, t, h => by
  rw [slideGo, List.mem_cons] at h
  rcases h with rfl | h
  ·rfl
  ·split at h
   ·exact slideGo_cur t h
   ·simp at h
def moveOp (x : Int × Int) : Bool := x.1 == 6 || x.1 == 7
theorem onlyS_mem {s t : StD} {b : Bool} (h : t ∈ onlyS s b) : t = s := by
 unfold onlyS at h
 split at h <;> simp at h
 exact h
theorem stepS_base (g : GameD) (x : Int × Int) (hx : moveOp x = false) : ∃ f : StD → StD, ∀ t c, ∀ u ∈ stepS g (curS t c) x, u = curS (f t) u.cursor := by
 simp only [moveOp, Bool.or_eq_false_iff, beq_eq_false_iff_ne] at hx
 by_cases h8 : x.1 = 8
 ·refine ⟨fun t => { t with kind := x.2 }, fun t c u hu => ?_⟩
  simp [stepS, h8] at hu
  subst hu; rfl
 by_cases h10 : x.1 = 10
 ·refine ⟨fun t => { t with p := { t.p with rights := andNotN .i64 t.p.rights (2 ^ x.2.toNat) } }, fun t c u hu => ?_⟩
  simp [stepS, h10] at hu
  subst hu; rfl
 refine ⟨id, fun t c u hu => ?_⟩
 unfold stepS at hu
 simp only [h8, h10, hx.1, hx.2, if_false] at hu
 repeat' split at hu
 ·have := onlyS_mem hu; subst this; rfl
 ·have := slideGo_cur u hu
  rw [this]; rfl
 ·have := onlyS_mem hu; subst this; rfl
 ·have := onlyS_mem hu; subst this; rfl
 ·have := onlyS_mem hu; subst this; rfl
 ·have := onlyS_mem hu; subst this; rfl
 ·simp at hu; subst hu; rfl
theorem stepS_one (g : GameD) (s : StD) (x : Int × Int) (hx : moveOp x = true) : (stepS g s x).length ≤ 1 := by
 simp only [moveOp, Bool.or_eq_true, beq_iff_eq] at hx
 unfold stepS
 rcases hx with h | h
 ·simp only [h]
  rw [if_neg (by decide), if_neg (by decide), if_neg (by decide), if_neg (by decide), if_neg (by decide), if_pos trivial]
  unfold takeS
  simp only
  split
  ·simp
  ·split
   ·split <;> simp
   ·simp
 ·simp only [h]
  rw [if_neg (by decide), if_neg (by decide), if_neg (by decide), if_neg (by decide), if_neg (by decide), if_neg (by decide), if_pos trivial]
  unfold pushS
  simp only
  split <;> simp
theorem flatMap_leK {α β : Type} (f : α → List β) (m : Nat) : ∀ (l : List α), (∀ x ∈ l, (f x).length ≤ m) → (l.flatMap f).length ≤ l.length * m
 | [], _ => by simp
 | x :: l, h => by
  have := flatMap_leK f m l (fun y hy => h y (by simp [hy]))
  have := h x (by simp)
  rw [List.flatMap_cons, List.length_append, List.length_cons, Nat.succ_mul]
  omega
theorem fewS_next {g : GameD} {now : List StD} {x : Int × Int} {n : Nat} (hc : ∀ s ∈ now, 0 ≤ s.cursor ∧ s.cursor < 9) (h : FewS n now) : FewS (n * (if moveOp x then 9 else 1)) (nextS g now x) := by
 obtain ⟨B, hB, hs⟩ := h
 by_cases hx : moveOp x = true
 ·refine ⟨B.flatMap fun t => (List.range 9).flatMap fun (c : Nat) => stepS g (curS t c) x, ?_, fun u hu => ?_⟩
  ·have h1 := flatMap_leK (fun t : StD => (List.range 9).flatMap fun (c : Nat) => stepS g (curS t c) x) 9 B (fun t _ => by
    have := flatMap_leK (fun (c : Nat) => stepS g (curS t c) x) 1 (List.range 9) (fun c _ => stepS_one g _ x hx)
    simpa using this)
   rw [if_pos hx]
   exact Nat.le_trans h1 (Nat.mul_le_mul_right 9 hB)
  ·obtain ⟨r, hr, hu⟩ := nextS_memK.1 hu
   obtain ⟨t, ht, e⟩ := hs r hr
   have := hc r hr
   refine ⟨u, List.mem_flatMap.2 ⟨t, ht, List.mem_flatMap.2 ⟨r.cursor.toNat, by simp; omega, ?_⟩⟩, rfl⟩
   rw [show ((r.cursor.toNat : Nat) : Int) = r.cursor by omega, ← e]
   exact hu
 ·simp only [Bool.not_eq_true] at hx
  obtain ⟨f, hf⟩ := stepS_base g x hx
  refine ⟨B.map f, by simp [hx]; exact hB, fun u hu => ?_⟩
  obtain ⟨r, hr, hu⟩ := nextS_memK.1 hu
  obtain ⟨t, ht, e⟩ := hs r hr
  rw [e] at hu
  exact ⟨f t, List.mem_map_of_mem ht, hf t _ u hu⟩
theorem next_ok {g : GameD} (hg : GOk g) {now : List StD} {x : Int × Int} (hx : StepOk g.next.length g.kinds.length g.rights x) (hn : ∀ s ∈ now, StOk g s) : ∀ s ∈ nextS g now x, StOk g s := by
 intro s hs
 obtain ⟨r, hr, hs⟩ := nextS_memK.1 hs
 exact (stepS_ok hg (hn r hr) hx s hs).1
theorem fewS_fold {g : GameD} (hg : GOk g) : ∀ (prog : List (Int × Int)) (now : List StD) (n : Nat), (∀ x ∈ prog, StepOk g.next.length g.kinds.length g.rights x) → (∀ s ∈ now, StOk g s) → FewS n now →
  FewS (n * 9 ^ prog.countP moveOp) (prog.foldl (nextS g) now)
 | [], now, n, _, _, h => by simpa using h
 | x :: prog, now, n, hp, hn, h => by
  have h9 := hg.c9
  have h1 := fewS_next (g := g) (x := x) (fun s hs => ⟨(hn s hs).c0, by have := (hn s hs).c1; omega⟩) h
  have h2 := fewS_fold hg prog _ _ (fun y hy => hp y (by simp [hy])) (next_ok hg (hp x (by simp)) hn) h1
  rw [List.foldl_cons, List.countP_cons]
  have e : n * (if moveOp x = true then 9 else 1) * 9 ^ prog.countP moveOp = n * 9 ^ (prog.countP moveOp + if moveOp x = true then 1 else 0) := by
   by_cases hx : moveOp x = true
   ·rw [if_pos hx, if_pos hx, Nat.pow_succ, Nat.mul_assoc, Nat.mul_comm 9]
   ·rw [if_neg hx, if_neg hx, Nat.mul_one, Nat.add_zero]
  rw [← e]
  exact h2
theorem fewS_len {l : List StD} {n : Nat} (hn : l.Nodup) (hc : ∀ s ∈ l, 0 ≤ s.cursor ∧ s.cursor < 9) (h : FewS n l) : l.length ≤ n * 9 := by
 obtain ⟨B, hB, hs⟩ := h
 have h1 := len_sub (r := B.flatMap fun t => (List.range 9).map fun (c : Nat) => curS t c) hn (fun s h => by
  obtain ⟨t, ht, e⟩ := hs s h
  have := hc s h
  refine List.mem_flatMap.2 ⟨t, ht, List.mem_map.2 ⟨s.cursor.toNat, by simp; omega, ?_⟩⟩
  rw [show ((s.cursor.toNat : Nat) : Int) = s.cursor by omega, ← e])
 have h2 := flatMap_leK (fun t : StD => (List.range 9).map fun (c : Nat) => curS t c) 9 B (fun t _ => by simp)
 exact Nat.le_trans h1 (Nat.le_trans h2 (Nat.mul_le_mul_right 9 hB))
theorem countP_move (prog : List (Int × Int)) : prog.countP moveOp ≤ countOp prog 6 + countOp prog 7 := by
 unfold countOp
 induction prog with
 | nil => simp
 | cons x l ih =>
  simp only [List.countP_cons, moveOp]
  by_cases h6 : x.1 = 6
  ·simp [h6]; omega
  ·by_cases h7 : x.1 = 7
   ·simp [h7]; omega
   ·simp [h6, h7]; omega
theorem lastS_len {g : GameD} (hg : GOk g) {p : PosD} (hp : POk g p) {cell i : Int} (hc : ChoiceOk g p cell i) : (lastS g p cell (progOf g p cell i)).length ≤ 6561 := by
 have hpg := prog_ok hg hp hc
 have hst := (startS_ok hg hp hc.c0 hc.c1 hc.man).1
 have h1 := fewS_fold hg (progOf g p cell i) [startS p cell] 1 hpg.st (fun s hs => by simp at hs; subst hs; exact hst) ⟨[startS p cell], by simp, fun s hs => ⟨s, hs, rfl⟩⟩
 have h9 := hg.c9
 have h2 := fewS_len (fold_nodup g (progOf g p cell i) [startS p cell] (by simp)) (fun s hs => by
  have := ((lastS_ok hg hp hc).1 s hs).1
  exact ⟨this.c0, by have := this.c1; omega⟩) h1
 have h3 : (progOf g p cell i).countP moveOp ≤ 3 := by
  have := countP_move (progOf g p cell i)
  have := hpg.take
  have := hpg.push
  omega
 have h4 : 9 ^ (progOf g p cell i).countP moveOp ≤ 9 ^ 3 := Nat.pow_le_pow_right (by omega) h3
 have h5 : (lastS g p cell (progOf g p cell i)).length ≤ 1 * 9 ^ (progOf g p cell i).countP moveOp * 9 := h2
 omega
theorem runsP_len2 {g : GameD} (hg : GOk g) {p : PosD} (hp : POk g p) {cell i : Int} (hc : ChoiceOk g p cell i) : (runsP g p cell i).length ≤ 6561 := by
 unfold runsP
 have h1 := sortU_le cmpO ((lastS g p cell (progOf g p cell i)).filterMap (putS p.side))
 have h2 : ((lastS g p cell (progOf g p cell i)).filterMap (putS p.side)).length ≤ (lastS g p cell (progOf g p cell i)).length := List.length_filterMap_le _ _
 have h3 := lastS_len hg hp hc
 omega
theorem outsAt_len2 {g : GameD} (hg : GOk g) {p : PosD} (hp : POk g p) {c : Nat} (hc : c < p.at_.length) : (outsAt g p c).length ≤ 52488 := by
 unfold outsAt
 split
 ·rename_i hm
  have hal := hp.al
  have hk := kind_lt hg hp (cell := c) (by omega) (by omega) (by simpa using hm.1)
  have hpn := hg.pn _ (nth_mem (by simpa using hk))
  have := flatMap_range_le (fun (i : Nat) => runsP g p c i) 6561 (nth g.kinds (manOf (nth p.at_ c)).1.toNat).progs.length (fun i hi => runsP_len2 hg hp (choice_of hp hc hm hi))
  omega
 ·simp
theorem outsK_len2 {g : GameD} (hg : GOk g) {p : PosD} (hp : POk g p) {k : Nat} (hk : k ≤ p.at_.length) : ((List.range k).flatMap (outsAt g p)).length ≤ 472392 := by
 have := flatMap_range_le (outsAt g p) 52488 k (fun c hc => outsAt_len2 hg hp (by omega))
 have h9 := hg.c9
 have hal := hp.al
 omega
theorem outsP_len2 {g : GameD} (hg : GOk g) {p : PosD} (hp : POk g p) : (outsP g p).length ≤ 472392 := outsK_len2 hg hp (Nat.le_refl _)
end Go.Av
end
section
set_option linter.unusedSimpArgs false
set_option linter.unusedVariables false
open Go Go.Proofs
namespace Go.Av
abbrev Inc (l : List PosD) : Prop := l.Pairwise (fun a b => cmpP a b < 0)
theorem Inc.lt {l : List PosD} (h : Inc l) {i j : Nat} (hij : i < j) (hj : j < l.length) : cmpP (nth l i) (nth l j) < 0 := by
 rw [nth_eq _ _ (by omega), nth_eq _ _ hj]
 exact List.pairwise_iff_getElem.1 h _ _ _ _ hij
theorem Inc.sign {l : List PosD} (h : Inc l) {i j : Nat} (hi : i < l.length) (hj : j < l.length) : (cmpP (nth l i) (nth l j) = 0 ↔ i = j) ∧ (cmpP (nth l i) (nth l j) < 0 ↔ i < j) := by
 have hs := cmp_pos.swap (nth l i) (nth l j)
 rcases Nat.lt_trichotomy i j with h' | h' | h'
 ·have := h.lt h' hj
  exact ⟨⟨by omega, by omega⟩, ⟨by omega, by omega⟩⟩
 ·subst h'
  have := (cmp_pos.eq (nth l i) (nth l i)).2 rfl
  exact ⟨⟨by omega, by omega⟩, ⟨by omega, by omega⟩⟩
 ·have := h.lt h' hi
  exact ⟨⟨by omega, by omega⟩, ⟨by omega, by omega⟩⟩
theorem Inc.inj {l : List PosD} (h : Inc l) {i j : Nat} (hi : i < l.length) (hj : j < l.length) (e : nth l i = nth l j) : i = j :=
 (h.sign hi hj).1.1 ((cmp_pos.eq _ _).2 e)
def fndP (l : List PosD) (p : PosD) : Int := match l.findIdx? (fun q => decide (q = p)) with | some i => (i : Int) | none => -1
theorem fndP_at {l : List PosD} (h : Inc l) {j : Nat} (hj : j < l.length) : fndP l (nth l j) = j := by
 have : l.findIdx? (fun q => decide (q = nth l j)) = some j := by
  rw [List.findIdx?_eq_some_iff_getElem]
  refine ⟨hj, by rw [← nth_eq _ _ hj]; simp, fun i hi => ?_⟩
  rw [← nth_eq _ _ (by omega)]
  simp only [decide_eq_true_eq]
  intro e
  have := h.inj (by omega) hj e
  omega
 unfold fndP
 rw [this]
theorem fndP_none {l : List PosD} {p : PosD} (h : p ∉ l) : fndP l p = -1 := by
 have : l.findIdx? (fun q => decide (q = p)) = none := by
  rw [List.findIdx?_eq_none_iff]
  intro x hx
  simp only [decide_eq_false_iff_not]
  intro e
  exact h (e ▸ hx)
 unfold fndP
 rw [this]
theorem mem_nth {α : Type} [Inhabited α] {l : List α} {x : α} (h : x ∈ l) : ∃ j, j < l.length ∧ nth l j = x := by
 obtain ⟨j, hj, rfl⟩ := List.getElem_of_mem h
 exact ⟨j, hj, nth_eq _ _ hj⟩
theorem fndP_mem {l : List PosD} (h : Inc l) {p : PosD} : 0 ≤ fndP l p ↔ p ∈ l := by
 by_cases hp : p ∈ l
 ·obtain ⟨j, hj, rfl⟩ := mem_nth hp
  rw [fndP_at h hj]
  exact ⟨fun _ => hp, fun _ => by omega⟩
 ·rw [fndP_none hp]
  exact ⟨fun h => by omega, fun h => absurd h hp⟩
def lowP : List PosD → PosD → Nat
 | [], _ => 0
 | q :: l, p => if cmpP q p < 0 then lowP l p + 1 else 0
theorem lowP_le : ∀ (l : List PosD) (p : PosD), lowP l p ≤ l.length
 | [], p => by simp [lowP]
 | q :: l, p => by
  have := lowP_le l p
  rw [lowP, List.length_cons]
  split <;> omega
theorem lowP_lt {p : PosD} : ∀ {l : List PosD} {h : Nat}, h < lowP l p → cmpP (nth l h) p < 0
 | [], h, hl => by simp [lowP] at hl
 | q :: l, h, hl => by
  rw [lowP] at hl
  split at hl
  ·cases h with
   | zero => rw [nth_zero]; assumption
   | succ h => rw [nth_succ]; exact lowP_lt (by omega)
  ·omega
theorem lowP_ge {p : PosD} : ∀ {l : List PosD}, Inc l → ∀ {h : Nat}, lowP l p ≤ h → h < l.length → ¬ cmpP (nth l h) p < 0
 | [], _, h, _, hl => by simp at hl
 | q :: l, hi, h, hl, hn => by
  have hi := List.pairwise_cons.1 hi
  rw [lowP] at hl
  split at hl
  ·cases h with
   | zero => omega
   | succ h => rw [nth_succ]; exact lowP_ge hi.2 (by omega) (by simpa using hn)
  ·rename_i hq
   cases h with
   | zero => rw [nth_zero]; exact hq
   | succ h =>
    rw [nth_succ]
    intro hr
    have hm : nth l h ∈ l := nth_mem (by simpa using hn)
    have h1 := hi.1 _ hm
    have h2 := cmp_pos.tr q (nth l h) p (by omega) (by omega)
    have e := (cmp_pos.eq q p).1 (by omega)
    subst e
    have := cmp_pos.swap q (nth l h)
    omega
theorem lowP_iff {l : List PosD} (hi : Inc l) (p : PosD) {h : Nat} (hn : h < l.length) : cmpP (nth l h) p < 0 ↔ h < lowP l p := by
 constructor
 ·intro hc
  rcases Nat.lt_or_ge h (lowP l p) with h' | h'
  ·exact h'
  ·exact absurd hc (lowP_ge hi h' hn)
 ·exact lowP_lt
theorem lowP_mem {l : List PosD} (hi : Inc l) (p : PosD) : p ∈ l ↔ lowP l p < l.length ∧ nth l (lowP l p) = p := by
 constructor
 ·intro hp
  obtain ⟨j, hj, rfl⟩ := mem_nth hp
  have h0 := (cmp_pos.eq (nth l j) (nth l j)).2 rfl
  have h1 : ¬ j < lowP l (nth l j) := fun h => by
   have := lowP_lt h
   omega
  rcases Nat.lt_or_ge (lowP l (nth l j)) j with h' | h'
  ·have h2 := hi.lt h' hj
   have h3 := (lowP_iff hi (nth l j) (by omega)).1 h2
   omega
  ·have e : lowP l (nth l j) = j := by omega
   rw [e]
   exact ⟨hj, rfl⟩
 ·rintro ⟨h1, h2⟩
  rw [← h2]
  exact nth_mem h1
theorem fndP_low {l : List PosD} (hi : Inc l) (p : PosD) : fndP l p = if p ∈ l then (lowP l p : Int) else -1 := by
 split
 ·rename_i hp
  obtain ⟨h1, h2⟩ := (lowP_mem hi p).1 hp
  have := fndP_at hi h1
  rwa [h2] at this
 ·rename_i hp
  exact fndP_none hp
theorem movesP_inc (g : GameD) (p : PosD) : Inc (movesP g p) := by
 unfold movesP
 split
 ·exact .nil
 ·exact sortU_pw cmp_pos _
theorem dropsP_inc (g : GameD) (p : PosD) : Inc (dropsP g p) := sortU_pw cmp_pos _
theorem mem_movesP {g : GameD} {p q : PosD} : q ∈ movesP g p ↔ endedP g p < 0 ∧ ((∃ o ∈ outsP g p, (mustP g p = true → o.took = true) ∧ o.pos = q) ∨ (mustP g p = false ∧ q ∈ dropsP g p)) := by
 unfold movesP
 split
 ·rename_i h
  simp only [List.not_mem_nil, false_iff, not_and]
  intro h'
  omega
 ·rename_i h
  rw [sortU_mem]
  unfold movesL
  rw [List.mem_append, List.mem_map]
  constructor
  ·rintro (⟨o, ho, rfl⟩ | hq)
   ·obtain ⟨h1, h2⟩ := List.mem_filter.1 ho
    refine ⟨by omega, .inl ⟨o, h1, fun hm => ?_, rfl⟩⟩
    rw [hm] at h2
    simpa using h2
   ·split at hq
    ·simp at hq
    ·rename_i hm
     exact ⟨by omega, .inr ⟨by simpa using hm, hq⟩⟩
  ·rintro ⟨_, ⟨o, h1, h2, rfl⟩ | ⟨hm, hq⟩⟩
   ·refine .inl ⟨o, List.mem_filter.2 ⟨h1, ?_⟩, rfl⟩
    cases hm : mustP g p
    ·rfl
    ·simpa using h2 hm
   ·refine .inr ?_
    rw [hm]
    exact hq
theorem movesP_nil_of_ended {g : GameD} {p : PosD} (h : 0 ≤ endedP g p) : movesP g p = [] := if_pos h
end Go.Av
end
section
set_option linter.unusedSimpArgs false
set_option linter.unusedVariables false
open Go Go.Proofs
set_option maxRecDepth 20000
set_option maxHeartbeats 4000000
namespace Go.Av
theorem BSearch_pure (l : List PosD) (hi : Inc l) (hl : l.length ≤ 17179869184) (hf : ∀ q ∈ l, FitsP q) (p : PosD) (hp : FitsP p) :
  Pure Tryz.prog 76 [encPs l, .agg (encPos p), .fn (.func 32) [] []] (.tup [.v (.int .i64 (lowP l p)), .v (.bool (decide (p ∈ l)))]) := by
 refine Pure.of (ACallP.of_awp (by kernel_rfl) Tryz.func76 rfl rfl (Nat.le_of_ble_eq_true rfl) (by kernel_rfl) ?_)
 have hle := lowP_le l p
 have hmem := lowP_mem hi p
 have hiff := fun h hn => lowP_iff hi p (h := h) hn
 generalize lowP l p = w at *
 (repeat (first | with_reducible (first | refine wL fun _ => ?_ | refine wD fun _ => ?_ | refine wE ?_ | refine adrZ.go ?_) | simp [go_sem]))
 refine ALoop.start (ALoop.ind (α := Nat × Nat) (fun a => ⟨[(0, encPs l), (2, .fn (.func 32) [] []), (4, .ref 0 0 5 0 0), (8, .v (.int .i64 l.length)), (9, .v (.int .i64 a.1)), (10, .v (.int .i64 a.2))], [(0, .rows true 0 5 [encPos p])], 1⟩)
  (fun d a => a.2 - a.1 ≤ d ∧ a.1 ≤ w ∧ w ≤ a.2 ∧ a.2 ≤ l.length) ?_ l.length (0, l.length) ?_) ?_ ?_
 ·rintro d ⟨i, j⟩ ⟨i1, i2, i3, i4⟩ hrec
  simp only at i1 i2 i3 i4
  have hdiv : ((i : Int) + j).fdiv 2 = ((i + j) / 2 : Nat) := by rw [Int.fdiv_eq_ediv_of_nonneg _ (by omega)]; omega
  (repeat (first | with_reducible (first | refine wL fun _ => ?_ | refine wD fun _ => ?_ | refine wE ?_ | refine adrZ.go ?_) | simp [go_sem]))
  refine aIf.mkL (fun hlt => ?_) (fun hlt => ?_) <;> simp at hlt
  ·have hm : (i + j) / 2 < l.length := by omega
   have hm2 : i ≤ (i + j) / 2 ∧ (i + j) / 2 < j := by omega
   generalize hmid : (i + j) / 2 = mid at *
   (repeat (first | with_reducible (first | refine wL fun _ => ?_ | refine wD fun _ => ?_ | refine wE ?_ | refine adrZ.go ?_) | simp [go_sem, hdiv, hm]))
   try ((with_reducible refine adrZ.go ?_); (try simp [go_sem]))
   refine dCall.plain (pCompare_pure (nth l mid) p (hf _ (nth_mem hm)) hp) (by simp [go_sem]) ?_
   have hi2 := hiff mid hm
   generalize cmpP (nth l mid) p = c at *
   (repeat (first | with_reducible (first | refine wL fun _ => ?_ | refine wD fun _ => ?_ | refine wE ?_ | refine adrZ.go ?_) | simp [go_sem]))
   refine aIf.mkL (fun hc => ?_) (fun hc => ?_) <;> simp at hc
   ·have := hi2.1 hc
    (repeat (first | with_reducible (first | refine wL fun _ => ?_ | refine wD fun _ => ?_ | refine wE ?_ | refine adrZ.go ?_) | simp [go_sem]))
    refine ALoop.start (hrec (d - 1) (by omega) (mid + 1, j) ⟨by simp only; omega, by simp only; omega, by simp only; omega, by simp only; omega⟩) ?_ (by simp)
    simp [go_sem, Wk_eq]
   ·have : ¬ mid < w := fun h => by have := hi2.2 h; omega
    (repeat (first | with_reducible (first | refine wL fun _ => ?_ | refine wD fun _ => ?_ | refine wE ?_ | refine adrZ.go ?_) | simp [go_sem]))
    refine ALoop.start (hrec (d - 1) (by omega) (i, mid) ⟨by simp only; omega, by simp only; omega, by simp only; omega, by simp only; omega⟩) ?_ (by simp)
    simp [go_sem, Wk_eq]
  ·obtain rfl : i = w := by omega
   by_cases hw : i < l.length
   ·have hC := pCompare_pure (nth l i) p (hf _ (nth_mem hw)) hp
    have e : decide (p ∈ l) = decide (cmpP (nth l i) p = 0) := by
     rw [decide_eq_decide, hmem, cmp_pos.eq]
     exact ⟨fun h => h.2, fun h => ⟨hw, h⟩⟩
    rw [e]
    generalize cmpP (nth l i) p = c at *
    (repeat (first | with_reducible (first | refine wL fun _ => ?_ | refine wD fun _ => ?_ | refine wE ?_ | refine adrZ.go ?_) | simp [go_sem, hw]))
    try ((with_reducible refine adrZ.go ?_); (try simp [go_sem]))
    refine dGC.plain _ (fun _ => hC) (by simp [go_sem]) ?_
    (repeat (first | with_reducible (first | refine wL fun _ => ?_ | refine wD fun _ => ?_ | refine wE ?_ | refine adrZ.go ?_) | simp [go_sem, hw]))
   ·have e : decide (p ∈ l) = false := decide_eq_false fun h => hw (hmem.1 h).1
    rw [e]
    (repeat (first | with_reducible (first | refine wL fun _ => ?_ | refine wD fun _ => ?_ | refine wE ?_ | refine adrZ.go ?_) | simp [go_sem, hw]))
    try ((with_reducible refine adrZ.go ?_); (try simp [go_sem]))
    refine dGC.skip (.v (.int .i64 0)) ?_
    (repeat (first | with_reducible (first | refine wL fun _ => ?_ | refine wD fun _ => ?_ | refine wE ?_ | refine adrZ.go ?_) | simp [go_sem, hw]))
 ·exact ⟨by simp, by simp, hle, by simp⟩
 ·simp [go_sem, Wk_eq]
 ·simp
theorem pFind_pure (l : List PosD) (hi : Inc l) (hl : l.length ≤ 17179869184) (hf : ∀ q ∈ l, FitsP q) (p : PosD) (hp : FitsP p) :
  Pure Tryz.prog 37 [encPs l, .agg (encPos p)] (.v (.int .i64 (fndP l p))) := by
 refine Pure.of (ACallP.of_awp (by kernel_rfl) Tryz.func37 rfl rfl (Nat.le_of_ble_eq_true rfl) (by kernel_rfl) ?_)
 have hB := BSearch_pure l hi hl hf p hp
 rw [fndP_low hi]
 (repeat (first | with_reducible (first | refine wL fun _ => ?_ | refine wD fun _ => ?_ | refine wE ?_ | refine adrZ.go ?_) | simp [go_sem]))
 refine ACallP.plain hB (by simp [go_sem]) ?_
 (repeat (first | with_reducible (first | refine wL fun _ => ?_ | refine wD fun _ => ?_ | refine wE ?_ | refine adrZ.go ?_) | simp [go_sem]))
 by_cases h : p ∈ l
 ·rw [if_pos h]
  (repeat (first | with_reducible (first | refine wL fun _ => ?_ | refine wD fun _ => ?_ | refine wE ?_ | refine adrZ.go ?_) | simp [go_sem, h]))
 ·rw [if_neg h]
  (repeat (first | with_reducible (first | refine wL fun _ => ?_ | refine wD fun _ => ?_ | refine wE ?_ | refine adrZ.go ?_) | simp [go_sem, h]))
end Go.Av
end
section
set_option linter.unusedSimpArgs false
set_option linter.unusedVariables false
open Go Go.Proofs
set_option maxRecDepth 20000
set_option maxHeartbeats 4000000
namespace Go.Av
def hasA (l : List OutD) (q : PosD) (n : Nat) : Bool := (l.take n).any fun o => decide (o.pos = q)
def hasB (l : List OutD) (q : PosD) (n : Nat) : Bool := (l.take n).any fun o => decide (o.pos = q) && o.took
theorem any_succ {α : Type} [Inhabited α] (f : α → Bool) {l : List α} {n : Nat} (h : n < l.length) : (l.take (n + 1)).any f = ((l.take n).any f || f (nth l n)) := by
 rw [List.take_add_one, List.getElem?_eq_getElem h, nth_eq _ _ h, Option.toList_some, List.any_append]
 simp
theorem has6_pure (l : List OutD) (hl : l.length ≤ 17179869184) (hf : ∀ o ∈ l, FitsP o.pos) (q : PosD) (hq : FitsP q) :
  Pure Tryz.prog 35 [encOs l, .agg (encPos q)] (.tup [.v (.bool (hasA l q l.length)), .v (.bool (hasB l q l.length))]) := by
 refine Pure.of (ACallP.of_awp (by kernel_rfl) Tryz.func35 rfl rfl (Nat.le_of_ble_eq_true rfl) (by kernel_rfl) ?_)
 have hAs : ∀ i, i < l.length → hasA l q (i + 1) = (hasA l q i || decide ((nth l i).pos = q)) := fun i hi => any_succ _ hi
 have hBs : ∀ i, i < l.length → hasB l q (i + 1) = (hasB l q i || (decide ((nth l i).pos = q) && (nth l i).took)) := fun i hi => any_succ _ hi
 have hA0 : hasA l q 0 = false := rfl
 have hB0 : hasB l q 0 = false := rfl
 generalize hasA l q = A at *
 generalize hasB l q = B at *
 (repeat (first | with_reducible (first | refine wL fun _ => ?_ | refine wD fun _ => ?_ | refine wE ?_ | refine adrZ.go ?_) | simp [go_sem]))
 refine ALoop.start (ALoop.ind (α := Nat) (fun i => ⟨[(0, encOs l), (3, .ref 0 0 5 0 0), (6, .v (.bool (A i))), (7, .v (.bool (B i))), (8, .v (.int .i64 i))], [(0, .rows true 0 5 [encPos q])], 1⟩)
  (fun d i => i + d = l.length) ?_ l.length 0 ?_) ?_ ?_
 ·rintro d i i1 hrec
  (repeat (first | with_reducible (first | refine wL fun _ => ?_ | refine wD fun _ => ?_ | refine wE ?_ | refine adrZ.go ?_) | simp [go_sem]))
  refine aIf.mkL (fun hi => ?_) (fun hi => ?_) <;> simp at hi
  ·have hC := pCompare_pure (nth l i).pos q (hf _ (nth_mem hi)) hq
   have hAs := hAs i hi
   have hBs := hBs i hi
   have e : decide ((nth l i).pos = q) = decide (cmpP (nth l i).pos q = 0) := by rw [decide_eq_decide]; exact (cmp_pos.eq _ _).symm
   rw [e] at hAs hBs
   generalize cmpP (nth l i).pos q = c at *
   generalize hAi : A i = a at *
   generalize hBi : B i = b at *
   clear e
   (repeat (first | with_reducible (first | refine wL fun _ => ?_ | refine wD fun _ => ?_ | refine wE ?_ | refine adrZ.go ?_) | simp [go_sem, hi]))
   try ((with_reducible refine adrZ.go ?_); (try simp [go_sem]))
   refine dCall.plain hC (by simp [go_sem]) ?_
   by_cases hc : c = 0 <;> cases a <;> cases b
   all_goals
    simp only [hc, decide_true, decide_false, Bool.or_true, Bool.or_false, Bool.true_or, Bool.false_or, Bool.true_and, Bool.false_and] at hAs hBs
    (repeat (first | with_reducible (first | refine wL fun _ => ?_ | refine wD fun _ => ?_ | refine wE ?_ | refine adrZ.go ?_) | simp [go_sem, hi, hc]))
    refine ALoop.start (hrec (d - 1) (by omega) (i + 1) (by omega)) ?_ (by simp)
    simp [go_sem, Wk_eq, hAs, hBs]
  ·obtain rfl : i = l.length := by omega
   (repeat (first | with_reducible (first | refine wL fun _ => ?_ | refine wD fun _ => ?_ | refine wE ?_ | refine adrZ.go ?_) | simp [go_sem]))
 ·simp
 ·simp [go_sem, Wk_eq, hA0, hB0]
 ·simp
theorem outs6_pure (g : GameD) (hg : GOk g) (p : PosD) (hp : POk g p) : Pure Tryz.prog 30 [.agg (encGame g), .agg (encPos p)] (encOs (outsP g p)) := by
 refine Pure.of (ACallP.of_awp (by kernel_rfl) Tryz.func30 rfl rfl (Nat.le_of_ble_eq_true rfl) (by kernel_rfl) ?_)
 have hal := hp.al
 have c9 := hg.c9
 have k6 := hg.k6
 have hU : ∀ c i, c < p.at_.length → 0 ≤ (manOf (nth p.at_ c)).1 ∧ (manOf (nth p.at_ c)).2 = p.side → i ≤ (nth g.kinds (manOf (nth p.at_ c)).1.toNat).progs.length → (outsI g p c i).length ≤ 8000000000 := fun c i hc hm hi => by
  have h1 : (outsK g p c).length ≤ 7200000000 := outsK_len hg hp (by omega)
  have hk := kind_lt hg hp (cell := c) (by omega) (by omega) (by simpa using hm.1)
  simp only [Int.toNat_natCast] at hk
  have h8 := hg.pn _ (nth_mem hk)
  have h2 := flatMap_range_le (fun (i : Nat) => runsP g p c i) 100000000 i (fun j hj => runsP_len hg hp (choice_of hp hc hm (by omega)))
  have h3 : i * 100000000 ≤ 8 * 100000000 := Nat.mul_le_mul_right _ (by omega)
  simp only [outsI, List.length_append]
  omega
 (repeat (first | with_reducible (first | refine wL fun _ => ?_ | refine wD fun _ => ?_ | refine wE ?_ | refine adrZ.go ?_) | simp [go_sem]))
 refine ALoop.start (ALoop.ind (α := Nat × Nat) (fun a => ⟨[(2, .ref 0 0 9 0 0), (3, .ref 1 0 5 0 0), (5, .sl 2 a.2 6 0 (outsK g p a.1).length), (6, .v (.int .i64 a.1))], [(0, .rows true 0 9 [encGame g]), (1, .rows true 0 5 [encPos p]), (2, .rows true a.2 6 ((outsK g p a.1).map encOut))], 3⟩)
  (fun d a => a.1 + d = p.at_.length) ?_ p.at_.length (0, 0) ?_) ?_ ?_
 ·rintro d ⟨c, G⟩ c1 hrec
  simp only at c1
  (repeat (first | with_reducible (first | refine wL fun _ => ?_ | refine wD fun _ => ?_ | refine wE ?_ | refine adrZ.go ?_) | simp [go_sem]))
  refine aIf.mkL (fun hc => ?_) (fun hc => ?_) <;> simp at hc
  ·have hO := R3Of_pure (nth p.at_ c)
   have hsu := outsK_succ g p c
   have hat := hp.at (i := c) (by omega)
   have hman := manOf_cases hat.1 hat.2 hg.k6
   have hAt : outsAt g p c = if 0 ≤ (manOf (nth p.at_ c)).1 ∧ (manOf (nth p.at_ c)).2 = p.side then (List.range (nth g.kinds (manOf (nth p.at_ c)).1.toNat).progs.length).flatMap fun (i : Nat) => runsP g p c i else [] := rfl
   have hU' := fun i => hU c i hc
   have hCh := fun i => choice_of (g := g) (i := i) hp hc
   generalize manOf (nth p.at_ c) = m at *
   obtain ⟨mk, ms⟩ := m
   simp only [Prod.mk.injEq] at hman hAt hU' hCh
   (repeat (first | with_reducible (first | refine wL fun _ => ?_ | refine wD fun _ => ?_ | refine wE ?_ | refine adrZ.go ?_) | simp [go_sem, hc]))
   refine ACallP.plain hO (by simp [go_sem]) ?_
   (repeat (first | with_reducible (first | refine wL fun _ => ?_ | refine wD fun _ => ?_ | refine wE ?_ | refine adrZ.go ?_) | simp [go_sem]))
   refine aIf.mkL (fun hm => ?_) (fun hm => ?_) <;> simp at hm
   ·rw [if_neg (by omega)] at hAt
    rw [hAt, List.append_nil] at hsu
    (repeat (first | with_reducible (first | refine wL fun _ => ?_ | refine wD fun _ => ?_ | refine wE ?_ | refine adrZ.go ?_) | simp [go_sem]))
    refine ALoop.start (hrec (d - 1) (by omega) (c + 1, G) (by simp only; omega)) ?_ (by simp)
    simp [go_sem, Wk_eq, hsu]
   ·have hm' : 0 ≤ mk ∧ ms = p.side := by omega
    rw [if_pos hm'] at hAt
    have hkl : mk.toNat < g.kinds.length := by omega
    have hpn := hg.pn _ (nth_mem hkl)
    have hz := outsI_zero g p c
    (repeat (first | with_reducible (first | refine wL fun _ => ?_ | refine wD fun _ => ?_ | refine wE ?_ | refine adrZ.go ?_) | simp [go_sem]))
    refine ALoop.start (ALoop.ind (α := Nat × Nat) (fun a => ⟨[(2, .ref 0 0 9 0 0), (3, .ref 1 0 5 0 0), (5, .sl 2 a.2 6 0 (outsI g p c a.1).length), (6, .v (.int .i64 c)), (7, .ref 3 0 2 0 0), (8, .v (.int .i64 a.1))],
      [(0, .rows true 0 9 [encGame g]), (1, .rows true 0 5 [encPos p]), (2, .rows true a.2 6 ((outsI g p c a.1).map encOut)), (3, .rows true 0 2 [[.v (.int .i64 mk), .v (.int .i64 ms)]])], 4⟩)
     (fun d a => a.1 + d = (nth g.kinds mk.toNat).progs.length) ?_ (nth g.kinds mk.toNat).progs.length (0, G) ?_) ?_ ?_
    ·rintro d2 ⟨i, G'⟩ i1 hrec2
     simp only at i1
     (repeat (first | with_reducible (first | refine wL fun _ => ?_ | refine wD fun _ => ?_ | refine wE ?_ | refine adrZ.go ?_) | simp [go_sem, hkl]))
     refine aIf.mkL (fun hi => ?_) (fun hi => ?_) <;> simp at hi
     ·have hR := rRuns_pure g hg p hp c i (hCh i hm' hi)
      have hsi := outsI_succ g p c i
      have hUi := hU' i hm' (by omega)
      have hUj := hU' (i + 1) hm' (by omega)
      rw [hsi, List.length_append] at hUj
      (repeat (first | with_reducible (first | refine wL fun _ => ?_ | refine wD fun _ => ?_ | refine wE ?_ | refine adrZ.go ?_) | simp [go_sem]))
      refine ACallP.plain hR (by simp [go_sem]) ?_
      (repeat (first | with_reducible (first | refine wL fun _ => ?_ | refine wD fun _ => ?_ | refine wE ?_ | refine adrZ.go ?_) | simp [go_sem]))
      refine ALoop.start (hrec2 (d2 - 1) (by omega) (i + 1, G' + 1) (by simp only; omega)) ?_ (by simp)
      simp [go_sem, Wk_eq, hsi]
     ·have hil : i = (nth g.kinds mk.toNat).progs.length := by omega
      subst hil
      have hfin : outsI g p c (nth g.kinds mk.toNat).progs.length = outsK g p (c + 1) := by rw [hsu, hAt]; rfl
      rw [hfin]
      (repeat (first | with_reducible (first | refine wL fun _ => ?_ | refine wD fun _ => ?_ | refine wE ?_ | refine adrZ.go ?_) | simp [go_sem]))
      refine ALoop.start (hrec (d - 1) (by omega) (c + 1, G') (by simp only; omega)) ?_ (by simp)
      simp [go_sem, Wk_eq]
    ·simp
    ·simp [go_sem, Wk_eq, hz]
    ·simp
  ·have hcl : c = p.at_.length := by omega
   subst hcl
   have e : outsP g p = outsK g p p.at_.length := rfl
   rw [e]
   (repeat (first | with_reducible (first | refine wL fun _ => ?_ | refine wD fun _ => ?_ | refine wE ?_ | refine adrZ.go ?_) | simp [go_sem]))
   (refine leV_frz rfl (by simp) (by simp [noH, upd]) ?_; first | (simp [go_sem]; done) | (simp [go_sem]; exact List.take_of_length_le (by simp)))
 ·simp
 ·simp [go_sem, Wk_eq, outsK_zero]
 ·simp
end Go.Av
end
section
set_option linter.unusedSimpArgs false
set_option linter.unusedVariables false
open Go Go.Proofs
namespace Go.Av
def mn (side kind : Int) (c : Int) : Bool := isMan default side kind c
def cnt (l : List Int) (side kind : Int) : Nat := l.countP (mn side kind)
theorem mn_zero (side kind : Int) : mn side kind 0 = false := by
  unfold mn isMan manOf
  simp
theorem cnt_set : ∀ (l : List Int) {i : Nat} (hi : i < l.length) (v side kind : Int), cnt (l.set i v) side kind + (if mn side kind (nth l i) then 1 else 0) = cnt l side kind + (if mn side kind v then 1 else 0)
  | [], i, hi, _, _, _ => by simp at hi
  | a :: l, 0, _, v, side, kind => by
    simp only [cnt, List.set_cons_zero, List.countP_cons, nth_zero]
    exact Nat.add_right_comm _ _ _
  | a :: l, i + 1, hi, v, side, kind => by
    have := cnt_set l (i := i) (by simpa using hi) v side kind
    simp only [cnt, List.set_cons_succ, List.countP_cons, nth_succ] at this ⊢
    revert this
    cases mn side kind a <;> cases mn side kind v <;> cases mn side kind (nth l i) <;> simp <;> omega
theorem manOf_code {k s : Int} (hk : 0 ≤ k ∧ k ≤ 5) (hs : s = 0 ∨ s = 1) : manOf (codeOf k s) = (k, s) := by
  have e : codeOf k s = 2 * k + 1 + s := by
    unfold codeOf
    rw [if_pos (by omega)]
  rw [e]
  unfold manOf
  rw [if_pos (by omega)]
  have h1 : (2 * k + 1 + s - 1).tdiv 2 = k := by rw [Int.tdiv_eq_ediv_of_nonneg (by omega)]; omega
  have h2 : (2 * k + 1 + s - 1).tmod 2 = s := by rw [Int.tmod_eq_emod_of_nonneg (by omega)]; omega
  rw [h1, h2]
theorem mn_own {side c kind : Int} (h : (manOf c).2 = side) : mn (1 - side) kind c = false := by
  unfold mn isMan
  have : ¬ (manOf c).2 = 1 - side := by omega
  simp [this]
theorem mn_foe {side c kind : Int} (h : (manOf c).2 ≠ side) : mn side kind c = false := by
  unfold mn isMan
  simp [h]
theorem mn_any {side c : Int} (h : (manOf c).2 = side) (h0 : 0 ≤ (manOf c).1) : mn side (-1) c = true := by
  unfold mn isMan
  simp [h, h0]
structure MenI (a : List Int) (side : Int) (l : List Int) : Prop where
  len : l.length = a.length
  own : cnt l side (-1) + 1 = cnt a side (-1)
  foe : ∀ k, cnt l (1 - side) k ≤ cnt a (1 - side) k
theorem MenI.start {a : List Int} {i : Nat} (hi : i < a.length) {side : Int} (h0 : 0 ≤ (manOf (nth a i)).1) (h : (manOf (nth a i)).2 = side) : MenI a side (a.set i 0) := by
  refine ⟨by simp, ?_, fun k => ?_⟩
  · have := cnt_set a hi 0 side (-1)
    rw [mn_zero, mn_any h h0] at this
    simpa using this
  · have := cnt_set a hi 0 (1 - side) k
    rw [mn_zero, mn_own h] at this
    simp at this
    omega
theorem MenI.take {a l : List Int} {side : Int} (h : MenI a side l) {i : Nat} (hi : i < l.length) (hs : (manOf (nth l i)).2 ≠ side) : MenI a side (l.set i 0) := by
  refine ⟨by simpa using h.len, ?_, fun k => ?_⟩
  · have := cnt_set l hi 0 side (-1)
    rw [mn_zero, mn_foe hs] at this
    have := h.own
    simp at *
    omega
  · have := cnt_set l hi 0 (1 - side) k
    rw [mn_zero] at this
    have := h.foe k
    simp at *
    omega
theorem cnt_push {l : List Int} {i j : Nat} (hi : i < l.length) (hj : j < l.length) (h0 : nth l j = 0) (h1 : nth l i ≠ 0) (side kind : Int) : cnt ((l.set j (nth l i)).set i 0) side kind = cnt l side kind := by
  have hij : j ≠ i := fun e => h1 (e ▸ h0)
  have a1 := cnt_set l hj (nth l i) side kind
  have a2 := cnt_set (l.set j (nth l i)) (i := i) (by simpa using hi) 0 side kind
  rw [h0, mn_zero] at a1
  have e := nth_setE l j i (nth l i)
  rw [if_neg (fun h => hij h.1)] at e
  rw [e, mn_zero] at a2
  revert a1 a2
  cases mn side kind (nth l i) <;> simp <;> omega
theorem MenI.push {a l : List Int} {side : Int} (h : MenI a side l) {i j : Nat} (hi : i < l.length) (hj : j < l.length) (h0 : nth l j = 0) (h1 : nth l i ≠ 0) : MenI a side ((l.set j (nth l i)).set i 0) :=
  ⟨by simpa using h.len, by rw [cnt_push hi hj h0 h1]; exact h.own, fun k => by rw [cnt_push hi hj h0 h1]; exact h.foe k⟩
theorem slideGo_at {s : StD} : ∀ {l : List Int}, ∀ t ∈ slideGo s l, t.p = s.p
  | [], t, h => by simp [slideGo] at h
  | c :: l, t, h => by
    rw [slideGo, List.mem_cons] at h
    rcases h with rfl | h
    · rfl
    · split at h
      · exact slideGo_at t h
      · simp at h
theorem withHand_at (p : PosD) (side : Int) (l : List Int) : (p.withHand side l).at_ = p.at_ := by
  unfold PosD.withHand
  split <;> rfl
theorem MenI.step {g : GameD} (hg : GOk g) {a : List Int} {s : StD} (hs : StOk g s) (h : MenI a s.p.side s.p.at_) {x : Int × Int} : ∀ t ∈ stepS g s x, MenI a s.p.side t.p.at_ := by
  intro t ht
  have hal := hs.p.al
  have c0 := hs.c0
  have c1 := hs.c1
  have hcl : s.cursor.toNat < s.p.at_.length := by omega
  unfold stepS at ht
  simp only at ht
  repeat' split at ht
  · have := onlyS_mem ht; subst this; exact h
  · have := slideGo_at t ht; rw [this]; exact h
  · have := onlyS_mem ht; subst this; exact h
  · have := onlyS_mem ht; subst this; exact h
  · have := onlyS_mem ht; subst this; exact h
  · unfold takeS at ht
    simp only at ht
    split at ht
    · simp at ht
    · rename_i hm
      have hm2 : (manOf (nth s.p.at_ s.cursor.toNat)).2 ≠ s.p.side := fun e => hm (.inr e)
      have key := h.take hcl hm2
      split at ht
      · split at ht
        · simp at ht
        · simp only [List.mem_singleton] at ht
          subst ht
          simp only [withHand_at]
          exact key
      · simp only [List.mem_singleton] at ht
        subst ht
        exact key
  · unfold pushS at ht
    simp only at ht
    split at ht
    · simp at ht
    · rename_i hm
      simp only [not_or, Decidable.not_not, Int.not_lt] at hm
      simp only [List.mem_singleton] at ht
      subst ht
      have hto := toB_lt hg.board s.p.side x.2 s.cursor
      have e : g.board.cells = g.cells := rfl
      exact h.push hcl (by omega) hm.2.2 hm.1
  · simp only [List.mem_singleton] at ht; subst ht; exact h
  · have := onlyS_mem ht; subst this; exact h
  · simp only [List.mem_singleton] at ht; subst ht; exact h
  · simp only [List.mem_singleton] at ht; subst ht; exact h
theorem MenI.fold {g : GameD} (hg : GOk g) {a : List Int} {side : Int} : ∀ (prog : List (Int × Int)) (now : List StD), (∀ x ∈ prog, StepOk g.next.length g.kinds.length g.rights x) → (∀ s ∈ now, StOk g s ∧ s.p.side = side ∧ MenI a side s.p.at_) →
    ∀ s ∈ prog.foldl (nextS g) now, StOk g s ∧ s.p.side = side ∧ MenI a side s.p.at_
  | [], now, _, h => h
  | x :: prog, now, hp, h => by
    rw [List.foldl_cons]
    refine MenI.fold hg prog _ (fun y hy => hp y (by simp [hy])) (fun s hs => ?_)
    obtain ⟨r, hr, hs⟩ := nextS_memK.1 hs
    obtain ⟨h1, h2, h3⟩ := h r hr
    obtain ⟨k1, k2⟩ := stepS_ok hg h1 (hp x (by simp)) s hs
    exact ⟨k1, k2.trans h2, h2 ▸ MenI.step hg h1 (h2.symm ▸ h3) s hs⟩
theorem runsP_men {g : GameD} (hg : GOk g) {p : PosD} (hp : POk g p) {cell i : Int} (hc : ChoiceOk g p cell i) : ∀ o ∈ runsP g p cell i, cnt o.pos.at_ p.side (-1) = cnt p.at_ p.side (-1) ∧ ∀ k, cnt o.pos.at_ (1 - p.side) k ≤ cnt p.at_ (1 - p.side) k := by
  intro o ho
  unfold runsP at ho
  rw [sortU_mem] at ho
  obtain ⟨s, hs, h⟩ := List.mem_filterMap.1 ho
  have hal := hp.al
  have c0 := hc.c0
  have c1 := hc.c1
  have hcl : cell.toNat < p.at_.length := by omega
  have hst := (startS_ok hg hp hc.c0 hc.c1 hc.man).1
  obtain ⟨k1, k2, k3⟩ := MenI.fold hg (a := p.at_) (side := p.side) (progOf g p cell i) [startS p cell] (prog_ok hg hp hc).st (fun t ht => by
    simp only [List.mem_singleton] at ht
    subst ht
    exact ⟨hst, rfl, MenI.start hcl hc.man hc.side⟩) s hs
  unfold putS at h
  split at h
  · rename_i h0
    simp only [Option.some.injEq] at h
    subst h
    have hk := k1.k
    have k6 := hg.k6
    have hm := manOf_code (k := s.kind) (s := p.side) (by omega) hp.s
    have kc0 := k1.c0
    have kc1 := k1.c1
    have kal := k1.p.al
    have hcs : s.cursor.toNat < s.p.at_.length := by omega
    constructor
    · have := cnt_set s.p.at_ hcs (codeOf s.kind p.side) p.side (-1)
      rw [h0, mn_zero, mn_any (by rw [hm]) (by rw [hm]; exact hk.1)] at this
      have := k3.own
      simp at *
      omega
    · intro k
      have := cnt_set s.p.at_ hcs (codeOf s.kind p.side) (1 - p.side) k
      rw [h0, mn_zero, mn_own (by rw [hm])] at this
      have := k3.foe k
      simp at *
      omega
  · cases h
theorem dropP_men {g : GameD} (hg : GOk g) {p : PosD} (hp : POk g p) {k c : Nat} (hk : k < g.kinds.length) (hc : c < p.at_.length) {q : PosD} (h : dropP g p k c = some q) :
    cnt q.at_ p.side (-1) = cnt p.at_ p.side (-1) + 1 ∧ (∀ j, cnt q.at_ (1 - p.side) j ≤ cnt p.at_ (1 - p.side) j) ∧ q.hand p.side = (p.hand p.side).set k (nth (p.hand p.side) k - 1) := by
  unfold dropP at h
  split at h
  · cases h
  · rename_i h0
    simp only [not_or, Decidable.not_not] at h0
    simp only [Option.some.injEq] at h
    subst h
    have k6 := hg.k6
    have hm := manOf_code (k := k) (s := p.side) (by omega) hp.s
    simp only [withHand_at]
    refine ⟨?_, fun j => ?_, ?_⟩
    · have := cnt_set p.at_ hc (codeOf k p.side) p.side (-1)
      rw [h0.2, mn_zero, mn_any (by rw [hm]) (by rw [hm]; simp)] at this
      simp at this
      omega
    · have := cnt_set p.at_ hc (codeOf k p.side) (1 - p.side) j
      rw [h0.2, mn_zero, mn_own (by rw [hm])] at this
      simp at this
      omega
    · unfold PosD.hand PosD.withHand
      split <;> rfl
def sumK (f : Nat → Int) : Nat → Int
  | 0 => 0
  | n + 1 => sumK f n + f n
theorem sumK_add (f g : Nat → Int) : ∀ n, sumK (fun k => f k + g k) n = sumK f n + sumK g n
  | 0 => rfl
  | n + 1 => by simp only [sumK, sumK_add f g n]; omega
theorem sumK_sub (f g : Nat → Int) : ∀ n, sumK (fun k => f k - g k) n = sumK f n - sumK g n
  | 0 => rfl
  | n + 1 => by simp only [sumK, sumK_sub f g n]; omega
theorem sumK_zero : ∀ n, sumK (fun _ => 0) n = 0
  | 0 => rfl
  | n + 1 => by simp only [sumK, sumK_zero n]; rfl
theorem sumK_congr {f g : Nat → Int} : ∀ {n}, (∀ k, k < n → f k = g k) → sumK f n = sumK g n
  | 0, _ => rfl
  | n + 1, h => by simp only [sumK, sumK_congr (n := n) fun k hk => h k (by omega), h n (by omega)]
theorem sumK_one (j : Nat) (v : Int) : ∀ n, sumK (fun k => if k = j then v else 0) n = if j < n then v else 0
  | 0 => by simp [sumK]
  | n + 1 => by
    simp only [sumK, sumK_one j v n]
    by_cases h : j < n
    · rw [if_pos h, if_neg (by omega), if_pos (by omega)]; omega
    · by_cases h' : n = j
      · rw [if_neg h, if_pos h', if_pos (by omega)]; omega
      · rw [if_neg h, if_neg h', if_neg (by omega)]; rfl
theorem sumK_bound {f : Nat → Int} {b : Int} (hb : 0 ≤ b) : ∀ {n : Nat}, (∀ k, k < n → -b ≤ f k ∧ f k ≤ b) → -(b * n) ≤ sumK f n ∧ sumK f n ≤ b * n
  | 0, _ => by simp [sumK]
  | n + 1, h => by
    have h1 := sumK_bound hb (n := n) fun k hk => h k (by omega)
    have h2 := h n (by omega)
    have e : b * ((n + 1 : Nat) : Int) = b * n + b := by rw [Int.natCast_add, Int.mul_add]; simp
    simp only [sumK]
    omega
theorem cnt_kinds {side : Int} {K : Nat} (hK : K ≤ 6) : ∀ {l : List Int}, (∀ c ∈ l, 0 ≤ c ∧ c ≤ 2 * K) → sumK (fun k => (cnt l side (k : Int) : Int)) K = (cnt l side (-1) : Int)
  | [], _ => by
    show sumK (fun k => 0) K = 0
    exact sumK_zero K
  | c :: l, h => by
    have ih := cnt_kinds (side := side) hK (l := l) fun x hx => h x (by simp [hx])
    have hc := h c (by simp)
    have hman := manOf_cases hc.1 hc.2 hK
    have e1 : ∀ k : Int, (cnt (c :: l) side k : Int) = (cnt l side k : Int) + if mn side k c then 1 else 0 := fun k => by
      simp only [cnt, List.countP_cons]
      split <;> simp
    rw [sumK_congr (g := fun (k : Nat) => (cnt l side (k : Int) : Int) + if mn side (k : Int) c then 1 else 0) fun k _ => e1 k, sumK_add, ih, e1]
    congr 1
    rcases hman with ⟨h0, _⟩ | ⟨_, h1, h2, _, _⟩
    · subst h0
      simp only [mn_zero]
      exact sumK_zero K
    · by_cases hs : (manOf c).2 = side
      · rw [mn_any hs h1]
        rw [sumK_congr (g := fun k => if k = (manOf c).1.toNat then 1 else 0) fun k hk => ?_, sumK_one, if_pos (by omega), if_pos rfl]
        have e : mn side (k : Int) c = decide (k = (manOf c).1.toNat) := by
          unfold mn isMan
          have hneg : ¬ (k : Int) < 0 := by omega
          have he : decide ((manOf c).1 = (k : Int)) = decide (k = (manOf c).1.toNat) := by
            rw [decide_eq_decide]
            omega
          simp only [hs, decide_true, Bool.and_true, hneg, decide_false, Bool.false_or, he]
          simp only [decide_eq_true h1, Bool.true_and]
        rw [e]
        simp
      · simp only [mn_foe hs]
        exact sumK_zero K
theorem movesP_men {g : GameD} (hg : GOk g) {p : PosD} (hp : POk g p) {m : PosD} (hm : m ∈ movesP g p) :
    (∀ k, menP m (1 - p.side) k ≤ menP p (1 - p.side) k) ∧
    (sumK (fun k => (menP m p.side (k : Int) : Int) - (menP p p.side (k : Int) : Int)) g.kinds.length = 0 ∨
     sumK (fun k => (menP m p.side (k : Int) : Int) - (menP p p.side (k : Int) : Int)) g.kinds.length = 1 ∧ sumK (fun k => nth (p.hand p.side) k - nth (m.hand p.side) k) g.kinds.length = 1) := by
  have hmo := (movesP_ok hg hp m hm).1
  have e : sumK (fun k => (menP m p.side (k : Int) : Int) - (menP p p.side (k : Int) : Int)) g.kinds.length = (cnt m.at_ p.side (-1) : Int) - (cnt p.at_ p.side (-1) : Int) := by
    rw [sumK_sub]
    rw [show sumK (fun k => (menP m p.side (k : Int) : Int)) g.kinds.length = (cnt m.at_ p.side (-1) : Int) from cnt_kinds hg.k6 hmo.av,
      show sumK (fun k => (menP p p.side (k : Int) : Int)) g.kinds.length = (cnt p.at_ p.side (-1) : Int) from cnt_kinds hg.k6 hp.av]
  rw [e]
  rcases (mem_movesP.1 hm).2 with ⟨o, ho, _, rfl⟩ | ⟨_, hd⟩
  · obtain ⟨c, i, hc, ho⟩ := (mem_outsP hp).1 ho
    obtain ⟨h1, h2⟩ := runsP_men hg hp hc o ho
    refine ⟨h2, .inl ?_⟩
    omega
  · unfold dropsP at hd
    rw [sortU_mem] at hd
    obtain ⟨k, hk, hd⟩ := List.mem_flatMap.1 hd
    obtain ⟨c, hcc, hd⟩ := List.mem_filterMap.1 hd
    rw [List.mem_range] at hk hcc
    obtain ⟨h1, h2, h3⟩ := dropP_men hg hp hk hcc hd
    refine ⟨h2, .inr ⟨by omega, ?_⟩⟩
    have hl := (hp.hand p.side).len
    rw [h3, sumK_congr (g := fun j => if j = k then 1 else 0) fun j hj => ?_, sumK_one, if_pos hk]
    rw [nth_setE]
    by_cases hjk : k = j
    · subst hjk
      rw [if_pos ⟨rfl, by omega⟩, if_pos rfl]
      omega
    · rw [if_neg (by omega), if_neg (by omega)]
      omega
end Go.Av
end
