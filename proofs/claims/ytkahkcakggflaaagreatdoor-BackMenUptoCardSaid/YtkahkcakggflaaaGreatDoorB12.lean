/- Texts of ours, part 12: our library and contracts of functions. -/
import Derived.Test.YtkahkcakggflaaaGreatDoorB11
import Derived.OpenShut
import Derived.Test.YtkahkcakggflaaaGreatDoorRows
set_option linter.unusedSimpArgs false
set_option linter.unusedVariables false
set_option maxRecDepth 100000
set_option maxHeartbeats 40000000
section
/- Our library, part 14: arguments, as the statements read them, are values of the abstract domain. -/
namespace Go.Av
open Go

abbrev NoM : Nat → Prop := fun _ => False

structure zmw (B : Nat) (bk : ∀ {H : Type}, DataW H → Nat) : Prop where
 len : ∀ {H : Type} (l r : List (DataW H)), bk (.slice l r) ≤ B → l.length ≤ maxLen → l.length ≤ B
 elem : ∀ {H : Type} (l r : List (DataW H)) d, d ∈ l → bk (.slice l r) ≤ B → bk d ≤ B
 part : ∀ {H : Type} (l : List (DataW H)) d, d ∈ l → bk (.agg l) ≤ B → bk d ≤ B
 str : ∀ {H : Type} (l : List UInt8), bk (DataW.lit (H := H) (.string l)) ≤ B → l.length ≤ maxLen → l.length ≤ B

theorem zmw.any : zmw maxLen (fun _ => 0) := ⟨fun _ _ _ h => h, fun _ _ _ _ _ => Nat.zero_le _, fun _ _ _ _ => Nat.zero_le _, fun _ _ h => h⟩

def Opn (P : Program) (B : Nat) (bk : ∀ {H : Type}, DataW H → Nat) {α : Type} (t : TypeId) (en : α → List AV) (Q : α → Prop) : Prop :=
 ∀ {H : Type} (enc : TypeId × Value → H) (w : World) (fuel : Nat) (cs : List Value) (d : DataW H) (ps : List MemPlace),
  DataW.trod enc P w 0 (fun _ => true) true fuel t cs = some (d, ps) → bk d ≤ B → ∃ x, zaP noP w NoM (en x) cs ∧ (∀ c ∈ cs, zcl c = true) ∧ cs.length = P.cellsOf t ∧ Q x

section
variable {P : Program} {B : Nat} {bk : ∀ {H : Type}, DataW H → Nat}
theorem Opn.int {t : TypeId} {k : IntKind} (ht : P.underlying t = some (.int k)) (hc : P.cellsOf t = 1) : Opn P B bk t (fun n : Int => [.v (.int k n)]) (fun n => (Lit.int k n).wf = true) := by
 intro H enc w fuel cs d ps h _
 obtain ⟨n, rfl, _, hw⟩ := DataW.trod_int ht h
 exact ⟨n, .cons (.v _) .nil, by simp [zcl, Value.oneCell'], by simp [hc], hw⟩
theorem Opn.bool {t : TypeId} (ht : P.underlying t = some .bool) (hc : P.cellsOf t = 1) : Opn P B bk t (fun b : Bool => [.v (.bool b)]) (fun _ => True) := by
 intro H enc w fuel cs d ps h _
 obtain ⟨n, rfl, _⟩ := DataW.trod_bool ht h
 exact ⟨n, .cons (.v _) .nil, by simp [zcl, Value.oneCell'], by simp [hc], trivial⟩
theorem Opn.string {t : TypeId} (hB : zmw B bk) (ht : P.underlying t = some .string) (hc : P.cellsOf t = 1) : Opn P B bk t (fun s : ByteArray => [.v (.string s)]) (fun s => s.size ≤ B) := by
 intro H enc w fuel cs d ps h hb
 obtain ⟨n, rfl, hx, hm⟩ := DataW.trod_string ht h
 simp only [Prod.mk.injEq] at hx
 obtain ⟨rfl, _⟩ := hx
 refine ⟨n, .cons (.v _) .nil, by simp [zcl, Value.oneCell'], by simp [hc], ?_⟩
 have := hB.str _ hb (by simpa using hm)
 simpa using this
theorem Opn.imp {α : Type} {t : TypeId} {en : α → List AV} {Q Q' : α → Prop} (h : Opn P B bk t en Q) (hq : ∀ x, Q x → Q' x) : Opn P B bk t en Q' := by
 intro H enc w fuel cs d ps h1 h2
 obtain ⟨x, a, b, c, e⟩ := h enc w fuel cs d ps h1 h2
 exact ⟨x, a, b, c, hq x e⟩
theorem Opn.map {α β : Type} {t : TypeId} {en : α → List AV} {en' : β → List AV} {Q : α → Prop} {Q' : β → Prop} (h : Opn P B bk t en Q) (f : α → β) (hq : ∀ x, Q x → Q' (f x)) (he : ∀ x, Q x → en' (f x) = en x) : Opn P B bk t en' Q' := by
 intro H enc w fuel cs d ps h1 h2
 obtain ⟨x, a, b, c, e⟩ := h enc w fuel cs d ps h1 h2
 exact ⟨f x, by rw [he x e]; exact a, b, c, hq x e⟩
theorem zhS {w : World} {a : Addr} {n : Nat} {cs : List Value} (h : w.cells? 0 a n = some cs) : cs.length = n ∧ ∀ i, i < n → w.cell? (a.add i) = cs[i]? := by
 unfold World.cells? at h
 rw [if_pos (Nat.zero_le _)] at h
 exact ⟨by simpa using mapM_some_length h, fun i hi => mapM_some_get h i i (by simp [hi])⟩
theorem zjK {w : World} {a : Addr} {v : Value} (h : w.cell? a = some v) : ∃ C T fz, w.heap[a.block]? = some (.cells C T fz) ∧ a.spot = none ∧ C[a.off]? = some v := by
 unfold World.cell? at h
 split at h
 ·rename_i C T fz hb
  split at h
  ·cases h
  ·rename_i hs
   refine ⟨C, T, fz, hb, ?_, h⟩
   cases hsp : a.spot with
   | none => rfl
   | some x => simp [hsp] at hs
 ·cases h
theorem zju (a : Addr) (n : Nat) : (a.add n).block = a.block := by unfold Addr.add; split <;> rfl
theorem zqa (a : Addr) (n : Nat) : (a.add n).off = a.off + n := by
 unfold Addr.add
 split
 ·rename_i h; subst h; rfl
 ·rfl
theorem ziG {φ : zaA} {w : World} {M : Nat → Prop} {rows : List (List AV)} {L : List Value} {sz : Nat} (hl : L.length = rows.length * sz)
  (h : ∀ i (hi : i < rows.length), zaP φ w M rows[i] ((L.drop (i * sz)).take sz)) : zaP φ w M rows.flatten L := by
 induction rows generalizing L with
 | nil => simp at hl; subst hl; exact .nil
 | cons r rows ih =>
  have h0 := h 0 (by simp)
  simp only [List.getElem_cons_zero, Nat.zero_mul, List.drop_zero] at h0
  rw [List.flatten_cons, ← List.take_append_drop sz L]
  refine zaP.append h0 (ih (by simp at hl ⊢; rw [hl, Nat.add_mul]; omega) fun i hi => ?_)
  have := h (i + 1) (by simpa using hi)
  simp only [List.getElem_cons_succ] at this
  rw [List.drop_drop, show sz + i * sz = (i + 1) * sz by rw [Nat.add_mul]; omega]
  exact this
theorem zj0 {α : Type} (n : Nat) (p : Nat → α → Prop) (h : ∀ i, i < n → ∃ x, p i x) : ∃ l : List α, l.length = n ∧ ∀ i (hi : i < l.length), p i l[i] := by
 induction n with
 | zero => exact ⟨[], rfl, fun i hi => by simp at hi⟩
 | succ n ih =>
  obtain ⟨l, hl, hp⟩ := ih fun i hi => h i (by omega)
  obtain ⟨x, hx⟩ := h n (by omega)
  refine ⟨l ++ [x], by simp [hl], fun i hi => ?_⟩
  rcases Nat.lt_or_ge i l.length with h1 | h1
  ·rw [List.getElem_append_left h1]; exact hp i h1
  ·have : i = n := by simp at hi; omega
   subst this
   simp [List.getElem_append_right, hl, hx]
theorem Opn.slice {α : Type} {t e : TypeId} {en : α → List AV} {Q : α → Prop} {sz : Nat} (hB : zmw B bk) (ht : P.underlying t = some (.slice e)) (hc : P.cellsOf t = 1) (hz : P.cellsOf e = sz) (hp : 0 < sz)
  (he : Opn P B bk e en Q) : Opn P B bk t (fun l : List α => [.lst sz (l.map en)]) (fun l => l.length ≤ B ∧ ∀ x ∈ l, Q x) := by
 intro H enc w fuel cs d ps h hb
 rcases DataW.trod_slice ht h with ⟨rfl, _⟩ | ⟨a, len, cap, zty, rest, n, rfl, rfl, hx, _, hlen, hmax, hel, hget, _, _⟩
 ·exact ⟨[], .cons (.nil _ _ _) .nil, by simp [zcl, Value.oneCell'], by simp [hc], by simp, by simp⟩
 ·simp only [Prod.mk.injEq] at hx
  obtain ⟨rfl, _⟩ := hx
  rw [hz] at hget
  have key : ∀ i (hi : i < len), ∃ x ci, w.cells? 0 (a.add (i * sz)) sz = some ci ∧ zaP noP w NoM (en x) ci ∧ (∀ c ∈ ci, zcl c = true) ∧ Q x := by
   intro i hi
   have h1 := hget i hi
   rw [List.getElem?_eq_getElem (by omega), Option.bind_eq_some_iff] at h1
   obtain ⟨ci, h2, h3⟩ := h1
   obtain ⟨x, a1, a2, _, a4⟩ := he enc w n ci zty[i].1 zty[i].2 h3 (hB.elem _ _ _ (List.mem_map.2 ⟨zty[i], List.getElem_mem _, rfl⟩) hb)
   exact ⟨x, ci, h2, a1, a2, a4⟩
  have hlb : len ≤ B := by have := hB.len _ _ hb (by simp; omega); simp at this; omega
  obtain ⟨l, hl, hx⟩ := zj0 len _ key
  refine ⟨l, ?_, by simp [zcl, Value.oneCell'], by simp [hc], by omega, fun x hxm => ?_⟩
  ·rcases Nat.eq_zero_or_pos len with h0 | h0
   ·have : l = [] := List.eq_nil_of_length_eq_zero (by omega)
    subst this
    rw [h0]
    exact .cons (.nil _ _ _) .nil
   ·have cellI : ∀ i, i < len → ∀ j, j < sz → ∃ v, w.cell? (a.add (i * sz + j)) = some v ∧ zcl v = true := by
     intro i hi j hj
     obtain ⟨x, ci, h2, a1, a2, a3⟩ := key i hi
     obtain ⟨hcl, hcg⟩ := zhS h2
     refine ⟨ci[j], ?_, a2 _ (List.getElem_mem (by omega))⟩
     have := hcg j hj
     rw [List.getElem?_eq_getElem (by omega)] at this
     rw [← this]
     simp only [World.cell?, zju, zqa, Nat.add_assoc]
     by_cases hj0 : j = 0
     ·subst hj0; simp [Addr.add]
     ·simp [Addr.add, hj0]
    obtain ⟨v0, hv0, _⟩ := cellI 0 h0 0 hp
    obtain ⟨C, T, fz, hC, hs, _⟩ := zjK hv0
    simp only [Nat.zero_mul, Nat.zero_add, Addr.add, if_true] at hC hs
    have cellC : ∀ k, k < len * sz → ∃ v, C[a.off + k]? = some v ∧ w.cell? (a.add k) = some v ∧ zcl v = true := by
     intro k hk
     have hi : k / sz < len := Nat.div_lt_of_lt_mul (by rw [Nat.mul_comm]; exact hk)
     have hj : k % sz < sz := Nat.mod_lt _ hp
     obtain ⟨v, h1, h2⟩ := cellI _ hi _ hj
     rw [show k / sz * sz + k % sz = k by rw [Nat.mul_comm]; exact Nat.div_add_mod k sz] at h1
     obtain ⟨C', T', fz', hC', hs', hv'⟩ := zjK h1
     rw [zju, hC] at hC'
     simp only [Option.some.injEq, Obj.cells.injEq] at hC'
     obtain ⟨rfl, _, _⟩ := hC'
     rw [zqa] at hv'
     exact ⟨v, hv', h1, h2⟩
    have hsz : a.off + len * sz ≤ C.size := by
     have hpos : 0 < len * sz := Nat.mul_pos h0 hp
     obtain ⟨v, h1, _⟩ := cellC (len * sz - 1) (by omega)
     have := (Array.getElem?_eq_some_iff.1 h1).1
     omega
    have hL : ((C.toList.drop a.off).take (len * sz)).length = len * sz := by simp; omega
    have hget : ∀ k, k < len * sz → ((C.toList.drop a.off).take (len * sz))[k]? = C[a.off + k]? := by
     intro k hk
     rw [List.getElem?_take, if_pos hk, List.getElem?_drop]; simp
    have hrl : ∀ i (hi : i < l.length), ∃ ci, w.cells? 0 (a.add (i * sz)) sz = some ci ∧ zaP noP w NoM (en l[i]) ci := fun i hi => by
     obtain ⟨ci, h2, a1, _⟩ := hx i hi
     exact ⟨ci, h2, a1⟩
    refine .cons (.lst (C := C) (T := T) (fz := fz) hs (fun h => h) hC (fun r hr => ?_) (by simp; omega) (by rw [List.length_map, hl]; exact hsz) (by omega) (fun u hu => ?_) ?_) .nil
    ·obtain ⟨x, hxm, rfl⟩ := List.mem_map.1 hr
     obtain ⟨i, hi, rfl⟩ := List.getElem_of_mem hxm
     obtain ⟨ci, h2, a1⟩ := hrl i hi
     rw [a1.length, (zhS h2).1]
    ·rw [List.length_map, hl] at hu
     obtain ⟨k, hk, rfl⟩ := List.getElem_of_mem hu
     rw [hL] at hk
     obtain ⟨v, h1, _, h3⟩ := cellC k hk
     have := hget k hk
     rw [List.getElem?_eq_getElem (by omega), h1] at this
     simp only [Option.some.injEq] at this
     rw [this]; exact h3
    ·rw [List.length_map, hl]
     refine ziG (sz := sz) (by rw [hL, List.length_map, hl]) fun i hi => ?_
     rw [List.length_map] at hi
     obtain ⟨ci, h2, a1⟩ := hrl i hi
     rw [List.getElem_map]
     obtain ⟨hcl, hcg⟩ := zhS h2
     have hle : (i + 1) * sz ≤ len * sz := Nat.mul_le_mul_right _ (by omega)
     rw [Nat.add_mul] at hle
     have : ci = (((C.toList.drop a.off).take (len * sz)).drop (i * sz)).take sz := by
      refine List.ext_getElem? fun j => ?_
      rcases Nat.lt_or_ge j sz with hj | hj
      ·rw [← hcg j hj, List.getElem?_take, if_pos hj, List.getElem?_drop, hget _ (by omega)]
       obtain ⟨v, h1, h3, _⟩ := cellC (i * sz + j) (by omega)
       rw [h1, ← h3]
       simp only [World.cell?, zju, zqa, Nat.add_assoc]
       by_cases hj0 : j = 0
       ·subst hj0; simp [Addr.add]
       ·simp [Addr.add, hj0]
      ·rw [List.getElem?_eq_none (by omega), List.getElem?_eq_none (by simp; omega)]
     rw [← this]; exact a1
  ·obtain ⟨i, hi, rfl⟩ := List.getElem_of_mem hxm
   obtain ⟨ci, _, _, _, a4⟩ := hx i hi
   exact a4
theorem Opn.array {α : Type} {t e : TypeId} {en : α → List AV} {Q : α → Prop} {n sz : Nat} (hB : zmw B bk) (ht : P.underlying t = some (.array n e)) (hz : P.cellsOf e = sz) (hc : P.cellsOf t = n * sz)
  (he : Opn P B bk e en Q) : Opn P B bk t (fun l : List α => (l.map en).flatten) (fun l => l.length = n ∧ ∀ x ∈ l, Q x) := by
 intro H enc w fuel cs d ps h hb
 obtain ⟨xs, m, _, hx, hl, hxl, hget⟩ := DataW.trod_array ht h
 simp only [Prod.mk.injEq] at hx
 obtain ⟨rfl, _⟩ := hx
 rw [hz] at hget
 have key : ∀ i, i < n → ∃ x, zaP noP w NoM (en x) ((cs.drop (i * sz)).take sz) ∧ (∀ c ∈ (cs.drop (i * sz)).take sz, zcl c = true) ∧ Q x := by
  intro i hi
  have h1 := hget i hi
  rw [List.getElem?_eq_getElem (by omega)] at h1
  obtain ⟨x, a1, a2, _, a4⟩ := he enc w m _ xs[i].1 xs[i].2 h1 (hB.part _ _ (List.mem_map.2 ⟨xs[i], List.getElem_mem _, rfl⟩) hb)
  exact ⟨x, a1, a2, a4⟩
 obtain ⟨l, hll, hx⟩ := zj0 n _ key
 rw [hc] at hl
 refine ⟨l, ziG (sz := sz) (by rw [List.length_map, hll]; exact hl) (fun i hi => ?_), fun c hcm => ?_, by rw [hc]; exact hl, hll, fun x hxm => ?_⟩
 ·rw [List.length_map] at hi
  rw [List.getElem_map]; exact (hx i hi).1
 ·obtain ⟨k, hk, rfl⟩ := List.getElem_of_mem hcm
  have hp : 0 < sz := Nat.pos_of_ne_zero fun h0 => by subst h0; simp at hl; subst hl; simp at hk
  have hi : k / sz < n := Nat.div_lt_of_lt_mul (by rw [Nat.mul_comm, ← hl]; exact hk)
  have hj : k % sz < sz := Nat.mod_lt _ hp
  have e : k / sz * sz + k % sz = k := by rw [Nat.mul_comm]; exact Nat.div_add_mod k sz
  refine (hx (k / sz) (by omega)).2.1 _ (List.mem_iff_getElem?.2 ⟨k % sz, ?_⟩)
  rw [List.getElem?_take, if_pos hj, List.getElem?_drop, e]
  exact List.getElem?_eq_getElem hk
 ·obtain ⟨i, hi, rfl⟩ := List.getElem_of_mem hxm
  exact (hx i hi).2.2
def zio (P : Program) (B : Nat) (bk : ∀ {H : Type}, DataW H → Nat) {α : Type} (ts : List TypeId) (en : α → List AV) (Q : α → Prop) : Prop :=
 ∀ {H : Type} (enc : TypeId × Value → H) (w : World) (fuel : Nat) (cs : List Value), cs.length = (ts.map P.cellsOf).sum →
  (∀ i (hi : i < ts.length), ∃ d ps, DataW.trod enc P w 0 (fun _ => true) true fuel ts[i] ((cs.drop ((ts.take i).map P.cellsOf).sum).take (P.cellsOf ts[i])) = some (d, ps) ∧ bk d ≤ B) →
  ∃ x, zaP noP w NoM (en x) cs ∧ (∀ c ∈ cs, zcl c = true) ∧ Q x
theorem zio.nil : zio P B bk [] (fun _ : Unit => []) (fun _ => True) := by
 intro H enc w fuel cs hl _
 have : cs = [] := List.eq_nil_of_length_eq_zero (by simpa using hl)
 subst this
 exact ⟨(), .nil, by simp, trivial⟩
theorem zio.cons {α β : Type} {t : TypeId} {ts : List TypeId} {en : α → List AV} {Q : α → Prop} {en' : β → List AV} {Q' : β → Prop} (h : Opn P B bk t en Q) (h' : zio P B bk ts en' Q') :
  zio P B bk (t :: ts) (fun x : α × β => en x.1 ++ en' x.2) (fun x => Q x.1 ∧ Q' x.2) := by
 intro H enc w fuel cs hl hd
 obtain ⟨d, ps, h1, h2⟩ := hd 0 (by simp)
 simp only [List.getElem_cons_zero, List.take_zero, List.map_nil, List.sum_nil, List.drop_zero] at h1
 obtain ⟨x, a1, a2, a3, a4⟩ := h enc w fuel _ d ps h1 h2
 obtain ⟨y, b1, b2, b3⟩ := h' enc w fuel (cs.drop (P.cellsOf t)) (by simp at hl ⊢; omega) (fun i hi => by
  obtain ⟨d, ps, k1, k2⟩ := hd (i + 1) (by simpa using hi)
  simp only [List.getElem_cons_succ, List.take_succ_cons, List.map_cons, List.sum_cons] at k1
  exact ⟨d, ps, by rw [List.drop_drop]; exact k1, k2⟩)
 refine ⟨(x, y), ?_, fun c hc => ?_, a4, b3⟩
 ·rw [← List.take_append_drop (P.cellsOf t) cs]
  exact zaP.append a1 b1
 ·rw [← List.take_append_drop (P.cellsOf t) cs] at hc
  rcases List.mem_append.1 hc with hc | hc
  ·exact a2 c hc
  ·exact b2 c hc
def zrU (P : Program) (t : TypeId) (ts : List TypeId) : Bool := match P.underlying t with
 | some (.struct fs) => decide (fs.toList.map (·.type) = ts) && decide (fs.toList.map (·.offset) = (List.range ts.length).map fun i => ((ts.take i).map P.cellsOf).sum) && decide (P.cellsOf t = (ts.map P.cellsOf).sum)
 | _ => false
theorem Opn.struct {α : Type} {t : TypeId} {ts : List TypeId} {en : α → List AV} {Q : α → Prop} (hB : zmw B bk) (ht : zrU P t ts = true) (h : zio P B bk ts en Q) : Opn P B bk t en Q := by
 unfold zrU at ht
 split at ht
 ·rename_i fs hfs
  simp only [Bool.and_eq_true, decide_eq_true_eq] at ht
  obtain ⟨⟨h1, h2⟩, h3⟩ := ht
  intro H enc w fuel cs d ps hd hb
  obtain ⟨xs, n, _, hx, hl, hxl, hget⟩ := DataW.trod_struct hfs hd
  simp only [Prod.mk.injEq] at hx
  obtain ⟨rfl, _⟩ := hx
  have hlen : fs.size = ts.length := by rw [← h1]; simp
  obtain ⟨x, a1, a2, a3⟩ := h enc w n cs (by rw [hl, h3]) (fun i hi => by
   have hi' : i < fs.size := by omega
   have e1 : fs[i].type = ts[i] := by
    have := congrArg (fun l => l[i]?) h1
    simp [hi', List.getElem?_eq_getElem hi] at this
    exact this
   have e2 : fs[i].offset = ((ts.take i).map P.cellsOf).sum := by
    have := congrArg (fun l => l[i]?) h2
    simp [hi', hi] at this
    rw [this, List.map_take]
   have := hget i fs[i] (Array.getElem?_eq_getElem hi')
   rw [e1, e2, List.getElem?_eq_getElem (by omega)] at this
   exact ⟨xs[i].1, xs[i].2, this, hB.part _ _ (List.mem_map.2 ⟨xs[i], List.getElem_mem _, rfl⟩) hb⟩)
  exact ⟨x, a1, a2, hl, a3⟩
 ·cases ht
def outer (P : Program) (t : TypeId) : Bool := match P.underlying t with
 | some (.struct _) | some (.array _ _) => true
 | _ => false
def wrapAV (agg : Bool) (cs : List AV) : AV := if agg then .agg cs else cel cs 0
theorem zBB {α : Type} {t : TypeId} {en : α → List AV} {Q : α → Prop} (h : Opn P B bk t en Q) {ag : Bool} (ho : outer P t = ag) (h1 : ag = false → P.cellsOf t = 1) {H : Type} {enc : TypeId × Value → H} {W : World} {base : Nat} {r : Reach} {v : Value} {d : DataW H} {ps : List MemPlace}
  (hval : Value.okWide P W r base t v) (hd : DataW.Trod enc P W 0 (fun _ => true) true t v d ps) (hb : bk d ≤ B) : ∃ x, Rel noP W NoM (wrapAV ag (en x)) v ∧ Q x := by
 obtain ⟨fuel, hd⟩ := hd
 obtain ⟨x, a1, a2, a3, a4⟩ := h enc W fuel _ d ps hd hb
 refine ⟨x, ?_, a4⟩
 unfold outer at ho
 unfold Value.okWide at hval
 split at ho
 ·rename_i hu
  subst ho
  rw [hu] at hval
  obtain ⟨cs, rfl, _, _⟩ := hval
  exact .agg (vs := cs.toList) a2 a1
 ·rename_i hu
  subst ho
  rw [hu] at hval
  obtain ⟨cs, rfl, _, _⟩ := hval
  exact .agg (vs := cs.toList) a2 a1
 ·subst ho
  rw [h1 rfl] at a3
  have hv : v.cells.toList = [v] := by
   unfold Value.cells at a3 a2 ⊢
   split
   ·rename_i cs
    exfalso
    split at hval
    ·simp_all
    ·simp_all
    ·unfold Cell.okWide at hval
     split at hval <;> simp_all [Cell.ok]
   ·rfl
  rw [hv] at a1
  cases he : en x with
  | nil => rw [he] at a1; cases a1
  | cons y ys =>
   rw [he] at a1
   cases a1 with
   | cons a1 _ => exact a1

theorem zud {f : Func} {s : ChangeSpec} {apart fresh handsOn again : Bool} {H : Type} {enc : TypeId × Value → H} {W W' : World} {args : Array Value} {v : Value} {ds gs : List (DataW H)} {before : List MemPlace}
  (hlo : laidOutB P = true) (hts : f.params.toList.all (fun t => P.readableRec t && decide (t < P.types.size)) = true) (hv : s.vars = [])
  (hW : DataW.Whole enc P f.params.toList s.vars apart W args.toList ds gs before)
  (hres : ∀ (b : Nat) (sp : Nat → Bool) (hd : Bool), DataW.TrodAll enc P W' b sp hd f.resultTypes.toList (v.resultList f.resultTypes.size) (s.fn H (ds ++ gs)).results [])
  (hargs : (s.fn H (ds ++ gs)).args = ds) (hvars : (s.fn H (ds ++ gs)).vars = [])
  (hfr : Fr W (fun _ => False) W')
  (hok : ∀ (j : Nat) (t : TypeId) (r : Value), f.resultTypes[j]? = some t → (v.resultList f.resultTypes.size)[j]? = some r → Value.okWide P W' .any 0 t r) :
  s.post enc P f apart fresh handsOn again W args v W' := by
 have hlt : ∀ p ∈ before, p.block < W.heap.size := fun p hp => hW.lt p hp
 have hsame : ∀ p : MemPlace, p.block < W.heap.size → W.sameAt W' p := fun p hp => (Go.RowKit.Below.same ⟨hfr.os, hfr.tape, hfr.output, hfr.size, fun k hk => hfr.block k hk (fun h => h)⟩ hp)
 obtain ⟨p, q, hA, hV, hpq, hz, hn⟩ := id hW
 rw [hv] at hV
 have hq : q = [] ∧ gs = [] := by
  cases gs with
  | nil => exact ⟨hV, rfl⟩
  | cons g gs => exact hV.elim
 obtain ⟨rfl, rfl⟩ := hq
 rw [List.append_nil] at hpq
 subst hpq
 have key : ∀ (sp : Nat → Bool) (ts : List TypeId) (vs : List Value) (ds : List (DataW H)) (ps : List MemPlace), ts.all (fun t => P.readableRec t && decide (t < P.types.size)) = true → (∀ x ∈ ps, x.block < W.heap.size) → (∀ x ∈ ps, sp x.block = true) →
   DataW.TrodAll enc P W 0 (fun _ => true) true ts vs ds ps → DataW.TrodAll enc P W' 0 sp true ts vs ds ps := by
  intro sp ts
  induction ts with
  | nil =>
   intro vs ds ps _ _ _ h
   cases vs <;> cases ds <;> simp [DataW.TrodAll] at h ⊢
   exact h
  | cons t ts ih =>
   intro vs ds ps ht hlt hsp h
   obtain ⟨v, vs', d, ds', a, b, rfl, rfl, rfl, h1, h2⟩ := ChangeShapes.trodAll_cons h
   simp only [List.all_cons, Bool.and_eq_true, decide_eq_true_eq] at ht
   obtain ⟨⟨hr, hs⟩, hts⟩ := ht
   exact ⟨a, b, WideElems.Trod_stays hlo hr hs h1 (fun x hx => hsame x (hlt x (List.mem_append_left _ hx))) (fun x hx => hsp x (List.mem_append_left _ hx)),
    ih _ _ _ (by simpa using hts) (fun x hx => hlt x (List.mem_append_right _ hx)) (fun x hx => hsp x (List.mem_append_right _ hx)) h2, rfl⟩
 have key' : ∀ sp : Nat → Bool, (∀ x ∈ before, sp x.block = true) → DataW.TrodAll enc P W' 0 sp true f.params.toList args.toList (s.fn H (ds ++ [])).args before := fun sp hsp => by
  rw [hargs]; exact key sp _ _ _ _ hts hlt hsp hA
 have kv : ∀ sp : Nat → Bool, DataW.TrodVars enc P W' sp s.vars (s.fn H (ds ++ [])).vars [] := fun sp => by rw [hv, hvars]; rfl
 refine ⟨ds, [], before, [], before, [], hW, hres _ _ _, key' _ (fun x hx => by simpa using hlt x hx), kv _, ?_, fun _ => ⟨hok, _, _, ([] ++ before) ++ [], ⟨[] ++ before, [], ChangeShapes.trodAll_append (key' _ fun _ _ => rfl) (hres _ _ _), kv _, rfl, ?_, ?_⟩, ?_⟩⟩
 ·refine ⟨hfr.os, hfr.output, fun i hi => ?_⟩
  rw [hfr.block i hi (fun h => h)]
  cases h : W.heap[i]? with
  | none => simp
  | some o => cases o <;> simp
 ·intro b off hp
  have hp' : MemPlace.cell b off ∈ before := by simpa using hp
  have hb := hlt _ hp'
  have := hz b off hp'
  unfold World.frozen? at this ⊢
  simp only [MemPlace.block] at hb
  rw [show W'.heap[b]? = W.heap[b]? from hfr.block b hb (fun h => h)]
  exact this
 ·intro ha
  simpa using hn ha
 ·intro x hx _
  simpa using hx
theorem zaW {f : FuncId} {fn : Func} {tb : TypeId} {s : ChangeSpec} {apart fresh handsOn again : Bool} {H : Type} {enc : TypeId × Value → H} {W : World} {args : Array Value} {ds gs : List (DataW H)} {before : List MemPlace}
  (hlo : laidOutB P = true) (hts : fn.params.toList.all (fun t => P.readableRec t && decide (t < P.types.size)) = true) (hv : s.vars = []) (hrt : fn.resultTypes = #[tb]) (hb : P.underlying tb = some .bool)
  (hW : DataW.Whole enc P fn.params.toList s.vars apart W args.toList ds gs before)
  (hfn : gs = [] → s.fn H (ds ++ gs) = { results := [.lit (.bool true)], args := ds }) {avs : List AV} (hp : zaC P f avs (.v (.bool true))) (hr : zaP noP W NoM avs args.toList) (hg : zhJ W NoM := by intro p hp; simp [glbs] at hp) :
  Calls P f args W fun e W' => ∃ v, e = .returned v ∧ s.post enc P fn apart fresh handsOn again W args v W' := by
 have hgs : gs = [] := by
  obtain ⟨p, q, hA, hV, _⟩ := hW
  rw [hv] at hV
  cases gs with
  | nil => rfl
  | cons g gs => exact hV.elim
 have := hp.2 NoM W args.toList (fun k hk => hk.elim) hg hr
 rw [show (⟨args.toList⟩ : Array Value) = args from rfl] at this
 refine this.mono ?_
 rintro e W' ⟨v, rfl, hv', hfr⟩
 cases hv'
 refine ⟨_, rfl, zud hlo hts hv hW (fun b sp hd => ?_) (by rw [hfn hgs]) (by rw [hfn hgs]) hfr ?_⟩
 ·rw [hfn hgs, hrt]
  exact trodAll_cons_mk (RowKit.shut_bool hb _) ChangeShapes.trodAll_mk0
 ·exact RowKit.ok_one hrt rfl (RowKit.okWide_bool_mk hb true)
end
end Go.Av
end
section
open Go Go.Proofs
namespace Go.Av
open Go.Proofs.YtkahkcakggflaaaGreatDoor
theorem zzl {H : Type} (d : DataW H) : 1 ≤ Rows.uptoBulk d := by
 cases d with
 | lit l => cases l <;> simp [Rows.uptoBulk]
 | _ => simp [Rows.uptoBulk]
theorem zkV {H : Type} {d : DataW H} {l : List (DataW H)} (h : d ∈ l) : Rows.uptoBulk d ≤ Rows.uptoBulkAll l := by
 induction l with
 | nil => cases h
 | cons x r ih =>
  simp only [Rows.uptoBulkAll]
  rcases List.mem_cons.1 h with e | e
  ·subst e; omega
  ·have := ih e; omega
theorem zrr {H : Type} (l : List (DataW H)) : l.length ≤ Rows.uptoBulkAll l := by
 induction l with
 | nil => simp [Rows.uptoBulkAll]
 | cons x r ih => have := zzl x; simp only [Rows.uptoBulkAll, List.length_cons]; omega
theorem zmw.upto {B : Nat} : zmw B (fun d => Rows.uptoBulk d) where
 len := fun l r h _ => by
  have := zrr l
  simp only [Rows.uptoBulk] at h; omega
 elem := fun l r d hd h => by
  have := zkV hd
  simp only [Rows.uptoBulk] at h; omega
 part := fun l d hd h => by
  have := zkV hd
  simp only [Rows.uptoBulk] at h; omega
 str := fun l h _ => by
  simp only [Rows.uptoBulk] at h; omega
theorem za4 {H : Type} {l : List (DataW H)} (hk : Rows.uptoSmall H l = true) {d : DataW H} (hd : d ∈ l) : Rows.uptoBulk d ≤ 1048576 := by
 have := zkV hd
 have h := of_decide_eq_true hk
 omega
end Go.Av
end
section
open Go Go.Proofs Go.Av
namespace Go.Av
open Go.Proofs.YtkahkcakggflaaaGreatDoor
abbrev UpB : {H : Type} → DataW H → Nat := fun d => Rows.uptoBulk d
abbrev G3T := Int × Int × Int × List (List Int) × List (List Int) × List Int × Unit
def zzA (x : G3T) : List AV := [.v (.int .u8 x.1)] ++ ([.v (.int .u8 x.2.1)] ++ ([.v (.int .u8 x.2.2.1)] ++ ((x.2.2.2.1.map fun l => [AV.lst 1 (l.map fun n => [.v (.int .u8 n)])]).flatten ++
 ([AV.lst 3 (x.2.2.2.2.1.map fun l => (l.map fun n => [AV.v (.int .u8 n)]).flatten)] ++ ((x.2.2.2.2.2.1.map fun n => [AV.v (.int .u8 n)]).flatten ++ [])))))
abbrev U8W (n : Int) : Prop := (Lit.int .u8 n).wf = true
theorem zfO : Opn Tryz.prog 1048576 UpB 5 (fun n : Int => [.v (.int .u8 n)]) U8W := Opn.int Tryz.underlying5 (by kernel_rfl)
theorem zwI : Opn Tryz.prog 1048576 UpB 22 (fun l : List Int => [.lst 1 (l.map fun n => [.v (.int .u8 n)])]) (fun l => l.length ≤ 1048576 ∧ ∀ x ∈ l, U8W x) :=
 Opn.slice (sz := 1) zmw.upto Tryz.underlying22 (by kernel_rfl) (by kernel_rfl) Nat.one_pos zfO
theorem zwH : Opn Tryz.prog 1048576 UpB 27 zcE (fun x => zjs x ∧ x.k0.length ≤ 1048576 ∧ x.k1.length ≤ 1048576 ∧ x.c.length ≤ 1048576) := by
 have hK : Opn Tryz.prog 1048576 UpB 23 (fun l : List (List Int) => (l.map fun l => [AV.lst 1 (l.map fun n => [.v (.int .u8 n)])]).flatten) (fun l => l.length = 2 ∧ ∀ x ∈ l, x.length ≤ 1048576 ∧ ∀ y ∈ x, U8W y) :=
  Opn.array (sz := 1) (n := 2) zmw.upto Tryz.underlying23 (by kernel_rfl) (by kernel_rfl) zwI
 have h3 : Opn Tryz.prog 1048576 UpB 85 (fun l : List Int => (l.map fun n => [AV.v (.int .u8 n)]).flatten) (fun l => l.length = 3 ∧ ∀ x ∈ l, U8W x) :=
  Opn.array (sz := 1) (n := 3) zmw.upto Tryz.underlying85 (by kernel_rfl) (by kernel_rfl) zfO
 have hC : Opn Tryz.prog 1048576 UpB 24 (fun l : List (List Int) => [.lst 3 (l.map fun l => (l.map fun n => [AV.v (.int .u8 n)]).flatten)]) (fun l => l.length ≤ 1048576 ∧ ∀ x ∈ l, x.length = 3 ∧ ∀ y ∈ x, U8W y) :=
  Opn.slice (sz := 3) zmw.upto Tryz.underlying24 (by kernel_rfl) (by kernel_rfl) (by decide) h3
 have hFF : Opn Tryz.prog 1048576 UpB 25 (fun l : List Int => (l.map fun n => [AV.v (.int .u8 n)]).flatten) (fun l => l.length = 6 ∧ ∀ x ∈ l, U8W x) :=
  Opn.array (sz := 1) (n := 6) zmw.upto Tryz.underlying25 (by kernel_rfl) (by kernel_rfl) zfO
 have hF : zio Tryz.prog 1048576 UpB [5, 5, 5, 23, 24, 25] zzA (fun x => U8W x.1 ∧ U8W x.2.1 ∧ U8W x.2.2.1 ∧ (x.2.2.2.1.length = 2 ∧ ∀ z ∈ x.2.2.2.1, z.length ≤ 1048576 ∧ ∀ y ∈ z, U8W y) ∧
   (x.2.2.2.2.1.length ≤ 1048576 ∧ ∀ z ∈ x.2.2.2.2.1, z.length = 3 ∧ ∀ y ∈ z, U8W y) ∧ (x.2.2.2.2.2.1.length = 6 ∧ ∀ y ∈ x.2.2.2.2.2.1, U8W y) ∧ True) :=
  zio.cons zfO (zio.cons zfO (zio.cons zfO (zio.cons hK (zio.cons hC (zio.cons hFF zio.nil)))))
 have hT : Opn Tryz.prog 1048576 UpB 27 zzA (fun x => U8W x.1 ∧ U8W x.2.1 ∧ U8W x.2.2.1 ∧ (x.2.2.2.1.length = 2 ∧ ∀ z ∈ x.2.2.2.1, z.length ≤ 1048576 ∧ ∀ y ∈ z, U8W y) ∧
   (x.2.2.2.2.1.length ≤ 1048576 ∧ ∀ z ∈ x.2.2.2.2.1, z.length = 3 ∧ ∀ y ∈ z, U8W y) ∧ (x.2.2.2.2.2.1.length = 6 ∧ ∀ y ∈ x.2.2.2.2.2.1, U8W y) ∧ True) := Opn.struct zmw.upto (by kernel_rfl) hF
 intro H enc w fuel cs d ps k1 k2
 obtain ⟨x, r1, r2, r3, hx⟩ := hT enc w fuel cs d ps k1 k2
 obtain ⟨W, Hh, cut, K, C, F, ⟨⟩⟩ := x
 obtain ⟨h1, h2, h3', ⟨h4, h4'⟩, ⟨h5, h5'⟩, ⟨h6, h6'⟩, _⟩ := hx
 simp only at h1 h2 h3' h4 h4' h5 h5' h6 h6'
 match K, h4 with
 | [ka, kb], _ =>
  match F, h6 with
  | [f0, f1, f2, f3, f4, f5], _ =>
   have hCl : ∀ (C : List (List Int)), (∀ z ∈ C, z.length = 3) → (C.map fun l => (nth l 0, nth l 1, nth l 2)).map zvR = C.map fun l => (l.map fun n => [AV.v (.int .u8 n)]).flatten := by
    intro C hC
    rw [List.map_map]
    refine List.map_congr_left fun l hl => ?_
    have := hC l hl
    match l, this with
    | [a, b, c], _ => rfl
   refine ⟨⟨W, Hh, cut, ka, kb, C.map fun l => (nth l 0, nth l 1, nth l 2), f0, f1, f2, f3, f4, f5⟩, ?_, r2, r3, ⟨bounds_u8 h1, bounds_u8 h2, bounds_u8 h3', fun n hn => bounds_u8 ((h4' ka (by simp)).2 n hn), fun n hn => bounds_u8 ((h4' kb (by simp)).2 n hn), ?_,
    bounds_u8 (h6' f0 (by simp)), bounds_u8 (h6' f1 (by simp)), bounds_u8 (h6' f2 (by simp)), bounds_u8 (h6' f3 (by simp)), bounds_u8 (h6' f4 (by simp)), bounds_u8 (h6' f5 (by simp))⟩, (h4' ka (by simp)).1, (h4' kb (by simp)).1, by simpa using h5⟩
   ·unfold zcE
    simp only
    rw [hCl C (fun z hz => (h5' z hz).1)]
    exact r1
   ·intro t ht
    obtain ⟨z, hz, rfl⟩ := List.mem_map.1 ht
    obtain ⟨q1, q2⟩ := h5' z hz
    match z, q1 with
    | [a, b, c], _ => exact ⟨bounds_u8 (q2 a (by simp)), bounds_u8 (q2 b (by simp)), bounds_u8 (q2 c (by simp))⟩
end Go.Av
end
