/- Our library, part 4: cells read and written; the heap's relation under new blocks and writes. -/
import Derived.Test.YtmmboiafelbgbaaAv3
set_option linter.unusedSimpArgs false
set_option linter.unusedVariables false
namespace Go.Av
open Go

/-! ### plain addresses, runs of cells -/
theorem add_plain {a : Addr} (h : a.spot = none) (k : Nat) : a.add k = ⟨a.block, a.off + k, none⟩ := by
  unfold Addr.add
  split
  · rename_i e; subst e; cases a; simp_all
  · rfl
theorem cell_of {w : World} {a : Addr} {C : Array Value} {T : TypeId} {fz : Nat × Nat} (hs : a.spot = none) (hb : w.heap[a.block]? = some (.cells C T fz)) :
    w.cell? a = C[a.off]? := by
  simp [World.cell?, hb, hs]
theorem run_load_at {P : Program} {w : World} {a : Addr} {C : Array Value} {T : TypeId} {fz : Nat × Nat} (hs : a.spot = none) (hb : w.heap[a.block]? = some (.cells C T fz))
    (h : a.off < C.size) : (load a).run P w = .ok C[a.off] w := by
  have : w.cell? a = some C[a.off] := by rw [cell_of hs hb]; simp [h]
  simp [this]
theorem run_loadCellsFrom {P : Program} {w : World} {a : Addr} {C : Array Value} {T : TypeId} {fz : Nat × Nat} (hs : a.spot = none) (hb : w.heap[a.block]? = some (.cells C T fz)) :
    ∀ (n i : Nat) (acc : Array Value), a.off + i + n ≤ C.size →
      (loadCellsFrom a i n acc).run P w = .ok (acc ++ ((C.toList.drop (a.off + i)).take n).toArray) w := by
  intro n
  induction n with
  | zero => intro i acc _; simp [loadCellsFrom]
  | succ n ih =>
    intro i acc h
    have hlt : a.off + i < C.size := by omega
    have e1 : (load (a.add i)).run P w = .ok C[a.off + i] w := by
      rw [add_plain hs]; exact run_load_at (a := ⟨a.block, a.off + i, none⟩) rfl hb hlt
    simp only [loadCellsFrom, Sem.run_bind, e1, Result.andThen_ok]
    rw [ih (i + 1) _ (by omega)]
    have e2 : C.toList.drop (a.off + i) = C[a.off + i] :: C.toList.drop (a.off + (i + 1)) := by
      rw [List.drop_eq_getElem_cons (by simpa using hlt)]; simp [Nat.add_assoc]
    rw [e2]
    simp
theorem run_loadCells {P : Program} {w : World} {a : Addr} {C : Array Value} {T : TypeId} {fz : Nat × Nat} (hs : a.spot = none) (hb : w.heap[a.block]? = some (.cells C T fz))
    (n : Nat) (h : a.off + n ≤ C.size) : (loadCells a n).run P w = .ok ⟨(C.toList.drop a.off).take n⟩ w := by
  have := run_loadCellsFrom (P := P) hs hb n 0 #[] (by omega)
  simpa [loadCells] using this

/-- one block turned -/
structure Wr (w : World) (k : Nat) (o : Obj) (w' : World) : Prop where
  os : w'.os = w.os
  tape : w'.tape = w.tape
  output : w'.output = w.output
  size : w'.heap.size = w.heap.size
  at_ : w'.heap[k]? = some o
  other : ∀ j, j ≠ k → w'.heap[j]? = w.heap[j]?
def putL : List Value → Nat → List Value → List Value
  | l, _, [] => l
  | l, k, c :: cs => putL (l.set k c) (k + 1) cs
theorem putL_length : ∀ (cs : List Value) (l : List Value) (k : Nat), (putL l k cs).length = l.length
  | [], _, _ => rfl
  | c :: cs, l, k => by rw [putL, putL_length cs]; simp
theorem wr_setCell {w : World} {a : Addr} {C : Array Value} {T : TypeId} {fz : Nat × Nat} (hs : a.spot = none) (hb : w.heap[a.block]? = some (.cells C T fz)) (v : Value) :
    Wr w a.block (.cells (C.setIfInBounds a.off v) T fz) (w.setCell a v) := by
  have hlt : a.block < w.heap.size := (Array.getElem?_eq_some_iff.1 hb).1
  refine ⟨rfl, rfl, rfl, by simp [World.setCell], ?_, fun j hj => ?_⟩
  · simp only [World.setCell, Array.getElem?_modify]
    simp [hb, hs]
  · simp only [World.setCell, Array.getElem?_modify]
    rw [if_neg (by omega)]
theorem Wr.trans {w w₁ w₂ : World} {k : Nat} {o o' : Obj} (h : Wr w k o w₁) (h' : Wr w₁ k o' w₂) : Wr w k o' w₂ :=
  ⟨h'.os.trans h.os, h'.tape.trans h.tape, h'.output.trans h.output, h'.size.trans h.size, h'.at_, fun j hj => (h'.other j hj).trans (h.other j hj)⟩
theorem run_storeCells {P : Program} {a : Addr} {T : TypeId} (hs : a.spot = none) :
    ∀ (vs : List Value) (i : Nat) (w : World) (C : Array Value), w.heap[a.block]? = some (.cells C T (0, 0)) → a.off + i + vs.length ≤ C.size → (∀ u ∈ vs, cellV u = true) →
      ∃ w', (storeCells a vs i).run P w = .ok () w' ∧ Wr w a.block (.cells ⟨putL C.toList (a.off + i) vs⟩ T (0, 0)) w' := by
  intro vs
  induction vs with
  | nil =>
    intro i w C hb _ _
    exact ⟨w, by simp [storeCells], rfl, rfl, rfl, rfl, by simpa [putL] using hb, fun _ _ => rfl⟩
  | cons v vs ih =>
    intro i w C hb hl hv
    simp only [List.length_cons] at hl
    have hlt : a.off + i < C.size := by omega
    have hc : w.cell? ⟨a.block, a.off + i, none⟩ = some C[a.off + i] := by rw [cell_of (a := ⟨a.block, a.off + i, none⟩) rfl hb]; simp [hlt]
    have hf : w.frozen? ⟨a.block, a.off + i, none⟩ = false := by simp [World.frozen?, hb]
    have e1 : (store (a.add i) v).run P w = .ok () (w.setCell ⟨a.block, a.off + i, none⟩ v) := by
      rw [add_plain hs, run_store P w _ _ _ (hv v (by simp)), hc]; simp [hf]
    have hw := wr_setCell (w := w) (a := ⟨a.block, a.off + i, none⟩) rfl hb v
    obtain ⟨w', hr, hw'⟩ := ih (i + 1) (w.setCell ⟨a.block, a.off + i, none⟩ v) _ hw.at_ (by simp; omega) (fun u hu => hv u (by simp [hu]))
    refine ⟨w', ?_, ?_⟩
    · simp only [storeCells, Sem.run_bind, e1, Result.andThen_ok]; exact hr
    · have := hw.trans hw'
      simpa [putL, Nat.add_assoc] using this

/-! ### lists of cells and of rows -/
theorem flatten_drop_take {rs : List (List AV)} {sz : Nat} (h : ∀ r ∈ rs, r.length = sz) (i : Nat) (hi : i < rs.length) :
    rs[i] = (rs.flatten.drop (i * sz)).take sz := by
  induction rs generalizing i with
  | nil => simp at hi
  | cons r rs ih =>
    have hr : r.length = sz := h r (by simp)
    cases i with
    | zero => simp [hr]
    | succ i =>
      have := ih (fun r hr => h r (by simp [hr])) i (by simpa using hi)
      simp only [List.getElem_cons_succ, List.flatten_cons, this]
      have e : (i + 1) * sz = r.length + i * sz := by rw [hr, Nat.add_mul]; omega
      rw [e, ← List.drop_drop, List.drop_left]
theorem flatten_length {rs : List (List AV)} {sz : Nat} (h : ∀ r ∈ rs, r.length = sz) : rs.flatten.length = rs.length * sz := by
  induction rs with
  | nil => simp
  | cons r rs ih =>
    simp only [List.flatten_cons, List.length_append, List.length_cons, ih (fun r hr => h r (by simp [hr])), h r (by simp), Nat.add_mul]
    omega
theorem flatten_drop {rs : List (List AV)} {sz : Nat} (h : ∀ r ∈ rs, r.length = sz) (i : Nat) : (rs.drop i).flatten = rs.flatten.drop (i * sz) := by
  induction rs generalizing i with
  | nil => simp
  | cons r rs ih =>
    cases i with
    | zero => simp
    | succ i =>
      have hr : r.length = sz := h r (by simp)
      have e : (i + 1) * sz = r.length + i * sz := by rw [hr, Nat.add_mul]; omega
      simp only [List.drop_succ_cons, List.flatten_cons, ih (fun r hr => h r (by simp [hr]))]
      rw [e, ← List.drop_drop, List.drop_left]
theorem flatten_take {rs : List (List AV)} {sz : Nat} (h : ∀ r ∈ rs, r.length = sz) (i : Nat) : (rs.take i).flatten = rs.flatten.take (i * sz) := by
  induction rs generalizing i with
  | nil => simp
  | cons r rs ih =>
    cases i with
    | zero => simp
    | succ i =>
      have hr : r.length = sz := h r (by simp)
      have e : (i + 1) * sz = r.length + i * sz := by rw [hr, Nat.add_mul]; omega
      simp only [List.take_succ_cons, List.flatten_cons, ih (fun r hr => h r (by simp [hr]))]
      rw [e, List.take_length_add_append]
theorem setMany_length : ∀ (cs : List AV) (l : List AV) (k : Nat), (setMany l k cs).length = l.length
  | [], _, _ => rfl
  | c :: cs, l, k => by rw [setMany, setMany_length cs]; simp
theorem RelL.setMany {φ : Place} {w : World} {M : Nat → Prop} : ∀ {cs : List AV} {us : List Value} {xs : List AV} {vs : List Value} (k : Nat),
    RelL φ w M xs vs → RelL φ w M cs us → RelL φ w M (setMany xs k cs) (putL vs k us)
  | [], _, _, _, _, h, h' => by cases h'; exact h
  | c :: cs, _, _, _, k, h, h' => by cases h' with | cons h1 h2 => exact RelL.setMany (k + 1) (h.set h1 k) h2
/-- what is written within a window, seen through the window -/
theorem putL_window : ∀ (us : List Value) (l : List Value) (off k n : Nat), k + us.length ≤ n →
    ((putL l (off + k) us).drop off).take n = putL ((l.drop off).take n) k us
  | [], l, off, k, n, _ => rfl
  | u :: us, l, off, k, n, h => by
    simp only [List.length_cons] at h
    rw [putL, putL, Nat.add_assoc, putL_window us (l.set (off + k) u) off (k + 1) n (by omega)]
    congr 1
    apply List.ext_getElem?
    intro j
    simp only [List.getElem?_take, List.getElem?_drop, List.getElem?_set, List.length_take, List.length_drop]
    by_cases hj : j < n
    · by_cases e : k = j
      · subst e
        by_cases hb : off + k < l.length
        · have : k < min n (l.length - off) := by omega
          simp [hj, hb, this]
        · have : ¬ k < min n (l.length - off) := by omega
          simp [hj, hb, this]
      · simp [hj, e]
    · have : ¬ k = j := by omega
      simp [hj, this]
theorem putL_mem : ∀ (us : List Value) (l : List Value) (k : Nat) (x : Value), x ∈ putL l k us → x ∈ l ∨ x ∈ us
  | [], _, _, _, h => .inl h
  | u :: us, l, k, x, h => by
    rcases putL_mem us _ _ _ h with h | h
    · rcases List.mem_or_eq_of_mem_set h with h | h
      · exact .inl h
      · exact .inr (by simp [h])
    · exact .inr (by simp [h])
/-- a part of a row set: the rows' cells, set -/
theorem flatten_set {rs : List (List AV)} {sz : Nat} (h : ∀ r ∈ rs, r.length = sz) (i : Nat) (hi : i < rs.length) (k : Nat) (cs : List AV) (hk : k + cs.length ≤ sz) :
    (rs.set i (setMany rs[i] k cs)).flatten = setMany rs.flatten (i * sz + k) cs := by
  have app : ∀ (cs : List AV) (p q : List AV) (k : Nat), setMany (p ++ q) (p.length + k) cs = p ++ setMany q k cs := by
    intro cs
    induction cs with
    | nil => intro p q k; rfl
    | cons c cs ih => intro p q k; rw [setMany, setMany, List.set_append_right _ _ (by omega), Nat.add_assoc, show p.length + k - p.length = k by omega, ih p _ (k + 1)]
  have app' : ∀ (cs : List AV) (p q : List AV) (k : Nat), k + cs.length ≤ p.length → setMany (p ++ q) k cs = setMany p k cs ++ q := by
    intro cs
    induction cs with
    | nil => intro p q k _; rfl
    | cons c cs ih =>
      intro p q k hk
      simp only [List.length_cons] at hk
      rw [setMany, setMany, List.set_append_left _ _ (by omega), ih _ _ _ (by simp; omega)]
  induction rs generalizing i with
  | nil => simp at hi
  | cons r rs ih =>
    have hr : r.length = sz := h r (by simp)
    cases i with
    | zero => simp only [List.set_cons_zero, List.flatten_cons, List.getElem_cons_zero, Nat.zero_mul, Nat.zero_add]; rw [app' _ _ _ _ (by omega)]
    | succ i =>
      simp only [List.set_cons_succ, List.flatten_cons, List.getElem_cons_succ]
      rw [ih (fun r hr => h r (by simp [hr])) i (by simpa using hi)]
      have e : (i + 1) * sz + k = r.length + (i * sz + k) := by rw [hr, Nat.add_mul]; omega
      rw [e, app]
theorem setMany_all : ∀ (cs l : List AV), l.length = cs.length → setMany l 0 cs = cs := by
  have key : ∀ (cs l p : List AV), l.length = cs.length → setMany (p ++ l) p.length cs = p ++ cs := by
    intro cs
    induction cs with
    | nil => intro l p h; simp at h; subst h; simp [setMany]
    | cons c cs ih =>
      intro l p h
      cases l with
      | nil => simp at h
      | cons x l =>
        rw [setMany, List.set_append_right _ _ (by omega)]
        simp only [Nat.sub_self, List.set_cons_zero]
        have := ih l (p ++ [c]) (by simpa using h)
        simpa using this
  intro cs l h
  simpa using key cs l [] h

/-! ### the heap's relation, under a new or a turned block -/
theorem HRelF.blk {φ : Place} {F : Nat → Prop} {w : World} {M0 : Nat → Prop} {H : Heap} (hH : HRelF φ F w M0 H) {k : Nat} (h : Or M0 (Mut φ H) k) : k < w.heap.size := by
  rcases h with h | ⟨o, g, sz, rs, g', a, bs, ho, hp, rfl⟩
  · exact hH.m0 _ h
  · obtain ⟨A, hA, h⟩ := hH.obj _ _ _ _ _ ho
    rw [hp] at hA
    simp only [Option.some.injEq, Prod.mk.injEq] at hA
    obtain ⟨rfl, rfl⟩ := hA
    rcases h with ⟨h, _⟩ | ⟨a', bs', C, T, hA, hs, _, hb, _⟩
    · cases h
    · simp only [Option.some.injEq, Prod.mk.injEq] at hA
      obtain ⟨rfl, rfl⟩ := hA
      exact (Array.getElem?_eq_some_iff.1 hb).1

/-- THE ONE LAW: object o becomes what is said, at a place of which no other living object is; what is outside M and the other objects lies as it lay. -/
theorem HRelF.set {φ : Place} {F : Nat → Prop} {w : World} {M0 : Nat → Prop} {H : Heap} (hH : HRelF φ F w M0 H) {w' : World} {F' : Nat → Prop} {o : Nat} {mt : Bool} {g sz : Nat} {rs : List (List AV)}
    {A : Option (Addr × Nat)} (hn : ∀ o, F' o → F o) (ho : ¬ F' o) (hsize : w.heap.size ≤ w'.heap.size) (hle : φ.le (upd φ o (some (g, A))))
    (hout : ∀ k, ¬ Or M0 (Mut φ H) k → k < w.heap.size → w'.heap[k]? = w.heap[k]?)
    (hoth : ∀ o' mt g sz rs a b, o' ≠ o → H o' = some (.rows mt g sz rs) → φ o' = some (g, some (a, b)) → w'.heap[a.block]? = w.heap[a.block]? ∧ (∀ a₁ b₁, A = some (a₁, b₁) → a₁.block ≠ a.block))
    (hM : ∀ a b, A = some (a, b) → Or M0 (Mut φ H) a.block ∨ w.heap.size ≤ a.block)
    (hnew : (A = none ∧ rs = []) ∨ ∃ a bs C T, A = some (a, bs) ∧ a.spot = none ∧ ¬ M0 a.block ∧ w'.heap[a.block]? = some (.cells C T (0, 0)) ∧ C.size = bs ∧
      (∀ r ∈ rs, r.length = sz) ∧ a.off + rs.length * sz ≤ bs ∧ (∀ u ∈ (C.toList.drop a.off).take (rs.length * sz), cellV u = true) ∧
      RelL φ w (Or M0 (Mut φ H)) rs.flatten ((C.toList.drop a.off).take (rs.length * sz))) :
    HRelF (upd φ o (some (g, A))) F' w' M0 (upd H o (some (.rows mt g sz rs))) ∧
      (∀ k, Or M0 (Mut (upd φ o (some (g, A))) (upd H o (some (.rows mt g sz rs)))) k → Or M0 (Mut φ H) k ∨ w.heap.size ≤ k) ∧
      (∀ k, Mut (upd φ o (some (g, A))) (upd H o (some (.rows mt g sz rs))) k → Mut φ H k ∨ ∃ a b, A = some (a, b) ∧ a.block = k) := by
  have hmut : ∀ k, Mut (upd φ o (some (g, A))) (upd H o (some (.rows mt g sz rs))) k → Mut φ H k ∨ ∃ a b, A = some (a, b) ∧ a.block = k := by
    rintro k ⟨o', g', sz', rs', g'', a, bs, ho', hp, rfl⟩
    by_cases e : o' = o
    · subst e
      rw [upd_same] at hp
      simp only [Option.some.injEq, Prod.mk.injEq] at hp
      exact .inr ⟨a, bs, hp.2, rfl⟩
    · rw [upd_ne _ _ e] at ho' hp
      exact .inl ⟨o', g', sz', rs', g'', a, bs, ho', hp, rfl⟩
  have hor : ∀ k, Or M0 (Mut (upd φ o (some (g, A))) (upd H o (some (.rows mt g sz rs)))) k → Or M0 (Mut φ H) k ∨ w.heap.size ≤ k := by
    rintro k (h | h)
    · exact .inl (.inl h)
    · rcases hmut k h with h | ⟨a, b, hA, rfl⟩
      · exact .inl (.inr h)
      · exact hM a b hA
  refine ⟨⟨fun k hk => Nat.lt_of_lt_of_le (hH.m0 k hk) hsize, fun o' ho' => ?_, ?_, ?_⟩, hor, hmut⟩
  · rw [upd_ne _ _ (fun e : o' = o => ho (by rw [← e]; exact ho'))]; exact hH.fresh o' (hn o' ho')
  · intro o' mt' g' sz' rs' ho'
    by_cases e : o' = o
    · subst e
      rw [upd_same] at ho' ⊢
      simp only [Option.some.injEq, AObj.rows.injEq] at ho'
      obtain ⟨rfl, rfl, rfl, rfl⟩ := ho'
      refine ⟨A, rfl, hnew.imp id ?_⟩
      rintro ⟨a, bs, C, T, hA, hs, h0, hb, hC, hr, hl, hv, hrel⟩
      exact ⟨a, bs, C, T, hA, hs, h0, hb, hC, hr, hl, hv, hrel.keep hle hout hor⟩
    · rw [upd_ne _ _ e] at ho' ⊢
      obtain ⟨A', hA', h⟩ := hH.obj _ _ _ _ _ ho'
      refine ⟨A', hA', h.imp id ?_⟩
      rintro ⟨a, bs, C, T, hA, hs, h0, hb, hC, hr, hl, hv, hrel⟩
      subst hA
      exact ⟨a, bs, C, T, rfl, hs, h0, ((hoth _ _ _ _ _ _ _ e ho' hA').1).trans hb, hC, hr, hl, hv, hrel.keep hle hout hor⟩
  · intro o₁ o₂ mt₁ g₁ sz₁ rs₁ mt₂ g₂ sz₂ rs₂ a₁ a₂ b₁ b₂ h₁ h₂ hne hmt p₁ p₂
    by_cases e₁ : o₁ = o
    · subst e₁
      rw [upd_same] at p₁
      rw [upd_ne _ _ (Ne.symm hne)] at h₂ p₂
      simp only [Option.some.injEq, Prod.mk.injEq] at p₁
      exact (hoth _ _ _ _ _ _ _ (Ne.symm hne) h₂ p₂).2 _ _ p₁.2
    · rw [upd_ne _ _ e₁] at h₁ p₁
      by_cases e₂ : o₂ = o
      · subst e₂
        rw [upd_same] at p₂
        simp only [Option.some.injEq, Prod.mk.injEq] at p₂
        exact ((hoth _ _ _ _ _ _ _ hne h₁ p₁).2 _ _ p₂.2).symm
      · rw [upd_ne _ _ e₂] at h₂ p₂
        exact hH.inj _ _ _ _ _ _ _ _ _ _ _ _ _ _ h₁ h₂ hne hmt p₁ p₂
end Go.Av
