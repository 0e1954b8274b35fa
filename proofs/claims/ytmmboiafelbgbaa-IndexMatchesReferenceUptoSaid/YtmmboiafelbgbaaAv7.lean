/- Our library, part 7: the abstract operations are sound: those that make memory or write it. -/
import Derived.Test.YtmmboiafelbgbaaAv6
set_option linter.unusedSimpArgs false
set_option linter.unusedVariables false
namespace Go.Av
open Go

theorem Fr.refl (w : World) (U : Nat → Prop) : Fr w U w := ⟨rfl, rfl, rfl, Nat.le_refl _, fun _ _ _ => rfl⟩
theorem Step.refl (φ : Place) (w : World) (M0 : Nat → Prop) (h : Heap) : Step φ w M0 h φ w h := ⟨φ.le_refl, fun _ h => .inl h, Fr.refl _ _, fun _ h => .inl h⟩
theorem Step.trans {φ φ₁ φ₂ : Place} {w w₁ w₂ : World} {M0 : Nat → Prop} {h h₁ h₂ : Heap} (a : Step φ w M0 h φ₁ w₁ h₁) (b : Step φ₁ w₁ M0 h₁ φ₂ w₂ h₂) : Step φ w M0 h φ₂ w₂ h₂ where
  le := Place.le_trans a.le b.le
  or := fun k hk => by
    rcases b.or k hk with h | h
    · exact a.or k h
    · exact .inr (Nat.le_trans a.fr.size h)
  fr := ⟨b.fr.os.trans a.fr.os, b.fr.tape.trans a.fr.tape, b.fr.output.trans a.fr.output, Nat.le_trans a.fr.size b.fr.size, fun k hk hu =>
    (b.fr.block k (Nat.lt_of_lt_of_le hk a.fr.size) (fun hm => by rcases a.mutd k hm with h | h; exact hu h; omega)).trans (a.fr.block k hk hu)⟩
  mutd := fun k hk => by
    rcases b.mutd k hk with h | h
    · exact a.mutd k h
    · exact .inr (Nat.le_trans a.fr.size h)
section
variable {P : Program} {φ φ' : Place} {F : Nat → Prop} {n : Nat} {w w' : World} {M0 : Nat → Prop} {h h' : Heap}
theorem Step.rel (s : Step φ w M0 h φ' w' h') {x : AV} {v : Value} (hx : Rel φ w (Or M0 (Mut φ h)) x v) : Rel φ' w' (Or M0 (Mut φ' h')) x v :=
  hx.keep s.le (fun k hk hlt => s.fr.block k hlt (fun hm => hk (.inr hm))) s.or
theorem Step.relL (s : Step φ w M0 h φ' w' h') {xs : List AV} {vs : List Value} (hx : RelL φ w (Or M0 (Mut φ h)) xs vs) : RelL φ' w' (Or M0 (Mut φ' h')) xs vs :=
  hx.keep s.le (fun k hk hlt => s.fr.block k hlt (fun hm => hk (.inr hm))) s.or

/-- the ids that are free behind it -/
def Fal (F : Nat → Prop) (n : Nat) : Nat → (Nat → Prop)
  | 0 => F
  | _ + 1 => fun o => F o ∧ o ≠ n
/-- what an operation owes -/
def Good (P : Program) (φ : Place) (F : Nat → Prop) (n : Nat) (w : World) (M0 : Nat → Prop) (h : Heap) (r : Res) (s : Sem Value) : Prop :=
  ∃ u w' φ', s.run P w = .ok u w' ∧ Rel φ' w' (Or M0 (Mut φ' (applyW r.wr h))) r.val u ∧ HRelF φ' (Fal F n r.al) w' M0 (applyW r.wr h) ∧ Step φ w M0 h φ' w' (applyW r.wr h)
theorem Reads.good (hH : HRelF φ F w M0 h) {r : Res} {s : Sem Value} (hr : Reads P φ w (Or M0 (Mut φ h)) r s) : Good P φ F n w M0 h r s := by
  obtain ⟨u, h1, h2, h3, h4⟩ := hr
  refine ⟨u, w, φ, h1, ?_, ?_, ?_⟩
  · rw [h3]; exact h2
  · rw [h3, h4]; exact hH
  · rw [h3]; exact .refl _ _ _ _

theorem heap_push (w : World) (o : Obj) (k : Nat) (hk : k < w.heap.size) : ({ w with heap := w.heap.push o } : World).heap[k]? = w.heap[k]? := by
  show (w.heap.push o)[k]? = _
  rw [Array.getElem?_push, if_neg (by omega)]
theorem heap_push_new (w : World) (o : Obj) : ({ w with heap := w.heap.push o } : World).heap[w.heap.size]? = some o := by
  show (w.heap.push o)[w.heap.size]? = _
  simp
theorem fr_push (w : World) (o : Obj) (U : Nat → Prop) : Fr w U { w with heap := w.heap.push o } :=
  ⟨rfl, rfl, rfl, by simp, fun k hk _ => heap_push w o k hk⟩
theorem HRelF.place_old (hH : HRelF φ F w M0 h) {o : Nat} {mt : Bool} {g sz : Nat} {rs : List (List AV)} {a : Addr} {b : Nat} (ho : h o = some (.rows mt g sz rs)) (hp : φ o = some (g, some (a, b))) :
    a.block < w.heap.size ∧ ¬ F o := by
  constructor
  · obtain ⟨A, hA, h1⟩ := hH.obj _ _ _ _ _ ho
    rw [hp] at hA
    simp only [Option.some.injEq, Prod.mk.injEq, true_and] at hA
    subst hA
    rcases h1 with ⟨h1, _⟩ | ⟨a', bs, C, T, h1, _, _, hb, _⟩
    · cases h1
    · simp only [Option.some.injEq, Prod.mk.injEq] at h1
      obtain ⟨rfl, rfl⟩ := h1
      exact (Array.getElem?_eq_some_iff.1 hb).1
  · intro hle
    rw [hH.fresh o hle] at hp; cases hp
theorem le_new (hH : HRelF φ F w M0 h) (hn : F n) (x : Nat × Option (Addr × Nat)) : φ.le (upd φ n (some x)) := by
  intro o y hy
  have : o ≠ n := fun e => by subst e; rw [hH.fresh o hn] at hy; cases hy
  exact ⟨y, by rw [upd_ne _ _ this]; exact hy, Nat.le_refl _, fun _ => rfl⟩

/-- A NEW BLOCK. -/
theorem HRelF.new (hH : HRelF φ F w M0 h) (hn : F n) {sz : Nat} {rs : List (List AV)} {C : Array Value} {T : TypeId} (hr : ∀ r ∈ rs, r.length = sz) (hl : rs.length * sz ≤ C.size)
    (hv : ∀ u ∈ C.toList.take (rs.length * sz), cellV u = true) (hrel : RelL φ w (Or M0 (Mut φ h)) rs.flatten (C.toList.take (rs.length * sz))) :
    HRelF (upd φ n (some (0, some (⟨w.heap.size, 0, none⟩, C.size)))) (fun o => F o ∧ o ≠ n) { w with heap := w.heap.push (.cells C T) } M0 (upd h n (some (.rows true 0 sz rs))) ∧
      Step φ w M0 h (upd φ n (some (0, some (⟨w.heap.size, 0, none⟩, C.size)))) { w with heap := w.heap.push (.cells C T) } (upd h n (some (.rows true 0 sz rs))) := by
  have hle := le_new hH hn (0, some ((⟨w.heap.size, 0, none⟩ : Addr), C.size))
  obtain ⟨h1, h2, h3⟩ := hH.set (w' := { w with heap := w.heap.push (.cells C T) }) (F' := fun o => F o ∧ o ≠ n) (o := n) (mt := true) (g := 0) (sz := sz) (rs := rs) (A := some (⟨w.heap.size, 0, none⟩, C.size))
    (fun _ h => h.1) (fun h => h.2 rfl) (by simp) hle (fun k _ hk => heap_push w _ k hk)
    (fun o' mt g sz rs a b _ ho hp => by
      have := (hH.place_old ho hp).1
      refine ⟨heap_push w _ _ this, fun a₁ b₁ e => ?_⟩
      simp only [Option.some.injEq, Prod.mk.injEq] at e
      obtain ⟨rfl, _⟩ := e
      exact fun e => by simp only at e; omega)
    (fun a b e => by
      simp only [Option.some.injEq, Prod.mk.injEq] at e
      obtain ⟨rfl, _⟩ := e
      exact .inr (Nat.le_refl _))
    (.inr ⟨⟨w.heap.size, 0, none⟩, C.size, C, T, rfl, rfl, fun hm => by have := hH.m0 _ hm; simp only at this; omega, heap_push_new w _, rfl, hr, by simpa using hl,
      by simpa using hv, by simpa using hrel⟩)
  refine ⟨h1, hle, h2, fr_push w _ _, fun k hk => ?_⟩
  rcases h3 k hk with h | ⟨a, b, e, rfl⟩
  · exact .inl h
  · simp only [Option.some.injEq, Prod.mk.injEq] at e
    obtain ⟨rfl, _⟩ := e
    exact .inr (Nat.le_refl _)
/-- An object that is a nil slice as yet. -/
theorem HRelF.newNil (hH : HRelF φ F w M0 h) (hn : F n) (sz : Nat) :
    HRelF (upd φ n (some (0, none))) (fun o => F o ∧ o ≠ n) w M0 (upd h n (some (.rows true 0 sz []))) ∧ Step φ w M0 h (upd φ n (some (0, none))) w (upd h n (some (.rows true 0 sz []))) := by
  have hle := le_new hH hn (0, none)
  obtain ⟨h1, h2, h3⟩ := hH.set (w' := w) (F' := fun o => F o ∧ o ≠ n) (o := n) (mt := true) (g := 0) (sz := sz) (rs := []) (A := none)
    (fun _ h => h.1) (fun h => h.2 rfl) (Nat.le_refl _) hle (fun k _ hk => rfl) (fun o' mt g sz rs a b _ ho hp => ⟨rfl, fun a₁ b₁ e => by cases e⟩) (fun a b e => by cases e) (.inl ⟨rfl, rfl⟩)
  refine ⟨h1, hle, h2, Fr.refl _ _, fun k hk => ?_⟩
  rcases h3 k hk with h | ⟨a, b, e, rfl⟩
  · exact .inl h
  · cases e

theorem cellV_of_isCell (hH : HRelF φ F w M0 h) {x : AV} {v : Value} {M : Nat → Prop} (hx : Rel φ w M x v) (hc : x.isCell h) : cellV v = true := by
  cases x with
  | v y => cases hx; exact hc
  | ref o g sz i off => obtain ⟨a, rfl⟩ := hH.ref_alive hc hx; rfl
  | sl o g sz i len => obtain ⟨A, cap, rfl, _⟩ := hH.sl_alive hc hx; rfl
  | lst => cases hx <;> rfl
  | fp => cases hx; rfl
  | fn => cases hx; rfl
  | _ => exact hc.elim
/-- the cells of a value that a variable may hold -/
theorem cells_of (hH : HRelF φ F w M0 h) {x : AV} {v : Value} {M : Nat → Prop} (hx : Rel φ w M x v) (hc : x.okCells h) :
    RelL φ w M x.cells v.cells.toList ∧ ∀ u ∈ v.cells.toList, cellV u = true := by
  cases x with
  | agg cs => cases hx with | agg hv hrel => exact ⟨hrel, hv⟩
  | _ =>
    have h1 := cellV_of_isCell hH hx hc
    have e : v.cells = #[v] := by cases v <;> simp_all [Value.cells, cellV, Value.oneCell']
    rw [e]
    exact ⟨.cons hx .nil, by simpa using h1⟩

theorem newVar_good (hH : HRelF φ F w M0 h) (hn : F n) {x : AV} {v : Value} {t : TypeId} (hx : Rel φ w (Or M0 (Mut φ h)) x v) (hc : x.okCells h) :
    Good P φ F n w M0 h ⟨True, .ref n 0 x.cells.length 0 0, [(n, some (.rows true 0 x.cells.length [x.cells]))], 1⟩ (do pure (.pointer (some (← newVar t v)))) := by
  obtain ⟨h1, h2⟩ := cells_of hH hx hc
  have hl := h1.length
  obtain ⟨a, b⟩ := hH.new hn (sz := x.cells.length) (rs := [x.cells]) (C := v.cells) (T := t) (by simp) (by simp [hl]) (by rw [List.length_singleton, Nat.one_mul, hl, List.take_length]; exact h2)
    (by rw [List.length_singleton, Nat.one_mul, hl, List.take_length, List.flatten_singleton]; exact h1)
  refine ⟨_, _, _, by simp [newVar, newRow]; rfl, ?_, a, b⟩
  exact .ref (upd_same _ _ _) (Nat.le_refl _) fun _ => ⟨_, _, rfl, by simp⟩
theorem box_good (hH : HRelF φ F w M0 h) (hn : F n) {x : AV} {v : Value} {t : TypeId} (hx : Rel φ w (Or M0 (Mut φ h)) x v) (hc : x.okCells h) :
    Good P φ F n w M0 h ⟨x.okCells h, .ref n 0 x.cells.length 0 0, [(n, some (.rows true 0 x.cells.length [x.cells]))], 1⟩ (Instr.box t v) :=
  newVar_good (P := P) (t := t) hH hn hx hc
theorem zero_cells {M : Nat → Prop} (l : List Value) : RelL φ w M (l.map .v) l := by
  refine RelL.of_get (by simp) fun k hk hv => ?_
  simp only [List.getElem_map]; exact .v _
theorem alloc_good (hH : HRelF φ F w M0 h) (hn : F n) {t : TypeId} {z : List AV} (hz : tz P t = some z) :
    Good P φ F n w M0 h ⟨True, .ref n 0 z.length 0 0, [(n, some (.rows true 0 z.length [z]))], 1⟩ (Instr.alloc t true (.tuple #[])) := by
  obtain ⟨u, h1, rfl, h2⟩ := run_zeroValue (P := P) (w := w) hz
  obtain ⟨a, b⟩ := hH.new hn (sz := (u.cells.toList.map AV.v).length) (rs := [u.cells.toList.map .v]) (C := u.cells) (T := t) (by simp) (by simp) (by rw [List.length_singleton, Nat.one_mul, List.length_map, List.take_length]; exact h2)
    (by rw [List.length_singleton, Nat.one_mul, List.length_map, List.take_length, List.flatten_singleton]; exact zero_cells u.cells.toList)
  refine ⟨.pointer (some ⟨w.heap.size, 0, none⟩), _, _, by simp [Instr.alloc, h1, newVar, newRow], ?_, a, b⟩
  exact .ref (upd_same _ _ _) (Nat.le_refl _) fun _ => ⟨_, _, rfl, by simp⟩

/-! ### a row of a slice's literal -/
theorem foldl_put (off : Nat) : ∀ (us : List Value) (cs : Array Value) (k : Nat),
    ((us.zipIdx k).foldl (fun cs (p : Value × Nat) => cs.setIfInBounds (off + p.2) p.1) cs).toList = putL cs.toList (off + k) us
  | [], _, _ => rfl
  | u :: us, cs, k => by
    simp only [List.zipIdx_cons, List.foldl_cons, putL]
    rw [foldl_put off us]
    simp [Nat.add_assoc]
theorem foldl_put' (off : Nat) (us : Array Value) (cs : Array Value) :
    (us.zipIdx.foldl (fun cs (p : Value × Nat) => cs.setIfInBounds (off + p.2) p.1) cs).toList = putL cs.toList off us.toList := by
  have := foldl_put off us.toList cs 0
  simp only [Nat.add_zero] at this
  rw [← this, ← Array.foldl_toList]
  simp
theorem setMany_zero {row cs : List AV} (h : row.length = cs.length) : setMany row 0 cs = cs := setMany_all cs row h
theorem fillRows_good (hH : HRelF φ F w M0 h) {sz : Nat} : ∀ (parts : List (Nat × AV)) (vparts : List (Nat × Value)) (rs : List (List AV)) (C : Array Value),
    (∀ r ∈ rs, r.length = sz) → C.size = rs.length * sz → (∀ u ∈ C.toList, cellV u = true) → RelL φ w (Or M0 (Mut φ h)) rs.flatten C.toList →
    parts.length = vparts.length → (∀ (k : Nat) (hk : k < parts.length) (hk' : k < vparts.length), parts[k].1 = vparts[k].1 ∧ Rel φ w (Or M0 (Mut φ h)) parts[k].2 vparts[k].2) →
    (fillRows h sz rs parts).1 → ∃ C', Instr.fill (fun i => some (i * sz, sz)) C vparts = some C' ∧ C'.size = C.size ∧ (fillRows h sz rs parts).2.length = rs.length ∧
      (∀ r ∈ (fillRows h sz rs parts).2, r.length = sz) ∧ (∀ u ∈ C'.toList, cellV u = true) ∧ RelL φ w (Or M0 (Mut φ h)) (fillRows h sz rs parts).2.flatten C'.toList := by
  intro parts
  induction parts with
  | nil =>
    intro vparts rs C hr hC hv hrel hlen _ _
    cases vparts with
    | nil => exact ⟨C, rfl, rfl, rfl, hr, hv, hrel⟩
    | cons => simp at hlen
  | cons p parts ih =>
    intro vparts rs C hr hC hv hrel hlen hp hc
    cases vparts with
    | nil => simp at hlen
    | cons q vparts =>
      obtain ⟨i, x⟩ := p
      obtain ⟨j, v⟩ := q
      obtain ⟨e, hx⟩ := hp 0 (by simp) (by simp)
      simp only [List.getElem_cons_zero] at e hx
      subst e
      obtain ⟨hi, hsz, hok, hc⟩ := hc
      obtain ⟨h1, h2⟩ := cells_of hH hx hok
      have hl := h1.length
      have hle : i * sz + sz ≤ rs.length * sz := by
        have := Nat.mul_le_mul_right sz (show i + 1 ≤ rs.length from hi)
        rw [Nat.add_mul] at this; omega
      have hvs : v.cells.size = sz := by rw [← Array.length_toList, ← hl, hsz]
      obtain ⟨C', hC'⟩ : ∃ C' : Array Value, C' = v.cells.zipIdx.foldl (fun cs (p : Value × Nat) => cs.setIfInBounds (i * sz + p.2) p.1) C := ⟨_, rfl⟩
      have hC'l : C'.toList = putL C.toList (i * sz) v.cells.toList := by rw [hC', foldl_put']
      have hsize : C'.size = C.size := by rw [← Array.length_toList, hC'l, putL_length, Array.length_toList]
      have hrow : (rs.set i x.cells).flatten = setMany rs.flatten (i * sz) x.cells := by
        have := flatten_set hr i hi 0 x.cells (by omega)
        rw [setMany_zero (by rw [hr _ (List.getElem_mem _), hsz])] at this
        simpa using this
      obtain ⟨C'', hf, hs, hl', hr', hv', hrel'⟩ := ih vparts (rs.set i x.cells) C'
        (fun r hm => by rcases List.mem_or_eq_of_mem_set hm with h | h; exact hr r h; rw [h, hsz])
        (by rw [hsize, hC, List.length_set])
        (fun u hu => by rw [hC'l] at hu; rcases putL_mem _ _ _ _ hu with h | h; exact hv u h; exact h2 u h)
        (by rw [hC'l, hrow]; exact RelL.setMany _ hrel h1)
        (by simpa using hlen)
        (fun k hk hk' => by have := hp (k + 1) (by simpa using hk) (by simpa using hk'); simpa using this) hc
      refine ⟨C'', ?_, by rw [hs, hsize], by simpa [fillRows] using hl', hr', hv', hrel'⟩
      have hneg : (decide (v.cells.size ≠ sz) || decide (i * sz + v.cells.size > C.size)) = false := by simp; omega
      simp only [Instr.fill, hneg, Bool.false_eq_true, if_false]
      rw [← hf, hC']
theorem run_newRow (T : TypeId) (C : Array Value) : (newRow T C).run P w = .ok ⟨w.heap.size, 0, none⟩ { w with heap := w.heap.push (.cells C T) } := by
  simp [newRow]
theorem rep_cells {z : List AV} {u : List Value} {M : Nat → Prop} (h : RelL φ w M z u) : ∀ k, RelL φ w M (List.replicate k z).flatten (List.replicate k u).flatten
  | 0 => by simp; exact .nil
  | k + 1 => by simp only [List.replicate_succ, List.flatten_cons]; exact h.append (rep_cells h k)
theorem range_rep (u : Array Value) (hu : 0 < u.size) : ∀ k, ((Array.range (k * u.size)).map (u[· % u.size]!)).toList = (List.replicate k u.toList).flatten
  | 0 => by simp
  | k + 1 => by
    have ih := range_rep u hu k
    have hl : (List.replicate k u.toList).flatten.length = k * u.size := by simp
    rw [List.replicate_succ', List.flatten_append, ← ih]
    apply List.ext_getElem
    · simp [Nat.add_mul]
    · intro i h1 h2
      simp only [Array.toList_map, Array.toList_range, List.getElem_map, List.getElem_range]
      by_cases hi : i < k * u.size
      · rw [List.getElem_append_left (by simpa using hi)]; simp
      · rw [List.getElem_append_right (by simpa using hi)]
        simp only [List.length_map, List.length_range, List.flatten_singleton, Array.getElem_toList]
        have hb : i < (k + 1) * u.size := by simpa using h1
        rw [Nat.add_mul] at hb
        have e : i % u.size = i - k * u.size := by
          have : i = (i - k * u.size) + k * u.size := by omega
          rw [this, Nat.add_mul_mod_self_right, Nat.mod_eq_of_lt (by omega)]; omega
        rw [e, getElem!_pos u (i - k * u.size) (by omega)]

theorem buildSlice_good (hH : HRelF φ F w M0 h) (hn : F n) {t : TypeId} {len : Nat} {parts : List (Nat × AV)} {vparts : Array (Nat × Value)} (hlen : parts.length = vparts.toList.length)
    (hp : ∀ (k : Nat) (hk : k < parts.length) (hk' : k < vparts.toList.length), parts[k].1 = vparts.toList[k].1 ∧ Rel φ w (Or M0 (Mut φ h)) parts[k].2 vparts.toList[k].2)
    (hc : (evBuildSlice P n t len parts h).cond) : Good P φ F n w M0 h (evBuildSlice P n t len parts h) (Instr.buildSlice t len vparts) := by
  unfold evBuildSlice at hc ⊢
  split at hc
  · rename_i e ht
    split at hc
    · rename_i sz z hsz hz
      try simp only [hsz, hz]
      obtain ⟨h1, h2, h3, h4⟩ := hc
      obtain ⟨u, hu, rfl, hcv⟩ := run_zeroValue (P := P) (w := w) hz
      have hus : u.cells.size = sz := by simpa using h2
      have hC : ((Array.range (len * sz)).map (u.cells[· % u.cells.size]!)).toList = (List.replicate len u.cells.toList).flatten := by
        rw [← hus]; exact range_rep u.cells (by omega) len
      obtain ⟨C', hf, hs, hl, hr, hv, hrel⟩ := fillRows_good hH parts vparts.toList (List.replicate len (u.cells.toList.map .v)) ((Array.range (len * sz)).map (u.cells[· % u.cells.size]!))
        (fun r hr => by rw [(List.mem_replicate.1 hr).2]; simpa using hus) (by simp) (fun c hm => by
          rw [hC] at hm
          obtain ⟨l, hl, hm⟩ := List.mem_flatten.1 hm
          rw [(List.mem_replicate.1 hl).2] at hm
          exact hcv c hm)
        (by rw [hC]; exact rep_cells (zero_cells _) len) hlen hp h1
      have hl' : (fillRows h sz (List.replicate len (u.cells.toList.map AV.v)) parts).2.length = len := by simpa using hl
      have hCs : C'.size = len * sz := by rw [hs]; simp
      have et : C'.toList.take (len * sz) = C'.toList := by rw [← hCs]; exact List.take_of_length_le (by simp)
      obtain ⟨a, b⟩ := hH.new hn (sz := sz) (rs := (fillRows h sz (List.replicate len (u.cells.toList.map AV.v)) parts).2) (C := C') (T := e) hr (by rw [hl', hCs]; exact Nat.le_refl _)
        (by rw [hl', et]; exact hv) (by rw [hl', et]; exact hrel)
      refine ⟨.slice (some ⟨w.heap.size, 0, none⟩) len len, _, _, ?_, ?_, a, b⟩
      · have hlt : ¬ len * sz > 2 ^ 24 := by omega
        by_cases h0 : len * sz = 0
        · have hf0 : Instr.fill (fun i => some (i * sz, sz)) #[] vparts.toList = some C' := by
            rw [← hf]; congr 1; rw [h0]; simp
          have hr0 : (Array.range (len * sz)) = #[] := by rw [h0]; simp
          simp only [Instr.buildSlice, Sem.run_bind, run_underlying (tk_sl ht), Result.andThen_ok, run_sizeOf hsz, hlt, if_false, h0, if_true, Sem.run_pure]
          have e0 : ∀ f : Nat → Value, Array.map f (Array.range 0) = #[] := fun f => by simp
          simp only [e0, hf0, show ¬ (0 > 2 ^ 24) from by omega, if_false, Sem.run_map, run_newRow, Result.andThen_ok, Sem.run_bind, Sem.run_pure]
        · simp only [Instr.buildSlice, Sem.run_bind, run_underlying (tk_sl ht), Result.andThen_ok, run_sizeOf hsz, hlt, if_false, h0, hu, Sem.run_pure, hf, run_newRow]
      · refine .sl (upd_same _ _ _) (Nat.le_refl _) fun _ => .inr (.inr ⟨_, _, len, rfl, by simp, Nat.le_refl _, ?_⟩)
        simp only [hCs]; omega
    · exact hc.elim
  · exact hc.elim
/-! ### struct and array values -/
theorem fillCells_good (hH : HRelF φ F w M0 h) {t : TypeId} {places : Array (Nat × Nat)} (hpl : ∀ i d k, foff P t i = some d → (ftyp P t i).bind (tsz P) = some k → places[i]? = some (d, k)) :
    ∀ (parts : List (Nat × AV)) (vparts : List (Nat × Value)) (cs : List AV) (C : Array Value), (∀ u ∈ C.toList, cellV u = true) → RelL φ w (Or M0 (Mut φ h)) cs C.toList →
    parts.length = vparts.length → (∀ (k : Nat) (hk : k < parts.length) (hk' : k < vparts.length), parts[k].1 = vparts[k].1 ∧ Rel φ w (Or M0 (Mut φ h)) parts[k].2 vparts[k].2) →
    (fillCells P h t cs parts).1 → ∃ C', Instr.fill (places[·]?) C vparts = some C' ∧ (∀ u ∈ C'.toList, cellV u = true) ∧ RelL φ w (Or M0 (Mut φ h)) (fillCells P h t cs parts).2 C'.toList := by
  intro parts
  induction parts with
  | nil =>
    intro vparts cs C hv hrel hlen _ _
    cases vparts with
    | nil => exact ⟨C, rfl, hv, hrel⟩
    | cons => simp at hlen
  | cons p parts ih =>
    intro vparts cs C hv hrel hlen hp hc
    cases vparts with
    | nil => simp at hlen
    | cons q vparts =>
      obtain ⟨i, x⟩ := p
      obtain ⟨j, v⟩ := q
      obtain ⟨e, hx⟩ := hp 0 (by simp) (by simp)
      simp only [List.getElem_cons_zero] at e hx
      subst e
      simp only [fillCells] at hc ⊢
      split at hc
      · rename_i d k hd hk
        try simp only [hd, hk]
        obtain ⟨hsz, hle, hok, hc⟩ := hc
        obtain ⟨h1, h2⟩ := cells_of hH hx hok
        have hl := h1.length
        have hvs : v.cells.size = k := by rw [← Array.length_toList, ← hl, hsz]
        have hCl := hrel.length
        obtain ⟨C', hC'⟩ : ∃ C' : Array Value, C' = v.cells.zipIdx.foldl (fun cs (p : Value × Nat) => cs.setIfInBounds (d + p.2) p.1) C := ⟨_, rfl⟩
        have hC'l : C'.toList = putL C.toList d v.cells.toList := by rw [hC', foldl_put']
        obtain ⟨C'', hf, hv', hrel'⟩ := ih vparts (setMany cs d x.cells) C'
          (fun u hu => by rw [hC'l] at hu; rcases putL_mem _ _ _ _ hu with h | h; exact hv u h; exact h2 u h)
          (by rw [hC'l]; exact RelL.setMany _ hrel h1) (by simpa using hlen)
          (fun k hk hk' => by have := hp (k + 1) (by simpa using hk) (by simpa using hk'); simpa using this) hc
        refine ⟨C'', ?_, hv', hrel'⟩
        have hneg : (decide (v.cells.size ≠ k) || decide (d + v.cells.size > C.size)) = false := by
          have : C.size = cs.length := by rw [hCl, Array.length_toList]
          simp; omega
        simp only [Instr.fill, hpl i d k hd hk, hneg, Bool.false_eq_true, if_false]
        rw [← hf, hC']
      · exact hc.elim
theorem fillArr_good (hH : HRelF φ F w M0 h) {sz : Nat} : ∀ (parts : List (Nat × AV)) (vparts : List (Nat × Value)) (cs : List AV) (C : Array Value), (∀ u ∈ C.toList, cellV u = true) → RelL φ w (Or M0 (Mut φ h)) cs C.toList →
    parts.length = vparts.length → (∀ (k : Nat) (hk : k < parts.length) (hk' : k < vparts.length), parts[k].1 = vparts[k].1 ∧ Rel φ w (Or M0 (Mut φ h)) parts[k].2 vparts[k].2) →
    (fillArr h sz cs parts).1 → ∃ C', Instr.fill (fun i => some (i * sz, sz)) C vparts = some C' ∧ (∀ u ∈ C'.toList, cellV u = true) ∧ RelL φ w (Or M0 (Mut φ h)) (fillArr h sz cs parts).2 C'.toList := by
  intro parts
  induction parts with
  | nil =>
    intro vparts cs C hv hrel hlen _ _
    cases vparts with
    | nil => exact ⟨C, rfl, hv, hrel⟩
    | cons => simp at hlen
  | cons p parts ih =>
    intro vparts cs C hv hrel hlen hp hc
    cases vparts with
    | nil => simp at hlen
    | cons q vparts =>
      obtain ⟨i, x⟩ := p
      obtain ⟨j, v⟩ := q
      obtain ⟨e, hx⟩ := hp 0 (by simp) (by simp)
      simp only [List.getElem_cons_zero] at e hx
      subst e
      simp only [fillArr] at hc ⊢
      obtain ⟨hsz, hle, hok, hc⟩ := hc
      obtain ⟨h1, h2⟩ := cells_of hH hx hok
      have hl := h1.length
      have hvs : v.cells.size = sz := by rw [← Array.length_toList, ← hl, hsz]
      have hCl := hrel.length
      obtain ⟨C', hC'⟩ : ∃ C' : Array Value, C' = v.cells.zipIdx.foldl (fun cs (p : Value × Nat) => cs.setIfInBounds (i * sz + p.2) p.1) C := ⟨_, rfl⟩
      have hC'l : C'.toList = putL C.toList (i * sz) v.cells.toList := by rw [hC', foldl_put']
      obtain ⟨C'', hf, hv', hrel'⟩ := ih vparts (setMany cs (i * sz) x.cells) C'
        (fun u hu => by rw [hC'l] at hu; rcases putL_mem _ _ _ _ hu with h | h; exact hv u h; exact h2 u h)
        (by rw [hC'l]; exact RelL.setMany _ hrel h1) (by simpa using hlen)
        (fun k hk hk' => by have := hp (k + 1) (by simpa using hk) (by simpa using hk'); simpa using this) hc
      refine ⟨C'', ?_, hv', hrel'⟩
      have hneg : (decide (v.cells.size ≠ sz) || decide (i * sz + v.cells.size > C.size)) = false := by
        have : C.size = cs.length := by rw [hCl, Array.length_toList]
        simp; omega
      simp only [Instr.fill, hneg, Bool.false_eq_true, if_false]
      rw [← hf, hC']
theorem run_places : ∀ (l : List Field), (∀ f ∈ l, ∃ i, P.info? f.type = some i) →
    ((l.mapM fun (f : Field) => do pure (f.offset, ← sizeOf f.type) : Sem (List (Nat × Nat)))).run P w = .ok (l.map fun f => (f.offset, ((P.info? f.type).map (·.size)).getD 0)) w
  | [], _ => by simp
  | f :: l, hl => by
    obtain ⟨i, hi⟩ := hl f (by simp)
    have ih := run_places l (fun f hf => hl f (by simp [hf]))
    have hs : (sizeOf f.type).run P w = .ok i.size w := by simp [sizeOf, typeInfo, hi]
    simp only [List.mapM_cons, Sem.run_bind, hs, Result.andThen_ok, Sem.run_pure, ih, List.map_cons, hi, Option.map_some, Option.getD_some]
theorem build_good (hH : HRelF φ F w M0 h) {t : TypeId} {parts : List (Nat × AV)} {vparts : Array (Nat × Value)} (hlen : parts.length = vparts.toList.length)
    (hp : ∀ (k : Nat) (hk : k < parts.length) (hk' : k < vparts.toList.length), parts[k].1 = vparts.toList[k].1 ∧ Rel φ w (Or M0 (Mut φ h)) parts[k].2 vparts.toList[k].2)
    (hc : (evBuild P t parts h).cond) : Reads P φ w (Or M0 (Mut φ h)) (evBuild P t parts h) (Instr.build t vparts) := by
  unfold evBuild at hc ⊢
  split at hc
  · rename_i z ht hz
    obtain ⟨hfi, hc⟩ := hc
    obtain ⟨u, hu, rfl, hcv⟩ := run_zeroValue (P := P) (w := w) hz
    obtain ⟨fs, hfs⟩ := tk_str ht
    have hinfo : ∀ f ∈ fs.toList, ∃ i, P.info? f.type = some i := by
      intro f hf
      simp only [tfi, hfs, List.all_eq_true] at hfi
      exact Option.isSome_iff_exists.1 (hfi f hf)
    have hpl : ∀ i d k, foff P t i = some d → (ftyp P t i).bind (tsz P) = some k → ((fs.toList.map fun f => (f.offset, ((P.info? f.type).map (·.size)).getD 0)).toArray)[i]? = some (d, k) := by
      intro i d k hd hk
      obtain ⟨fs', fl, h1, h2, h3⟩ := foff_some hd
      rw [hfs] at h1
      simp only [Option.some.injEq, TypeDesc.struct.injEq] at h1
      subst h1
      simp only [ftyp, hfs, h2, Option.map_some, Option.bind_some, tsz] at hk
      simp [h2, h3, hk]
    obtain ⟨C', hf, hv', hrel'⟩ := fillCells_good hH hpl parts vparts.toList _ u.cells hcv (zero_cells _) hlen hp hc
    refine ⟨.agg C', ?_, .agg (vs := C'.toList) hv' hrel', rfl, rfl⟩
    have hm : (fs.mapM fun (f : Field) => do pure (f.offset, ← sizeOf f.type) : Sem (Array (Nat × Nat))).run P w = .ok ((fs.toList.map fun f => (f.offset, ((P.info? f.type).map (·.size)).getD 0)).toArray) w := by
      rw [Array.mapM_eq_mapM_toList]
      simp only [Sem.run_map, run_places _ hinfo, Result.andThen_ok]
    simp only [Instr.build, Sem.run_bind, hu, Result.andThen_ok, run_underlying hfs, hm, hf, Sem.run_map, Sem.run_pure]
  · rename_i e z ht hz
    split at hc
    · rename_i sz hsz
      try simp only [hsz]
      obtain ⟨u, hu, rfl, hcv⟩ := run_zeroValue (P := P) (w := w) hz
      obtain ⟨C', hf, hv', hrel'⟩ := fillArr_good hH parts vparts.toList _ u.cells hcv (zero_cells _) hlen hp hc
      refine ⟨.agg C', ?_, .agg (vs := C'.toList) hv' hrel', rfl, rfl⟩
      simp only [Instr.build, Sem.run_bind, hu, Result.andThen_ok, run_underlying (tk_arr ht), run_sizeOf hsz, hf, Sem.run_map, Sem.run_pure]
    · exact hc.elim
  · exact hc.elim
end
end Go.Av
