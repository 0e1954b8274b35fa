/- Our library: slices.SortFunc at our rows, by the kit's contract. -/
import Derived.Test.YtbcnlnpgkonjpaaGreatAvK
import Derived.Shelf.SlSortCmp.NoneTotal
import Derived.Test.YtbcnlnpgkonjpaaGreatProg
import Derived.Test.YtbcnlnpgkonjpaaGreatD1
import Derived.Test.YtbcnlnpgkonjpaaGreatDB
section
set_option linter.unusedSimpArgs false
set_option linter.unusedVariables false
set_option maxHeartbeats 400000
namespace Go.Av
open Go Go.Sort Go.Shelf Go.Proofs
/-- an element of a row: its data, and its cells in the world at hand -/
structure El (w : World) (M : Nat → Prop) {α : Type} (en : α → List AV) (Q : α → Prop) where
  x : α
  vs : List Value
  q : Q x
  rel : RelL noP w M (en x) vs
  cells : ∀ v ∈ vs, cellV v = true
theorem elems {w : World} {M : Nat → Prop} {α : Type} {en : α → List AV} {Q : α → Prop} : ∀ {l : List α} {W : List Value}, (∀ x ∈ l, Q x) → RelL noP w M (l.map en).flatten W → (∀ v ∈ W, cellV v = true) →
    ∃ ls : List (El w M en Q), ls.map (·.x) = l ∧ (ls.map (·.vs)).flatten = W
  | [], W, _, h, _ => by cases h; exact ⟨[], rfl, rfl⟩
  | x :: l, W, hq, h, hc => by
    rw [List.map_cons, List.flatten_cons] at h
    obtain ⟨us, ts, rfl, h1, h2⟩ := h.split
    obtain ⟨ls, e1, e2⟩ := elems (fun y hy => hq y (by simp [hy])) h2 (fun v hv => hc v (by simp [hv]))
    exact ⟨⟨x, us, hq x (by simp), h1, fun v hv => hc v (by simp [hv])⟩ :: ls, by simp [e1], by simp [e2]⟩
theorem flat_get {k : Nat} (hk : 0 < k) : ∀ (ls : List (List Value)) (t : Nat), (∀ r ∈ ls, r.length = k) → t < ls.length * k → ls.flatten[t]? = (ls[t / k]?).bind (·[t % k]?)
  | [], t, _, h => by simp at h
  | r :: ls, t, hr, h => by
    have hl : r.length = k := hr r (by simp)
    rw [List.flatten_cons]
    by_cases ht : t < k
    · rw [List.getElem?_append_left (by omega), Nat.div_eq_of_lt ht, Nat.mod_eq_of_lt ht]; rfl
    · obtain ⟨s, rfl⟩ : ∃ s, t = s + k := ⟨t - k, by omega⟩
      have hs : s < ls.length * k := by simp only [List.length_cons, Nat.add_mul, Nat.one_mul] at h; omega
      rw [List.getElem?_append_right (by omega), hl, Nat.add_sub_cancel, flat_get hk ls s (fun r hr' => hr r (by simp [hr'])) hs, Nat.add_div_right _ hk, Nat.add_mod_right, List.getElem?_cons_succ]
theorem flatK_list {β : Type} [Inhabited β] (enc : β → List Value) {k : Nat} (hk0 : 0 < k) (hk : ∀ x, (enc x).length = k) (d : Array β) : (flatK enc k d).toList = (d.toList.map enc).flatten := by
  refine List.ext_getElem? fun t => ?_
  have hr : ∀ r ∈ d.toList.map enc, r.length = k := fun r hr => by obtain ⟨x, _, rfl⟩ := List.mem_map.1 hr; exact hk x
  have hlen : ((d.toList.map enc).flatten).length = d.size * k := by
    have : ∀ ls : List (List Value), (∀ r ∈ ls, r.length = k) → ls.flatten.length = ls.length * k := by
      intro ls
      induction ls with
      | nil => intro _; simp
      | cons r ls ih => intro h; rw [List.flatten_cons, List.length_append, ih (fun r hr => h r (by simp [hr])), h r (by simp), List.length_cons, Nat.add_mul]; omega
    rw [this _ hr]; simp
  by_cases ht : t < d.size * k
  · have h1 := get_flatK enc k d t ht
    have hq : t / k < d.size := Nat.div_lt_of_lt_mul (by rw [Nat.mul_comm]; exact ht)
    have hm : t % k < k := Nat.mod_lt _ hk0
    have hs : t < (flatK enc k d).size := by rw [size_flatK]; exact ht
    rw [flat_get hk0 _ t hr (by simpa using ht), Array.getElem?_toList, Array.getElem?_eq_getElem hs, ← getElem!_pos (flatK enc k d) t hs, h1, List.getElem?_map, Array.getElem?_toList, Array.getElem?_eq_getElem hq,
      getElem!_pos d (t / k) hq]
    simp only [Option.map_some, Option.bind_some]
    rw [List.getElem?_eq_getElem (by rw [hk]; exact hm), getElem!_pos _ _ (by rw [hk]; exact hm)]
  · rw [List.getElem?_eq_none (by rw [Array.length_toList, size_flatK]; omega), List.getElem?_eq_none (by omega)]
/-- the world behind the sort -/
theorem sort_world {w : World} {blk off : Nat} {C : Array Value} {T : TypeId} (hb : w.heap[blk]? = some (.cells C T (0, 0))) {F : Array Value} (hF : off + F.size ≤ C.size) (n : Nat) (os : Array Obj) :
    ∃ C', (grow (putRow id (Sort.ahead w n) blk off F) os).heap[blk]? = some (.cells C' T (0, 0)) ∧ C'.size = C.size ∧ (C'.toList.drop off).take F.size = F.toList ∧
      (∀ j, j ≠ blk → j < w.heap.size → (grow (putRow id (Sort.ahead w n) blk off F) os).heap[j]? = w.heap[j]?) ∧ w.heap.size ≤ (grow (putRow id (Sort.ahead w n) blk off F) os).heap.size := by
  have hlt : blk < w.heap.size := (Array.getElem?_eq_some_iff.1 hb).1
  have hsz : (putRow id (Sort.ahead w n) blk off F).heap.size = w.heap.size := by rw [Sort.size_putRow]; rfl
  have hold : ∀ j, j < w.heap.size → (grow (putRow id (Sort.ahead w n) blk off F) os).heap[j]? = (w.heap.modify blk (onCells (putCells id off F)))[j]? := by
    intro j hj
    show (_ ++ os)[j]? = _
    rw [Array.getElem?_append_left (by rw [hsz]; exact hj)]
    rfl
  refine ⟨putCells id off F C, ?_, by simp [putCells], ?_, fun j hj hjl => ?_, ?_⟩
  · rw [hold blk hlt, Array.getElem?_modify]
    simp [hb, onCells]
  · refine List.ext_getElem? fun j => ?_
    by_cases hj : j < F.size
    · rw [List.getElem?_take, if_pos hj, List.getElem?_drop, Array.getElem?_toList, Array.getElem?_toList]
      simp only [putCells, Array.getElem?_mapIdx]
      rw [Array.getElem?_eq_getElem (show off + j < C.size by omega), Array.getElem?_eq_getElem hj]
      simp only [Option.map_some]
      rw [if_pos ⟨by omega, by omega⟩, show off + j - off = j by omega, getElem!_pos F j hj]
      rfl
    · rw [List.getElem?_eq_none (by simp; omega), List.getElem?_eq_none (by simpa using hj)]
  · rw [hold j hjl, Array.getElem?_modify, if_neg (Ne.symm hj)]
  · rw [size_grow, hsz]; omega
theorem sort_worldK {w : World} {blk off : Nat} {C : Array Value} {T : TypeId} (hb : w.heap[blk]? = some (.cells C T (0, 0))) {β : Type} [Inhabited β] (enc : β → List Value) (k : Nat) (d : Array β) (hF : off + d.size * k ≤ C.size) (n : Nat) (os : Array Obj) :
    ∃ C', (sortWorldK enc k w blk off n d os).heap[blk]? = some (.cells C' T (0, 0)) ∧ C'.size = C.size ∧ (C'.toList.drop off).take (d.size * k) = (flatK enc k d).toList ∧
      (∀ j, j ≠ blk → j < w.heap.size → (sortWorldK enc k w blk off n d os).heap[j]? = w.heap[j]?) ∧ w.heap.size ≤ (sortWorldK enc k w blk off n d os).heap.size ∧
      (sortWorldK enc k w blk off n d os).os = w.os ∧ (sortWorldK enc k w blk off n d os).tape = w.tape ∧ (sortWorldK enc k w blk off n d os).output = w.output ∧ w.drawn ≤ (sortWorldK enc k w blk off n d os).drawn := by
  obtain ⟨C', h1, h2, h3, h4, h5⟩ := sort_world hb (F := flatK enc k d) (by rw [size_flatK]; exact hF) n os
  unfold sortWorldK putRowK
  rw [size_flatK] at h3
  exact ⟨C', h1, h2, h3, h4, h5, rfl, rfl, rfl, Nat.le_add_right _ _⟩
theorem swo_pull {α β : Type} {lt : α → α → Bool} (h : SWO lt) (f : β → α) : SWO (fun a b => lt (f a) (f b)) := ⟨fun _ => h.irrefl _, fun _ _ _ => h.trans _ _ _, fun _ _ _ => h.ntrans _ _ _⟩
theorem ACallP.sortFunc {P : Program} {ρ : Ren} (L : SlLaysF0.n6 P ρ) {α : Type} {k : Nat} (hk0 : 0 < k) (aE : ∀ w, (isAgg (ρ.t 24)).run P w = .ok true w) (zE : ∀ w, (Go.sizeOf (ρ.t 24)).run P w = .ok k w)
    (en : α → List AV) (henl : ∀ x, (en x).length = k) (henb : ∀ x, ∀ c ∈ en x, Bel 0 c) (Q : α → Prop) (cf : α → α → Int) (hO : SWO (fun a b : α => decide (cf a b < 0))) (g : FuncId)
    (hC : ∀ x y, Q x → Q y → Pure P g [.agg (en x), .agg (en y)] (.v (.int .i64 (cf x y)))) (hg : Enters P g) (l : List α) (hQ : ∀ x ∈ l, Q x) (hl : l.length < 4611686018427387904) {h : Heap} {n o gn : Nat}
    (ho : h o = some (.rows true gn k (l.map en))) {K : CallK} (hK : ∀ l' : List α, l'.Perm l → l'.Pairwise (fun a b => ¬ cf b a < 0) → K (.tup []) (upd h o (some (.rows true gn k (l'.map en)))) n) :
    ACallP P (ρ.f 6) [.sl o gn k 0 l.length, .fn (.func g) [] []] h n K := by
  have e6 : Enters P (ρ.f 6) := L.f6.enters rfl
  refine ⟨e6, fun M0 φ w vs hH hargs => ?_⟩
  cases hargs with
  | cons hs ht =>
  cases ht with
  | cons hf ht =>
  cases ht
  cases hf with
  | @fn _ _ _ fs cs q1 q2 =>
  cases q1; cases q2
  have hal : alive h o gn k := by simp [alive, ho]
  obtain ⟨A, cap, rfl, hcap, hA⟩ := hH.sl_alive hal hs
  have hnone : l = [] → Calls P (ρ.f 6) ⟨[.slice A l.length cap, .func (.func g) ⟨[]⟩ ⟨[]⟩]⟩ w fun e w' => ∃ v φ' r h' n', e = .returned v ∧ K r h' n' ∧ HRel φ' n' w' M0 h' ∧ Rel φ' w' (Or M0 (Mut φ' h')) r v ∧ Step φ w M0 h φ' w' h' := by
    intro he
    subst he
    refine (AnyF.slices_SortFunc_none L A cap _ w).mono ?_
    rintro e w' ⟨rfl, rfl⟩
    have := hK [] (.refl _) .nil
    rw [← ho, upd_self] at this
    exact ⟨_, φ, .tup [], h, n, rfl, this, hH, .tup (vs := []) .nil, .refl _ _ _ _⟩
  by_cases he : l = []
  · exact hnone he
  have hlp : 0 < l.length := List.length_pos_iff.2 he
  rcases hA with ⟨rfl, _, h0, _⟩ | ⟨h0, rfl, _⟩ | ⟨a, bs, hp, rfl, hcb⟩
  · omega
  · omega
  obtain ⟨A0, hA0, hobj⟩ := hH.obj _ _ _ _ _ ho
  rw [hp] at hA0
  simp only [Option.some.injEq, Prod.mk.injEq, true_and] at hA0
  subst hA0
  rcases hobj with ⟨hobj, _⟩ | ⟨a₁, bs₁, C, T, e1, hsp, h0, hb, hCs, hr, hle, hv, hrel⟩
  · cases hobj
  simp only [Option.some.injEq, Prod.mk.injEq] at e1
  obtain ⟨rfl, rfl⟩ := e1
  rw [List.length_map] at hle hv hrel
  have hrel0 : RelL noP w (Or M0 (Mut φ h)) (l.map en).flatten ((C.toList.drop a.off).take (l.length * k)) := relL_closed (fun _ hk => hk) (fun c hc => by
    obtain ⟨r, hr, hc⟩ := List.mem_flatten.1 hc
    obtain ⟨x, _, rfl⟩ := List.mem_map.1 hr
    exact henb x c hc) hrel
  obtain ⟨ls, hlx, hlv⟩ := elems (Q := Q) hQ hrel0 hv
  have hlen : ls.length = l.length := by rw [← hlx, List.length_map]
  obtain ⟨d, hd⟩ : ∃ d : Array (El w (Or M0 (Mut φ h)) en Q), d = ls.toArray := ⟨_, rfl⟩
  have hds : d.size = l.length := by rw [hd]; simpa using hlen
  haveI : Inhabited (El w (Or M0 (Mut φ h)) en Q) := ⟨ls[0]'(by omega)⟩
  have hkE : ∀ x : El w (Or M0 (Mut φ h)) en Q, x.vs.length = k := fun x => by rw [← x.rel.length, henl]
  have hMb : Or M0 (Mut φ h) a.block := .inr ⟨o, gn, k, _, gn, a, bs, ho, hp, rfl⟩
  have hblk : a.block < w.heap.size := (Array.getElem?_eq_some_iff.1 hb).1
  have hfl : ∀ d' : Array (El w (Or M0 (Mut φ h)) en Q), (flatK (fun x => x.vs) k d').toList = (d'.toList.map fun x => x.vs).flatten := fun d' => flatK_list _ hk0 hkE d'
  have hCal : Calls P (ρ.f 6) ⟨[.slice (some ⟨a.block, a.off + 0 * k, none⟩) l.length cap, .func (.func g) ⟨[]⟩ ⟨[]⟩]⟩ w fun e w' =>
      e = .returned (.tuple #[]) ∧ ∃ d' n os, PermIn 0 d.size d d' ∧ SortedIn (ltOf fun x y : El w (Or M0 (Mut φ h)) en Q => cf x.x y.x) 0 d.size d' ∧ w' = sortWorldK (fun x => x.vs) k w a.block a.off n d' os := by
    rw [Nat.zero_mul, Nat.add_zero, ← hds]
    refine AnyQ.slices_SortFunc L k aE zE (fun x : El w (Or M0 (Mut φ h)) en Q => x.vs) hkE (fun x => x.cells) (fun x y => cf x.x y.x) (swo_pull hO fun x : El w (Or M0 (Mut φ h)) en Q => x.x) g #[] a.block a.off cap d w hg ?_ ?_ hblk (by omega)
    · intro m os dk hdk x y
      obtain ⟨hx1, hx2⟩ := hC x.x y.x x.q y.q
      obtain ⟨C', k1, k2, k3, k4, k5, k6, k7, k8, k9⟩ := sort_worldK (off := a.off) hb (fun x : El w (Or M0 (Mut φ h)) en Q => x.vs) k dk (by rw [hdk, hds]; omega) m os
      generalize sortWorldK (fun x : El w (Or M0 (Mut φ h)) en Q => x.vs) k w a.block a.off m dk os = X at *
      have hkeep : ∀ z : El w (Or M0 (Mut φ h)) en Q, RelL noP X (Or M0 (Mut φ h)) (en z.x) z.vs := fun z =>
        z.rel.keep noP.le_refl (fun j hj hjl => k4 j (fun e => hj (e ▸ hMb)) hjl) (fun j hj => .inl hj)
      have hag : ∀ z : El w (Or M0 (Mut φ h)) en Q, Rel noP X (Or M0 (Mut φ h)) (.agg (en z.x)) (.agg z.vs.toArray) := fun z => .agg z.cells (hkeep z)
      refine (hx2 (Or M0 (Mut φ h)) X [.agg x.vs.toArray, .agg y.vs.toArray] (fun j hj => Nat.lt_of_lt_of_le (hH.blk hj) k5) (.cons (hag x) (.cons (hag y) .nil))).mono ?_
      rintro e w' ⟨v, rfl, hrv, hfr⟩
      cases hrv
      refine ⟨rfl, w'.drawn - X.drawn, w'.heap.extract X.heap.size w'.heap.size, ?_⟩
      have hheap : X.heap ++ w'.heap.extract X.heap.size w'.heap.size = w'.heap := by
        refine Array.ext_getElem? fun j => ?_
        by_cases hj : j < X.heap.size
        · rw [Array.getElem?_append_left hj, hfr.block j hj (fun h => h)]
        · rw [Array.getElem?_append_right (by omega), Array.getElem?_extract]
          have := hfr.size
          split
          · congr 1; omega
          · rw [Array.getElem?_eq_none (by omega)]
      have hdr : X.drawn + (w'.drawn - X.drawn) = w'.drawn := by have := hfr.drawn; omega
      cases w' with
      | mk hp tp dr os' out =>
        have e1 := hfr.os; have e2 := hfr.tape; have e3 := hfr.output
        simp only at e1 e2 e3 hheap hdr
        subst e1 e2 e3
        simp only [grow, World.drewN, hheap, hdr]
    · intro j hj
      have hjl : j < ((C.toList.drop a.off).take (l.length * k)).length := by
        rw [← hlv, ← show (d.toList.map fun x => x.vs) = ls.map (·.vs) by rw [hd], ← hfl, Array.length_toList]; exact hj
      have hget : (flatK (fun x : El w (Or M0 (Mut φ h)) en Q => x.vs) k d)[j]! = C[a.off + j]! := by
        have e1 : (flatK (fun x : El w (Or M0 (Mut φ h)) en Q => x.vs) k d).toList = (C.toList.drop a.off).take (l.length * k) := by rw [hfl, hd]; exact hlv
        have hjC : a.off + j < C.size := by simp at hjl; omega
        rw [getElem!_pos _ j hj, getElem!_pos C _ hjC, ← Array.getElem_toList, ← Array.getElem_toList (xs := C)]
        simp only [e1, List.getElem_take, List.getElem_drop]
      have hjC : a.off + j < C.size := by simp at hjl; omega
      refine ⟨?_, ?_⟩
      · simp only [World.cell?, hb]
        rw [hget]
        simp [hjC]
      · simp [World.frozen?, hb]
  refine hCal.mono ?_
  rintro e w' ⟨rfl, d', n', os, hperm, hsort, rfl⟩
  obtain ⟨hps, _, hpp⟩ := hperm
  obtain ⟨C', k1, k2, k3, k4, k5, k6, k7, k8, k9⟩ := sort_worldK (off := a.off) hb (fun x : El w (Or M0 (Mut φ h)) en Q => x.vs) k d' (by rw [hps, hds]; omega) n' os
  generalize sortWorldK (fun x : El w (Or M0 (Mut φ h)) en Q => x.vs) k w a.block a.off n' d' os = X at *
  obtain ⟨l', hl'⟩ : ∃ l' : List α, l' = d'.toList.map fun x => x.x := ⟨_, rfl⟩
  have hl'l : l'.length = l.length := by rw [hl', List.length_map, Array.length_toList, hps, hds]
  have hpl : l'.Perm l := by
    have h1 : (d'.extract 0 d.size).toList = d'.toList := by rw [← hps]; simp
    have h2 : (d.extract 0 d.size).toList = d.toList := by simp
    rw [h1, h2] at hpp
    have := hpp.map fun x => x.x
    rw [hl', ← hlx]
    simpa [hd] using this
  have hpw : l'.Pairwise (fun x y => ¬ cf y x < 0) := by
    rw [hl', List.pairwise_map, List.pairwise_iff_getElem]
    intro i j hi hj hij
    have hi' : i < d'.size := by simpa using hi
    have hj' : j < d'.size := by simpa using hj
    have := hsort i j (Nat.zero_le _) hij (by omega)
    rw [getElem!_pos d' i hi', getElem!_pos d' j hj'] at this
    simpa [ltOf] using this
  have hwin : (C'.toList.drop a.off).take (l'.length * k) = (d'.toList.map fun x => x.vs).flatten := by
    rw [hps, hds, hfl] at k3
    rw [hl'l]; exact k3
  have hrel' : RelL φ w (Or M0 (Mut φ h)) (l'.map en).flatten ((C'.toList.drop a.off).take (l'.length * k)) := by
    rw [hwin, hl']
    generalize d'.toList = ds
    induction ds with
    | nil => exact .nil
    | cons z ds ih =>
      simp only [List.map_cons, List.flatten_cons]
      exact (z.rel.keep (fun o x ho => by cases ho) (fun _ _ _ => rfl) (fun k hk => .inl hk)).append ih
  have hle0 : φ.le (upd φ o (some (gn, some (a, bs)))) := by rw [← hp, upd_self]; exact φ.le_refl
  have hol : ¬ n ≤ o := fun hle => by rw [hH.fresh o hle] at hp; cases hp
  obtain ⟨g1, g2, g3⟩ := hH.set (w' := X) (F' := fun o => n ≤ o) (o := o) (mt := true) (g := gn) (sz := k) (rs := l'.map en) (A := some (a, bs))
    (fun _ h => h) hol k5 hle0 (fun j hj hjl => k4 j (fun e => hj (e ▸ hMb)) hjl)
    (fun o' mt' g' sz' rs' a₁ b₁ hne ho' hp' => by
      have := hH.inj _ _ _ _ _ _ _ _ _ _ _ _ _ _ ho ho' (Ne.symm hne) (.inl rfl) hp hp'
      have hlt : a₁.block < w.heap.size := by
        obtain ⟨A1, hA1, hc1⟩ := hH.obj _ _ _ _ _ ho'
        rw [hp'] at hA1
        simp only [Option.some.injEq, Prod.mk.injEq, true_and] at hA1
        subst hA1
        rcases hc1 with ⟨hc1, _⟩ | ⟨a2, b2, C2, T2, e2, _, _, hb2, _⟩
        · cases hc1
        · simp only [Option.some.injEq, Prod.mk.injEq] at e2
          obtain ⟨rfl, rfl⟩ := e2
          exact (Array.getElem?_eq_some_iff.1 hb2).1
      refine ⟨k4 _ (Ne.symm this) hlt, fun a₂ b₂ e => ?_⟩
      simp only [Option.some.injEq, Prod.mk.injEq] at e
      obtain ⟨rfl, rfl⟩ := e
      exact this)
    (fun a₁ b₁ e => by
      simp only [Option.some.injEq, Prod.mk.injEq] at e
      obtain ⟨rfl, rfl⟩ := e
      exact .inl hMb)
    (.inr ⟨a, bs, C', T, rfl, hsp, h0, k1, by rw [k2]; exact hCs, fun r hr => by
        obtain ⟨x, _, rfl⟩ := List.mem_map.1 hr
        exact henl x, by rw [List.length_map, hl'l]; exact hle, fun c hm => by
        rw [List.length_map, hwin] at hm
        obtain ⟨r, hr, hm⟩ := List.mem_flatten.1 hm
        obtain ⟨z, _, rfl⟩ := List.mem_map.1 hr
        exact z.cells c hm, by rw [List.length_map]; exact hrel'⟩)
  refine ⟨_, _, .tup [], _, n, rfl, hK l' hpl hpw, g1, .tup (vs := []) .nil, ⟨hle0, g2, ⟨k6, k7, k8, k9, k5, fun j hj hu => k4 j (fun e => hu ⟨o, gn, k, _, gn, a, bs, ho, hp, e.symm⟩) hj⟩, fun j hj => ?_⟩⟩
  rcases g3 j hj with h | ⟨a₁, b₁, e, rfl⟩
  · exact .inl h
  · simp only [Option.some.injEq, Prod.mk.injEq] at e
    obtain ⟨rfl, rfl⟩ := e
    exact .inl ⟨o, gn, k, _, gn, a, bs, ho, hp, rfl⟩
end Go.Av
end
section
set_option linter.unusedVariables false
namespace Go.Proofs
open Go.Shelf
set_option maxRecDepth 100000
def zsort_ren : Go.Shelf.Ren := ⟨fun | 6 => 30 | 15 => 48 | 14 => 47 | 28 => 76 | 29 => 77 | 20 => 68 | 21 => 69 | 22 => 70 | 23 => 71 | 24 => 72 | 25 => 73 | 26 => 74 | 27 => 75 | 46 => 90 | 47 => 91 | 48 => 92 | 49 => 93 | 50 => 94 | 57 => 105 | n => n, fun | 22 => 54 | 24 => 63 | 25 => 100 | 3 => 3 | 39 => 123 | 0 => 0 | 53 => 154 | 55 => 156 | 4 => 4 | 46 => 147 | 45 => 146 | 50 => 151 | 5 => 5 | 9 => 9 | 66 => 170 | 70 => 174 | 76 => 183 | 77 => 92 | n => n, fun n => n⟩
theorem zsort : Go.Proofs.SlLaysF0.n6 Tryz.prog zsort_ren := {
  mixed := by kernel_rfl
  f6 := ⟨Tryz.f30.name, by decide, Tryz.func30.trans (congrArg some (by kernel_rfl))⟩
  f14 := ⟨Tryz.f47.name, by decide, Tryz.func47.trans (congrArg some (by kernel_rfl))⟩
  f15 := Tryz.func48.trans (congrArg some (by kernel_rfl))
  f20 := ⟨Tryz.f68.name, by decide, Tryz.func68.trans (congrArg some (by kernel_rfl))⟩
  f21 := ⟨Tryz.f69.name, by decide, Tryz.func69.trans (congrArg some (by kernel_rfl))⟩
  f22 := ⟨Tryz.f70.name, by decide, Tryz.func70.trans (congrArg some (by kernel_rfl))⟩
  f23 := ⟨Tryz.f71.name, by decide, Tryz.func71.trans (congrArg some (by kernel_rfl))⟩
  f24 := ⟨Tryz.f72.name, by decide, Tryz.func72.trans (congrArg some (by kernel_rfl))⟩
  f25 := ⟨Tryz.f73.name, by decide, Tryz.func73.trans (congrArg some (by kernel_rfl))⟩
  f26 := ⟨Tryz.f74.name, by decide, Tryz.func74.trans (congrArg some (by kernel_rfl))⟩
  f27 := ⟨Tryz.f75.name, by decide, Tryz.func75.trans (congrArg some (by kernel_rfl))⟩
  f28 := Tryz.func76.trans (congrArg some (by kernel_rfl))
  f29 := Tryz.func77.trans (congrArg some (by kernel_rfl))
  f46 := ⟨Tryz.f90.name, by decide, Tryz.func90.trans (congrArg some (by kernel_rfl))⟩
  f47 := Tryz.func91.trans (congrArg some (by kernel_rfl))
  f48 := Tryz.func92.trans (congrArg some (by kernel_rfl))
  f49 := ⟨Tryz.f93.name, by decide, Tryz.func93.trans (congrArg some (by kernel_rfl))⟩
  f50 := ⟨Tryz.f94.name, by decide, Tryz.func94.trans (congrArg some (by kernel_rfl))⟩
  f57 := ⟨Tryz.f105.name, by decide, Tryz.func105.trans (congrArg some (by kernel_rfl))⟩
  t0 := Tryz.underlying0
  a0 := Tryz.isAgg0
  z0 := Tryz.sizeOf0
  v0 := Tryz.zeroValue0
  t3 := Tryz.underlying3
  a3 := Tryz.isAgg3
  z3 := Tryz.sizeOf3
  v3 := Tryz.zeroValue3
  t4 := Tryz.underlying4
  a4 := Tryz.isAgg4
  z4 := Tryz.sizeOf4
  v4 := Tryz.zeroValue4
  t5 := Tryz.underlying5
  a5 := Tryz.isAgg5
  z5 := Tryz.sizeOf5
  v5 := Tryz.zeroValue5
  t9 := Tryz.underlying9
  a9 := Tryz.isAgg9
  z9 := Tryz.sizeOf9
  v9 := Tryz.zeroValue9
  t22 := Tryz.underlying54
  a22 := Tryz.isAgg54
  z22 := Tryz.sizeOf54
  v22 := Tryz.zeroValue54
  t25 := Tryz.underlying100
  a25 := Tryz.isAgg100
  z25 := Tryz.sizeOf100
  v25 := Tryz.zeroValue100
  t39 := Tryz.underlying123
  a39 := Tryz.isAgg123
  z39 := Tryz.sizeOf123
  v39 := Tryz.zeroValue123
  t45 := Tryz.underlying146
  a45 := Tryz.isAgg146
  z45 := Tryz.sizeOf146
  v45 := Tryz.zeroValue146
  t46 := Tryz.underlying147
  a46 := Tryz.isAgg147
  z46 := Tryz.sizeOf147
  v46 := Tryz.zeroValue147
  t50 := Tryz.underlying151
  a50 := Tryz.isAgg151
  z50 := Tryz.sizeOf151
  v50 := Tryz.zeroValue151
  t53 := Tryz.underlying154
  a53 := Tryz.isAgg154
  z53 := Tryz.sizeOf154
  v53 := Tryz.zeroValue154
  t55 := Tryz.underlying156
  a55 := Tryz.isAgg156
  z55 := Tryz.sizeOf156
  v55 := Tryz.zeroValue156
  t66 := Tryz.underlying170
  a66 := Tryz.isAgg170
  z66 := Tryz.sizeOf170
  v66 := Tryz.zeroValue170
  t70 := Tryz.underlying174
  a70 := Tryz.isAgg174
  z70 := Tryz.sizeOf174
  v70 := Tryz.zeroValue174
  t76 := Tryz.underlying183
  a76 := Tryz.isAgg183
  z76 := Tryz.sizeOf183
  v76 := Tryz.zeroValue183
  t77 := Tryz.underlying92
  a77 := Tryz.isAgg92
  z77 := Tryz.sizeOf92
  v77 := Tryz.zeroValue92 }
end Go.Proofs
end
section
set_option linter.unusedSimpArgs false
set_option linter.unusedVariables false
open Go Go.Proofs
set_option maxRecDepth 20000
set_option maxHeartbeats 4000000
namespace Go.Av
theorem swo_out : Go.Sort.SWO (fun a b : OutD => decide (cmpO a b < 0)) := by
  refine ⟨fun x => ?_, fun x y z h1 h2 => ?_, fun x y z h1 h2 => ?_⟩
  · have := cmp_out.swap x x
    simp; omega
  · simp only [decide_eq_true_eq] at h1 h2 ⊢
    have t := cmp_out.tr x y z (by omega) (by omega)
    rcases Int.lt_or_eq_of_le t with h | h
    · exact h
    · have e := (cmp_out.eq _ _).1 h
      subst e
      have := cmp_out.swap x y
      omega
  · simp only [decide_eq_false_iff_not] at h1 h2 ⊢
    have s1 := cmp_out.swap x y
    have s2 := cmp_out.swap y z
    have s3 := cmp_out.swap x z
    have t := cmp_out.tr z y x (by omega) (by omega)
    omega
theorem sortO_call (l : List OutD) (hf : ∀ o ∈ l, FitsP o.pos) (hl : l.length < 4611686018427387904) {h : Heap} {n o gn : Nat} (ho : h o = some (.rows true gn 6 (l.map encOut))) {K : CallK}
    (hK : K (.tup []) (upd h o (some (.rows true gn 6 ((sortC cmpO l).map encOut)))) n) :
    ACallP Tryz.prog 30 [.sl o gn 6 0 l.length, .fn (.func 31) [] []] h n K := by
  refine ACallP.sortFunc zsort (k := 6) (by omega) Tryz.isAgg63 Tryz.sizeOf63 encOut (fun _ => rfl) ?_ (fun o => FitsP o.pos) cmpO swo_out _ (fun x y hx hy => order_pure x y hx hy) ?_ l hf hl ho ?_
  · intro x
    simp [go_sem]
  · exact (order_pure default default (by unfold FitsP Fits; decide) (by unfold FitsP Fits; decide)).1
  · intro l' hp hs
    have : sortC cmpO l = l' := sortC_unique cmp_out hp (hs.imp fun {a b} hab => by
      have := cmp_out.swap a b
      simp only [leC, decide_eq_true_eq]
      omega)
    rw [← this]
    exact hK
end Go.Av
end
section
set_option linter.unusedSimpArgs false
set_option linter.unusedVariables false
open Go Go.Proofs
set_option maxRecDepth 20000
set_option maxHeartbeats 4000000
namespace Go.Av
/-- the first k cells of a walk -/
def stepRows (b : BoardD) (side d : Int) : Nat → Int → List Int
  | 0, _ => []
  | k + 1, x => if 0 ≤ x then x :: stepRows b side d k (toB b side d x) else []
/-- are there perhaps more? -/
def stepMore (b : BoardD) (side d : Int) : Nat → Int → Nat
  | 0, x => if 0 ≤ x then 1 else 0
  | k + 1, x => if 0 ≤ x then stepMore b side d k (toB b side d x) else 0
theorem stepMore_ne {b : BoardD} {side d : Int} : ∀ {k : Nat} {x : Int}, stepMore b side d k x ≠ 2
  | 0, x => by unfold stepMore; split <;> omega
  | k + 1, x => by unfold stepMore; split; exact stepMore_ne; omega
theorem stepsF_seq (b : BoardD) (hb : BoardOk b) (side d c : Int) (k : Nat) : PSeq Tryz.prog 103 [.fp (encB b), .fp [.v (.int .i64 side)], .fp [.v (.int .i64 d)], .fp [.v (.int .i64 c)]]
    (stepMore b side d k (toB b side d c)) ((stepRows b side d k (toB b side d c)).map encI) := by
  refine PSeq.of_awp (by kernel_rfl) Tryz.func103 rfl rfl (Nat.le_of_ble_eq_true rfl) (by kernel_rfl) (fun l => ?_) (hm2 := stepMore_ne)
  have hbl : ∀ n, (∀ c' ∈ encB b, Bel n c') = True := fun n => by simp [go_sem]
  have hel : (encB b).length = 3 := rfl
  have hT : ∀ x, Pure Tryz.prog 66 [.agg (encB b), .v (.int .i64 side), .v (.int .i64 d), .v (.int .i64 x)] (.v (.int .i64 (toB b side d x))) := fun x => bTo_pure b hb side d x
  have hg : ∀ (n k : Nat) (x : Int), Bel n (ghost l (stepMore b side d k x) ((stepRows b side d k x).map encI)) := fun n k x => by
    simp only [ghost, Bel_gd, Bel_tup, List.forall_mem_cons, Bel_v, Bel_lst]
    simp [go_sem]
  obtain ⟨eb, heb⟩ : ∃ eb, eb = encB b := ⟨_, rfl⟩
  rw [← heb] at hbl hel hT ⊢
  have hte : eb.take 3 = eb := List.take_of_length_le (by omega)
  (repeat (first | ((with_reducible refine VC.mkL ?_ fun _ => ?_); · first | omega | exact True.intro | rfl) | ((with_reducible refine VC.mkD ?_ fun _ => ?_); · first | omega | exact True.intro | (intros; omega)) | ((with_reducible refine dEnd.mk ?_ ?_); · kernel_rfl) | (with_reducible refine adrZ.go ?_) | (simp [go_sem, hel, GH, hte])))
  refine ACallP.plain (hT c) (by simp [go_sem, hbl]) ?_
  (repeat (first | ((with_reducible refine VC.mkL ?_ fun _ => ?_); · first | omega | exact True.intro | rfl) | ((with_reducible refine VC.mkD ?_ fun _ => ?_); · first | omega | exact True.intro | (intros; omega)) | ((with_reducible refine dEnd.mk ?_ ?_); · kernel_rfl) | (with_reducible refine adrZ.go ?_) | (simp [go_sem, hel, GH, hte])))
  refine ALoop.start (ALoop.ind (α := Nat × Int) (fun a => ⟨[(0, .fn (.yield l) [] []), (1, .fp eb), (2, .fp [.v (.int .i64 side)]), (3, .fp [.v (.int .i64 d)]), (6, .v (.int .i64 a.2)), (1000000007, ghost l (stepMore b side d a.1 a.2) ((stepRows b side d a.1 a.2).map encI))], [], 0⟩)
    (fun f a => f = a.1 ∧ stepMore b side d a.1 a.2 = stepMore b side d k (toB b side d c)) ?_ k (k, toB b side d c) ?_) ?_ ?_
  · rintro f ⟨k', x⟩ ⟨i1, i2⟩ hrec
    simp only at i1 i2
    subst i1
    (repeat (first | ((with_reducible refine VC.mkL ?_ fun _ => ?_); · first | omega | exact True.intro | rfl) | ((with_reducible refine VC.mkD ?_ fun _ => ?_); · first | omega | exact True.intro | (intros; omega)) | ((with_reducible refine dEnd.mk ?_ ?_); · kernel_rfl) | (with_reducible refine adrZ.go ?_) | (simp [go_sem, hel, GH, hte])))
    by_cases hx : 0 ≤ x
    · simp only [hx, decide_true]
      cases f with
      | zero => exact aGC.exh (by simp [upd, GH, stepMore, stepRows, hx])
      | succ f =>
        refine aGC.yld (more := stepMore b side d f (toB b side d x)) (xs := [.v (.int .i64 x)]) (rs := (stepRows b side d f (toB b side d x)).map encI) noH (by simp [upd, GH, stepMore, stepRows, hx, encI]) (.refl _) (.refl _ _ _ _) (by simp [go_sem]) ?_ ?_
        · (repeat (first | ((with_reducible refine VC.mkL ?_ fun _ => ?_); · first | omega | exact True.intro | rfl) | ((with_reducible refine VC.mkD ?_ fun _ => ?_); · first | omega | exact True.intro | (intros; omega)) | ((with_reducible refine dEnd.mk ?_ ?_); · kernel_rfl) | (with_reducible refine adrZ.go ?_) | (simp [go_sem, hel, GH, hte])))
          refine ACallP.plain (hT x) (by simp [go_sem, hbl]) ?_
          (repeat (first | ((with_reducible refine VC.mkL ?_ fun _ => ?_); · first | omega | exact True.intro | rfl) | ((with_reducible refine VC.mkD ?_ fun _ => ?_); · first | omega | exact True.intro | (intros; omega)) | ((with_reducible refine dEnd.mk ?_ ?_); · kernel_rfl) | (with_reducible refine adrZ.go ?_) | (simp [go_sem, hel, GH, hte])))
          rw [stepMore, if_pos hx] at i2
          refine ALoop.start (hrec f (by omega) (f, toB b side d x) ⟨rfl, i2⟩) ?_ (by simp)
          simp [go_sem, Wk_eq, hbl, hg, GH]
        · (repeat (first | ((with_reducible refine VC.mkL ?_ fun _ => ?_); · first | omega | exact True.intro | rfl) | ((with_reducible refine VC.mkD ?_ fun _ => ?_); · first | omega | exact True.intro | (intros; omega)) | ((with_reducible refine dEnd.mk ?_ ?_); · kernel_rfl) | (with_reducible refine adrZ.go ?_) | (simp [go_sem, hel, GH, hte])))
    · have hm : stepMore b side d f x = 0 := by cases f <;> simp [stepMore, hx]
      have hr : stepRows b side d f x = [] := by cases f <;> simp [stepRows, hx]
      simp only [hx, decide_false]
      refine aGC.skip (.v (.bool false)) ?_
      (repeat (first | ((with_reducible refine VC.mkL ?_ fun _ => ?_); · first | omega | exact True.intro | rfl) | ((with_reducible refine VC.mkD ?_ fun _ => ?_); · first | omega | exact True.intro | (intros; omega)) | ((with_reducible refine dEnd.mk ?_ ?_); · kernel_rfl) | (with_reducible refine adrZ.go ?_) | (simp [go_sem, hel, GH, hte])))
      rw [← i2, hm, hr]
      exact .inl ⟨rfl, rfl⟩
  · exact ⟨rfl, rfl⟩
  · simp [go_sem, Wk_eq, hbl, hg, GH]
  · simp
def stepsR (n : Nat) : AV := .fn (.func 103) [] [.ref n 0 3 0 0, .ref (n + 1) 0 1 0 0, .ref (n + 2) 0 1 0 0, .ref (n + 3) 0 1 0 0]
def stepsH (b : BoardD) (side d c : Int) (n : Nat) : List (Nat × AObj) := [(n, .rows true 0 3 [encB b]), (n + 1, .rows true 0 1 [[.v (.int .i64 side)]]), (n + 2, .rows true 0 1 [[.v (.int .i64 d)]]), (n + 3, .rows true 0 1 [[.v (.int .i64 c)]])]
theorem steps_owns (b : BoardD) (side d c : Int) : Owns Tryz.prog 88 [.agg (encB b), .v (.int .i64 side), .v (.int .i64 d), .v (.int .i64 c)] stepsR (stepsH b side d c) 4 := by
  refine ⟨?_, fun n => ⟨by simp [go_sem, stepsR], by simp [go_sem, stepsH]⟩⟩
  refine ACallP.of_awp (by kernel_rfl) Tryz.func88 rfl rfl (Nat.le_of_ble_eq_true rfl) (by kernel_rfl) ?_
  (repeat (first | ((with_reducible refine VC.mkL ?_ fun _ => ?_); · first | omega | exact True.intro | rfl) | ((with_reducible refine VC.mkD ?_ fun _ => ?_); · first | omega | exact True.intro | (intros; omega)) | ((with_reducible refine dEnd.mk ?_ ?_); · kernel_rfl) | (with_reducible refine adrZ.go ?_) | (simp [go_sem, stepsR, stepsH])))
  simp [go_sem, Wk_eq]
theorem bLine_pure (b : BoardD) (hb : BoardOk b) (side d c : Int) : Pure Tryz.prog 67 [.agg (encB b), .v (.int .i64 side), .v (.int .i64 d), .v (.int .i64 c)] (encIs (lineB b side d c)) := by
  refine Pure.of (ACallP.of_awp (by kernel_rfl) Tryz.func67 rfl rfl (Nat.le_of_ble_eq_true rfl) (by kernel_rfl) ?_)
  have hbl : ∀ n, (∀ c' ∈ encB b, Bel n c') = True := fun n => by simp [go_sem]
  have hel : (encB b).length = 3 := rfl
  have hS : Owns Tryz.prog 88 [.agg (encB b), .v (.int .i64 side), .v (.int .i64 d), .v (.int .i64 c)] (fun n => stepsR n) (fun n => stepsH b side d c n) 4 := steps_owns b side d c
  have hQ := fun k => stepsF_seq b hb side d c k
  simp only [stepsR, stepsH] at hS
  have hte : (encB b).take 3 = encB b := rfl
  obtain ⟨eb, heb⟩ : ∃ eb, eb = encB b := ⟨_, rfl⟩
  rw [← heb] at hbl hel hS hQ hte ⊢
  have hc1 := hb.c1
  have hc0 := hb.c0
  (repeat (first | ((with_reducible refine VC.mkL ?_ fun _ => ?_); · first | omega | exact True.intro | rfl) | ((with_reducible refine VC.mkD ?_ fun _ => ?_); · first | omega | exact True.intro | (intros; omega)) | ((with_reducible refine dEnd.mk ?_ ?_); · kernel_rfl) | (with_reducible refine adrZ.go ?_) | (simp [go_sem, hel, hte, GH])))
  refine ACallP.ownsPlain hS (by simp [go_sem, hbl]) ?_
  (repeat (first | ((with_reducible refine VC.mkL ?_ fun _ => ?_); · first | omega | exact True.intro | rfl) | ((with_reducible refine VC.mkD ?_ fun _ => ?_); · first | omega | exact True.intro | (intros; omega)) | ((with_reducible refine dEnd.mk ?_ ?_); · kernel_rfl) | (with_reducible refine adrZ.go ?_) | (simp [go_sem, hel, hte, GH])))
  refine aRange.mk [.fp eb, .fp [.v (.int .i64 side)], .fp [.v (.int .i64 d)], .fp [.v (.int .i64 c)]] (frzO _ [3, 4, 5, 6]) (hQ (b.cells.toNat + 1)) (frz_frzO _ _) ?_ (by simp [go_sem, hbl]) (by simp [encI]) ?_
  · refine LeRow.cons (.frzP rfl ?_ ?_ ?_ ?_) (LeRow.cons (.frzP rfl ?_ ?_ ?_ ?_) (LeRow.cons (.frzP rfl ?_ ?_ ?_ ?_) (LeRow.cons (.frzP rfl ?_ ?_ ?_ ?_) .nil))) <;> first | exact LeRow.refl _ _ _ _ | simp [frzO, frz1, upd]
  refine Fgt.to (ARange.ind (α := Nat × Int × List Int) (fun a => ([(7, .ref 1 0 1 0 0), (9, .ref 2 0 1 0 0)], [(1, .rows true 0 1 [[.v (.int .i64 c)]]), (2, .rows true 0 1 [[.sl 7 a.2.2.length 1 0 a.2.2.length]]), (7, .rows true a.2.2.length 1 (a.2.2.map encI))], 8))
    (fun rows a => rows = (stepRows b side d a.1 a.2.1).map encI ∧ stepMore b side d a.1 a.2.1 = stepMore b side d (b.cells.toNat + 1) (toB b side d c) ∧ a.1 + a.2.2.length = b.cells.toNat + 1 ∧ a.2.1 < b.cells ∧ a.2.2.Nodup ∧
      (∀ y ∈ a.2.2, 0 ≤ y ∧ y < b.cells) ∧ lineB b side d c = lineGo b side d c a.1 a.2.1 a.2.2) ?_ ?_ _ (b.cells.toNat + 1, toB b side d c, []) ?_) ?_ ?_
  · rintro ⟨f, x, seen⟩ ⟨i0, i1, i2, i3, i4, i5, i6⟩
    simp only at i0 i1 i2 i3 i4 i5 i6
    have hsl : seen.length ≤ b.cells.toNat := nodup_le _ _ i4 (fun y hy => by have := i5 y hy; omega)
    obtain ⟨f, rfl⟩ : ∃ f', f = f' + 1 := ⟨f - 1, by omega⟩
    have hx : ¬ 0 ≤ x := fun hx => by simp [stepRows, hx] at i0
    rw [stepMore, if_neg hx] at i1
    rw [lineGo, if_neg (fun h => hx h.1)] at i6
    refine ⟨i1.symm, ?_⟩
    rw [i6]
    (repeat (first | ((with_reducible refine VC.mkL ?_ fun _ => ?_); · first | omega | exact True.intro | rfl) | ((with_reducible refine VC.mkD ?_ fun _ => ?_); · first | omega | exact True.intro | (intros; omega)) | ((with_reducible refine dEnd.mk ?_ ?_); · kernel_rfl) | (with_reducible refine adrZ.go ?_) | (simp [go_sem, hel])))
    (refine leV_frz rfl (by simp) (by simp [noH, upd]) ?_; first | (simp [go_sem]; done) | (simp [go_sem]; exact List.take_of_length_le (by simp)))
  · rintro xs rs ⟨f, x, seen⟩ ⟨i0, i1, i2, i3, i4, i5, i6⟩ hrec
    simp only at i0 i1 i2 i3 i4 i5 i6
    have hsl : seen.length ≤ b.cells.toNat := nodup_le _ _ i4 (fun y hy => by have := i5 y hy; omega)
    cases f with
    | zero => simp [stepRows] at i0
    | succ f =>
    have hx : 0 ≤ x := by
      by_cases hx : 0 ≤ x
      · exact hx
      · simp [stepRows, hx] at i0
    rw [stepRows, if_pos hx] at i0
    simp only [List.map_cons, List.cons.injEq] at i0
    obtain ⟨rfl, rfl⟩ := i0
    rw [stepMore, if_pos hx] at i1
    rw [lineGo] at i6
    refine ARange.go (Nat.zero_le _) ?_
    (repeat (first | ((with_reducible refine VC.mkL ?_ fun _ => ?_); · first | omega | exact True.intro | rfl) | ((with_reducible refine VC.mkD ?_ fun _ => ?_); · first | omega | exact True.intro | (intros; omega)) | ((with_reducible refine dEnd.mk ?_ ?_); · kernel_rfl) | (with_reducible refine adrZ.go ?_) | (simp [go_sem, hel, GH, encI])))
    refine aGC.flat [encIs seen, .v (.int .i64 x)] (.v (.bool (decide (x ∈ seen)))) (fun _ => Contains_pure seen x (by omega)) (.v _) ?_ (by simp [go_sem]) ?_
    · refine LeRow.cons ?_ (LeRow.cons (.refl _) LeRow.nil)
      refine LeV.frz rfl ?_ ?_ (LeRows.of_eq ?_) <;> simp [noH, List.take_of_length_le]
    (repeat (first | ((with_reducible refine VC.mkL ?_ fun _ => ?_); · first | omega | exact True.intro | rfl) | ((with_reducible refine VC.mkD ?_ fun _ => ?_); · first | omega | exact True.intro | (intros; omega)) | ((with_reducible refine dEnd.mk ?_ ?_); · kernel_rfl) | (with_reducible refine adrZ.go ?_) | (simp [go_sem, hel, GH])))
    refine aIf.mkL (fun hc => ?_) (fun hc => ?_) <;> simp at hc
    · rw [if_neg (by rintro ⟨h1, h2, h3⟩; rcases hc with h | h <;> contradiction)] at i6
      rw [i6]
      (repeat (first | ((with_reducible refine VC.mkL ?_ fun _ => ?_); · first | omega | exact True.intro | rfl) | ((with_reducible refine VC.mkD ?_ fun _ => ?_); · first | omega | exact True.intro | (intros; omega)) | ((with_reducible refine dEnd.mk ?_ ?_); · kernel_rfl) | (with_reducible refine adrZ.go ?_) | (simp [go_sem, hel, GH])))
      (refine leV_frz rfl (by simp) (by simp [noH, upd]) ?_; first | (simp [go_sem]; done) | (simp [go_sem]; exact List.take_of_length_le (by simp)))
    · rw [if_pos ⟨hx, by simpa using hc⟩] at i6
      (repeat (first | ((with_reducible refine VC.mkL ?_ fun _ => ?_); · first | omega | exact True.intro | rfl) | ((with_reducible refine VC.mkD ?_ fun _ => ?_); · first | omega | exact True.intro | (intros; omega)) | ((with_reducible refine dEnd.mk ?_ ?_); · kernel_rfl) | (with_reducible refine adrZ.go ?_) | (simp [go_sem, hel, GH])))
      refine Fgt.to (hrec (f, toB b side d x, seen ++ [x]) ⟨rfl, i1, by simp only [List.length_append, List.length_singleton]; omega, toB_lt hb _ _ _, ?_, ?_, i6⟩) ?_ (by simp)
      · refine List.nodup_append.2 ⟨i4, by simp, ?_⟩
        intro y hy z hz
        simp at hz
        subst hz
        rintro rfl
        exact hc.2 hy
      · intro y hy
        rcases List.mem_append.1 hy with h | h
        · exact i5 y h
        · simp at h; omega
      · simp [go_sem, Wk_eq, GH] <;> (intro r hr c hc; (first | (rcases hr with ⟨_, _, rfl⟩ | rfl) | (rcases hr with rfl | ⟨_, _, rfl⟩) | (rcases hr with rfl | rfl) | ((rcases List.mem_or_eq_of_mem_set hr with hr | rfl) <;> first | (obtain ⟨_, _, rfl⟩ := List.mem_map.1 hr; simp only [encI] at hc) | skip) | (rcases hr with ⟨_, rfl⟩ | ⟨_, rfl⟩) | (rcases hr with ⟨_, _, rfl⟩ | ⟨_, rfl⟩) | (rcases hr with ⟨_, rfl⟩ | ⟨_, _, rfl⟩) | (rcases hr with ⟨_, _, rfl⟩ | ⟨_, _, rfl⟩) | (obtain ⟨_, rfl⟩ := hr) | (obtain ⟨_, _, rfl⟩ := hr)) <;> simp at hc <;> (try subst hc) <;> first | exact .v _ | (rcases hc with rfl | rfl <;> exact .v _))
  · exact ⟨rfl, rfl, by simp, toB_lt hb _ _ _, by simp, by simp, rfl⟩
  · simp [go_sem, Wk_eq]
  · simp
end Go.Av
end
section
set_option linter.unusedSimpArgs false
set_option linter.unusedVariables false
open Go Go.Proofs
set_option maxRecDepth 20000
set_option maxHeartbeats 4000000
namespace Go.Av
theorem nofz_A {l : List ActD} : (∀ r ∈ l.map encAct, ∀ c ∈ r, NoFz c) = True := by
  refine eq_true ?_
  intro r hr c hc
  obtain ⟨x, _, rfl⟩ := List.mem_map.1 hr
  revert c
  simp [go_sem]
attribute [go_sem ↓] nofz_A
theorem Grow_owns (m : Int) (h0 : 0 ≤ m) (h1 : m ≤ 17179869184) : Owns Tryz.prog 87 [AV.nils, .v (.int .i64 m)] (fun n => .sl n 0 3 0 0) (fun n => [(n, .rows true 0 3 [])]) 1 := by
  refine ⟨?_, fun n => ⟨by simp [go_sem], by simp [go_sem]⟩⟩
  by_cases hm : m = 0
  · subst hm
    refine ACallP.of_awp (by kernel_rfl) Tryz.func87 rfl rfl (Nat.le_of_ble_eq_true rfl) (by kernel_rfl) ?_
    (repeat (first | ((with_reducible refine VC.mkL ?_ fun _ => ?_); · first | omega | exact True.intro | rfl) | ((with_reducible refine VC.mkD ?_ fun _ => ?_); · first | omega | exact True.intro | (intros; omega)) | ((with_reducible refine dEnd.mk ?_ ?_); · kernel_rfl) | (with_reducible refine adrZ.go ?_) | (simp [go_sem])))
    simp [go_sem, Wk_eq]
  · refine ACallP.clear ?_
    refine ACallP.of_awp (by kernel_rfl) Tryz.func87 rfl rfl (Nat.le_of_ble_eq_true rfl) (by kernel_rfl) ?_
    (repeat (first | ((with_reducible refine VC.mkL ?_ fun _ => ?_); · first | omega | exact True.intro | rfl) | ((with_reducible refine VC.mkD ?_ fun _ => ?_); · first | omega | exact True.intro | (intros; omega)) | ((with_reducible refine dEnd.mk ?_ ?_); · kernel_rfl) | (with_reducible refine adrZ.go ?_) | (simp [go_sem])))
    (refine aIf.mkL (fun hF => by first | omega | (simp at hF; omega)) (fun hF => ?_); clear hF)
    (repeat (first | ((with_reducible refine VC.mkL ?_ fun _ => ?_); · first | omega | exact True.intro | rfl) | ((with_reducible refine VC.mkD ?_ fun _ => ?_); · first | omega | exact True.intro | (intros; omega)) | ((with_reducible refine dEnd.mk ?_ ?_); · kernel_rfl) | (with_reducible refine adrZ.go ?_) | (simp [go_sem])))
    (refine aIf.mkL (fun hT => ?_) (fun hT => by first | omega | (simp at hT; omega)); clear hT)
    (repeat (first | ((with_reducible refine VC.mkL ?_ fun _ => ?_); · first | omega | exact True.intro | rfl) | ((with_reducible refine VC.mkD ?_ fun _ => ?_); · first | omega | exact True.intro | (intros; omega)) | ((with_reducible refine dEnd.mk ?_ ?_); · kernel_rfl) | (with_reducible refine adrZ.go ?_) | (simp [go_sem])))
    refine ⟨0, 0, 3, ⟨rfl, rfl, rfl⟩, ?_⟩
    simp [go_sem, Wk_eq]
theorem Concat_owns (a b : List ActD) (ha : a.length ≤ 1048576) (hb : b.length ≤ 1048576) : Owns Tryz.prog 65 [.lst 1 [[encAs a], [encAs b]]]
    (fun n => .sl n 2 3 0 (a.length + b.length)) (fun n => [(n, .rows true 2 3 ((a ++ b).map encAct))]) 1 := by
  refine ⟨?_, fun n => ⟨by simp [go_sem], by simp [go_sem]⟩⟩
  refine ACallP.of_awp (by kernel_rfl) Tryz.func65 rfl rfl (Nat.le_of_ble_eq_true rfl) (by kernel_rfl) ?_
  (repeat (first | ((with_reducible refine VC.mkL ?_ fun _ => ?_); · first | omega | exact True.intro | rfl) | ((with_reducible refine VC.mkD ?_ fun _ => ?_); · first | omega | exact True.intro | (intros; omega)) | ((with_reducible refine dEnd.mk ?_ ?_); · kernel_rfl) | (with_reducible refine adrZ.go ?_) | (simp [go_sem])))
  refine ALoop.unroll ?_
  (repeat (first | ((with_reducible refine VC.mkL ?_ fun _ => ?_); · first | omega | exact True.intro | rfl) | ((with_reducible refine VC.mkD ?_ fun _ => ?_); · first | omega | exact True.intro | (intros; omega)) | ((with_reducible refine dEnd.mk ?_ ?_); · kernel_rfl) | (with_reducible refine adrZ.go ?_) | (simp [go_sem])))
  (refine aIf.mkL (fun hF => by first | omega | (simp at hF; omega)) (fun hF => ?_); clear hF)
  (repeat (first | ((with_reducible refine VC.mkL ?_ fun _ => ?_); · first | omega | exact True.intro | rfl) | ((with_reducible refine VC.mkD ?_ fun _ => ?_); · first | omega | exact True.intro | (intros; omega)) | ((with_reducible refine dEnd.mk ?_ ?_); · kernel_rfl) | (with_reducible refine adrZ.go ?_) | (simp [go_sem])))
  refine ALoop.unroll ?_
  (repeat (first | ((with_reducible refine VC.mkL ?_ fun _ => ?_); · first | omega | exact True.intro | rfl) | ((with_reducible refine VC.mkD ?_ fun _ => ?_); · first | omega | exact True.intro | (intros; omega)) | ((with_reducible refine dEnd.mk ?_ ?_); · kernel_rfl) | (with_reducible refine adrZ.go ?_) | (simp [go_sem])))
  (refine aIf.mkL (fun hF => by first | omega | (simp at hF; omega)) (fun hF => ?_); clear hF)
  (repeat (first | ((with_reducible refine VC.mkL ?_ fun _ => ?_); · first | omega | exact True.intro | rfl) | ((with_reducible refine VC.mkD ?_ fun _ => ?_); · first | omega | exact True.intro | (intros; omega)) | ((with_reducible refine dEnd.mk ?_ ?_); · kernel_rfl) | (with_reducible refine adrZ.go ?_) | (simp [go_sem])))
  refine ALoop.unroll ?_
  (repeat (first | ((with_reducible refine VC.mkL ?_ fun _ => ?_); · first | omega | exact True.intro | rfl) | ((with_reducible refine VC.mkD ?_ fun _ => ?_); · first | omega | exact True.intro | (intros; omega)) | ((with_reducible refine dEnd.mk ?_ ?_); · kernel_rfl) | (with_reducible refine adrZ.go ?_) | (simp [go_sem])))
  refine ACallP.ownsPlain (Grow_owns _ (by omega) (by omega)) (by simp [go_sem]) ?_
  (repeat (first | ((with_reducible refine VC.mkL ?_ fun _ => ?_); · first | omega | exact True.intro | rfl) | ((with_reducible refine VC.mkD ?_ fun _ => ?_); · first | omega | exact True.intro | (intros; omega)) | ((with_reducible refine dEnd.mk ?_ ?_); · kernel_rfl) | (with_reducible refine adrZ.go ?_) | (simp [go_sem])))
  refine ALoop.unroll ?_
  (repeat (first | ((with_reducible refine VC.mkL ?_ fun _ => ?_); · first | omega | exact True.intro | rfl) | ((with_reducible refine VC.mkD ?_ fun _ => ?_); · first | omega | exact True.intro | (intros; omega)) | ((with_reducible refine dEnd.mk ?_ ?_); · kernel_rfl) | (with_reducible refine adrZ.go ?_) | (simp [go_sem])))
  refine ALoop.unroll ?_
  (repeat (first | ((with_reducible refine VC.mkL ?_ fun _ => ?_); · first | omega | exact True.intro | rfl) | ((with_reducible refine VC.mkD ?_ fun _ => ?_); · first | omega | exact True.intro | (intros; omega)) | ((with_reducible refine dEnd.mk ?_ ?_); · kernel_rfl) | (with_reducible refine adrZ.go ?_) | (simp [go_sem])))
  refine ALoop.unroll ?_
  (repeat (first | ((with_reducible refine VC.mkL ?_ fun _ => ?_); · first | omega | exact True.intro | rfl) | ((with_reducible refine VC.mkD ?_ fun _ => ?_); · first | omega | exact True.intro | (intros; omega)) | ((with_reducible refine dEnd.mk ?_ ?_); · kernel_rfl) | (with_reducible refine adrZ.go ?_) | (simp [go_sem])))
  simp [go_sem, Wk_eq]
theorem ext1_owns (p : PathD) (to : Int) (more : List ActD) (ha : p.acts.length ≤ 1048576) (hb : more.length ≤ 1048576) : Owns Tryz.prog 64 [.v (.int .i64 to), encAs more, .fp (encPath p)]
    (fun n => .agg [.sl (n + 2) 2 3 0 (p.acts.length + more.length), .v (.int .i64 to)]) (fun n => [(n + 2, .rows true 2 3 ((p.acts ++ more).map encAct))]) 3 := by
  refine ⟨?_, fun n => ⟨by simp [go_sem], by simp [go_sem]⟩⟩
  refine ACallP.of_awp (by kernel_rfl) Tryz.func64 rfl rfl (Nat.le_of_ble_eq_true rfl) (by kernel_rfl) ?_
  (repeat (first | ((with_reducible refine VC.mkL ?_ fun _ => ?_); · first | omega | exact True.intro | rfl) | ((with_reducible refine VC.mkD ?_ fun _ => ?_); · first | omega | exact True.intro | (intros; omega)) | ((with_reducible refine dEnd.mk ?_ ?_); · kernel_rfl) | (with_reducible refine adrZ.go ?_) | (simp [go_sem])))
  refine ACallP.ownsN (Concat_owns p.acts more ha hb) (by simp [go_sem]) (by simp [go_sem]) ?_ (by simp [go_sem]) ?_
  · simp only [encAs]
    refine LeRow.cons ?_ LeRow.nil
    refine leV_frz rfl (by simp) (by simp [noH, upd]) ?_
    simp [go_sem]
  · (repeat (first | ((with_reducible refine VC.mkL ?_ fun _ => ?_); · first | omega | exact True.intro | rfl) | ((with_reducible refine VC.mkD ?_ fun _ => ?_); · first | omega | exact True.intro | (intros; omega)) | ((with_reducible refine dEnd.mk ?_ ?_); · kernel_rfl) | (with_reducible refine adrZ.go ?_) | (simp [go_sem])))
    simp [go_sem, Wk_eq]
end Go.Av
end
section
set_option linter.unusedSimpArgs false
set_option linter.unusedVariables false
open Go Go.Proofs
set_option maxRecDepth 20000
set_option maxHeartbeats 4000000
namespace Go.Av
theorem slideP_append (p : PathD) : ∀ (l : List Int) (passed : List ActD) (c : Int), slideP p (l ++ [c]) passed = slideP p l passed ++ [onP p c (passed ++ l.map fun c => (3, c, 0))]
  | [], passed, c => by simp [slideP, onP]
  | d :: l, passed, c => by simp [slideP, slideP_append p l]
def passK (l : List Int) : List ActD := l.map fun c => (3, c, 0)
theorem passK_append (l : List Int) (c : Int) : passK (l ++ [c]) = passK l ++ [(3, c, 0)] := by simp [passK]
theorem passK_len (l : List Int) : (passK l).length = l.length := by simp [passK]
theorem slideP_succ (p : PathD) (l : List Int) {i : Nat} (h : i < l.length) : slideP p (l.take (i + 1)) [] = slideP p (l.take i) [] ++ [onP p (nth l i) (passK (l.take i))] ∧ passK (l.take (i + 1)) = passK (l.take i) ++ [(3, nth l i, 0)] := by
  rw [List.take_add_one, List.getElem?_eq_getElem h, nth_eq _ _ h, Option.toList_some, slideP_append, passK_append]
  exact ⟨by simp [passK], rfl⟩
theorem extend_pure (b : BoardD) (hb : BoardOk b) (h9 : b.cells ≤ 9) (side : Int) (p : PathD) (hp : p.acts.length ≤ 1000000) (x : Int × Int) :
    Pure Tryz.prog 43 [.agg (encB b), .v (.int .i64 side), .agg (encPath p), .agg [.v (.int .i64 x.1), .v (.int .i64 x.2)]] (encPt (extP b side p x)) := by
  refine Pure.of (ACallP.of_awp (by kernel_rfl) Tryz.func43 rfl rfl (Nat.le_of_ble_eq_true rfl) (by kernel_rfl) ?_)
  obtain ⟨op, N⟩ := x
  have hT := bTo_pure b hb side N p.to
  have hL := bLine_pure b hb side N p.to
  have hll := lineB_le hb (side := side) (d := N) (c := p.to)
  have hO := fun to more (h : more.length ≤ 1048576) => ext1_owns p to more (by omega) h
  have hE : extP b side p (op, N) = if op = 1 ∨ op = 7 then
    if toB b side N p.to < 0 then [] else if op = 1 then [onP p (toB b side N p.to) []] else [onP p p.to [(7, p.to, toB b side N p.to)]]
    else if op = 2 then slideP p (lineB b side N p.to) []
    else if op = 8 ∨ op = 9 ∨ op = 10 then [onP p p.to [(op, N, 0)]]
    else [onP p p.to [(op, p.to, 0)]] := rfl
  generalize toB b side N p.to = to at *
  generalize lineB b side N p.to = line at *
  generalize extP b side p (op, N) = R at *
  have hbl : ∀ n, (∀ c' ∈ encB b, Bel n c') = True := fun n => by simp [go_sem]
  have hel : (encB b).length = 3 := rfl
  have hte : (encB b).take 3 = encB b := rfl
  obtain ⟨eb, heb⟩ : ∃ eb, eb = encB b := ⟨_, rfl⟩
  rw [← heb] at hbl hel hT hL hte ⊢
  (repeat (first | ((with_reducible refine VC.mkL ?_ fun _ => ?_); · first | omega | exact True.intro | rfl) | ((with_reducible refine VC.mkD ?_ fun _ => ?_); · first | omega | exact True.intro | (intros; omega)) | ((with_reducible refine dEnd.mk ?_ ?_); · kernel_rfl) | (with_reducible refine adrZ.go ?_) | (simp [go_sem, hel, hte])))
  refine aIf.mkL (fun h1 => ?_) (fun h1 => ?_) <;> simp at h1
  · subst h1
    (repeat (first | ((with_reducible refine VC.mkL ?_ fun _ => ?_); · first | omega | exact True.intro | rfl) | ((with_reducible refine VC.mkD ?_ fun _ => ?_); · first | omega | exact True.intro | (intros; omega)) | ((with_reducible refine dEnd.mk ?_ ?_); · kernel_rfl) | (with_reducible refine adrZ.go ?_) | (simp [go_sem, hel, hte])))
    refine ACallP.plain hT (by simp [go_sem, hbl]) ?_
    (repeat (first | ((with_reducible refine VC.mkL ?_ fun _ => ?_); · first | omega | exact True.intro | rfl) | ((with_reducible refine VC.mkD ?_ fun _ => ?_); · first | omega | exact True.intro | (intros; omega)) | ((with_reducible refine dEnd.mk ?_ ?_); · kernel_rfl) | (with_reducible refine adrZ.go ?_) | (simp [go_sem, hel, hte])))
    refine aIf.mkL (fun ht => ?_) (fun ht => ?_) <;> simp at ht
    · rw [if_pos (by omega), if_pos ht] at hE
      rw [hE]
      (repeat (first | ((with_reducible refine VC.mkL ?_ fun _ => ?_); · first | omega | exact True.intro | rfl) | ((with_reducible refine VC.mkD ?_ fun _ => ?_); · first | omega | exact True.intro | (intros; omega)) | ((with_reducible refine dEnd.mk ?_ ?_); · kernel_rfl) | (with_reducible refine adrZ.go ?_) | (simp [go_sem, hel, hte])))
    · rw [if_pos (by omega), if_neg (by omega), if_pos rfl] at hE
      rw [hE]
      (repeat (first | ((with_reducible refine VC.mkL ?_ fun _ => ?_); · first | omega | exact True.intro | rfl) | ((with_reducible refine VC.mkD ?_ fun _ => ?_); · first | omega | exact True.intro | (intros; omega)) | ((with_reducible refine dEnd.mk ?_ ?_); · kernel_rfl) | (with_reducible refine adrZ.go ?_) | (simp [go_sem, hel, hte])))
      refine ACallP.ownsN (hO to [] (by simp)) (by simp [go_sem]) (by simp [go_sem]) ?_ (by simp [go_sem]) ?_
      · ((try simp only [encProg, encStep, encAct, encAs, encPath, encPt, encOut, encState, encPos, encOs, encSs, encPs, encIs, encGame, List.map_cons, List.map_nil, List.nil_append, List.append_nil, List.cons_append]); (repeat (first | (with_reducible exact LeRow.nil) | (with_reducible exact LeRows.nil) | (with_reducible exact LeV.refl _) | (with_reducible exact LeRow.refl _ _ _ _) | (with_reducible exact LeRows.refl _) | (with_reducible refine LeRow.cons ?_ ?_) | (with_reducible refine LeRows.cons ?_ ?_) | (with_reducible refine LeV.agg ?_) | (with_reducible refine LeV.tup ?_) | (with_reducible refine LeV.fn ?_ ?_) | (with_reducible exact LeV.nil _) | (with_reducible refine leRows_append (LeRows.refl _) ?_) | ((refine leV_frz rfl (by simp) (by simp [frzO, frz1, upd, noH]) ?_); (first | (simp [go_sem]; done) | (simp [go_sem]; exact List.take_of_length_le (by simp)))) | ((refine LeV.frz rfl (by simp) (by simp [frzO, frz1, upd, noH]) ?_); (simp only [List.drop_zero, List.take_succ_cons, List.take_zero, List.map_cons, List.map_nil])) | ((refine LeV.frzP rfl (by simp) (by simp) (by simp [frzO, frz1, upd, noH]) ?_); (simp only [nth_zero, List.drop_zero])))))
      · (repeat (first | ((with_reducible refine VC.mkL ?_ fun _ => ?_); · first | omega | exact True.intro | rfl) | ((with_reducible refine VC.mkD ?_ fun _ => ?_); · first | omega | exact True.intro | (intros; omega)) | ((with_reducible refine dEnd.mk ?_ ?_); · kernel_rfl) | (with_reducible refine adrZ.go ?_) | (simp [go_sem, hel, hte, onP])))
        ((try simp only [encProg, encStep, encAct, encAs, encPath, encPt, encOut, encState, encPos, encOs, encSs, encPs, encIs, encGame, List.map_cons, List.map_nil, List.nil_append, List.append_nil, List.cons_append]); (repeat (first | (with_reducible exact LeRow.nil) | (with_reducible exact LeRows.nil) | (with_reducible exact LeV.refl _) | (with_reducible exact LeRow.refl _ _ _ _) | (with_reducible exact LeRows.refl _) | (with_reducible refine LeRow.cons ?_ ?_) | (with_reducible refine LeRows.cons ?_ ?_) | (with_reducible refine LeV.agg ?_) | (with_reducible refine LeV.tup ?_) | (with_reducible refine LeV.fn ?_ ?_) | (with_reducible exact LeV.nil _) | (with_reducible refine leRows_append (LeRows.refl _) ?_) | ((refine leV_frz rfl (by simp) (by simp [frzO, frz1, upd, noH]) ?_); (first | (simp [go_sem]; done) | (simp [go_sem]; exact List.take_of_length_le (by simp)))) | ((refine LeV.frz rfl (by simp) (by simp [frzO, frz1, upd, noH]) ?_); (simp only [List.drop_zero, List.take_succ_cons, List.take_zero, List.map_cons, List.map_nil])) | ((refine LeV.frzP rfl (by simp) (by simp) (by simp [frzO, frz1, upd, noH]) ?_); (simp only [nth_zero, List.drop_zero])))))
  · (repeat (first | ((with_reducible refine VC.mkL ?_ fun _ => ?_); · first | omega | exact True.intro | rfl) | ((with_reducible refine VC.mkD ?_ fun _ => ?_); · first | omega | exact True.intro | (intros; omega)) | ((with_reducible refine dEnd.mk ?_ ?_); · kernel_rfl) | (with_reducible refine adrZ.go ?_) | (simp [go_sem, hel, hte])))
    refine aIf.mkL (fun h7 => ?_) (fun h7 => ?_) <;> simp at h7
    · subst h7
      (repeat (first | ((with_reducible refine VC.mkL ?_ fun _ => ?_); · first | omega | exact True.intro | rfl) | ((with_reducible refine VC.mkD ?_ fun _ => ?_); · first | omega | exact True.intro | (intros; omega)) | ((with_reducible refine dEnd.mk ?_ ?_); · kernel_rfl) | (with_reducible refine adrZ.go ?_) | (simp [go_sem, hel, hte])))
      refine ACallP.plain hT (by simp [go_sem, hbl]) ?_
      (repeat (first | ((with_reducible refine VC.mkL ?_ fun _ => ?_); · first | omega | exact True.intro | rfl) | ((with_reducible refine VC.mkD ?_ fun _ => ?_); · first | omega | exact True.intro | (intros; omega)) | ((with_reducible refine dEnd.mk ?_ ?_); · kernel_rfl) | (with_reducible refine adrZ.go ?_) | (simp [go_sem, hel, hte])))
      refine aIf.mkL (fun ht => ?_) (fun ht => ?_) <;> simp at ht
      · rw [if_pos (by omega), if_pos ht] at hE
        rw [hE]
        (repeat (first | ((with_reducible refine VC.mkL ?_ fun _ => ?_); · first | omega | exact True.intro | rfl) | ((with_reducible refine VC.mkD ?_ fun _ => ?_); · first | omega | exact True.intro | (intros; omega)) | ((with_reducible refine dEnd.mk ?_ ?_); · kernel_rfl) | (with_reducible refine adrZ.go ?_) | (simp [go_sem, hel, hte])))
      · rw [if_pos (by omega), if_neg (by omega), if_neg (by omega)] at hE
        rw [hE]
        (repeat (first | ((with_reducible refine VC.mkL ?_ fun _ => ?_); · first | omega | exact True.intro | rfl) | ((with_reducible refine VC.mkD ?_ fun _ => ?_); · first | omega | exact True.intro | (intros; omega)) | ((with_reducible refine dEnd.mk ?_ ?_); · kernel_rfl) | (with_reducible refine adrZ.go ?_) | (simp [go_sem, hel, hte])))
        refine ACallP.ownsN (hO p.to [(7, p.to, to)] (by simp)) (by simp [go_sem]) (by simp [go_sem]) ?_ (by simp [go_sem]) ?_
        · ((try simp only [encProg, encStep, encAct, encAs, encPath, encPt, encOut, encState, encPos, encOs, encSs, encPs, encIs, encGame, List.map_cons, List.map_nil, List.nil_append, List.append_nil, List.cons_append]); (repeat (first | (with_reducible exact LeRow.nil) | (with_reducible exact LeRows.nil) | (with_reducible exact LeV.refl _) | (with_reducible exact LeRow.refl _ _ _ _) | (with_reducible exact LeRows.refl _) | (with_reducible refine LeRow.cons ?_ ?_) | (with_reducible refine LeRows.cons ?_ ?_) | (with_reducible refine LeV.agg ?_) | (with_reducible refine LeV.tup ?_) | (with_reducible refine LeV.fn ?_ ?_) | (with_reducible exact LeV.nil _) | (with_reducible refine leRows_append (LeRows.refl _) ?_) | ((refine leV_frz rfl (by simp) (by simp [frzO, frz1, upd, noH]) ?_); (first | (simp [go_sem]; done) | (simp [go_sem]; exact List.take_of_length_le (by simp)))) | ((refine LeV.frz rfl (by simp) (by simp [frzO, frz1, upd, noH]) ?_); (simp only [List.drop_zero, List.take_succ_cons, List.take_zero, List.map_cons, List.map_nil])) | ((refine LeV.frzP rfl (by simp) (by simp) (by simp [frzO, frz1, upd, noH]) ?_); (simp only [nth_zero, List.drop_zero])))))
        · (repeat (first | ((with_reducible refine VC.mkL ?_ fun _ => ?_); · first | omega | exact True.intro | rfl) | ((with_reducible refine VC.mkD ?_ fun _ => ?_); · first | omega | exact True.intro | (intros; omega)) | ((with_reducible refine dEnd.mk ?_ ?_); · kernel_rfl) | (with_reducible refine adrZ.go ?_) | (simp [go_sem, hel, hte, onP])))
          ((try simp only [encProg, encStep, encAct, encAs, encPath, encPt, encOut, encState, encPos, encOs, encSs, encPs, encIs, encGame, List.map_cons, List.map_nil, List.nil_append, List.append_nil, List.cons_append]); (repeat (first | (with_reducible exact LeRow.nil) | (with_reducible exact LeRows.nil) | (with_reducible exact LeV.refl _) | (with_reducible exact LeRow.refl _ _ _ _) | (with_reducible exact LeRows.refl _) | (with_reducible refine LeRow.cons ?_ ?_) | (with_reducible refine LeRows.cons ?_ ?_) | (with_reducible refine LeV.agg ?_) | (with_reducible refine LeV.tup ?_) | (with_reducible refine LeV.fn ?_ ?_) | (with_reducible exact LeV.nil _) | (with_reducible refine leRows_append (LeRows.refl _) ?_) | ((refine leV_frz rfl (by simp) (by simp [frzO, frz1, upd, noH]) ?_); (first | (simp [go_sem]; done) | (simp [go_sem]; exact List.take_of_length_le (by simp)))) | ((refine LeV.frz rfl (by simp) (by simp [frzO, frz1, upd, noH]) ?_); (simp only [List.drop_zero, List.take_succ_cons, List.take_zero, List.map_cons, List.map_nil])) | ((refine LeV.frzP rfl (by simp) (by simp) (by simp [frzO, frz1, upd, noH]) ?_); (simp only [nth_zero, List.drop_zero])))))
    · rw [if_neg (by omega)] at hE
      (repeat (first | ((with_reducible refine VC.mkL ?_ fun _ => ?_); · first | omega | exact True.intro | rfl) | ((with_reducible refine VC.mkD ?_ fun _ => ?_); · first | omega | exact True.intro | (intros; omega)) | ((with_reducible refine dEnd.mk ?_ ?_); · kernel_rfl) | (with_reducible refine adrZ.go ?_) | (simp [go_sem, hel, hte])))
      refine aIf.mkL (fun h2 => ?_) (fun h2 => ?_) <;> simp at h2
      · subst h2
        rw [if_pos rfl] at hE
        (repeat (first | ((with_reducible refine VC.mkL ?_ fun _ => ?_); · first | omega | exact True.intro | rfl) | ((with_reducible refine VC.mkD ?_ fun _ => ?_); · first | omega | exact True.intro | (intros; omega)) | ((with_reducible refine dEnd.mk ?_ ?_); · kernel_rfl) | (with_reducible refine adrZ.go ?_) | (simp [go_sem, hel, hte])))
        refine ACallP.plain hL (by simp [go_sem, hbl]) ?_
        (repeat (first | ((with_reducible refine VC.mkL ?_ fun _ => ?_); · first | omega | exact True.intro | rfl) | ((with_reducible refine VC.mkD ?_ fun _ => ?_); · first | omega | exact True.intro | (intros; omega)) | ((with_reducible refine dEnd.mk ?_ ?_); · kernel_rfl) | (with_reducible refine adrZ.go ?_) | (simp [go_sem, hel, hte])))
        refine ALoop.start (ALoop.ind (α := Nat) (fun i => ⟨[(9, .fn (.func 64) [] [.ref 1 0 2 0 0]), (11, .sl 3 i 2 0 i), (12, .sl 4 i 3 0 i), (55, encIs line), (56, .v (.int .i64 line.length)), (57, .v (.int .i64 i))],
            [(1, .rows true 0 2 [encPath p]), (3, .rows true i 2 ((slideP p (line.take i) []).map encPath)), (4, .rows true i 3 ((passK (line.take i)).map encAct))], 5⟩)
          (fun d i => i + d = line.length) ?_ line.length 0 ?_) ?_ ?_
        · rintro d i i1 hrec
          have hsl : (slideP p (line.take i) []).length = i := by rw [slideP_len]; simp; omega
          have hpl : (passK (line.take i)).length = i := by rw [passK_len]; simp; omega
          (repeat (first | ((with_reducible refine VC.mkL ?_ fun _ => ?_); · first | omega | exact True.intro | rfl) | ((with_reducible refine VC.mkD ?_ fun _ => ?_); · first | omega | exact True.intro | (intros; omega)) | ((with_reducible refine dEnd.mk ?_ ?_); · kernel_rfl) | (with_reducible refine adrZ.go ?_) | (simp [go_sem, hel, hte])))
          refine aIf.mkL (fun hi => ?_) (fun hi => ?_) <;> simp at hi
          · obtain ⟨s1, s2⟩ := slideP_succ p line hi
            (repeat (first | ((with_reducible refine VC.mkL ?_ fun _ => ?_); · first | omega | exact True.intro | rfl) | ((with_reducible refine VC.mkD ?_ fun _ => ?_); · first | omega | exact True.intro | (intros; omega)) | ((with_reducible refine dEnd.mk ?_ ?_); · kernel_rfl) | (with_reducible refine adrZ.go ?_) | (simp [go_sem, hi])))
            refine ACallP.ownsN (hO (nth line i) (passK (line.take i)) (by omega)) (by simp [go_sem]) (by simp [go_sem]) ?_ (by simp [go_sem]) ?_
            · ((try simp only [encProg, encStep, encAct, encAs, encPath, encPt, encOut, encState, encPos, encOs, encSs, encPs, encIs, encGame, List.map_cons, List.map_nil, List.nil_append, List.append_nil, List.cons_append]); (repeat (first | (with_reducible exact LeRow.nil) | (with_reducible exact LeRows.nil) | (with_reducible exact LeV.refl _) | (with_reducible exact LeRow.refl _ _ _ _) | (with_reducible exact LeRows.refl _) | (with_reducible refine LeRow.cons ?_ ?_) | (with_reducible refine LeRows.cons ?_ ?_) | (with_reducible refine LeV.agg ?_) | (with_reducible refine LeV.tup ?_) | (with_reducible refine LeV.fn ?_ ?_) | (with_reducible exact LeV.nil _) | (with_reducible refine leRows_append (LeRows.refl _) ?_) | ((refine leV_frz rfl (by simp [hpl]) (by simp [frzO, frz1, upd, noH]) ?_); (first | (simp [go_sem, hpl]; done) | (simp [go_sem, hpl]; exact List.take_of_length_le (by simp [hpl])))) | ((refine LeV.frz rfl (by simp [hpl]) (by simp [frzO, frz1, upd, noH]) ?_); (simp only [List.drop_zero, List.take_succ_cons, List.take_zero, List.map_cons, List.map_nil])) | ((refine LeV.frzP rfl (by simp [hpl]) (by simp) (by simp [frzO, frz1, upd, noH]) ?_); (simp only [nth_zero, List.drop_zero])))))
            · (repeat (first | ((with_reducible refine VC.mkL ?_ fun _ => ?_); · first | omega | exact True.intro | rfl) | ((with_reducible refine VC.mkD ?_ fun _ => ?_); · first | omega | exact True.intro | (intros; omega)) | ((with_reducible refine dEnd.mk ?_ ?_); · kernel_rfl) | (with_reducible refine adrZ.go ?_) | (simp [go_sem, hi, hsl, hpl])))
              refine ALoop.start (hrec (d - 1) (by omega) (i + 1) (by omega)) ?_ (by simp)
              simp [go_sem, Wk_eq, s1, s2, onP, hpl]
              ((try simp only [encProg, encStep, encAct, encAs, encPath, encPt, encOut, encState, encPos, encOs, encSs, encPs, encIs, encGame, List.map_cons, List.map_nil, List.nil_append, List.append_nil, List.cons_append]); (repeat (first | (with_reducible exact LeRow.nil) | (with_reducible exact LeRows.nil) | (with_reducible exact LeV.refl _) | (with_reducible exact LeRow.refl _ _ _ _) | (with_reducible exact LeRows.refl _) | (with_reducible refine LeRow.cons ?_ ?_) | (with_reducible refine LeRows.cons ?_ ?_) | (with_reducible refine LeV.agg ?_) | (with_reducible refine LeV.tup ?_) | (with_reducible refine LeV.fn ?_ ?_) | (with_reducible exact LeV.nil _) | (with_reducible refine leRows_append (LeRows.refl _) ?_) | ((refine leV_frz rfl (by simp [hpl]) (by simp [frzO, frz1, upd, noH]) ?_); (first | (simp [go_sem, hpl]; done) | (simp [go_sem, hpl]; exact List.take_of_length_le (by simp [hpl])))) | ((refine LeV.frz rfl (by simp [hpl]) (by simp [frzO, frz1, upd, noH]) ?_); (simp only [List.drop_zero, List.take_succ_cons, List.take_zero, List.map_cons, List.map_nil])) | ((refine LeV.frzP rfl (by simp [hpl]) (by simp) (by simp [frzO, frz1, upd, noH]) ?_); (simp only [nth_zero, List.drop_zero])))))
          · have hil : i = line.length := by omega
            subst hil
            rw [List.take_length] at hsl ⊢
            rw [hE]
            (repeat (first | ((with_reducible refine VC.mkL ?_ fun _ => ?_); · first | omega | exact True.intro | rfl) | ((with_reducible refine VC.mkD ?_ fun _ => ?_); · first | omega | exact True.intro | (intros; omega)) | ((with_reducible refine dEnd.mk ?_ ?_); · kernel_rfl) | (with_reducible refine adrZ.go ?_) | (simp [go_sem, hsl])))
            ((try simp only [encProg, encStep, encAct, encAs, encPath, encPt, encOut, encState, encPos, encOs, encSs, encPs, encIs, encGame, List.map_cons, List.map_nil, List.nil_append, List.append_nil, List.cons_append]); (repeat (first | (with_reducible exact LeRow.nil) | (with_reducible exact LeRows.nil) | (with_reducible exact LeV.refl _) | (with_reducible exact LeRow.refl _ _ _ _) | (with_reducible exact LeRows.refl _) | (with_reducible refine LeRow.cons ?_ ?_) | (with_reducible refine LeRows.cons ?_ ?_) | (with_reducible refine LeV.agg ?_) | (with_reducible refine LeV.tup ?_) | (with_reducible refine LeV.fn ?_ ?_) | (with_reducible exact LeV.nil _) | (with_reducible refine leRows_append (LeRows.refl _) ?_) | ((refine leV_frz rfl (by simp [hsl]) (by simp [frzO, frz1, upd, noH]) ?_); (first | (simp [go_sem, hsl]; done) | (simp [go_sem, hsl]; exact List.take_of_length_le (by simp [hsl])))) | ((refine LeV.frz rfl (by simp [hsl]) (by simp [frzO, frz1, upd, noH]) ?_); (simp only [List.drop_zero, List.take_succ_cons, List.take_zero, List.map_cons, List.map_nil])) | ((refine LeV.frzP rfl (by simp [hsl]) (by simp) (by simp [frzO, frz1, upd, noH]) ?_); (simp only [nth_zero, List.drop_zero])))))
        · simp
        · simp [go_sem, Wk_eq, slideP, passK]
        · simp
      · rw [if_neg h2] at hE
        (repeat (first | ((with_reducible refine VC.mkL ?_ fun _ => ?_); · first | omega | exact True.intro | rfl) | ((with_reducible refine VC.mkD ?_ fun _ => ?_); · first | omega | exact True.intro | (intros; omega)) | ((with_reducible refine dEnd.mk ?_ ?_); · kernel_rfl) | (with_reducible refine adrZ.go ?_) | (simp [go_sem, hel, hte])))
        refine aIf.mkL (fun h8 => ?_) (fun h8 => ?_) <;> simp at h8
        · subst h8
          rw [if_pos (by omega)] at hE
          rw [hE]
          (repeat (first | ((with_reducible refine VC.mkL ?_ fun _ => ?_); · first | omega | exact True.intro | rfl) | ((with_reducible refine VC.mkD ?_ fun _ => ?_); · first | omega | exact True.intro | (intros; omega)) | ((with_reducible refine dEnd.mk ?_ ?_); · kernel_rfl) | (with_reducible refine adrZ.go ?_) | (simp [go_sem, hel, hte])))
          refine ACallP.ownsN (hO p.to [(8, N, 0)] (by simp)) (by simp [go_sem]) (by simp [go_sem]) ?_ (by simp [go_sem]) ?_
          · ((try simp only [encProg, encStep, encAct, encAs, encPath, encPt, encOut, encState, encPos, encOs, encSs, encPs, encIs, encGame, List.map_cons, List.map_nil, List.nil_append, List.append_nil, List.cons_append]); (repeat (first | (with_reducible exact LeRow.nil) | (with_reducible exact LeRows.nil) | (with_reducible exact LeV.refl _) | (with_reducible exact LeRow.refl _ _ _ _) | (with_reducible exact LeRows.refl _) | (with_reducible refine LeRow.cons ?_ ?_) | (with_reducible refine LeRows.cons ?_ ?_) | (with_reducible refine LeV.agg ?_) | (with_reducible refine LeV.tup ?_) | (with_reducible refine LeV.fn ?_ ?_) | (with_reducible exact LeV.nil _) | (with_reducible refine leRows_append (LeRows.refl _) ?_) | ((refine leV_frz rfl (by simp) (by simp [frzO, frz1, upd, noH]) ?_); (first | (simp [go_sem]; done) | (simp [go_sem]; exact List.take_of_length_le (by simp)))) | ((refine LeV.frz rfl (by simp) (by simp [frzO, frz1, upd, noH]) ?_); (simp only [List.drop_zero, List.take_succ_cons, List.take_zero, List.map_cons, List.map_nil])) | ((refine LeV.frzP rfl (by simp) (by simp) (by simp [frzO, frz1, upd, noH]) ?_); (simp only [nth_zero, List.drop_zero])))))
          · (repeat (first | ((with_reducible refine VC.mkL ?_ fun _ => ?_); · first | omega | exact True.intro | rfl) | ((with_reducible refine VC.mkD ?_ fun _ => ?_); · first | omega | exact True.intro | (intros; omega)) | ((with_reducible refine dEnd.mk ?_ ?_); · kernel_rfl) | (with_reducible refine adrZ.go ?_) | (simp [go_sem, hel, hte, onP])))
            ((try simp only [encProg, encStep, encAct, encAs, encPath, encPt, encOut, encState, encPos, encOs, encSs, encPs, encIs, encGame, List.map_cons, List.map_nil, List.nil_append, List.append_nil, List.cons_append]); (repeat (first | (with_reducible exact LeRow.nil) | (with_reducible exact LeRows.nil) | (with_reducible exact LeV.refl _) | (with_reducible exact LeRow.refl _ _ _ _) | (with_reducible exact LeRows.refl _) | (with_reducible refine LeRow.cons ?_ ?_) | (with_reducible refine LeRows.cons ?_ ?_) | (with_reducible refine LeV.agg ?_) | (with_reducible refine LeV.tup ?_) | (with_reducible refine LeV.fn ?_ ?_) | (with_reducible exact LeV.nil _) | (with_reducible refine leRows_append (LeRows.refl _) ?_) | ((refine leV_frz rfl (by simp) (by simp [frzO, frz1, upd, noH]) ?_); (first | (simp [go_sem]; done) | (simp [go_sem]; exact List.take_of_length_le (by simp)))) | ((refine LeV.frz rfl (by simp) (by simp [frzO, frz1, upd, noH]) ?_); (simp only [List.drop_zero, List.take_succ_cons, List.take_zero, List.map_cons, List.map_nil])) | ((refine LeV.frzP rfl (by simp) (by simp) (by simp [frzO, frz1, upd, noH]) ?_); (simp only [nth_zero, List.drop_zero])))))
        · (repeat (first | ((with_reducible refine VC.mkL ?_ fun _ => ?_); · first | omega | exact True.intro | rfl) | ((with_reducible refine VC.mkD ?_ fun _ => ?_); · first | omega | exact True.intro | (intros; omega)) | ((with_reducible refine dEnd.mk ?_ ?_); · kernel_rfl) | (with_reducible refine adrZ.go ?_) | (simp [go_sem, hel, hte])))
          refine aIf.mkL (fun h99 => ?_) (fun h99 => ?_) <;> simp at h99
          · subst h99
            rw [if_pos (by omega)] at hE
            rw [hE]
            (repeat (first | ((with_reducible refine VC.mkL ?_ fun _ => ?_); · first | omega | exact True.intro | rfl) | ((with_reducible refine VC.mkD ?_ fun _ => ?_); · first | omega | exact True.intro | (intros; omega)) | ((with_reducible refine dEnd.mk ?_ ?_); · kernel_rfl) | (with_reducible refine adrZ.go ?_) | (simp [go_sem, hel, hte])))
            refine ACallP.ownsN (hO p.to [(9, N, 0)] (by simp)) (by simp [go_sem]) (by simp [go_sem]) ?_ (by simp [go_sem]) ?_
            · ((try simp only [encProg, encStep, encAct, encAs, encPath, encPt, encOut, encState, encPos, encOs, encSs, encPs, encIs, encGame, List.map_cons, List.map_nil, List.nil_append, List.append_nil, List.cons_append]); (repeat (first | (with_reducible exact LeRow.nil) | (with_reducible exact LeRows.nil) | (with_reducible exact LeV.refl _) | (with_reducible exact LeRow.refl _ _ _ _) | (with_reducible exact LeRows.refl _) | (with_reducible refine LeRow.cons ?_ ?_) | (with_reducible refine LeRows.cons ?_ ?_) | (with_reducible refine LeV.agg ?_) | (with_reducible refine LeV.tup ?_) | (with_reducible refine LeV.fn ?_ ?_) | (with_reducible exact LeV.nil _) | (with_reducible refine leRows_append (LeRows.refl _) ?_) | ((refine leV_frz rfl (by simp) (by simp [frzO, frz1, upd, noH]) ?_); (first | (simp [go_sem]; done) | (simp [go_sem]; exact List.take_of_length_le (by simp)))) | ((refine LeV.frz rfl (by simp) (by simp [frzO, frz1, upd, noH]) ?_); (simp only [List.drop_zero, List.take_succ_cons, List.take_zero, List.map_cons, List.map_nil])) | ((refine LeV.frzP rfl (by simp) (by simp) (by simp [frzO, frz1, upd, noH]) ?_); (simp only [nth_zero, List.drop_zero])))))
            · (repeat (first | ((with_reducible refine VC.mkL ?_ fun _ => ?_); · first | omega | exact True.intro | rfl) | ((with_reducible refine VC.mkD ?_ fun _ => ?_); · first | omega | exact True.intro | (intros; omega)) | ((with_reducible refine dEnd.mk ?_ ?_); · kernel_rfl) | (with_reducible refine adrZ.go ?_) | (simp [go_sem, hel, hte, onP])))
              ((try simp only [encProg, encStep, encAct, encAs, encPath, encPt, encOut, encState, encPos, encOs, encSs, encPs, encIs, encGame, List.map_cons, List.map_nil, List.nil_append, List.append_nil, List.cons_append]); (repeat (first | (with_reducible exact LeRow.nil) | (with_reducible exact LeRows.nil) | (with_reducible exact LeV.refl _) | (with_reducible exact LeRow.refl _ _ _ _) | (with_reducible exact LeRows.refl _) | (with_reducible refine LeRow.cons ?_ ?_) | (with_reducible refine LeRows.cons ?_ ?_) | (with_reducible refine LeV.agg ?_) | (with_reducible refine LeV.tup ?_) | (with_reducible refine LeV.fn ?_ ?_) | (with_reducible exact LeV.nil _) | (with_reducible refine leRows_append (LeRows.refl _) ?_) | ((refine leV_frz rfl (by simp) (by simp [frzO, frz1, upd, noH]) ?_); (first | (simp [go_sem]; done) | (simp [go_sem]; exact List.take_of_length_le (by simp)))) | ((refine LeV.frz rfl (by simp) (by simp [frzO, frz1, upd, noH]) ?_); (simp only [List.drop_zero, List.take_succ_cons, List.take_zero, List.map_cons, List.map_nil])) | ((refine LeV.frzP rfl (by simp) (by simp) (by simp [frzO, frz1, upd, noH]) ?_); (simp only [nth_zero, List.drop_zero])))))
          · (repeat (first | ((with_reducible refine VC.mkL ?_ fun _ => ?_); · first | omega | exact True.intro | rfl) | ((with_reducible refine VC.mkD ?_ fun _ => ?_); · first | omega | exact True.intro | (intros; omega)) | ((with_reducible refine dEnd.mk ?_ ?_); · kernel_rfl) | (with_reducible refine adrZ.go ?_) | (simp [go_sem, hel, hte])))
            refine aIf.mkL (fun h10 => ?_) (fun h10 => ?_) <;> simp at h10
            · subst h10
              rw [if_pos (by omega)] at hE
              rw [hE]
              (repeat (first | ((with_reducible refine VC.mkL ?_ fun _ => ?_); · first | omega | exact True.intro | rfl) | ((with_reducible refine VC.mkD ?_ fun _ => ?_); · first | omega | exact True.intro | (intros; omega)) | ((with_reducible refine dEnd.mk ?_ ?_); · kernel_rfl) | (with_reducible refine adrZ.go ?_) | (simp [go_sem, hel, hte])))
              refine ACallP.ownsN (hO p.to [(10, N, 0)] (by simp)) (by simp [go_sem]) (by simp [go_sem]) ?_ (by simp [go_sem]) ?_
              · ((try simp only [encProg, encStep, encAct, encAs, encPath, encPt, encOut, encState, encPos, encOs, encSs, encPs, encIs, encGame, List.map_cons, List.map_nil, List.nil_append, List.append_nil, List.cons_append]); (repeat (first | (with_reducible exact LeRow.nil) | (with_reducible exact LeRows.nil) | (with_reducible exact LeV.refl _) | (with_reducible exact LeRow.refl _ _ _ _) | (with_reducible exact LeRows.refl _) | (with_reducible refine LeRow.cons ?_ ?_) | (with_reducible refine LeRows.cons ?_ ?_) | (with_reducible refine LeV.agg ?_) | (with_reducible refine LeV.tup ?_) | (with_reducible refine LeV.fn ?_ ?_) | (with_reducible exact LeV.nil _) | (with_reducible refine leRows_append (LeRows.refl _) ?_) | ((refine leV_frz rfl (by simp) (by simp [frzO, frz1, upd, noH]) ?_); (first | (simp [go_sem]; done) | (simp [go_sem]; exact List.take_of_length_le (by simp)))) | ((refine LeV.frz rfl (by simp) (by simp [frzO, frz1, upd, noH]) ?_); (simp only [List.drop_zero, List.take_succ_cons, List.take_zero, List.map_cons, List.map_nil])) | ((refine LeV.frzP rfl (by simp) (by simp) (by simp [frzO, frz1, upd, noH]) ?_); (simp only [nth_zero, List.drop_zero])))))
              · (repeat (first | ((with_reducible refine VC.mkL ?_ fun _ => ?_); · first | omega | exact True.intro | rfl) | ((with_reducible refine VC.mkD ?_ fun _ => ?_); · first | omega | exact True.intro | (intros; omega)) | ((with_reducible refine dEnd.mk ?_ ?_); · kernel_rfl) | (with_reducible refine adrZ.go ?_) | (simp [go_sem, hel, hte, onP])))
                ((try simp only [encProg, encStep, encAct, encAs, encPath, encPt, encOut, encState, encPos, encOs, encSs, encPs, encIs, encGame, List.map_cons, List.map_nil, List.nil_append, List.append_nil, List.cons_append]); (repeat (first | (with_reducible exact LeRow.nil) | (with_reducible exact LeRows.nil) | (with_reducible exact LeV.refl _) | (with_reducible exact LeRow.refl _ _ _ _) | (with_reducible exact LeRows.refl _) | (with_reducible refine LeRow.cons ?_ ?_) | (with_reducible refine LeRows.cons ?_ ?_) | (with_reducible refine LeV.agg ?_) | (with_reducible refine LeV.tup ?_) | (with_reducible refine LeV.fn ?_ ?_) | (with_reducible exact LeV.nil _) | (with_reducible refine leRows_append (LeRows.refl _) ?_) | ((refine leV_frz rfl (by simp) (by simp [frzO, frz1, upd, noH]) ?_); (first | (simp [go_sem]; done) | (simp [go_sem]; exact List.take_of_length_le (by simp)))) | ((refine LeV.frz rfl (by simp) (by simp [frzO, frz1, upd, noH]) ?_); (simp only [List.drop_zero, List.take_succ_cons, List.take_zero, List.map_cons, List.map_nil])) | ((refine LeV.frzP rfl (by simp) (by simp) (by simp [frzO, frz1, upd, noH]) ?_); (simp only [nth_zero, List.drop_zero])))))
            · rw [if_neg (by omega)] at hE
              rw [hE]
              (repeat (first | ((with_reducible refine VC.mkL ?_ fun _ => ?_); · first | omega | exact True.intro | rfl) | ((with_reducible refine VC.mkD ?_ fun _ => ?_); · first | omega | exact True.intro | (intros; omega)) | ((with_reducible refine dEnd.mk ?_ ?_); · kernel_rfl) | (with_reducible refine adrZ.go ?_) | (simp [go_sem, hel, hte])))
              refine ACallP.ownsN (hO p.to [(op, p.to, 0)] (by simp)) (by simp [go_sem]) (by simp [go_sem]) ?_ (by simp [go_sem]) ?_
              · ((try simp only [encProg, encStep, encAct, encAs, encPath, encPt, encOut, encState, encPos, encOs, encSs, encPs, encIs, encGame, List.map_cons, List.map_nil, List.nil_append, List.append_nil, List.cons_append]); (repeat (first | (with_reducible exact LeRow.nil) | (with_reducible exact LeRows.nil) | (with_reducible exact LeV.refl _) | (with_reducible exact LeRow.refl _ _ _ _) | (with_reducible exact LeRows.refl _) | (with_reducible refine LeRow.cons ?_ ?_) | (with_reducible refine LeRows.cons ?_ ?_) | (with_reducible refine LeV.agg ?_) | (with_reducible refine LeV.tup ?_) | (with_reducible refine LeV.fn ?_ ?_) | (with_reducible exact LeV.nil _) | (with_reducible refine leRows_append (LeRows.refl _) ?_) | ((refine leV_frz rfl (by simp) (by simp [frzO, frz1, upd, noH]) ?_); (first | (simp [go_sem]; done) | (simp [go_sem]; exact List.take_of_length_le (by simp)))) | ((refine LeV.frz rfl (by simp) (by simp [frzO, frz1, upd, noH]) ?_); (simp only [List.drop_zero, List.take_succ_cons, List.take_zero, List.map_cons, List.map_nil])) | ((refine LeV.frzP rfl (by simp) (by simp) (by simp [frzO, frz1, upd, noH]) ?_); (simp only [nth_zero, List.drop_zero])))))
              · (repeat (first | ((with_reducible refine VC.mkL ?_ fun _ => ?_); · first | omega | exact True.intro | rfl) | ((with_reducible refine VC.mkD ?_ fun _ => ?_); · first | omega | exact True.intro | (intros; omega)) | ((with_reducible refine dEnd.mk ?_ ?_); · kernel_rfl) | (with_reducible refine adrZ.go ?_) | (simp [go_sem, hel, hte, onP])))
                ((try simp only [encProg, encStep, encAct, encAs, encPath, encPt, encOut, encState, encPos, encOs, encSs, encPs, encIs, encGame, List.map_cons, List.map_nil, List.nil_append, List.append_nil, List.cons_append]); (repeat (first | (with_reducible exact LeRow.nil) | (with_reducible exact LeRows.nil) | (with_reducible exact LeV.refl _) | (with_reducible exact LeRow.refl _ _ _ _) | (with_reducible exact LeRows.refl _) | (with_reducible refine LeRow.cons ?_ ?_) | (with_reducible refine LeRows.cons ?_ ?_) | (with_reducible refine LeV.agg ?_) | (with_reducible refine LeV.tup ?_) | (with_reducible refine LeV.fn ?_ ?_) | (with_reducible exact LeV.nil _) | (with_reducible refine leRows_append (LeRows.refl _) ?_) | ((refine leV_frz rfl (by simp) (by simp [frzO, frz1, upd, noH]) ?_); (first | (simp [go_sem]; done) | (simp [go_sem]; exact List.take_of_length_le (by simp)))) | ((refine LeV.frz rfl (by simp) (by simp [frzO, frz1, upd, noH]) ?_); (simp only [List.drop_zero, List.take_succ_cons, List.take_zero, List.map_cons, List.map_nil])) | ((refine LeV.frzP rfl (by simp) (by simp) (by simp [frzO, frz1, upd, noH]) ?_); (simp only [nth_zero, List.drop_zero])))))
end Go.Av
end
