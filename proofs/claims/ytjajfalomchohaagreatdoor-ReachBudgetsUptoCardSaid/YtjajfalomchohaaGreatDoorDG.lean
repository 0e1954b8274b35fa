/- Our library: slices.SortFunc at our rows, by the kit's contract. -/
import Derived.Test.YtjajfalomchohaaGreatDoorDX
import Derived.Shelf.SlSortCmp.NoneTotal
import Derived.Test.YtjajfalomchohaaGreatDoorProg
import Derived.Test.YtjajfalomchohaaGreatDoorD3
set_option linter.unusedSimpArgs false
set_option linter.unusedVariables false
section
set_option maxHeartbeats 400000
namespace Go.Av
open Go Go.Sort Go.Shelf Go.Proofs
structure El (w : World) (M : Nat → Prop) {α : Type} (en : α → List AV) (Q : α → Prop) where
 x : α
 vs : List Value
 q : Q x
 rel : RelL noP w M (en x) vs
 cells : ∀ v ∈ vs, cellV v = true
theorem elems {w : World} {M : Nat → Prop} {α : Type} {en : α → List AV} {Q : α → Prop} : ∀ {l : List α} {W : List Value}, (∀ x ∈ l, Q x) → RelL noP w M (l.map en).flatten W → (∀ v ∈ W, cellV v = true) →
  ∃ ls : List (El w M en Q), ls.map (·.x) = l ∧ (ls.map (·.vs)).flatten = W
 | [], W, _, h, _ => by cases h; exact ⟨[], rfl, rfl⟩
 | x :: l, W, hq, h, hc => by
  rw [List.map_cons, List.flatten_cons] at h
  obtain ⟨us, ts, rfl, h1, h2⟩ := h.split
  obtain ⟨ls, e1, e2⟩ := elems (fun y hy => hq y (by simp [hy])) h2 (fun v hv => hc v (by simp [hv]))
  exact ⟨⟨x, us, hq x (by simp), h1, fun v hv => hc v (by simp [hv])⟩ :: ls, by simp [e1], by simp [e2]⟩
theorem flat_get {k : Nat} (hk : 0 < k) : ∀ (ls : List (List Value)) (t : Nat), (∀ r ∈ ls, r.length = k) → t < ls.length * k → ls.flatten[t]? = (ls[t / k]?).bind (·[t % k]?)
 | [], t, _, h => by simp at h
 | r :: ls, t, hr, h => by
  have hl : r.length = k := hr r (by simp)
  rw [List.flatten_cons]
  by_cases ht : t < k
  ·rw [List.getElem?_append_left (by omega), Nat.div_eq_of_lt ht, Nat.mod_eq_of_lt ht]; rfl
  ·obtain ⟨s, rfl⟩ : ∃ s, t = s + k := ⟨t - k, by omega⟩
   have hs : s < ls.length * k := by simp only [List.length_cons, Nat.add_mul, Nat.one_mul] at h; omega
   rw [List.getElem?_append_right (by omega), hl, Nat.add_sub_cancel, flat_get hk ls s (fun r hr' => hr r (by simp [hr'])) hs, Nat.add_div_right _ hk, Nat.add_mod_right, List.getElem?_cons_succ]
theorem flatK_list {β : Type} [Inhabited β] (enc : β → List Value) {k : Nat} (hk0 : 0 < k) (hk : ∀ x, (enc x).length = k) (d : Array β) : (flatK enc k d).toList = (d.toList.map enc).flatten := by
 refine List.ext_getElem? fun t => ?_
 have hr : ∀ r ∈ d.toList.map enc, r.length = k := fun r hr => by obtain ⟨x, _, rfl⟩ := List.mem_map.1 hr; exact hk x
 have hlen : ((d.toList.map enc).flatten).length = d.size * k := by
  have : ∀ ls : List (List Value), (∀ r ∈ ls, r.length = k) → ls.flatten.length = ls.length * k := by
   intro ls
   induction ls with
   | nil => intro _; simp
   | cons r ls ih => intro h; rw [List.flatten_cons, List.length_append, ih (fun r hr => h r (by simp [hr])), h r (by simp), List.length_cons, Nat.add_mul]; omega
  rw [this _ hr]; simp
 by_cases ht : t < d.size * k
 ·have h1 := get_flatK enc k d t ht
  have hq : t / k < d.size := Nat.div_lt_of_lt_mul (by rw [Nat.mul_comm]; exact ht)
  have hm : t % k < k := Nat.mod_lt _ hk0
  have hs : t < (flatK enc k d).size := by rw [size_flatK]; exact ht
  rw [flat_get hk0 _ t hr (by simpa using ht), Array.getElem?_toList, Array.getElem?_eq_getElem hs, ← getElem!_pos (flatK enc k d) t hs, h1, List.getElem?_map, Array.getElem?_toList, Array.getElem?_eq_getElem hq,
   getElem!_pos d (t / k) hq]
  simp only [Option.map_some, Option.bind_some]
  rw [List.getElem?_eq_getElem (by rw [hk]; exact hm), getElem!_pos _ _ (by rw [hk]; exact hm)]
 ·rw [List.getElem?_eq_none (by rw [Array.length_toList, size_flatK]; omega), List.getElem?_eq_none (by omega)]
theorem sort_world {w : World} {blk off : Nat} {C : Array Value} {T : TypeId} (hb : w.heap[blk]? = some (.cells C T (0, 0))) {F : Array Value} (hF : off + F.size ≤ C.size) (n : Nat) (os : Array Obj) :
  ∃ C', (grow (putRow id (Sort.ahead w n) blk off F) os).heap[blk]? = some (.cells C' T (0, 0)) ∧ C'.size = C.size ∧ (C'.toList.drop off).take F.size = F.toList ∧
   (∀ j, j ≠ blk → j < w.heap.size → (grow (putRow id (Sort.ahead w n) blk off F) os).heap[j]? = w.heap[j]?) ∧ w.heap.size ≤ (grow (putRow id (Sort.ahead w n) blk off F) os).heap.size := by
 have hlt : blk < w.heap.size := (Array.getElem?_eq_some_iff.1 hb).1
 have hsz : (putRow id (Sort.ahead w n) blk off F).heap.size = w.heap.size := by rw [Sort.size_putRow]; rfl
 have hold : ∀ j, j < w.heap.size → (grow (putRow id (Sort.ahead w n) blk off F) os).heap[j]? = (w.heap.modify blk (onCells (putCells id off F)))[j]? := by
  intro j hj
  show (_ ++ os)[j]? = _
  rw [Array.getElem?_append_left (by rw [hsz]; exact hj)]
  rfl
 refine ⟨putCells id off F C, ?_, by simp [putCells], ?_, fun j hj hjl => ?_, ?_⟩
 ·rw [hold blk hlt, Array.getElem?_modify]
  simp [hb, onCells]
 ·refine List.ext_getElem? fun j => ?_
  by_cases hj : j < F.size
  ·rw [List.getElem?_take, if_pos hj, List.getElem?_drop, Array.getElem?_toList, Array.getElem?_toList]
   simp only [putCells, Array.getElem?_mapIdx]
   rw [Array.getElem?_eq_getElem (show off + j < C.size by omega), Array.getElem?_eq_getElem hj]
   simp only [Option.map_some]
   rw [if_pos ⟨by omega, by omega⟩, show off + j - off = j by omega, getElem!_pos F j hj]
   rfl
  ·rw [List.getElem?_eq_none (by simp; omega), List.getElem?_eq_none (by simpa using hj)]
 ·rw [hold j hjl, Array.getElem?_modify, if_neg (Ne.symm hj)]
 ·rw [size_grow, hsz]; omega
theorem sort_worldK {w : World} {blk off : Nat} {C : Array Value} {T : TypeId} (hb : w.heap[blk]? = some (.cells C T (0, 0))) {β : Type} [Inhabited β] (enc : β → List Value) (k : Nat) (d : Array β) (hF : off + d.size * k ≤ C.size) (n : Nat) (os : Array Obj) :
  ∃ C', (sortWorldK enc k w blk off n d os).heap[blk]? = some (.cells C' T (0, 0)) ∧ C'.size = C.size ∧ (C'.toList.drop off).take (d.size * k) = (flatK enc k d).toList ∧
   (∀ j, j ≠ blk → j < w.heap.size → (sortWorldK enc k w blk off n d os).heap[j]? = w.heap[j]?) ∧ w.heap.size ≤ (sortWorldK enc k w blk off n d os).heap.size ∧
   (sortWorldK enc k w blk off n d os).os = w.os ∧ (sortWorldK enc k w blk off n d os).tape = w.tape ∧ (sortWorldK enc k w blk off n d os).output = w.output ∧ w.drawn ≤ (sortWorldK enc k w blk off n d os).drawn := by
 obtain ⟨C', h1, h2, h3, h4, h5⟩ := sort_world hb (F := flatK enc k d) (by rw [size_flatK]; exact hF) n os
 unfold sortWorldK putRowK
 rw [size_flatK] at h3
 exact ⟨C', h1, h2, h3, h4, h5, rfl, rfl, rfl, Nat.le_add_right _ _⟩
theorem swo_pull {α β : Type} {lt : α → α → Bool} (h : SWO lt) (f : β → α) : SWO (fun a b => lt (f a) (f b)) := ⟨fun _ => h.irrefl _, fun _ _ _ => h.trans _ _ _, fun _ _ _ => h.ntrans _ _ _⟩
theorem ACallP.sortFunc {P : Program} {ρ : Ren} (L : SlLaysF0.n6 P ρ) {α : Type} {k : Nat} (hk0 : 0 < k) (aE : ∀ w, (isAgg (ρ.t 24)).run P w = .ok true w) (zE : ∀ w, (Go.sizeOf (ρ.t 24)).run P w = .ok k w)
  (en : α → List AV) (henl : ∀ x, (en x).length = k) (henb : ∀ x, ∀ c ∈ en x, Bel 0 c) (Q : α → Prop) (cf : α → α → Int) (hO : SWO (fun a b : α => decide (cf a b < 0))) (g : FuncId)
  (hC : ∀ x y, Q x → Q y → Pure P g [.agg (en x), .agg (en y)] (.v (.int .i64 (cf x y)))) (hg : Enters P g) (l : List α) (hQ : ∀ x ∈ l, Q x) (hl : l.length < 4611686018427387904) {h : Heap} {n o gn : Nat}
  (ho : h o = some (.rows true gn k (l.map en))) {K : CallK} (hK : ∀ l' : List α, l'.Perm l → l'.Pairwise (fun a b => ¬ cf b a < 0) → K (.tup []) (upd h o (some (.rows true gn k (l'.map en)))) n) :
  ACallP P (ρ.f 6) [.sl o gn k 0 l.length, .fn (.func g) [] []] h n K := by
 have e6 : Enters P (ρ.f 6) := L.f6.enters rfl
 refine ⟨e6, fun M0 φ w vs hH hargs => ?_⟩
 cases hargs with
 | cons hs ht =>
 cases ht with
 | cons hf ht =>
 cases ht
 cases hf with
 | @fn _ _ _ fs cs q1 q2 =>
 cases q1; cases q2
 have hal : alive h o gn k := by simp [alive, ho]
 obtain ⟨A, cap, rfl, hcap, hA⟩ := hH.sl_alive hal hs
 have hnone : l = [] → Calls P (ρ.f 6) ⟨[.slice A l.length cap, .func (.func g) ⟨[]⟩ ⟨[]⟩]⟩ w fun e w' => ∃ v φ' r h' n', e = .returned v ∧ K r h' n' ∧ HRel φ' n' w' M0 h' ∧ Rel φ' w' (Or M0 (Mut φ' h')) r v ∧ Step φ w M0 h φ' w' h' := by
  intro he
  subst he
  refine (AnyF.slices_SortFunc_none L A cap _ w).mono ?_
  rintro e w' ⟨rfl, rfl⟩
  have := hK [] (.refl _) .nil
  rw [← ho, upd_self] at this
  exact ⟨_, φ, .tup [], h, n, rfl, this, hH, .tup (vs := []) .nil, .refl _ _ _ _⟩
 by_cases he : l = []
 ·exact hnone he
 have hlp : 0 < l.length := List.length_pos_iff.2 he
 rcases hA with ⟨rfl, _, h0, _⟩ | ⟨h0, rfl, _⟩ | ⟨a, bs, hp, hsp, rfl, hcb⟩
 ·omega
 ·omega
 obtain ⟨A0, hA0, hobj⟩ := hH.obj _ _ _ _ _ ho
 rw [hp] at hA0
 simp only [Option.some.injEq, Prod.mk.injEq, true_and] at hA0
 subst hA0
 rcases hobj with ⟨hobj, _⟩ | ⟨a₁, bs₁, e1, h0, hd⟩
 ·cases hobj
 simp only [Option.some.injEq, Prod.mk.injEq] at e1
 obtain ⟨rfl, rfl⟩ := e1
 obtain ⟨C, T, hb, hCs, hr, hle, hv, hrel⟩ := hd.cells hsp
 rw [List.length_map] at hle hv hrel
 have hrel0 : RelL noP w (Or M0 (Mut φ h)) (l.map en).flatten ((C.toList.drop a.off).take (l.length * k)) := relL_closed (fun _ hk => hk) (fun c hc => by
  obtain ⟨r, hr, hc⟩ := List.mem_flatten.1 hc
  obtain ⟨x, _, rfl⟩ := List.mem_map.1 hr
  exact henb x c hc) hrel
 obtain ⟨ls, hlx, hlv⟩ := elems (Q := Q) hQ hrel0 hv
 have hlen : ls.length = l.length := by rw [← hlx, List.length_map]
 obtain ⟨d, hd⟩ : ∃ d : Array (El w (Or M0 (Mut φ h)) en Q), d = ls.toArray := ⟨_, rfl⟩
 have hds : d.size = l.length := by rw [hd]; simpa using hlen
 haveI : Inhabited (El w (Or M0 (Mut φ h)) en Q) := ⟨ls[0]'(by omega)⟩
 have hkE : ∀ x : El w (Or M0 (Mut φ h)) en Q, x.vs.length = k := fun x => by rw [← x.rel.length, henl]
 have hMb : Or M0 (Mut φ h) a.block := .inr ⟨o, gn, k, _, gn, a, bs, ho, hp, rfl⟩
 have hblk : a.block < w.heap.size := (Array.getElem?_eq_some_iff.1 hb).1
 have hfl : ∀ d' : Array (El w (Or M0 (Mut φ h)) en Q), (flatK (fun x => x.vs) k d').toList = (d'.toList.map fun x => x.vs).flatten := fun d' => flatK_list _ hk0 hkE d'
 have hCal : Calls P (ρ.f 6) ⟨[.slice (some ⟨a.block, a.off + 0 * k, none⟩) l.length cap, .func (.func g) ⟨[]⟩ ⟨[]⟩]⟩ w fun e w' =>
   e = .returned (.tuple #[]) ∧ ∃ d' n os, PermIn 0 d.size d d' ∧ SortedIn (ltOf fun x y : El w (Or M0 (Mut φ h)) en Q => cf x.x y.x) 0 d.size d' ∧ w' = sortWorldK (fun x => x.vs) k w a.block a.off n d' os := by
  rw [Nat.zero_mul, Nat.add_zero, ← hds]
  refine AnyQ.slices_SortFunc L k aE zE (fun x : El w (Or M0 (Mut φ h)) en Q => x.vs) hkE (fun x => x.cells) (fun x y => cf x.x y.x) (swo_pull hO fun x : El w (Or M0 (Mut φ h)) en Q => x.x) g #[] a.block a.off cap d w hg ?_ ?_ hblk (by omega)
  ·intro m os dk hdk x y
   obtain ⟨hx1, hx2⟩ := hC x.x y.x x.q y.q
   obtain ⟨C', k1, k2, k3, k4, k5, k6, k7, k8, k9⟩ := sort_worldK (off := a.off) hb (fun x : El w (Or M0 (Mut φ h)) en Q => x.vs) k dk (by rw [hdk, hds]; omega) m os
   generalize sortWorldK (fun x : El w (Or M0 (Mut φ h)) en Q => x.vs) k w a.block a.off m dk os = X at *
   have hkeep : ∀ z : El w (Or M0 (Mut φ h)) en Q, RelL noP X (Or M0 (Mut φ h)) (en z.x) z.vs := fun z =>
    z.rel.keep noP.le_refl (fun j hj hjl => k4 j (fun e => hj (e ▸ hMb)) hjl) (fun j hj => .inl hj)
   have hag : ∀ z : El w (Or M0 (Mut φ h)) en Q, Rel noP X (Or M0 (Mut φ h)) (.agg (en z.x)) (.agg z.vs.toArray) := fun z => .agg z.cells (hkeep z)
   refine (hx2 (Or M0 (Mut φ h)) X [.agg x.vs.toArray, .agg y.vs.toArray] (fun j hj => Nat.lt_of_lt_of_le (hH.blk hj) k5) (hH.glob.keep (fun j hj hjl => k4 j (fun e => hj (e ▸ hMb)) hjl) (fun j hj => .inl hj)) (.cons (hag x) (.cons (hag y) .nil))).mono ?_
   rintro e w' ⟨v, rfl, hrv, hfr⟩
   cases hrv
   refine ⟨rfl, w'.drawn - X.drawn, w'.heap.extract X.heap.size w'.heap.size, ?_⟩
   have hheap : X.heap ++ w'.heap.extract X.heap.size w'.heap.size = w'.heap := by
    refine Array.ext_getElem? fun j => ?_
    by_cases hj : j < X.heap.size
    ·rw [Array.getElem?_append_left hj, hfr.block j hj (fun h => h)]
    ·rw [Array.getElem?_append_right (by omega), Array.getElem?_extract]
     have := hfr.size
     split
     ·congr 1; omega
     ·rw [Array.getElem?_eq_none (by omega)]
   have hdr : X.drawn + (w'.drawn - X.drawn) = w'.drawn := by have := hfr.drawn; omega
   cases w' with
   | mk hp tp dr os' out =>
    have e1 := hfr.os; have e2 := hfr.tape; have e3 := hfr.output
    simp only at e1 e2 e3 hheap hdr
    subst e1 e2 e3
    simp only [grow, World.drewN, hheap, hdr]
  ·intro j hj
   have hjl : j < ((C.toList.drop a.off).take (l.length * k)).length := by
    rw [← hlv, ← show (d.toList.map fun x => x.vs) = ls.map (·.vs) by rw [hd], ← hfl, Array.length_toList]; exact hj
   have hget : (flatK (fun x : El w (Or M0 (Mut φ h)) en Q => x.vs) k d)[j]! = C[a.off + j]! := by
    have e1 : (flatK (fun x : El w (Or M0 (Mut φ h)) en Q => x.vs) k d).toList = (C.toList.drop a.off).take (l.length * k) := by rw [hfl, hd]; exact hlv
    have hjC : a.off + j < C.size := by simp at hjl; omega
    rw [getElem!_pos _ j hj, getElem!_pos C _ hjC, ← Array.getElem_toList, ← Array.getElem_toList (xs := C)]
    simp only [e1, List.getElem_take, List.getElem_drop]
   have hjC : a.off + j < C.size := by simp at hjl; omega
   refine ⟨?_, ?_⟩
   ·simp only [World.cell?, hb]
    rw [hget]
    simp [hjC]
   ·simp [World.frozen?, hb]
 refine hCal.mono ?_
 rintro e w' ⟨rfl, d', n', os, hperm, hsort, rfl⟩
 obtain ⟨hps, _, hpp⟩ := hperm
 obtain ⟨C', k1, k2, k3, k4, k5, k6, k7, k8, k9⟩ := sort_worldK (off := a.off) hb (fun x : El w (Or M0 (Mut φ h)) en Q => x.vs) k d' (by rw [hps, hds]; omega) n' os
 generalize sortWorldK (fun x : El w (Or M0 (Mut φ h)) en Q => x.vs) k w a.block a.off n' d' os = X at *
 obtain ⟨l', hl'⟩ : ∃ l' : List α, l' = d'.toList.map fun x => x.x := ⟨_, rfl⟩
 have hl'l : l'.length = l.length := by rw [hl', List.length_map, Array.length_toList, hps, hds]
 have hpl : l'.Perm l := by
  have h1 : (d'.extract 0 d.size).toList = d'.toList := by rw [← hps]; simp
  have h2 : (d.extract 0 d.size).toList = d.toList := by simp
  rw [h1, h2] at hpp
  have := hpp.map fun x => x.x
  rw [hl', ← hlx]
  simpa [hd] using this
 have hpw : l'.Pairwise (fun x y => ¬ cf y x < 0) := by
  rw [hl', List.pairwise_map, List.pairwise_iff_getElem]
  intro i j hi hj hij
  have hi' : i < d'.size := by simpa using hi
  have hj' : j < d'.size := by simpa using hj
  have := hsort i j (Nat.zero_le _) hij (by omega)
  rw [getElem!_pos d' i hi', getElem!_pos d' j hj'] at this
  simpa [ltOf] using this
 have hwin : (C'.toList.drop a.off).take (l'.length * k) = (d'.toList.map fun x => x.vs).flatten := by
  rw [hps, hds, hfl] at k3
  rw [hl'l]; exact k3
 have hrel' : RelL φ w (Or M0 (Mut φ h)) (l'.map en).flatten ((C'.toList.drop a.off).take (l'.length * k)) := by
  rw [hwin, hl']
  generalize d'.toList = ds
  induction ds with
  | nil => exact .nil
  | cons z ds ih =>
   simp only [List.map_cons, List.flatten_cons]
   exact (z.rel.keep (fun o x ho => by cases ho) (fun _ _ _ => rfl) (fun k hk => .inl hk)).append ih
 have hle0 : φ.le (upd φ o (some (gn, some (a, bs)))) := by rw [← hp, upd_self]; exact φ.le_refl
 have hol : ¬ n ≤ o := fun hle => by rw [hH.fresh o hle] at hp; cases hp
 obtain ⟨g1, g2, g3⟩ := hH.set (w' := X) (F' := fun o => n ≤ o) (o := o) (mt := true) (g := gn) (sz := k) (rs := l'.map en) (A := some (a, bs))
  (fun _ h => h) hol k5 hle0 (fun j hj hjl => k4 j (fun e => hj (e ▸ hMb)) hjl)
  (fun o' mt' g' sz' rs' a₁ b₁ hne ho' hp' => by
   have := hH.inj _ _ _ _ _ _ _ _ _ _ _ _ _ _ ho ho' (Ne.symm hne) (.inl rfl) hp hp'
   have hlt : a₁.block < w.heap.size := by
    obtain ⟨A1, hA1, hc1⟩ := hH.obj _ _ _ _ _ ho'
    rw [hp'] at hA1
    simp only [Option.some.injEq, Prod.mk.injEq, true_and] at hA1
    subst hA1
    rcases hc1 with ⟨hc1, _⟩ | ⟨a2, b2, e2, _, hb2⟩
    ·cases hc1
    ·simp only [Option.some.injEq, Prod.mk.injEq] at e2
     obtain ⟨rfl, rfl⟩ := e2
     exact hb2.blk
   refine ⟨k4 _ (Ne.symm this) hlt, fun a₂ b₂ e => ?_⟩
   simp only [Option.some.injEq, Prod.mk.injEq] at e
   obtain ⟨rfl, rfl⟩ := e
   exact this)
  (fun a₁ b₁ e => by
   simp only [Option.some.injEq, Prod.mk.injEq] at e
   obtain ⟨rfl, rfl⟩ := e
   exact .inl hMb)
  (.inr ⟨a, bs, C', T, rfl, hsp, h0, k1, by rw [k2]; exact hCs, fun r hr => by
    obtain ⟨x, _, rfl⟩ := List.mem_map.1 hr
    exact henl x, by rw [List.length_map, hl'l]; exact hle, fun c hm => by
    rw [List.length_map, hwin] at hm
    obtain ⟨r, hr, hm⟩ := List.mem_flatten.1 hm
    obtain ⟨z, _, rfl⟩ := List.mem_map.1 hr
    exact z.cells c hm, by rw [List.length_map]; exact hrel'⟩)
 refine ⟨_, _, .tup [], _, n, rfl, hK l' hpl hpw, g1, .tup (vs := []) .nil, ⟨hle0, g2, ⟨k6, k7, k8, k9, k5, fun j hj hu => k4 j (fun e => hu ⟨o, gn, k, _, gn, a, bs, ho, hp, e.symm⟩) hj⟩, fun j hj => ?_⟩⟩
 rcases g3 j hj with h | ⟨a₁, b₁, e, rfl⟩
 ·exact .inl h
 ·simp only [Option.some.injEq, Prod.mk.injEq] at e
  obtain ⟨rfl, rfl⟩ := e
  exact .inl ⟨o, gn, k, _, gn, a, bs, ho, hp, rfl⟩
end Go.Av
end
section
namespace Go.Proofs
open Go.Shelf
set_option maxRecDepth 100000
def zsort_ren : Go.Shelf.Ren := ⟨fun | 6 => 108 | 15 => 164 | 14 => 163 | 28 => 207 | 29 => 208 | 20 => 199 | 21 => 200 | 22 => 201 | 23 => 202 | 24 => 203 | 25 => 204 | 26 => 205 | 27 => 206 | 46 => 251 | 47 => 252 | 48 => 253 | 49 => 254 | 50 => 255 | 57 => 282 | n => n, fun | 22 => 102 | 24 => 112 | 25 => 170 | 3 => 3 | 39 => 220 | 0 => 0 | 53 => 263 | 55 => 265 | 4 => 4 | 46 => 257 | 45 => 256 | 50 => 119 | 5 => 5 | 9 => 9 | 66 => 304 | 70 => 308 | 76 => 330 | 77 => 164 | n => n, fun n => n⟩
theorem zsort : Go.Proofs.SlLaysF0.n6 Tryz.prog zsort_ren := {
 mixed := by kernel_rfl
 f6 := ⟨Tryz.f108.name, by decide, Tryz.func108.trans (congrArg some (by kernel_rfl))⟩
 f14 := ⟨Tryz.f163.name, by decide, Tryz.func163.trans (congrArg some (by kernel_rfl))⟩
 f15 := Tryz.func164.trans (congrArg some (by kernel_rfl))
 f20 := ⟨Tryz.f199.name, by decide, Tryz.func199.trans (congrArg some (by kernel_rfl))⟩
 f21 := ⟨Tryz.f200.name, by decide, Tryz.func200.trans (congrArg some (by kernel_rfl))⟩
 f22 := ⟨Tryz.f201.name, by decide, Tryz.func201.trans (congrArg some (by kernel_rfl))⟩
 f23 := ⟨Tryz.f202.name, by decide, Tryz.func202.trans (congrArg some (by kernel_rfl))⟩
 f24 := ⟨Tryz.f203.name, by decide, Tryz.func203.trans (congrArg some (by kernel_rfl))⟩
 f25 := ⟨Tryz.f204.name, by decide, Tryz.func204.trans (congrArg some (by kernel_rfl))⟩
 f26 := ⟨Tryz.f205.name, by decide, Tryz.func205.trans (congrArg some (by kernel_rfl))⟩
 f27 := ⟨Tryz.f206.name, by decide, Tryz.func206.trans (congrArg some (by kernel_rfl))⟩
 f28 := Tryz.func207.trans (congrArg some (by kernel_rfl))
 f29 := Tryz.func208.trans (congrArg some (by kernel_rfl))
 f46 := ⟨Tryz.f251.name, by decide, Tryz.func251.trans (congrArg some (by kernel_rfl))⟩
 f47 := Tryz.func252.trans (congrArg some (by kernel_rfl))
 f48 := Tryz.func253.trans (congrArg some (by kernel_rfl))
 f49 := ⟨Tryz.f254.name, by decide, Tryz.func254.trans (congrArg some (by kernel_rfl))⟩
 f50 := ⟨Tryz.f255.name, by decide, Tryz.func255.trans (congrArg some (by kernel_rfl))⟩
 f57 := ⟨Tryz.f282.name, by decide, Tryz.func282.trans (congrArg some (by kernel_rfl))⟩
 t0 := Tryz.underlying0
 a0 := Tryz.isAgg0
 z0 := Tryz.sizeOf0
 v0 := Tryz.zeroValue0
 t3 := Tryz.underlying3
 a3 := Tryz.isAgg3
 z3 := Tryz.sizeOf3
 v3 := Tryz.zeroValue3
 t4 := Tryz.underlying4
 a4 := Tryz.isAgg4
 z4 := Tryz.sizeOf4
 v4 := Tryz.zeroValue4
 t5 := Tryz.underlying5
 a5 := Tryz.isAgg5
 z5 := Tryz.sizeOf5
 v5 := Tryz.zeroValue5
 t9 := Tryz.underlying9
 a9 := Tryz.isAgg9
 z9 := Tryz.sizeOf9
 v9 := Tryz.zeroValue9
 t22 := Tryz.underlying102
 a22 := Tryz.isAgg102
 z22 := Tryz.sizeOf102
 v22 := Tryz.zeroValue102
 t25 := Tryz.underlying170
 a25 := Tryz.isAgg170
 z25 := Tryz.sizeOf170
 v25 := Tryz.zeroValue170
 t39 := Tryz.underlying220
 a39 := Tryz.isAgg220
 z39 := Tryz.sizeOf220
 v39 := Tryz.zeroValue220
 t45 := Tryz.underlying256
 a45 := Tryz.isAgg256
 z45 := Tryz.sizeOf256
 v45 := Tryz.zeroValue256
 t46 := Tryz.underlying257
 a46 := Tryz.isAgg257
 z46 := Tryz.sizeOf257
 v46 := Tryz.zeroValue257
 t50 := Tryz.underlying119
 a50 := Tryz.isAgg119
 z50 := Tryz.sizeOf119
 v50 := Tryz.zeroValue119
 t53 := Tryz.underlying263
 a53 := Tryz.isAgg263
 z53 := Tryz.sizeOf263
 v53 := Tryz.zeroValue263
 t55 := Tryz.underlying265
 a55 := Tryz.isAgg265
 z55 := Tryz.sizeOf265
 v55 := Tryz.zeroValue265
 t66 := Tryz.underlying304
 a66 := Tryz.isAgg304
 z66 := Tryz.sizeOf304
 v66 := Tryz.zeroValue304
 t70 := Tryz.underlying308
 a70 := Tryz.isAgg308
 z70 := Tryz.sizeOf308
 v70 := Tryz.zeroValue308
 t76 := Tryz.underlying330
 a76 := Tryz.isAgg330
 z76 := Tryz.sizeOf330
 v76 := Tryz.zeroValue330
 t77 := Tryz.underlying164
 a77 := Tryz.isAgg164
 z77 := Tryz.sizeOf164
 v77 := Tryz.zeroValue164 }
end Go.Proofs
end
section
open Go Go.Proofs
set_option maxRecDepth 20000
set_option maxHeartbeats 4000000
namespace Go.Av
theorem CompactR_owns (l : List OutD) (gn : Nat) (hl : l.length ≤ 17179869184) (hf : ∀ o ∈ l, FitsP o.pos) :
  OwnsA Tryz.prog 110 [.sl 0 gn 6 0 l.length, .fn (.func 134) [] []] [(0, .rows true gn 6 (l.map encOut))] 1
   (.sl 0 gn 6 0 (dedup l).length) [(0, .rows true gn 6 ((dedup l).map encOut ++ List.replicate (l.length - (dedup l).length) zeroO))] 1 := by
 unfold OwnsA
 by_cases h2 : l.length < 2
 ·rw [dedup_short h2]
  refine ACallP.of_awp (by kernel_rfl) Tryz.func110 rfl rfl (Nat.le_of_ble_eq_true rfl) (by kernel_rfl) ?_
  (repeat (first|with_reducible (first|refine wL fun _=>?_|refine wD fun _=>?_|refine wE ?_|refine wZ ?_)|simp [go_sem]))
  (refine aIf.mkL (fun hT => ?_) (fun hT => by first | omega | (simp at hT; omega)); clear hT)
  (repeat (first|with_reducible (first|refine wL fun _=>?_|refine wD fun _=>?_|refine wE ?_|refine wZ ?_)|simp [go_sem]))
  simp [go_sem, Wk_eq]
 obtain ⟨D, hD⟩ : ∃ D, D = dedup l := ⟨_, rfl⟩
 rw [← hD]
 have hE : ∀ i j, i < l.length → j < l.length → Pure Tryz.prog 134 [.agg (encOut (nth l i)), .agg (encOut (nth l j))] (.v (.bool (decide (nth l i = nth l j)))) :=
  fun i j hi hj => runs2_pure _ _ (hf _ (nth_mem hi)) (hf _ (nth_mem hj))
 refine ACallP.of_awp (by kernel_rfl) Tryz.func110 rfl rfl (Nat.le_of_ble_eq_true rfl) (by kernel_rfl) ?_
 (repeat (first|with_reducible (first|refine wL fun _=>?_|refine wD fun _=>?_|refine wE ?_|refine wZ ?_)|simp [go_sem]))
 (refine aIf.mkL (fun hF => by first | omega | (simp at hF; omega)) (fun hF => ?_); clear hF)
 (repeat (first|with_reducible (first|refine wL fun _=>?_|refine wD fun _=>?_|refine wE ?_|refine wZ ?_)|simp [go_sem]))
 refine ALoop.start (ALoop.ind (α := Nat) (fun j => ⟨[(0, .sl 0 gn 6 0 l.length), (1, .fn (.func 134) [] []), (5, .v (.int .i64 j))], [(0, .rows true gn 6 (l.map encOut))], 1⟩)
  (fun d j => 1 ≤ j ∧ j + d = l.length ∧ D = l.take j ++ dedupGo (nth l (j - 1)) (l.drop j)) ?_ (l.length - 1) 1 ?_) ?_ ?_
 ·rintro d j ⟨i1, i2, i3⟩ hrec
  have e1 : ((j : Int) - 1).toNat = j - 1 := by omega
  (repeat (first|with_reducible (first|refine wL fun _=>?_|refine wD fun _=>?_|refine wE ?_|refine wZ ?_)|simp [go_sem]))
  refine aIf.mkL (fun hj => ?_) (fun hj => ?_) <;> simp at hj
  ·have hj' : j - 1 < l.length := by omega
   rw [dropG_cons hj, dedupGo] at i3
   (repeat (first|with_reducible (first|refine wL fun _=>?_|refine wD fun _=>?_|refine wE ?_|refine wZ ?_)|simp [go_sem, hj, hj', e1]))
   refine dCall.plain (hE j (j - 1) hj hj') (by simp [go_sem]) ?_
   (repeat (first|with_reducible (first|refine wL fun _=>?_|refine wD fun _=>?_|refine wE ?_|refine wZ ?_)|simp [go_sem, hj, hj', e1]))
   by_cases he : nth l j = nth l (j - 1)
   ·rw [if_pos he] at i3
    (repeat (first|with_reducible (first|refine wL fun _=>?_|refine wD fun _=>?_|refine wE ?_|refine wZ ?_)|simp [go_sem, he, hj, hj', e1]))
    refine ALoop.start (ALoop.ind (α := Nat × List OutD × Nat) (fun a => ⟨[(0, .sl 0 gn 6 0 l.length), (1, .fn (.func 134) [] []), (5, .v (.int .i64 a.2.2)), (6, .sl 0 gn 6 j (l.length - j)), (7, .v (.int .i64 a.1))], [(0, .rows true gn 6 (a.2.1.map encOut))], 1⟩)
     (fun d a => 1 ≤ a.1 ∧ j + a.1 + d = l.length ∧ a.2.1.length = l.length ∧ a.2.2 ≤ j + a.1 - 1 ∧ a.2.1.drop (j + a.1 - 1) = l.drop (j + a.1 - 1) ∧ D = a.2.1.take a.2.2 ++ dedupGo (nth l (j + a.1 - 1)) (l.drop (j + a.1))) ?_ (l.length - j - 1) (1, l, j) ?_) ?_ ?_
    ·rintro d2 ⟨k2, R, k⟩ ⟨j1, j2, j3, j4, j5, j6⟩ hrec2
     simp only at j1 j2 j3 j4 j5 j6
     have e2 : ((k2 : Int) - 1).toNat = k2 - 1 := by omega
     have e3 : j + (k2 - 1) = j + k2 - 1 := by omega
     have hRn : ∀ m, j + k2 - 1 ≤ m → m < l.length → nth R m = nth l m := fun m h1 h2 => by
      have h3 : (R.drop (j + k2 - 1))[m - (j + k2 - 1)]? = (l.drop (j + k2 - 1))[m - (j + k2 - 1)]? := by rw [j5]
      rw [List.getElem?_drop, List.getElem?_drop, show j + k2 - 1 + (m - (j + k2 - 1)) = m by omega, List.getElem?_eq_getElem (by omega), List.getElem?_eq_getElem h2] at h3
      rw [nth_eq _ _ (by omega), nth_eq _ _ h2]
      exact Option.some.inj h3
     (repeat (first|with_reducible (first|refine wL fun _=>?_|refine wD fun _=>?_|refine wE ?_|refine wZ ?_)|simp [go_sem, j3]))
     refine aIf.mkL (fun hk => ?_) (fun hk => ?_) <;> simp at hk
     ·have hk1 : j + k2 < l.length := by omega
      have hk0 : j + k2 - 1 < l.length := by omega
      have hr1 := hRn (j + k2) (by omega) hk1
      have hr0 := hRn (j + k2 - 1) (by omega) hk0
      rw [dropG_cons hk1, dedupGo] at j6
      have hk2 : k2 - 1 < l.length - j := by omega
      have hk3 : k < l.length := by omega
      (repeat (first|with_reducible (first|refine wL fun _=>?_|refine wD fun _=>?_|refine wE ?_|refine wZ ?_)|simp [go_sem, j3, hk, hk1, hk0, hr1, hr0, e2, e3, hk2]))
      refine dCall.plain (hE (j + k2) (j + k2 - 1) hk1 hk0) (by simp [go_sem]) ?_
      (repeat (first|with_reducible (first|refine wL fun _=>?_|refine wD fun _=>?_|refine wE ?_|refine wZ ?_)|simp [go_sem, j3, hk, hk1, hk0, hr1, hr0, e2, e3, hk2]))
      by_cases hc : nth l (j + k2) = nth l (j + k2 - 1)
      ·rw [if_pos hc] at j6
       (repeat (first|with_reducible (first|refine wL fun _=>?_|refine wD fun _=>?_|refine wE ?_|refine wZ ?_)|simp [go_sem, hc]))
       refine ALoop.start (hrec2 (d2 - 1) (by omega) (k2 + 1, R, k) ⟨by simp only; omega, by simp only; omega, j3, by simp only; omega, ?_, ?_⟩) ?_ (by simp)
       ·have := congrArg (List.drop 1) j5
        rw [List.drop_drop, List.drop_drop] at this
        rw [show j + (k2 + 1) - 1 = j + k2 - 1 + 1 by omega]
        exact this
       ·simp only
        rw [show j + (k2 + 1) - 1 = j + k2 by omega, hc]
        exact j6
       ·simp [go_sem, Wk_eq]
      ·rw [if_neg hc] at j6
       (repeat (first|with_reducible (first|refine wL fun _=>?_|refine wD fun _=>?_|refine wE ?_|refine wZ ?_)|simp [go_sem, hc, j3, hk, hk1, hk0, hr1, hr0, e2, e3, hk2, hk3]))
       refine ALoop.start (hrec2 (d2 - 1) (by omega) (k2 + 1, R.set k (nth l (j + k2)), k + 1) ⟨by simp only; omega, by simp only; omega, by simpa using j3, by simp only; omega, ?_, ?_⟩) ?_ (by simp)
       ·have := congrArg (List.drop 1) j5
        rw [List.drop_drop, List.drop_drop] at this
        simp only
        rw [show j + (k2 + 1) - 1 = j + k2 - 1 + 1 by omega, List.drop_set, if_pos (by omega)]
        exact this
       ·simp only
        rw [show j + (k2 + 1) - 1 = j + k2 by omega, List.take_add_one, List.take_set_of_le (by omega), List.getElem?_set_self (by omega), Option.toList_some, List.append_assoc]
        exact j6
       ·have hb : ∀ n, ∀ r ∈ ((R.set k (nth l (j + k2))).map encOut), ∀ c ∈ r, Bel n c := fun n => of_eq_true bel_Ou
        rw [List.map_set] at hb
        simp [go_sem, Wk_eq, List.map_set]
        exact hb 1
     ·rw [List.drop_eq_nil_of_le (by omega), dedupGo, List.append_nil] at j6
      have hDl : D.length = k := by rw [j6, List.length_take]; omega
      have hd0 : List.drop (k + (l.length - k)) (R.map encOut) = [] := List.drop_eq_nil_of_le (by simp; omega)
      have hDm : D.map encOut = List.take k (R.map encOut) := by rw [j6, List.map_take]
      (repeat (first|with_reducible (first|refine wL fun _=>?_|refine wD fun _=>?_|refine wE ?_|refine wZ ?_)|simp [go_sem]))
      simp [go_sem, Wk_eq, hd0, hDl, hDm, zeroO]
      exact fun x hx => of_eq_true (bel_Ou (n := 1) (l := R)) x (List.mem_of_mem_take hx)
    ·refine ⟨Nat.le_refl _, by simp only; omega, rfl, by simp only; omega, rfl, ?_⟩
     simp only
     rw [Nat.add_sub_cancel, he]
     exact i3
    ·simp [go_sem, Wk_eq]
    ·simp
   ·rw [if_neg he] at i3
    (repeat (first|with_reducible (first|refine wL fun _=>?_|refine wD fun _=>?_|refine wE ?_|refine wZ ?_)|simp [go_sem, he, hj, hj', e1]))
    refine ALoop.start (hrec (d - 1) (by omega) (j + 1) ⟨by omega, by omega, ?_⟩) ?_ (by simp)
    ·rw [i3, Nat.add_sub_cancel, List.take_add_one, List.getElem?_eq_getElem hj, nth_eq _ _ hj, Option.toList_some, List.append_assoc]; rfl
    ·simp [go_sem, Wk_eq]
  ·rw [List.drop_eq_nil_of_le hj, List.take_of_length_le hj, dedupGo, List.append_nil] at i3
   rw [i3]
   (repeat (first|with_reducible (first|refine wL fun _=>?_|refine wD fun _=>?_|refine wE ?_|refine wZ ?_)|simp [go_sem]))
   simp [go_sem, Wk_eq]
 ·refine ⟨Nat.le_refl _, by omega, ?_⟩
  cases l with
  | nil => simp at h2
  | cons a l => rw [hD]; rfl
 ·simp [go_sem, Wk_eq]
 ·simp
theorem compactR_call (l : List OutD) (gn : Nat) (hl : l.length ≤ 17179869184) (hf : ∀ o ∈ l, FitsP o.pos) {h : Heap} {n o : Nat} (ho : h o = some (.rows true gn 6 (l.map encOut))) (hon : o < n) {K : CallK}
  (hK : K (.sl o gn 6 0 (dedup l).length) (upd h o (some (.rows true gn 6 ((dedup l).map encOut ++ List.replicate (l.length - (dedup l).length) zeroO)))) n) :
  ACallP Tryz.prog 110 [.sl o gn 6 0 l.length, .fn (.func 134) [] []] h n K := by
 have hz : ∀ m, ∀ r ∈ (dedup l).map encOut ++ List.replicate (l.length - (dedup l).length) zeroO, ∀ c ∈ r, Bel m c := by
  intro m r hr c hc
  rcases List.mem_append.1 hr with hr | hr
  ·exact bel_map_out _ r hr c hc
  ·rw [List.eq_of_mem_replicate hr] at hc
   simp only [zeroO, List.mem_cons, List.not_mem_nil, or_false] at hc
   rcases hc with rfl | rfl | rfl | rfl | rfl | rfl <;> exact .v _
 refine ACallP.ownsA (args' := [.sl o gn 6 0 l.length, .fn (.func 134) [] []]) (HH := [(o, .rows true gn 6 ((dedup l).map encOut ++ List.replicate (l.length - (dedup l).length) zeroO))])
  [o] h (CompactR_owns l gn hl hf) (by simp) (by simpa using hon) rfl (Nat.le_refl _) (.refl _) ?_ ?_ (.refl _ _ _ _) ?_ ?_ ?_ (.sl rfl) ?_ ?_
 ·intro j hj
  obtain rfl : j = 0 := by omega
  exact ⟨_, _, rfl, ho, .rows (.same (bel_map_out _))⟩
 ·intro p hp
  simp only [List.mem_singleton] at hp
  subst hp
  exact ⟨Nat.le_of_ble_eq_true rfl, bel_map_out _⟩
 ·intro y hy
  simp only [List.mem_cons, List.not_mem_nil, or_false] at hy
  rcases hy with rfl | rfl
  ·exact .sl hon
  ·simp [go_sem]
 ·exact .cons (.sl rfl) (.cons (.same (by simp [go_sem])) .nil)
 ·intro y hy
  simp only [List.mem_cons, List.not_mem_nil, or_false] at hy
  rcases hy with rfl | rfl
  ·exact .sl (by decide)
  ·simp [go_sem]
 ·exact .cons rfl (.rows (.same (hz 0))) .nil
 ·have e : over [(o, .rows true gn 6 ((dedup l).map encOut ++ List.replicate (l.length - (dedup l).length) zeroO))] (remH [o] h) = upd h o (some (.rows true gn 6 ((dedup l).map encOut ++ List.replicate (l.length - (dedup l).length) zeroO))) := by
   funext j
   simp only [over, remH, upd]
   by_cases j1 : j = o
   ·simp [j1]
   ·simp [j1]
  rw [e, Nat.sub_self, Nat.add_zero]
  exact hK
theorem compactR_call2 (l : List OutD) (gn m : Nat) (hm : l.length = m) (hl : m ≤ 17179869184) (hf : ∀ o ∈ l, FitsP o.pos) {h : Heap} {n o : Nat} (ho : h o = some (.rows true gn 6 (l.map encOut))) (hon : o < n) {K : CallK}
  (hK : K (.sl o gn 6 0 (dedup l).length) (upd h o (some (.rows true gn 6 ((dedup l).map encOut ++ List.replicate (l.length - (dedup l).length) zeroO)))) n) :
  ACallP Tryz.prog 110 [.sl o gn 6 0 m, .fn (.func 134) [] []] h n K := by
 subst hm
 exact compactR_call l gn hl hf ho hon hK
theorem swo_outR : Go.Sort.SWO (fun a b : OutD => decide (cmpO a b < 0)) := by
 refine ⟨fun x => ?_, fun x y z h1 h2 => ?_, fun x y z h1 h2 => ?_⟩
 ·have := cmp_out.swap x x
  simp; omega
 ·simp only [decide_eq_true_eq] at h1 h2 ⊢
  have t := cmp_out.tr x y z (by omega) (by omega)
  rcases Int.lt_or_eq_of_le t with h | h
  ·exact h
  ·have e := (cmp_out.eq _ _).1 h
   subst e
   have := cmp_out.swap x y
   omega
 ·simp only [decide_eq_false_iff_not] at h1 h2 ⊢
  have s1 := cmp_out.swap x y
  have s2 := cmp_out.swap y z
  have s3 := cmp_out.swap x z
  have t := cmp_out.tr z y x (by omega) (by omega)
  omega
theorem sortR_call (l : List OutD) (hf : ∀ o ∈ l, FitsP o.pos) (hl : l.length < 4611686018427387904) {h : Heap} {n o gn : Nat} (ho : h o = some (.rows true gn 6 (l.map encOut))) {K : CallK}
  (hK : K (.tup []) (upd h o (some (.rows true gn 6 ((sortC cmpO l).map encOut)))) n) :
  ACallP Tryz.prog 108 [.sl o gn 6 0 l.length, .fn (.func 133) [] []] h n K := by
 refine ACallP.sortFunc zsort (k := 6) (by omega) Tryz.isAgg112 Tryz.sizeOf112 encOut (fun _ => rfl) ?_ (fun o => FitsP o.pos) cmpO swo_outR _ (fun x y hx hy => rOrder_pure x y hx hy) ?_ l hf hl ho ?_
 ·intro x
  simp [go_sem]
 ·exact (rOrder_pure default default (by unfold FitsP Fits; decide) (by unfold FitsP Fits; decide)).1
 ·intro l' hp hs
  have : sortC cmpO l = l' := sortC_unique cmp_out hp (hs.imp fun {a b} hab => by
   have := cmp_out.swap a b
   simp only [leC, decide_eq_true_eq]
   omega)
  rw [← this]
  exact hK
end Go.Av
end
section
namespace Go.Proofs
open Go.Shelf
set_option maxRecDepth 100000
def zsortP_ren : Go.Shelf.Ren := ⟨fun | 6 => 139 | 15 => 164 | 14 => 184 | 28 => 207 | 29 => 208 | 20 => 236 | 21 => 237 | 22 => 238 | 23 => 239 | 24 => 240 | 25 => 241 | 26 => 242 | 27 => 243 | 46 => 276 | 47 => 252 | 48 => 253 | 49 => 277 | 50 => 278 | 57 => 288 | n => n, fun | 22 => 56 | 24 => 45 | 25 => 86 | 3 => 3 | 39 => 220 | 0 => 0 | 53 => 263 | 55 => 265 | 4 => 4 | 46 => 257 | 45 => 256 | 50 => 119 | 5 => 5 | 9 => 9 | 66 => 304 | 70 => 308 | 76 => 330 | 77 => 164 | n => n, fun n => n⟩
theorem zsortP : Go.Proofs.SlLaysF0.n6 Tryz.prog zsortP_ren := {
 mixed := by kernel_rfl
 f6 := ⟨Tryz.f139.name, by decide, Tryz.func139.trans (congrArg some (by kernel_rfl))⟩
 f14 := ⟨Tryz.f184.name, by decide, Tryz.func184.trans (congrArg some (by kernel_rfl))⟩
 f15 := Tryz.func164.trans (congrArg some (by kernel_rfl))
 f20 := ⟨Tryz.f236.name, by decide, Tryz.func236.trans (congrArg some (by kernel_rfl))⟩
 f21 := ⟨Tryz.f237.name, by decide, Tryz.func237.trans (congrArg some (by kernel_rfl))⟩
 f22 := ⟨Tryz.f238.name, by decide, Tryz.func238.trans (congrArg some (by kernel_rfl))⟩
 f23 := ⟨Tryz.f239.name, by decide, Tryz.func239.trans (congrArg some (by kernel_rfl))⟩
 f24 := ⟨Tryz.f240.name, by decide, Tryz.func240.trans (congrArg some (by kernel_rfl))⟩
 f25 := ⟨Tryz.f241.name, by decide, Tryz.func241.trans (congrArg some (by kernel_rfl))⟩
 f26 := ⟨Tryz.f242.name, by decide, Tryz.func242.trans (congrArg some (by kernel_rfl))⟩
 f27 := ⟨Tryz.f243.name, by decide, Tryz.func243.trans (congrArg some (by kernel_rfl))⟩
 f28 := Tryz.func207.trans (congrArg some (by kernel_rfl))
 f29 := Tryz.func208.trans (congrArg some (by kernel_rfl))
 f46 := ⟨Tryz.f276.name, by decide, Tryz.func276.trans (congrArg some (by kernel_rfl))⟩
 f47 := Tryz.func252.trans (congrArg some (by kernel_rfl))
 f48 := Tryz.func253.trans (congrArg some (by kernel_rfl))
 f49 := ⟨Tryz.f277.name, by decide, Tryz.func277.trans (congrArg some (by kernel_rfl))⟩
 f50 := ⟨Tryz.f278.name, by decide, Tryz.func278.trans (congrArg some (by kernel_rfl))⟩
 f57 := ⟨Tryz.f288.name, by decide, Tryz.func288.trans (congrArg some (by kernel_rfl))⟩
 t0 := Tryz.underlying0
 a0 := Tryz.isAgg0
 z0 := Tryz.sizeOf0
 v0 := Tryz.zeroValue0
 t3 := Tryz.underlying3
 a3 := Tryz.isAgg3
 z3 := Tryz.sizeOf3
 v3 := Tryz.zeroValue3
 t4 := Tryz.underlying4
 a4 := Tryz.isAgg4
 z4 := Tryz.sizeOf4
 v4 := Tryz.zeroValue4
 t5 := Tryz.underlying5
 a5 := Tryz.isAgg5
 z5 := Tryz.sizeOf5
 v5 := Tryz.zeroValue5
 t9 := Tryz.underlying9
 a9 := Tryz.isAgg9
 z9 := Tryz.sizeOf9
 v9 := Tryz.zeroValue9
 t22 := Tryz.underlying56
 a22 := Tryz.isAgg56
 z22 := Tryz.sizeOf56
 v22 := Tryz.zeroValue56
 t25 := Tryz.underlying86
 a25 := Tryz.isAgg86
 z25 := Tryz.sizeOf86
 v25 := Tryz.zeroValue86
 t39 := Tryz.underlying220
 a39 := Tryz.isAgg220
 z39 := Tryz.sizeOf220
 v39 := Tryz.zeroValue220
 t45 := Tryz.underlying256
 a45 := Tryz.isAgg256
 z45 := Tryz.sizeOf256
 v45 := Tryz.zeroValue256
 t46 := Tryz.underlying257
 a46 := Tryz.isAgg257
 z46 := Tryz.sizeOf257
 v46 := Tryz.zeroValue257
 t50 := Tryz.underlying119
 a50 := Tryz.isAgg119
 z50 := Tryz.sizeOf119
 v50 := Tryz.zeroValue119
 t53 := Tryz.underlying263
 a53 := Tryz.isAgg263
 z53 := Tryz.sizeOf263
 v53 := Tryz.zeroValue263
 t55 := Tryz.underlying265
 a55 := Tryz.isAgg265
 z55 := Tryz.sizeOf265
 v55 := Tryz.zeroValue265
 t66 := Tryz.underlying304
 a66 := Tryz.isAgg304
 z66 := Tryz.sizeOf304
 v66 := Tryz.zeroValue304
 t70 := Tryz.underlying308
 a70 := Tryz.isAgg308
 z70 := Tryz.sizeOf308
 v70 := Tryz.zeroValue308
 t76 := Tryz.underlying330
 a76 := Tryz.isAgg330
 z76 := Tryz.sizeOf330
 v76 := Tryz.zeroValue330
 t77 := Tryz.underlying164
 a77 := Tryz.isAgg164
 z77 := Tryz.sizeOf164
 v77 := Tryz.zeroValue164 }
end Go.Proofs
end
section
open Go Go.Proofs
set_option maxRecDepth 20000
set_option maxHeartbeats 4000000
namespace Go.Av
def zeroQ : List AV := [.v (.slice none 0 0), .v (.slice none 0 0), .v (.slice none 0 0), .v (.int .i64 0), .v (.int .i64 0)]
theorem CompactP_owns (l : List PosD) (gn : Nat) (hl : l.length ≤ 17179869184) (hf : ∀ o ∈ l, FitsP o) :
  OwnsA Tryz.prog 140 [.sl 0 gn 5 0 l.length, .fn (.func 141) [] []] [(0, .rows true gn 5 (l.map encPos))] 1
   (.sl 0 gn 5 0 (dedup l).length) [(0, .rows true gn 5 ((dedup l).map encPos ++ List.replicate (l.length - (dedup l).length) zeroQ))] 1 := by
 unfold OwnsA
 by_cases h2 : l.length < 2
 ·rw [dedup_short h2]
  refine ACallP.of_awp (by kernel_rfl) Tryz.func140 rfl rfl (Nat.le_of_ble_eq_true rfl) (by kernel_rfl) ?_
  (repeat (first|with_reducible (first|refine wL fun _=>?_|refine wD fun _=>?_|refine wE ?_|refine wZ ?_)|simp [go_sem]))
  (refine aIf.mkL (fun hT => ?_) (fun hT => by first | omega | (simp at hT; omega)); clear hT)
  (repeat (first|with_reducible (first|refine wL fun _=>?_|refine wD fun _=>?_|refine wE ?_|refine wZ ?_)|simp [go_sem]))
  simp [go_sem, Wk_eq]
 obtain ⟨D, hD⟩ : ∃ D, D = dedup l := ⟨_, rfl⟩
 rw [← hD]
 have hE : ∀ i j, i < l.length → j < l.length → Pure Tryz.prog 141 [.agg (encPos (nth l i)), .agg (encPos (nth l j))] (.v (.bool (decide (nth l i = nth l j)))) :=
  fun i j hi hj => psort1_pure _ _ (hf _ (nth_mem hi)) (hf _ (nth_mem hj))
 refine ACallP.of_awp (by kernel_rfl) Tryz.func140 rfl rfl (Nat.le_of_ble_eq_true rfl) (by kernel_rfl) ?_
 (repeat (first|with_reducible (first|refine wL fun _=>?_|refine wD fun _=>?_|refine wE ?_|refine wZ ?_)|simp [go_sem]))
 (refine aIf.mkL (fun hF => by first | omega | (simp at hF; omega)) (fun hF => ?_); clear hF)
 (repeat (first|with_reducible (first|refine wL fun _=>?_|refine wD fun _=>?_|refine wE ?_|refine wZ ?_)|simp [go_sem]))
 refine ALoop.start (ALoop.ind (α := Nat) (fun j => ⟨[(0, .sl 0 gn 5 0 l.length), (1, .fn (.func 141) [] []), (5, .v (.int .i64 j))], [(0, .rows true gn 5 (l.map encPos))], 1⟩)
  (fun d j => 1 ≤ j ∧ j + d = l.length ∧ D = l.take j ++ dedupGo (nth l (j - 1)) (l.drop j)) ?_ (l.length - 1) 1 ?_) ?_ ?_
 ·rintro d j ⟨i1, i2, i3⟩ hrec
  have e1 : ((j : Int) - 1).toNat = j - 1 := by omega
  (repeat (first|with_reducible (first|refine wL fun _=>?_|refine wD fun _=>?_|refine wE ?_|refine wZ ?_)|simp [go_sem]))
  refine aIf.mkL (fun hj => ?_) (fun hj => ?_) <;> simp at hj
  ·have hj' : j - 1 < l.length := by omega
   rw [dropG_cons hj, dedupGo] at i3
   (repeat (first|with_reducible (first|refine wL fun _=>?_|refine wD fun _=>?_|refine wE ?_|refine wZ ?_)|simp [go_sem, hj, hj', e1]))
   refine dCall.plain (hE j (j - 1) hj hj') (by simp [go_sem]) ?_
   (repeat (first|with_reducible (first|refine wL fun _=>?_|refine wD fun _=>?_|refine wE ?_|refine wZ ?_)|simp [go_sem, hj, hj', e1]))
   by_cases he : nth l j = nth l (j - 1)
   ·rw [if_pos he] at i3
    (repeat (first|with_reducible (first|refine wL fun _=>?_|refine wD fun _=>?_|refine wE ?_|refine wZ ?_)|simp [go_sem, he, hj, hj', e1]))
    refine ALoop.start (ALoop.ind (α := Nat × List PosD × Nat) (fun a => ⟨[(0, .sl 0 gn 5 0 l.length), (1, .fn (.func 141) [] []), (5, .v (.int .i64 a.2.2)), (6, .sl 0 gn 5 j (l.length - j)), (7, .v (.int .i64 a.1))], [(0, .rows true gn 5 (a.2.1.map encPos))], 1⟩)
     (fun d a => 1 ≤ a.1 ∧ j + a.1 + d = l.length ∧ a.2.1.length = l.length ∧ a.2.2 ≤ j + a.1 - 1 ∧ a.2.1.drop (j + a.1 - 1) = l.drop (j + a.1 - 1) ∧ D = a.2.1.take a.2.2 ++ dedupGo (nth l (j + a.1 - 1)) (l.drop (j + a.1))) ?_ (l.length - j - 1) (1, l, j) ?_) ?_ ?_
    ·rintro d2 ⟨k2, R, k⟩ ⟨j1, j2, j3, j4, j5, j6⟩ hrec2
     simp only at j1 j2 j3 j4 j5 j6
     have e2 : ((k2 : Int) - 1).toNat = k2 - 1 := by omega
     have e3 : j + (k2 - 1) = j + k2 - 1 := by omega
     have hRn : ∀ m, j + k2 - 1 ≤ m → m < l.length → nth R m = nth l m := fun m h1 h2 => by
      have h3 : (R.drop (j + k2 - 1))[m - (j + k2 - 1)]? = (l.drop (j + k2 - 1))[m - (j + k2 - 1)]? := by rw [j5]
      rw [List.getElem?_drop, List.getElem?_drop, show j + k2 - 1 + (m - (j + k2 - 1)) = m by omega, List.getElem?_eq_getElem (by omega), List.getElem?_eq_getElem h2] at h3
      rw [nth_eq _ _ (by omega), nth_eq _ _ h2]
      exact Option.some.inj h3
     (repeat (first|with_reducible (first|refine wL fun _=>?_|refine wD fun _=>?_|refine wE ?_|refine wZ ?_)|simp [go_sem, j3]))
     refine aIf.mkL (fun hk => ?_) (fun hk => ?_) <;> simp at hk
     ·have hk1 : j + k2 < l.length := by omega
      have hk0 : j + k2 - 1 < l.length := by omega
      have hr1 := hRn (j + k2) (by omega) hk1
      have hr0 := hRn (j + k2 - 1) (by omega) hk0
      rw [dropG_cons hk1, dedupGo] at j6
      have hk2 : k2 - 1 < l.length - j := by omega
      have hk3 : k < l.length := by omega
      (repeat (first|with_reducible (first|refine wL fun _=>?_|refine wD fun _=>?_|refine wE ?_|refine wZ ?_)|simp [go_sem, j3, hk, hk1, hk0, hr1, hr0, e2, e3, hk2]))
      refine dCall.plain (hE (j + k2) (j + k2 - 1) hk1 hk0) (by simp [go_sem]) ?_
      (repeat (first|with_reducible (first|refine wL fun _=>?_|refine wD fun _=>?_|refine wE ?_|refine wZ ?_)|simp [go_sem, j3, hk, hk1, hk0, hr1, hr0, e2, e3, hk2]))
      by_cases hc : nth l (j + k2) = nth l (j + k2 - 1)
      ·rw [if_pos hc] at j6
       (repeat (first|with_reducible (first|refine wL fun _=>?_|refine wD fun _=>?_|refine wE ?_|refine wZ ?_)|simp [go_sem, hc]))
       refine ALoop.start (hrec2 (d2 - 1) (by omega) (k2 + 1, R, k) ⟨by simp only; omega, by simp only; omega, j3, by simp only; omega, ?_, ?_⟩) ?_ (by simp)
       ·have := congrArg (List.drop 1) j5
        rw [List.drop_drop, List.drop_drop] at this
        rw [show j + (k2 + 1) - 1 = j + k2 - 1 + 1 by omega]
        exact this
       ·simp only
        rw [show j + (k2 + 1) - 1 = j + k2 by omega, hc]
        exact j6
       ·simp [go_sem, Wk_eq]
      ·rw [if_neg hc] at j6
       (repeat (first|with_reducible (first|refine wL fun _=>?_|refine wD fun _=>?_|refine wE ?_|refine wZ ?_)|simp [go_sem, hc, j3, hk, hk1, hk0, hr1, hr0, e2, e3, hk2, hk3]))
       refine ALoop.start (hrec2 (d2 - 1) (by omega) (k2 + 1, R.set k (nth l (j + k2)), k + 1) ⟨by simp only; omega, by simp only; omega, by simpa using j3, by simp only; omega, ?_, ?_⟩) ?_ (by simp)
       ·have := congrArg (List.drop 1) j5
        rw [List.drop_drop, List.drop_drop] at this
        simp only
        rw [show j + (k2 + 1) - 1 = j + k2 - 1 + 1 by omega, List.drop_set, if_pos (by omega)]
        exact this
       ·simp only
        rw [show j + (k2 + 1) - 1 = j + k2 by omega, List.take_add_one, List.take_set_of_le (by omega), List.getElem?_set_self (by omega), Option.toList_some, List.append_assoc]
        exact j6
       ·have hb : ∀ n, ∀ r ∈ ((R.set k (nth l (j + k2))).map encPos), ∀ c ∈ r, Bel n c := fun n => of_eq_true bel_P
        rw [List.map_set] at hb
        simp [go_sem, Wk_eq, List.map_set]
        exact hb 1
     ·rw [List.drop_eq_nil_of_le (by omega), dedupGo, List.append_nil] at j6
      have hDl : D.length = k := by rw [j6, List.length_take]; omega
      have hd0 : List.drop (k + (l.length - k)) (R.map encPos) = [] := List.drop_eq_nil_of_le (by simp; omega)
      have hDm : D.map encPos = List.take k (R.map encPos) := by rw [j6, List.map_take]
      (repeat (first|with_reducible (first|refine wL fun _=>?_|refine wD fun _=>?_|refine wE ?_|refine wZ ?_)|simp [go_sem]))
      simp [go_sem, Wk_eq, hd0, hDl, hDm, zeroQ]
      exact fun x hx => of_eq_true (bel_P (n := 1) (l := R)) x (List.mem_of_mem_take hx)
    ·refine ⟨Nat.le_refl _, by simp only; omega, rfl, by simp only; omega, rfl, ?_⟩
     simp only
     rw [Nat.add_sub_cancel, he]
     exact i3
    ·simp [go_sem, Wk_eq]
    ·simp
   ·rw [if_neg he] at i3
    (repeat (first|with_reducible (first|refine wL fun _=>?_|refine wD fun _=>?_|refine wE ?_|refine wZ ?_)|simp [go_sem, he, hj, hj', e1]))
    refine ALoop.start (hrec (d - 1) (by omega) (j + 1) ⟨by omega, by omega, ?_⟩) ?_ (by simp)
    ·rw [i3, Nat.add_sub_cancel, List.take_add_one, List.getElem?_eq_getElem hj, nth_eq _ _ hj, Option.toList_some, List.append_assoc]; rfl
    ·simp [go_sem, Wk_eq]
  ·rw [List.drop_eq_nil_of_le hj, List.take_of_length_le hj, dedupGo, List.append_nil] at i3
   rw [i3]
   (repeat (first|with_reducible (first|refine wL fun _=>?_|refine wD fun _=>?_|refine wE ?_|refine wZ ?_)|simp [go_sem]))
   simp [go_sem, Wk_eq]
 ·refine ⟨Nat.le_refl _, by omega, ?_⟩
  cases l with
  | nil => simp at h2
  | cons a l => rw [hD]; rfl
 ·simp [go_sem, Wk_eq]
 ·simp
theorem bel_map_pos {n : Nat} (l : List PosD) : ∀ r ∈ l.map encPos, ∀ c ∈ r, Bel n c := of_eq_true bel_P
theorem compactP_call (l : List PosD) (gn : Nat) (hl : l.length ≤ 17179869184) (hf : ∀ o ∈ l, FitsP o) {h : Heap} {n o : Nat} (ho : h o = some (.rows true gn 5 (l.map encPos))) (hon : o < n) {K : CallK}
  (hK : K (.sl o gn 5 0 (dedup l).length) (upd h o (some (.rows true gn 5 ((dedup l).map encPos ++ List.replicate (l.length - (dedup l).length) zeroQ)))) n) :
  ACallP Tryz.prog 140 [.sl o gn 5 0 l.length, .fn (.func 141) [] []] h n K := by
 have hz : ∀ m, ∀ r ∈ (dedup l).map encPos ++ List.replicate (l.length - (dedup l).length) zeroQ, ∀ c ∈ r, Bel m c := by
  intro m r hr c hc
  rcases List.mem_append.1 hr with hr | hr
  ·exact bel_map_pos _ r hr c hc
  ·rw [List.eq_of_mem_replicate hr] at hc
   simp only [zeroQ, List.mem_cons, List.not_mem_nil, or_false] at hc
   rcases hc with rfl | rfl | rfl | rfl | rfl <;> exact .v _
 refine ACallP.ownsA (args' := [.sl o gn 5 0 l.length, .fn (.func 141) [] []]) (HH := [(o, .rows true gn 5 ((dedup l).map encPos ++ List.replicate (l.length - (dedup l).length) zeroQ))])
  [o] h (CompactP_owns l gn hl hf) (by simp) (by simpa using hon) rfl (Nat.le_refl _) (.refl _) ?_ ?_ (.refl _ _ _ _) ?_ ?_ ?_ (.sl rfl) ?_ ?_
 ·intro j hj
  obtain rfl : j = 0 := by omega
  exact ⟨_, _, rfl, ho, .rows (.same (bel_map_pos _))⟩
 ·intro p hp
  simp only [List.mem_singleton] at hp
  subst hp
  exact ⟨Nat.le_of_ble_eq_true rfl, bel_map_pos _⟩
 ·intro y hy
  simp only [List.mem_cons, List.not_mem_nil, or_false] at hy
  rcases hy with rfl | rfl
  ·exact .sl hon
  ·simp [go_sem]
 ·exact .cons (.sl rfl) (.cons (.same (by simp [go_sem])) .nil)
 ·intro y hy
  simp only [List.mem_cons, List.not_mem_nil, or_false] at hy
  rcases hy with rfl | rfl
  ·exact .sl (by decide)
  ·simp [go_sem]
 ·exact .cons rfl (.rows (.same (hz 0))) .nil
 ·have e : over [(o, .rows true gn 5 ((dedup l).map encPos ++ List.replicate (l.length - (dedup l).length) zeroQ))] (remH [o] h) = upd h o (some (.rows true gn 5 ((dedup l).map encPos ++ List.replicate (l.length - (dedup l).length) zeroQ))) := by
   funext j
   simp only [over, remH, upd]
   by_cases j1 : j = o
   ·simp [j1]
   ·simp [j1]
  rw [e, Nat.sub_self, Nat.add_zero]
  exact hK
theorem compactP_call2 (l : List PosD) (gn m : Nat) (hm : l.length = m) (hl : m ≤ 17179869184) (hf : ∀ o ∈ l, FitsP o) {h : Heap} {n o : Nat} (ho : h o = some (.rows true gn 5 (l.map encPos))) (hon : o < n) {K : CallK}
  (hK : K (.sl o gn 5 0 (dedup l).length) (upd h o (some (.rows true gn 5 ((dedup l).map encPos ++ List.replicate (l.length - (dedup l).length) zeroQ)))) n) :
  ACallP Tryz.prog 140 [.sl o gn 5 0 m, .fn (.func 141) [] []] h n K := by
 subst hm
 exact compactP_call l gn hl hf ho hon hK
theorem swo_pos : Go.Sort.SWO (fun a b : PosD => decide (cmpP a b < 0)) := by
 refine ⟨fun x => ?_, fun x y z h1 h2 => ?_, fun x y z h1 h2 => ?_⟩
 ·have := cmp_pos.swap x x
  simp; omega
 ·simp only [decide_eq_true_eq] at h1 h2 ⊢
  have t := cmp_pos.tr x y z (by omega) (by omega)
  rcases Int.lt_or_eq_of_le t with h | h
  ·exact h
  ·have e := (cmp_pos.eq _ _).1 h
   subst e
   have := cmp_pos.swap x y
   omega
 ·simp only [decide_eq_false_iff_not] at h1 h2 ⊢
  have s1 := cmp_pos.swap x y
  have s2 := cmp_pos.swap y z
  have s3 := cmp_pos.swap x z
  have t := cmp_pos.tr z y x (by omega) (by omega)
  omega
theorem sortP_call (l : List PosD) (hf : ∀ o ∈ l, FitsP o) (hl : l.length < 4611686018427387904) {h : Heap} {n o gn : Nat} (ho : h o = some (.rows true gn 5 (l.map encPos))) {K : CallK}
  (hK : K (.tup []) (upd h o (some (.rows true gn 5 ((sortC cmpP l).map encPos)))) n) :
  ACallP Tryz.prog 139 [.sl o gn 5 0 l.length, .fn (.func 35) [] []] h n K := by
 refine ACallP.sortFunc zsortP (k := 5) (by omega) Tryz.isAgg45 Tryz.sizeOf45 encPos (fun _ => rfl) ?_ (fun o => FitsP o) cmpP swo_pos _ (fun x y hx hy => pCompare_pure x y hx hy) ?_ l hf hl ho ?_
 ·intro x
  simp [go_sem]
 ·exact (pCompare_pure default default (by unfold FitsP Fits; decide) (by unfold FitsP Fits; decide)).1
 ·intro l' hp hs
  have : sortC cmpP l = l' := sortC_unique cmp_pos hp (hs.imp fun {a b} hab => by
   have := cmp_pos.swap a b
   simp only [leC, decide_eq_true_eq]
   omega)
  rw [← this]
  exact hK
end Go.Av
end
section
open Go Go.Proofs
set_option maxRecDepth 20000
set_option maxHeartbeats 4000000
namespace Go.Av
theorem R4Same_pure (a b : PosD) (ha : FitsP a) (hb : FitsP b) : Pure Tryz.prog 63 [.agg (encPos a), .agg (encPos b)] (.v (.bool (decide (cmpP a b = 0)))) := by
 refine pF Tryz.func63 ?_
 (repeat (first|with_reducible (first|refine wL fun _=>?_|refine wD fun _=>?_|refine wE ?_|refine wZ ?_)|simp [go_sem]))
 refine ACallP.plain (Compare_pure a b ha hb) (by simp [go_sem]) ?_
 (repeat (first|with_reducible (first|refine wL fun _=>?_|refine wD fun _=>?_|refine wE ?_|refine wZ ?_)|simp [go_sem]))
attribute [go_sem ↓] bel_P bel_I List.forall_mem_append
theorem bel1 {x : AV} (h : Bel 0 x) : ∀ c ∈ [x], Bel 0 c := by simpa using h
theorem bel_encPs {n : Nat} (l : List PosD) : Bel n (encPs l) := of_eq_true bel_Ps
theorem half_pure : ∀ (f : Nat) (l : List PosD), l.length ≤ f + 1 → l.length ≤ 68719476736 → (∀ p ∈ l, FitsP p) → Pure Tryz.prog 145 [encPs l] (encPs (sortC cmpP l)) := by
 intro f
 induction f with
 | zero =>
  intro l h1 h2 h3
  rw [sortC_short (by omega)]
  refine pF Tryz.func145 ?_
  (repeat (first|with_reducible (first|refine wL fun _=>?_|refine wD fun _=>?_|refine wE ?_|refine wZ ?_)|simp [go_sem]))
  (refine aIf.mkL (fun hT => ?_) (fun hT => by first | omega | (simp at hT; omega)); clear hT)
  (repeat (first|with_reducible (first|refine wL fun _=>?_|refine wD fun _=>?_|refine wE ?_|refine wZ ?_)|simp [go_sem]))
 | succ f ih =>
  intro l h1 h2 h3
  by_cases hs : l.length < 2
  ·rw [sortC_short hs]
   refine pF Tryz.func145 ?_
   (repeat (first|with_reducible (first|refine wL fun _=>?_|refine wD fun _=>?_|refine wE ?_|refine wZ ?_)|simp [go_sem]))
   (refine aIf.mkL (fun hT => ?_) (fun hT => by first | omega | (simp at hT; omega)); clear hT)
   (repeat (first|with_reducible (first|refine wL fun _=>?_|refine wD fun _=>?_|refine wE ?_|refine wZ ?_)|simp [go_sem]))
  ·have hm := sortC_merge cmp_pos (l.take (l.length / 2)) (l.drop (l.length / 2))
   rw [List.take_append_drop] at hm
   have hA := ih (l.take (l.length / 2)) (by simp; omega) (by simp; omega) (fun p hp => h3 p (List.mem_of_mem_take hp))
   have hB := ih (l.drop (l.length / 2)) (by simp; omega) (by simp; omega) (fun p hp => h3 p (List.mem_of_mem_drop hp))
   have fA : ∀ p ∈ sortC cmpP (l.take (l.length / 2)), FitsP p := fun p hp => h3 p (List.mem_of_mem_take (sortC_mem.1 hp))
   have fB : ∀ p ∈ sortC cmpP (l.drop (l.length / 2)), FitsP p := fun p hp => h3 p (List.mem_of_mem_drop (sortC_mem.1 hp))
   have lA : (sortC cmpP (l.take (l.length / 2))).length = l.length / 2 := by rw [sortC_len]; simp; omega
   have lB : (sortC cmpP (l.drop (l.length / 2))).length = l.length - l.length / 2 := by rw [sortC_len]; simp
   rw [← hm]
   generalize sortC cmpP (l.take (l.length / 2)) = xs at *
   generalize sortC cmpP (l.drop (l.length / 2)) = ys at *
   have hq : ((l.length : Int) / 2).toNat = l.length / 2 := by omega
   have eA : AV.lst 5 (List.take (l.length / 2) (l.map encPos)) = encPs (l.take (l.length / 2)) := by simp [encPs, List.map_take]
   have eB : AV.lst 5 (List.take (l.length - l.length / 2) (List.drop (l.length / 2) (l.map encPos))) = encPs (l.drop (l.length / 2)) := by rw [List.take_of_length_le (by simp)]; simp [encPs, List.map_drop]
   generalize hR : List.merge xs ys (leC cmpP) = R
   refine pF Tryz.func145 ?_
   (repeat (first|with_reducible (first|refine wL fun _=>?_|refine wD fun _=>?_|refine wE ?_|refine wZ ?_)|simp [go_sem]))
   (refine aIf.mkL (fun hF => by first | omega | (simp at hF; omega)) (fun hF => ?_); clear hF)
   (repeat (first|with_reducible (first|refine wL fun _=>?_|refine wD fun _=>?_|refine wE ?_|refine wZ ?_)|simp [go_sem, hq]))
   rw [eA]
   refine ACallP.plain hA (bel1 (bel_encPs _)) ?_
   (repeat (first|with_reducible (first|refine wL fun _=>?_|refine wD fun _=>?_|refine wE ?_|refine wZ ?_)|simp [go_sem, hq]))
   rw [eB]
   refine ACallP.plain hB (bel1 (bel_encPs _)) ?_
   (repeat (first|with_reducible (first|refine wL fun _=>?_|refine wD fun _=>?_|refine wE ?_|refine wZ ?_)|simp [go_sem, hq]))
   refine ALoop.start (ALoop.ind (α := Nat × Nat × List PosD) (fun a => ⟨[(3, encPs xs), (4, encPs ys), (5, .sl 0 a.2.2.length 5 0 a.2.2.length), (6, .v (.int .i64 a.1)), (7, .v (.int .i64 a.2.1))], [(0, .rows true a.2.2.length 5 (a.2.2.map encPos))], 1⟩)
    (fun d a => a.1 + a.2.1 + d = xs.length + ys.length ∧ a.1 ≤ xs.length ∧ a.2.1 ≤ ys.length ∧ a.2.2.length = a.1 + a.2.1 ∧ R = a.2.2 ++ List.merge (xs.drop a.1) (ys.drop a.2.1) (leC cmpP)) ?_ (xs.length + ys.length) (0, 0, []) ?_) ?_ ?_
   ·rintro d ⟨i, k, out⟩ ⟨i1, i2, i3, i4, i5⟩ hrec
    simp only at i1 i2 i3 i4 i5
    (repeat (first|with_reducible (first|refine wL fun _=>?_|refine wD fun _=>?_|refine wE ?_|refine wZ ?_)|simp [go_sem]))
    refine aIf.mkL (fun hj => ?_) (fun hj => ?_) <;> simp at hj
    ·by_cases hk : k < ys.length
     ·by_cases hi : i < xs.length
      ·have fa := fA _ (nth_mem hi)
       have fb := fB _ (nth_mem hk)
       rw [dropG_cons hi, dropG_cons hk, List.cons_merge_cons, ← dropG_cons hi, ← dropG_cons hk] at i5
       have hk' := Nat.not_le.2 hk
       (repeat (first|with_reducible (first|refine wL fun _=>?_|refine wD fun _=>?_|refine wE ?_|refine wZ ?_)|simp [go_sem, hk, hk', hi]))
       refine dGC.plain _ (fun _ => Compare_pure _ _ fa fb) (by simp [go_sem]) ?_
       (repeat (first|with_reducible (first|refine wL fun _=>?_|refine wD fun _=>?_|refine wE ?_|refine wZ ?_)|simp [go_sem, hk, hk', hi]))
       refine aIf.mkL (fun hc => ?_) (fun hc => ?_) <;> simp at hc
       ·rw [if_pos (by simpa [leC] using hc)] at i5
        (repeat (first|with_reducible (first|refine wL fun _=>?_|refine wD fun _=>?_|refine wE ?_|refine wZ ?_)|simp [go_sem, hk, hi]))
        refine ALoop.start (hrec (d - 1) (by omega) (i + 1, k, out ++ [nth xs i]) ⟨by simp only; omega, by simp only; omega, i3, by simp; omega, by simpa using i5⟩) ?_ (by simp)
        simp [go_sem, Wk_eq]
       ·rw [if_neg (by simpa [leC] using hc)] at i5
        (repeat (first|with_reducible (first|refine wL fun _=>?_|refine wD fun _=>?_|refine wE ?_|refine wZ ?_)|simp [go_sem, hk, hi]))
        refine ALoop.start (hrec (d - 1) (by omega) (i, k + 1, out ++ [nth ys k]) ⟨by simp only; omega, i2, by simp only; omega, by simp; omega, by simpa using i5⟩) ?_ (by simp)
        simp [go_sem, Wk_eq]
      ·rw [List.drop_eq_nil_of_le (show xs.length ≤ i by omega), List.nil_merge, dropG_cons hk] at i5
       have hk' := Nat.not_le.2 hk
       (repeat (first|with_reducible (first|refine wL fun _=>?_|refine wD fun _=>?_|refine wE ?_|refine wZ ?_)|simp [go_sem, hk, hk', hi]))
       refine dGC.skip (.v (.int .i64 0)) ?_
       (repeat (first|with_reducible (first|refine wL fun _=>?_|refine wD fun _=>?_|refine wE ?_|refine wZ ?_)|simp [go_sem, hk, hk', hi]))
       refine ALoop.start (hrec (d - 1) (by omega) (i, k + 1, out ++ [nth ys k]) ⟨by simp only; omega, i2, by simp only; omega, by simp; omega, by simp [List.drop_eq_nil_of_le (show xs.length ≤ i by omega), i5]⟩) ?_ (by simp)
       simp [go_sem, Wk_eq]
     ·have hi : i < xs.length := by omega
      rw [List.drop_eq_nil_of_le (show ys.length ≤ k by omega), List.merge_right, dropG_cons hi] at i5
      have hk' := Nat.not_lt.1 hk
      (repeat (first|with_reducible (first|refine wL fun _=>?_|refine wD fun _=>?_|refine wE ?_|refine wZ ?_)|simp [go_sem, hk, hk', hi]))
      refine dGC.skip (.v (.int .i64 0)) ?_
      (repeat (first|with_reducible (first|refine wL fun _=>?_|refine wD fun _=>?_|refine wE ?_|refine wZ ?_)|simp [go_sem, hk, hk', hi]))
      refine ALoop.start (hrec (d - 1) (by omega) (i + 1, k, out ++ [nth xs i]) ⟨by simp only; omega, by simp only; omega, i3, by simp; omega, by simp [List.drop_eq_nil_of_le (show ys.length ≤ k by omega), i5]⟩) ?_ (by simp)
      simp [go_sem, Wk_eq]
    ·rw [List.drop_eq_nil_of_le (show xs.length ≤ i by omega), List.drop_eq_nil_of_le (show ys.length ≤ k by omega)] at i5
     (repeat (first|with_reducible (first|refine wL fun _=>?_|refine wD fun _=>?_|refine wE ?_|refine wZ ?_)|simp [go_sem]))
     rw [i5]
     (refine leV_frz rfl (by simp) (by simp [noH, upd]) ?_; first | (simp [go_sem]; done) | (simp [go_sem]; exact List.take_of_length_le (by simp)))
   ·simp [hR]
   ·simp [go_sem, Wk_eq]
   ·simp
end Go.Av
end
section
open Go Go.Proofs
set_option maxRecDepth 20000
set_option maxHeartbeats 4000000
namespace Go.Av
def ddAt (all : List PosD) (i : Nat) : List PosD := if i = 0 then dedup all else dedupGo (nth all (i - 1)) (all.drop i)
theorem ddAt_zero (all : List PosD) : ddAt all 0 = dedup all := rfl
theorem ddAt_end {all : List PosD} {i : Nat} (h : all.length ≤ i) : ddAt all i = [] := by
 unfold ddAt
 split
 ·cases all with
  | nil => rfl
  | cons a l => simp at h; omega
 ·rw [List.drop_eq_nil_of_le h]; rfl
theorem ddAt_keep {all : List PosD} {i : Nat} (h : i < all.length) (hk : i = 0 ∨ nth all i ≠ nth all (i - 1)) : ddAt all i = nth all i :: ddAt all (i + 1) := by
 unfold ddAt
 rw [if_neg (show ¬ i + 1 = 0 by omega), Nat.add_sub_cancel]
 split
 ·rename_i h0
  subst h0
  cases all with
  | nil => simp at h
  | cons a l => rfl
 ·rw [dropG_cons h, dedupGo, if_neg (by rcases hk with h | h; omega; exact h)]
theorem ddAt_skip {all : List PosD} {i : Nat} (h : i < all.length) (hi : i ≠ 0) (hk : nth all i = nth all (i - 1)) : ddAt all i = ddAt all (i + 1) := by
 unfold ddAt
 rw [if_neg (show ¬ i + 1 = 0 by omega), Nat.add_sub_cancel, if_neg hi, dropG_cons h, dedupGo, if_pos hk, hk]
theorem R4Sort_pure (l : List PosD) (hl : l.length ≤ 68719476736) (hf : ∀ p ∈ l, FitsP p) : Pure Tryz.prog 75 [encPs l] (encPs (sortU cmpP l)) := by
 have hH := half_pure l.length l (by omega) hl hf
 unfold sortU
 have fA : ∀ p ∈ sortC cmpP l, FitsP p := fun p hp => hf p (sortC_mem.1 hp)
 have lA : (sortC cmpP l).length = l.length := sortC_len l
 generalize sortC cmpP l = all at *
 generalize hR : dedup all = R
 refine pF Tryz.func75 ?_
 (repeat (first|with_reducible (first|refine wL fun _=>?_|refine wD fun _=>?_|refine wE ?_|refine wZ ?_)|simp [go_sem]))
 refine ACallP.plain hH (bel1 (bel_encPs _)) ?_
 (repeat (first|with_reducible (first|refine wL fun _=>?_|refine wD fun _=>?_|refine wE ?_|refine wZ ?_)|simp [go_sem]))
 refine ALoop.start (ALoop.ind (α := Nat × List PosD) (fun a => ⟨[(3, encPs all), (4, .sl 0 a.2.length 5 0 a.2.length), (5, .v (.int .i64 a.1))], [(0, .rows true a.2.length 5 (a.2.map encPos))], 1⟩)
  (fun d a => a.1 + d = all.length ∧ a.2.length ≤ a.1 ∧ R = a.2 ++ ddAt all a.1) ?_ all.length (0, []) ?_) ?_ ?_
 ·rintro d ⟨i, out⟩ ⟨i1, i2, i3⟩ hrec
  simp only at i1 i2 i3
  (repeat (first|with_reducible (first|refine wL fun _=>?_|refine wD fun _=>?_|refine wE ?_|refine wZ ?_)|simp [go_sem]))
  refine aIf.mkL (fun hi => ?_) (fun hi => ?_) <;> simp at hi
  ·by_cases h0 : i = 0
   ·rw [ddAt_keep hi (.inl h0)] at i3
    subst h0
    (repeat (first|with_reducible (first|refine wL fun _=>?_|refine wD fun _=>?_|refine wE ?_|refine wZ ?_)|simp [go_sem, hi]))
    refine dGC.skip (.v (.bool true)) ?_
    (repeat (first|with_reducible (first|refine wL fun _=>?_|refine wD fun _=>?_|refine wE ?_|refine wZ ?_)|simp [go_sem, hi]))
    refine ALoop.start (hrec (d - 1) (by omega) (0 + 1, out ++ [nth all 0]) ⟨by simp only; omega, by simp only [List.length_append, List.length_singleton]; omega, by simpa using i3⟩) ?_ (by simp)
    simp [go_sem, Wk_eq]
   ·have fa := fA _ (nth_mem hi)
    have hi' : i - 1 < all.length := by omega
    have e1 : ((i : Int) - 1).toNat = i - 1 := by omega
    have fb := fA _ (nth_mem hi')
    (repeat (first|with_reducible (first|refine wL fun _=>?_|refine wD fun _=>?_|refine wE ?_|refine wZ ?_)|simp [go_sem, hi, h0, e1, hi']))
    refine dGC.plain _ (fun _ => R4Same_pure _ _ fa fb) (by simp [go_sem]) ?_
    (repeat (first|with_reducible (first|refine wL fun _=>?_|refine wD fun _=>?_|refine wE ?_|refine wZ ?_)|simp [go_sem, hi, h0]))
    refine aIf.mkL (fun hc => ?_) (fun hc => ?_) <;> simp at hc
    ·rw [cmpP_eq] at hc
     rw [ddAt_keep hi (.inr hc)] at i3
     (repeat (first|with_reducible (first|refine wL fun _=>?_|refine wD fun _=>?_|refine wE ?_|refine wZ ?_)|simp [go_sem, hi]))
     refine ALoop.start (hrec (d - 1) (by omega) (i + 1, out ++ [nth all i]) ⟨by simp only; omega, by simp; omega, by simpa using i3⟩) ?_ (by simp)
     simp [go_sem, Wk_eq]
    ·rw [cmpP_eq] at hc
     rw [ddAt_skip hi h0 hc] at i3
     (repeat (first|with_reducible (first|refine wL fun _=>?_|refine wD fun _=>?_|refine wE ?_|refine wZ ?_)|simp [go_sem, hi]))
     refine ALoop.start (hrec (d - 1) (by omega) (i + 1, out) ⟨by simp only; omega, by simp only; omega, i3⟩) ?_ (by simp)
     simp [go_sem, Wk_eq]
  ·rw [ddAt_end hi] at i3
   (repeat (first|with_reducible (first|refine wL fun _=>?_|refine wD fun _=>?_|refine wE ?_|refine wZ ?_)|simp [go_sem]))
   rw [i3]
   (refine leV_frz rfl (by simp) (by simp [noH, upd]) ?_; first | (simp [go_sem]; done) | (simp [go_sem]; exact List.take_of_length_le (by simp)))
 ·simp [hR, ddAt_zero]
 ·simp [go_sem, Wk_eq]
 ·simp
end Go.Av
end
section
open Go Go.Proofs
set_option maxRecDepth 20000
set_option maxHeartbeats 4000000
namespace Go.Av
def outsF (side : Int) (l : List StD) (n : Nat) : List OutD := ((l.take n).filterMap (putS side)).foldl (fun a x => insertO x a) []
@[go_sem] theorem outsF_zero (side : Int) (l : List StD) : outsF side l 0 = [] := rfl
theorem outsF_succ (side : Int) (l : List StD) {n : Nat} (h : n < l.length) : outsF side l (n + 1) = match putS side (nth l n) with | some o => insertO o (outsF side l n) | none => outsF side l n := by
 unfold outsF
 rw [fm_take _ _ _ h, List.foldl_append]
 cases putS side (nth l n) <;> rfl
theorem insertO_le (x : OutD) : ∀ l : List OutD, (insertO x l).length ≤ l.length + 1
 | [] => by simp [insertO]
 | y :: l => by
  rw [insertO]
  split
  ·have := insertO_le x l; simp; omega
  ·split <;> simp
theorem outsF_len (side : Int) (l : List StD) : ∀ n, n ≤ l.length → (outsF side l n).length ≤ n := by
 intro n
 induction n with
 | zero => intro _; simp [outsF]
 | succ n ih =>
  intro h
  have := ih (by omega)
  rw [outsF_succ side l (by omega)]
  split
  ·rename_i o _
   have := insertO_le o (outsF side l n)
   omega
  ·omega
theorem putS_fits {g : GameD} (hg : GOk g) {s : StD} (hs : StOk g s) {side : Int} {o : OutD} (h : putS side s = some o) : FitsP o.pos := by
 have hf := hs.p.fits hg
 unfold putS at h
 split at h
 ·simp only [Option.some.injEq] at h
  subst h
  obtain ⟨a, b, c⟩ := hf
  exact ⟨by unfold Fits at *; simpa using a, b, c⟩
 ·cases h
theorem outsF_fits {g : GameD} (hg : GOk g) {side : Int} {l : List StD} (hl : ∀ s ∈ l, StOk g s) : ∀ n, n ≤ l.length → ∀ o ∈ outsF side l n, FitsP o.pos := by
 intro n
 induction n with
 | zero => intro _ o ho; simp [outsF] at ho
 | succ n ih =>
  intro h o ho
  rw [outsF_succ side l (by omega)] at ho
  cases hp : putS side (nth l n) with
  | none => rw [hp] at ho; exact ih (by omega) o ho
  | some q =>
   rw [hp] at ho
   rcases insertO_mem.1 ho with rfl | ho
   ·exact putS_fits hg (hl _ (nth_mem (by omega))) hp
   ·exact ih (by omega) o ho
theorem outsF_all (g : GameD) (p : PosD) (cell i : Int) : outsF p.side (lastS g p cell (progOf g p cell i)) (lastS g p cell (progOf g p cell i)).length = runsP g p cell i := by
 unfold outsF runsP
 rw [List.take_length, insertO_all]
theorem R5Runs_pure (g : GameD) (hg : GOk g) (p : PosD) (hp : POk g p) (cell i : Int) (hc : ChoiceOk g p cell i) :
  Pure Tryz.prog 172 [.agg (encGame g), .agg (encPos p), .v (.int .i64 cell), .v (.int .i64 i)] (.tup [encOs (runsP g p cell i), .v (.int .i64 0)]) := by
 refine pF Tryz.func172 ?_
 have hRun := R5Run_pure g hg p hp cell i hc
 have hal := hp.al
 have hat := hp.at (i := cell.toNat) (by have := hc.c0; have := hc.c1; omega)
 have hkl : (manOf (nth p.at_ cell.toNat)).1.toNat < g.kinds.length := by
  have cm := hc.man
  rcases manOf_cases hat.1 hat.2 hg.k6 with ⟨_, e⟩ | ⟨_, a, b, _⟩
  ·rw [e] at cm; simp at cm
  ·omega
 have hil : i.toNat < (nth g.kinds (manOf (nth p.at_ cell.toNat)).1.toNat).progs.length := by have := hc.i0; have := hc.i1; omega
 have hpg := hg.pr _ (nth_mem hkl) _ (nth_mem hil)
 have hpe : progOf g p cell i = nth (nth g.kinds (manOf (nth p.at_ cell.toNat)).1.toNat).progs i.toNat := rfl
 rw [← hpe] at hpg
 have hst := stageS_ok hg hp hc.c0 hc.c1 hc.man hpg.st _ (Nat.le_refl _)
 have hlen := Nat.le_trans hst.2 (pow10_le hpg.len)
 have hstR := stR_len g p cell (progOf g p cell i) ((progOf g p cell i).length + 1)
 have hnS := nth_stR g p cell (progOf g p cell i) (n := (progOf g p cell i).length + 1) (j := (progOf g p cell i).length) (by omega)
 have hal' := outsF_all g p cell i
 rw [stageS_last] at hnS hlen hst
 have hps := hp.s
 obtain ⟨m, hm⟩ : ∃ m, m = (progOf g p cell i).length := ⟨_, rfl⟩
 have hm8 := hpg.len
 rw [← hm] at hRun hstR hnS hm8
 generalize stR g p cell (progOf g p cell i) (m + 1) = sr at *
 generalize lastS g p cell (progOf g p cell i) = last at *
 obtain ⟨R, hR⟩ : ∃ R, R = runsP g p cell i := ⟨_, rfl⟩
 rw [← hR] at hal' ⊢
 (repeat (first|with_reducible (first|refine wL fun _=>?_|refine wD fun _=>?_|refine wE ?_|refine wZ ?_)|simp [go_sem]))
 refine ACallP.plain hRun (by simp [go_sem]) ?_
 (repeat (first|with_reducible (first|refine wL fun _=>?_|refine wD fun _=>?_|refine wE ?_|refine wZ ?_)|simp [go_sem, hstR, hnS]))
 refine ALoop.start (ALoop.ind (α := Nat) (fun k => ⟨[(5, .ref 1 0 5 0 0), (11, encOs (outsF p.side last k)), (12, encSs last), (13, .v (.int .i64 k))], [(1, .rows true 0 5 [encPos p])], 2⟩)
  (fun d k => k + d = last.length) ?_ last.length 0 ?_) ?_ ?_
 ·rintro d k k1 hrec
  (repeat (first|with_reducible (first|refine wL fun _=>?_|refine wD fun _=>?_|refine wE ?_|refine wZ ?_)|simp [go_sem]))
  refine aIf.mkL (fun hk => ?_) (fun hk => ?_) <;> simp at hk
  ·have hsk := hst.1 _ (nth_mem hk)
   have hsu := outsF_succ p.side last hk
   have hol := outsF_len p.side last k (by omega)
   have hof := outsF_fits hg (fun s hs => (hst.1 s hs).1) (side := p.side) k (by omega)
   have hpf := fun o => putS_fits hg hsk.1 (side := p.side) (o := o)
   have hps' : putS p.side (nth last k) = if nth (nth last k).p.at_ (nth last k).cursor.toNat = 0 then some ⟨{ (nth last k).p with at_ := (nth last k).p.at_.set (nth last k).cursor.toNat (codeOf (nth last k).kind p.side), side := 1 - p.side }, (nth last k).took⟩ else none := rfl
   have hcp := copied_owns (nth last k).p (hsk.1.p.fits hg)
   have hal2 := hsk.1.p.al
   have hc0 := hsk.1.c0
   have hc1 := hsk.1.c1
   have hcc := R3Code_pure (nth last k).kind p.side
   have hcur : (nth last k).cursor.toNat < (nth last k).p.at_.length := by omega
   by_cases hz : nth (nth last k).p.at_ (nth last k).cursor.toNat = 0
   ·rw [if_pos hz] at hps'
    simp only [hps'] at hsu
    have hfo := hpf _ hps'
    have hIns := R5Insert_pure (outsF p.side last k) _ (by omega) hof hfo
    (repeat (first|with_reducible (first|refine wL fun _=>?_|refine wD fun _=>?_|refine wE ?_|refine wZ ?_)|simp [go_sem, hk, hcur, hz]))
    refine ACallP.ownsPlain hcp (by simp [go_sem]) ?_
    (repeat (first|with_reducible (first|refine wL fun _=>?_|refine wD fun _=>?_|refine wE ?_|refine wZ ?_)|simp [go_sem, hcur]))
    refine dCall.plain hcc (by simp [go_sem]) ?_
    (repeat (first|with_reducible (first|refine wL fun _=>?_|refine wD fun _=>?_|refine wE ?_|refine wZ ?_)|simp [go_sem, hcur]))
    refine ACallP.pureF [5, 6, 11] hIns ?_ (by simp [go_sem]) ?_
    ·((try simp only [encOut, encState, encPos, encOs, encSs, encPs, encIs, List.nil_append, List.append_nil, List.cons_append]); (repeat (first | (with_reducible exact LeRow.nil) | (with_reducible refine LeRow.cons ?_ ?_) | (with_reducible exact LeV.refl _) | (with_reducible refine LeV.agg ?_) | ((refine leV_frz rfl (by simp) (by simp [frzO, frz1, upd, noH]) ?_); (first | (simp [go_sem]; done) | (simp [go_sem]; exact List.take_of_length_le (by simp)))))))
    ·rw [← hsu]
     (repeat (first|with_reducible (first|refine wL fun _=>?_|refine wD fun _=>?_|refine wE ?_|refine wZ ?_)|simp [go_sem]))
     refine ALoop.start (hrec (d - 1) (by omega) (k + 1) (by omega)) ?_ (by simp)
     simp [go_sem, Wk_eq, frzO, frz1, upd]
   ·rw [if_neg hz] at hps'
    simp only [hps'] at hsu
    (repeat (first|with_reducible (first|refine wL fun _=>?_|refine wD fun _=>?_|refine wE ?_|refine wZ ?_)|simp [go_sem, hk, hcur, hz]))
    refine ALoop.start (hrec (d - 1) (by omega) (k + 1) (by omega)) ?_ (by simp)
    simp [go_sem, Wk_eq, hsu]
  ·have hkl : k = last.length := by omega
   subst hkl
   rw [hal']
   (repeat (first|with_reducible (first|refine wL fun _=>?_|refine wD fun _=>?_|refine wE ?_|refine wZ ?_)|simp [go_sem]))
 ·omega
 ·simp [go_sem, Wk_eq]
  (refine leV_frz rfl (by simp) (by simp [noH, upd]) ?_; first | (simp [go_sem]; done) | (simp [go_sem]; exact List.take_of_length_le (by simp)))
 ·simp
end Go.Av
end
section
open Go Go.Proofs
set_option maxRecDepth 20000
set_option maxHeartbeats 4000000
namespace Go.Av
def dropsK (g : GameD) (p : PosD) (k : Nat) : List PosD := (List.range k).flatMap fun k => (List.range p.at_.length).filterMap fun c => dropP g p k c
def dropsC (g : GameD) (p : PosD) (k c : Nat) : List PosD := dropsK g p k ++ (List.range c).filterMap fun c => dropP g p k c
theorem dropsC_all (g : GameD) (p : PosD) (k : Nat) : dropsC g p k p.at_.length = dropsK g p (k + 1) := by simp [dropsC, dropsK, List.range_succ, List.flatMap_append]
theorem dropsC_zero (g : GameD) (p : PosD) (k : Nat) : dropsC g p k 0 = dropsK g p k := by simp [dropsC]
theorem dropsC_succ (g : GameD) (p : PosD) (k c : Nat) : dropsC g p k (c + 1) = dropsC g p k c ++ (dropP g p k c).toList := by
 simp only [dropsC, List.range_succ, List.filterMap_append, List.append_assoc]
 cases h : dropP g p k c <;> simp [h]
theorem dropsK_all (g : GameD) (p : PosD) : dropsK g p g.kinds.length = dropsL g p := rfl
theorem flatMap_range_len {α : Type} (f : Nat → List α) (m : Nat) (hf : ∀ k, (f k).length ≤ m) : ∀ n, ((List.range n).flatMap f).length ≤ n * m
 | 0 => by simp
 | n + 1 => by
  have := flatMap_range_len f m hf n
  have := hf n
  simp only [List.range_succ, List.flatMap_append, List.length_append, List.flatMap_cons, List.flatMap_nil, List.append_nil, Nat.add_mul, Nat.one_mul]
  omega
theorem dropsK_len (g : GameD) (p : PosD) (k : Nat) : (dropsK g p k).length ≤ k * p.at_.length :=
 flatMap_range_len _ _ (fun k => Nat.le_trans (List.length_filterMap_le _ _) (by simp)) k
theorem dropsC_len (g : GameD) (p : PosD) (k c : Nat) : (dropsC g p k c).length ≤ k * p.at_.length + c := by
 have h1 := dropsK_len g p k
 have h2 : ((List.range c).filterMap fun c => dropP g p k c).length ≤ c := Nat.le_trans (List.length_filterMap_le _ _) (by simp)
 simp only [dropsC, List.length_append]
 omega
theorem dropP_ok {g : GameD} (hg : GOk g) {p : PosD} (hp : POk g p) {k c : Nat} (hk : k < g.kinds.length) {q : PosD} (h : dropP g p k c = some q) : POk g q ∧ q.side = 1 - p.side := by
 unfold dropP at h
 split at h
 ·cases h
 ·rename_i hc
  simp only [Option.some.injEq] at h
  subst h
  have k6 := hg.k6
  have hcode : codeOf k p.side = 1 + 2 * k + p.side := codeOf_ok (K := g.kinds.length) ⟨by omega, by omega⟩ k6 hp.s
  have hs := hp.s
  have hh := hp.hand p.side
  have hl := hh.len
  have hv := hh.v k (by omega)
  refine ⟨POk.side (POk.withHand (hp.setAt c (by rw [hcode]; omega)) _ (hh.set k ?_ ?_)) (by omega), rfl⟩
  ·simp only [not_or] at hc; omega
  ·intro _; exact hv.2.2 (by simp only [not_or] at hc; omega)
theorem R5Drops_pure (g : GameD) (hg : GOk g) (p : PosD) (hp : POk g p) : Pure Tryz.prog 119 [.agg (encGame g), .agg (encPos p)] (encPs (dropsP g p)) := by
 refine pF Tryz.func119 ?_
 have hal := hp.al
 have c9 := hg.c9
 have k6 := hg.k6
 have hcp := copied_owns p (hp.fits hg)
 obtain ⟨gk, hgk⟩ : ∃ gk, gk = g.kinds.length := ⟨_, rfl⟩
 have hl0 := hp.h0.len
 have hl1 := hp.h1.len
 (repeat (first|with_reducible (first|refine wL fun _=>?_|refine wD fun _=>?_|refine wE ?_|refine wZ ?_)|simp [go_sem]))
 refine ALoop.start (ALoop.ind (α := Nat) (fun k => ⟨[(2, .ref 0 0 9 0 0), (3, .ref 1 0 5 0 0), (5, .sl 2 (dropsK g p k).length 5 0 (dropsK g p k).length), (6, .v (.int .i64 k))], [(0, .rows true 0 9 [encGame g]), (1, .rows true 0 5 [encPos p]), (2, .rows true (dropsK g p k).length 5 ((dropsK g p k).map encPos))], 3⟩)
  (fun d k => k + d = g.kinds.length) ?_ g.kinds.length 0 ?_) ?_ ?_
 ·rintro d k k1 hrec
  (repeat (first|with_reducible (first|refine wL fun _=>?_|refine wD fun _=>?_|refine wE ?_|refine wZ ?_)|simp [go_sem]))
  refine aIf.mkL (fun hk => ?_) (fun hk => ?_) <;> simp at hk
  ·have hz := dropsC_zero g p k
   have ha := dropsC_all g p k
   (repeat (first|with_reducible (first|refine wL fun _=>?_|refine wD fun _=>?_|refine wE ?_|refine wZ ?_)|simp [go_sem]))
   refine ALoop.start (ALoop.ind (α := Nat) (fun c => ⟨[(2, .ref 0 0 9 0 0), (3, .ref 1 0 5 0 0), (5, .sl 2 (dropsC g p k c).length 5 0 (dropsC g p k c).length), (6, .v (.int .i64 k)), (7, .v (.int .i64 c))], [(0, .rows true 0 9 [encGame g]), (1, .rows true 0 5 [encPos p]), (2, .rows true (dropsC g p k c).length 5 ((dropsC g p k c).map encPos))], 3⟩)
    (fun d c => c + d = p.at_.length) ?_ p.at_.length 0 ?_) ?_ ?_
   ·rintro d2 c c1 hrec2
    (repeat (first|with_reducible (first|refine wL fun _=>?_|refine wD fun _=>?_|refine wE ?_|refine wZ ?_)|simp [go_sem]))
    refine aIf.mkL (fun hci => ?_) (fun hci => ?_) <;> simp at hci
    ·have hD : dropP g p k c = if nth (p.hand p.side) k = 0 ∨ nth p.at_ c ≠ 0 then none
      else some { ({ p with at_ := p.at_.set c (codeOf k p.side) }.withHand p.side ((p.hand p.side).set k (nth (p.hand p.side) k - 1))) with side := 1 - p.side } := rfl
     rcases hp.s with hsd | hsd
     ·have hsn : p.side.toNat = 0 := by omega
      have hkh : k < p.h0.length := by omega
      have hhv := hp.h0.v k hkh
      have hD' : dropP g p k c = if nth p.h0 k = 0 ∨ nth p.at_ c ≠ 0 then none else some { p with at_ := p.at_.set c (codeOf k p.side), h0 := p.h0.set k (nth p.h0 k - 1), side := 1 - p.side } := by
       rw [hD]; simp [PosD.hand, PosD.withHand, hsd]
      (repeat (first|with_reducible (first|refine wL fun _=>?_|refine wD fun _=>?_|refine wE ?_|refine wZ ?_)|simp [go_sem, hsn, hkh, hci]))
      refine aIf.mkL (fun hcc => ?_) (fun hcc => ?_) <;> simp at hcc
      ·rw [if_pos (by omega)] at hD'
       have hsu := dropsC_succ g p k c
       rw [hD'] at hsu
       simp only [Option.toList_none, List.append_nil] at hsu
       (repeat (first|with_reducible (first|refine wL fun _=>?_|refine wD fun _=>?_|refine wE ?_|refine wZ ?_)|simp [go_sem]))
       refine ALoop.start (hrec2 (d2 - 1) (by omega) (c + 1) (by omega)) ?_ (by simp)
       simp [go_sem, Wk_eq, hsu]
      ·rw [if_neg (by omega)] at hD'
       have hsu := dropsC_succ g p k c
       rw [hD'] at hsu
       simp only [Option.toList_some] at hsu
       have hcl := dropsC_len g p k c
       have hkm : k * p.at_.length ≤ 6 * 9 := Nat.mul_le_mul (by omega) (by omega)
       (repeat (first|with_reducible (first|refine wL fun _=>?_|refine wD fun _=>?_|refine wE ?_|refine wZ ?_)|simp [go_sem, hci]))
       refine ACallP.ownsPlain hcp (by simp [go_sem]) ?_
       (repeat (first|with_reducible (first|refine wL fun _=>?_|refine wD fun _=>?_|refine wE ?_|refine wZ ?_)|simp [go_sem, hci]))
       refine dCall.plain (R3Code_pure (k : Int) p.side) (by simp [go_sem]) ?_
       (repeat (first|with_reducible (first|refine wL fun _=>?_|refine wD fun _=>?_|refine wE ?_|refine wZ ?_)|simp [go_sem, hsn, hci, hkh]))
       refine ALoop.start (hrec2 (d2 - 1) (by omega) (c + 1) (by omega)) ?_ (by simp)
       simp [go_sem, Wk_eq, hsu]
       ((refine leRows_append (.refl _) ?_); (repeat (first | (with_reducible exact LeRows.nil) | (with_reducible refine LeRows.cons ?_ ?_) | (with_reducible exact LeRow.nil) | (with_reducible refine LeRow.cons ?_ ?_) | (with_reducible exact LeV.refl _) | (refine leV_frz rfl (by simp) (by simp [noH, upd]) ?_; first | (simp [go_sem]; done) | (simp [go_sem]; exact List.take_of_length_le (by simp))))))
     ·have hsn : p.side.toNat = 1 := by omega
      have hkh : k < p.h1.length := by omega
      have hhv := hp.h1.v k hkh
      have hD' : dropP g p k c = if nth p.h1 k = 0 ∨ nth p.at_ c ≠ 0 then none else some { p with at_ := p.at_.set c (codeOf k p.side), h1 := p.h1.set k (nth p.h1 k - 1), side := 1 - p.side } := by
       rw [hD]; simp [PosD.hand, PosD.withHand, hsd]
      (repeat (first|with_reducible (first|refine wL fun _=>?_|refine wD fun _=>?_|refine wE ?_|refine wZ ?_)|simp [go_sem, hsn, hkh, hci]))
      refine aIf.mkL (fun hcc => ?_) (fun hcc => ?_) <;> simp at hcc
      ·rw [if_pos (by omega)] at hD'
       have hsu := dropsC_succ g p k c
       rw [hD'] at hsu
       simp only [Option.toList_none, List.append_nil] at hsu
       (repeat (first|with_reducible (first|refine wL fun _=>?_|refine wD fun _=>?_|refine wE ?_|refine wZ ?_)|simp [go_sem]))
       refine ALoop.start (hrec2 (d2 - 1) (by omega) (c + 1) (by omega)) ?_ (by simp)
       simp [go_sem, Wk_eq, hsu]
      ·rw [if_neg (by omega)] at hD'
       have hsu := dropsC_succ g p k c
       rw [hD'] at hsu
       simp only [Option.toList_some] at hsu
       have hcl := dropsC_len g p k c
       have hkm : k * p.at_.length ≤ 6 * 9 := Nat.mul_le_mul (by omega) (by omega)
       (repeat (first|with_reducible (first|refine wL fun _=>?_|refine wD fun _=>?_|refine wE ?_|refine wZ ?_)|simp [go_sem, hci]))
       refine ACallP.ownsPlain hcp (by simp [go_sem]) ?_
       (repeat (first|with_reducible (first|refine wL fun _=>?_|refine wD fun _=>?_|refine wE ?_|refine wZ ?_)|simp [go_sem, hci]))
       refine dCall.plain (R3Code_pure (k : Int) p.side) (by simp [go_sem]) ?_
       (repeat (first|with_reducible (first|refine wL fun _=>?_|refine wD fun _=>?_|refine wE ?_|refine wZ ?_)|simp [go_sem, hsn, hci, hkh]))
       refine ALoop.start (hrec2 (d2 - 1) (by omega) (c + 1) (by omega)) ?_ (by simp)
       simp [go_sem, Wk_eq, hsu]
       ((refine leRows_append (.refl _) ?_); (repeat (first | (with_reducible exact LeRows.nil) | (with_reducible refine LeRows.cons ?_ ?_) | (with_reducible exact LeRow.nil) | (with_reducible refine LeRow.cons ?_ ?_) | (with_reducible exact LeV.refl _) | (refine leV_frz rfl (by simp) (by simp [noH, upd]) ?_; first | (simp [go_sem]; done) | (simp [go_sem]; exact List.take_of_length_le (by simp))))))
    ·have hcl : c = p.at_.length := by omega
     subst hcl
     rw [ha]
     (repeat (first|with_reducible (first|refine wL fun _=>?_|refine wD fun _=>?_|refine wE ?_|refine wZ ?_)|simp [go_sem]))
     refine ALoop.start (hrec (d - 1) (by omega) (k + 1) (by omega)) ?_ (by simp)
     simp [go_sem, Wk_eq]
   ·omega
   ·simp [go_sem, Wk_eq, hz]
   ·simp
  ·have hkl : k = g.kinds.length := by omega
   subst hkl
   have hdl := dropsK_len g p g.kinds.length
   have hkm : g.kinds.length * p.at_.length ≤ 6 * 9 := Nat.mul_le_mul k6 (by omega)
   have hS := R4Sort_pure (dropsK g p g.kinds.length) (by omega) (fun q hq => by
    rw [dropsK_all] at hq
    obtain ⟨k, hk, hq⟩ := List.mem_flatMap.1 hq
    obtain ⟨c, hc, hq⟩ := List.mem_filterMap.1 hq
    exact (dropP_ok hg hp (by simpa using hk) hq).1.fits hg)
   rw [show sortU cmpP (dropsK g p g.kinds.length) = dropsP g p from rfl] at hS
   generalize dropsK g p g.kinds.length = l at *
   generalize dropsP g p = r at *
   (repeat (first|with_reducible (first|refine wL fun _=>?_|refine wD fun _=>?_|refine wE ?_|refine wZ ?_)|simp [go_sem]))
   refine ACallP.pureF [2] hS ?_ (bel1 (bel_encPs _)) ?_
   ·((try simp only [encOut, encState, encPos, encOs, encSs, encPs, encIs, List.nil_append, List.append_nil, List.cons_append]); (repeat (first | (with_reducible exact LeRow.nil) | (with_reducible refine LeRow.cons ?_ ?_) | (with_reducible exact LeV.refl _) | (with_reducible refine LeV.agg ?_) | ((refine leV_frz rfl (by simp) (by simp [frzO, frz1, upd, noH]) ?_); (first | (simp [go_sem]; done) | (simp [go_sem]; exact List.take_of_length_le (by simp)))))))
   ·(repeat (first|with_reducible (first|refine wL fun _=>?_|refine wD fun _=>?_|refine wE ?_|refine wZ ?_)|simp [go_sem]))
 ·omega
 ·simp [go_sem, Wk_eq, show dropsK g p 0 = [] from rfl]
 ·simp
end Go.Av
end
