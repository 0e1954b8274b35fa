/- Texts of ours, part 10: our library and contracts of functions. -/
import Derived.Test.YtedhfmmlhfmomaaGreatDoorB09
import Derived.Shelf.SlSortCmp.NoneTotal
import Derived.Test.YtedhfmmlhfmomaaGreatDoorProg
set_option linter.unusedSimpArgs false
set_option linter.unusedVariables false
set_option maxRecDepth 100000
set_option maxHeartbeats 40000000
section
namespace Go.Av
open Go Go.Sort Go.Shelf Go.Proofs
structure El (w : World) (M : Nat → Prop) {α : Type} (en : α → List AV) (Q : α → Prop) where
 x : α
 vs : List Value
 q : Q x
 rel : zaH noP w M (en x) vs
 cells : ∀ v ∈ vs, zbZ v = true
theorem ztq {w : World} {M : Nat → Prop} {α : Type} {en : α → List AV} {Q : α → Prop} : ∀ {l : List α} {W : List Value}, (∀ x ∈ l, Q x) → zaH noP w M (l.map en).flatten W → (∀ v ∈ W, zbZ v = true) →
  ∃ ls : List (El w M en Q), ls.map (·.x) = l ∧ (ls.map (·.vs)).flatten = W
 | [], W, _, h, _ => by cases h; exact ⟨[], rfl, rfl⟩
 | x :: l, W, hq, h, hc => by
  rw [List.map_cons, List.flatten_cons] at h
  obtain ⟨us, ts, rfl, h1, h2⟩ := h.split
  obtain ⟨ls, e1, e2⟩ := ztq (fun y hy => hq y (by simp [hy])) h2 (fun v hv => hc v (by simp [hv]))
  exact ⟨⟨x, us, hq x (by simp), h1, fun v hv => hc v (by simp [hv])⟩ :: ls, by simp [e1], by simp [e2]⟩
theorem zrV {k : Nat} (hk : 0 < k) : ∀ (ls : List (List Value)) (t : Nat), (∀ r ∈ ls, r.length = k) → t < ls.length * k → ls.flatten[t]? = (ls[t / k]?).bind (·[t % k]?)
 | [], t, _, h => by simp at h
 | r :: ls, t, hr, h => by
  have hl : r.length = k := hr r (by simp)
  rw [List.flatten_cons]
  by_cases ht : t < k
  ·rw [List.getElem?_append_left (by omega), Nat.div_eq_of_lt ht, Nat.mod_eq_of_lt ht]; rfl
  ·obtain ⟨s, rfl⟩ : ∃ s, t = s + k := ⟨t - k, by omega⟩
   have hs : s < ls.length * k := by simp only [List.length_cons, Nat.add_mul, Nat.one_mul] at h; omega
   rw [List.getElem?_append_right (by omega), hl, Nat.add_sub_cancel, zrV hk ls s (fun r hr' => hr r (by simp [hr'])) hs, Nat.add_div_right _ hk, Nat.add_mod_right, List.getElem?_cons_succ]
theorem ztz {β : Type} [Inhabited β] (enc : β → List Value) {k : Nat} (hk0 : 0 < k) (hk : ∀ x, (enc x).length = k) (d : Array β) : (flatK enc k d).toList = (d.toList.map enc).flatten := by
 refine List.ext_getElem? fun t => ?_
 have hr : ∀ r ∈ d.toList.map enc, r.length = k := fun r hr => by obtain ⟨x, _, rfl⟩ := List.mem_map.1 hr; exact hk x
 have hlen : ((d.toList.map enc).flatten).length = d.size * k := by
  have : ∀ ls : List (List Value), (∀ r ∈ ls, r.length = k) → ls.flatten.length = ls.length * k := by
   intro ls
   induction ls with
   | nil => intro _; simp
   | cons r ls ih => intro h; rw [List.flatten_cons, List.length_append, ih (fun r hr => h r (by simp [hr])), h r (by simp), List.length_cons, Nat.add_mul]; omega
  rw [this _ hr]; simp
 by_cases ht : t < d.size * k
 ·have h1 := get_flatK enc k d t ht
  have hq : t / k < d.size := Nat.div_lt_of_lt_mul (by rw [Nat.mul_comm]; exact ht)
  have hm : t % k < k := Nat.mod_lt _ hk0
  have hs : t < (flatK enc k d).size := by rw [size_flatK]; exact ht
  rw [zrV hk0 _ t hr (by simpa using ht), Array.getElem?_toList, Array.getElem?_eq_getElem hs, ← getElem!_pos (flatK enc k d) t hs, h1, List.getElem?_map, Array.getElem?_toList, Array.getElem?_eq_getElem hq,
   getElem!_pos d (t / k) hq]
  simp only [Option.map_some, Option.bind_some]
  rw [List.getElem?_eq_getElem (by rw [hk]; exact hm), getElem!_pos _ _ (by rw [hk]; exact hm)]
 ·rw [List.getElem?_eq_none (by rw [Array.length_toList, size_flatK]; omega), List.getElem?_eq_none (by omega)]
theorem zuo {w : World} {blk off : Nat} {C : Array Value} {T : TypeId} (hb : w.heap[blk]? = some (.cells C T (0, 0))) {F : Array Value} (hF : off + F.size ≤ C.size) (n : Nat) (os : Array Obj) :
  ∃ C', (grow (putRow id (Sort.ahead w n) blk off F) os).heap[blk]? = some (.cells C' T (0, 0)) ∧ C'.size = C.size ∧ (C'.toList.drop off).take F.size = F.toList ∧
   (∀ j, j ≠ blk → j < w.heap.size → (grow (putRow id (Sort.ahead w n) blk off F) os).heap[j]? = w.heap[j]?) ∧ w.heap.size ≤ (grow (putRow id (Sort.ahead w n) blk off F) os).heap.size := by
 have hlt : blk < w.heap.size := (Array.getElem?_eq_some_iff.1 hb).1
 have hsz : (putRow id (Sort.ahead w n) blk off F).heap.size = w.heap.size := by rw [Sort.size_putRow]; rfl
 have hold : ∀ j, j < w.heap.size → (grow (putRow id (Sort.ahead w n) blk off F) os).heap[j]? = (w.heap.modify blk (onCells (putCells id off F)))[j]? := by
  intro j hj
  show (_ ++ os)[j]? = _
  rw [Array.getElem?_append_left (by rw [hsz]; exact hj)]
  rfl
 refine ⟨putCells id off F C, ?_, by simp [putCells], ?_, fun j hj hjl => ?_, ?_⟩
 ·rw [hold blk hlt, Array.getElem?_modify]
  simp [hb, onCells]
 ·refine List.ext_getElem? fun j => ?_
  by_cases hj : j < F.size
  ·rw [List.getElem?_take, if_pos hj, List.getElem?_drop, Array.getElem?_toList, Array.getElem?_toList]
   simp only [putCells, Array.getElem?_mapIdx]
   rw [Array.getElem?_eq_getElem (show off + j < C.size by omega), Array.getElem?_eq_getElem hj]
   simp only [Option.map_some]
   rw [if_pos ⟨by omega, by omega⟩, show off + j - off = j by omega, getElem!_pos F j hj]
   rfl
  ·rw [List.getElem?_eq_none (by simp; omega), List.getElem?_eq_none (by simpa using hj)]
 ·rw [hold j hjl, Array.getElem?_modify, if_neg (Ne.symm hj)]
 ·rw [size_grow, hsz]; omega
theorem zkL {w : World} {blk off : Nat} {C : Array Value} {T : TypeId} (hb : w.heap[blk]? = some (.cells C T (0, 0))) {β : Type} [Inhabited β] (enc : β → List Value) (k : Nat) (d : Array β) (hF : off + d.size * k ≤ C.size) (n : Nat) (os : Array Obj) :
  ∃ C', (sortWorldK enc k w blk off n d os).heap[blk]? = some (.cells C' T (0, 0)) ∧ C'.size = C.size ∧ (C'.toList.drop off).take (d.size * k) = (flatK enc k d).toList ∧
   (∀ j, j ≠ blk → j < w.heap.size → (sortWorldK enc k w blk off n d os).heap[j]? = w.heap[j]?) ∧ w.heap.size ≤ (sortWorldK enc k w blk off n d os).heap.size ∧
   (sortWorldK enc k w blk off n d os).os = w.os ∧ (sortWorldK enc k w blk off n d os).tape = w.tape ∧ (sortWorldK enc k w blk off n d os).output = w.output ∧ w.drawn ≤ (sortWorldK enc k w blk off n d os).drawn := by
 obtain ⟨C', h1, h2, h3, h4, h5⟩ := zuo hb (F := flatK enc k d) (by rw [size_flatK]; exact hF) n os
 unfold sortWorldK putRowK
 rw [size_flatK] at h3
 exact ⟨C', h1, h2, h3, h4, h5, rfl, rfl, rfl, Nat.le_add_right _ _⟩
theorem zzc {α β : Type} {lt : α → α → Bool} (h : SWO lt) (f : β → α) : SWO (fun a b => lt (f a) (f b)) := ⟨fun _ => h.irrefl _, fun _ _ _ => h.trans _ _ _, fun _ _ _ => h.ntrans _ _ _⟩
theorem zBC {P : Program} {ρ : Ren} (L : SlLaysF0.n6 P ρ) {α : Type} {k : Nat} (hk0 : 0 < k) (aE : ∀ w, (isAgg (ρ.t 24)).run P w = .ok true w) (zE : ∀ w, (Go.sizeOf (ρ.t 24)).run P w = .ok k w)
  (en : α → List AV) (henl : ∀ x, (en x).length = k) (henb : ∀ x, ∀ c ∈ en x, Bel 0 c) (Q : α → Prop) (cf : α → α → Int) (hO : SWO (fun a b : α => decide (cf a b < 0))) (g : FuncId)
  (hC : ∀ x y, Q x → Q y → zaJ P g [.agg (en x), .agg (en y)] (.v (.int .i64 (cf x y)))) (hg : zdO P g) (l : List α) (hQ : ∀ x ∈ l, Q x) (hl : l.length < 4611686018427387904) {h : zan} {n o gn : Nat}
  (ho : h o = some (.rows true gn k (l.map en))) {K : zco} (hK : ∀ l' : List α, l'.Perm l → l'.Pairwise (fun a b => ¬ cf b a < 0) → K (.tup []) (upd h o (some (.rows true gn k (l'.map en)))) n) :
  zaa P (ρ.f 6) [.sl o gn k 0 l.length, .fn (.func g) [] []] h n K := by
 have e6 : zdO P (ρ.f 6) := L.f6.enters rfl
 refine ⟨e6, fun M0 φ w vs hH hargs => ?_⟩
 cases hargs with
 | cons hs ht =>
 cases ht with
 | cons hf ht =>
 cases ht
 cases hf with
 | @fn _ _ _ fs cs q1 q2 =>
 cases q1; cases q2
 have hal : zcp h o gn k := by simp [zcp, ho]
 obtain ⟨A, cap, rfl, hcap, hA⟩ := hH.sl_alive hal hs
 have hnone : l = [] → Calls P (ρ.f 6) ⟨[.slice A l.length cap, .func (.func g) ⟨[]⟩ ⟨[]⟩]⟩ w fun e w' => ∃ v φ' r h' n', e = .returned v ∧ K r h' n' ∧ zgX φ' n' w' M0 h' ∧ Rel φ' w' (Or M0 (Mut φ' h')) r v ∧ zcJ φ w M0 h φ' w' h' := by
  intro he
  subst he
  refine (AnyF.slices_SortFunc_none L A cap _ w).mono ?_
  rintro e w' ⟨rfl, rfl⟩
  have := hK [] (.refl _) .nil
  rw [← ho, zd2] at this
  exact ⟨_, φ, .tup [], h, n, rfl, this, hH, .tup (vs := []) .nil, .refl _ _ _ _⟩
 by_cases he : l = []
 ·exact hnone he
 have hlp : 0 < l.length := List.length_pos_iff.2 he
 rcases hA with ⟨rfl, _, h0, _⟩ | ⟨h0, rfl, _⟩ | ⟨a, bs, hp, hsp, rfl, hcb⟩
 ·omega
 ·omega
 obtain ⟨A0, hA0, hobj⟩ := hH.obj _ _ _ _ _ ho
 rw [hp] at hA0
 simp only [Option.some.injEq, Prod.mk.injEq, true_and] at hA0
 subst hA0
 rcases hobj with ⟨hobj, _⟩ | ⟨a₁, bs₁, e1, h0, hd⟩
 ·cases hobj
 simp only [Option.some.injEq, Prod.mk.injEq] at e1
 obtain ⟨rfl, rfl⟩ := e1
 obtain ⟨C, T, hb, hCs, hr, hle, hv, hrel⟩ := hd.cells hsp
 rw [List.length_map] at hle hv hrel
 have hrel0 : zaH noP w (Or M0 (Mut φ h)) (l.map en).flatten ((C.toList.drop a.off).take (l.length * k)) := zgR (fun _ hk => hk) (fun c hc => by
  obtain ⟨r, hr, hc⟩ := List.mem_flatten.1 hc
  obtain ⟨x, _, rfl⟩ := List.mem_map.1 hr
  exact henb x c hc) hrel
 obtain ⟨ls, hlx, hlv⟩ := ztq (Q := Q) hQ hrel0 hv
 have hlen : ls.length = l.length := by rw [← hlx, List.length_map]
 obtain ⟨d, hd⟩ : ∃ d : Array (El w (Or M0 (Mut φ h)) en Q), d = ls.toArray := ⟨_, rfl⟩
 have hds : d.size = l.length := by rw [hd]; simpa using hlen
 haveI : Inhabited (El w (Or M0 (Mut φ h)) en Q) := ⟨ls[0]'(by omega)⟩
 have hkE : ∀ x : El w (Or M0 (Mut φ h)) en Q, x.vs.length = k := fun x => by rw [← x.rel.length, henl]
 have hMb : Or M0 (Mut φ h) a.block := .inr ⟨o, gn, k, _, gn, a, bs, ho, hp, rfl⟩
 have hblk : a.block < w.heap.size := (Array.getElem?_eq_some_iff.1 hb).1
 have hfl : ∀ d' : Array (El w (Or M0 (Mut φ h)) en Q), (flatK (fun x => x.vs) k d').toList = (d'.toList.map fun x => x.vs).flatten := fun d' => ztz _ hk0 hkE d'
 have hCal : Calls P (ρ.f 6) ⟨[.slice (some ⟨a.block, a.off + 0 * k, none⟩) l.length cap, .func (.func g) ⟨[]⟩ ⟨[]⟩]⟩ w fun e w' =>
   e = .returned (.tuple #[]) ∧ ∃ d' n os, PermIn 0 d.size d d' ∧ SortedIn (ltOf fun x y : El w (Or M0 (Mut φ h)) en Q => cf x.x y.x) 0 d.size d' ∧ w' = sortWorldK (fun x => x.vs) k w a.block a.off n d' os := by
  rw [Nat.zero_mul, Nat.add_zero, ← hds]
  refine AnyQ.slices_SortFunc L k aE zE (fun x : El w (Or M0 (Mut φ h)) en Q => x.vs) hkE (fun x => x.cells) (fun x y => cf x.x y.x) (zzc hO fun x : El w (Or M0 (Mut φ h)) en Q => x.x) g #[] a.block a.off cap d w hg ?_ ?_ hblk (by omega)
  ·intro m os dk hdk x y
   obtain ⟨hx1, hx2⟩ := hC x.x y.x x.q y.q
   obtain ⟨C', k1, k2, k3, k4, k5, k6, k7, k8, k9⟩ := zkL (off := a.off) hb (fun x : El w (Or M0 (Mut φ h)) en Q => x.vs) k dk (by rw [hdk, hds]; omega) m os
   generalize sortWorldK (fun x : El w (Or M0 (Mut φ h)) en Q => x.vs) k w a.block a.off m dk os = X at *
   have hkeep : ∀ z : El w (Or M0 (Mut φ h)) en Q, zaH noP X (Or M0 (Mut φ h)) (en z.x) z.vs := fun z =>
    z.rel.keep noP.le_refl (fun j hj hjl => k4 j (fun e => hj (e ▸ hMb)) hjl) (fun j hj => .inl hj)
   have hag : ∀ z : El w (Or M0 (Mut φ h)) en Q, Rel noP X (Or M0 (Mut φ h)) (.agg (en z.x)) (.agg z.vs.toArray) := fun z => .agg z.cells (hkeep z)
   refine (hx2 (Or M0 (Mut φ h)) X [.agg x.vs.toArray, .agg y.vs.toArray] (fun j hj => Nat.lt_of_lt_of_le (hH.blk hj) k5) (hH.glob.keep (fun j hj hjl => k4 j (fun e => hj (e ▸ hMb)) hjl) (fun j hj => .inl hj)) (.cons (hag x) (.cons (hag y) .nil))).mono ?_
   rintro e w' ⟨v, rfl, hrv, hfr⟩
   cases hrv
   refine ⟨rfl, w'.drawn - X.drawn, w'.heap.extract X.heap.size w'.heap.size, ?_⟩
   have hheap : X.heap ++ w'.heap.extract X.heap.size w'.heap.size = w'.heap := by
    refine Array.ext_getElem? fun j => ?_
    by_cases hj : j < X.heap.size
    ·rw [Array.getElem?_append_left hj, hfr.block j hj (fun h => h)]
    ·rw [Array.getElem?_append_right (by omega), Array.getElem?_extract]
     have := hfr.size
     split
     ·congr 1; omega
     ·rw [Array.getElem?_eq_none (by omega)]
   have hdr : X.drawn + (w'.drawn - X.drawn) = w'.drawn := by have := hfr.drawn; omega
   cases w' with
   | mk hp tp dr os' out =>
    have e1 := hfr.os; have e2 := hfr.tape; have e3 := hfr.output
    simp only at e1 e2 e3 hheap hdr
    subst e1 e2 e3
    simp only [grow, World.drewN, hheap, hdr]
  ·intro j hj
   have hjl : j < ((C.toList.drop a.off).take (l.length * k)).length := by
    rw [← hlv, ← show (d.toList.map fun x => x.vs) = ls.map (·.vs) by rw [hd], ← hfl, Array.length_toList]; exact hj
   have hget : (flatK (fun x : El w (Or M0 (Mut φ h)) en Q => x.vs) k d)[j]! = C[a.off + j]! := by
    have e1 : (flatK (fun x : El w (Or M0 (Mut φ h)) en Q => x.vs) k d).toList = (C.toList.drop a.off).take (l.length * k) := by rw [hfl, hd]; exact hlv
    have hjC : a.off + j < C.size := by simp at hjl; omega
    rw [getElem!_pos _ j hj, getElem!_pos C _ hjC, ← Array.getElem_toList, ← Array.getElem_toList (xs := C)]
    simp only [e1, List.getElem_take, List.getElem_drop]
   have hjC : a.off + j < C.size := by simp at hjl; omega
   refine ⟨?_, ?_⟩
   ·simp only [World.cell?, hb]
    rw [hget]
    simp [hjC]
   ·simp [World.frozen?, hb]
 refine hCal.mono ?_
 rintro e w' ⟨rfl, d', n', os, hperm, hsort, rfl⟩
 obtain ⟨hps, _, hpp⟩ := hperm
 obtain ⟨C', k1, k2, k3, k4, k5, k6, k7, k8, k9⟩ := zkL (off := a.off) hb (fun x : El w (Or M0 (Mut φ h)) en Q => x.vs) k d' (by rw [hps, hds]; omega) n' os
 generalize sortWorldK (fun x : El w (Or M0 (Mut φ h)) en Q => x.vs) k w a.block a.off n' d' os = X at *
 obtain ⟨l', hl'⟩ : ∃ l' : List α, l' = d'.toList.map fun x => x.x := ⟨_, rfl⟩
 have hl'l : l'.length = l.length := by rw [hl', List.length_map, Array.length_toList, hps, hds]
 have hpl : l'.Perm l := by
  have h1 : (d'.extract 0 d.size).toList = d'.toList := by rw [← hps]; simp
  have h2 : (d.extract 0 d.size).toList = d.toList := by simp
  rw [h1, h2] at hpp
  have := hpp.map fun x => x.x
  rw [hl', ← hlx]
  simpa [hd] using this
 have hpw : l'.Pairwise (fun x y => ¬ cf y x < 0) := by
  rw [hl', List.pairwise_map, List.pairwise_iff_getElem]
  intro i j hi hj hij
  have hi' : i < d'.size := by simpa using hi
  have hj' : j < d'.size := by simpa using hj
  have := hsort i j (Nat.zero_le _) hij (by omega)
  rw [getElem!_pos d' i hi', getElem!_pos d' j hj'] at this
  simpa [ltOf] using this
 have hwin : (C'.toList.drop a.off).take (l'.length * k) = (d'.toList.map fun x => x.vs).flatten := by
  rw [hps, hds, hfl] at k3
  rw [hl'l]; exact k3
 have hrel' : zaH φ w (Or M0 (Mut φ h)) (l'.map en).flatten ((C'.toList.drop a.off).take (l'.length * k)) := by
  rw [hwin, hl']
  generalize d'.toList = ds
  induction ds with
  | nil => exact .nil
  | cons z ds ih =>
   simp only [List.map_cons, List.flatten_cons]
   exact (z.rel.keep (fun o x ho => by cases ho) (fun _ _ _ => rfl) (fun k hk => .inl hk)).append ih
 have hle0 : φ.le (upd φ o (some (gn, some (a, bs)))) := by rw [← hp, zd2]; exact φ.le_refl
 have hol : ¬ n ≤ o := fun hle => by rw [hH.fresh o hle] at hp; cases hp
 obtain ⟨g1, g2, g3⟩ := hH.set (w' := X) (F' := fun o => n ≤ o) (o := o) (mt := true) (g := gn) (sz := k) (rs := l'.map en) (A := some (a, bs))
  (fun _ h => h) hol k5 hle0 (fun j hj hjl => k4 j (fun e => hj (e ▸ hMb)) hjl)
  (fun o' mt' g' sz' rs' a₁ b₁ hne ho' hp' => by
   have := hH.inj _ _ _ _ _ _ _ _ _ _ _ _ _ _ ho ho' (Ne.symm hne) (.inl rfl) hp hp'
   have hlt : a₁.block < w.heap.size := by
    obtain ⟨A1, hA1, hc1⟩ := hH.obj _ _ _ _ _ ho'
    rw [hp'] at hA1
    simp only [Option.some.injEq, Prod.mk.injEq, true_and] at hA1
    subst hA1
    rcases hc1 with ⟨hc1, _⟩ | ⟨a2, b2, e2, _, hb2⟩
    ·cases hc1
    ·simp only [Option.some.injEq, Prod.mk.injEq] at e2
     obtain ⟨rfl, rfl⟩ := e2
     exact hb2.blk
   refine ⟨k4 _ (Ne.symm this) hlt, fun a₂ b₂ e => ?_⟩
   simp only [Option.some.injEq, Prod.mk.injEq] at e
   obtain ⟨rfl, rfl⟩ := e
   exact this)
  (fun a₁ b₁ e => by
   simp only [Option.some.injEq, Prod.mk.injEq] at e
   obtain ⟨rfl, rfl⟩ := e
   exact .inl hMb)
  (.inr ⟨a, bs, C', T, rfl, hsp, h0, k1, by rw [k2]; exact hCs, fun r hr => by
    obtain ⟨x, _, rfl⟩ := List.mem_map.1 hr
    exact henl x, by rw [List.length_map, hl'l]; exact hle, fun c hm => by
    rw [List.length_map, hwin] at hm
    obtain ⟨r, hr, hm⟩ := List.mem_flatten.1 hm
    obtain ⟨z, _, rfl⟩ := List.mem_map.1 hr
    exact z.cells c hm, by rw [List.length_map]; exact hrel'⟩)
 refine ⟨_, _, .tup [], _, n, rfl, hK l' hpl hpw, g1, .tup (vs := []) .nil, ⟨hle0, g2, ⟨k6, k7, k8, k9, k5, fun j hj hu => k4 j (fun e => hu ⟨o, gn, k, _, gn, a, bs, ho, hp, e.symm⟩) hj⟩, fun j hj => ?_⟩⟩
 rcases g3 j hj with h | ⟨a₁, b₁, e, rfl⟩
 ·exact .inl h
 ·simp only [Option.some.injEq, Prod.mk.injEq] at e
  obtain ⟨rfl, rfl⟩ := e
  exact .inl ⟨o, gn, k, _, gn, a, bs, ho, hp, rfl⟩
end Go.Av
end
section
namespace Go.Proofs
open Go.Shelf
def zxv : Go.Shelf.Ren := ⟨fun | 6 => 185 | 15 => 190 | 14 => 230 | 28 => 239 | 29 => 240 | 20 => 276 | 21 => 277 | 22 => 278 | 23 => 279 | 24 => 280 | 25 => 281 | 26 => 282 | 27 => 283 | 46 => 302 | 47 => 285 | 48 => 286 | 49 => 303 | 50 => 304 | 57 => 313 | n => n, fun | 22 => 202 | 24 => 135 | 25 => 259 | 3 => 3 | 39 => 224 | 0 => 0 | 53 => 310 | 55 => 312 | 4 => 4 | 46 => 304 | 45 => 303 | 50 => 62 | 5 => 5 | 9 => 9 | 66 => 337 | 70 => 341 | 76 => 362 | 77 => 200 | n => n, fun n => n⟩
theorem zsort : Go.Proofs.SlLaysF0.n6 Tryz.prog zxv := {
 mixed := by kernel_rfl
 f6 := ⟨Tryz.f185.name, by decide, Tryz.func185.trans (congrArg some (by kernel_rfl))⟩
 f14 := ⟨Tryz.f230.name, by decide, Tryz.func230.trans (congrArg some (by kernel_rfl))⟩
 f15 := Tryz.func190.trans (congrArg some (by kernel_rfl))
 f20 := ⟨Tryz.f276.name, by decide, Tryz.func276.trans (congrArg some (by kernel_rfl))⟩
 f21 := ⟨Tryz.f277.name, by decide, Tryz.func277.trans (congrArg some (by kernel_rfl))⟩
 f22 := ⟨Tryz.f278.name, by decide, Tryz.func278.trans (congrArg some (by kernel_rfl))⟩
 f23 := ⟨Tryz.f279.name, by decide, Tryz.func279.trans (congrArg some (by kernel_rfl))⟩
 f24 := ⟨Tryz.f280.name, by decide, Tryz.func280.trans (congrArg some (by kernel_rfl))⟩
 f25 := ⟨Tryz.f281.name, by decide, Tryz.func281.trans (congrArg some (by kernel_rfl))⟩
 f26 := ⟨Tryz.f282.name, by decide, Tryz.func282.trans (congrArg some (by kernel_rfl))⟩
 f27 := ⟨Tryz.f283.name, by decide, Tryz.func283.trans (congrArg some (by kernel_rfl))⟩
 f28 := Tryz.func239.trans (congrArg some (by kernel_rfl))
 f29 := Tryz.func240.trans (congrArg some (by kernel_rfl))
 f46 := ⟨Tryz.f302.name, by decide, Tryz.func302.trans (congrArg some (by kernel_rfl))⟩
 f47 := Tryz.func285.trans (congrArg some (by kernel_rfl))
 f48 := Tryz.func286.trans (congrArg some (by kernel_rfl))
 f49 := ⟨Tryz.f303.name, by decide, Tryz.func303.trans (congrArg some (by kernel_rfl))⟩
 f50 := ⟨Tryz.f304.name, by decide, Tryz.func304.trans (congrArg some (by kernel_rfl))⟩
 f57 := ⟨Tryz.f313.name, by decide, Tryz.func313.trans (congrArg some (by kernel_rfl))⟩
 t0 := Tryz.underlying0
 a0 := Tryz.isAgg0
 z0 := Tryz.sizeOf0
 v0 := Tryz.zeroValue0
 t3 := Tryz.underlying3
 a3 := Tryz.isAgg3
 z3 := Tryz.sizeOf3
 v3 := Tryz.zeroValue3
 t4 := Tryz.underlying4
 a4 := Tryz.isAgg4
 z4 := Tryz.sizeOf4
 v4 := Tryz.zeroValue4
 t5 := Tryz.underlying5
 a5 := Tryz.isAgg5
 z5 := Tryz.sizeOf5
 v5 := Tryz.zeroValue5
 t9 := Tryz.underlying9
 a9 := Tryz.isAgg9
 z9 := Tryz.sizeOf9
 v9 := Tryz.zeroValue9
 t22 := Tryz.underlying202
 a22 := Tryz.isAgg202
 z22 := Tryz.sizeOf202
 v22 := Tryz.zeroValue202
 t25 := Tryz.underlying259
 a25 := Tryz.isAgg259
 z25 := Tryz.sizeOf259
 v25 := Tryz.zeroValue259
 t39 := Tryz.underlying224
 a39 := Tryz.isAgg224
 z39 := Tryz.sizeOf224
 v39 := Tryz.zeroValue224
 t45 := Tryz.underlying303
 a45 := Tryz.isAgg303
 z45 := Tryz.sizeOf303
 v45 := Tryz.zeroValue303
 t46 := Tryz.underlying304
 a46 := Tryz.isAgg304
 z46 := Tryz.sizeOf304
 v46 := Tryz.zeroValue304
 t50 := Tryz.underlying62
 a50 := Tryz.isAgg62
 z50 := Tryz.sizeOf62
 v50 := Tryz.zeroValue62
 t53 := Tryz.underlying310
 a53 := Tryz.isAgg310
 z53 := Tryz.sizeOf310
 v53 := Tryz.zeroValue310
 t55 := Tryz.underlying312
 a55 := Tryz.isAgg312
 z55 := Tryz.sizeOf312
 v55 := Tryz.zeroValue312
 t66 := Tryz.underlying337
 a66 := Tryz.isAgg337
 z66 := Tryz.sizeOf337
 v66 := Tryz.zeroValue337
 t70 := Tryz.underlying341
 a70 := Tryz.isAgg341
 z70 := Tryz.sizeOf341
 v70 := Tryz.zeroValue341
 t76 := Tryz.underlying362
 a76 := Tryz.isAgg362
 z76 := Tryz.sizeOf362
 v76 := Tryz.zeroValue362
 t77 := Tryz.underlying200
 a77 := Tryz.isAgg200
 z77 := Tryz.sizeOf200
 v77 := Tryz.zeroValue200 }
end Go.Proofs
end
section
open Go Go.Proofs
namespace Go.Av
theorem zmy (l : List zcU) (gn : Nat) (hl : l.length ≤ 17179869184) (hf : ∀ o ∈ l, zbw o.pos) :
  zjp Tryz.prog 187 [.sl 0 gn 6 0 l.length, .fn (.func 188) [] []] [(0, .rows true gn 6 (l.map zaM))] 1
   (.sl 0 gn 6 0 (zbj l).length) [(0, .rows true gn 6 ((zbj l).map zaM ++ List.replicate (l.length - (zbj l).length) znI))] 1 := by
 unfold zjp
 by_cases h2 : l.length < 2
 ·rw [zjO h2]
  refine zBm (by kernel_rfl) Tryz.func187 rfl rfl (Nat.le_of_ble_eq_true rfl) (by kernel_rfl) ?_
  repeat first|refine wV fun _=>?_|simp [go_sem]
  (refine zBj (fun hT => ?_) (fun hT => by first | omega | (simp at hT; omega)); clear hT)
  repeat first|refine wV fun _=>?_|simp [go_sem]
  simp [go_sem, zaf]
 obtain ⟨D, hD⟩ : ∃ D, D = zbj l := ⟨_, rfl⟩
 rw [← hD]
 have hE : ∀ i j, i < l.length → j < l.length → zaJ Tryz.prog 188 [.agg (zaM (nth l i)), .agg (zaM (nth l j))] (.v (.bool (decide (nth l i = nth l j)))) :=
  fun i j hi hj => zuh _ _ (hf _ (zah hi)) (hf _ (zah hj))
 refine zBm (by kernel_rfl) Tryz.func187 rfl rfl (Nat.le_of_ble_eq_true rfl) (by kernel_rfl) ?_
 repeat first|refine wV fun _=>?_|simp [go_sem]
 (refine zBj (fun hF => by first | omega | (simp at hF; omega)) (fun hF => ?_); clear hF)
 repeat first|refine wV fun _=>?_|simp [go_sem]
 refine zBh (zBk (α := Nat) (fun j => ⟨[(0, .sl 0 gn 6 0 l.length), (1, .fn (.func 188) [] []), (5, .v (.int .i64 j))], [(0, .rows true gn 6 (l.map zaM))], 1⟩)
  (fun d j => 1 ≤ j ∧ j + d = l.length ∧ D = l.take j ++ za6 (nth l (j - 1)) (l.drop j)) ?_ (l.length - 1) 1 ?_) ?_ ?_
 ·rintro d j ⟨i1, i2, i3⟩ hrec
  have e1 : ((j : Int) - 1).toNat = j - 1 := by omega
  repeat first|refine wV fun _=>?_|simp [go_sem]
  refine zBj (fun hj => ?_) (fun hj => ?_) <;> simp at hj
  ·have hj' : j - 1 < l.length := by omega
   rw [zaG hj, za6] at i3
   repeat first|refine wV fun _=>?_|simp [go_sem, hj, hj', e1]
   refine zBl (hE j (j - 1) hj hj') (by simp [go_sem]) ?_
   repeat first|refine wV fun _=>?_|simp [go_sem, hj, hj', e1]
   by_cases he : nth l j = nth l (j - 1)
   ·rw [if_pos he] at i3
    repeat first|refine wV fun _=>?_|simp [go_sem, he, hj, hj', e1]
    refine zBh (zBk (α := Nat × List zcU × Nat) (fun a => ⟨[(0, .sl 0 gn 6 0 l.length), (1, .fn (.func 188) [] []), (5, .v (.int .i64 a.2.2)), (6, .sl 0 gn 6 j (l.length - j)), (7, .v (.int .i64 a.1))], [(0, .rows true gn 6 (a.2.1.map zaM))], 1⟩)
     (fun d a => 1 ≤ a.1 ∧ j + a.1 + d = l.length ∧ a.2.1.length = l.length ∧ a.2.2 ≤ j + a.1 - 1 ∧ a.2.1.drop (j + a.1 - 1) = l.drop (j + a.1 - 1) ∧ D = a.2.1.take a.2.2 ++ za6 (nth l (j + a.1 - 1)) (l.drop (j + a.1))) ?_ (l.length - j - 1) (1, l, j) ?_) ?_ ?_
    ·rintro d2 ⟨k2, R, k⟩ ⟨j1, j2, j3, j4, j5, j6⟩ hrec2
     simp only at j1 j2 j3 j4 j5 j6
     have e2 : ((k2 : Int) - 1).toNat = k2 - 1 := by omega
     have e3 : j + (k2 - 1) = j + k2 - 1 := by omega
     have hRn : ∀ m, j + k2 - 1 ≤ m → m < l.length → nth R m = nth l m := fun m h1 h2 => by
      have h3 : (R.drop (j + k2 - 1))[m - (j + k2 - 1)]? = (l.drop (j + k2 - 1))[m - (j + k2 - 1)]? := by rw [j5]
      rw [List.getElem?_drop, List.getElem?_drop, show j + k2 - 1 + (m - (j + k2 - 1)) = m by omega, List.getElem?_eq_getElem (by omega), List.getElem?_eq_getElem h2] at h3
      rw [zaA _ _ (by omega), zaA _ _ h2]
      exact Option.some.inj h3
     repeat first|refine wV fun _=>?_|simp [go_sem, j3]
     refine zBj (fun hk => ?_) (fun hk => ?_) <;> simp at hk
     ·have hk1 : j + k2 < l.length := by omega
      have hk0 : j + k2 - 1 < l.length := by omega
      have hr1 := hRn (j + k2) (by omega) hk1
      have hr0 := hRn (j + k2 - 1) (by omega) hk0
      rw [zaG hk1, za6] at j6
      have hk2 : k2 - 1 < l.length - j := by omega
      have hk3 : k < l.length := by omega
      repeat first|refine wV fun _=>?_|simp [go_sem, j3, hk, hk1, hk0, hr1, hr0, e2, e3, hk2]
      refine zBl (hE (j + k2) (j + k2 - 1) hk1 hk0) (by simp [go_sem]) ?_
      repeat first|refine wV fun _=>?_|simp [go_sem, j3, hk, hk1, hk0, hr1, hr0, e2, e3, hk2]
      by_cases hc : nth l (j + k2) = nth l (j + k2 - 1)
      ·rw [if_pos hc] at j6
       repeat first|refine wV fun _=>?_|simp [go_sem, hc]
       refine zBh (hrec2 (d2 - 1) (by omega) (k2 + 1, R, k) ⟨by simp only; omega, by simp only; omega, j3, by simp only; omega, ?_, ?_⟩) ?_ (by simp)
       ·have := congrArg (List.drop 1) j5
        rw [List.drop_drop, List.drop_drop] at this
        rw [show j + (k2 + 1) - 1 = j + k2 - 1 + 1 by omega]
        exact this
       ·simp only
        rw [show j + (k2 + 1) - 1 = j + k2 by omega, hc]
        exact j6
       ·simp [go_sem, zaf]
      ·rw [if_neg hc] at j6
       repeat first|refine wV fun _=>?_|simp [go_sem, hc, j3, hk, hk1, hk0, hr1, hr0, e2, e3, hk2, hk3]
       refine zBh (hrec2 (d2 - 1) (by omega) (k2 + 1, R.set k (nth l (j + k2)), k + 1) ⟨by simp only; omega, by simp only; omega, by simpa using j3, by simp only; omega, ?_, ?_⟩) ?_ (by simp)
       ·have := congrArg (List.drop 1) j5
        rw [List.drop_drop, List.drop_drop] at this
        simp only
        rw [show j + (k2 + 1) - 1 = j + k2 - 1 + 1 by omega, List.drop_set, if_pos (by omega)]
        exact this
       ·simp only
        rw [show j + (k2 + 1) - 1 = j + k2 by omega, List.take_add_one, List.take_set_of_le (by omega), List.getElem?_set_self (by omega), Option.toList_some, List.append_assoc]
        exact j6
       ·have hb : ∀ n, ∀ r ∈ ((R.set k (nth l (j + k2))).map zaM), ∀ c ∈ r, Bel n c := fun n => of_eq_true zrO
        rw [List.map_set] at hb
        simp [go_sem, zaf, List.map_set]
        exact hb 1
     ·rw [List.drop_eq_nil_of_le (by omega), za6, List.append_nil] at j6
      have hDl : D.length = k := by rw [j6, List.length_take]; omega
      have hd0 : List.drop (k + (l.length - k)) (R.map zaM) = [] := List.drop_eq_nil_of_le (by simp; omega)
      have hDm : D.map zaM = List.take k (R.map zaM) := by rw [j6, List.map_take]
      repeat first|refine wV fun _=>?_|simp [go_sem]
      simp [go_sem, zaf, hd0, hDl, hDm, znI]
      exact fun x hx => of_eq_true (zrO (n := 1) (l := R)) x (List.mem_of_mem_take hx)
    ·refine ⟨Nat.le_refl _, by simp only; omega, rfl, by simp only; omega, rfl, ?_⟩
     simp only
     rw [Nat.add_sub_cancel, he]
     exact i3
    ·simp [go_sem, zaf]
    ·simp
   ·rw [if_neg he] at i3
    repeat first|refine wV fun _=>?_|simp [go_sem, he, hj, hj', e1]
    refine zBh (hrec (d - 1) (by omega) (j + 1) ⟨by omega, by omega, ?_⟩) ?_ (by simp)
    ·rw [i3, Nat.add_sub_cancel, List.take_add_one, List.getElem?_eq_getElem hj, zaA _ _ hj, Option.toList_some, List.append_assoc]; rfl
    ·simp [go_sem, zaf]
  ·rw [List.drop_eq_nil_of_le hj, List.take_of_length_le hj, za6, List.append_nil] at i3
   rw [i3]
   repeat first|refine wV fun _=>?_|simp [go_sem]
   simp [go_sem, zaf]
 ·refine ⟨Nat.le_refl _, by omega, ?_⟩
  cases l with
  | nil => simp at h2
  | cons a l => rw [hD]; rfl
 ·simp [go_sem, zaf]
 ·simp
theorem zm2 (l : List zcU) (gn : Nat) (hl : l.length ≤ 17179869184) (hf : ∀ o ∈ l, zbw o.pos) {h : zan} {n o : Nat} (ho : h o = some (.rows true gn 6 (l.map zaM))) (hon : o < n) {K : zco}
  (hK : K (.sl o gn 6 0 (zbj l).length) (upd h o (some (.rows true gn 6 ((zbj l).map zaM ++ List.replicate (l.length - (zbj l).length) znI)))) n) :
  zaa Tryz.prog 187 [.sl o gn 6 0 l.length, .fn (.func 188) [] []] h n K := by
 have hz : ∀ m, ∀ r ∈ (zbj l).map zaM ++ List.replicate (l.length - (zbj l).length) znI, ∀ c ∈ r, Bel m c := by
  intro m r hr c hc
  rcases List.mem_append.1 hr with hr | hr
  ·exact zcy _ r hr c hc
  ·rw [List.eq_of_mem_replicate hr] at hc
   simp only [znI, List.mem_cons, List.not_mem_nil, or_false] at hc
   rcases hc with rfl | rfl | rfl | rfl | rfl | rfl <;> exact .v _
 refine zBB (args' := [.sl o gn 6 0 l.length, .fn (.func 188) [] []]) (HH := [(o, .rows true gn 6 ((zbj l).map zaM ++ List.replicate (l.length - (zbj l).length) znI))])
  [o] h (zmy l gn hl hf) (by simp) (by simpa using hon) rfl (Nat.le_refl _) (.refl _) ?_ ?_ (.refl _ _ _ _) ?_ ?_ ?_ (.sl rfl) ?_ ?_
 ·intro j hj
  obtain rfl : j = 0 := by omega
  exact ⟨_, _, rfl, ho, .rows (.same (zcy _))⟩
 ·intro p hp
  simp only [List.mem_singleton] at hp
  subst hp
  exact ⟨Nat.le_of_ble_eq_true rfl, zcy _⟩
 ·intro y hy
  simp only [List.mem_cons, List.not_mem_nil, or_false] at hy
  rcases hy with rfl | rfl
  ·exact .sl hon
  ·simp [go_sem]
 ·exact .cons (.sl rfl) (.cons (.same (by simp [go_sem])) .nil)
 ·intro y hy
  simp only [List.mem_cons, List.not_mem_nil, or_false] at hy
  rcases hy with rfl | rfl
  ·exact .sl (by decide)
  ·simp [go_sem]
 ·exact .cons rfl (.rows (.same (hz 0))) .nil
 ·have e : zdM [(o, .rows true gn 6 ((zbj l).map zaM ++ List.replicate (l.length - (zbj l).length) znI))] (zll [o] h) = upd h o (some (.rows true gn 6 ((zbj l).map zaM ++ List.replicate (l.length - (zbj l).length) znI))) := by
   funext j
   simp only [zdM, zll, upd]
   by_cases j1 : j = o
   ·simp [j1]
   ·simp [j1]
  rw [e, Nat.sub_self, Nat.add_zero]
  exact hK
theorem zld (l : List zcU) (gn m : Nat) (hm : l.length = m) (hl : m ≤ 17179869184) (hf : ∀ o ∈ l, zbw o.pos) {h : zan} {n o : Nat} (ho : h o = some (.rows true gn 6 (l.map zaM))) (hon : o < n) {K : zco}
  (hK : K (.sl o gn 6 0 (zbj l).length) (upd h o (some (.rows true gn 6 ((zbj l).map zaM ++ List.replicate (l.length - (zbj l).length) znI)))) n) :
  zaa Tryz.prog 187 [.sl o gn 6 0 m, .fn (.func 188) [] []] h n K := by
 subst hm
 exact zm2 l gn hl hf ho hon hK
theorem zzb : Go.Sort.SWO (fun a b : zcU => decide (znM a b < 0)) := by
 refine ⟨fun x => ?_, fun x y z h1 h2 => ?_, fun x y z h1 h2 => ?_⟩
 ·have := zdi.swap x x
  simp; omega
 ·simp only [decide_eq_true_eq] at h1 h2 ⊢
  have t := zdi.tr x y z (by omega) (by omega)
  rcases Int.lt_or_eq_of_le t with h | h
  ·exact h
  ·have e := (zdi.eq _ _).1 h
   subst e
   have := zdi.swap x y
   omega
 ·simp only [decide_eq_false_iff_not] at h1 h2 ⊢
  have s1 := zdi.swap x y
  have s2 := zdi.swap y z
  have s3 := zdi.swap x z
  have t := zdi.tr z y x (by omega) (by omega)
  omega
theorem zun (l : List zcU) (hf : ∀ o ∈ l, zbw o.pos) (hl : l.length < 4611686018427387904) {h : zan} {n o gn : Nat} (ho : h o = some (.rows true gn 6 (l.map zaM))) {K : zco}
  (hK : K (.tup []) (upd h o (some (.rows true gn 6 ((zcs znM l).map zaM)))) n) :
  zaa Tryz.prog 185 [.sl o gn 6 0 l.length, .fn (.func 186) [] []] h n K := by
 refine zBC zsort (k := 6) (by omega) Tryz.isAgg135 Tryz.sizeOf135 zaM (fun _ => rfl) ?_ (fun o => zbw o.pos) znM zzb _ (fun x y hx hy => zgQ x y hx hy) ?_ l hf hl ho ?_
 ·intro x
  simp [go_sem]
 ·exact (zgQ default default (by unfold zbw zfk; decide) (by unfold zbw zfk; decide)).1
 ·intro l' hp hs
  have : zcs znM l = l' := zfO zdi hp (hs.imp fun {a b} hab => by
   have := zdi.swap a b
   simp only [leC, decide_eq_true_eq]
   omega)
  rw [← this]
  exact hK
end Go.Av
end
section
namespace Go.Proofs
open Go.Shelf
def zuz : Go.Shelf.Ren := ⟨fun | 6 => 129 | 15 => 190 | 14 => 189 | 28 => 239 | 29 => 240 | 20 => 231 | 21 => 232 | 22 => 233 | 23 => 234 | 24 => 235 | 25 => 236 | 26 => 237 | 27 => 238 | 46 => 284 | 47 => 285 | 48 => 286 | 49 => 287 | 50 => 288 | 57 => 305 | n => n, fun | 22 => 47 | 24 => 45 | 25 => 78 | 3 => 3 | 39 => 224 | 0 => 0 | 53 => 310 | 55 => 312 | 4 => 4 | 46 => 304 | 45 => 303 | 50 => 62 | 5 => 5 | 9 => 9 | 66 => 337 | 70 => 341 | 76 => 362 | 77 => 200 | n => n, fun n => n⟩
theorem zsortP : Go.Proofs.SlLaysF0.n6 Tryz.prog zuz := {
 mixed := by kernel_rfl
 f6 := ⟨Tryz.f129.name, by decide, Tryz.func129.trans (congrArg some (by kernel_rfl))⟩
 f14 := ⟨Tryz.f189.name, by decide, Tryz.func189.trans (congrArg some (by kernel_rfl))⟩
 f15 := Tryz.func190.trans (congrArg some (by kernel_rfl))
 f20 := ⟨Tryz.f231.name, by decide, Tryz.func231.trans (congrArg some (by kernel_rfl))⟩
 f21 := ⟨Tryz.f232.name, by decide, Tryz.func232.trans (congrArg some (by kernel_rfl))⟩
 f22 := ⟨Tryz.f233.name, by decide, Tryz.func233.trans (congrArg some (by kernel_rfl))⟩
 f23 := ⟨Tryz.f234.name, by decide, Tryz.func234.trans (congrArg some (by kernel_rfl))⟩
 f24 := ⟨Tryz.f235.name, by decide, Tryz.func235.trans (congrArg some (by kernel_rfl))⟩
 f25 := ⟨Tryz.f236.name, by decide, Tryz.func236.trans (congrArg some (by kernel_rfl))⟩
 f26 := ⟨Tryz.f237.name, by decide, Tryz.func237.trans (congrArg some (by kernel_rfl))⟩
 f27 := ⟨Tryz.f238.name, by decide, Tryz.func238.trans (congrArg some (by kernel_rfl))⟩
 f28 := Tryz.func239.trans (congrArg some (by kernel_rfl))
 f29 := Tryz.func240.trans (congrArg some (by kernel_rfl))
 f46 := ⟨Tryz.f284.name, by decide, Tryz.func284.trans (congrArg some (by kernel_rfl))⟩
 f47 := Tryz.func285.trans (congrArg some (by kernel_rfl))
 f48 := Tryz.func286.trans (congrArg some (by kernel_rfl))
 f49 := ⟨Tryz.f287.name, by decide, Tryz.func287.trans (congrArg some (by kernel_rfl))⟩
 f50 := ⟨Tryz.f288.name, by decide, Tryz.func288.trans (congrArg some (by kernel_rfl))⟩
 f57 := ⟨Tryz.f305.name, by decide, Tryz.func305.trans (congrArg some (by kernel_rfl))⟩
 t0 := Tryz.underlying0
 a0 := Tryz.isAgg0
 z0 := Tryz.sizeOf0
 v0 := Tryz.zeroValue0
 t3 := Tryz.underlying3
 a3 := Tryz.isAgg3
 z3 := Tryz.sizeOf3
 v3 := Tryz.zeroValue3
 t4 := Tryz.underlying4
 a4 := Tryz.isAgg4
 z4 := Tryz.sizeOf4
 v4 := Tryz.zeroValue4
 t5 := Tryz.underlying5
 a5 := Tryz.isAgg5
 z5 := Tryz.sizeOf5
 v5 := Tryz.zeroValue5
 t9 := Tryz.underlying9
 a9 := Tryz.isAgg9
 z9 := Tryz.sizeOf9
 v9 := Tryz.zeroValue9
 t22 := Tryz.underlying47
 a22 := Tryz.isAgg47
 z22 := Tryz.sizeOf47
 v22 := Tryz.zeroValue47
 t25 := Tryz.underlying78
 a25 := Tryz.isAgg78
 z25 := Tryz.sizeOf78
 v25 := Tryz.zeroValue78
 t39 := Tryz.underlying224
 a39 := Tryz.isAgg224
 z39 := Tryz.sizeOf224
 v39 := Tryz.zeroValue224
 t45 := Tryz.underlying303
 a45 := Tryz.isAgg303
 z45 := Tryz.sizeOf303
 v45 := Tryz.zeroValue303
 t46 := Tryz.underlying304
 a46 := Tryz.isAgg304
 z46 := Tryz.sizeOf304
 v46 := Tryz.zeroValue304
 t50 := Tryz.underlying62
 a50 := Tryz.isAgg62
 z50 := Tryz.sizeOf62
 v50 := Tryz.zeroValue62
 t53 := Tryz.underlying310
 a53 := Tryz.isAgg310
 z53 := Tryz.sizeOf310
 v53 := Tryz.zeroValue310
 t55 := Tryz.underlying312
 a55 := Tryz.isAgg312
 z55 := Tryz.sizeOf312
 v55 := Tryz.zeroValue312
 t66 := Tryz.underlying337
 a66 := Tryz.isAgg337
 z66 := Tryz.sizeOf337
 v66 := Tryz.zeroValue337
 t70 := Tryz.underlying341
 a70 := Tryz.isAgg341
 z70 := Tryz.sizeOf341
 v70 := Tryz.zeroValue341
 t76 := Tryz.underlying362
 a76 := Tryz.isAgg362
 z76 := Tryz.sizeOf362
 v76 := Tryz.zeroValue362
 t77 := Tryz.underlying200
 a77 := Tryz.isAgg200
 z77 := Tryz.sizeOf200
 v77 := Tryz.zeroValue200 }
end Go.Proofs
end
section
open Go Go.Proofs
namespace Go.Av
def znJ : List AV := [.v (.slice none 0 0), .v (.slice none 0 0), .v (.slice none 0 0), .v (.int .i64 0), .v (.int .i64 0)]
theorem zmx (l : List zal) (gn : Nat) (hl : l.length ≤ 17179869184) (hf : ∀ o ∈ l, zbw o) :
  zjp Tryz.prog 130 [.sl 0 gn 5 0 l.length, .fn (.func 131) [] []] [(0, .rows true gn 5 (l.map zag))] 1
   (.sl 0 gn 5 0 (zbj l).length) [(0, .rows true gn 5 ((zbj l).map zag ++ List.replicate (l.length - (zbj l).length) znJ))] 1 := by
 unfold zjp
 by_cases h2 : l.length < 2
 ·rw [zjO h2]
  refine zBm (by kernel_rfl) Tryz.func130 rfl rfl (Nat.le_of_ble_eq_true rfl) (by kernel_rfl) ?_
  repeat first|refine wV fun _=>?_|simp [go_sem]
  (refine zBj (fun hT => ?_) (fun hT => by first | omega | (simp at hT; omega)); clear hT)
  repeat first|refine wV fun _=>?_|simp [go_sem]
  simp [go_sem, zaf]
 obtain ⟨D, hD⟩ : ∃ D, D = zbj l := ⟨_, rfl⟩
 rw [← hD]
 have hE : ∀ i j, i < l.length → j < l.length → zaJ Tryz.prog 131 [.agg (zag (nth l i)), .agg (zag (nth l j))] (.v (.bool (decide (nth l i = nth l j)))) :=
  fun i j hi hj => zrg _ _ (hf _ (zah hi)) (hf _ (zah hj))
 refine zBm (by kernel_rfl) Tryz.func130 rfl rfl (Nat.le_of_ble_eq_true rfl) (by kernel_rfl) ?_
 repeat first|refine wV fun _=>?_|simp [go_sem]
 (refine zBj (fun hF => by first | omega | (simp at hF; omega)) (fun hF => ?_); clear hF)
 repeat first|refine wV fun _=>?_|simp [go_sem]
 refine zBh (zBk (α := Nat) (fun j => ⟨[(0, .sl 0 gn 5 0 l.length), (1, .fn (.func 131) [] []), (5, .v (.int .i64 j))], [(0, .rows true gn 5 (l.map zag))], 1⟩)
  (fun d j => 1 ≤ j ∧ j + d = l.length ∧ D = l.take j ++ za6 (nth l (j - 1)) (l.drop j)) ?_ (l.length - 1) 1 ?_) ?_ ?_
 ·rintro d j ⟨i1, i2, i3⟩ hrec
  have e1 : ((j : Int) - 1).toNat = j - 1 := by omega
  repeat first|refine wV fun _=>?_|simp [go_sem]
  refine zBj (fun hj => ?_) (fun hj => ?_) <;> simp at hj
  ·have hj' : j - 1 < l.length := by omega
   rw [zaG hj, za6] at i3
   repeat first|refine wV fun _=>?_|simp [go_sem, hj, hj', e1]
   refine zBl (hE j (j - 1) hj hj') (by simp [go_sem]) ?_
   repeat first|refine wV fun _=>?_|simp [go_sem, hj, hj', e1]
   by_cases he : nth l j = nth l (j - 1)
   ·rw [if_pos he] at i3
    repeat first|refine wV fun _=>?_|simp [go_sem, he, hj, hj', e1]
    refine zBh (zBk (α := Nat × List zal × Nat) (fun a => ⟨[(0, .sl 0 gn 5 0 l.length), (1, .fn (.func 131) [] []), (5, .v (.int .i64 a.2.2)), (6, .sl 0 gn 5 j (l.length - j)), (7, .v (.int .i64 a.1))], [(0, .rows true gn 5 (a.2.1.map zag))], 1⟩)
     (fun d a => 1 ≤ a.1 ∧ j + a.1 + d = l.length ∧ a.2.1.length = l.length ∧ a.2.2 ≤ j + a.1 - 1 ∧ a.2.1.drop (j + a.1 - 1) = l.drop (j + a.1 - 1) ∧ D = a.2.1.take a.2.2 ++ za6 (nth l (j + a.1 - 1)) (l.drop (j + a.1))) ?_ (l.length - j - 1) (1, l, j) ?_) ?_ ?_
    ·rintro d2 ⟨k2, R, k⟩ ⟨j1, j2, j3, j4, j5, j6⟩ hrec2
     simp only at j1 j2 j3 j4 j5 j6
     have e2 : ((k2 : Int) - 1).toNat = k2 - 1 := by omega
     have e3 : j + (k2 - 1) = j + k2 - 1 := by omega
     have hRn : ∀ m, j + k2 - 1 ≤ m → m < l.length → nth R m = nth l m := fun m h1 h2 => by
      have h3 : (R.drop (j + k2 - 1))[m - (j + k2 - 1)]? = (l.drop (j + k2 - 1))[m - (j + k2 - 1)]? := by rw [j5]
      rw [List.getElem?_drop, List.getElem?_drop, show j + k2 - 1 + (m - (j + k2 - 1)) = m by omega, List.getElem?_eq_getElem (by omega), List.getElem?_eq_getElem h2] at h3
      rw [zaA _ _ (by omega), zaA _ _ h2]
      exact Option.some.inj h3
     repeat first|refine wV fun _=>?_|simp [go_sem, j3]
     refine zBj (fun hk => ?_) (fun hk => ?_) <;> simp at hk
     ·have hk1 : j + k2 < l.length := by omega
      have hk0 : j + k2 - 1 < l.length := by omega
      have hr1 := hRn (j + k2) (by omega) hk1
      have hr0 := hRn (j + k2 - 1) (by omega) hk0
      rw [zaG hk1, za6] at j6
      have hk2 : k2 - 1 < l.length - j := by omega
      have hk3 : k < l.length := by omega
      repeat first|refine wV fun _=>?_|simp [go_sem, j3, hk, hk1, hk0, hr1, hr0, e2, e3, hk2]
      refine zBl (hE (j + k2) (j + k2 - 1) hk1 hk0) (by simp [go_sem]) ?_
      repeat first|refine wV fun _=>?_|simp [go_sem, j3, hk, hk1, hk0, hr1, hr0, e2, e3, hk2]
      by_cases hc : nth l (j + k2) = nth l (j + k2 - 1)
      ·rw [if_pos hc] at j6
       repeat first|refine wV fun _=>?_|simp [go_sem, hc]
       refine zBh (hrec2 (d2 - 1) (by omega) (k2 + 1, R, k) ⟨by simp only; omega, by simp only; omega, j3, by simp only; omega, ?_, ?_⟩) ?_ (by simp)
       ·have := congrArg (List.drop 1) j5
        rw [List.drop_drop, List.drop_drop] at this
        rw [show j + (k2 + 1) - 1 = j + k2 - 1 + 1 by omega]
        exact this
       ·simp only
        rw [show j + (k2 + 1) - 1 = j + k2 by omega, hc]
        exact j6
       ·simp [go_sem, zaf]
      ·rw [if_neg hc] at j6
       repeat first|refine wV fun _=>?_|simp [go_sem, hc, j3, hk, hk1, hk0, hr1, hr0, e2, e3, hk2, hk3]
       refine zBh (hrec2 (d2 - 1) (by omega) (k2 + 1, R.set k (nth l (j + k2)), k + 1) ⟨by simp only; omega, by simp only; omega, by simpa using j3, by simp only; omega, ?_, ?_⟩) ?_ (by simp)
       ·have := congrArg (List.drop 1) j5
        rw [List.drop_drop, List.drop_drop] at this
        simp only
        rw [show j + (k2 + 1) - 1 = j + k2 - 1 + 1 by omega, List.drop_set, if_pos (by omega)]
        exact this
       ·simp only
        rw [show j + (k2 + 1) - 1 = j + k2 by omega, List.take_add_one, List.take_set_of_le (by omega), List.getElem?_set_self (by omega), Option.toList_some, List.append_assoc]
        exact j6
       ·have hb : ∀ n, ∀ r ∈ ((R.set k (nth l (j + k2))).map zag), ∀ c ∈ r, Bel n c := fun n => of_eq_true zte
        rw [List.map_set] at hb
        simp [go_sem, zaf, List.map_set]
        exact hb 1
     ·rw [List.drop_eq_nil_of_le (by omega), za6, List.append_nil] at j6
      have hDl : D.length = k := by rw [j6, List.length_take]; omega
      have hd0 : List.drop (k + (l.length - k)) (R.map zag) = [] := List.drop_eq_nil_of_le (by simp; omega)
      have hDm : D.map zag = List.take k (R.map zag) := by rw [j6, List.map_take]
      repeat first|refine wV fun _=>?_|simp [go_sem]
      simp [go_sem, zaf, hd0, hDl, hDm, znJ]
      exact fun x hx => of_eq_true (zte (n := 1) (l := R)) x (List.mem_of_mem_take hx)
    ·refine ⟨Nat.le_refl _, by simp only; omega, rfl, by simp only; omega, rfl, ?_⟩
     simp only
     rw [Nat.add_sub_cancel, he]
     exact i3
    ·simp [go_sem, zaf]
    ·simp
   ·rw [if_neg he] at i3
    repeat first|refine wV fun _=>?_|simp [go_sem, he, hj, hj', e1]
    refine zBh (hrec (d - 1) (by omega) (j + 1) ⟨by omega, by omega, ?_⟩) ?_ (by simp)
    ·rw [i3, Nat.add_sub_cancel, List.take_add_one, List.getElem?_eq_getElem hj, zaA _ _ hj, Option.toList_some, List.append_assoc]; rfl
    ·simp [go_sem, zaf]
  ·rw [List.drop_eq_nil_of_le hj, List.take_of_length_le hj, za6, List.append_nil] at i3
   rw [i3]
   repeat first|refine wV fun _=>?_|simp [go_sem]
   simp [go_sem, zaf]
 ·refine ⟨Nat.le_refl _, by omega, ?_⟩
  cases l with
  | nil => simp at h2
  | cons a l => rw [hD]; rfl
 ·simp [go_sem, zaf]
 ·simp
theorem zgG {n : Nat} (l : List zal) : ∀ r ∈ l.map zag, ∀ c ∈ r, Bel n c := of_eq_true zte
theorem zm1 (l : List zal) (gn : Nat) (hl : l.length ≤ 17179869184) (hf : ∀ o ∈ l, zbw o) {h : zan} {n o : Nat} (ho : h o = some (.rows true gn 5 (l.map zag))) (hon : o < n) {K : zco}
  (hK : K (.sl o gn 5 0 (zbj l).length) (upd h o (some (.rows true gn 5 ((zbj l).map zag ++ List.replicate (l.length - (zbj l).length) znJ)))) n) :
  zaa Tryz.prog 130 [.sl o gn 5 0 l.length, .fn (.func 131) [] []] h n K := by
 have hz : ∀ m, ∀ r ∈ (zbj l).map zag ++ List.replicate (l.length - (zbj l).length) znJ, ∀ c ∈ r, Bel m c := by
  intro m r hr c hc
  rcases List.mem_append.1 hr with hr | hr
  ·exact zgG _ r hr c hc
  ·rw [List.eq_of_mem_replicate hr] at hc
   simp only [znJ, List.mem_cons, List.not_mem_nil, or_false] at hc
   rcases hc with rfl | rfl | rfl | rfl | rfl <;> exact .v _
 refine zBB (args' := [.sl o gn 5 0 l.length, .fn (.func 131) [] []]) (HH := [(o, .rows true gn 5 ((zbj l).map zag ++ List.replicate (l.length - (zbj l).length) znJ))])
  [o] h (zmx l gn hl hf) (by simp) (by simpa using hon) rfl (Nat.le_refl _) (.refl _) ?_ ?_ (.refl _ _ _ _) ?_ ?_ ?_ (.sl rfl) ?_ ?_
 ·intro j hj
  obtain rfl : j = 0 := by omega
  exact ⟨_, _, rfl, ho, .rows (.same (zgG _))⟩
 ·intro p hp
  simp only [List.mem_singleton] at hp
  subst hp
  exact ⟨Nat.le_of_ble_eq_true rfl, zgG _⟩
 ·intro y hy
  simp only [List.mem_cons, List.not_mem_nil, or_false] at hy
  rcases hy with rfl | rfl
  ·exact .sl hon
  ·simp [go_sem]
 ·exact .cons (.sl rfl) (.cons (.same (by simp [go_sem])) .nil)
 ·intro y hy
  simp only [List.mem_cons, List.not_mem_nil, or_false] at hy
  rcases hy with rfl | rfl
  ·exact .sl (by decide)
  ·simp [go_sem]
 ·exact .cons rfl (.rows (.same (hz 0))) .nil
 ·have e : zdM [(o, .rows true gn 5 ((zbj l).map zag ++ List.replicate (l.length - (zbj l).length) znJ))] (zll [o] h) = upd h o (some (.rows true gn 5 ((zbj l).map zag ++ List.replicate (l.length - (zbj l).length) znJ))) := by
   funext j
   simp only [zdM, zll, upd]
   by_cases j1 : j = o
   ·simp [j1]
   ·simp [j1]
  rw [e, Nat.sub_self, Nat.add_zero]
  exact hK
theorem zlc (l : List zal) (gn m : Nat) (hm : l.length = m) (hl : m ≤ 17179869184) (hf : ∀ o ∈ l, zbw o) {h : zan} {n o : Nat} (ho : h o = some (.rows true gn 5 (l.map zag))) (hon : o < n) {K : zco}
  (hK : K (.sl o gn 5 0 (zbj l).length) (upd h o (some (.rows true gn 5 ((zbj l).map zag ++ List.replicate (l.length - (zbj l).length) znJ)))) n) :
  zaa Tryz.prog 130 [.sl o gn 5 0 m, .fn (.func 131) [] []] h n K := by
 subst hm
 exact zm1 l gn hl hf ho hon hK
theorem zA4 : Go.Sort.SWO (fun a b : zal => decide (zcK a b < 0)) := by
 refine ⟨fun x => ?_, fun x y z h1 h2 => ?_, fun x y z h1 h2 => ?_⟩
 ·have := zbo.swap x x
  simp; omega
 ·simp only [decide_eq_true_eq] at h1 h2 ⊢
  have t := zbo.tr x y z (by omega) (by omega)
  rcases Int.lt_or_eq_of_le t with h | h
  ·exact h
  ·have e := (zbo.eq _ _).1 h
   subst e
   have := zbo.swap x y
   omega
 ·simp only [decide_eq_false_iff_not] at h1 h2 ⊢
  have s1 := zbo.swap x y
  have s2 := zbo.swap y z
  have s3 := zbo.swap x z
  have t := zbo.tr z y x (by omega) (by omega)
  omega
theorem zum (l : List zal) (hf : ∀ o ∈ l, zbw o) (hl : l.length < 4611686018427387904) {h : zan} {n o gn : Nat} (ho : h o = some (.rows true gn 5 (l.map zag))) {K : zco}
  (hK : K (.tup []) (upd h o (some (.rows true gn 5 ((zcs zcK l).map zag)))) n) :
  zaa Tryz.prog 129 [.sl o gn 5 0 l.length, .fn (.func 37) [] []] h n K := by
 refine zBC zsortP (k := 5) (by omega) Tryz.isAgg45 Tryz.sizeOf45 zag (fun _ => rfl) ?_ (fun o => zbw o) zcK zA4 _ (fun x y hx hy => zcQ x y hx hy) ?_ l hf hl ho ?_
 ·intro x
  simp [go_sem]
 ·exact (zcQ default default (by unfold zbw zfk; decide) (by unfold zbw zfk; decide)).1
 ·intro l' hp hs
  have : zcs zcK l = l' := zfO zbo hp (hs.imp fun {a b} hab => by
   have := zbo.swap a b
   simp only [leC, decide_eq_true_eq]
   omega)
  rw [← this]
  exact hK
theorem zpJ (l : List zal) (hl : l.length ≤ 17179869184) : zlt Tryz.prog 128 [zaV l] (fun n => .sl n 1 5 0 l.length) (fun n => [(n, .rows true 1 5 (l.map zag))]) 1 := by
 refine ⟨?_, fun n => ⟨by simp [go_sem], by simp [go_sem]⟩⟩
 refine zBI (fun hne => ?_) (fun he A c => ?_)
 ·obtain ⟨x, l, rfl⟩ := List.exists_cons_of_ne_nil (show l ≠ [] by intro h; subst h; exact hne rfl)
  simp only [List.length_cons] at hl
  refine zBm (by kernel_rfl) Tryz.func128 rfl rfl (Nat.le_of_ble_eq_true rfl) (by kernel_rfl) ?_
  repeat first|refine wV fun _=>?_|simp [go_sem]
  simp [go_sem, zaf]
 ·obtain rfl : l = [] := by simpa using he
  refine zBm (by kernel_rfl) Tryz.func128 rfl rfl (Nat.le_of_ble_eq_true rfl) (by kernel_rfl) ?_
  repeat first|refine wV fun _=>?_|simp [go_sem]
  refine zBj (fun h => ?_) (fun h => ?_)
  ·simp at h
   subst h
   simp [go_sem, zaf]
  ·simp [go_sem, zaf]
theorem zf5 (l : List zal) (hl : l.length ≤ 17179869184) (hf : ∀ p ∈ l, zbw p) : zaJ Tryz.prog 72 [zaV l] (zaV (zcI zcK l)) := by
 refine pF Tryz.func72 ?_
 have hC := zpJ l hl
 repeat first|refine wV fun _=>?_|simp [go_sem]
 refine zBq hC (by simp [go_sem]) ?_
 repeat first|refine wV fun _=>?_|simp [go_sem]
 refine zum l hf (by omega) (o := 0) (gn := 1) (by simp [upd]) ?_
 repeat first|refine wV fun _=>?_|simp [go_sem]
 refine zlc (zcs zcK l) 1 l.length (zex l) (by omega) (fun p hp => hf p (zey.1 hp)) (o := 0) (by simp [upd]) (by omega) ?_
 repeat first|refine wV fun _=>?_|simp [go_sem]
 exact zaL rfl (by simp) (by simp [noH, upd]) (by rw [List.drop_zero]; exact List.take_left' (by simp))
theorem zw6 (g : zac) (hg : GOk g) (p : zal) (hp : POk g p) (cell i : Int) (hc : zct g p cell i) {h : zan} {n a b : Nat} (hd : [a, b].Nodup) (hlt : ∀ j ∈ [a, b], j < n)
  (ha : h a = some (.rows true 0 5 [zag p])) (hb : h b = some (.rows true 0 1 [[zBo]])) {K : zco}
  (hK : K (.v (.int .i64 0)) (upd (upd (upd h a (some (.rows true 0 5 [zag p]))) b (some (.rows true 0 1 [[.sl (n + 245) (zdk g p cell i).length 6 0 (zdk g p cell i).length]]))) (n + 245) (some (.rows true (zdk g p cell i).length 6 ((zdk g p cell i).map zaM)))) (n + 246)) :
  zaa Tryz.prog 183 [.agg (zad g), .agg (zag p), .v (.int .i64 cell), .v (.int .i64 i), .fn (.func 184) [] [.ref a 0 5 0 0, .ref b 0 1 0 0]] h n K := by
 have hbg : ∀ m, Bel m (.agg (zad g)) := fun m => by simp [go_sem]
 have hbp : ∀ m, ∀ c ∈ zag p, Bel m c := fun m => by simp [go_sem]
 have hbq : ∀ m, Bel m (.agg (zag p)) := fun m => by simp [go_sem]
 have han := hlt a (by simp)
 have hbn := hlt b (by simp)
 have hrows : ∀ m, ∀ r ∈ [zag p], ∀ c ∈ r, Bel m c := fun m r hr => by simp only [List.mem_singleton] at hr; subst hr; exact hbp m
 refine zBB (args' := [.agg (zad g), .agg (zag p), .v (.int .i64 cell), .v (.int .i64 i), .fn (.func 184) [] [.ref a 0 5 0 0, .ref b 0 1 0 0]])
  (HH := [(a, .rows true 0 5 [zag p]), (b, .rows true 0 1 [[.sl (n + 245) (zdk g p cell i).length 6 0 (zdk g p cell i).length]]), (n + 245, .rows true (zdk g p cell i).length 6 ((zdk g p cell i).map zaM))])
  [a, b] h (zy7 g hg p hp cell i hc) hd hlt rfl (by omega) (.refl _) ?_ ?_ (.refl _ _ _ _) ?_ ?_ ?_ (.same (.v _)) ?_ ?_
 ·intro j hj
  rcases (show j = 0 ∨ j = 1 by omega) with rfl | rfl
  ·exact ⟨_, _, rfl, ha, .rows (.same (hrows _))⟩
  ·exact ⟨_, _, rfl, hb, .rows (.same (by simp [go_sem]))⟩
 ·intro q hq
  simp only [List.mem_cons, List.not_mem_nil, or_false] at hq
  rcases hq with rfl | rfl
  ·exact ⟨Nat.le_of_ble_eq_true rfl, hrows _⟩
  ·exact ⟨Nat.le_of_ble_eq_true rfl, by simp [go_sem, zzH]⟩
 ·simp [go_sem, han, hbn]
 ·exact .cons (.same (hbg _)) (.cons (.same (hbq _)) (.cons (.same (.v _)) (.cons (.same (.v _)) (.cons (.fn .nil (.cons (.ref rfl) (.cons (.ref rfl) .nil))) .nil))))
 ·simp [go_sem]
 ·exact .cons rfl (.rows (.same (hrows _))) (.cons rfl (.rows (.cons (.cons (.sl rfl) .nil) .nil)) (.cons rfl (.rows (.same (zcy _))) .nil))
 ·have e : zdM [(a, .rows true 0 5 [zag p]), (b, .rows true 0 1 [[.sl (n + 245) (zdk g p cell i).length 6 0 (zdk g p cell i).length]]), (n + 245, .rows true (zdk g p cell i).length 6 ((zdk g p cell i).map zaM))] (zll [a, b] h) =
    upd (upd (upd h a (some (.rows true 0 5 [zag p]))) b (some (.rows true 0 1 [[.sl (n + 245) (zdk g p cell i).length 6 0 (zdk g p cell i).length]]))) (n + 245) (some (.rows true (zdk g p cell i).length 6 ((zdk g p cell i).map zaM))) := by
   simp only [List.nodup_cons, List.mem_cons, List.not_mem_nil, or_false, not_or, List.nodup_nil, and_true, not_false_eq_true] at hd
   have na : a ≠ n + 245 := by omega
   have nb : b ≠ n + 245 := by omega
   funext j
   simp only [zdM, zll, upd]
   by_cases j1 : j = a
   ·subst j1; simp [hd, na]
   ·by_cases j2 : j = b
    ·subst j2; simp [j1, nb]
    ·by_cases j3 : j = n + 245
     ·subst j3; simp [j1, j2]
     ·simp [j1, j2, j3]
  rw [e]
  exact hK
theorem zuc (g : zac) (hg : GOk g) (p : zal) (hp : POk g p) (cell i : Int) (hc : zct g p cell i) :
  zaJ Tryz.prog 127 [.agg (zad g), .agg (zag p), .v (.int .i64 cell), .v (.int .i64 i)] (.tup [zdC (ze0 g p cell i), .v (.int .i64 0)]) := by
 refine pF Tryz.func127 ?_
 have hl := (zjd hg hp hc)
 have hll : (zdk g p cell i).length ≤ 100000000 := Nat.le_trans (List.length_filterMap_le _ _) hl.2
 have hf : ∀ o ∈ zdk g p cell i, zbw o.pos := by
  intro o ho
  obtain ⟨s, hs, h⟩ := List.mem_filterMap.1 ho
  exact (zw4 hg (hl.1 s hs).1 hp.s h).1.fits hg
 have hr : ze0 g p cell i = zcI znM (zdk g p cell i) := rfl
 rw [hr]
 repeat first|refine wV fun _=>?_|simp [go_sem]
 refine zw6 g hg p hp cell i hc (a := 1) (b := 2) (by decide) (by simp) (by simp [upd, zag, zaj]) (by simp [upd]) ?_
 generalize zdk g p cell i = l at *
 repeat first|refine wV fun _=>?_|simp [go_sem]
 refine zun l hf (by omega) (o := 248) (gn := l.length) (by simp [upd]) ?_
 repeat first|refine wV fun _=>?_|simp [go_sem]
 refine zld (zcs znM l) l.length l.length (zex l) (by omega) (fun o ho => hf o (zey.1 ho)) (o := 248) (by simp [upd]) (by omega) ?_
 repeat first|refine wV fun _=>?_|simp [go_sem]
 exact zaL rfl (by simp) (by simp [noH, upd]) (by rw [List.drop_zero]; exact List.take_left' (by simp))
theorem zrj (g : zac) (hg : GOk g) (p : zal) (hp : POk g p) : zaJ Tryz.prog 73 [.agg (zad g), .agg (zag p)] (zaV (zdB g p)) := by
 refine pF Tryz.func73 ?_
 have hal := hp.al
 have c9 := hg.c9
 have k6 := hg.k6
 have hcp := zhw ⟨p, 0, 0, false⟩ (hp.fits hg)
 have hl0 := hp.h0.len
 have hl1 := hp.h1.len
 have hps := hp.s
 rcases hp.s with hsd | hsd
 ·have hsn : p.side.toNat = 0 := by omega
  repeat first|refine wV fun _=>?_|simp [go_sem, hsn, hsd]
  refine zBh (zBk (α := Nat) (fun k => ⟨[(3, .ref 1 0 5 0 0), (5, .sl 2 (zck g p k).length 5 0 (zck g p k).length), (15, zaj p.h0), (16, .v (.int .i64 p.h0.length)), (17, .v (.int .i64 k))], [(1, .rows true 0 5 [zag p]), (2, .rows true (zck g p k).length 5 ((zck g p k).map zag))], 3⟩)
   (fun d k => k + d = g.kinds.length) ?_ g.kinds.length 0 ?_) ?_ ?_
  ·rintro d k k1 hrec
   repeat first|refine wV fun _=>?_|simp [go_sem]
   refine zBj (fun hk => ?_) (fun hk => ?_) <;> simp at hk
   ·have hz := zjQ g p k
    have ha := zlI g p k
    have hkh : k < p.h0.length := by omega
    have hhv := hp.h0.v k hkh
    repeat first|refine wV fun _=>?_|simp [go_sem, hkh]
    refine zBh (zBk (α := Nat) (fun c => ⟨[(3, .ref 1 0 5 0 0), (5, .sl 2 (zc8 g p k c).length 5 0 (zc8 g p k c).length), (6, .v (.int .i64 k)), (7, .v (.int .i64 (nth p.h0 k))), (15, zaj p.h0), (16, .v (.int .i64 p.h0.length)), (17, .v (.int .i64 k)), (23, zaj p.at_), (24, .v (.int .i64 p.at_.length)), (25, .v (.int .i64 c))], [(1, .rows true 0 5 [zag p]), (2, .rows true (zc8 g p k c).length 5 ((zc8 g p k c).map zag))], 3⟩)
     (fun d c => c + d = p.at_.length) ?_ p.at_.length 0 ?_) ?_ ?_
    ·rintro d2 c c1 hrec2
     repeat first|refine wV fun _=>?_|simp [go_sem]
     refine zBj (fun hci => ?_) (fun hci => ?_) <;> simp at hci
     ·have hD : zhW g p k c = if nth (p.hand p.side) k = 0 ∨ nth p.at_ c ≠ 0 then none
       else some { ({ p with at_ := p.at_.set c (zc7 k p.side) }.withHand p.side ((p.hand p.side).set k (nth (p.hand p.side) k - 1))) with side := 1 - p.side } := rfl
      have hD' : zhW g p k c = if nth p.h0 k = 0 ∨ nth p.at_ c ≠ 0 then none else some { p with at_ := p.at_.set c (zc7 k p.side), h0 := p.h0.set k (nth p.h0 k - 1), side := 1 - p.side } := by
       rw [hD]; simp [zal.hand, zal.withHand, hsd]
      have hCd := zfW (k : Int) p.side
      rw [hsd] at hCd hD'
      repeat first|refine wV fun _=>?_|simp [go_sem, hci]
      refine zBj (fun hcc => ?_) (fun hcc => ?_) <;> simp at hcc
      ·rw [if_pos (by omega)] at hD'
       have hsu := zeL g p k c
       rw [hD'] at hsu
       simp only [Option.toList_none, List.append_nil] at hsu
       repeat first|refine wV fun _=>?_|simp [go_sem]
       refine zBh (hrec2 (d2 - 1) (by omega) (c + 1) (by omega)) ?_ (by simp)
       simp [go_sem, zaf, hsd, hsu]
      ·rw [if_neg (by omega)] at hD'
       have hsu := zeL g p k c
       rw [hD'] at hsu
       simp only [Option.toList_some] at hsu
       have hcl := zlJ g p k c
       have hkm : k * p.at_.length ≤ 6 * 9 := Nat.mul_le_mul (by omega) (by omega)
       repeat first|refine wV fun _=>?_|simp [go_sem, hci]
       refine zBq hcp (by simp [go_sem]) ?_
       repeat first|refine wV fun _=>?_|simp [go_sem, hci, hsd]
       refine zBl hCd (by simp [go_sem]) ?_
       repeat first|refine wV fun _=>?_|simp [go_sem, hsn, hsd, hci, hkh]
       refine zBh (hrec2 (d2 - 1) (by omega) (c + 1) (by omega)) ?_ (by simp)
       simp [go_sem, zaf, hsd, hsu]
       (first|done|exact rwX)
     ·have hcl : c = p.at_.length := by omega
      subst hcl
      rw [ha]
      repeat first|refine wV fun _=>?_|simp [go_sem]
      refine zBh (hrec (d - 1) (by omega) (k + 1) (by omega)) ?_ (by simp)
      simp [go_sem, zaf, hsd]
    ·omega
    ·simp [go_sem, zaf, hsd, hz]
    ·simp
   ·have hkl : k = g.kinds.length := by omega
    subst hkl
    have hdl := zfV g p g.kinds.length
    have hkm : g.kinds.length * p.at_.length ≤ 6 * 9 := Nat.mul_le_mul k6 (by omega)
    have hS := zf5 (zck g p g.kinds.length) (by omega) (fun q hq => by
     rw [zhX] at hq
     obtain ⟨k, hk, hq⟩ := List.mem_flatMap.1 hq
     obtain ⟨c, hc, hq⟩ := List.mem_filterMap.1 hq
     exact (zm6 hg hp (by simpa using hk) hq).1.fits hg)
    rw [show zcI zcK (zck g p g.kinds.length) = zdB g p from rfl] at hS
    generalize zck g p g.kinds.length = l at *
    generalize zdB g p = r at *
    repeat first|refine wV fun _=>?_|simp [go_sem]
    refine zBp [2] hS ?_ (zAb (zdA _)) ?_
    ·(first|done|exact agX)
    ·repeat first|refine wV fun _=>?_|simp [go_sem]
  ·omega
  ·simp [go_sem, zaf, hsd, show zck g p 0 = [] from rfl]
  ·simp
 ·have hsn : p.side.toNat = 1 := by omega
  repeat first|refine wV fun _=>?_|simp [go_sem, hsn, hsd]
  refine zBh (zBk (α := Nat) (fun k => ⟨[(3, .ref 1 0 5 0 0), (5, .sl 2 (zck g p k).length 5 0 (zck g p k).length), (15, zaj p.h1), (16, .v (.int .i64 p.h1.length)), (17, .v (.int .i64 k))], [(1, .rows true 0 5 [zag p]), (2, .rows true (zck g p k).length 5 ((zck g p k).map zag))], 3⟩)
   (fun d k => k + d = g.kinds.length) ?_ g.kinds.length 0 ?_) ?_ ?_
  ·rintro d k k1 hrec
   repeat first|refine wV fun _=>?_|simp [go_sem]
   refine zBj (fun hk => ?_) (fun hk => ?_) <;> simp at hk
   ·have hz := zjQ g p k
    have ha := zlI g p k
    have hkh : k < p.h1.length := by omega
    have hhv := hp.h1.v k hkh
    repeat first|refine wV fun _=>?_|simp [go_sem, hkh]
    refine zBh (zBk (α := Nat) (fun c => ⟨[(3, .ref 1 0 5 0 0), (5, .sl 2 (zc8 g p k c).length 5 0 (zc8 g p k c).length), (6, .v (.int .i64 k)), (7, .v (.int .i64 (nth p.h1 k))), (15, zaj p.h1), (16, .v (.int .i64 p.h1.length)), (17, .v (.int .i64 k)), (23, zaj p.at_), (24, .v (.int .i64 p.at_.length)), (25, .v (.int .i64 c))], [(1, .rows true 0 5 [zag p]), (2, .rows true (zc8 g p k c).length 5 ((zc8 g p k c).map zag))], 3⟩)
     (fun d c => c + d = p.at_.length) ?_ p.at_.length 0 ?_) ?_ ?_
    ·rintro d2 c c1 hrec2
     repeat first|refine wV fun _=>?_|simp [go_sem]
     refine zBj (fun hci => ?_) (fun hci => ?_) <;> simp at hci
     ·have hD : zhW g p k c = if nth (p.hand p.side) k = 0 ∨ nth p.at_ c ≠ 0 then none
       else some { ({ p with at_ := p.at_.set c (zc7 k p.side) }.withHand p.side ((p.hand p.side).set k (nth (p.hand p.side) k - 1))) with side := 1 - p.side } := rfl
      have hD' : zhW g p k c = if nth p.h1 k = 0 ∨ nth p.at_ c ≠ 0 then none else some { p with at_ := p.at_.set c (zc7 k p.side), h1 := p.h1.set k (nth p.h1 k - 1), side := 1 - p.side } := by
       rw [hD]; simp [zal.hand, zal.withHand, hsd]
      have hCd := zfW (k : Int) p.side
      rw [hsd] at hCd hD'
      repeat first|refine wV fun _=>?_|simp [go_sem, hci]
      refine zBj (fun hcc => ?_) (fun hcc => ?_) <;> simp at hcc
      ·rw [if_pos (by omega)] at hD'
       have hsu := zeL g p k c
       rw [hD'] at hsu
       simp only [Option.toList_none, List.append_nil] at hsu
       repeat first|refine wV fun _=>?_|simp [go_sem]
       refine zBh (hrec2 (d2 - 1) (by omega) (c + 1) (by omega)) ?_ (by simp)
       simp [go_sem, zaf, hsd, hsu]
      ·rw [if_neg (by omega)] at hD'
       have hsu := zeL g p k c
       rw [hD'] at hsu
       simp only [Option.toList_some] at hsu
       have hcl := zlJ g p k c
       have hkm : k * p.at_.length ≤ 6 * 9 := Nat.mul_le_mul (by omega) (by omega)
       repeat first|refine wV fun _=>?_|simp [go_sem, hci]
       refine zBq hcp (by simp [go_sem]) ?_
       repeat first|refine wV fun _=>?_|simp [go_sem, hci, hsd]
       refine zBl hCd (by simp [go_sem]) ?_
       repeat first|refine wV fun _=>?_|simp [go_sem, hsn, hsd, hci, hkh]
       refine zBh (hrec2 (d2 - 1) (by omega) (c + 1) (by omega)) ?_ (by simp)
       simp [go_sem, zaf, hsd, hsu]
       (first|done|exact rwX)
     ·have hcl : c = p.at_.length := by omega
      subst hcl
      rw [ha]
      repeat first|refine wV fun _=>?_|simp [go_sem]
      refine zBh (hrec (d - 1) (by omega) (k + 1) (by omega)) ?_ (by simp)
      simp [go_sem, zaf, hsd]
    ·omega
    ·simp [go_sem, zaf, hsd, hz]
    ·simp
   ·have hkl : k = g.kinds.length := by omega
    subst hkl
    have hdl := zfV g p g.kinds.length
    have hkm : g.kinds.length * p.at_.length ≤ 6 * 9 := Nat.mul_le_mul k6 (by omega)
    have hS := zf5 (zck g p g.kinds.length) (by omega) (fun q hq => by
     rw [zhX] at hq
     obtain ⟨k, hk, hq⟩ := List.mem_flatMap.1 hq
     obtain ⟨c, hc, hq⟩ := List.mem_filterMap.1 hq
     exact (zm6 hg hp (by simpa using hk) hq).1.fits hg)
    rw [show zcI zcK (zck g p g.kinds.length) = zdB g p from rfl] at hS
    generalize zck g p g.kinds.length = l at *
    generalize zdB g p = r at *
    repeat first|refine wV fun _=>?_|simp [go_sem]
    refine zBp [2] hS ?_ (zAb (zdA _)) ?_
    ·(first|done|exact agX)
    ·repeat first|refine wV fun _=>?_|simp [go_sem]
  ·omega
  ·simp [go_sem, zaf, hsd, show zck g p 0 = [] from rfl]
  ·simp
theorem zqz (f : Int → Bool) (l : List Int) {i : Nat} (h : i < l.length) : (l.take (i + 1)).countP f = (l.take i).countP f + (if f (nth l i) then 1 else 0) := by
 rw [List.take_add_one, List.getElem?_eq_getElem h, zaA _ _ h, Option.toList_some, List.countP_append]
 simp [List.countP_cons]
theorem zoI {α : Type} [Inhabited α] (f : α → Bool) (l : List α) {i : Nat} (hi : i < l.length) (hb : ∀ j, j < i → f (nth l j) = false) (h : f (nth l i) = true) : l.findIdx? f = some i := by
 rw [List.findIdx?_eq_some_iff_getElem]
 refine ⟨hi, by rw [← zaA _ _ hi]; exact h, fun j hj => ?_⟩
 have := hb j hj
 rw [zaA _ _ (by omega)] at this
 simp [this]
theorem zoH {α : Type} [Inhabited α] (f : α → Bool) (l : List α) (hb : ∀ j, j < l.length → f (nth l j) = false) : l.findIdx? f = none := by
 rw [List.findIdx?_eq_none_iff]
 intro x hx
 obtain ⟨j, hj, rfl⟩ := List.getElem_of_mem hx
 have := hb j hj
 rwa [zaA _ _ hj] at this
def zkV (p : zal) (side : Int) (K : Nat) (j : Nat) : List Int := (List.range K).map fun (k : Nat) => (((p.at_.take j).countP (znn p side k) : Nat) : Int)
theorem zm0 (p : zal) (side : Int) (K j : Nat) : (zkV p side K j).length = K := by simp [zkV]
theorem znx (p : zal) (side : Int) (K j : Nat) {k : Nat} (hk : k < K) : nth (zkV p side K j) k = (((p.at_.take j).countP (znn p side k) : Nat) : Int) := by
 rw [zaA _ _ (by rw [zm0]; exact hk)]; simp [zkV]
theorem zok {p : zal} {side : Int} {K j : Nat} (hj : j < p.at_.length) : zkV p side K (j + 1) = (List.range K).map fun (k : Nat) => (((p.at_.take j).countP (znn p side k) + (if znn p side k (nth p.at_ j) then 1 else 0) : Nat) : Int) := by
 unfold zkV
 refine List.map_congr_left fun k _ => ?_
 rw [zqz _ _ hj]
theorem zAm {p : zal} {side : Int} {K j : Nat} (hj : j < p.at_.length) (h : ∀ k : Nat, znn p side k (nth p.at_ j) = false) : zkV p side K (j + 1) = zkV p side K j := by
 rw [zok hj]
 unfold zkV
 refine List.map_congr_left fun k _ => ?_
 rw [h k]; simp
theorem zyg {p : zal} {side : Int} {K j m : Nat} (hj : j < p.at_.length) (hm : m < K) (h : ∀ k : Nat, znn p side k (nth p.at_ j) = decide (k = m)) :
  zkV p side K (j + 1) = (zkV p side K j).set m (nth (zkV p side K j) m + 1) := by
 rw [zok hj]
 refine List.ext_getElem (by simp [zkV]) fun k h1 h2 => ?_
 have hk : k < K := by simpa using h1
 rw [List.getElem_set]
 by_cases e : m = k
 ·subst e
  rw [if_pos rfl, znx _ _ _ _ hk]
  simp [h]
 ·rw [if_neg e]
  simp [zkV, h, Ne.symm e]
def zeI (g : zac) (p : zal) (side : Int) : List Int := zkV p side g.kinds.length p.at_.length
theorem zko (g : zac) (p : zal) (side : Int) {k : Nat} (hk : k < g.kinds.length) : nth (zeI g p side) k = zyM p side k := by
 unfold zeI; rw [znx _ _ _ _ hk, List.take_length]; rfl
theorem zxp {m s : Int} (h0 : 0 ≤ m) (hs : s = 0 ∨ s = 1) : (1 + 2 * m + s - 1).tmod 2 = s ∧ (1 + 2 * m + s - 1).tdiv 2 = m := by
 rw [Int.tmod_eq_emod_of_nonneg (by omega), Int.tdiv_eq_ediv_of_nonneg (by omega)]
 omega
theorem zlq (g : zac) (hg : GOk g) (p : zal) (hp : POk g p) (side : Int) (hsd : side = 0 ∨ side = 1) :
  zaJ Tryz.prog 360 [.agg (zad g), .agg (zag p), .v (.int .i64 side)] (zaj (zeI g p side)) := by
 refine pF Tryz.func360 ?_
 have hal := hp.al
 have c9 := hg.c9
 have k6 := hg.k6
 have hall := fun j => zm0 p side g.kinds.length j
 have hz : List.replicate g.kinds.length [AV.v (.int .i64 0)] = (zkV p side g.kinds.length 0).map zbd := by
  refine List.ext_getElem (by simp [zkV]) fun k h1 h2 => ?_
  simp [zkV, zbd]
 repeat first|refine wV fun _=>?_|simp [go_sem]
 refine zBh (zBk (α := Nat) (fun j => ⟨[(2, .v (.int .i64 side)), (7, .sl 2 0 1 0 g.kinds.length), (15, zaj p.at_), (16, .v (.int .i64 p.at_.length)), (17, .v (.int .i64 j))], [(2, .rows true 0 1 ((zkV p side g.kinds.length j).map zbd))], 3⟩)
  (fun d j => j + d = p.at_.length) ?_ p.at_.length 0 ?_) ?_ ?_
 ·rintro d j j1 hrec
  repeat first|refine wV fun _=>?_|simp [go_sem]
  refine zBj (fun hj => ?_) (fun hj => ?_) <;> simp at hj
  ·have hat := hp.at (i := j) (by omega)
   have hman := zbl hat.1 hat.2 hg.k6
   have hM : ∀ k : Nat, znn p side k (nth p.at_ j) = (decide (0 ≤ (zav (nth p.at_ j)).1) && decide ((zav (nth p.at_ j)).2 = side) && (decide ((k : Int) < 0) || decide ((zav (nth p.at_ j)).1 = k))) := fun k => rfl
   have hno := zAm (p := p) (side := side) (K := g.kinds.length) hj
   have hyes := fun m => zyg (p := p) (side := side) (K := g.kinds.length) (m := m) hj
   rcases hman with ⟨h0, hm⟩ | ⟨h0, hm0, hmk, hms, he⟩
   ·rw [hm] at hM
    have hno := hno (fun k => by rw [hM]; simp)
    repeat first|refine wV fun _=>?_|simp [go_sem, hj, h0]
    refine zBh (hrec (d - 1) (by omega) (j + 1) (by omega)) ?_ (by simp)
    simp [go_sem, zaf, hno]
   ·have ht := zxp hm0 hms
    rw [← he] at ht
    have hpos : 0 < nth p.at_ j := by omega
    by_cases hs : (zav (nth p.at_ j)).2 = side
    ·obtain ⟨m, hmm⟩ : ∃ m : Nat, (zav (nth p.at_ j)).1 = m := ⟨(zav (nth p.at_ j)).1.toNat, by omega⟩
     rw [hmm] at ht hmk
     have hmk' : m < g.kinds.length := by omega
     have hyes := hyes m hmk' (fun k => by rw [hM, hmm, decide_eq_true hs]; by_cases e : k = m <;> simp [e] <;> omega)
     have hb : 0 ≤ nth (zkV p side g.kinds.length j) m ∧ nth (zkV p side g.kinds.length j) m ≤ 9 := by
      rw [znx _ _ _ _ hmk']
      have : (p.at_.take j).countP (znn p side m) ≤ (p.at_.take j).length := List.countP_le_length
      rw [List.length_take] at this
      omega
     have hlm : m < (zkV p side g.kinds.length j).length := by rw [hall]; exact hmk'
     rw [hs] at ht
     repeat first|refine wV fun _=>?_|simp [go_sem, hj, hpos, ht.1, ht.2, hlm, hall, hmk']
     refine zBh (hrec (d - 1) (by omega) (j + 1) (by omega)) ?_ (by simp)
     simp [go_sem, zaf, hyes, List.map_set, zbd]
    ·have hno := hno (fun k => by rw [hM, decide_eq_false hs]; simp)
     repeat first|refine wV fun _=>?_|simp [go_sem, hj, hpos, ht.1, ht.2, hs]
     refine zBh (hrec (d - 1) (by omega) (j + 1) (by omega)) ?_ (by simp)
     simp [go_sem, zaf, hno]
  ·have e : j = p.at_.length := by omega
   subst e
   repeat first|refine wV fun _=>?_|simp [go_sem]
   exact zaL rfl (by simp [hall]) (by simp [noH, upd]) (by simp [zeI]; exact List.take_of_length_le (by simp [hall]))
 ·omega
 ·simp [go_sem, zaf, hz]
 ·simp
end Go.Av
end
section
/- Contracts: play.conditions, play.ended. -/
open Go Go.Proofs
namespace Go.Av
theorem zAI {g : zac} (hg : GOk g) {p : zal} (hp : POk g p) (s k : Int) : zyM p s k ≤ 9 := Nat.le_trans List.countP_le_length (by have := hg.c9; have := hp.al; omega)
theorem zjM (g : zac) (p : zal) (side : Int) : (zeI g p side).length = g.kinds.length := zm0 _ _ _ _
theorem zr3 (m : Int) (s side : Int) : ∀ K : Nat, 0 ≤ m → ((List.range K).map fun (k : Nat) => if (decide (0 ≤ m) && decide (s = side) && (decide ((k : Int) < 0) || decide (m = k))) = true then (1 : Nat) else 0).sum = if m < K ∧ s = side then 1 else 0
 | 0, h => by simp; omega
 | K + 1, h => by
  rw [List.range_succ, List.map_append, List.sum_append, zr3 m s side K h]
  have e : (if (decide (0 ≤ m) && decide (s = side) && (decide ((K : Int) < 0) || decide (m = K))) = true then (1 : Nat) else 0) = if s = side ∧ m = K then 1 else 0 := by
   have : ¬ (K : Int) < 0 := by omega
   simp [h, this]
  simp only [List.map_cons, List.map_nil, List.sum_cons, List.sum_nil, e, Nat.add_zero]
  by_cases hs : s = side
  ·by_cases h1 : m < K
   ·rw [if_pos ⟨h1, hs⟩, if_neg (by omega), if_pos ⟨by omega, hs⟩]
   ·by_cases h2 : m = K
    ·rw [if_neg (by omega), if_pos ⟨hs, h2⟩, if_pos ⟨by omega, hs⟩, Nat.zero_add]
    ·rw [if_neg (by omega), if_neg (by omega), if_neg (by omega)]
  ·rw [if_neg (by simp [hs]), if_neg (by simp [hs]), if_neg (by simp [hs])]
theorem znF : ∀ l : List Nat, (l.map fun _ => 0).sum = 0
 | [] => rfl
 | _ :: l => by simp [znF l]
theorem zxm (f h : Nat → Nat) : ∀ l : List Nat, (l.map fun k => f k + h k).sum = (l.map f).sum + (l.map h).sum
 | [] => rfl
 | k :: l => by simp [zxm f h l]; omega
theorem zww {K : Nat} (hK : K ≤ 6) (side : Int) : ∀ l : List Int, (∀ c ∈ l, 0 ≤ c ∧ c ≤ 2 * K) →
  ((List.range K).map fun (k : Nat) => l.countP fun c => decide (0 ≤ (zav c).1) && decide ((zav c).2 = side) && (decide ((k : Int) < 0) || decide ((zav c).1 = k))).sum =
   l.countP fun c => decide (0 ≤ (zav c).1) && decide ((zav c).2 = side) && (decide ((-1 : Int) < 0) || decide ((zav c).1 = -1))
 | [], _ => by simp [znF]
 | c :: l, h => by
  have ih := zww hK side l (fun x hx => h x (by simp [hx]))
  simp only [List.countP_cons]
  rw [zxm, ih]
  congr 1
  have hc := h c (by simp)
  rcases zbl hc.1 hc.2 hK with ⟨h0, hm⟩ | ⟨h0, hm0, hmk, hms, he⟩
  ·rw [hm]; simp [znF]
  ·rw [zr3 _ _ _ _ hm0]
   by_cases hs : (zav c).2 = side
   ·simp [hs, hm0, hmk]
   ·simp [hs]
theorem zAJ {g : zac} (hg : GOk g) {p : zal} (hp : POk g p) (side : Int) : ((List.range g.kinds.length).map fun (k : Nat) => zyM p side k).sum = zyM p side (-1) :=
 zww hg.k6 side p.at_ hp.av
section
variable (g : zac) (hg : GOk g) (p : zal) (hp : POk g p) (c : Int × Int × Int × Int) (hc : zeC g.cells g.kinds.length c)
theorem ztm (hg : GOk g) (hp : POk g p) (hc : zeC g.cells g.kinds.length c) (h1 : c.1 = 1) : zaJ Tryz.prog 359 [.agg (zad g), .agg (zag p), .agg (zaz c)] (.v (.bool (zfr c p))) := by
 refine pF Tryz.func359 ?_
 have hC := zlq g hg p hp p.side hp.s
 have hl := zjM g p p.side
 have hk := hc.kind
 have hck : c.2.1.toNat < (zeI g p p.side).length := by omega
 have hn := zko g p p.side (k := c.2.1.toNat) (by omega)
 rw [show ((c.2.1.toNat : Nat) : Int) = c.2.1 by omega] at hn
 have he : zfr c p = decide (nth (zeI g p p.side) c.2.1.toNat = 0) := by
  unfold zfr; rw [if_pos h1, hn]; simp
 rw [he]
 generalize zeI g p p.side = l at *
 obtain ⟨c0, c1, c2, c3⟩ := c
 simp only at hk hck
 repeat first|refine wV fun _=>?_|simp [go_sem]
 refine zBl hC (by simp [go_sem]) ?_
 repeat first|refine wV fun _=>?_|simp [go_sem, hck]
theorem ztn (hg : GOk g) (hp : POk g p) (hc : zeC g.cells g.kinds.length c) (h1 : c.1 = 2) : zaJ Tryz.prog 361 [.agg (zad g), .agg (zag p), .agg (zaz c)] (.v (.bool (zfr c p))) := by
 refine pF Tryz.func361 ?_
 have hal := hp.al
 have hps := hp.s
 have hn := hc.n
 have hcd := hn.2.1 h1
 have hci : c.2.2.1.toNat < p.at_.length := by omega
 have he : zfr c p = decide (nth p.at_ c.2.2.1.toNat = zc7 c.2.1 (1 - p.side)) := by
  unfold zfr; rw [if_neg (by omega), if_pos h1]
 rw [he]
 have hC := zfW c.2.1 (1 - p.side)
 obtain ⟨c0, c1, c2, c3⟩ := c
 simp only at hcd hci hC hn
 generalize zc7 c1 (1 - p.side) = code at *
 repeat first|refine wV fun _=>?_|simp [go_sem, hci]
 refine zBl hC (by simp [go_sem]) ?_
 repeat first|refine wV fun _=>?_|simp [go_sem, hci]
theorem zto (hg : GOk g) (hp : POk g p) (hc : zeC g.cells g.kinds.length c) (h1 : c.1 = 3) : zaJ Tryz.prog 362 [.agg (zad g), .agg (zag p), .agg (zaz c)] (.v (.bool (zfr c p))) := by
 refine pF Tryz.func362 ?_
 have hC := zlq g hg p hp p.side hp.s
 have hl := zjM g p p.side
 have k6 := hg.k6
 have hnn := fun (k : Nat) hk => zko g p p.side (k := k) hk
 have hle := fun k : Nat => zAI hg hp p.side k
 have hall := zAJ hg hp p.side
 obtain ⟨S, hS⟩ : ∃ S : Nat → Nat, S = fun i => ((List.range i).map fun (k : Nat) => zyM p p.side k).sum := ⟨_, rfl⟩
 have hS0 : S 0 = 0 := by rw [hS]; rfl
 have hSs : ∀ i, S (i + 1) = S i + zyM p p.side i := fun i => by rw [hS]; simp [List.range_succ]
 have hSK : S g.kinds.length = zyM p p.side (-1) := by rw [hS]; exact hall
 have hSb : ∀ i, S i ≤ 9 * i := fun i => by
  induction i with
  | zero => omega
  | succ i ih => rw [hSs]; have := hle i; omega
 have he : zfr c p = decide ((S g.kinds.length : Int) ≤ c.2.2.1) := by
  unfold zfr; rw [if_neg (by omega), if_neg (by omega), hSK]
 rw [he]
 clear hS
 generalize zeI g p p.side = l at *
 obtain ⟨c0, c1, c2, c3⟩ := c
 repeat first|refine wV fun _=>?_|simp [go_sem]
 refine zBi hC (by simp [go_sem]) ?_
 repeat first|refine wV fun _=>?_|simp [go_sem]
 refine zBh (zBk (α := Nat) (fun i => ⟨[(5, .ref 2 0 4 0 0), (7, .v (.int .i64 (S i))), (14, zaj l), (15, .v (.int .i64 l.length)), (16, .v (.int .i64 i))], [(2, .rows true 0 4 [zaz (c0, c1, c2, c3)])], 3⟩)
  (fun d i => i + d = l.length) ?_ l.length 0 ?_) ?_ ?_
 ·rintro d i i1 hrec
  repeat first|refine wV fun _=>?_|simp [go_sem]
  refine zBj (fun hi => ?_) (fun hi => ?_) <;> simp at hi
  ·have h2 := hnn i (by omega)
   have h3 := hle i
   have h4 := hSb i
   have h5 := hSs i
   repeat first|refine wV fun _=>?_|simp [go_sem, hi]
   refine zBh (hrec (d - 1) (by omega) (i + 1) (by omega)) ?_ (by simp)
   simp [go_sem, zaf, h5, h2]
  ·have e : i = l.length := by omega
   subst e
   rw [hl]
   repeat first|refine wV fun _=>?_|simp [go_sem]
 ·omega
 ·simp [go_sem, zaf, hS0]
 ·simp
end
def zel (g : zac) (p : zal) : Int × Bool := if 0 ≤ zdp g p then ((nth g.clauses (zdp g p).toNat).2.2.2, true) else (0, false)
theorem znh : glbs.lookup 0 = some [.v .nilFunc, .fn (.func 359) [] [], .fn (.func 361) [] [], .fn (.func 362) [] []] := rfl
theorem zlL (g : zac) (hg : GOk g) (p : zal) (hp : POk g p) : zaJ Tryz.prog 70 [.agg (zad g), .agg (zag p)] (.tup [.v (.int .i64 (zel g p).1), .v (.bool (zel g p).2)]) := by
 refine pF Tryz.func70 ?_
 have hcn := hg.cn
 repeat first|refine wV fun _=>?_|simp [go_sem]
 refine zBh (zBk (α := Nat) (fun i => ⟨[(2, .ref 0 0 9 0 0), (3, .ref 1 0 5 0 0), (9, .lst 4 (g.clauses.map zaz)), (10, .v (.int .i64 g.clauses.length)), (11, .v (.int .i64 i))], [(0, .rows true 0 9 [zad g]), (1, .rows true 0 5 [zag p])], 2⟩)
  (fun d i => i + d = g.clauses.length ∧ ∀ j, j < i → zfr (nth g.clauses j) p = false) ?_ g.clauses.length 0 ?_) ?_ ?_
 ·rintro d i ⟨i1, i2⟩ hrec
  repeat first|refine wV fun _=>?_|simp [go_sem]
  refine zBj (fun hi => ?_) (fun hi => ?_) <;> simp at hi
  ·have hcl := hg.cl _ (zah hi)
   have hfi : zfr (nth g.clauses i) p = true → zel g p = ((nth g.clauses i).2.2.2, true) := fun hc => by
    have he : zdp g p = i := by unfold zdp; rw [zoI (fun c => zfr c p) g.clauses hi i2 hc]
    unfold zel
    rw [he, if_pos (by omega)]; simp
   have h1 := ztm g p _ hg hp hcl
   have h2 := ztn g p _ hg hp hcl
   have h3 := zto g p _ hg hp hcl
   have hcond := hcl.cond
   obtain ⟨c, hcc⟩ : ∃ c, c = nth g.clauses i := ⟨_, rfl⟩
   rw [← hcc] at hfi h1 h2 h3 hcond
   have fin : ∀ b, zfr c p = b → b = false → ∀ j, j < i + 1 → zfr (nth g.clauses j) p = false := by
    intro b hb hf j hj
    rcases Nat.lt_or_ge j i with h | h
    ·exact i2 j h
    ·obtain rfl : j = i := by omega
     rw [← hcc, hb, hf]
   obtain ⟨c0, c1, c2, c3⟩ := c
   generalize hcb : zfr (c0, c1, c2, c3) p = b at *
   simp only at hcond hfi
   rcases hcond with rfl | rfl | rfl
   ·have hC := h1 rfl
    repeat first|refine wV fun _=>?_|simp [go_sem, hi, ← hcc, znh]
    refine zBl hC (by simp [go_sem]) ?_
    repeat first|refine wV fun _=>?_|simp [go_sem]
    cases b
    ·repeat first|refine wV fun _=>?_|simp [go_sem]
     refine zBh (hrec (d - 1) (by omega) (i + 1) ⟨by omega, fin _ rfl rfl⟩) ?_ (by simp)
     simp [go_sem, zaf]
    ·rw [hfi rfl]
     repeat first|refine wV fun _=>?_|simp [go_sem]
   ·have hC := h2 rfl
    repeat first|refine wV fun _=>?_|simp [go_sem, hi, ← hcc, znh]
    refine zBl hC (by simp [go_sem]) ?_
    repeat first|refine wV fun _=>?_|simp [go_sem]
    cases b
    ·repeat first|refine wV fun _=>?_|simp [go_sem]
     refine zBh (hrec (d - 1) (by omega) (i + 1) ⟨by omega, fin _ rfl rfl⟩) ?_ (by simp)
     simp [go_sem, zaf]
    ·rw [hfi rfl]
     repeat first|refine wV fun _=>?_|simp [go_sem]
   ·have hC := h3 rfl
    repeat first|refine wV fun _=>?_|simp [go_sem, hi, ← hcc, znh]
    refine zBl hC (by simp [go_sem]) ?_
    repeat first|refine wV fun _=>?_|simp [go_sem]
    cases b
    ·repeat first|refine wV fun _=>?_|simp [go_sem]
     refine zBh (hrec (d - 1) (by omega) (i + 1) ⟨by omega, fin _ rfl rfl⟩) ?_ (by simp)
     simp [go_sem, zaf]
    ·rw [hfi rfl]
     repeat first|refine wV fun _=>?_|simp [go_sem]
  ·have he : zdp g p = -1 := by unfold zdp; rw [zoH (fun c => zfr c p) g.clauses (fun j hj => i2 j (by omega))]
   have he' : zel g p = (0, false) := by unfold zel; rw [he]; rfl
   rw [he']
   repeat first|refine wV fun _=>?_|simp [go_sem]
 ·exact ⟨by simp, fun j hj => by omega⟩
 ·simp [go_sem, zaf]
 ·simp
end Go.Av
end
section
open Go Go.Proofs
namespace Go.Av
def zuf (o : zcU) : List AV := [.agg (zaM o)]
theorem zlH {n j : Nat} (h : j < n) : (List.range n).drop j = j :: (List.range n).drop (j + 1) := by
 rw [List.drop_eq_getElem_cons (by simpa using h)]; simp
theorem zwO (g : zac) (hg : GOk g) (p : zal) (hp : POk g p) : zxG Tryz.prog 125 [.fp (zag p), .fp (zad g)] 0 ((zgg g p).map zuf) := by
 refine zBH (by kernel_rfl) Tryz.func125 rfl rfl (Nat.le_of_ble_eq_true rfl) (by kernel_rfl) (fun l => ?_) (hm2 := by decide)
 have hal := hp.al
 have c9 := hg.c9
 have k6 := hg.k6
 have hgb : ∀ (n : Nat) (L : List zcU), Bel n (zbn l 0 (L.map zuf)) := fun n L => by
  simp only [zbn, zuE, zpI, List.forall_mem_cons, zzL, zb7]
  simp [go_sem, zuf]
 obtain ⟨oF, hoF⟩ : ∃ oF : Nat → List zcU, oF = fun j => ((List.range p.at_.length).drop j).flatMap (zdK g p) := ⟨_, rfl⟩
 have ho0 : zgg g p = oF 0 := by rw [hoF]; rfl
 have hos : ∀ j, j < p.at_.length → oF j = zdK g p j ++ oF (j + 1) := fun j hj => by rw [hoF]; simp only; rw [zlH hj, List.flatMap_cons]
 have hon : oF p.at_.length = [] := by rw [hoF]; simp only; rw [List.drop_eq_nil_of_le (by simp)]; rfl
 rw [ho0]
 clear hoF ho0
 repeat first|refine wV fun _=>?_|simp [go_sem, GH]
 refine zBh (zBk (α := Nat) (fun j => ⟨[(0, .fn (.yield l) [] []), (1, .fp (zag p)), (2, .fp (zad g)), (14, zaj p.at_), (15, .v (.int .i64 p.at_.length)), (16, .v (.int .i64 j)), (1000000007, zbn l 0 ((oF j).map zuf))], [], 0⟩)
  (fun d j => j + d = p.at_.length) ?_ p.at_.length 0 ?_) ?_ ?_
 ·rintro d j j1 hrec
  repeat first|refine wV fun _=>?_|simp [go_sem, GH]
  refine zBj (fun hj => ?_) (fun hj => ?_) <;> simp at hj
  ·have hat := hp.at (i := j) (by omega)
   have hman := zbl hat.1 hat.2 hg.k6
   have hO := zj1 (nth p.at_ j)
   have hoj := hos j hj
   have hoa : zdK g p j = if 0 ≤ (zav (nth p.at_ j)).1 ∧ (zav (nth p.at_ j)).2 = p.side then (List.range (nth g.kinds (zav (nth p.at_ j)).1.toNat).progs.length).flatMap fun (i : Nat) => ze0 g p j i else [] := rfl
   have hrp : ∀ i : Nat, i < (nth g.kinds (zav (nth p.at_ j)).1.toNat).progs.length → 0 ≤ (zav (nth p.at_ j)).1 → (zav (nth p.at_ j)).2 = p.side → zct g p j i := fun i hi h1 h2 =>
    ⟨by omega, by omega, h1, h2, by omega, by simpa using hi⟩
   have hRun : ∀ i : Nat, i < (nth g.kinds (zav (nth p.at_ j)).1.toNat).progs.length → 0 ≤ (zav (nth p.at_ j)).1 → (zav (nth p.at_ j)).2 = p.side → _ := fun i hi h1 h2 => zuc g hg p hp j i (hrp i hi h1 h2)
   have hrl := fun (i : Nat) hi h1 h2 => zps hg hp (hrp i hi h1 h2)
   clear hrp
   generalize zav (nth p.at_ j) = m at *
   obtain ⟨mk, ms⟩ := m
   simp only at hoa hRun hman hO hrl
   repeat first|refine wV fun _=>?_|simp [go_sem, hj, GH]
   refine zBi hO (by simp [go_sem]) ?_
   repeat first|refine wV fun _=>?_|simp [go_sem, GH]
   refine zBj (fun hc => ?_) (fun hc => ?_) <;> simp at hc
   ·have hz : zdK g p j = [] := by rw [hoa, if_neg (by omega)]
    rw [hz, List.nil_append] at hoj
    rw [hoj]
    repeat first|refine wV fun _=>?_|simp [go_sem, GH]
    refine zBh (hrec (d - 1) (by omega) (j + 1) (by omega)) ?_ (by simp)
    simp [go_sem, zaf, hgb, GH]
   ·rw [if_pos (by omega)] at hoa
    have hmk : mk.toNat < g.kinds.length := by
     simp only [Prod.mk.injEq] at hman
     omega
    have hn8 := hg.pn _ (zah hmk)
    obtain ⟨np, hnp⟩ : ∃ np, np = (nth g.kinds mk.toNat).progs.length := ⟨_, rfl⟩
    rw [← hnp] at hoa hRun hn8 hrl
    obtain ⟨pF, hpF⟩ : ∃ pF : Nat → List zcU, pF = fun i => ((List.range np).drop i).flatMap (fun (i : Nat) => ze0 g p j i) ++ oF (j + 1) := ⟨_, rfl⟩
    have hp0 : oF j = pF 0 := by rw [hpF, hoj, hoa]; rfl
    have hps : ∀ i, i < np → pF i = ze0 g p j i ++ pF (i + 1) := fun i hi => by rw [hpF]; simp only; rw [zlH hi, List.flatMap_cons, List.append_assoc]
    have hpn : pF np = oF (j + 1) := by rw [hpF]; simp only; rw [List.drop_eq_nil_of_le (by simp)]; rfl
    rw [hp0]
    clear hpF hp0 hoa hoj
    repeat first|refine wV fun _=>?_|simp [go_sem, GH, hmk, ← hnp]
    refine zBh (zBk (α := Nat) (fun i => ⟨[(0, .fn (.yield l) [] []), (1, .fp (zag p)), (2, .fp (zad g)), (4, .v (.int .i64 j)), (14, zaj p.at_), (15, .v (.int .i64 p.at_.length)), (16, .v (.int .i64 j)), (40, .v (.int .i64 np)), (41, .v (.int .i64 i)), (1000000007, zbn l 0 ((pF i).map zuf))], [], 0⟩)
     (fun d i => i + d = np) ?_ np 0 ?_) ?_ ?_
    ·rintro d2 i i1 hrec2
     repeat first|refine wV fun _=>?_|simp [go_sem, GH]
     refine zBj (fun hi => ?_) (fun hi => ?_) <;> simp at hi
     ·have hR := hRun i hi (by omega) (by omega)
      have hpi := hps i hi
      obtain ⟨rs, hrs⟩ : ∃ rs, rs = ze0 g p j i := ⟨_, rfl⟩
      have hrl' := hrl i hi (by omega) (by omega)
      rw [← hrs] at hR hpi hrl'
      obtain ⟨rF, hrF⟩ : ∃ rF : Nat → List zcU, rF = fun t => rs.drop t ++ pF (i + 1) := ⟨_, rfl⟩
      have hr0 : pF i = rF 0 := by rw [hrF, hpi]; rfl
      have hrt : ∀ t, t < rs.length → rF t = nth rs t :: rF (t + 1) := fun t ht => by rw [hrF]; simp only; rw [zaG ht]; rfl
      have hrn : rF rs.length = pF (i + 1) := by rw [hrF]; simp
      rw [hr0]
      clear hrF hr0
      repeat first|refine wV fun _=>?_|simp [go_sem, GH]
      refine zBi hR (by simp [go_sem]) ?_
      repeat first|refine wV fun _=>?_|simp [go_sem, GH]
      refine zBh (zBk (α := Nat) (fun t => ⟨[(0, .fn (.yield l) [] []), (1, .fp (zag p)), (2, .fp (zad g)), (4, .v (.int .i64 j)), (14, zaj p.at_), (15, .v (.int .i64 p.at_.length)), (16, .v (.int .i64 j)), (40, .v (.int .i64 np)), (41, .v (.int .i64 i)), (52, zdC rs), (53, .v (.int .i64 rs.length)), (54, .v (.int .i64 t)), (1000000007, zbn l 0 ((rF t).map zuf))], [], 0⟩)
       (fun d t => t + d = rs.length) ?_ rs.length 0 ?_) ?_ ?_
      ·rintro d3 t t1 hrec3
       repeat first|refine wV fun _=>?_|simp [go_sem, GH]
       refine zBj (fun ht => ?_) (fun ht => ?_) <;> simp at ht
       ·rw [hrt t ht]
        repeat first|refine wV fun _=>?_|simp [go_sem, GH, ht]
        refine zz5.mk (more := 0) (xs := zuf (nth rs t)) (rs := (rF (t + 1)).map zuf) _ (by simp [upd, GH]) (.refl _) (.refl _ _ _ _) (by simp [go_sem, zuf]) ?_ ?_
        ·repeat first|refine wV fun _=>?_|simp [go_sem, GH]
         refine zBh (hrec3 (d3 - 1) (by omega) (t + 1) (by omega)) ?_ (by simp)
         simp [go_sem, zaf, hgb, GH]
        ·repeat first|refine wV fun _=>?_|simp [go_sem, GH]
       ·have e : t = rs.length := by omega
        subst e
        rw [hrn]
        repeat first|refine wV fun _=>?_|simp [go_sem, GH]
        refine zBh (hrec2 (d2 - 1) (by omega) (i + 1) (by omega)) ?_ (by simp)
        simp [go_sem, zaf, hgb, GH]
      ·omega
      ·simp [go_sem, zaf, hgb, GH]
      ·simp
     ·have e : i = np := by omega
      subst e
      rw [hpn]
      repeat first|refine wV fun _=>?_|simp [go_sem, GH]
      refine zBh (hrec (d - 1) (by omega) (j + 1) (by omega)) ?_ (by simp)
      simp [go_sem, zaf, hgb, GH]
    ·omega
    ·simp [go_sem, zaf, hgb, GH]
    ·simp
  ·have e : j = p.at_.length := by omega
   subst e
   rw [hon]
   repeat first|refine wV fun _=>?_|simp [go_sem, GH]
 ·omega
 ·simp [go_sem, zaf, hgb, GH]
 ·simp
def zwT (n : Nat) : AV := .fn (.func 125) [] [.ref (n + 1) 0 5 0 0, .ref n 0 9 0 0]
def zwP (g : zac) (p : zal) (n : Nat) : List (Nat × zbi) := [(n, .rows true 0 9 [zad g]), (n + 1, .rows true 0 5 [zag p])]
theorem zny (g : zac) (p : zal) : zlt Tryz.prog 71 [.agg (zad g), .agg (zag p)] zwT (zwP g p) 2 := by
 refine ⟨?_, fun n => ⟨by simp [go_sem, zwT], by simp [go_sem, zwP]⟩⟩
 refine zBm (by kernel_rfl) Tryz.func71 rfl rfl (Nat.le_of_ble_eq_true rfl) (by kernel_rfl) ?_
 repeat first|refine wV fun _=>?_|simp [go_sem, zwT, zwP]
 simp [go_sem, zaf]
theorem zrT (g : zac) (p : zal) : (zel g p).2 = decide (0 ≤ zdp g p) := by
 unfold zel; split <;> simp_all
theorem zvd {α : Type} (f : α → Bool) : ∀ l : List α, l.any f = decide (0 < (l.filter f).length)
 | [] => rfl
 | x :: l => by cases h : f x <;> simp [h, zvd f l]
theorem zef (g : zac) (hg : GOk g) (p : zal) (hp : POk g p) : zaJ Tryz.prog 20 [.agg (zad g), .agg (zag p)] (zaV (zaN g p)) := by
 refine pF Tryz.func20 ?_
 have hE := zlL g hg p hp
 have hD := zrj g hg p hp
 have hdl := zlK hg hp
 have hdo := fun q hq => ((zoq hg hp) q hq).1.fits hg
 have hol := zwS hg hp
 have hoo := fun o ho => ((zr5 hg hp) o ho).1.fits hg
 have hS : zlt Tryz.prog 71 [.agg (zad g), .agg (zag p)] (fun n => zwT n) (fun n => zwP g p n) 2 := zny g p
 have hQ := zwO g hg p hp
 simp only [zwT, zwP] at hS
 have e2 := zrT g p
 have hMv : zaN g p = if 0 ≤ zdp g p then [] else zcI zcK (zhr g p) := rfl
 have hML : zhr g p = ((zgg g p).filter fun o => !ziT g p || o.took).map (·.pos) ++ (if ziT g p then [] else zdB g p) := rfl
 have hMu : ziT g p = (g.must && (zgg g p).any (·.took)) := rfl
 rw [e2] at hE
 rw [hMv]
 generalize zdp g p = ep at *
 generalize (zel g p).1 = ev1 at *
 generalize zgg g p = outs at *
 generalize zdB g p = drops at *
 generalize ziT g p = must at *
 generalize zhr g p = mvl at *
 clear hMv e2
 repeat first|refine wV fun _=>?_|simp [go_sem]
 refine zBi hE (by simp [go_sem]) ?_
 repeat first|refine wV fun _=>?_|simp [go_sem]
 refine zBj (fun he => ?_) (fun he => ?_) <;> simp at he
 ·rw [if_pos he]
  repeat first|refine wV fun _=>?_|simp [go_sem]
 ·rw [if_neg (by omega)]
  repeat first|refine wV fun _=>?_|simp [go_sem, GH]
  refine zBq hS (by simp [go_sem]) ?_
  repeat first|refine wV fun _=>?_|simp [go_sem, GH]
  refine zgZ.mk [.fp (zag p), .fp (zad g)] (zbB _ [4, 5]) hQ (zc5 _ _) ?_ (by simp [go_sem]) (by simp [zuf]) ?_
  ·refine zam.cons (.frzP rfl ?_ ?_ ?_ ?_) (zam.cons (.frzP rfl ?_ ?_ ?_ ?_) .nil) <;> first | exact zam.refl _ _ _ _ | simp [zbB, zb5, upd]
  obtain ⟨al, hal⟩ : ∃ al : Nat → List zal, al = fun k => (outs.take k).map (·.pos) := ⟨_, rfl⟩
  obtain ⟨tk, htk⟩ : ∃ tk : Nat → List zal, tk = fun k => ((outs.take k).filter (·.took)).map (·.pos) := ⟨_, rfl⟩
  have hall : ∀ k, (al k).length ≤ 7200000000 := fun k => by rw [hal]; simp; omega
  have htkl : ∀ k, (tk k).length ≤ 7200000000 := fun k => by rw [htk]; simp only [List.length_map]; have := List.length_filter_le (·.took) (outs.take k); simp at this; omega
  have hals : ∀ k, k < outs.length → al (k + 1) = al k ++ [(nth outs k).pos] := fun k hk => by rw [hal]; simp only; rw [List.take_add_one, List.getElem?_eq_getElem hk, zaA _ _ hk, Option.toList_some, List.map_append]; rfl
  have htks : ∀ k, k < outs.length → tk (k + 1) = if (nth outs k).took = true then tk k ++ [(nth outs k).pos] else tk k := fun k hk => by
   rw [htk]; simp only; rw [List.take_add_one, List.getElem?_eq_getElem hk, zaA _ _ hk, Option.toList_some, List.filter_append]
   cases hq : outs[k].took <;> simp [hq]
  have hal0 : al 0 = [] := by rw [hal]; rfl
  have htk0 : tk 0 = [] := by rw [htk]; rfl
  have halE : al outs.length = outs.map (·.pos) := by rw [hal]; simp
  have htkE : tk outs.length = (outs.filter (·.took)).map (·.pos) := by rw [htk]; simp
  clear hal htk
  refine Fgt.to (zBG (α := Nat) (fun k => ([(2, .ref 0 0 9 0 0), (3, .ref 1 0 5 0 0), (7, .ref 2 0 1 0 0), (8, .ref 3 0 1 0 0)], [(0, .rows true 0 9 [zad g]), (1, .rows true 0 5 [zag p]), (2, .rows true 0 1 [[.sl 6 (al k).length 5 0 (al k).length]]), (3, .rows true 0 1 [[.sl 7 (tk k).length 5 0 (tk k).length]]),
    (6, .rows true (al k).length 5 ((al k).map zag)), (7, .rows true (tk k).length 5 ((tk k).map zag))], 8))
   (fun rows k => rows = (outs.drop k).map zuf ∧ k ≤ outs.length) ?_ ?_ _ 0 ?_) ?_ ?_
  ·rintro k ⟨i1, i2⟩
   have hk : k = outs.length := by
    have := congrArg List.length i1
    simp at this
    omega
   subst hk
   refine ⟨rfl, ?_⟩
   have hmu : must = (g.must && decide (0 < (tk outs.length).length)) := by
    rw [hMu, htkE, zvd, List.length_map]
   have hft : ∀ q ∈ tk outs.length, zbw q := fun q hq => by
    rw [htkE] at hq
    obtain ⟨o, ho, rfl⟩ := List.mem_map.1 hq
    exact hoo o (List.mem_filter.1 ho).1
   have hfa : ∀ q ∈ al outs.length, zbw q := fun q hq => by
    rw [halE] at hq
    obtain ⟨o, ho, rfl⟩ := List.mem_map.1 hq
    exact hoo o ho
   have hla := hall outs.length
   have hlt := htkl outs.length
   by_cases hm : must = true
   ·rw [hm] at hmu hML
    have hgm : g.must = true := by cases h : g.must <;> simp [h] at hmu ⊢
    have hpos : 0 < (tk outs.length).length := by rw [hgm] at hmu; simpa using hmu
    have hpos' : (0 : Int) < (tk outs.length).length := by omega
    have e : mvl = tk outs.length := by rw [hML, htkE]; simp
    rw [e]
    generalize tk outs.length = tks at *
    have hS1 := zf5 tks (by omega) hft
    repeat first|refine wV fun _=>?_|simp [go_sem, GH, ← hmu]
    refine zBp [7] hS1 ?_ (zAb (zdA _)) ?_
    ·(first|done|exact agX)
    ·repeat first|refine wV fun _=>?_|simp [go_sem, GH]
   ·have e : mvl = al outs.length ++ drops := by
     simp only [Bool.not_eq_true] at hm
     rw [hML, hm, halE, List.filter_eq_self.2 (by simp)]; simp
    rw [e]
    have hS1 := zf5 (al outs.length ++ drops) (by rw [List.length_append]; omega) (fun q hq => by
     rcases List.mem_append.1 hq with h | h
     ·exact hfa q h
     ·exact hdo q h)
    simp only [Bool.not_eq_true] at hm
    rw [hm] at hmu
    generalize al outs.length = als at *
    generalize tk outs.length = tks at *
    generalize zcI zcK (als ++ drops) = res at *
    repeat first|refine wV fun _=>?_|simp [go_sem, GH, ← hmu]
    refine zBl hD (by simp [go_sem]) ?_
    repeat first|refine wV fun _=>?_|simp [go_sem, GH]
    refine zaQ.frz [zaV (als ++ drops)] _ [6] [(6, some (.rows false (als.length + 1) 5 ((als ++ drops).map zag)))] hS1 ?_ ?_ (zAb (zdA _)) ?_
    ·intro q hq
     simp only [List.mem_singleton] at hq
     subst hq
     exact ⟨by simp, als.length + 1, 5, _, rfl, by simp [upd]⟩
    ·intro h₁ hS
     have h6 := hS 6 (by simp)
     simp [upd] at h6
     exact .cons (zaL h6.symm (by simp) (by simp [zai, upd]) (by simp; exact List.take_of_length_le (by simp))) .nil
    ·repeat first|refine wV fun _=>?_|simp [go_sem, GH]
  ·rintro xs rs k ⟨i1, i2⟩ hrec
   have hk : k < outs.length := by
    have := congrArg List.length i1
    simp at this
    omega
   rw [zaG hk, List.map_cons, List.cons.injEq] at i1
   obtain ⟨rfl, rfl⟩ := i1
   have hals := hals k hk
   have htks := htks k hk
   have h1 := hall k
   have h2 := htkl k
   obtain ⟨o, ho⟩ : ∃ o, o = nth outs k := ⟨_, rfl⟩
   rw [← ho] at hals htks ⊢
   obtain ⟨op, ot⟩ := o
   simp only at hals htks
   generalize hrs : (outs.drop (k + 1)).map zuf = rs at *
   refine zBO (Nat.zero_le _) ?_
   repeat first|refine wV fun _=>?_|simp [go_sem, GH, zuf]
   cases ot
   ·rw [if_neg (by simp)] at htks
    repeat first|refine wV fun _=>?_|simp [go_sem, GH]
    refine Fgt.to (hrec (k + 1) ⟨hrs.symm, by omega⟩) ?_ (by simp)
    simp [go_sem, zaf, GH, hals, htks]
   ·rw [if_pos rfl] at htks
    repeat first|refine wV fun _=>?_|simp [go_sem, GH]
    refine Fgt.to (hrec (k + 1) ⟨hrs.symm, by omega⟩) ?_ (by simp)
    simp [go_sem, zaf, GH, hals, htks]
  ·exact ⟨rfl, Nat.zero_le _⟩
  ·simp [go_sem, zaf, hal0, htk0]
  ·simp
theorem zgy (x : zir) (hx : zsE x) (hl : x.c.length ≤ 1099511627776) (hl0 : x.k0.length ≤ 1099511627776) (hl1 : x.k1.length ≤ 1099511627776) : zaJ Tryz.prog 15 [.agg (zb0 x)] (.agg (zad (zdd x))) := by
 refine pF Tryz.func15 ?_
 obtain ⟨eg, heg⟩ : ∃ eg, eg = zad (zdd x) := ⟨_, rfl⟩
 rw [← heg]
 have hB := zpX x.w x.h x.cut hx.w hx.h hx.cut
 have hok := ziv hx.w.1 hx.h.1 x.cut
 have hb : zfi x.w x.h x.cut = x.board := rfl
 rw [hb] at hB hok
 have r0 := Int.tmod_nonneg 3 hx.f0.1
 have r1 := Int.tmod_lt_of_pos x.f0 (show (0 : Int) < 3 by decide)
 have f0 : 0 ≤ x.f0 ∧ x.f0 ≤ 255 := hx.f0
 have f1 : 0 ≤ x.f1 ∧ x.f1 ≤ 255 := hx.f1
 have f2 : 0 ≤ x.f2 ∧ x.f2 ≤ 255 := hx.f2
 have f3 : 0 ≤ x.f3 ∧ x.f3 ≤ 255 := hx.f3
 have f4 : 0 ≤ x.f4 ∧ x.f4 ≤ 255 := hx.f4
 have m1 := Int.tmod_nonneg 4 hx.f1.1
 have m3 := Int.tmod_nonneg 4 hx.f3.1
 have m4 := Int.tmod_nonneg 4 hx.f4.1
 have qq : ∀ n : Int, U8 n → (0 ≤ n.tdiv 4 ∧ n.tdiv 4 ≤ 63) ∧ 0 ≤ (n.tdiv 4).tmod 3 ∧ (n.tdiv 4).tmod 3 < 3 := fun n hn => by
  have h : n.tdiv 4 = n / 4 := Int.tdiv_eq_ediv_of_nonneg hn.1
  have h1 := hn.1
  have h2 := hn.2
  have h3 := Int.tmod_nonneg 3 (show 0 ≤ n.tdiv 4 by omega)
  have h4 := Int.tmod_lt_of_pos (n.tdiv 4) (show (0 : Int) < 3 by decide)
  omega
 obtain ⟨q3, q3'⟩ := qq _ hx.f3
 obtain ⟨q4, q4'⟩ := qq _ hx.f4
 obtain ⟨bl, hbl⟩ : ∃ bl, bl = if x.f3.tmod 4 = 3 then 1 + (x.f3.tdiv 4).tmod 3 else 3 := ⟨_, rfl⟩
 obtain ⟨en, hen⟩ : ∃ en, en = if x.f4.tmod 4 = 3 then 1 + (x.f4.tdiv 4).tmod 3 else 2 := ⟨_, rfl⟩
 obtain ⟨R, hR⟩ : ∃ R, R = x.rights := ⟨_, rfl⟩
 have hR' : x.f0.tmod 3 = R := by rw [hR]; rfl
 obtain ⟨b, hbb⟩ : ∃ b, b = x.board := ⟨_, rfl⟩
 rw [← hbb] at hB hok
 repeat first|refine wV fun _=>?_|simp [go_sem]
 refine zBl hB (by simp [go_sem]) ?_
 repeat first|refine wV fun _=>?_|simp [go_sem, hR']
 have hd8 : b.next.length = 8 := by rw [hbb]; exact zl3 _ _ _
 have hcell : 1 ≤ b.cells ∧ b.cells ≤ 9 := by rw [hbb]; exact zkb hx.w.1 hx.h.1 _
 obtain ⟨K, hK⟩ : ∃ K : Nat, K = zcV x := ⟨_, rfl⟩
 have hKn : zcV x = if x.k1.length = 0 then 1 else 2 := by unfold zcV; simp only [List.length_eq_zero_iff]
 have hKl : ∀ i, (x.ks i).length ≤ 1099511627776 := fun i => by unfold zir.ks; split <;> assumption
 have hKv : ∀ i, ∀ n ∈ x.ks i, U8 n := fun i => by unfold zir.ks; split; exact hx.k0; exact hx.k1
 refine zBj (fun hk1 => ?_) (fun hk1 => ?_) <;> simp at hk1
 ·have hK2 : zcV x = 2 := by rw [hKn, if_neg (by omega)]
  rw [hK2] at hK
  repeat first|refine wV fun _=>?_|simp [go_sem]
  refine zBh (zBk (α := Nat) (fun a => ⟨[(1, .ref 0 0 12 0 0), (2, .ref 1 0 9 0 0), (3, .ref 20 0 9 0 0), (4, .v (.int .i64 K)), (5, .v (.int .i64 a))],
   [(0, .rows true 0 12 [zb0 x]), (1, .rows true 0 9 [[.v (.int .i64 0), zBo, zBo, zBo, .v (.int .i64 0), .v (.bool false), zBo, .v (.int .i64 0), .v (.int .i64 0)]]), (20, .rows true 0 9 [[.v (.int .i64 b.cells), za1 b.next, zaj b.turn, .sl 22 a 3 0 a, .v (.int .i64 R), .v (.bool (decide (x.f1.tmod 4 = 3))), zBo, .v (.int .i64 3), .v (.int .i64 2)]]), (22, .rows true a 3 (ksR x a))], 23⟩)
   (fun d a => a + d = K) ?_ K 0 ?_) ?_ ?_
  ·rintro d0 i i1 hrec
   repeat first|refine wV fun _=>?_|simp [go_sem]
   refine zBj (fun hi => ?_) (fun hi => ?_) <;> simp at hi
   ·have hi2 : i = 0 ∨ i = 1 := by omega
    have hkl := hKl i
    have hkv := hKv i
    have hks : zfb x i = ⟨if i = 0 then zea else zkh, ((x.ks i).take 4).map (fun n => zli n b.next.length K x.rights), zvx x.f2 i⟩ := by rw [hbb, hK, ← hK2]; rfl
    rcases hi2 with rfl | rfl
    ·obtain ⟨kk, hkk⟩ : ∃ kk, kk = x.ks 0 := ⟨_, rfl⟩
     have hk0 : x.k0 = kk := hkk.symm
     rw [← hkk] at hkl hkv hks
     have hbit : zvx x.f2 0 = decide (zkU .u8 x.f2 1 = 1) := by simp [zvx]
     obtain ⟨f, hf⟩ : ∃ f, f = (fun n => zli n b.next.length K x.rights) := ⟨_, rfl⟩
     have hfp : ∀ n, U8 n → zaJ Tryz.prog 67 [.v (.int .u8 n), .v (.int .i64 b.next.length), .v (.int .i64 K), .v (.int .i64 R)] (zaq (f n)) := fun n hn => by
      rw [hf, ← hR]; exact zeF n _ _ _ hn (by omega) (by omega) (by omega)
     rw [← hf, hbit] at hks
     repeat first|refine wV fun _=>?_|simp [go_sem, hk0]
     refine zBh (zBk (α := Nat) (fun n => ⟨[(1, .ref 0 0 12 0 0), (2, .ref 1 0 9 0 0), (3, .ref 20 0 9 0 0), (4, .v (.int .i64 K)), (5, .v (.int .i64 0)), (6, .ref 35 0 3 0 0), (7, .v (.int .i64 n))],
      [(0, .rows true 0 12 [zb0 x]), (1, .rows true 0 9 [[.v (.int .i64 0), zBo, zBo, zBo, .v (.int .i64 0), .v (.bool false), zBo, .v (.int .i64 0), .v (.int .i64 0)]]), (20, .rows true 0 9 [[.v (.int .i64 b.cells), za1 b.next, zaj b.turn, .sl 22 0 3 0 0, .v (.int .i64 R), .v (.bool (decide (x.f1.tmod 4 = 3))), zBo, .v (.int .i64 3), .v (.int .i64 2)]]), (22, .rows true 0 3 (ksR x 0)), (35, .rows true 0 3 [[.v (.string ⟨#[97]⟩), .sl 37 n 1 0 n, .v (.bool (decide (zkU .u8 x.f2 1 = 1)))]]), (37, .rows true n 1 (psR f kk n))], 38⟩)
      (fun d n => n + d = min kk.length 4) ?_ (min kk.length 4) 0 ?_) ?_ ?_
     ·rintro d n n1 hrec1
      repeat first|refine wV fun _=>?_|simp [go_sem, hk0]
      refine zBj (fun hn => ?_) (fun hn => ?_) <;> simp at hn
      ·have hn1 : n < kk.length := by omega
       have hn2 := hkv _ (zah hn1)
       have hpl := zfJ f kk (n := n) (by omega)
       repeat first|refine wV fun _=>?_|simp [go_sem, hk0, hn1]
       refine zBl (hfp _ hn2) (by simp [go_sem]) ?_
       repeat first|refine wV fun _=>?_|simp [go_sem, hk0, hn1, hpl]
       refine zBh (hrec1 (d - 1) (by omega) (n + 1) (by omega)) ?_ (by simp)
       simp [go_sem, zaf, hk0, zjh f kk hn1]
      ·have hne : n = min kk.length 4 := by omega
       repeat first|refine wV fun _=>?_|simp [go_sem]
       refine zBh (hrec (d0 - 1) (by omega) (0 + 1) (by omega)) ?_ (by simp)
       have hkx : zxz (zfb x 0) = [.v (.string ⟨#[97]⟩), .lst 1 (psR f kk n), .v (.bool (decide (zkU .u8 x.f2 1 = 1)))] := by rw [hks, show psR f kk n = psR f kk (min kk.length 4) by rw [← hne]]; simp [zxz, zay, psR, zea, zkh, zaq]; omega
       have hpl := zfJ f kk (n := n) (by omega)
       simp [go_sem, zaf, hk0, zjc x 0, hkx]
       (try refine zao (.refl _) (.cons (.cons (.refl _) (.cons ?_ (.cons (.refl _) .nil))) .nil))
       refine LeV.frz rfl ?_ ?_ (zBs ?_) <;> simp [mkH, upd, hpl, List.take_of_length_le]
     ·omega
     ·simp [go_sem, zaf, hk0]
     ·simp
    ·obtain ⟨kk, hkk⟩ : ∃ kk, kk = x.ks 1 := ⟨_, rfl⟩
     have hk0 : x.k1 = kk := hkk.symm
     rw [← hkk] at hkl hkv hks
     have hbit : zvx x.f2 1 = decide (zkU .u8 (x.f2.fdiv 2) 1 = 1) := by simp [zvx]
     obtain ⟨f, hf⟩ : ∃ f, f = (fun n => zli n b.next.length K x.rights) := ⟨_, rfl⟩
     have hfp : ∀ n, U8 n → zaJ Tryz.prog 67 [.v (.int .u8 n), .v (.int .i64 b.next.length), .v (.int .i64 K), .v (.int .i64 R)] (zaq (f n)) := fun n hn => by
      rw [hf, ← hR]; exact zeF n _ _ _ hn (by omega) (by omega) (by omega)
     rw [← hf, hbit] at hks
     repeat first|refine wV fun _=>?_|simp [go_sem, hk0]
     refine zBh (zBk (α := Nat) (fun n => ⟨[(1, .ref 0 0 12 0 0), (2, .ref 1 0 9 0 0), (3, .ref 20 0 9 0 0), (4, .v (.int .i64 K)), (5, .v (.int .i64 1)), (6, .ref 35 0 3 0 0), (7, .v (.int .i64 n))],
      [(0, .rows true 0 12 [zb0 x]), (1, .rows true 0 9 [[.v (.int .i64 0), zBo, zBo, zBo, .v (.int .i64 0), .v (.bool false), zBo, .v (.int .i64 0), .v (.int .i64 0)]]), (20, .rows true 0 9 [[.v (.int .i64 b.cells), za1 b.next, zaj b.turn, .sl 22 1 3 0 1, .v (.int .i64 R), .v (.bool (decide (x.f1.tmod 4 = 3))), zBo, .v (.int .i64 3), .v (.int .i64 2)]]), (22, .rows true 1 3 (ksR x 1)), (35, .rows true 0 3 [[.v (.string ⟨#[98, 101, 101]⟩), .sl 37 n 1 0 n, .v (.bool (decide (zkU .u8 (x.f2.fdiv 2) 1 = 1)))]]), (37, .rows true n 1 (psR f kk n))], 38⟩)
      (fun d n => n + d = min kk.length 4) ?_ (min kk.length 4) 0 ?_) ?_ ?_
     ·rintro d n n1 hrec1
      repeat first|refine wV fun _=>?_|simp [go_sem, hk0]
      refine zBj (fun hn => ?_) (fun hn => ?_) <;> simp at hn
      ·have hn1 : n < kk.length := by omega
       have hn2 := hkv _ (zah hn1)
       have hpl := zfJ f kk (n := n) (by omega)
       repeat first|refine wV fun _=>?_|simp [go_sem, hk0, hn1]
       refine zBl (hfp _ hn2) (by simp [go_sem]) ?_
       repeat first|refine wV fun _=>?_|simp [go_sem, hk0, hn1, hpl]
       refine zBh (hrec1 (d - 1) (by omega) (n + 1) (by omega)) ?_ (by simp)
       simp [go_sem, zaf, hk0, zjh f kk hn1]
      ·have hne : n = min kk.length 4 := by omega
       repeat first|refine wV fun _=>?_|simp [go_sem]
       refine zBh (hrec (d0 - 1) (by omega) (1 + 1) (by omega)) ?_ (by simp)
       have hkx : zxz (zfb x 1) = [.v (.string ⟨#[98, 101, 101]⟩), .lst 1 (psR f kk n), .v (.bool (decide (zkU .u8 (x.f2.fdiv 2) 1 = 1)))] := by rw [hks, show psR f kk n = psR f kk (min kk.length 4) by rw [← hne]]; simp [zxz, zay, psR, zea, zkh, zaq]; omega
       have hpl := zfJ f kk (n := n) (by omega)
       simp [go_sem, zaf, hk0, zjc x 1, hkx]
       (try refine zao (.refl _) (.cons (.cons (.refl _) (.cons ?_ (.cons (.refl _) .nil))) .nil))
       refine LeV.frz rfl ?_ ?_ (zBs ?_) <;> simp [mkH, upd, hpl, List.take_of_length_le]
     ·omega
     ·simp [go_sem, zaf, hk0]
     ·simp
   ·have hiK : i = K := by omega
    subst hiK
    repeat first|refine wV fun _=>?_|simp [go_sem]
    refine zBj (fun hb3 => ?_) (fun hb3 => ?_) <;> simp at hb3 <;> (repeat (first|refine wV fun _=>?_|simp [go_sem]))
    all_goals refine zBj (fun hb4 => ?_) (fun hb4 => ?_) <;> simp at hb4 <;> (repeat (first|refine wV fun _=>?_|simp [go_sem]))
    all_goals (
     refine zBh (zBk (α := Nat) (fun a => ⟨[(1, .ref 0 0 12 0 0), (2, .ref 1 0 9 0 0), (3, .ref 20 0 9 0 0), (4, .v (.int .i64 i)), (8, .v (.int .i64 a))],
      [(0, .rows true 0 12 [zb0 x]), (1, .rows true 0 9 [[.v (.int .i64 0), zBo, zBo, zBo, .v (.int .i64 0), .v (.bool false), zBo, .v (.int .i64 0), .v (.int .i64 0)]]), (20, .rows true 0 9 [[.v (.int .i64 b.cells), za1 b.next, zaj b.turn, .sl 22 i 3 0 i, .v (.int .i64 R), .v (.bool (decide (x.f1.tmod 4 = 3))), .sl 23 a 4 0 a, .v (.int .i64 bl), .v (.int .i64 en)]]), (22, .rows true i 3 (ksR x i)), (23, .rows true a 4 (clR b.cells i x.c a))], 24⟩)
      (fun d a => a + d = min x.c.length 3) ?_ (min x.c.length 3) 0 ?_) ?_ ?_
     ·rintro d j j1 hrec2
      repeat first|refine wV fun _=>?_|simp [go_sem]
      refine zBj (fun hj => ?_) (fun hj => ?_) <;> simp at hj
      ·have hj1 : j < x.c.length := by omega
       have hjc := hx.c _ (zah hj1)
       have hpl := zmX b.cells i x.c (n := j) (by omega)
       have hsu := zrS b.cells i x.c hj1
       generalize hcx : nth x.c j = c at *
       obtain ⟨c0, c1, c2⟩ := c
       obtain ⟨u0, u1, u2⟩ := hjc
       obtain ⟨w0, w0'⟩ := qq _ u0
       obtain ⟨v0, v0'⟩ := u0
       obtain ⟨v1, v1'⟩ := u1
       obtain ⟨v2, v2'⟩ := u2
       simp only at v0 v0' v1 v1' v2 v2' w0 w0'
       have t0 := Int.tmod_nonneg 3 v0
       have t1 := Int.tmod_lt_of_pos c0 (show (0 : Int) < 3 by decide)
       have hip : (0 : Int) < i := by omega
       have k0 := Int.tmod_nonneg i v1
       have n0 := Int.tmod_nonneg b.cells v2
       have n1 := Int.tmod_nonneg 3 v2
       rcases (show c0.tmod 3 = 0 ∨ c0.tmod 3 = 1 ∨ c0.tmod 3 = 2 by omega) with ht | ht | ht
       ·have hr : zti (zba b.cells i (c0, c1, c2)) = [.v (.int .i64 1), .v (.int .i64 (c1.tmod i)), .v (.int .i64 0), .v (.int .i64 (1 + (c0.tdiv 4).tmod 3))] := by simp [zti, zba, zaz, ht]
        repeat first|refine wV fun _=>?_|simp [go_sem, hj1, hcx, ht, hpl]
        refine zBh (hrec2 (d - 1) (by omega) (j + 1) (by omega)) ?_ (by simp)
        simp [go_sem, zaf, hsu, hr]
       ·have hr : zti (zba b.cells i (c0, c1, c2)) = [.v (.int .i64 2), .v (.int .i64 (c1.tmod i)), .v (.int .i64 (c2.tmod b.cells)), .v (.int .i64 (1 + (c0.tdiv 4).tmod 3))] := by simp [zti, zba, zaz, ht]
        repeat first|refine wV fun _=>?_|simp [go_sem, hj1, hcx, ht, hpl]
        refine zBh (hrec2 (d - 1) (by omega) (j + 1) (by omega)) ?_ (by simp)
        simp [go_sem, zaf, hsu, hr]
       ·have hr : zti (zba b.cells i (c0, c1, c2)) = [.v (.int .i64 3), .v (.int .i64 0), .v (.int .i64 (c2.tmod 3)), .v (.int .i64 (1 + (c0.tdiv 4).tmod 3))] := by simp [zti, zba, zaz, ht]
        repeat first|refine wV fun _=>?_|simp [go_sem, hj1, hcx, ht, hpl]
        refine zBh (hrec2 (d - 1) (by omega) (j + 1) (by omega)) ?_ (by simp)
        simp [go_sem, zaf, hsu, hr]
      ·have hki : zcV x = i := by rw [hK2, hK]
       have hjm : j = min x.c.length 3 := by omega
       have htk : x.c.take (min x.c.length 3) = x.c.take 3 := by rw [List.take_eq_take_iff]; omega
       have hpl := zmX b.cells i x.c (n := j) (by omega)
       have hkl : (ksR x i).length = i := zwm x i
       have hcl : clR b.cells i x.c j = ((x.c.take 3).map (zba b.cells i)).map zaz := by unfold clR; rw [hjm, htk]
       have hG : zdd x = { cells := b.cells, next := b.next, turn := b.turn, kinds := (List.range i).map (zfb x), rights := R, must := decide (x.f1.tmod 4 = 3), clauses := (x.c.take 3).map (zba b.cells i), blocked := bl, endless := en } := by
        unfold zdd; rw [hki, ← hbb, ← hR, ← hbl, ← hen]
       have hEnc : eg = [.v (.int .i64 b.cells), za1 b.next, zaj b.turn, .lst 3 (ksR x i), .v (.int .i64 R), .v (.bool (decide (x.f1.tmod 4 = 3))), .lst 4 (clR b.cells i x.c j), .v (.int .i64 bl), .v (.int .i64 en)] := by
        rw [heg, hG, hcl]; rfl
       repeat first|refine wV fun _=>?_|simp [go_sem]
       rw [hEnc]
       refine ⟨.cons (.refl _) (.cons (.refl _) (.cons (.refl _) (.cons (zaL rfl (by omega) (by simp [noH]) (by rw [List.drop_zero, List.take_of_length_le (by omega)])) (.cons (.refl _) (.cons (.refl _) (.cons (zaL rfl (by omega) (by simp [noH]) (by rw [List.drop_zero, List.take_of_length_le (by omega)])) (.cons (.refl _) (.cons (.refl _) .nil)))))))), ?_⟩
       intro c hc
       simp only [List.mem_cons, List.not_mem_nil, or_false] at hc
       rcases hc with rfl | rfl | rfl | rfl | rfl | rfl | rfl | rfl | rfl
       all_goals first | exact .v _ | simp [go_sem]
     ·omega
     ·simp [go_sem, zaf, hbl, hen, hb3, hb4]
     ·simp)
  ·omega
  ·simp [go_sem, zaf, hK]
  ·simp
 ·have hK2 : zcV x = 1 := by rw [hKn, if_pos (by simp [hk1])]
  rw [hK2] at hK
  repeat first|refine wV fun _=>?_|simp [go_sem]
  refine zBh (zBk (α := Nat) (fun a => ⟨[(1, .ref 0 0 12 0 0), (2, .ref 1 0 9 0 0), (3, .ref 20 0 9 0 0), (4, .v (.int .i64 K)), (5, .v (.int .i64 a))],
   [(0, .rows true 0 12 [zb0 x]), (1, .rows true 0 9 [[.v (.int .i64 0), zBo, zBo, zBo, .v (.int .i64 0), .v (.bool false), zBo, .v (.int .i64 0), .v (.int .i64 0)]]), (20, .rows true 0 9 [[.v (.int .i64 b.cells), za1 b.next, zaj b.turn, .sl 22 a 3 0 a, .v (.int .i64 R), .v (.bool (decide (x.f1.tmod 4 = 3))), zBo, .v (.int .i64 3), .v (.int .i64 2)]]), (22, .rows true a 3 (ksR x a))], 23⟩)
   (fun d a => a + d = K) ?_ K 0 ?_) ?_ ?_
  ·rintro d0 i i1 hrec
   repeat first|refine wV fun _=>?_|simp [go_sem]
   refine zBj (fun hi => ?_) (fun hi => ?_) <;> simp at hi
   ·have hi2 : i = 0 ∨ i = 1 := by omega
    have hkl := hKl i
    have hkv := hKv i
    have hks : zfb x i = ⟨if i = 0 then zea else zkh, ((x.ks i).take 4).map (fun n => zli n b.next.length K x.rights), zvx x.f2 i⟩ := by rw [hbb, hK, ← hK2]; rfl
    rcases hi2 with rfl | rfl
    ·obtain ⟨kk, hkk⟩ : ∃ kk, kk = x.ks 0 := ⟨_, rfl⟩
     have hk0 : x.k0 = kk := hkk.symm
     rw [← hkk] at hkl hkv hks
     have hbit : zvx x.f2 0 = decide (zkU .u8 x.f2 1 = 1) := by simp [zvx]
     obtain ⟨f, hf⟩ : ∃ f, f = (fun n => zli n b.next.length K x.rights) := ⟨_, rfl⟩
     have hfp : ∀ n, U8 n → zaJ Tryz.prog 67 [.v (.int .u8 n), .v (.int .i64 b.next.length), .v (.int .i64 K), .v (.int .i64 R)] (zaq (f n)) := fun n hn => by
      rw [hf, ← hR]; exact zeF n _ _ _ hn (by omega) (by omega) (by omega)
     rw [← hf, hbit] at hks
     repeat first|refine wV fun _=>?_|simp [go_sem, hk0]
     refine zBh (zBk (α := Nat) (fun n => ⟨[(1, .ref 0 0 12 0 0), (2, .ref 1 0 9 0 0), (3, .ref 20 0 9 0 0), (4, .v (.int .i64 K)), (5, .v (.int .i64 0)), (6, .ref 35 0 3 0 0), (7, .v (.int .i64 n))],
      [(0, .rows true 0 12 [zb0 x]), (1, .rows true 0 9 [[.v (.int .i64 0), zBo, zBo, zBo, .v (.int .i64 0), .v (.bool false), zBo, .v (.int .i64 0), .v (.int .i64 0)]]), (20, .rows true 0 9 [[.v (.int .i64 b.cells), za1 b.next, zaj b.turn, .sl 22 0 3 0 0, .v (.int .i64 R), .v (.bool (decide (x.f1.tmod 4 = 3))), zBo, .v (.int .i64 3), .v (.int .i64 2)]]), (22, .rows true 0 3 (ksR x 0)), (35, .rows true 0 3 [[.v (.string ⟨#[97]⟩), .sl 37 n 1 0 n, .v (.bool (decide (zkU .u8 x.f2 1 = 1)))]]), (37, .rows true n 1 (psR f kk n))], 38⟩)
      (fun d n => n + d = min kk.length 4) ?_ (min kk.length 4) 0 ?_) ?_ ?_
     ·rintro d n n1 hrec1
      repeat first|refine wV fun _=>?_|simp [go_sem, hk0]
      refine zBj (fun hn => ?_) (fun hn => ?_) <;> simp at hn
      ·have hn1 : n < kk.length := by omega
       have hn2 := hkv _ (zah hn1)
       have hpl := zfJ f kk (n := n) (by omega)
       repeat first|refine wV fun _=>?_|simp [go_sem, hk0, hn1]
       refine zBl (hfp _ hn2) (by simp [go_sem]) ?_
       repeat first|refine wV fun _=>?_|simp [go_sem, hk0, hn1, hpl]
       refine zBh (hrec1 (d - 1) (by omega) (n + 1) (by omega)) ?_ (by simp)
       simp [go_sem, zaf, hk0, zjh f kk hn1]
      ·have hne : n = min kk.length 4 := by omega
       repeat first|refine wV fun _=>?_|simp [go_sem]
       refine zBh (hrec (d0 - 1) (by omega) (0 + 1) (by omega)) ?_ (by simp)
       have hkx : zxz (zfb x 0) = [.v (.string ⟨#[97]⟩), .lst 1 (psR f kk n), .v (.bool (decide (zkU .u8 x.f2 1 = 1)))] := by rw [hks, show psR f kk n = psR f kk (min kk.length 4) by rw [← hne]]; simp [zxz, zay, psR, zea, zkh, zaq]; omega
       have hpl := zfJ f kk (n := n) (by omega)
       simp [go_sem, zaf, hk0, zjc x 0, hkx]
       (try refine zao (.refl _) (.cons (.cons (.refl _) (.cons ?_ (.cons (.refl _) .nil))) .nil))
       refine LeV.frz rfl ?_ ?_ (zBs ?_) <;> simp [mkH, upd, hpl, List.take_of_length_le]
     ·omega
     ·simp [go_sem, zaf, hk0]
     ·simp
    ·obtain ⟨kk, hkk⟩ : ∃ kk, kk = x.ks 1 := ⟨_, rfl⟩
     have hk0 : x.k1 = kk := hkk.symm
     rw [← hkk] at hkl hkv hks
     have hbit : zvx x.f2 1 = decide (zkU .u8 (x.f2.fdiv 2) 1 = 1) := by simp [zvx]
     obtain ⟨f, hf⟩ : ∃ f, f = (fun n => zli n b.next.length K x.rights) := ⟨_, rfl⟩
     have hfp : ∀ n, U8 n → zaJ Tryz.prog 67 [.v (.int .u8 n), .v (.int .i64 b.next.length), .v (.int .i64 K), .v (.int .i64 R)] (zaq (f n)) := fun n hn => by
      rw [hf, ← hR]; exact zeF n _ _ _ hn (by omega) (by omega) (by omega)
     rw [← hf, hbit] at hks
     repeat first|refine wV fun _=>?_|simp [go_sem, hk0]
     refine zBh (zBk (α := Nat) (fun n => ⟨[(1, .ref 0 0 12 0 0), (2, .ref 1 0 9 0 0), (3, .ref 20 0 9 0 0), (4, .v (.int .i64 K)), (5, .v (.int .i64 1)), (6, .ref 35 0 3 0 0), (7, .v (.int .i64 n))],
      [(0, .rows true 0 12 [zb0 x]), (1, .rows true 0 9 [[.v (.int .i64 0), zBo, zBo, zBo, .v (.int .i64 0), .v (.bool false), zBo, .v (.int .i64 0), .v (.int .i64 0)]]), (20, .rows true 0 9 [[.v (.int .i64 b.cells), za1 b.next, zaj b.turn, .sl 22 1 3 0 1, .v (.int .i64 R), .v (.bool (decide (x.f1.tmod 4 = 3))), zBo, .v (.int .i64 3), .v (.int .i64 2)]]), (22, .rows true 1 3 (ksR x 1)), (35, .rows true 0 3 [[.v (.string ⟨#[98, 101, 101]⟩), .sl 37 n 1 0 n, .v (.bool (decide (zkU .u8 (x.f2.fdiv 2) 1 = 1)))]]), (37, .rows true n 1 (psR f kk n))], 38⟩)
      (fun d n => n + d = min kk.length 4) ?_ (min kk.length 4) 0 ?_) ?_ ?_
     ·rintro d n n1 hrec1
      repeat first|refine wV fun _=>?_|simp [go_sem, hk0]
      refine zBj (fun hn => ?_) (fun hn => ?_) <;> simp at hn
      ·have hn1 : n < kk.length := by omega
       have hn2 := hkv _ (zah hn1)
       have hpl := zfJ f kk (n := n) (by omega)
       repeat first|refine wV fun _=>?_|simp [go_sem, hk0, hn1]
       refine zBl (hfp _ hn2) (by simp [go_sem]) ?_
       repeat first|refine wV fun _=>?_|simp [go_sem, hk0, hn1, hpl]
       refine zBh (hrec1 (d - 1) (by omega) (n + 1) (by omega)) ?_ (by simp)
       simp [go_sem, zaf, hk0, zjh f kk hn1]
      ·have hne : n = min kk.length 4 := by omega
       repeat first|refine wV fun _=>?_|simp [go_sem]
       refine zBh (hrec (d0 - 1) (by omega) (1 + 1) (by omega)) ?_ (by simp)
       have hkx : zxz (zfb x 1) = [.v (.string ⟨#[98, 101, 101]⟩), .lst 1 (psR f kk n), .v (.bool (decide (zkU .u8 (x.f2.fdiv 2) 1 = 1)))] := by rw [hks, show psR f kk n = psR f kk (min kk.length 4) by rw [← hne]]; simp [zxz, zay, psR, zea, zkh, zaq]; omega
       have hpl := zfJ f kk (n := n) (by omega)
       simp [go_sem, zaf, hk0, zjc x 1, hkx]
       (try refine zao (.refl _) (.cons (.cons (.refl _) (.cons ?_ (.cons (.refl _) .nil))) .nil))
       refine LeV.frz rfl ?_ ?_ (zBs ?_) <;> simp [mkH, upd, hpl, List.take_of_length_le]
     ·omega
     ·simp [go_sem, zaf, hk0]
     ·simp
   ·have hiK : i = K := by omega
    subst hiK
    repeat first|refine wV fun _=>?_|simp [go_sem]
    refine zBj (fun hb3 => ?_) (fun hb3 => ?_) <;> simp at hb3 <;> (repeat (first|refine wV fun _=>?_|simp [go_sem]))
    all_goals refine zBj (fun hb4 => ?_) (fun hb4 => ?_) <;> simp at hb4 <;> (repeat (first|refine wV fun _=>?_|simp [go_sem]))
    all_goals (
     refine zBh (zBk (α := Nat) (fun a => ⟨[(1, .ref 0 0 12 0 0), (2, .ref 1 0 9 0 0), (3, .ref 20 0 9 0 0), (4, .v (.int .i64 i)), (8, .v (.int .i64 a))],
      [(0, .rows true 0 12 [zb0 x]), (1, .rows true 0 9 [[.v (.int .i64 0), zBo, zBo, zBo, .v (.int .i64 0), .v (.bool false), zBo, .v (.int .i64 0), .v (.int .i64 0)]]), (20, .rows true 0 9 [[.v (.int .i64 b.cells), za1 b.next, zaj b.turn, .sl 22 i 3 0 i, .v (.int .i64 R), .v (.bool (decide (x.f1.tmod 4 = 3))), .sl 23 a 4 0 a, .v (.int .i64 bl), .v (.int .i64 en)]]), (22, .rows true i 3 (ksR x i)), (23, .rows true a 4 (clR b.cells i x.c a))], 24⟩)
      (fun d a => a + d = min x.c.length 3) ?_ (min x.c.length 3) 0 ?_) ?_ ?_
     ·rintro d j j1 hrec2
      repeat first|refine wV fun _=>?_|simp [go_sem]
      refine zBj (fun hj => ?_) (fun hj => ?_) <;> simp at hj
      ·have hj1 : j < x.c.length := by omega
       have hjc := hx.c _ (zah hj1)
       have hpl := zmX b.cells i x.c (n := j) (by omega)
       have hsu := zrS b.cells i x.c hj1
       generalize hcx : nth x.c j = c at *
       obtain ⟨c0, c1, c2⟩ := c
       obtain ⟨u0, u1, u2⟩ := hjc
       obtain ⟨w0, w0'⟩ := qq _ u0
       obtain ⟨v0, v0'⟩ := u0
       obtain ⟨v1, v1'⟩ := u1
       obtain ⟨v2, v2'⟩ := u2
       simp only at v0 v0' v1 v1' v2 v2' w0 w0'
       have t0 := Int.tmod_nonneg 3 v0
       have t1 := Int.tmod_lt_of_pos c0 (show (0 : Int) < 3 by decide)
       have hip : (0 : Int) < i := by omega
       have k0 := Int.tmod_nonneg i v1
       have n0 := Int.tmod_nonneg b.cells v2
       have n1 := Int.tmod_nonneg 3 v2
       rcases (show c0.tmod 3 = 0 ∨ c0.tmod 3 = 1 ∨ c0.tmod 3 = 2 by omega) with ht | ht | ht
       ·have hr : zti (zba b.cells i (c0, c1, c2)) = [.v (.int .i64 1), .v (.int .i64 (c1.tmod i)), .v (.int .i64 0), .v (.int .i64 (1 + (c0.tdiv 4).tmod 3))] := by simp [zti, zba, zaz, ht]
        repeat first|refine wV fun _=>?_|simp [go_sem, hj1, hcx, ht, hpl]
        refine zBh (hrec2 (d - 1) (by omega) (j + 1) (by omega)) ?_ (by simp)
        simp [go_sem, zaf, hsu, hr]
       ·have hr : zti (zba b.cells i (c0, c1, c2)) = [.v (.int .i64 2), .v (.int .i64 (c1.tmod i)), .v (.int .i64 (c2.tmod b.cells)), .v (.int .i64 (1 + (c0.tdiv 4).tmod 3))] := by simp [zti, zba, zaz, ht]
        repeat first|refine wV fun _=>?_|simp [go_sem, hj1, hcx, ht, hpl]
        refine zBh (hrec2 (d - 1) (by omega) (j + 1) (by omega)) ?_ (by simp)
        simp [go_sem, zaf, hsu, hr]
       ·have hr : zti (zba b.cells i (c0, c1, c2)) = [.v (.int .i64 3), .v (.int .i64 0), .v (.int .i64 (c2.tmod 3)), .v (.int .i64 (1 + (c0.tdiv 4).tmod 3))] := by simp [zti, zba, zaz, ht]
        repeat first|refine wV fun _=>?_|simp [go_sem, hj1, hcx, ht, hpl]
        refine zBh (hrec2 (d - 1) (by omega) (j + 1) (by omega)) ?_ (by simp)
        simp [go_sem, zaf, hsu, hr]
      ·have hki : zcV x = i := by rw [hK2, hK]
       have hjm : j = min x.c.length 3 := by omega
       have htk : x.c.take (min x.c.length 3) = x.c.take 3 := by rw [List.take_eq_take_iff]; omega
       have hpl := zmX b.cells i x.c (n := j) (by omega)
       have hkl : (ksR x i).length = i := zwm x i
       have hcl : clR b.cells i x.c j = ((x.c.take 3).map (zba b.cells i)).map zaz := by unfold clR; rw [hjm, htk]
       have hG : zdd x = { cells := b.cells, next := b.next, turn := b.turn, kinds := (List.range i).map (zfb x), rights := R, must := decide (x.f1.tmod 4 = 3), clauses := (x.c.take 3).map (zba b.cells i), blocked := bl, endless := en } := by
        unfold zdd; rw [hki, ← hbb, ← hR, ← hbl, ← hen]
       have hEnc : eg = [.v (.int .i64 b.cells), za1 b.next, zaj b.turn, .lst 3 (ksR x i), .v (.int .i64 R), .v (.bool (decide (x.f1.tmod 4 = 3))), .lst 4 (clR b.cells i x.c j), .v (.int .i64 bl), .v (.int .i64 en)] := by
        rw [heg, hG, hcl]; rfl
       repeat first|refine wV fun _=>?_|simp [go_sem]
       rw [hEnc]
       refine ⟨.cons (.refl _) (.cons (.refl _) (.cons (.refl _) (.cons (zaL rfl (by omega) (by simp [noH]) (by rw [List.drop_zero, List.take_of_length_le (by omega)])) (.cons (.refl _) (.cons (.refl _) (.cons (zaL rfl (by omega) (by simp [noH]) (by rw [List.drop_zero, List.take_of_length_le (by omega)])) (.cons (.refl _) (.cons (.refl _) .nil)))))))), ?_⟩
       intro c hc
       simp only [List.mem_cons, List.not_mem_nil, or_false] at hc
       rcases hc with rfl | rfl | rfl | rfl | rfl | rfl | rfl | rfl | rfl
       all_goals first | exact .v _ | simp [go_sem]
     ·omega
     ·simp [go_sem, zaf, hbl, hen, hb3, hb4]
     ·simp)
  ·omega
  ·simp [go_sem, zaf, hK]
  ·simp
end Go.Av
end
