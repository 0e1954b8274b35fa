/- Texts of ours, part 10: our library and contracts of functions. -/
import Derived.Test.YtedhfmmlhfmomaaGreatDoorB09
import Derived.Shelf.SlSortCmp.NoneTotal
import Derived.Test.YtedhfmmlhfmomaaGreatDoorProg
set_option linter.unusedSimpArgs false
set_option linter.unusedVariables false
set_option maxRecDepth 100000
set_option maxHeartbeats 40000000
section
open Go Go.Proofs
namespace Go.Av
theorem zxu (a b : zcl) : orI [zbx a.pos b.pos, za6 (if a.took then 1 else 0) (if b.took then 1 else 0)] = zh2 a b := by
 unfold zh2 zzV
 simp only [orI]
 repeat' split
 all_goals first | rfl | omega
theorem zgB (a b : zcl) (ha : zaU a.pos) (hb : zaU b.pos) : zaL Tryz.prog 186 [.agg (zay a), .agg (zay b)] (.v (.int .i64 (zh2 a b))) := by
 refine pF Tryz.func186 ?_
 rw [← zxu]
 have c1 := zbG _ _ ha hb
 obtain ⟨pa, ta⟩ := a
 obtain ⟨pb, tb⟩ := b
 have c4 := zdt (if ta then 1 else 0) (if tb then 1 else 0)
 simp only at c1 c4 ⊢
 generalize hx1 : zbx pa pb = x1 at *
 generalize hx2 : za6 (if ta then 1 else 0) (if tb then 1 else 0) = x2 at *
 cases ta <;> cases tb <;> simp only [if_true, Bool.false_eq_true, if_false] at c4 <;>
 ·repeat first|refine wV fun _=>?_|simp [go_sem]
  refine zAu c1 (by simp [go_sem]) ?_
  repeat first|refine wV fun _=>?_|simp [go_sem]
  refine zAu c4 (by simp [go_sem]) ?_
  repeat first|refine wV fun _=>?_|simp [go_sem]
  refine zav.frz [zap [x1, x2]] _ [17] [(17, some (.rows false 0 1 ([x1, x2].map zb5)))] (zrd _ (by unfold ze5; simp)) ?_ ?_ (by simp [go_sem]) ?_
  ·intro p hp
   simp only [List.mem_singleton] at hp
   subst hp
   exact ⟨by simp, 0, 1, _, rfl, by simp [upd, go_sem]⟩
  ·intro h₁ hS
   have h7 := hS 17 (by simp)
   simp [go_sem] at h7
   exact .cons (zas h7.symm (by simp) (by simp [zal, upd]) (by simp [go_sem])) .nil
  ·repeat first|refine wV fun _=>?_|simp [go_sem]
theorem ztB (a b : zcl) (ha : zaU a.pos) (hb : zaU b.pos) : zaL Tryz.prog 188 [.agg (zay a), .agg (zay b)] (.v (.bool (decide (a = b)))) := by
 refine pF Tryz.func188 ?_
 have c1 := zgB a b ha hb
 have e : decide (a = b) = decide (zh2 a b = 0) := by rw [decide_eq_decide]; exact (zce.eq a b).symm
 rw [e]
 generalize zh2 a b = x at *
 repeat first|refine wV fun _=>?_|simp [go_sem]
 refine zAs c1 (by simp [go_sem]) ?_
 repeat first|refine wV fun _=>?_|simp [go_sem]
theorem zqA (a b : zah) (ha : zaU a) (hb : zaU b) : zaL Tryz.prog 131 [.agg (zad a), .agg (zad b)] (.v (.bool (decide (a = b)))) := by
 refine pF Tryz.func131 ?_
 have c1 := zbG a b ha hb
 have e : decide (a = b) = decide (zbx a b = 0) := by rw [decide_eq_decide]; exact (za7.eq a b).symm
 rw [e]
 generalize zbx a b = x at *
 repeat first|refine wV fun _=>?_|simp [go_sem]
 refine zAs c1 (by simp [go_sem]) ?_
 repeat first|refine wV fun _=>?_|simp [go_sem]
def zm1 : List AV := [.v (.slice none 0 0), .v (.slice none 0 0), .v (.slice none 0 0), .v (.int .i64 0), .v (.int .i64 0), .v (.bool false)]
theorem zjr {α : Type} [DecidableEq α] {l : List α} (h : l.length < 2) : zbt l = l := by
 match l, h with
 | [], _ => rfl
 | [a], _ => rfl
 | a :: b :: l, h => simp only [List.length_cons] at h; omega
end Go.Av
end
section
namespace Go.Av
open Go Go.Sort Go.Shelf Go.Proofs
structure El (w : World) (M : Nat → Prop) {α : Type} (en : α → List AV) (Q : α → Prop) where
 x : α
 vs : List Value
 q : Q x
 rel : zaI noP w M (en x) vs
 cells : ∀ v ∈ vs, zcd v = true
theorem zsS {w : World} {M : Nat → Prop} {α : Type} {en : α → List AV} {Q : α → Prop} : ∀ {l : List α} {W : List Value}, (∀ x ∈ l, Q x) → zaI noP w M (l.map en).flatten W → (∀ v ∈ W, zcd v = true) →
  ∃ ls : List (El w M en Q), ls.map (·.x) = l ∧ (ls.map (·.vs)).flatten = W
 | [], W, _, h, _ => by cases h; exact ⟨[], rfl, rfl⟩
 | x :: l, W, hq, h, hc => by
  rw [List.map_cons, List.flatten_cons] at h
  obtain ⟨us, ts, rfl, h1, h2⟩ := h.split
  obtain ⟨ls, e1, e2⟩ := zsS (fun y hy => hq y (by simp [hy])) h2 (fun v hv => hc v (by simp [hv]))
  exact ⟨⟨x, us, hq x (by simp), h1, fun v hv => hc v (by simp [hv])⟩ :: ls, by simp [e1], by simp [e2]⟩
theorem zrj {k : Nat} (hk : 0 < k) : ∀ (ls : List (List Value)) (t : Nat), (∀ r ∈ ls, r.length = k) → t < ls.length * k → ls.flatten[t]? = (ls[t / k]?).bind (·[t % k]?)
 | [], t, _, h => by simp at h
 | r :: ls, t, hr, h => by
  have hl : r.length = k := hr r (by simp)
  rw [List.flatten_cons]
  by_cases ht : t < k
  ·rw [List.getElem?_append_left (by omega), Nat.div_eq_of_lt ht, Nat.mod_eq_of_lt ht]; rfl
  ·obtain ⟨s, rfl⟩ : ∃ s, t = s + k := ⟨t - k, by omega⟩
   have hs : s < ls.length * k := by simp only [List.length_cons, Nat.add_mul, Nat.one_mul] at h; omega
   rw [List.getElem?_append_right (by omega), hl, Nat.add_sub_cancel, zrj hk ls s (fun r hr' => hr r (by simp [hr'])) hs, Nat.add_div_right _ hk, Nat.add_mod_right, List.getElem?_cons_succ]
theorem zs0 {β : Type} [Inhabited β] (enc : β → List Value) {k : Nat} (hk0 : 0 < k) (hk : ∀ x, (enc x).length = k) (d : Array β) : (flatK enc k d).toList = (d.toList.map enc).flatten := by
 refine List.ext_getElem? fun t => ?_
 have hr : ∀ r ∈ d.toList.map enc, r.length = k := fun r hr => by obtain ⟨x, _, rfl⟩ := List.mem_map.1 hr; exact hk x
 have hlen : ((d.toList.map enc).flatten).length = d.size * k := by
  have : ∀ ls : List (List Value), (∀ r ∈ ls, r.length = k) → ls.flatten.length = ls.length * k := by
   intro ls
   induction ls with
   | nil => intro _; simp
   | cons r ls ih => intro h; rw [List.flatten_cons, List.length_append, ih (fun r hr => h r (by simp [hr])), h r (by simp), List.length_cons, Nat.add_mul]; omega
  rw [this _ hr]; simp
 by_cases ht : t < d.size * k
 ·have h1 := get_flatK enc k d t ht
  have hq : t / k < d.size := Nat.div_lt_of_lt_mul (by rw [Nat.mul_comm]; exact ht)
  have hm : t % k < k := Nat.mod_lt _ hk0
  have hs : t < (flatK enc k d).size := by rw [size_flatK]; exact ht
  rw [zrj hk0 _ t hr (by simpa using ht), Array.getElem?_toList, Array.getElem?_eq_getElem hs, ← getElem!_pos (flatK enc k d) t hs, h1, List.getElem?_map, Array.getElem?_toList, Array.getElem?_eq_getElem hq,
   getElem!_pos d (t / k) hq]
  simp only [Option.map_some, Option.bind_some]
  rw [List.getElem?_eq_getElem (by rw [hk]; exact hm), getElem!_pos _ _ (by rw [hk]; exact hm)]
 ·rw [List.getElem?_eq_none (by rw [Array.length_toList, size_flatK]; omega), List.getElem?_eq_none (by omega)]
theorem ztI {w : World} {blk off : Nat} {C : Array Value} {T : TypeId} (hb : w.heap[blk]? = some (.cells C T (0, 0))) {F : Array Value} (hF : off + F.size ≤ C.size) (n : Nat) (os : Array Obj) :
  ∃ C', (grow (putRow id (Sort.ahead w n) blk off F) os).heap[blk]? = some (.cells C' T (0, 0)) ∧ C'.size = C.size ∧ (C'.toList.drop off).take F.size = F.toList ∧
   (∀ j, j ≠ blk → j < w.heap.size → (grow (putRow id (Sort.ahead w n) blk off F) os).heap[j]? = w.heap[j]?) ∧ w.heap.size ≤ (grow (putRow id (Sort.ahead w n) blk off F) os).heap.size := by
 have hlt : blk < w.heap.size := (Array.getElem?_eq_some_iff.1 hb).1
 have hsz : (putRow id (Sort.ahead w n) blk off F).heap.size = w.heap.size := by rw [Sort.size_putRow]; rfl
 have hold : ∀ j, j < w.heap.size → (grow (putRow id (Sort.ahead w n) blk off F) os).heap[j]? = (w.heap.modify blk (onCells (putCells id off F)))[j]? := by
  intro j hj
  show (_ ++ os)[j]? = _
  rw [Array.getElem?_append_left (by rw [hsz]; exact hj)]
  rfl
 refine ⟨putCells id off F C, ?_, by simp [putCells], ?_, fun j hj hjl => ?_, ?_⟩
 ·rw [hold blk hlt, Array.getElem?_modify]
  simp [hb, onCells]
 ·refine List.ext_getElem? fun j => ?_
  by_cases hj : j < F.size
  ·rw [List.getElem?_take, if_pos hj, List.getElem?_drop, Array.getElem?_toList, Array.getElem?_toList]
   simp only [putCells, Array.getElem?_mapIdx]
   rw [Array.getElem?_eq_getElem (show off + j < C.size by omega), Array.getElem?_eq_getElem hj]
   simp only [Option.map_some]
   rw [if_pos ⟨by omega, by omega⟩, show off + j - off = j by omega, getElem!_pos F j hj]
   rfl
  ·rw [List.getElem?_eq_none (by simp; omega), List.getElem?_eq_none (by simpa using hj)]
 ·rw [hold j hjl, Array.getElem?_modify, if_neg (Ne.symm hj)]
 ·rw [size_grow, hsz]; omega
theorem zke {w : World} {blk off : Nat} {C : Array Value} {T : TypeId} (hb : w.heap[blk]? = some (.cells C T (0, 0))) {β : Type} [Inhabited β] (enc : β → List Value) (k : Nat) (d : Array β) (hF : off + d.size * k ≤ C.size) (n : Nat) (os : Array Obj) :
  ∃ C', (sortWorldK enc k w blk off n d os).heap[blk]? = some (.cells C' T (0, 0)) ∧ C'.size = C.size ∧ (C'.toList.drop off).take (d.size * k) = (flatK enc k d).toList ∧
   (∀ j, j ≠ blk → j < w.heap.size → (sortWorldK enc k w blk off n d os).heap[j]? = w.heap[j]?) ∧ w.heap.size ≤ (sortWorldK enc k w blk off n d os).heap.size ∧
   (sortWorldK enc k w blk off n d os).os = w.os ∧ (sortWorldK enc k w blk off n d os).tape = w.tape ∧ (sortWorldK enc k w blk off n d os).output = w.output ∧ w.drawn ≤ (sortWorldK enc k w blk off n d os).drawn := by
 obtain ⟨C', h1, h2, h3, h4, h5⟩ := ztI hb (F := flatK enc k d) (by rw [size_flatK]; exact hF) n os
 unfold sortWorldK putRowK
 rw [size_flatK] at h3
 exact ⟨C', h1, h2, h3, h4, h5, rfl, rfl, rfl, Nat.le_add_right _ _⟩
theorem zyl {α β : Type} {lt : α → α → Bool} (h : SWO lt) (f : β → α) : SWO (fun a b => lt (f a) (f b)) := ⟨fun _ => h.irrefl _, fun _ _ _ => h.trans _ _ _, fun _ _ _ => h.ntrans _ _ _⟩
theorem zAQ {P : Program} {ρ : Ren} (L : SlLaysF0.n6 P ρ) {α : Type} {k : Nat} (hk0 : 0 < k) (aE : ∀ w, (isAgg (ρ.t 24)).run P w = .ok true w) (zE : ∀ w, (Go.sizeOf (ρ.t 24)).run P w = .ok k w)
  (en : α → List AV) (henl : ∀ x, (en x).length = k) (henb : ∀ x, ∀ c ∈ en x, Bel 0 c) (Q : α → Prop) (cf : α → α → Int) (hO : SWO (fun a b : α => decide (cf a b < 0))) (g : FuncId)
  (hC : ∀ x y, Q x → Q y → zaL P g [.agg (en x), .agg (en y)] (.v (.int .i64 (cf x y)))) (hg : zdR P g) (l : List α) (hQ : ∀ x ∈ l, Q x) (hl : l.length < 4611686018427387904) {h : zar} {n o gn : Nat}
  (ho : h o = some (.rows true gn k (l.map en))) {K : zcF} (hK : ∀ l' : List α, l'.Perm l → l'.Pairwise (fun a b => ¬ cf b a < 0) → K (.tup []) (upd h o (some (.rows true gn k (l'.map en)))) n) :
  zaa P (ρ.f 6) [.sl o gn k 0 l.length, .fn (.func g) [] []] h n K := by
 have e6 : zdR P (ρ.f 6) := L.f6.enters rfl
 refine ⟨e6, fun M0 φ w vs hH hargs => ?_⟩
 cases hargs with
 | cons hs ht =>
 cases ht with
 | cons hf ht =>
 cases ht
 cases hf with
 | @fn _ _ _ fs cs q1 q2 =>
 cases q1; cases q2
 have hal : zcy h o gn k := by simp [zcy, ho]
 obtain ⟨A, cap, rfl, hcap, hA⟩ := hH.sl_alive hal hs
 have hnone : l = [] → Calls P (ρ.f 6) ⟨[.slice A l.length cap, .func (.func g) ⟨[]⟩ ⟨[]⟩]⟩ w fun e w' => ∃ v φ' r h' n', e = .returned v ∧ K r h' n' ∧ zgI φ' n' w' M0 h' ∧ Rel φ' w' (Or M0 (Mut φ' h')) r v ∧ zcR φ w M0 h φ' w' h' := by
  intro he
  subst he
  refine (AnyF.slices_SortFunc_none L A cap _ w).mono ?_
  rintro e w' ⟨rfl, rfl⟩
  have := hK [] (.refl _) .nil
  rw [← ho, zd4] at this
  exact ⟨_, φ, .tup [], h, n, rfl, this, hH, .tup (vs := []) .nil, .refl _ _ _ _⟩
 by_cases he : l = []
 ·exact hnone he
 have hlp : 0 < l.length := List.length_pos_iff.2 he
 rcases hA with ⟨rfl, _, h0, _⟩ | ⟨h0, rfl, _⟩ | ⟨a, bs, hp, hsp, rfl, hcb⟩
 ·omega
 ·omega
 obtain ⟨A0, hA0, hobj⟩ := hH.obj _ _ _ _ _ ho
 rw [hp] at hA0
 simp only [Option.some.injEq, Prod.mk.injEq, true_and] at hA0
 subst hA0
 rcases hobj with ⟨hobj, _⟩ | ⟨a₁, bs₁, e1, h0, hd⟩
 ·cases hobj
 simp only [Option.some.injEq, Prod.mk.injEq] at e1
 obtain ⟨rfl, rfl⟩ := e1
 obtain ⟨C, T, hb, hCs, hr, hle, hv, hrel⟩ := hd.cells hsp
 rw [List.length_map] at hle hv hrel
 have hrel0 : zaI noP w (Or M0 (Mut φ h)) (l.map en).flatten ((C.toList.drop a.off).take (l.length * k)) := zgC (fun _ hk => hk) (fun c hc => by
  obtain ⟨r, hr, hc⟩ := List.mem_flatten.1 hc
  obtain ⟨x, _, rfl⟩ := List.mem_map.1 hr
  exact henb x c hc) hrel
 obtain ⟨ls, hlx, hlv⟩ := zsS (Q := Q) hQ hrel0 hv
 have hlen : ls.length = l.length := by rw [← hlx, List.length_map]
 obtain ⟨d, hd⟩ : ∃ d : Array (El w (Or M0 (Mut φ h)) en Q), d = ls.toArray := ⟨_, rfl⟩
 have hds : d.size = l.length := by rw [hd]; simpa using hlen
 haveI : Inhabited (El w (Or M0 (Mut φ h)) en Q) := ⟨ls[0]'(by omega)⟩
 have hkE : ∀ x : El w (Or M0 (Mut φ h)) en Q, x.vs.length = k := fun x => by rw [← x.rel.length, henl]
 have hMb : Or M0 (Mut φ h) a.block := .inr ⟨o, gn, k, _, gn, a, bs, ho, hp, rfl⟩
 have hblk : a.block < w.heap.size := (Array.getElem?_eq_some_iff.1 hb).1
 have hfl : ∀ d' : Array (El w (Or M0 (Mut φ h)) en Q), (flatK (fun x => x.vs) k d').toList = (d'.toList.map fun x => x.vs).flatten := fun d' => zs0 _ hk0 hkE d'
 have hCal : Calls P (ρ.f 6) ⟨[.slice (some ⟨a.block, a.off + 0 * k, none⟩) l.length cap, .func (.func g) ⟨[]⟩ ⟨[]⟩]⟩ w fun e w' =>
   e = .returned (.tuple #[]) ∧ ∃ d' n os, PermIn 0 d.size d d' ∧ SortedIn (ltOf fun x y : El w (Or M0 (Mut φ h)) en Q => cf x.x y.x) 0 d.size d' ∧ w' = sortWorldK (fun x => x.vs) k w a.block a.off n d' os := by
  rw [Nat.zero_mul, Nat.add_zero, ← hds]
  refine AnyQ.slices_SortFunc L k aE zE (fun x : El w (Or M0 (Mut φ h)) en Q => x.vs) hkE (fun x => x.cells) (fun x y => cf x.x y.x) (zyl hO fun x : El w (Or M0 (Mut φ h)) en Q => x.x) g #[] a.block a.off cap d w hg ?_ ?_ hblk (by omega)
  ·intro m os dk hdk x y
   obtain ⟨hx1, hx2⟩ := hC x.x y.x x.q y.q
   obtain ⟨C', k1, k2, k3, k4, k5, k6, k7, k8, k9⟩ := zke (off := a.off) hb (fun x : El w (Or M0 (Mut φ h)) en Q => x.vs) k dk (by rw [hdk, hds]; omega) m os
   generalize sortWorldK (fun x : El w (Or M0 (Mut φ h)) en Q => x.vs) k w a.block a.off m dk os = X at *
   have hkeep : ∀ z : El w (Or M0 (Mut φ h)) en Q, zaI noP X (Or M0 (Mut φ h)) (en z.x) z.vs := fun z =>
    z.rel.keep noP.le_refl (fun j hj hjl => k4 j (fun e => hj (e ▸ hMb)) hjl) (fun j hj => .inl hj)
   have hag : ∀ z : El w (Or M0 (Mut φ h)) en Q, Rel noP X (Or M0 (Mut φ h)) (.agg (en z.x)) (.agg z.vs.toArray) := fun z => .agg z.cells (hkeep z)
   refine (hx2 (Or M0 (Mut φ h)) X [.agg x.vs.toArray, .agg y.vs.toArray] (fun j hj => Nat.lt_of_lt_of_le (hH.blk hj) k5) (hH.glob.keep (fun j hj hjl => k4 j (fun e => hj (e ▸ hMb)) hjl) (fun j hj => .inl hj)) (.cons (hag x) (.cons (hag y) .nil))).mono ?_
   rintro e w' ⟨v, rfl, hrv, hfr⟩
   cases hrv
   refine ⟨rfl, w'.drawn - X.drawn, w'.heap.extract X.heap.size w'.heap.size, ?_⟩
   have hheap : X.heap ++ w'.heap.extract X.heap.size w'.heap.size = w'.heap := by
    refine Array.ext_getElem? fun j => ?_
    by_cases hj : j < X.heap.size
    ·rw [Array.getElem?_append_left hj, hfr.block j hj (fun h => h)]
    ·rw [Array.getElem?_append_right (by omega), Array.getElem?_extract]
     have := hfr.size
     split
     ·congr 1; omega
     ·rw [Array.getElem?_eq_none (by omega)]
   have hdr : X.drawn + (w'.drawn - X.drawn) = w'.drawn := by have := hfr.drawn; omega
   cases w' with
   | mk hp tp dr os' out =>
    have e1 := hfr.os; have e2 := hfr.tape; have e3 := hfr.output
    simp only at e1 e2 e3 hheap hdr
    subst e1 e2 e3
    simp only [grow, World.drewN, hheap, hdr]
  ·intro j hj
   have hjl : j < ((C.toList.drop a.off).take (l.length * k)).length := by
    rw [← hlv, ← show (d.toList.map fun x => x.vs) = ls.map (·.vs) by rw [hd], ← hfl, Array.length_toList]; exact hj
   have hget : (flatK (fun x : El w (Or M0 (Mut φ h)) en Q => x.vs) k d)[j]! = C[a.off + j]! := by
    have e1 : (flatK (fun x : El w (Or M0 (Mut φ h)) en Q => x.vs) k d).toList = (C.toList.drop a.off).take (l.length * k) := by rw [hfl, hd]; exact hlv
    have hjC : a.off + j < C.size := by simp at hjl; omega
    rw [getElem!_pos _ j hj, getElem!_pos C _ hjC, ← Array.getElem_toList, ← Array.getElem_toList (xs := C)]
    simp only [e1, List.getElem_take, List.getElem_drop]
   have hjC : a.off + j < C.size := by simp at hjl; omega
   refine ⟨?_, ?_⟩
   ·simp only [World.cell?, hb]
    rw [hget]
    simp [hjC]
   ·simp [World.frozen?, hb]
 refine hCal.mono ?_
 rintro e w' ⟨rfl, d', n', os, hperm, hsort, rfl⟩
 obtain ⟨hps, _, hpp⟩ := hperm
 obtain ⟨C', k1, k2, k3, k4, k5, k6, k7, k8, k9⟩ := zke (off := a.off) hb (fun x : El w (Or M0 (Mut φ h)) en Q => x.vs) k d' (by rw [hps, hds]; omega) n' os
 generalize sortWorldK (fun x : El w (Or M0 (Mut φ h)) en Q => x.vs) k w a.block a.off n' d' os = X at *
 obtain ⟨l', hl'⟩ : ∃ l' : List α, l' = d'.toList.map fun x => x.x := ⟨_, rfl⟩
 have hl'l : l'.length = l.length := by rw [hl', List.length_map, Array.length_toList, hps, hds]
 have hpl : l'.Perm l := by
  have h1 : (d'.extract 0 d.size).toList = d'.toList := by rw [← hps]; simp
  have h2 : (d.extract 0 d.size).toList = d.toList := by simp
  rw [h1, h2] at hpp
  have := hpp.map fun x => x.x
  rw [hl', ← hlx]
  simpa [hd] using this
 have hpw : l'.Pairwise (fun x y => ¬ cf y x < 0) := by
  rw [hl', List.pairwise_map, List.pairwise_iff_getElem]
  intro i j hi hj hij
  have hi' : i < d'.size := by simpa using hi
  have hj' : j < d'.size := by simpa using hj
  have := hsort i j (Nat.zero_le _) hij (by omega)
  rw [getElem!_pos d' i hi', getElem!_pos d' j hj'] at this
  simpa [ltOf] using this
 have hwin : (C'.toList.drop a.off).take (l'.length * k) = (d'.toList.map fun x => x.vs).flatten := by
  rw [hps, hds, hfl] at k3
  rw [hl'l]; exact k3
 have hrel' : zaI φ w (Or M0 (Mut φ h)) (l'.map en).flatten ((C'.toList.drop a.off).take (l'.length * k)) := by
  rw [hwin, hl']
  generalize d'.toList = ds
  induction ds with
  | nil => exact .nil
  | cons z ds ih =>
   simp only [List.map_cons, List.flatten_cons]
   exact (z.rel.keep (fun o x ho => by cases ho) (fun _ _ _ => rfl) (fun k hk => .inl hk)).append ih
 have hle0 : φ.le (upd φ o (some (gn, some (a, bs)))) := by rw [← hp, zd4]; exact φ.le_refl
 have hol : ¬ n ≤ o := fun hle => by rw [hH.fresh o hle] at hp; cases hp
 obtain ⟨g1, g2, g3⟩ := hH.set (w' := X) (F' := fun o => n ≤ o) (o := o) (mt := true) (g := gn) (sz := k) (rs := l'.map en) (A := some (a, bs))
  (fun _ h => h) hol k5 hle0 (fun j hj hjl => k4 j (fun e => hj (e ▸ hMb)) hjl)
  (fun o' mt' g' sz' rs' a₁ b₁ hne ho' hp' => by
   have := hH.inj _ _ _ _ _ _ _ _ _ _ _ _ _ _ ho ho' (Ne.symm hne) (.inl rfl) hp hp'
   have hlt : a₁.block < w.heap.size := by
    obtain ⟨A1, hA1, hc1⟩ := hH.obj _ _ _ _ _ ho'
    rw [hp'] at hA1
    simp only [Option.some.injEq, Prod.mk.injEq, true_and] at hA1
    subst hA1
    rcases hc1 with ⟨hc1, _⟩ | ⟨a2, b2, e2, _, hb2⟩
    ·cases hc1
    ·simp only [Option.some.injEq, Prod.mk.injEq] at e2
     obtain ⟨rfl, rfl⟩ := e2
     exact hb2.blk
   refine ⟨k4 _ (Ne.symm this) hlt, fun a₂ b₂ e => ?_⟩
   simp only [Option.some.injEq, Prod.mk.injEq] at e
   obtain ⟨rfl, rfl⟩ := e
   exact this)
  (fun a₁ b₁ e => by
   simp only [Option.some.injEq, Prod.mk.injEq] at e
   obtain ⟨rfl, rfl⟩ := e
   exact .inl hMb)
  (.inr ⟨a, bs, C', T, rfl, hsp, h0, k1, by rw [k2]; exact hCs, fun r hr => by
    obtain ⟨x, _, rfl⟩ := List.mem_map.1 hr
    exact henl x, by rw [List.length_map, hl'l]; exact hle, fun c hm => by
    rw [List.length_map, hwin] at hm
    obtain ⟨r, hr, hm⟩ := List.mem_flatten.1 hm
    obtain ⟨z, _, rfl⟩ := List.mem_map.1 hr
    exact z.cells c hm, by rw [List.length_map]; exact hrel'⟩)
 refine ⟨_, _, .tup [], _, n, rfl, hK l' hpl hpw, g1, .tup (vs := []) .nil, ⟨hle0, g2, ⟨k6, k7, k8, k9, k5, fun j hj hu => k4 j (fun e => hu ⟨o, gn, k, _, gn, a, bs, ho, hp, e.symm⟩) hj⟩, fun j hj => ?_⟩⟩
 rcases g3 j hj with h | ⟨a₁, b₁, e, rfl⟩
 ·exact .inl h
 ·simp only [Option.some.injEq, Prod.mk.injEq] at e
  obtain ⟨rfl, rfl⟩ := e
  exact .inl ⟨o, gn, k, _, gn, a, bs, ho, hp, rfl⟩
end Go.Av
end
section
namespace Go.Proofs
open Go.Shelf
def zwB : Go.Shelf.Ren := ⟨fun | 6 => 185 | 15 => 190 | 14 => 230 | 28 => 239 | 29 => 240 | 20 => 276 | 21 => 277 | 22 => 278 | 23 => 279 | 24 => 280 | 25 => 281 | 26 => 282 | 27 => 283 | 46 => 302 | 47 => 285 | 48 => 286 | 49 => 303 | 50 => 304 | 57 => 313 | n => n, fun | 22 => 202 | 24 => 135 | 25 => 259 | 3 => 3 | 39 => 224 | 0 => 0 | 53 => 310 | 55 => 312 | 4 => 4 | 46 => 304 | 45 => 303 | 50 => 62 | 5 => 5 | 9 => 9 | 66 => 337 | 70 => 341 | 76 => 362 | 77 => 200 | n => n, fun n => n⟩
theorem zsort : Go.Proofs.SlLaysF0.n6 Tryz.prog zwB := {
 mixed := by kernel_rfl
 f6 := ⟨Tryz.f185.name, by decide, Tryz.func185.trans (congrArg some (by kernel_rfl))⟩
 f14 := ⟨Tryz.f230.name, by decide, Tryz.func230.trans (congrArg some (by kernel_rfl))⟩
 f15 := Tryz.func190.trans (congrArg some (by kernel_rfl))
 f20 := ⟨Tryz.f276.name, by decide, Tryz.func276.trans (congrArg some (by kernel_rfl))⟩
 f21 := ⟨Tryz.f277.name, by decide, Tryz.func277.trans (congrArg some (by kernel_rfl))⟩
 f22 := ⟨Tryz.f278.name, by decide, Tryz.func278.trans (congrArg some (by kernel_rfl))⟩
 f23 := ⟨Tryz.f279.name, by decide, Tryz.func279.trans (congrArg some (by kernel_rfl))⟩
 f24 := ⟨Tryz.f280.name, by decide, Tryz.func280.trans (congrArg some (by kernel_rfl))⟩
 f25 := ⟨Tryz.f281.name, by decide, Tryz.func281.trans (congrArg some (by kernel_rfl))⟩
 f26 := ⟨Tryz.f282.name, by decide, Tryz.func282.trans (congrArg some (by kernel_rfl))⟩
 f27 := ⟨Tryz.f283.name, by decide, Tryz.func283.trans (congrArg some (by kernel_rfl))⟩
 f28 := Tryz.func239.trans (congrArg some (by kernel_rfl))
 f29 := Tryz.func240.trans (congrArg some (by kernel_rfl))
 f46 := ⟨Tryz.f302.name, by decide, Tryz.func302.trans (congrArg some (by kernel_rfl))⟩
 f47 := Tryz.func285.trans (congrArg some (by kernel_rfl))
 f48 := Tryz.func286.trans (congrArg some (by kernel_rfl))
 f49 := ⟨Tryz.f303.name, by decide, Tryz.func303.trans (congrArg some (by kernel_rfl))⟩
 f50 := ⟨Tryz.f304.name, by decide, Tryz.func304.trans (congrArg some (by kernel_rfl))⟩
 f57 := ⟨Tryz.f313.name, by decide, Tryz.func313.trans (congrArg some (by kernel_rfl))⟩
 t0 := Tryz.underlying0
 a0 := Tryz.isAgg0
 z0 := Tryz.sizeOf0
 v0 := Tryz.zeroValue0
 t3 := Tryz.underlying3
 a3 := Tryz.isAgg3
 z3 := Tryz.sizeOf3
 v3 := Tryz.zeroValue3
 t4 := Tryz.underlying4
 a4 := Tryz.isAgg4
 z4 := Tryz.sizeOf4
 v4 := Tryz.zeroValue4
 t5 := Tryz.underlying5
 a5 := Tryz.isAgg5
 z5 := Tryz.sizeOf5
 v5 := Tryz.zeroValue5
 t9 := Tryz.underlying9
 a9 := Tryz.isAgg9
 z9 := Tryz.sizeOf9
 v9 := Tryz.zeroValue9
 t22 := Tryz.underlying202
 a22 := Tryz.isAgg202
 z22 := Tryz.sizeOf202
 v22 := Tryz.zeroValue202
 t25 := Tryz.underlying259
 a25 := Tryz.isAgg259
 z25 := Tryz.sizeOf259
 v25 := Tryz.zeroValue259
 t39 := Tryz.underlying224
 a39 := Tryz.isAgg224
 z39 := Tryz.sizeOf224
 v39 := Tryz.zeroValue224
 t45 := Tryz.underlying303
 a45 := Tryz.isAgg303
 z45 := Tryz.sizeOf303
 v45 := Tryz.zeroValue303
 t46 := Tryz.underlying304
 a46 := Tryz.isAgg304
 z46 := Tryz.sizeOf304
 v46 := Tryz.zeroValue304
 t50 := Tryz.underlying62
 a50 := Tryz.isAgg62
 z50 := Tryz.sizeOf62
 v50 := Tryz.zeroValue62
 t53 := Tryz.underlying310
 a53 := Tryz.isAgg310
 z53 := Tryz.sizeOf310
 v53 := Tryz.zeroValue310
 t55 := Tryz.underlying312
 a55 := Tryz.isAgg312
 z55 := Tryz.sizeOf312
 v55 := Tryz.zeroValue312
 t66 := Tryz.underlying337
 a66 := Tryz.isAgg337
 z66 := Tryz.sizeOf337
 v66 := Tryz.zeroValue337
 t70 := Tryz.underlying341
 a70 := Tryz.isAgg341
 z70 := Tryz.sizeOf341
 v70 := Tryz.zeroValue341
 t76 := Tryz.underlying362
 a76 := Tryz.isAgg362
 z76 := Tryz.sizeOf362
 v76 := Tryz.zeroValue362
 t77 := Tryz.underlying200
 a77 := Tryz.isAgg200
 z77 := Tryz.sizeOf200
 v77 := Tryz.zeroValue200 }
end Go.Proofs
end
section
open Go Go.Proofs
namespace Go.Av
theorem zl2 (l : List zcl) (gn : Nat) (hl : l.length ≤ 17179869184) (hf : ∀ o ∈ l, zaU o.pos) :
  ziq Tryz.prog 187 [.sl 0 gn 6 0 l.length, .fn (.func 188) [] []] [(0, .rows true gn 6 (l.map zay))] 1
   (.sl 0 gn 6 0 (zbt l).length) [(0, .rows true gn 6 ((zbt l).map zay ++ List.replicate (l.length - (zbt l).length) zm1))] 1 := by
 unfold ziq
 by_cases h2 : l.length < 2
 ·rw [zjr h2]
  refine zAw (by kernel_rfl) Tryz.func187 rfl rfl (Nat.le_of_ble_eq_true rfl) (by kernel_rfl) ?_
  repeat first|refine wV fun _=>?_|simp [go_sem]
  (refine zAt (fun hT => ?_) (fun hT => by first | omega | (simp at hT; omega)); clear hT)
  repeat first|refine wV fun _=>?_|simp [go_sem]
  simp [go_sem, zaf]
 obtain ⟨D, hD⟩ : ∃ D, D = zbt l := ⟨_, rfl⟩
 rw [← hD]
 have hE : ∀ i j, i < l.length → j < l.length → zaL Tryz.prog 188 [.agg (zay (nth l i)), .agg (zay (nth l j))] (.v (.bool (decide (nth l i = nth l j)))) :=
  fun i j hi hj => ztB _ _ (hf _ (zaj hi)) (hf _ (zaj hj))
 refine zAw (by kernel_rfl) Tryz.func187 rfl rfl (Nat.le_of_ble_eq_true rfl) (by kernel_rfl) ?_
 repeat first|refine wV fun _=>?_|simp [go_sem]
 (refine zAt (fun hF => by first | omega | (simp at hF; omega)) (fun hF => ?_); clear hF)
 repeat first|refine wV fun _=>?_|simp [go_sem]
 refine zAr (zAv (α := Nat) (fun j => ⟨[(0, .sl 0 gn 6 0 l.length), (1, .fn (.func 188) [] []), (5, .v (.int .i64 j))], [(0, .rows true gn 6 (l.map zay))], 1⟩)
  (fun d j => 1 ≤ j ∧ j + d = l.length ∧ D = l.take j ++ zbf (nth l (j - 1)) (l.drop j)) ?_ (l.length - 1) 1 ?_) ?_ ?_
 ·rintro d j ⟨i1, i2, i3⟩ hrec
  have e1 : ((j : Int) - 1).toNat = j - 1 := by omega
  repeat first|refine wV fun _=>?_|simp [go_sem]
  refine zAt (fun hj => ?_) (fun hj => ?_) <;> simp at hj
  ·have hj' : j - 1 < l.length := by omega
   rw [zaH hj, zbf] at i3
   repeat first|refine wV fun _=>?_|simp [go_sem, hj, hj', e1]
   refine zAu (hE j (j - 1) hj hj') (by simp [go_sem]) ?_
   repeat first|refine wV fun _=>?_|simp [go_sem, hj, hj', e1]
   by_cases he : nth l j = nth l (j - 1)
   ·rw [if_pos he] at i3
    repeat first|refine wV fun _=>?_|simp [go_sem, he, hj, hj', e1]
    refine zAr (zAv (α := Nat × List zcl × Nat) (fun a => ⟨[(0, .sl 0 gn 6 0 l.length), (1, .fn (.func 188) [] []), (5, .v (.int .i64 a.2.2)), (6, .sl 0 gn 6 j (l.length - j)), (7, .v (.int .i64 a.1))], [(0, .rows true gn 6 (a.2.1.map zay))], 1⟩)
     (fun d a => 1 ≤ a.1 ∧ j + a.1 + d = l.length ∧ a.2.1.length = l.length ∧ a.2.2 ≤ j + a.1 - 1 ∧ a.2.1.drop (j + a.1 - 1) = l.drop (j + a.1 - 1) ∧ D = a.2.1.take a.2.2 ++ zbf (nth l (j + a.1 - 1)) (l.drop (j + a.1))) ?_ (l.length - j - 1) (1, l, j) ?_) ?_ ?_
    ·rintro d2 ⟨k2, R, k⟩ ⟨j1, j2, j3, j4, j5, j6⟩ hrec2
     simp only at j1 j2 j3 j4 j5 j6
     have e2 : ((k2 : Int) - 1).toNat = k2 - 1 := by omega
     have e3 : j + (k2 - 1) = j + k2 - 1 := by omega
     have hRn : ∀ m, j + k2 - 1 ≤ m → m < l.length → nth R m = nth l m := fun m h1 h2 => by
      have h3 : (R.drop (j + k2 - 1))[m - (j + k2 - 1)]? = (l.drop (j + k2 - 1))[m - (j + k2 - 1)]? := by rw [j5]
      rw [List.getElem?_drop, List.getElem?_drop, show j + k2 - 1 + (m - (j + k2 - 1)) = m by omega, List.getElem?_eq_getElem (by omega), List.getElem?_eq_getElem h2] at h3
      rw [zaC _ _ (by omega), zaC _ _ h2]
      exact Option.some.inj h3
     repeat first|refine wV fun _=>?_|simp [go_sem, j3]
     refine zAt (fun hk => ?_) (fun hk => ?_) <;> simp at hk
     ·have hk1 : j + k2 < l.length := by omega
      have hk0 : j + k2 - 1 < l.length := by omega
      have hr1 := hRn (j + k2) (by omega) hk1
      have hr0 := hRn (j + k2 - 1) (by omega) hk0
      rw [zaH hk1, zbf] at j6
      have hk2 : k2 - 1 < l.length - j := by omega
      have hk3 : k < l.length := by omega
      repeat first|refine wV fun _=>?_|simp [go_sem, j3, hk, hk1, hk0, hr1, hr0, e2, e3, hk2]
      refine zAu (hE (j + k2) (j + k2 - 1) hk1 hk0) (by simp [go_sem]) ?_
      repeat first|refine wV fun _=>?_|simp [go_sem, j3, hk, hk1, hk0, hr1, hr0, e2, e3, hk2]
      by_cases hc : nth l (j + k2) = nth l (j + k2 - 1)
      ·rw [if_pos hc] at j6
       repeat first|refine wV fun _=>?_|simp [go_sem, hc]
       refine zAr (hrec2 (d2 - 1) (by omega) (k2 + 1, R, k) ⟨by simp only; omega, by simp only; omega, j3, by simp only; omega, ?_, ?_⟩) ?_ (by simp)
       ·have := congrArg (List.drop 1) j5
        rw [List.drop_drop, List.drop_drop] at this
        rw [show j + (k2 + 1) - 1 = j + k2 - 1 + 1 by omega]
        exact this
       ·simp only
        rw [show j + (k2 + 1) - 1 = j + k2 by omega, hc]
        exact j6
       ·simp [go_sem, zaf]
      ·rw [if_neg hc] at j6
       repeat first|refine wV fun _=>?_|simp [go_sem, hc, j3, hk, hk1, hk0, hr1, hr0, e2, e3, hk2, hk3]
       refine zAr (hrec2 (d2 - 1) (by omega) (k2 + 1, R.set k (nth l (j + k2)), k + 1) ⟨by simp only; omega, by simp only; omega, by simpa using j3, by simp only; omega, ?_, ?_⟩) ?_ (by simp)
       ·have := congrArg (List.drop 1) j5
        rw [List.drop_drop, List.drop_drop] at this
        simp only
        rw [show j + (k2 + 1) - 1 = j + k2 - 1 + 1 by omega, List.drop_set, if_pos (by omega)]
        exact this
       ·simp only
        rw [show j + (k2 + 1) - 1 = j + k2 by omega, List.take_add_one, List.take_set_of_le (by omega), List.getElem?_set_self (by omega), Option.toList_some, List.append_assoc]
        exact j6
       ·have hb : ∀ n, ∀ r ∈ ((R.set k (nth l (j + k2))).map zay), ∀ c ∈ r, Bel n c := fun n => of_eq_true zra
        rw [List.map_set] at hb
        simp [go_sem, zaf, List.map_set]
        exact hb 1
     ·rw [List.drop_eq_nil_of_le (by omega), zbf, List.append_nil] at j6
      have hDl : D.length = k := by rw [j6, List.length_take]; omega
      have hd0 : List.drop (k + (l.length - k)) (R.map zay) = [] := List.drop_eq_nil_of_le (by simp; omega)
      have hDm : D.map zay = List.take k (R.map zay) := by rw [j6, List.map_take]
      repeat first|refine wV fun _=>?_|simp [go_sem]
      simp [go_sem, zaf, hd0, hDl, hDm, zm1]
      exact fun x hx => of_eq_true (zra (n := 1) (l := R)) x (List.mem_of_mem_take hx)
    ·refine ⟨Nat.le_refl _, by simp only; omega, rfl, by simp only; omega, rfl, ?_⟩
     simp only
     rw [Nat.add_sub_cancel, he]
     exact i3
    ·simp [go_sem, zaf]
    ·simp
   ·rw [if_neg he] at i3
    repeat first|refine wV fun _=>?_|simp [go_sem, he, hj, hj', e1]
    refine zAr (hrec (d - 1) (by omega) (j + 1) ⟨by omega, by omega, ?_⟩) ?_ (by simp)
    ·rw [i3, Nat.add_sub_cancel, List.take_add_one, List.getElem?_eq_getElem hj, zaC _ _ hj, Option.toList_some, List.append_assoc]; rfl
    ·simp [go_sem, zaf]
  ·rw [List.drop_eq_nil_of_le hj, List.take_of_length_le hj, zbf, List.append_nil] at i3
   rw [i3]
   repeat first|refine wV fun _=>?_|simp [go_sem]
   simp [go_sem, zaf]
 ·refine ⟨Nat.le_refl _, by omega, ?_⟩
  cases l with
  | nil => simp at h2
  | cons a l => rw [hD]; rfl
 ·simp [go_sem, zaf]
 ·simp
theorem zmv (l : List zcl) (gn : Nat) (hl : l.length ≤ 17179869184) (hf : ∀ o ∈ l, zaU o.pos) {h : zar} {n o : Nat} (ho : h o = some (.rows true gn 6 (l.map zay))) (hon : o < n) {K : zcF}
  (hK : K (.sl o gn 6 0 (zbt l).length) (upd h o (some (.rows true gn 6 ((zbt l).map zay ++ List.replicate (l.length - (zbt l).length) zm1)))) n) :
  zaa Tryz.prog 187 [.sl o gn 6 0 l.length, .fn (.func 188) [] []] h n K := by
 have hz : ∀ m, ∀ r ∈ (zbt l).map zay ++ List.replicate (l.length - (zbt l).length) zm1, ∀ c ∈ r, Bel m c := by
  intro m r hr c hc
  rcases List.mem_append.1 hr with hr | hr
  ·exact zcH _ r hr c hc
  ·rw [List.eq_of_mem_replicate hr] at hc
   simp only [zm1, List.mem_cons, List.not_mem_nil, or_false] at hc
   rcases hc with rfl | rfl | rfl | rfl | rfl | rfl <;> exact .v _
 refine zAL (args' := [.sl o gn 6 0 l.length, .fn (.func 188) [] []]) (HH := [(o, .rows true gn 6 ((zbt l).map zay ++ List.replicate (l.length - (zbt l).length) zm1))])
  [o] h (zl2 l gn hl hf) (by simp) (by simpa using hon) rfl (Nat.le_refl _) (.refl _) ?_ ?_ (.refl _ _ _ _) ?_ ?_ ?_ (.sl rfl) ?_ ?_
 ·intro j hj
  obtain rfl : j = 0 := by omega
  exact ⟨_, _, rfl, ho, .rows (.same (zcH _))⟩
 ·intro p hp
  simp only [List.mem_singleton] at hp
  subst hp
  exact ⟨Nat.le_of_ble_eq_true rfl, zcH _⟩
 ·intro y hy
  simp only [List.mem_cons, List.not_mem_nil, or_false] at hy
  rcases hy with rfl | rfl
  ·exact .sl hon
  ·simp [go_sem]
 ·exact .cons (.sl rfl) (.cons (.same (by simp [go_sem])) .nil)
 ·intro y hy
  simp only [List.mem_cons, List.not_mem_nil, or_false] at hy
  rcases hy with rfl | rfl
  ·exact .sl (by decide)
  ·simp [go_sem]
 ·exact .cons rfl (.rows (.same (hz 0))) .nil
 ·have e : zdP [(o, .rows true gn 6 ((zbt l).map zay ++ List.replicate (l.length - (zbt l).length) zm1))] (zlO [o] h) = upd h o (some (.rows true gn 6 ((zbt l).map zay ++ List.replicate (l.length - (zbt l).length) zm1))) := by
   funext j
   simp only [zdP, zlO, upd]
   by_cases j1 : j = o
   ·simp [j1]
   ·simp [j1]
  rw [e, Nat.sub_self, Nat.add_zero]
  exact hK
theorem zkM (l : List zcl) (gn m : Nat) (hm : l.length = m) (hl : m ≤ 17179869184) (hf : ∀ o ∈ l, zaU o.pos) {h : zar} {n o : Nat} (ho : h o = some (.rows true gn 6 (l.map zay))) (hon : o < n) {K : zcF}
  (hK : K (.sl o gn 6 0 (zbt l).length) (upd h o (some (.rows true gn 6 ((zbt l).map zay ++ List.replicate (l.length - (zbt l).length) zm1)))) n) :
  zaa Tryz.prog 187 [.sl o gn 6 0 m, .fn (.func 188) [] []] h n K := by
 subst hm
 exact zmv l gn hl hf ho hon hK
theorem zyk : Go.Sort.SWO (fun a b : zcl => decide (zh2 a b < 0)) := by
 refine ⟨fun x => ?_, fun x y z h1 h2 => ?_, fun x y z h1 h2 => ?_⟩
 ·have := zce.swap x x
  simp; omega
 ·simp only [decide_eq_true_eq] at h1 h2 ⊢
  have t := zce.tr x y z (by omega) (by omega)
  rcases Int.lt_or_eq_of_le t with h | h
  ·exact h
  ·have e := (zce.eq _ _).1 h
   subst e
   have := zce.swap x y
   omega
 ·simp only [decide_eq_false_iff_not] at h1 h2 ⊢
  have s1 := zce.swap x y
  have s2 := zce.swap y z
  have s3 := zce.swap x z
  have t := zce.tr z y x (by omega) (by omega)
  omega
theorem ztH (l : List zcl) (hf : ∀ o ∈ l, zaU o.pos) (hl : l.length < 4611686018427387904) {h : zar} {n o gn : Nat} (ho : h o = some (.rows true gn 6 (l.map zay))) {K : zcF}
  (hK : K (.tup []) (upd h o (some (.rows true gn 6 ((zcC zh2 l).map zay)))) n) :
  zaa Tryz.prog 185 [.sl o gn 6 0 l.length, .fn (.func 186) [] []] h n K := by
 refine zAQ zsort (k := 6) (by omega) Tryz.isAgg135 Tryz.sizeOf135 zay (fun _ => rfl) ?_ (fun o => zaU o.pos) zh2 zyk _ (fun x y hx hy => zgB x y hx hy) ?_ l hf hl ho ?_
 ·intro x
  simp [go_sem]
 ·exact (zgB default default (by unfold zaU ze5; decide) (by unfold zaU ze5; decide)).1
 ·intro l' hp hs
  have : zcC zh2 l = l' := zfD zce hp (hs.imp fun {a b} hab => by
   have := zce.swap a b
   simp only [leC, decide_eq_true_eq]
   omega)
  rw [← this]
  exact hK
end Go.Av
end
section
namespace Go.Proofs
open Go.Shelf
def ztT : Go.Shelf.Ren := ⟨fun | 6 => 129 | 15 => 190 | 14 => 189 | 28 => 239 | 29 => 240 | 20 => 231 | 21 => 232 | 22 => 233 | 23 => 234 | 24 => 235 | 25 => 236 | 26 => 237 | 27 => 238 | 46 => 284 | 47 => 285 | 48 => 286 | 49 => 287 | 50 => 288 | 57 => 305 | n => n, fun | 22 => 47 | 24 => 45 | 25 => 78 | 3 => 3 | 39 => 224 | 0 => 0 | 53 => 310 | 55 => 312 | 4 => 4 | 46 => 304 | 45 => 303 | 50 => 62 | 5 => 5 | 9 => 9 | 66 => 337 | 70 => 341 | 76 => 362 | 77 => 200 | n => n, fun n => n⟩
theorem zsortP : Go.Proofs.SlLaysF0.n6 Tryz.prog ztT := {
 mixed := by kernel_rfl
 f6 := ⟨Tryz.f129.name, by decide, Tryz.func129.trans (congrArg some (by kernel_rfl))⟩
 f14 := ⟨Tryz.f189.name, by decide, Tryz.func189.trans (congrArg some (by kernel_rfl))⟩
 f15 := Tryz.func190.trans (congrArg some (by kernel_rfl))
 f20 := ⟨Tryz.f231.name, by decide, Tryz.func231.trans (congrArg some (by kernel_rfl))⟩
 f21 := ⟨Tryz.f232.name, by decide, Tryz.func232.trans (congrArg some (by kernel_rfl))⟩
 f22 := ⟨Tryz.f233.name, by decide, Tryz.func233.trans (congrArg some (by kernel_rfl))⟩
 f23 := ⟨Tryz.f234.name, by decide, Tryz.func234.trans (congrArg some (by kernel_rfl))⟩
 f24 := ⟨Tryz.f235.name, by decide, Tryz.func235.trans (congrArg some (by kernel_rfl))⟩
 f25 := ⟨Tryz.f236.name, by decide, Tryz.func236.trans (congrArg some (by kernel_rfl))⟩
 f26 := ⟨Tryz.f237.name, by decide, Tryz.func237.trans (congrArg some (by kernel_rfl))⟩
 f27 := ⟨Tryz.f238.name, by decide, Tryz.func238.trans (congrArg some (by kernel_rfl))⟩
 f28 := Tryz.func239.trans (congrArg some (by kernel_rfl))
 f29 := Tryz.func240.trans (congrArg some (by kernel_rfl))
 f46 := ⟨Tryz.f284.name, by decide, Tryz.func284.trans (congrArg some (by kernel_rfl))⟩
 f47 := Tryz.func285.trans (congrArg some (by kernel_rfl))
 f48 := Tryz.func286.trans (congrArg some (by kernel_rfl))
 f49 := ⟨Tryz.f287.name, by decide, Tryz.func287.trans (congrArg some (by kernel_rfl))⟩
 f50 := ⟨Tryz.f288.name, by decide, Tryz.func288.trans (congrArg some (by kernel_rfl))⟩
 f57 := ⟨Tryz.f305.name, by decide, Tryz.func305.trans (congrArg some (by kernel_rfl))⟩
 t0 := Tryz.underlying0
 a0 := Tryz.isAgg0
 z0 := Tryz.sizeOf0
 v0 := Tryz.zeroValue0
 t3 := Tryz.underlying3
 a3 := Tryz.isAgg3
 z3 := Tryz.sizeOf3
 v3 := Tryz.zeroValue3
 t4 := Tryz.underlying4
 a4 := Tryz.isAgg4
 z4 := Tryz.sizeOf4
 v4 := Tryz.zeroValue4
 t5 := Tryz.underlying5
 a5 := Tryz.isAgg5
 z5 := Tryz.sizeOf5
 v5 := Tryz.zeroValue5
 t9 := Tryz.underlying9
 a9 := Tryz.isAgg9
 z9 := Tryz.sizeOf9
 v9 := Tryz.zeroValue9
 t22 := Tryz.underlying47
 a22 := Tryz.isAgg47
 z22 := Tryz.sizeOf47
 v22 := Tryz.zeroValue47
 t25 := Tryz.underlying78
 a25 := Tryz.isAgg78
 z25 := Tryz.sizeOf78
 v25 := Tryz.zeroValue78
 t39 := Tryz.underlying224
 a39 := Tryz.isAgg224
 z39 := Tryz.sizeOf224
 v39 := Tryz.zeroValue224
 t45 := Tryz.underlying303
 a45 := Tryz.isAgg303
 z45 := Tryz.sizeOf303
 v45 := Tryz.zeroValue303
 t46 := Tryz.underlying304
 a46 := Tryz.isAgg304
 z46 := Tryz.sizeOf304
 v46 := Tryz.zeroValue304
 t50 := Tryz.underlying62
 a50 := Tryz.isAgg62
 z50 := Tryz.sizeOf62
 v50 := Tryz.zeroValue62
 t53 := Tryz.underlying310
 a53 := Tryz.isAgg310
 z53 := Tryz.sizeOf310
 v53 := Tryz.zeroValue310
 t55 := Tryz.underlying312
 a55 := Tryz.isAgg312
 z55 := Tryz.sizeOf312
 v55 := Tryz.zeroValue312
 t66 := Tryz.underlying337
 a66 := Tryz.isAgg337
 z66 := Tryz.sizeOf337
 v66 := Tryz.zeroValue337
 t70 := Tryz.underlying341
 a70 := Tryz.isAgg341
 z70 := Tryz.sizeOf341
 v70 := Tryz.zeroValue341
 t76 := Tryz.underlying362
 a76 := Tryz.isAgg362
 z76 := Tryz.sizeOf362
 v76 := Tryz.zeroValue362
 t77 := Tryz.underlying200
 a77 := Tryz.isAgg200
 z77 := Tryz.sizeOf200
 v77 := Tryz.zeroValue200 }
end Go.Proofs
end
section
open Go Go.Proofs
namespace Go.Av
def zm2 : List AV := [.v (.slice none 0 0), .v (.slice none 0 0), .v (.slice none 0 0), .v (.int .i64 0), .v (.int .i64 0)]
theorem zl1 (l : List zah) (gn : Nat) (hl : l.length ≤ 17179869184) (hf : ∀ o ∈ l, zaU o) :
  ziq Tryz.prog 130 [.sl 0 gn 5 0 l.length, .fn (.func 131) [] []] [(0, .rows true gn 5 (l.map zad))] 1
   (.sl 0 gn 5 0 (zbt l).length) [(0, .rows true gn 5 ((zbt l).map zad ++ List.replicate (l.length - (zbt l).length) zm2))] 1 := by
 unfold ziq
 by_cases h2 : l.length < 2
 ·rw [zjr h2]
  refine zAw (by kernel_rfl) Tryz.func130 rfl rfl (Nat.le_of_ble_eq_true rfl) (by kernel_rfl) ?_
  repeat first|refine wV fun _=>?_|simp [go_sem]
  (refine zAt (fun hT => ?_) (fun hT => by first | omega | (simp at hT; omega)); clear hT)
  repeat first|refine wV fun _=>?_|simp [go_sem]
  simp [go_sem, zaf]
 obtain ⟨D, hD⟩ : ∃ D, D = zbt l := ⟨_, rfl⟩
 rw [← hD]
 have hE : ∀ i j, i < l.length → j < l.length → zaL Tryz.prog 131 [.agg (zad (nth l i)), .agg (zad (nth l j))] (.v (.bool (decide (nth l i = nth l j)))) :=
  fun i j hi hj => zqA _ _ (hf _ (zaj hi)) (hf _ (zaj hj))
 refine zAw (by kernel_rfl) Tryz.func130 rfl rfl (Nat.le_of_ble_eq_true rfl) (by kernel_rfl) ?_
 repeat first|refine wV fun _=>?_|simp [go_sem]
 (refine zAt (fun hF => by first | omega | (simp at hF; omega)) (fun hF => ?_); clear hF)
 repeat first|refine wV fun _=>?_|simp [go_sem]
 refine zAr (zAv (α := Nat) (fun j => ⟨[(0, .sl 0 gn 5 0 l.length), (1, .fn (.func 131) [] []), (5, .v (.int .i64 j))], [(0, .rows true gn 5 (l.map zad))], 1⟩)
  (fun d j => 1 ≤ j ∧ j + d = l.length ∧ D = l.take j ++ zbf (nth l (j - 1)) (l.drop j)) ?_ (l.length - 1) 1 ?_) ?_ ?_
 ·rintro d j ⟨i1, i2, i3⟩ hrec
  have e1 : ((j : Int) - 1).toNat = j - 1 := by omega
  repeat first|refine wV fun _=>?_|simp [go_sem]
  refine zAt (fun hj => ?_) (fun hj => ?_) <;> simp at hj
  ·have hj' : j - 1 < l.length := by omega
   rw [zaH hj, zbf] at i3
   repeat first|refine wV fun _=>?_|simp [go_sem, hj, hj', e1]
   refine zAu (hE j (j - 1) hj hj') (by simp [go_sem]) ?_
   repeat first|refine wV fun _=>?_|simp [go_sem, hj, hj', e1]
   by_cases he : nth l j = nth l (j - 1)
   ·rw [if_pos he] at i3
    repeat first|refine wV fun _=>?_|simp [go_sem, he, hj, hj', e1]
    refine zAr (zAv (α := Nat × List zah × Nat) (fun a => ⟨[(0, .sl 0 gn 5 0 l.length), (1, .fn (.func 131) [] []), (5, .v (.int .i64 a.2.2)), (6, .sl 0 gn 5 j (l.length - j)), (7, .v (.int .i64 a.1))], [(0, .rows true gn 5 (a.2.1.map zad))], 1⟩)
     (fun d a => 1 ≤ a.1 ∧ j + a.1 + d = l.length ∧ a.2.1.length = l.length ∧ a.2.2 ≤ j + a.1 - 1 ∧ a.2.1.drop (j + a.1 - 1) = l.drop (j + a.1 - 1) ∧ D = a.2.1.take a.2.2 ++ zbf (nth l (j + a.1 - 1)) (l.drop (j + a.1))) ?_ (l.length - j - 1) (1, l, j) ?_) ?_ ?_
    ·rintro d2 ⟨k2, R, k⟩ ⟨j1, j2, j3, j4, j5, j6⟩ hrec2
     simp only at j1 j2 j3 j4 j5 j6
     have e2 : ((k2 : Int) - 1).toNat = k2 - 1 := by omega
     have e3 : j + (k2 - 1) = j + k2 - 1 := by omega
     have hRn : ∀ m, j + k2 - 1 ≤ m → m < l.length → nth R m = nth l m := fun m h1 h2 => by
      have h3 : (R.drop (j + k2 - 1))[m - (j + k2 - 1)]? = (l.drop (j + k2 - 1))[m - (j + k2 - 1)]? := by rw [j5]
      rw [List.getElem?_drop, List.getElem?_drop, show j + k2 - 1 + (m - (j + k2 - 1)) = m by omega, List.getElem?_eq_getElem (by omega), List.getElem?_eq_getElem h2] at h3
      rw [zaC _ _ (by omega), zaC _ _ h2]
      exact Option.some.inj h3
     repeat first|refine wV fun _=>?_|simp [go_sem, j3]
     refine zAt (fun hk => ?_) (fun hk => ?_) <;> simp at hk
     ·have hk1 : j + k2 < l.length := by omega
      have hk0 : j + k2 - 1 < l.length := by omega
      have hr1 := hRn (j + k2) (by omega) hk1
      have hr0 := hRn (j + k2 - 1) (by omega) hk0
      rw [zaH hk1, zbf] at j6
      have hk2 : k2 - 1 < l.length - j := by omega
      have hk3 : k < l.length := by omega
      repeat first|refine wV fun _=>?_|simp [go_sem, j3, hk, hk1, hk0, hr1, hr0, e2, e3, hk2]
      refine zAu (hE (j + k2) (j + k2 - 1) hk1 hk0) (by simp [go_sem]) ?_
      repeat first|refine wV fun _=>?_|simp [go_sem, j3, hk, hk1, hk0, hr1, hr0, e2, e3, hk2]
      by_cases hc : nth l (j + k2) = nth l (j + k2 - 1)
      ·rw [if_pos hc] at j6
       repeat first|refine wV fun _=>?_|simp [go_sem, hc]
       refine zAr (hrec2 (d2 - 1) (by omega) (k2 + 1, R, k) ⟨by simp only; omega, by simp only; omega, j3, by simp only; omega, ?_, ?_⟩) ?_ (by simp)
       ·have := congrArg (List.drop 1) j5
        rw [List.drop_drop, List.drop_drop] at this
        rw [show j + (k2 + 1) - 1 = j + k2 - 1 + 1 by omega]
        exact this
       ·simp only
        rw [show j + (k2 + 1) - 1 = j + k2 by omega, hc]
        exact j6
       ·simp [go_sem, zaf]
      ·rw [if_neg hc] at j6
       repeat first|refine wV fun _=>?_|simp [go_sem, hc, j3, hk, hk1, hk0, hr1, hr0, e2, e3, hk2, hk3]
       refine zAr (hrec2 (d2 - 1) (by omega) (k2 + 1, R.set k (nth l (j + k2)), k + 1) ⟨by simp only; omega, by simp only; omega, by simpa using j3, by simp only; omega, ?_, ?_⟩) ?_ (by simp)
       ·have := congrArg (List.drop 1) j5
        rw [List.drop_drop, List.drop_drop] at this
        simp only
        rw [show j + (k2 + 1) - 1 = j + k2 - 1 + 1 by omega, List.drop_set, if_pos (by omega)]
        exact this
       ·simp only
        rw [show j + (k2 + 1) - 1 = j + k2 by omega, List.take_add_one, List.take_set_of_le (by omega), List.getElem?_set_self (by omega), Option.toList_some, List.append_assoc]
        exact j6
       ·have hb : ∀ n, ∀ r ∈ ((R.set k (nth l (j + k2))).map zad), ∀ c ∈ r, Bel n c := fun n => of_eq_true zsE
        rw [List.map_set] at hb
        simp [go_sem, zaf, List.map_set]
        exact hb 1
     ·rw [List.drop_eq_nil_of_le (by omega), zbf, List.append_nil] at j6
      have hDl : D.length = k := by rw [j6, List.length_take]; omega
      have hd0 : List.drop (k + (l.length - k)) (R.map zad) = [] := List.drop_eq_nil_of_le (by simp; omega)
      have hDm : D.map zad = List.take k (R.map zad) := by rw [j6, List.map_take]
      repeat first|refine wV fun _=>?_|simp [go_sem]
      simp [go_sem, zaf, hd0, hDl, hDm, zm2]
      exact fun x hx => of_eq_true (zsE (n := 1) (l := R)) x (List.mem_of_mem_take hx)
    ·refine ⟨Nat.le_refl _, by simp only; omega, rfl, by simp only; omega, rfl, ?_⟩
     simp only
     rw [Nat.add_sub_cancel, he]
     exact i3
    ·simp [go_sem, zaf]
    ·simp
   ·rw [if_neg he] at i3
    repeat first|refine wV fun _=>?_|simp [go_sem, he, hj, hj', e1]
    refine zAr (hrec (d - 1) (by omega) (j + 1) ⟨by omega, by omega, ?_⟩) ?_ (by simp)
    ·rw [i3, Nat.add_sub_cancel, List.take_add_one, List.getElem?_eq_getElem hj, zaC _ _ hj, Option.toList_some, List.append_assoc]; rfl
    ·simp [go_sem, zaf]
  ·rw [List.drop_eq_nil_of_le hj, List.take_of_length_le hj, zbf, List.append_nil] at i3
   rw [i3]
   repeat first|refine wV fun _=>?_|simp [go_sem]
   simp [go_sem, zaf]
 ·refine ⟨Nat.le_refl _, by omega, ?_⟩
  cases l with
  | nil => simp at h2
  | cons a l => rw [hD]; rfl
 ·simp [go_sem, zaf]
 ·simp
theorem zgn {n : Nat} (l : List zah) : ∀ r ∈ l.map zad, ∀ c ∈ r, Bel n c := of_eq_true zsE
theorem zmu (l : List zah) (gn : Nat) (hl : l.length ≤ 17179869184) (hf : ∀ o ∈ l, zaU o) {h : zar} {n o : Nat} (ho : h o = some (.rows true gn 5 (l.map zad))) (hon : o < n) {K : zcF}
  (hK : K (.sl o gn 5 0 (zbt l).length) (upd h o (some (.rows true gn 5 ((zbt l).map zad ++ List.replicate (l.length - (zbt l).length) zm2)))) n) :
  zaa Tryz.prog 130 [.sl o gn 5 0 l.length, .fn (.func 131) [] []] h n K := by
 have hz : ∀ m, ∀ r ∈ (zbt l).map zad ++ List.replicate (l.length - (zbt l).length) zm2, ∀ c ∈ r, Bel m c := by
  intro m r hr c hc
  rcases List.mem_append.1 hr with hr | hr
  ·exact zgn _ r hr c hc
  ·rw [List.eq_of_mem_replicate hr] at hc
   simp only [zm2, List.mem_cons, List.not_mem_nil, or_false] at hc
   rcases hc with rfl | rfl | rfl | rfl | rfl <;> exact .v _
 refine zAL (args' := [.sl o gn 5 0 l.length, .fn (.func 131) [] []]) (HH := [(o, .rows true gn 5 ((zbt l).map zad ++ List.replicate (l.length - (zbt l).length) zm2))])
  [o] h (zl1 l gn hl hf) (by simp) (by simpa using hon) rfl (Nat.le_refl _) (.refl _) ?_ ?_ (.refl _ _ _ _) ?_ ?_ ?_ (.sl rfl) ?_ ?_
 ·intro j hj
  obtain rfl : j = 0 := by omega
  exact ⟨_, _, rfl, ho, .rows (.same (zgn _))⟩
 ·intro p hp
  simp only [List.mem_singleton] at hp
  subst hp
  exact ⟨Nat.le_of_ble_eq_true rfl, zgn _⟩
 ·intro y hy
  simp only [List.mem_cons, List.not_mem_nil, or_false] at hy
  rcases hy with rfl | rfl
  ·exact .sl hon
  ·simp [go_sem]
 ·exact .cons (.sl rfl) (.cons (.same (by simp [go_sem])) .nil)
 ·intro y hy
  simp only [List.mem_cons, List.not_mem_nil, or_false] at hy
  rcases hy with rfl | rfl
  ·exact .sl (by decide)
  ·simp [go_sem]
 ·exact .cons rfl (.rows (.same (hz 0))) .nil
 ·have e : zdP [(o, .rows true gn 5 ((zbt l).map zad ++ List.replicate (l.length - (zbt l).length) zm2))] (zlO [o] h) = upd h o (some (.rows true gn 5 ((zbt l).map zad ++ List.replicate (l.length - (zbt l).length) zm2))) := by
   funext j
   simp only [zdP, zlO, upd]
   by_cases j1 : j = o
   ·simp [j1]
   ·simp [j1]
  rw [e, Nat.sub_self, Nat.add_zero]
  exact hK
theorem zkL (l : List zah) (gn m : Nat) (hm : l.length = m) (hl : m ≤ 17179869184) (hf : ∀ o ∈ l, zaU o) {h : zar} {n o : Nat} (ho : h o = some (.rows true gn 5 (l.map zad))) (hon : o < n) {K : zcF}
  (hK : K (.sl o gn 5 0 (zbt l).length) (upd h o (some (.rows true gn 5 ((zbt l).map zad ++ List.replicate (l.length - (zbt l).length) zm2)))) n) :
  zaa Tryz.prog 130 [.sl o gn 5 0 m, .fn (.func 131) [] []] h n K := by
 subst hm
 exact zmu l gn hl hf ho hon hK
theorem zAd : Go.Sort.SWO (fun a b : zah => decide (zbx a b < 0)) := by
 refine ⟨fun x => ?_, fun x y z h1 h2 => ?_, fun x y z h1 h2 => ?_⟩
 ·have := za7.swap x x
  simp; omega
 ·simp only [decide_eq_true_eq] at h1 h2 ⊢
  have t := za7.tr x y z (by omega) (by omega)
  rcases Int.lt_or_eq_of_le t with h | h
  ·exact h
  ·have e := (za7.eq _ _).1 h
   subst e
   have := za7.swap x y
   omega
 ·simp only [decide_eq_false_iff_not] at h1 h2 ⊢
  have s1 := za7.swap x y
  have s2 := za7.swap y z
  have s3 := za7.swap x z
  have t := za7.tr z y x (by omega) (by omega)
  omega
theorem ztG (l : List zah) (hf : ∀ o ∈ l, zaU o) (hl : l.length < 4611686018427387904) {h : zar} {n o gn : Nat} (ho : h o = some (.rows true gn 5 (l.map zad))) {K : zcF}
  (hK : K (.tup []) (upd h o (some (.rows true gn 5 ((zcC zbx l).map zad)))) n) :
  zaa Tryz.prog 129 [.sl o gn 5 0 l.length, .fn (.func 37) [] []] h n K := by
 refine zAQ zsortP (k := 5) (by omega) Tryz.isAgg45 Tryz.sizeOf45 zad (fun _ => rfl) ?_ (fun o => zaU o) zbx zAd _ (fun x y hx hy => zbG x y hx hy) ?_ l hf hl ho ?_
 ·intro x
  simp [go_sem]
 ·exact (zbG default default (by unfold zaU ze5; decide) (by unfold zaU ze5; decide)).1
 ·intro l' hp hs
  have : zcC zbx l = l' := zfD za7 hp (hs.imp fun {a b} hab => by
   have := za7.swap a b
   simp only [leC, decide_eq_true_eq]
   omega)
  rw [← this]
  exact hK
theorem zo4 (l : List zah) (hl : l.length ≤ 17179869184) : zgi Tryz.prog 128 [zaN l] (fun n => .sl n 1 5 0 l.length) (fun n => [(n, .rows true 1 5 (l.map zad))]) 1 := by
 refine ⟨?_, fun n => ⟨by simp [go_sem], by simp [go_sem]⟩⟩
 refine zAW (fun hne => ?_) (fun he A c => ?_)
 ·obtain ⟨x, l, rfl⟩ := List.exists_cons_of_ne_nil (show l ≠ [] by intro h; subst h; exact hne rfl)
  simp only [List.length_cons] at hl
  refine zAw (by kernel_rfl) Tryz.func128 rfl rfl (Nat.le_of_ble_eq_true rfl) (by kernel_rfl) ?_
  repeat first|refine wV fun _=>?_|simp [go_sem]
  simp [go_sem, zaf]
 ·obtain rfl : l = [] := by simpa using he
  refine zAw (by kernel_rfl) Tryz.func128 rfl rfl (Nat.le_of_ble_eq_true rfl) (by kernel_rfl) ?_
  repeat first|refine wV fun _=>?_|simp [go_sem]
  refine zAt (fun h => ?_) (fun h => ?_)
  ·simp at h
   subst h
   simp [go_sem, zaf]
  ·simp [go_sem, zaf]
theorem zdA (l : List zah) (hl : l.length ≤ 17179869184) (hf : ∀ p ∈ l, zaU p) : zaL Tryz.prog 72 [zaN l] (zaN (zbh zbx l)) := by
 refine pF Tryz.func72 ?_
 have hC := zo4 l hl
 repeat first|refine wV fun _=>?_|simp [go_sem]
 refine zAx hC (by simp [go_sem]) ?_
 repeat first|refine wV fun _=>?_|simp [go_sem]
 refine ztG l hf (by omega) (o := 0) (gn := 1) (by simp [upd]) ?_
 repeat first|refine wV fun _=>?_|simp [go_sem]
 refine zkL (zcC zbx l) 1 l.length (zet l) (by omega) (fun p hp => hf p (zeu.1 hp)) (o := 0) (by simp [upd]) (by omega) ?_
 repeat first|refine wV fun _=>?_|simp [go_sem]
 exact zas rfl (by simp) (by simp [noH, upd]) (by rw [List.drop_zero]; exact List.take_left' (by simp))
theorem zwe (g : zae) (hg : GOk g) (p : zah) (hp : POk g p) (cell i : Int) (hc : zcf g p cell i) {h : zar} {n a b : Nat} (hd : [a, b].Nodup) (hlt : ∀ j ∈ [a, b], j < n)
  (ha : h a = some (.rows true 0 5 [zad p])) (hb : h b = some (.rows true 0 1 [[zAz]])) {K : zcF}
  (hK : K (.v (.int .i64 0)) (upd (upd (upd h a (some (.rows true 0 5 [zad p]))) b (some (.rows true 0 1 [[.sl (n + 245) (zdr g p cell i).length 6 0 (zdr g p cell i).length]]))) (n + 245) (some (.rows true (zdr g p cell i).length 6 ((zdr g p cell i).map zay)))) (n + 246)) :
  zaa Tryz.prog 183 [.agg (zac g), .agg (zad p), .v (.int .i64 cell), .v (.int .i64 i), .fn (.func 184) [] [.ref a 0 5 0 0, .ref b 0 1 0 0]] h n K := by
 have hbg : ∀ m, Bel m (.agg (zac g)) := fun m => by simp [go_sem]
 have hbp : ∀ m, ∀ c ∈ zad p, Bel m c := fun m => by simp [go_sem]
 have hbq : ∀ m, Bel m (.agg (zad p)) := fun m => by simp [go_sem]
 have han := hlt a (by simp)
 have hbn := hlt b (by simp)
 have hrows : ∀ m, ∀ r ∈ [zad p], ∀ c ∈ r, Bel m c := fun m r hr => by simp only [List.mem_singleton] at hr; subst hr; exact hbp m
 refine zAL (args' := [.agg (zac g), .agg (zad p), .v (.int .i64 cell), .v (.int .i64 i), .fn (.func 184) [] [.ref a 0 5 0 0, .ref b 0 1 0 0]])
  (HH := [(a, .rows true 0 5 [zad p]), (b, .rows true 0 1 [[.sl (n + 245) (zdr g p cell i).length 6 0 (zdr g p cell i).length]]), (n + 245, .rows true (zdr g p cell i).length 6 ((zdr g p cell i).map zay))])
  [a, b] h (zyg g hg p hp cell i hc) hd hlt rfl (by omega) (.refl _) ?_ ?_ (.refl _ _ _ _) ?_ ?_ ?_ (.same (.v _)) ?_ ?_
 ·intro j hj
  rcases (show j = 0 ∨ j = 1 by omega) with rfl | rfl
  ·exact ⟨_, _, rfl, ha, .rows (.same (hrows _))⟩
  ·exact ⟨_, _, rfl, hb, .rows (.same (by simp [go_sem]))⟩
 ·intro q hq
  simp only [List.mem_cons, List.not_mem_nil, or_false] at hq
  rcases hq with rfl | rfl
  ·exact ⟨Nat.le_of_ble_eq_true rfl, hrows _⟩
  ·exact ⟨Nat.le_of_ble_eq_true rfl, by simp [go_sem, zyU]⟩
 ·simp [go_sem, han, hbn]
 ·exact .cons (.same (hbg _)) (.cons (.same (hbq _)) (.cons (.same (.v _)) (.cons (.same (.v _)) (.cons (.fn .nil (.cons (.ref rfl) (.cons (.ref rfl) .nil))) .nil))))
 ·simp [go_sem]
 ·exact .cons rfl (.rows (.same (hrows _))) (.cons rfl (.rows (.cons (.cons (.sl rfl) .nil) .nil)) (.cons rfl (.rows (.same (zcH _))) .nil))
 ·have e : zdP [(a, .rows true 0 5 [zad p]), (b, .rows true 0 1 [[.sl (n + 245) (zdr g p cell i).length 6 0 (zdr g p cell i).length]]), (n + 245, .rows true (zdr g p cell i).length 6 ((zdr g p cell i).map zay))] (zlO [a, b] h) =
    upd (upd (upd h a (some (.rows true 0 5 [zad p]))) b (some (.rows true 0 1 [[.sl (n + 245) (zdr g p cell i).length 6 0 (zdr g p cell i).length]]))) (n + 245) (some (.rows true (zdr g p cell i).length 6 ((zdr g p cell i).map zay))) := by
   simp only [List.nodup_cons, List.mem_cons, List.not_mem_nil, or_false, not_or, List.nodup_nil, and_true, not_false_eq_true] at hd
   have na : a ≠ n + 245 := by omega
   have nb : b ≠ n + 245 := by omega
   funext j
   simp only [zdP, zlO, upd]
   by_cases j1 : j = a
   ·subst j1; simp [hd, na]
   ·by_cases j2 : j = b
    ·subst j2; simp [j1, nb]
    ·by_cases j3 : j = n + 245
     ·subst j3; simp [j1, j2]
     ·simp [j1, j2, j3]
  rw [e]
  exact hK
theorem zty (g : zae) (hg : GOk g) (p : zah) (hp : POk g p) (cell i : Int) (hc : zcf g p cell i) :
  zaL Tryz.prog 127 [.agg (zac g), .agg (zad p), .v (.int .i64 cell), .v (.int .i64 i)] (.tup [zbI (zdc g p cell i), .v (.int .i64 0)]) := by
 refine pF Tryz.func127 ?_
 have hl := (ziN hg hp hc)
 have hll : (zdr g p cell i).length ≤ 100000000 := Nat.le_trans (List.length_filterMap_le _ _) hl.2
 have hf : ∀ o ∈ zdr g p cell i, zaU o.pos := by
  intro o ho
  obtain ⟨s, hs, h⟩ := List.mem_filterMap.1 ho
  exact (zwd hg (hl.1 s hs).1 hp.s h).1.fits hg
 have hr : zdc g p cell i = zbh zh2 (zdr g p cell i) := rfl
 rw [hr]
 repeat first|refine wV fun _=>?_|simp [go_sem]
 refine zwe g hg p hp cell i hc (a := 1) (b := 2) (by decide) (by simp) (by simp [upd, zad, zap]) (by simp [upd]) ?_
 generalize zdr g p cell i = l at *
 repeat first|refine wV fun _=>?_|simp [go_sem]
 refine ztH l hf (by omega) (o := 248) (gn := l.length) (by simp [upd]) ?_
 repeat first|refine wV fun _=>?_|simp [go_sem]
 refine zkM (zcC zh2 l) l.length l.length (zet l) (by omega) (fun o ho => hf o (zeu.1 ho)) (o := 248) (by simp [upd]) (by omega) ?_
 repeat first|refine wV fun _=>?_|simp [go_sem]
 exact zas rfl (by simp) (by simp [noH, upd]) (by rw [List.drop_zero]; exact List.take_left' (by simp))
theorem zqB (g : zae) (hg : GOk g) (p : zah) (hp : POk g p) : zaL Tryz.prog 73 [.agg (zac g), .agg (zad p)] (zaN (zcM g p)) := by
 refine pF Tryz.func73 ?_
 have hal := hp.al
 have c9 := hg.c9
 have k6 := hg.k6
 have hcp := zg9 ⟨p, 0, 0, false⟩ (hp.fits hg)
 have hl0 := hp.h0.len
 have hl1 := hp.h1.len
 have hps := hp.s
 rcases hp.s with hsd | hsd
 ·have hsn : p.side.toNat = 0 := by omega
  repeat first|refine wV fun _=>?_|simp [go_sem, hsn, hsd]
  refine zAr (zAv (α := Nat) (fun k => ⟨[(3, .ref 1 0 5 0 0), (5, .sl 2 (zbA g p k).length 5 0 (zbA g p k).length), (15, zap p.h0), (16, .v (.int .i64 p.h0.length)), (17, .v (.int .i64 k))], [(1, .rows true 0 5 [zad p]), (2, .rows true (zbA g p k).length 5 ((zbA g p k).map zad))], 3⟩)
   (fun d k => k + d = g.kinds.length) ?_ g.kinds.length 0 ?_) ?_ ?_
  ·rintro d k k1 hrec
   repeat first|refine wV fun _=>?_|simp [go_sem]
   refine zAt (fun hk => ?_) (fun hk => ?_) <;> simp at hk
   ·have hz := zgr g p k
    have ha := zhv g p k
    have hkh : k < p.h0.length := by omega
    have hhv := hp.h0.v k hkh
    repeat first|refine wV fun _=>?_|simp [go_sem, hkh]
    refine zAr (zAv (α := Nat) (fun c => ⟨[(3, .ref 1 0 5 0 0), (5, .sl 2 (zcz g p k c).length 5 0 (zcz g p k c).length), (6, .v (.int .i64 k)), (7, .v (.int .i64 (nth p.h0 k))), (15, zap p.h0), (16, .v (.int .i64 p.h0.length)), (17, .v (.int .i64 k)), (23, zap p.at_), (24, .v (.int .i64 p.at_.length)), (25, .v (.int .i64 c))], [(1, .rows true 0 5 [zad p]), (2, .rows true (zcz g p k c).length 5 ((zcz g p k c).map zad))], 3⟩)
     (fun d c => c + d = p.at_.length) ?_ p.at_.length 0 ?_) ?_ ?_
    ·rintro d2 c c1 hrec2
     repeat first|refine wV fun _=>?_|simp [go_sem]
     refine zAt (fun hci => ?_) (fun hci => ?_) <;> simp at hci
     ·have hD : zf3 g p k c = if nth (p.hand p.side) k = 0 ∨ nth p.at_ c ≠ 0 then none
       else some { ({ p with at_ := p.at_.set c (zaF k p.side) }.withHand p.side ((p.hand p.side).set k (nth (p.hand p.side) k - 1))) with side := 1 - p.side } := rfl
      have hD' : zf3 g p k c = if nth p.h0 k = 0 ∨ nth p.at_ c ≠ 0 then none else some { p with at_ := p.at_.set c (zaF k p.side), h0 := p.h0.set k (nth p.h0 k - 1), side := 1 - p.side } := by
       rw [hD]; simp [zah.hand, zah.withHand, hsd]
      have hCd := zdz (k : Int) p.side
      rw [hsd] at hCd hD'
      repeat first|refine wV fun _=>?_|simp [go_sem, hci]
      refine zAt (fun hcc => ?_) (fun hcc => ?_) <;> simp at hcc
      ·rw [if_pos (by omega)] at hD'
       have hsu := zcn g p k c
       rw [hD'] at hsu
       simp only [Option.toList_none, List.append_nil] at hsu
       repeat first|refine wV fun _=>?_|simp [go_sem]
       refine zAr (hrec2 (d2 - 1) (by omega) (c + 1) (by omega)) ?_ (by simp)
       simp [go_sem, zaf, hsd, hsu]
      ·rw [if_neg (by omega)] at hD'
       have hsu := zcn g p k c
       rw [hD'] at hsu
       simp only [Option.toList_some] at hsu
       have hcl := zfM g p k c
       have hkm : k * p.at_.length ≤ 6 * 9 := Nat.mul_le_mul (by omega) (by omega)
       repeat first|refine wV fun _=>?_|simp [go_sem, hci]
       refine zAx hcp (by simp [go_sem]) ?_
       repeat first|refine wV fun _=>?_|simp [go_sem, hci, hsd]
       refine zAu hCd (by simp [go_sem]) ?_
       repeat first|refine wV fun _=>?_|simp [go_sem, hsn, hsd, hci, hkh]
       refine zAr (hrec2 (d2 - 1) (by omega) (c + 1) (by omega)) ?_ (by simp)
       simp [go_sem, zaf, hsd, hsu]
       (first|done|exact rwX)
     ·have hcl : c = p.at_.length := by omega
      subst hcl
      rw [ha]
      repeat first|refine wV fun _=>?_|simp [go_sem]
      refine zAr (hrec (d - 1) (by omega) (k + 1) (by omega)) ?_ (by simp)
      simp [go_sem, zaf, hsd]
    ·omega
    ·simp [go_sem, zaf, hsd, hz]
    ·simp
   ·have hkl : k = g.kinds.length := by omega
    subst hkl
    have hdl := zem g p g.kinds.length
    have hkm : g.kinds.length * p.at_.length ≤ 6 * 9 := Nat.mul_le_mul k6 (by omega)
    have hS := zdA (zbA g p g.kinds.length) (by omega) (fun q hq => by
     rw [zfN] at hq
     obtain ⟨k, hk, hq⟩ := List.mem_flatMap.1 hq
     obtain ⟨c, hc, hq⟩ := List.mem_filterMap.1 hq
     exact (ziH hg hp (by simpa using hk) hq).1.fits hg)
    rw [show zbh zbx (zbA g p g.kinds.length) = zcM g p from rfl] at hS
    generalize zbA g p g.kinds.length = l at *
    generalize zcM g p = r at *
    repeat first|refine wV fun _=>?_|simp [go_sem]
    refine zAy [2] hS ?_ (zwD (zb6 _)) ?_
    ·(first|done|exact agX)
    ·repeat first|refine wV fun _=>?_|simp [go_sem]
  ·omega
  ·simp [go_sem, zaf, hsd, show zbA g p 0 = [] from rfl]
  ·simp
 ·have hsn : p.side.toNat = 1 := by omega
  repeat first|refine wV fun _=>?_|simp [go_sem, hsn, hsd]
  refine zAr (zAv (α := Nat) (fun k => ⟨[(3, .ref 1 0 5 0 0), (5, .sl 2 (zbA g p k).length 5 0 (zbA g p k).length), (15, zap p.h1), (16, .v (.int .i64 p.h1.length)), (17, .v (.int .i64 k))], [(1, .rows true 0 5 [zad p]), (2, .rows true (zbA g p k).length 5 ((zbA g p k).map zad))], 3⟩)
   (fun d k => k + d = g.kinds.length) ?_ g.kinds.length 0 ?_) ?_ ?_
  ·rintro d k k1 hrec
   repeat first|refine wV fun _=>?_|simp [go_sem]
   refine zAt (fun hk => ?_) (fun hk => ?_) <;> simp at hk
   ·have hz := zgr g p k
    have ha := zhv g p k
    have hkh : k < p.h1.length := by omega
    have hhv := hp.h1.v k hkh
    repeat first|refine wV fun _=>?_|simp [go_sem, hkh]
    refine zAr (zAv (α := Nat) (fun c => ⟨[(3, .ref 1 0 5 0 0), (5, .sl 2 (zcz g p k c).length 5 0 (zcz g p k c).length), (6, .v (.int .i64 k)), (7, .v (.int .i64 (nth p.h1 k))), (15, zap p.h1), (16, .v (.int .i64 p.h1.length)), (17, .v (.int .i64 k)), (23, zap p.at_), (24, .v (.int .i64 p.at_.length)), (25, .v (.int .i64 c))], [(1, .rows true 0 5 [zad p]), (2, .rows true (zcz g p k c).length 5 ((zcz g p k c).map zad))], 3⟩)
     (fun d c => c + d = p.at_.length) ?_ p.at_.length 0 ?_) ?_ ?_
    ·rintro d2 c c1 hrec2
     repeat first|refine wV fun _=>?_|simp [go_sem]
     refine zAt (fun hci => ?_) (fun hci => ?_) <;> simp at hci
     ·have hD : zf3 g p k c = if nth (p.hand p.side) k = 0 ∨ nth p.at_ c ≠ 0 then none
       else some { ({ p with at_ := p.at_.set c (zaF k p.side) }.withHand p.side ((p.hand p.side).set k (nth (p.hand p.side) k - 1))) with side := 1 - p.side } := rfl
      have hD' : zf3 g p k c = if nth p.h1 k = 0 ∨ nth p.at_ c ≠ 0 then none else some { p with at_ := p.at_.set c (zaF k p.side), h1 := p.h1.set k (nth p.h1 k - 1), side := 1 - p.side } := by
       rw [hD]; simp [zah.hand, zah.withHand, hsd]
      have hCd := zdz (k : Int) p.side
      rw [hsd] at hCd hD'
      repeat first|refine wV fun _=>?_|simp [go_sem, hci]
      refine zAt (fun hcc => ?_) (fun hcc => ?_) <;> simp at hcc
      ·rw [if_pos (by omega)] at hD'
       have hsu := zcn g p k c
       rw [hD'] at hsu
       simp only [Option.toList_none, List.append_nil] at hsu
       repeat first|refine wV fun _=>?_|simp [go_sem]
       refine zAr (hrec2 (d2 - 1) (by omega) (c + 1) (by omega)) ?_ (by simp)
       simp [go_sem, zaf, hsd, hsu]
      ·rw [if_neg (by omega)] at hD'
       have hsu := zcn g p k c
       rw [hD'] at hsu
       simp only [Option.toList_some] at hsu
       have hcl := zfM g p k c
       have hkm : k * p.at_.length ≤ 6 * 9 := Nat.mul_le_mul (by omega) (by omega)
       repeat first|refine wV fun _=>?_|simp [go_sem, hci]
       refine zAx hcp (by simp [go_sem]) ?_
       repeat first|refine wV fun _=>?_|simp [go_sem, hci, hsd]
       refine zAu hCd (by simp [go_sem]) ?_
       repeat first|refine wV fun _=>?_|simp [go_sem, hsn, hsd, hci, hkh]
       refine zAr (hrec2 (d2 - 1) (by omega) (c + 1) (by omega)) ?_ (by simp)
       simp [go_sem, zaf, hsd, hsu]
       (first|done|exact rwX)
     ·have hcl : c = p.at_.length := by omega
      subst hcl
      rw [ha]
      repeat first|refine wV fun _=>?_|simp [go_sem]
      refine zAr (hrec (d - 1) (by omega) (k + 1) (by omega)) ?_ (by simp)
      simp [go_sem, zaf, hsd]
    ·omega
    ·simp [go_sem, zaf, hsd, hz]
    ·simp
   ·have hkl : k = g.kinds.length := by omega
    subst hkl
    have hdl := zem g p g.kinds.length
    have hkm : g.kinds.length * p.at_.length ≤ 6 * 9 := Nat.mul_le_mul k6 (by omega)
    have hS := zdA (zbA g p g.kinds.length) (by omega) (fun q hq => by
     rw [zfN] at hq
     obtain ⟨k, hk, hq⟩ := List.mem_flatMap.1 hq
     obtain ⟨c, hc, hq⟩ := List.mem_filterMap.1 hq
     exact (ziH hg hp (by simpa using hk) hq).1.fits hg)
    rw [show zbh zbx (zbA g p g.kinds.length) = zcM g p from rfl] at hS
    generalize zbA g p g.kinds.length = l at *
    generalize zcM g p = r at *
    repeat first|refine wV fun _=>?_|simp [go_sem]
    refine zAy [2] hS ?_ (zwD (zb6 _)) ?_
    ·(first|done|exact agX)
    ·repeat first|refine wV fun _=>?_|simp [go_sem]
  ·omega
  ·simp [go_sem, zaf, hsd, show zbA g p 0 = [] from rfl]
  ·simp
theorem zjo (f : Int → Bool) (l : List Int) {i : Nat} (h : i < l.length) : (l.take (i + 1)).countP f = (l.take i).countP f + (if f (nth l i) then 1 else 0) := by
 rw [List.take_add_one, List.getElem?_eq_getElem h, zaC _ _ h, Option.toList_some, List.countP_append]
 simp [List.countP_cons]
theorem zr4 (p : zah) (hp : zaU p) (side kind : Int) : zaL Tryz.prog 292 [.agg (zad p), .v (.int .i64 side), .v (.int .i64 kind)] (.v (.int .i64 (zrq p side kind))) := by
 refine pF Tryz.func292 ?_
 obtain ⟨f1, _, _⟩ := hp
 unfold ze5 at f1
 repeat first|refine wV fun _=>?_|simp [go_sem]
 refine zAr (zAv (α := Nat) (fun i => ⟨[(1, .v (.int .i64 side)), (2, .v (.int .i64 kind)), (3, .ref 0 0 5 0 0), (7, .v (.int .i64 ((p.at_.take i).countP (zgt p side kind) : Nat))), (8, .v (.int .i64 i))], [(0, .rows true 0 5 [zad p])], 1⟩)
  (fun d i => i + d = p.at_.length) ?_ p.at_.length 0 ?_) ?_ ?_
 ·rintro d i i1 hrec
  repeat first|refine wV fun _=>?_|simp [go_sem]
  refine zAt (fun hi => ?_) (fun hi => ?_) <;> simp at hi
  ·have hO := zdD (nth p.at_ i)
   have hcs := zjo (zgt p side kind) p.at_ hi
   have hle : (p.at_.take i).countP (zgt p side kind) ≤ i := Nat.le_trans List.countP_le_length (by simp; omega)
   have hM : zgt p side kind (nth p.at_ i) = (decide (0 ≤ (zao (nth p.at_ i)).1) && decide ((zao (nth p.at_ i)).2 = side) && (decide (kind < 0) || decide ((zao (nth p.at_ i)).1 = kind))) := rfl
   generalize zao (nth p.at_ i) = m at *
   repeat first|refine wV fun _=>?_|simp [go_sem, hi]
   refine zAs hO (by simp [go_sem]) ?_
   repeat first|refine wV fun _=>?_|simp [go_sem]
   by_cases hm : zgt p side kind (nth p.at_ i) = true
   ·have hm' := hm
    rw [hM] at hm'
    rw [if_pos hm] at hcs
    simp only [hm']
    repeat first|refine wV fun _=>?_|simp [go_sem]
    refine zAr (hrec (d - 1) (by omega) (i + 1) (by omega)) ?_ (by simp)
    simp [go_sem, zaf, hcs]
   ·have hm' := hm
    rw [hM] at hm'
    rw [if_neg hm] at hcs
    simp only [Bool.not_eq_true] at hm'
    simp only [hm']
    repeat first|refine wV fun _=>?_|simp [go_sem]
    refine zAr (hrec (d - 1) (by omega) (i + 1) (by omega)) ?_ (by simp)
    simp [go_sem, zaf, hcs]
  ·have hil : i = p.at_.length := by omega
   subst hil
   have hM : zrq p side kind = (p.at_.take p.at_.length).countP (zgt p side kind) := by rw [List.take_length]; rfl
   rw [hM]
   repeat first|refine wV fun _=>?_|simp [go_sem]
 ·omega
 ·simp [go_sem, zaf]
 ·simp
theorem zir (g : zae) (hg : GOk g) (p : zah) (hp : POk g p) (c : Int × Int × Int × Int) (hc : zfJ g.cells g.kinds.length c) :
  zaL Tryz.prog 245 [.agg (zaZ c), .agg (zad p)] (.v (.bool (zdq c p))) := by
 refine pF Tryz.func245 ?_
 have hps := hp.s
 have hal := hp.al
 have hM := fun s k => zr4 p (hp.fits hg) s k
 have hml : ∀ s k, zrq p s k ≤ 9 := fun s k => Nat.le_trans List.countP_le_length (by have := hg.c9; omega)
 obtain ⟨c0, c1, c2, c3⟩ := c
 obtain ⟨k1, k2, k3, k4, k5⟩ := hc
 simp only at k1 k2 k3 k4 k5
 unfold zdq
 rcases k1 with rfl | rfl | rfl
 ·have h1 := hM p.side c1
  repeat first|refine wV fun _=>?_|simp [go_sem]
  refine zAs h1 (by simp [go_sem]) ?_
  repeat first|refine wV fun _=>?_|simp [go_sem]
 ·have hci : c2.toNat < p.at_.length := by omega
  repeat first|refine wV fun _=>?_|simp [go_sem, hci]
  refine zAu (zc4 c1 (1 - p.side)) (by simp [go_sem]) ?_
  repeat first|refine wV fun _=>?_|simp [go_sem, hci]
 ·have h1 := hM p.side (-1)
  have := hml p.side (-1)
  repeat first|refine wV fun _=>?_|simp [go_sem]
  refine zAu h1 (by simp [go_sem]) ?_
  repeat first|refine wV fun _=>?_|simp [go_sem]
theorem zh9 {α : Type} [Inhabited α] (f : α → Bool) (l : List α) {i : Nat} (hi : i < l.length) (hb : ∀ j, j < i → f (nth l j) = false) (h : f (nth l i) = true) : l.findIdx? f = some i := by
 rw [List.findIdx?_eq_some_iff_getElem]
 refine ⟨hi, by rw [← zaC _ _ hi]; exact h, fun j hj => ?_⟩
 have := hb j hj
 rw [zaC _ _ (by omega)] at this
 simp [this]
theorem zh8 {α : Type} [Inhabited α] (f : α → Bool) (l : List α) (hb : ∀ j, j < l.length → f (nth l j) = false) : l.findIdx? f = none := by
 rw [List.findIdx?_eq_none_iff]
 intro x hx
 obtain ⟨j, hj, rfl⟩ := List.getElem_of_mem hx
 have := hb j hj
 rwa [zaC _ _ hj] at this
theorem znh (g : zae) (hg : GOk g) (p : zah) (hp : POk g p) : zaL Tryz.prog 195 [.agg (zac g), .agg (zad p)] (.v (.int .i64 (zch g p))) := by
 refine pF Tryz.func195 ?_
 have hcn := hg.cn
 repeat first|refine wV fun _=>?_|simp [go_sem]
 refine zAr (zAv (α := Nat) (fun i => ⟨[(2, .ref 0 0 9 0 0), (3, .ref 1 0 5 0 0), (5, .v (.int .i64 i))], [(0, .rows true 0 9 [zac g]), (1, .rows true 0 5 [zad p])], 2⟩)
  (fun d i => i + d = g.clauses.length ∧ ∀ j, j < i → zdq (nth g.clauses j) p = false) ?_ g.clauses.length 0 ?_) ?_ ?_
 ·rintro d i ⟨i1, i2⟩ hrec
  repeat first|refine wV fun _=>?_|simp [go_sem]
  refine zAt (fun hi => ?_) (fun hi => ?_) <;> simp at hi
  ·have hC := zir g hg p hp _ (hg.cl _ (zaj hi))
   repeat first|refine wV fun _=>?_|simp [go_sem, hi]
   refine zAu hC (by simp [go_sem]) ?_
   repeat first|refine wV fun _=>?_|simp [go_sem]
   by_cases hc : zdq (nth g.clauses i) p = true
   ·have he : zch g p = i := by unfold zch; rw [zh9 (fun c => zdq c p) g.clauses hi i2 hc]
    repeat first|refine wV fun _=>?_|simp [go_sem, hc, he]
   ·repeat first|refine wV fun _=>?_|simp [go_sem, hc]
    refine zAr (hrec (d - 1) (by omega) (i + 1) ⟨by omega, fun j hj => ?_⟩) ?_ (by simp)
    ·rcases Nat.lt_or_ge j i with h | h
     ·exact i2 j h
     ·obtain rfl : j = i := by omega
      simpa using hc
    ·simp [go_sem, zaf]
  ·have he : zch g p = -1 := by unfold zch; rw [zh8 (fun c => zdq c p) g.clauses (fun j hj => i2 j (by omega))]
   repeat first|refine wV fun _=>?_|simp [go_sem, he]
 ·exact ⟨by simp, fun j hj => by omega⟩
 ·simp [go_sem, zaf]
 ·simp
def zks (p : zah) (side : Int) (K : Nat) (j : Nat) : List Int := (List.range K).map fun (k : Nat) => (((p.at_.take j).countP (zgt p side k) : Nat) : Int)
theorem zmt (p : zah) (side : Int) (K j : Nat) : (zks p side K j).length = K := by simp [zks]
theorem zmR (p : zah) (side : Int) (K j : Nat) {k : Nat} (hk : k < K) : nth (zks p side K j) k = (((p.at_.take j).countP (zgt p side k) : Nat) : Int) := by
 rw [zaC _ _ (by rw [zmt]; exact hk)]; simp [zks]
theorem znP {p : zah} {side : Int} {K j : Nat} (hj : j < p.at_.length) : zks p side K (j + 1) = (List.range K).map fun (k : Nat) => (((p.at_.take j).countP (zgt p side k) + (if zgt p side k (nth p.at_ j) then 1 else 0) : Nat) : Int) := by
 unfold zks
 refine List.map_congr_left fun k _ => ?_
 rw [zjo _ _ hj]
theorem zzB {p : zah} {side : Int} {K j : Nat} (hj : j < p.at_.length) (h : ∀ k : Nat, zgt p side k (nth p.at_ j) = false) : zks p side K (j + 1) = zks p side K j := by
 rw [znP hj]
 unfold zks
 refine List.map_congr_left fun k _ => ?_
 rw [h k]; simp
theorem zxv {p : zah} {side : Int} {K j m : Nat} (hj : j < p.at_.length) (hm : m < K) (h : ∀ k : Nat, zgt p side k (nth p.at_ j) = decide (k = m)) :
  zks p side K (j + 1) = (zks p side K j).set m (nth (zks p side K j) m + 1) := by
 rw [znP hj]
 refine List.ext_getElem (by simp [zks]) fun k h1 h2 => ?_
 have hk : k < K := by simpa using h1
 rw [List.getElem_set]
 by_cases e : m = k
 ·subst e
  rw [if_pos rfl, zmR _ _ _ _ hk]
  simp [h]
 ·rw [if_neg e]
  simp [zks, h, Ne.symm e]
def zeH (g : zae) (p : zah) (side : Int) : List Int := zks p side g.kinds.length p.at_.length
theorem zjT (g : zae) (p : zah) (side : Int) {k : Nat} (hk : k < g.kinds.length) : nth (zeH g p side) k = zrq p side k := by
 unfold zeH; rw [zmR _ _ _ _ hk, List.take_length]; rfl
theorem zwr {m s : Int} (h0 : 0 ≤ m) (hs : s = 0 ∨ s = 1) : (1 + 2 * m + s - 1).tmod 2 = s ∧ (1 + 2 * m + s - 1).tdiv 2 = m := by
 rw [Int.tmod_eq_emod_of_nonneg (by omega), Int.tdiv_eq_ediv_of_nonneg (by omega)]
 omega
theorem zkX (g : zae) (hg : GOk g) (p : zah) (hp : POk g p) (side : Int) (hsd : side = 0 ∨ side = 1) :
  zaL Tryz.prog 360 [.agg (zac g), .agg (zad p), .v (.int .i64 side)] (zap (zeH g p side)) := by
 refine pF Tryz.func360 ?_
 have hal := hp.al
 have c9 := hg.c9
 have k6 := hg.k6
 have hall := fun j => zmt p side g.kinds.length j
 have hz : List.replicate g.kinds.length [AV.v (.int .i64 0)] = (zks p side g.kinds.length 0).map zb5 := by
  refine List.ext_getElem (by simp [zks]) fun k h1 h2 => ?_
  simp [zks, zb5]
 repeat first|refine wV fun _=>?_|simp [go_sem]
 refine zAr (zAv (α := Nat) (fun j => ⟨[(2, .v (.int .i64 side)), (7, .sl 2 0 1 0 g.kinds.length), (15, zap p.at_), (16, .v (.int .i64 p.at_.length)), (17, .v (.int .i64 j))], [(2, .rows true 0 1 ((zks p side g.kinds.length j).map zb5))], 3⟩)
  (fun d j => j + d = p.at_.length) ?_ p.at_.length 0 ?_) ?_ ?_
 ·rintro d j j1 hrec
  repeat first|refine wV fun _=>?_|simp [go_sem]
  refine zAt (fun hj => ?_) (fun hj => ?_) <;> simp at hj
  ·have hat := hp.at (i := j) (by omega)
   have hman := zaR hat.1 hat.2 hg.k6
   have hM : ∀ k : Nat, zgt p side k (nth p.at_ j) = (decide (0 ≤ (zao (nth p.at_ j)).1) && decide ((zao (nth p.at_ j)).2 = side) && (decide ((k : Int) < 0) || decide ((zao (nth p.at_ j)).1 = k))) := fun k => rfl
   have hno := zzB (p := p) (side := side) (K := g.kinds.length) hj
   have hyes := fun m => zxv (p := p) (side := side) (K := g.kinds.length) (m := m) hj
   rcases hman with ⟨h0, hm⟩ | ⟨h0, hm0, hmk, hms, he⟩
   ·rw [hm] at hM
    have hno := hno (fun k => by rw [hM]; simp)
    repeat first|refine wV fun _=>?_|simp [go_sem, hj, h0]
    refine zAr (hrec (d - 1) (by omega) (j + 1) (by omega)) ?_ (by simp)
    simp [go_sem, zaf, hno]
   ·have ht := zwr hm0 hms
    rw [← he] at ht
    have hpos : 0 < nth p.at_ j := by omega
    by_cases hs : (zao (nth p.at_ j)).2 = side
    ·obtain ⟨m, hmm⟩ : ∃ m : Nat, (zao (nth p.at_ j)).1 = m := ⟨(zao (nth p.at_ j)).1.toNat, by omega⟩
     rw [hmm] at ht hmk
     have hmk' : m < g.kinds.length := by omega
     have hyes := hyes m hmk' (fun k => by rw [hM, hmm, decide_eq_true hs]; by_cases e : k = m <;> simp [e] <;> omega)
     have hb : 0 ≤ nth (zks p side g.kinds.length j) m ∧ nth (zks p side g.kinds.length j) m ≤ 9 := by
      rw [zmR _ _ _ _ hmk']
      have : (p.at_.take j).countP (zgt p side m) ≤ (p.at_.take j).length := List.countP_le_length
      rw [List.length_take] at this
      omega
     have hlm : m < (zks p side g.kinds.length j).length := by rw [hall]; exact hmk'
     rw [hs] at ht
     repeat first|refine wV fun _=>?_|simp [go_sem, hj, hpos, ht.1, ht.2, hlm, hall, hmk']
     refine zAr (hrec (d - 1) (by omega) (j + 1) (by omega)) ?_ (by simp)
     simp [go_sem, zaf, hyes, List.map_set, zb5]
    ·have hno := hno (fun k => by rw [hM, decide_eq_false hs]; simp)
     repeat first|refine wV fun _=>?_|simp [go_sem, hj, hpos, ht.1, ht.2, hs]
     refine zAr (hrec (d - 1) (by omega) (j + 1) (by omega)) ?_ (by simp)
     simp [go_sem, zaf, hno]
  ·have e : j = p.at_.length := by omega
   subst e
   repeat first|refine wV fun _=>?_|simp [go_sem]
   exact zas rfl (by simp [hall]) (by simp [noH, upd]) (by simp [zeH]; exact List.take_of_length_le (by simp [hall]))
 ·omega
 ·simp [go_sem, zaf, hz]
 ·simp
end Go.Av
end
section
/- Contracts: play.conditions, play.ended. -/
open Go Go.Proofs
namespace Go.Av
theorem zzY {g : zae} (hg : GOk g) {p : zah} (hp : POk g p) (s k : Int) : zrq p s k ≤ 9 := Nat.le_trans List.countP_le_length (by have := hg.c9; have := hp.al; omega)
theorem zjp (g : zae) (p : zah) (side : Int) : (zeH g p side).length = g.kinds.length := zmt _ _ _ _
theorem zrt (m : Int) (s side : Int) : ∀ K : Nat, 0 ≤ m → ((List.range K).map fun (k : Nat) => if (decide (0 ≤ m) && decide (s = side) && (decide ((k : Int) < 0) || decide (m = k))) = true then (1 : Nat) else 0).sum = if m < K ∧ s = side then 1 else 0
 | 0, h => by simp; omega
 | K + 1, h => by
  rw [List.range_succ, List.map_append, List.sum_append, zrt m s side K h]
  have e : (if (decide (0 ≤ m) && decide (s = side) && (decide ((K : Int) < 0) || decide (m = K))) = true then (1 : Nat) else 0) = if s = side ∧ m = K then 1 else 0 := by
   have : ¬ (K : Int) < 0 := by omega
   simp [h, this]
  simp only [List.map_cons, List.map_nil, List.sum_cons, List.sum_nil, e, Nat.add_zero]
  by_cases hs : s = side
  ·by_cases h1 : m < K
   ·rw [if_pos ⟨h1, hs⟩, if_neg (by omega), if_pos ⟨by omega, hs⟩]
   ·by_cases h2 : m = K
    ·rw [if_neg (by omega), if_pos ⟨hs, h2⟩, if_pos ⟨by omega, hs⟩, Nat.zero_add]
    ·rw [if_neg (by omega), if_neg (by omega), if_neg (by omega)]
  ·rw [if_neg (by simp [hs]), if_neg (by simp [hs]), if_neg (by simp [hs])]
theorem zmY : ∀ l : List Nat, (l.map fun _ => 0).sum = 0
 | [] => rfl
 | _ :: l => by simp [zmY l]
theorem zwp (f h : Nat → Nat) : ∀ l : List Nat, (l.map fun k => f k + h k).sum = (l.map f).sum + (l.map h).sum
 | [] => rfl
 | k :: l => by simp [zwp f h l]; omega
theorem zvT {K : Nat} (hK : K ≤ 6) (side : Int) : ∀ l : List Int, (∀ c ∈ l, 0 ≤ c ∧ c ≤ 2 * K) →
  ((List.range K).map fun (k : Nat) => l.countP fun c => decide (0 ≤ (zao c).1) && decide ((zao c).2 = side) && (decide ((k : Int) < 0) || decide ((zao c).1 = k))).sum =
   l.countP fun c => decide (0 ≤ (zao c).1) && decide ((zao c).2 = side) && (decide ((-1 : Int) < 0) || decide ((zao c).1 = -1))
 | [], _ => by simp [zmY]
 | c :: l, h => by
  have ih := zvT hK side l (fun x hx => h x (by simp [hx]))
  simp only [List.countP_cons]
  rw [zwp, ih]
  congr 1
  have hc := h c (by simp)
  rcases zaR hc.1 hc.2 hK with ⟨h0, hm⟩ | ⟨h0, hm0, hmk, hms, he⟩
  ·rw [hm]; simp [zmY]
  ·rw [zrt _ _ _ _ hm0]
   by_cases hs : (zao c).2 = side
   ·simp [hs, hm0, hmk]
   ·simp [hs]
theorem zzZ {g : zae} (hg : GOk g) {p : zah} (hp : POk g p) (side : Int) : ((List.range g.kinds.length).map fun (k : Nat) => zrq p side k).sum = zrq p side (-1) :=
 zvT hg.k6 side p.at_ hp.av
section
variable (g : zae) (hg : GOk g) (p : zah) (hp : POk g p) (c : Int × Int × Int × Int) (hc : zfJ g.cells g.kinds.length c)
theorem zsO (hg : GOk g) (hp : POk g p) (hc : zfJ g.cells g.kinds.length c) (h1 : c.1 = 1) : zaL Tryz.prog 359 [.agg (zac g), .agg (zad p), .agg (zaZ c)] (.v (.bool (zdq c p))) := by
 refine pF Tryz.func359 ?_
 have hC := zkX g hg p hp p.side hp.s
 have hl := zjp g p p.side
 have hk := hc.kind
 have hck : c.2.1.toNat < (zeH g p p.side).length := by omega
 have hn := zjT g p p.side (k := c.2.1.toNat) (by omega)
 rw [show ((c.2.1.toNat : Nat) : Int) = c.2.1 by omega] at hn
 have he : zdq c p = decide (nth (zeH g p p.side) c.2.1.toNat = 0) := by
  unfold zdq; rw [if_pos h1, hn]; simp
 rw [he]
 generalize zeH g p p.side = l at *
 obtain ⟨c0, c1, c2, c3⟩ := c
 simp only at hk hck
 repeat first|refine wV fun _=>?_|simp [go_sem]
 refine zAu hC (by simp [go_sem]) ?_
 repeat first|refine wV fun _=>?_|simp [go_sem, hck]
theorem zsP (hg : GOk g) (hp : POk g p) (hc : zfJ g.cells g.kinds.length c) (h1 : c.1 = 2) : zaL Tryz.prog 361 [.agg (zac g), .agg (zad p), .agg (zaZ c)] (.v (.bool (zdq c p))) := by
 refine pF Tryz.func361 ?_
 have hal := hp.al
 have hps := hp.s
 have hn := hc.n
 have hcd := hn.2.1 h1
 have hci : c.2.2.1.toNat < p.at_.length := by omega
 have he : zdq c p = decide (nth p.at_ c.2.2.1.toNat = zaF c.2.1 (1 - p.side)) := by
  unfold zdq; rw [if_neg (by omega), if_pos h1]
 rw [he]
 have hC := zdz c.2.1 (1 - p.side)
 obtain ⟨c0, c1, c2, c3⟩ := c
 simp only at hcd hci hC hn
 generalize zaF c1 (1 - p.side) = code at *
 repeat first|refine wV fun _=>?_|simp [go_sem, hci]
 refine zAu hC (by simp [go_sem]) ?_
 repeat first|refine wV fun _=>?_|simp [go_sem, hci]
theorem zsQ (hg : GOk g) (hp : POk g p) (hc : zfJ g.cells g.kinds.length c) (h1 : c.1 = 3) : zaL Tryz.prog 362 [.agg (zac g), .agg (zad p), .agg (zaZ c)] (.v (.bool (zdq c p))) := by
 refine pF Tryz.func362 ?_
 have hC := zkX g hg p hp p.side hp.s
 have hl := zjp g p p.side
 have k6 := hg.k6
 have hnn := fun (k : Nat) hk => zjT g p p.side (k := k) hk
 have hle := fun k : Nat => zzY hg hp p.side k
 have hall := zzZ hg hp p.side
 obtain ⟨S, hS⟩ : ∃ S : Nat → Nat, S = fun i => ((List.range i).map fun (k : Nat) => zrq p p.side k).sum := ⟨_, rfl⟩
 have hS0 : S 0 = 0 := by rw [hS]; rfl
 have hSs : ∀ i, S (i + 1) = S i + zrq p p.side i := fun i => by rw [hS]; simp [List.range_succ]
 have hSK : S g.kinds.length = zrq p p.side (-1) := by rw [hS]; exact hall
 have hSb : ∀ i, S i ≤ 9 * i := fun i => by
  induction i with
  | zero => omega
  | succ i ih => rw [hSs]; have := hle i; omega
 have he : zdq c p = decide ((S g.kinds.length : Int) ≤ c.2.2.1) := by
  unfold zdq; rw [if_neg (by omega), if_neg (by omega), hSK]
 rw [he]
 clear hS
 generalize zeH g p p.side = l at *
 obtain ⟨c0, c1, c2, c3⟩ := c
 repeat first|refine wV fun _=>?_|simp [go_sem]
 refine zAs hC (by simp [go_sem]) ?_
 repeat first|refine wV fun _=>?_|simp [go_sem]
 refine zAr (zAv (α := Nat) (fun i => ⟨[(5, .ref 2 0 4 0 0), (7, .v (.int .i64 (S i))), (14, zap l), (15, .v (.int .i64 l.length)), (16, .v (.int .i64 i))], [(2, .rows true 0 4 [zaZ (c0, c1, c2, c3)])], 3⟩)
  (fun d i => i + d = l.length) ?_ l.length 0 ?_) ?_ ?_
 ·rintro d i i1 hrec
  repeat first|refine wV fun _=>?_|simp [go_sem]
  refine zAt (fun hi => ?_) (fun hi => ?_) <;> simp at hi
  ·have h2 := hnn i (by omega)
   have h3 := hle i
   have h4 := hSb i
   have h5 := hSs i
   repeat first|refine wV fun _=>?_|simp [go_sem, hi]
   refine zAr (hrec (d - 1) (by omega) (i + 1) (by omega)) ?_ (by simp)
   simp [go_sem, zaf, h5, h2]
  ·have e : i = l.length := by omega
   subst e
   rw [hl]
   repeat first|refine wV fun _=>?_|simp [go_sem]
 ·omega
 ·simp [go_sem, zaf, hS0]
 ·simp
end
def ze2 (g : zae) (p : zah) : Int × Bool := if 0 ≤ zch g p then ((nth g.clauses (zch g p).toNat).2.2.2, true) else (0, false)
theorem zmH : glbs.lookup 0 = some [.v .nilFunc, .fn (.func 359) [] [], .fn (.func 361) [] [], .fn (.func 362) [] []] := rfl
theorem zli (g : zae) (hg : GOk g) (p : zah) (hp : POk g p) : zaL Tryz.prog 70 [.agg (zac g), .agg (zad p)] (.tup [.v (.int .i64 (ze2 g p).1), .v (.bool (ze2 g p).2)]) := by
 refine pF Tryz.func70 ?_
 have hcn := hg.cn
 repeat first|refine wV fun _=>?_|simp [go_sem]
 refine zAr (zAv (α := Nat) (fun i => ⟨[(2, .ref 0 0 9 0 0), (3, .ref 1 0 5 0 0), (9, .lst 4 (g.clauses.map zaZ)), (10, .v (.int .i64 g.clauses.length)), (11, .v (.int .i64 i))], [(0, .rows true 0 9 [zac g]), (1, .rows true 0 5 [zad p])], 2⟩)
  (fun d i => i + d = g.clauses.length ∧ ∀ j, j < i → zdq (nth g.clauses j) p = false) ?_ g.clauses.length 0 ?_) ?_ ?_
 ·rintro d i ⟨i1, i2⟩ hrec
  repeat first|refine wV fun _=>?_|simp [go_sem]
  refine zAt (fun hi => ?_) (fun hi => ?_) <;> simp at hi
  ·have hcl := hg.cl _ (zaj hi)
   have hfi : zdq (nth g.clauses i) p = true → ze2 g p = ((nth g.clauses i).2.2.2, true) := fun hc => by
    have he : zch g p = i := by unfold zch; rw [zh9 (fun c => zdq c p) g.clauses hi i2 hc]
    unfold ze2
    rw [he, if_pos (by omega)]; simp
   have h1 := zsO g p _ hg hp hcl
   have h2 := zsP g p _ hg hp hcl
   have h3 := zsQ g p _ hg hp hcl
   have hcond := hcl.cond
   obtain ⟨c, hcc⟩ : ∃ c, c = nth g.clauses i := ⟨_, rfl⟩
   rw [← hcc] at hfi h1 h2 h3 hcond
   have fin : ∀ b, zdq c p = b → b = false → ∀ j, j < i + 1 → zdq (nth g.clauses j) p = false := by
    intro b hb hf j hj
    rcases Nat.lt_or_ge j i with h | h
    ·exact i2 j h
    ·obtain rfl : j = i := by omega
     rw [← hcc, hb, hf]
   obtain ⟨c0, c1, c2, c3⟩ := c
   generalize hcb : zdq (c0, c1, c2, c3) p = b at *
   simp only at hcond hfi
   rcases hcond with rfl | rfl | rfl
   ·have hC := h1 rfl
    repeat first|refine wV fun _=>?_|simp [go_sem, hi, ← hcc, zmH]
    refine zAu hC (by simp [go_sem]) ?_
    repeat first|refine wV fun _=>?_|simp [go_sem]
    cases b
    ·repeat first|refine wV fun _=>?_|simp [go_sem]
     refine zAr (hrec (d - 1) (by omega) (i + 1) ⟨by omega, fin _ rfl rfl⟩) ?_ (by simp)
     simp [go_sem, zaf]
    ·rw [hfi rfl]
     repeat first|refine wV fun _=>?_|simp [go_sem]
   ·have hC := h2 rfl
    repeat first|refine wV fun _=>?_|simp [go_sem, hi, ← hcc, zmH]
    refine zAu hC (by simp [go_sem]) ?_
    repeat first|refine wV fun _=>?_|simp [go_sem]
    cases b
    ·repeat first|refine wV fun _=>?_|simp [go_sem]
     refine zAr (hrec (d - 1) (by omega) (i + 1) ⟨by omega, fin _ rfl rfl⟩) ?_ (by simp)
     simp [go_sem, zaf]
    ·rw [hfi rfl]
     repeat first|refine wV fun _=>?_|simp [go_sem]
   ·have hC := h3 rfl
    repeat first|refine wV fun _=>?_|simp [go_sem, hi, ← hcc, zmH]
    refine zAu hC (by simp [go_sem]) ?_
    repeat first|refine wV fun _=>?_|simp [go_sem]
    cases b
    ·repeat first|refine wV fun _=>?_|simp [go_sem]
     refine zAr (hrec (d - 1) (by omega) (i + 1) ⟨by omega, fin _ rfl rfl⟩) ?_ (by simp)
     simp [go_sem, zaf]
    ·rw [hfi rfl]
     repeat first|refine wV fun _=>?_|simp [go_sem]
  ·have he : zch g p = -1 := by unfold zch; rw [zh8 (fun c => zdq c p) g.clauses (fun j hj => i2 j (by omega))]
   have he' : ze2 g p = (0, false) := by unfold ze2; rw [he]; rfl
   rw [he']
   repeat first|refine wV fun _=>?_|simp [go_sem]
 ·exact ⟨by simp, fun j hj => by omega⟩
 ·simp [go_sem, zaf]
 ·simp
end Go.Av
end
section
open Go Go.Proofs
namespace Go.Av
def zjW (g : zae) (p : zah) (c : Nat) : List zcl := (List.range c).flatMap (zc3 g p)
theorem ztq (g : zae) (p : zah) (c : Nat) : zjW g p (c + 1) = zjW g p c ++ zc3 g p c := by simp [zjW, List.range_succ, List.flatMap_append]
theorem ztr (g : zae) (p : zah) : zjW g p 0 = [] := rfl
def zkT (g : zae) (p : zah) (c i : Nat) : List zcl := zjW g p c ++ (List.range i).flatMap fun (i : Nat) => zdc g p c i
theorem zto (g : zae) (p : zah) (c : Nat) : zkT g p c 0 = zjW g p c := by simp [zkT]
theorem ztn (g : zae) (p : zah) (c i : Nat) : zkT g p c (i + 1) = zkT g p c i ++ zdc g p c i := by simp [zkT, List.range_succ, List.flatMap_append]
theorem zi3 (g : zae) (hg : GOk g) (p : zah) (hp : POk g p) : zaL Tryz.prog 196 [.agg (zac g), .agg (zad p)] (zbI (zdo g p)) := by
 refine pF Tryz.func196 ?_
 have hal := hp.al
 have c9 := hg.c9
 have k6 := hg.k6
 have hU : ∀ c i, c < p.at_.length → 0 ≤ (zao (nth p.at_ c)).1 ∧ (zao (nth p.at_ c)).2 = p.side → i ≤ (nth g.kinds (zao (nth p.at_ c)).1.toNat).progs.length → (zkT g p c i).length ≤ 8000000000 := fun c i hc hm hi => by
  have h1 : (zjW g p c).length ≤ 7200000000 := zoG hg hp (by omega)
  have hk := zmL hg hp (cell := c) (by omega) (by omega) (by simpa using hm.1)
  simp only [Int.toNat_natCast] at hk
  have h8 := hg.pn _ (zaj hk)
  have h2 := zbD (fun (i : Nat) => zdc g p c i) 100000000 i (fun j hj => zj8 hg hp (zfg hp hc hm (by omega)))
  have h3 : i * 100000000 ≤ 8 * 100000000 := Nat.mul_le_mul_right _ (by omega)
  simp only [zkT, List.length_append]
  omega
 repeat first|refine wV fun _=>?_|simp [go_sem]
 refine zAr (zAv (α := Nat × Nat) (fun a => ⟨[(2, .ref 0 0 9 0 0), (3, .ref 1 0 5 0 0), (5, .sl 2 a.2 6 0 (zjW g p a.1).length), (6, .v (.int .i64 a.1))], [(0, .rows true 0 9 [zac g]), (1, .rows true 0 5 [zad p]), (2, .rows true a.2 6 ((zjW g p a.1).map zay))], 3⟩)
  (fun d a => a.1 + d = p.at_.length) ?_ p.at_.length (0, 0) ?_) ?_ ?_
 ·rintro d ⟨c, G⟩ c1 hrec
  simp only at c1
  repeat first|refine wV fun _=>?_|simp [go_sem]
  refine zAt (fun hc => ?_) (fun hc => ?_) <;> simp at hc
  ·have hO := zdD (nth p.at_ c)
   have hsu := ztq g p c
   have hat := hp.at (i := c) (by omega)
   have hman := zaR hat.1 hat.2 hg.k6
   have hAt : zc3 g p c = if 0 ≤ (zao (nth p.at_ c)).1 ∧ (zao (nth p.at_ c)).2 = p.side then (List.range (nth g.kinds (zao (nth p.at_ c)).1.toNat).progs.length).flatMap fun (i : Nat) => zdc g p c i else [] := rfl
   have hU' := fun i => hU c i hc
   have hCh := fun i => zfg (g := g) (i := i) hp hc
   generalize zao (nth p.at_ c) = m at *
   obtain ⟨mk, ms⟩ := m
   simp only [Prod.mk.injEq] at hman hAt hU' hCh
   repeat first|refine wV fun _=>?_|simp [go_sem, hc]
   refine zAs hO (by simp [go_sem]) ?_
   repeat first|refine wV fun _=>?_|simp [go_sem]
   refine zAt (fun hm => ?_) (fun hm => ?_) <;> simp at hm
   ·rw [if_neg (by omega)] at hAt
    rw [hAt, List.append_nil] at hsu
    repeat first|refine wV fun _=>?_|simp [go_sem]
    refine zAr (hrec (d - 1) (by omega) (c + 1, G) (by simp only; omega)) ?_ (by simp)
    simp [go_sem, zaf, hsu]
   ·have hm' : 0 ≤ mk ∧ ms = p.side := by omega
    rw [if_pos hm'] at hAt
    have hkl : mk.toNat < g.kinds.length := by omega
    have hpn := hg.pn _ (zaj hkl)
    have hz := zto g p c
    repeat first|refine wV fun _=>?_|simp [go_sem]
    refine zAr (zAv (α := Nat × Nat) (fun a => ⟨[(2, .ref 0 0 9 0 0), (3, .ref 1 0 5 0 0), (5, .sl 2 a.2 6 0 (zkT g p c a.1).length), (6, .v (.int .i64 c)), (7, .ref 3 0 2 0 0), (8, .v (.int .i64 a.1))],
      [(0, .rows true 0 9 [zac g]), (1, .rows true 0 5 [zad p]), (2, .rows true a.2 6 ((zkT g p c a.1).map zay)), (3, .rows true 0 2 [[.v (.int .i64 mk), .v (.int .i64 ms)]])], 4⟩)
     (fun d a => a.1 + d = (nth g.kinds mk.toNat).progs.length) ?_ (nth g.kinds mk.toNat).progs.length (0, G) ?_) ?_ ?_
    ·rintro d2 ⟨i, G'⟩ i1 hrec2
     simp only at i1
     repeat first|refine wV fun _=>?_|simp [go_sem, hkl]
     refine zAt (fun hi => ?_) (fun hi => ?_) <;> simp at hi
     ·have hR := zpk g hg p hp c i (hCh i hm' hi)
      have hsi := ztn g p c i
      have hUi := hU' i hm' (by omega)
      have hUj := hU' (i + 1) hm' (by omega)
      rw [hsi, List.length_append] at hUj
      repeat first|refine wV fun _=>?_|simp [go_sem]
      refine zAs hR (by simp [go_sem]) ?_
      repeat first|refine wV fun _=>?_|simp [go_sem]
      refine zAr (hrec2 (d2 - 1) (by omega) (i + 1, G' + 1) (by simp only; omega)) ?_ (by simp)
      simp [go_sem, zaf, hsi]
     ·have hil : i = (nth g.kinds mk.toNat).progs.length := by omega
      subst hil
      have hfin : zkT g p c (nth g.kinds mk.toNat).progs.length = zjW g p (c + 1) := by rw [hsu, hAt]; rfl
      rw [hfin]
      repeat first|refine wV fun _=>?_|simp [go_sem]
      refine zAr (hrec (d - 1) (by omega) (c + 1, G') (by simp only; omega)) ?_ (by simp)
      simp [go_sem, zaf]
    ·simp
    ·simp [go_sem, zaf, hz]
    ·simp
  ·have hcl : c = p.at_.length := by omega
   subst hcl
   have e : zdo g p = zjW g p p.at_.length := rfl
   rw [e]
   repeat first|refine wV fun _=>?_|simp [go_sem]
   exact frX
 ·simp
 ·simp [go_sem, zaf, ztr]
 ·simp
def ztA (o : zcl) : List AV := [.agg (zay o)]
theorem zlh {n j : Nat} (h : j < n) : (List.range n).drop j = j :: (List.range n).drop (j + 1) := by
 rw [List.drop_eq_getElem_cons (by simpa using h)]; simp
theorem zv4 (g : zae) (hg : GOk g) (p : zah) (hp : POk g p) : znb Tryz.prog 125 [.fp (zad p), .fp (zac g)] 0 ((zdo g p).map ztA) := by
 refine zAM (by kernel_rfl) Tryz.func125 rfl rfl (Nat.le_of_ble_eq_true rfl) (by kernel_rfl) (fun l => ?_) (hm2 := by decide)
 have hal := hp.al
 have c9 := hg.c9
 have k6 := hg.k6
 have hgb : ∀ (n : Nat) (L : List zcl), Bel n (zba l 0 (L.map ztA)) := fun n L => by
  simp only [zba, zqS, zlY, List.forall_mem_cons, zwJ, zcc]
  simp [go_sem, ztA]
 obtain ⟨oF, hoF⟩ : ∃ oF : Nat → List zcl, oF = fun j => ((List.range p.at_.length).drop j).flatMap (zc3 g p) := ⟨_, rfl⟩
 have ho0 : zdo g p = oF 0 := by rw [hoF]; rfl
 have hos : ∀ j, j < p.at_.length → oF j = zc3 g p j ++ oF (j + 1) := fun j hj => by rw [hoF]; simp only; rw [zlh hj, List.flatMap_cons]
 have hon : oF p.at_.length = [] := by rw [hoF]; simp only; rw [List.drop_eq_nil_of_le (by simp)]; rfl
 rw [ho0]
 clear hoF ho0
 repeat first|refine wV fun _=>?_|simp [go_sem, GH]
 refine zAr (zAv (α := Nat) (fun j => ⟨[(0, .fn (.yield l) [] []), (1, .fp (zad p)), (2, .fp (zac g)), (14, zap p.at_), (15, .v (.int .i64 p.at_.length)), (16, .v (.int .i64 j)), (1000000007, zba l 0 ((oF j).map ztA))], [], 0⟩)
  (fun d j => j + d = p.at_.length) ?_ p.at_.length 0 ?_) ?_ ?_
 ·rintro d j j1 hrec
  repeat first|refine wV fun _=>?_|simp [go_sem, GH]
  refine zAt (fun hj => ?_) (fun hj => ?_) <;> simp at hj
  ·have hat := hp.at (i := j) (by omega)
   have hman := zaR hat.1 hat.2 hg.k6
   have hO := zfq (nth p.at_ j)
   have hoj := hos j hj
   have hoa : zc3 g p j = if 0 ≤ (zao (nth p.at_ j)).1 ∧ (zao (nth p.at_ j)).2 = p.side then (List.range (nth g.kinds (zao (nth p.at_ j)).1.toNat).progs.length).flatMap fun (i : Nat) => zdc g p j i else [] := rfl
   have hrp : ∀ i : Nat, i < (nth g.kinds (zao (nth p.at_ j)).1.toNat).progs.length → 0 ≤ (zao (nth p.at_ j)).1 → (zao (nth p.at_ j)).2 = p.side → zcf g p j i := fun i hi h1 h2 =>
    ⟨by omega, by omega, h1, h2, by omega, by simpa using hi⟩
   have hRun : ∀ i : Nat, i < (nth g.kinds (zao (nth p.at_ j)).1.toNat).progs.length → 0 ≤ (zao (nth p.at_ j)).1 → (zao (nth p.at_ j)).2 = p.side → _ := fun i hi h1 h2 => zty g hg p hp j i (hrp i hi h1 h2)
   have hrl := fun (i : Nat) hi h1 h2 => zj8 hg hp (hrp i hi h1 h2)
   clear hrp
   generalize zao (nth p.at_ j) = m at *
   obtain ⟨mk, ms⟩ := m
   simp only at hoa hRun hman hO hrl
   repeat first|refine wV fun _=>?_|simp [go_sem, hj, GH]
   refine zAs hO (by simp [go_sem]) ?_
   repeat first|refine wV fun _=>?_|simp [go_sem, GH]
   refine zAt (fun hc => ?_) (fun hc => ?_) <;> simp at hc
   ·have hz : zc3 g p j = [] := by rw [hoa, if_neg (by omega)]
    rw [hz, List.nil_append] at hoj
    rw [hoj]
    repeat first|refine wV fun _=>?_|simp [go_sem, GH]
    refine zAr (hrec (d - 1) (by omega) (j + 1) (by omega)) ?_ (by simp)
    simp [go_sem, zaf, hgb, GH]
   ·rw [if_pos (by omega)] at hoa
    have hmk : mk.toNat < g.kinds.length := by
     simp only [Prod.mk.injEq] at hman
     omega
    have hn8 := hg.pn _ (zaj hmk)
    obtain ⟨np, hnp⟩ : ∃ np, np = (nth g.kinds mk.toNat).progs.length := ⟨_, rfl⟩
    rw [← hnp] at hoa hRun hn8 hrl
    obtain ⟨pF, hpF⟩ : ∃ pF : Nat → List zcl, pF = fun i => ((List.range np).drop i).flatMap (fun (i : Nat) => zdc g p j i) ++ oF (j + 1) := ⟨_, rfl⟩
    have hp0 : oF j = pF 0 := by rw [hpF, hoj, hoa]; rfl
    have hps : ∀ i, i < np → pF i = zdc g p j i ++ pF (i + 1) := fun i hi => by rw [hpF]; simp only; rw [zlh hi, List.flatMap_cons, List.append_assoc]
    have hpn : pF np = oF (j + 1) := by rw [hpF]; simp only; rw [List.drop_eq_nil_of_le (by simp)]; rfl
    rw [hp0]
    clear hpF hp0 hoa hoj
    repeat first|refine wV fun _=>?_|simp [go_sem, GH, hmk, ← hnp]
    refine zAr (zAv (α := Nat) (fun i => ⟨[(0, .fn (.yield l) [] []), (1, .fp (zad p)), (2, .fp (zac g)), (4, .v (.int .i64 j)), (14, zap p.at_), (15, .v (.int .i64 p.at_.length)), (16, .v (.int .i64 j)), (40, .v (.int .i64 np)), (41, .v (.int .i64 i)), (1000000007, zba l 0 ((pF i).map ztA))], [], 0⟩)
     (fun d i => i + d = np) ?_ np 0 ?_) ?_ ?_
    ·rintro d2 i i1 hrec2
     repeat first|refine wV fun _=>?_|simp [go_sem, GH]
     refine zAt (fun hi => ?_) (fun hi => ?_) <;> simp at hi
     ·have hR := hRun i hi (by omega) (by omega)
      have hpi := hps i hi
      obtain ⟨rs, hrs⟩ : ∃ rs, rs = zdc g p j i := ⟨_, rfl⟩
      have hrl' := hrl i hi (by omega) (by omega)
      rw [← hrs] at hR hpi hrl'
      obtain ⟨rF, hrF⟩ : ∃ rF : Nat → List zcl, rF = fun t => rs.drop t ++ pF (i + 1) := ⟨_, rfl⟩
      have hr0 : pF i = rF 0 := by rw [hrF, hpi]; rfl
      have hrt : ∀ t, t < rs.length → rF t = nth rs t :: rF (t + 1) := fun t ht => by rw [hrF]; simp only; rw [zaH ht]; rfl
      have hrn : rF rs.length = pF (i + 1) := by rw [hrF]; simp
      rw [hr0]
      clear hrF hr0
      repeat first|refine wV fun _=>?_|simp [go_sem, GH]
      refine zAs hR (by simp [go_sem]) ?_
      repeat first|refine wV fun _=>?_|simp [go_sem, GH]
      refine zAr (zAv (α := Nat) (fun t => ⟨[(0, .fn (.yield l) [] []), (1, .fp (zad p)), (2, .fp (zac g)), (4, .v (.int .i64 j)), (14, zap p.at_), (15, .v (.int .i64 p.at_.length)), (16, .v (.int .i64 j)), (40, .v (.int .i64 np)), (41, .v (.int .i64 i)), (52, zbI rs), (53, .v (.int .i64 rs.length)), (54, .v (.int .i64 t)), (1000000007, zba l 0 ((rF t).map ztA))], [], 0⟩)
       (fun d t => t + d = rs.length) ?_ rs.length 0 ?_) ?_ ?_
      ·rintro d3 t t1 hrec3
       repeat first|refine wV fun _=>?_|simp [go_sem, GH]
       refine zAt (fun ht => ?_) (fun ht => ?_) <;> simp at ht
       ·rw [hrt t ht]
        repeat first|refine wV fun _=>?_|simp [go_sem, GH, ht]
        refine zr8.mk (more := 0) (xs := ztA (nth rs t)) (rs := (rF (t + 1)).map ztA) _ (by simp [upd, GH]) (.refl _) (.refl _ _ _ _) (by simp [go_sem, ztA]) ?_ ?_
        ·repeat first|refine wV fun _=>?_|simp [go_sem, GH]
         refine zAr (hrec3 (d3 - 1) (by omega) (t + 1) (by omega)) ?_ (by simp)
         simp [go_sem, zaf, hgb, GH]
        ·repeat first|refine wV fun _=>?_|simp [go_sem, GH]
       ·have e : t = rs.length := by omega
        subst e
        rw [hrn]
        repeat first|refine wV fun _=>?_|simp [go_sem, GH]
        refine zAr (hrec2 (d2 - 1) (by omega) (i + 1) (by omega)) ?_ (by simp)
        simp [go_sem, zaf, hgb, GH]
      ·omega
      ·simp [go_sem, zaf, hgb, GH]
      ·simp
     ·have e : i = np := by omega
      subst e
      rw [hpn]
      repeat first|refine wV fun _=>?_|simp [go_sem, GH]
      refine zAr (hrec (d - 1) (by omega) (j + 1) (by omega)) ?_ (by simp)
      simp [go_sem, zaf, hgb, GH]
    ·omega
    ·simp [go_sem, zaf, hgb, GH]
    ·simp
  ·have e : j = p.at_.length := by omega
   subst e
   rw [hon]
   repeat first|refine wV fun _=>?_|simp [go_sem, GH]
 ·omega
 ·simp [go_sem, zaf, hgb, GH]
 ·simp
def zv6 (n : Nat) : AV := .fn (.func 125) [] [.ref (n + 1) 0 5 0 0, .ref n 0 9 0 0]
def zv5 (g : zae) (p : zah) (n : Nat) : List (Nat × zbq) := [(n, .rows true 0 9 [zac g]), (n + 1, .rows true 0 5 [zad p])]
theorem zmS (g : zae) (p : zah) : zgi Tryz.prog 71 [.agg (zac g), .agg (zad p)] zv6 (zv5 g p) 2 := by
 refine ⟨?_, fun n => ⟨by simp [go_sem, zv6], by simp [go_sem, zv5]⟩⟩
 refine zAw (by kernel_rfl) Tryz.func71 rfl rfl (Nat.le_of_ble_eq_true rfl) (by kernel_rfl) ?_
 repeat first|refine wV fun _=>?_|simp [go_sem, zv6, zv5]
 simp [go_sem, zaf]
theorem zrh (g : zae) (p : zah) : (ze2 g p).2 = decide (0 ≤ zch g p) := by
 unfold ze2; split <;> simp_all
theorem zur {α : Type} (f : α → Bool) : ∀ l : List α, l.any f = decide (0 < (l.filter f).length)
 | [] => rfl
 | x :: l => by cases h : f x <;> simp [h, zur f l]
theorem zhm (g : zae) (hg : GOk g) (p : zah) (hp : POk g p) : zaL Tryz.prog 20 [.agg (zac g), .agg (zad p)] (zaN (zaK g p)) := by
 refine pF Tryz.func20 ?_
 have hE := zli g hg p hp
 have hD := zqB g hg p hp
 have hdl := zfO hg hp
 have hdo := fun q hq => ((znW hg hp) q hq).1.fits hg
 have hol := zjX hg hp
 have hoo := fun o ho => ((zrv hg hp) o ho).1.fits hg
 have hS : zgi Tryz.prog 71 [.agg (zac g), .agg (zad p)] (fun n => zv6 n) (fun n => zv5 g p n) 2 := zmS g p
 have hQ := zv4 g hg p hp
 simp only [zv6, zv5] at hS
 have e2 := zrh g p
 have hMv : zaK g p = if 0 ≤ zch g p then [] else zbh zbx (zds g p) := rfl
 have hML : zds g p = ((zdo g p).filter fun o => !zf4 g p || o.took).map (·.pos) ++ (if zf4 g p then [] else zcM g p) := rfl
 have hMu : zf4 g p = (g.must && (zdo g p).any (·.took)) := rfl
 rw [e2] at hE
 rw [hMv]
 generalize zch g p = ep at *
 generalize (ze2 g p).1 = ev1 at *
 generalize zdo g p = outs at *
 generalize zcM g p = drops at *
 generalize zf4 g p = must at *
 generalize zds g p = mvl at *
 clear hMv e2
 repeat first|refine wV fun _=>?_|simp [go_sem]
 refine zAs hE (by simp [go_sem]) ?_
 repeat first|refine wV fun _=>?_|simp [go_sem]
 refine zAt (fun he => ?_) (fun he => ?_) <;> simp at he
 ·rw [if_pos he]
  repeat first|refine wV fun _=>?_|simp [go_sem]
 ·rw [if_neg (by omega)]
  repeat first|refine wV fun _=>?_|simp [go_sem, GH]
  refine zAx hS (by simp [go_sem]) ?_
  repeat first|refine wV fun _=>?_|simp [go_sem, GH]
  refine zeh.mk [.fp (zad p), .fp (zac g)] (za5 _ [4, 5]) hQ (zcU _ _) ?_ (by simp [go_sem]) (by simp [ztA]) ?_
  ·refine zam.cons (.frzP rfl ?_ ?_ ?_ ?_) (zam.cons (.frzP rfl ?_ ?_ ?_ ?_) .nil) <;> first | exact zam.refl _ _ _ _ | simp [za5, zbb, upd]
  obtain ⟨al, hal⟩ : ∃ al : Nat → List zah, al = fun k => (outs.take k).map (·.pos) := ⟨_, rfl⟩
  obtain ⟨tk, htk⟩ : ∃ tk : Nat → List zah, tk = fun k => ((outs.take k).filter (·.took)).map (·.pos) := ⟨_, rfl⟩
  have hall : ∀ k, (al k).length ≤ 7200000000 := fun k => by rw [hal]; simp; omega
  have htkl : ∀ k, (tk k).length ≤ 7200000000 := fun k => by rw [htk]; simp only [List.length_map]; have := List.length_filter_le (·.took) (outs.take k); simp at this; omega
  have hals : ∀ k, k < outs.length → al (k + 1) = al k ++ [(nth outs k).pos] := fun k hk => by rw [hal]; simp only; rw [List.take_add_one, List.getElem?_eq_getElem hk, zaC _ _ hk, Option.toList_some, List.map_append]; rfl
  have htks : ∀ k, k < outs.length → tk (k + 1) = if (nth outs k).took = true then tk k ++ [(nth outs k).pos] else tk k := fun k hk => by
   rw [htk]; simp only; rw [List.take_add_one, List.getElem?_eq_getElem hk, zaC _ _ hk, Option.toList_some, List.filter_append]
   cases hq : outs[k].took <;> simp [hq]
  have hal0 : al 0 = [] := by rw [hal]; rfl
  have htk0 : tk 0 = [] := by rw [htk]; rfl
  have halE : al outs.length = outs.map (·.pos) := by rw [hal]; simp
  have htkE : tk outs.length = (outs.filter (·.took)).map (·.pos) := by rw [htk]; simp
  clear hal htk
  refine Fgt.to (zAK (α := Nat) (fun k => ([(2, .ref 0 0 9 0 0), (3, .ref 1 0 5 0 0), (7, .ref 2 0 1 0 0), (8, .ref 3 0 1 0 0)], [(0, .rows true 0 9 [zac g]), (1, .rows true 0 5 [zad p]), (2, .rows true 0 1 [[.sl 6 (al k).length 5 0 (al k).length]]), (3, .rows true 0 1 [[.sl 7 (tk k).length 5 0 (tk k).length]]),
    (6, .rows true (al k).length 5 ((al k).map zad)), (7, .rows true (tk k).length 5 ((tk k).map zad))], 8))
   (fun rows k => rows = (outs.drop k).map ztA ∧ k ≤ outs.length) ?_ ?_ _ 0 ?_) ?_ ?_
  ·rintro k ⟨i1, i2⟩
   have hk : k = outs.length := by
    have := congrArg List.length i1
    simp at this
    omega
   subst hk
   refine ⟨rfl, ?_⟩
   have hmu : must = (g.must && decide (0 < (tk outs.length).length)) := by
    rw [hMu, htkE, zur, List.length_map]
   have hft : ∀ q ∈ tk outs.length, zaU q := fun q hq => by
    rw [htkE] at hq
    obtain ⟨o, ho, rfl⟩ := List.mem_map.1 hq
    exact hoo o (List.mem_filter.1 ho).1
   have hfa : ∀ q ∈ al outs.length, zaU q := fun q hq => by
    rw [halE] at hq
    obtain ⟨o, ho, rfl⟩ := List.mem_map.1 hq
    exact hoo o ho
   have hla := hall outs.length
   have hlt := htkl outs.length
   by_cases hm : must = true
   ·rw [hm] at hmu hML
    have hgm : g.must = true := by cases h : g.must <;> simp [h] at hmu ⊢
    have hpos : 0 < (tk outs.length).length := by rw [hgm] at hmu; simpa using hmu
    have hpos' : (0 : Int) < (tk outs.length).length := by omega
    have e : mvl = tk outs.length := by rw [hML, htkE]; simp
    rw [e]
    generalize tk outs.length = tks at *
    have hS1 := zdA tks (by omega) hft
    repeat first|refine wV fun _=>?_|simp [go_sem, GH, ← hmu]
    refine zAy [7] hS1 ?_ (zwD (zb6 _)) ?_
    ·(first|done|exact agX)
    ·repeat first|refine wV fun _=>?_|simp [go_sem, GH]
   ·have e : mvl = al outs.length ++ drops := by
     simp only [Bool.not_eq_true] at hm
     rw [hML, hm, halE, List.filter_eq_self.2 (by simp)]; simp
    rw [e]
    have hS1 := zdA (al outs.length ++ drops) (by rw [List.length_append]; omega) (fun q hq => by
     rcases List.mem_append.1 hq with h | h
     ·exact hfa q h
     ·exact hdo q h)
    simp only [Bool.not_eq_true] at hm
    rw [hm] at hmu
    generalize al outs.length = als at *
    generalize tk outs.length = tks at *
    generalize zbh zbx (als ++ drops) = res at *
    repeat first|refine wV fun _=>?_|simp [go_sem, GH, ← hmu]
    refine zAu hD (by simp [go_sem]) ?_
    repeat first|refine wV fun _=>?_|simp [go_sem, GH]
    refine zav.frz [zaN (als ++ drops)] _ [6] [(6, some (.rows false (als.length + 1) 5 ((als ++ drops).map zad)))] hS1 ?_ ?_ (zwD (zb6 _)) ?_
    ·intro q hq
     simp only [List.mem_singleton] at hq
     subst hq
     exact ⟨by simp, als.length + 1, 5, _, rfl, by simp [upd]⟩
    ·intro h₁ hS
     have h6 := hS 6 (by simp)
     simp [upd] at h6
     exact .cons (zas h6.symm (by simp) (by simp [zal, upd]) (by simp; exact List.take_of_length_le (by simp))) .nil
    ·repeat first|refine wV fun _=>?_|simp [go_sem, GH]
  ·rintro xs rs k ⟨i1, i2⟩ hrec
   have hk : k < outs.length := by
    have := congrArg List.length i1
    simp at this
    omega
   rw [zaH hk, List.map_cons, List.cons.injEq] at i1
   obtain ⟨rfl, rfl⟩ := i1
   have hals := hals k hk
   have htks := htks k hk
   have h1 := hall k
   have h2 := htkl k
   obtain ⟨o, ho⟩ : ∃ o, o = nth outs k := ⟨_, rfl⟩
   rw [← ho] at hals htks ⊢
   obtain ⟨op, ot⟩ := o
   simp only at hals htks
   generalize hrs : (outs.drop (k + 1)).map ztA = rs at *
   refine zAN (Nat.zero_le _) ?_
   repeat first|refine wV fun _=>?_|simp [go_sem, GH, ztA]
   cases ot
   ·rw [if_neg (by simp)] at htks
    repeat first|refine wV fun _=>?_|simp [go_sem, GH]
    refine Fgt.to (hrec (k + 1) ⟨hrs.symm, by omega⟩) ?_ (by simp)
    simp [go_sem, zaf, GH, hals, htks]
   ·rw [if_pos rfl] at htks
    repeat first|refine wV fun _=>?_|simp [go_sem, GH]
    refine Fgt.to (hrec (k + 1) ⟨hrs.symm, by omega⟩) ?_ (by simp)
    simp [go_sem, zaf, GH, hals, htks]
  ·exact ⟨rfl, Nat.zero_le _⟩
  ·simp [go_sem, zaf, hal0, htk0]
  ·simp
def zjF (p : zah → Bool) (l : List zah) : Int := match l.findIdx? p with | some i => (i : Int) | none => -1
theorem zvt {p : zah → Bool} {l : List zah} {j : Nat} (hj : j < l.length) (h : ∀ i, i < j → p (nth l i) = false) (hp : p (nth l j) = true) : zjF p l = j := by
 have : l.findIdx? p = some j := by
  rw [List.findIdx?_eq_some_iff_getElem]
  refine ⟨hj, by rw [← zaC _ _ hj]; exact hp, fun i hi => ?_⟩
  have := h i hi
  rw [zaC _ _ (by omega)] at this
  simp [this]
 simp [zjF, this]
theorem zqa {p : zah → Bool} {l : List zah} (h : ∀ i, i < l.length → p (nth l i) = false) : zjF p l = -1 := by
 have : l.findIdx? p = none := by
  rw [List.findIdx?_eq_none_iff]
  intro x hx
  obtain ⟨i, hi, rfl⟩ := List.getElem_of_mem hx
  have := h i hi
  rw [zaC _ _ hi] at this
  exact this
 simp [zjF, this]
theorem zs4 {p : zah → Bool} {l : List zah} : decide (0 ≤ zjF p l) = l.any p := by
 unfold zjF
 cases h : l.findIdx? p with
 | none =>
  rw [List.findIdx?_eq_none_iff] at h
  simp
  simpa using h
 | some i =>
  have := List.findIdx?_isSome (xs := l) (p := p)
  rw [h] at this
  simp at this ⊢
  exact this
theorem ziX (l : List zah) (hl : l.length ≤ 17179869184) (f : FuncId) (first caps : List AV) (p : zah → Bool) (hp : ∀ x ∈ l, zaL Tryz.prog f (first ++ .agg (zad x) :: caps) (.v (.bool (p x)))) (hb : ∀ c ∈ first, Bel 0 c) (hb' : ∀ c ∈ caps, Bel 0 c) :
  zaL Tryz.prog 146 [zaN l, .fn (.func f) first caps] (.v (.int .i64 (zjF p l))) := by
 refine pF Tryz.func146 ?_
 simp [go_sem]
 refine zAr (zAv (α := Nat) (fun j => ⟨[(0, zaN l), (1, .fn (.func f) first caps), (7, .v (.int .i64 l.length)), (8, .v (.int .i64 j))], [], 0⟩)
  (fun d j => j + d = l.length ∧ (∀ i < j, p (nth l i) = false)) ?_ l.length 0 ?_) ?_ ?_
 ·rintro d j ⟨i1, i2⟩ hrec
  simp [go_sem]
  refine zAt (fun hj => ?_) (fun hj => ?_)
  ·simp at hj
   simp [go_sem]
   refine zAP hj fun _ => ?_
   simp [go_sem, hj]
   refine zAs (hp _ (zaj hj)) (fun c hc => by
    rcases List.mem_append.1 hc with h | h
    ·exact hb c h
    ·rcases List.mem_cons.1 h with rfl | h
     ·exact of_eq_true (by simp [go_sem])
     ·exact hb' c h) ?_
   simp [go_sem]
   refine zAt (fun h => ?_) (fun h => ?_)
   ·simp [go_sem, zvt hj i2 h]
   ·simp [go_sem]
    refine zAP (by omega) fun _ => ?_
    simp [go_sem]
    refine zAr (hrec (d - 1) (by omega) (j + 1) ⟨by omega, fun i hi => ?_⟩) ?_ (by simp)
    ·rcases Nat.lt_or_ge i j with h' | h'
     ·exact i2 i h'
     ·obtain rfl : i = j := by omega
      exact h
    ·simp [go_sem, zaf]
     exact ⟨hb, hb'⟩
  ·simp at hj
   simp [go_sem, zqa fun i hi => i2 i (by omega)]
 ·simp
 ·simp [go_sem, zaf]
  exact ⟨hb, hb'⟩
 ·simp
theorem zgH (l : List zah) (hl : l.length ≤ 17179869184) (f : FuncId) (first caps : List AV) (p : zah → Bool) (hp : ∀ x ∈ l, zaL Tryz.prog f (first ++ .agg (zad x) :: caps) (.v (.bool (p x)))) (hb : ∀ c ∈ first, Bel 0 c) (hb' : ∀ c ∈ caps, Bel 0 c) :
  zaL Tryz.prog 88 [zaN l, .fn (.func f) first caps] (.v (.bool (l.any p))) := by
 refine pF Tryz.func88 ?_
 simp [go_sem]
 refine zAs (ziX l hl f first caps p hp hb hb') (by simp [go_sem]; exact ⟨hb, hb'⟩) ?_
 simp [go_sem, zs4]
theorem zqi (m q : zah) (hm : zaU m) (hq : zaU q) : zaL Tryz.prog 89 [.agg (zad m), .fp (zad q)] (.v (.bool (decide (m = q)))) := by
 refine pF Tryz.func89 ?_
 have c1 := zbG m q hm hq
 have e : decide (m = q) = decide (zbx m q = 0) := by rw [decide_eq_decide]; exact (za7.eq m q).symm
 rw [e]
 generalize zbx m q = x at *
 repeat first|refine wV fun _=>?_|simp [go_sem]
 refine zAs c1 (by simp [go_sem]) ?_
 repeat first|refine wV fun _=>?_|simp [go_sem]
theorem zkZ (g : zae) (hg : GOk g) (p : zah) (hp : POk g p) (q : zah) (hq : zaU q) : zaL Tryz.prog 36 [.agg (zac g), .agg (zad p), .agg (zad q)] (.v (.bool (decide (q ∈ zaK g p)))) := by
 refine pF Tryz.func36 ?_
 have hM := zhm g hg p hp
 have hml := zhG hg hp
 have hmf := fun m hm => ((zdn hg hp) m hm).1.fits hg
 generalize zaK g p = l at *
 have hC := zgH l (by omega) 89 [] [.fp (zad q)] (fun m => decide (m = q)) (fun m hm => zqi m q (hmf m hm) hq) (by simp) (by simp [go_sem])
 have e : l.any (fun m => decide (m = q)) = decide (q ∈ l) := by
  rw [Bool.eq_iff_iff]
  simp
 rw [e] at hC
 repeat first|refine wV fun _=>?_|simp [go_sem]
 refine zAs hM (by simp [go_sem]) ?_
 repeat first|refine wV fun _=>?_|simp [go_sem]
 refine zAy [2] hC ?_ (by simp [go_sem]) ?_
 ·(first|done|exact leX)
 ·repeat first|refine wV fun _=>?_|simp [go_sem]
def zmP (gm : Bool) (l : List zcl) (i : Nat) : Bool := gm && (l.take i).any (·.took)
theorem zti (gm : Bool) (l : List zcl) : zmP gm l 0 = false := by simp [zmP]
theorem zth (gm : Bool) (l : List zcl) {i : Nat} (h : i < l.length) : zmP gm l (i + 1) = (zmP gm l i || (gm && (nth l i).took)) := by
 unfold zmP
 rw [List.take_add_one, List.getElem?_eq_getElem h, zaC _ _ h, Option.toList_some, List.any_append]
 simp only [List.any_cons, List.any_nil, Bool.or_false, Bool.and_or_distrib_left]
def zg3 (must : Bool) (l : List zcl) (i : Nat) : List zah := ((l.take i).filter fun o => !must || o.took).map (·.pos)
theorem zs9 (must : Bool) (l : List zcl) : zg3 must l 0 = [] := by simp [zg3]
theorem zs8 (must : Bool) (l : List zcl) {i : Nat} (h : i < l.length) : zg3 must l (i + 1) = zg3 must l i ++ (if (!must || (nth l i).took) = true then [(nth l i).pos] else []) := by
 unfold zg3
 rw [List.take_add_one, List.getElem?_eq_getElem h, zaC _ _ h, Option.toList_some, List.filter_append, List.map_append]
 congr 1
 by_cases hc : (!must || l[i].took) = true <;> simp [hc]
theorem zoq (must : Bool) (l : List zcl) (i : Nat) : (zg3 must l i).length ≤ i := by
 unfold zg3
 rw [List.length_map]
 refine Nat.le_trans (List.length_filter_le _ _) ?_
 simp; omega
theorem zhY (g : zae) (hg : GOk g) (p : zah) (hp : POk g p) : zaL Tryz.prog 141 [.agg (zac g), .agg (zad p)] (zaN (zaK g p)) := by
 refine pF Tryz.func141 ?_
 have hE := znh g hg p hp
 have hO := zi3 g hg p hp
 have hD := znf g hg p hp
 have hdl := zfO hg hp
 have hol := zjX hg hp
 have hS := zeC (zds g p) (by have := zlI hg hp; omega) (fun q hq => (zoA hg hp q hq).1.fits hg)
 have hml : zds g p = zg3 (zf4 g p) (zdo g p) (zdo g p).length ++ (if zf4 g p then [] else zcM g p) := by unfold zds zg3; rw [List.take_length]
 have hmu : zf4 g p = zmP g.must (zdo g p) (zdo g p).length := by unfold zf4 zmP; rw [List.take_length]
 have hmv : zaK g p = if 0 ≤ zch g p then [] else zbh zbx (zds g p) := rfl
 obtain ⟨R, hR⟩ : ∃ R, R = zaK g p := ⟨_, rfl⟩
 rw [← hR] at hmv ⊢
 generalize zdo g p = l at *
 generalize zcM g p = ds at *
 generalize zds g p = ml at *
 generalize zch g p = en at *
 repeat first|refine wV fun _=>?_|simp [go_sem]
 refine zAs hE (by simp [go_sem]) ?_
 repeat first|refine wV fun _=>?_|simp [go_sem]
 refine zAt (fun he => ?_) (fun he => ?_) <;> simp at he
 ·rw [if_pos he] at hmv
  rw [hmv]
  repeat first|refine wV fun _=>?_|simp [go_sem]
 ·rw [if_neg (by omega)] at hmv
  repeat first|refine wV fun _=>?_|simp [go_sem]
  refine zAs hO (by simp [go_sem]) ?_
  repeat first|refine wV fun _=>?_|simp [go_sem]
  refine zAr (zAv (α := Nat) (fun i => ⟨[(2, .ref 0 0 9 0 0), (3, .ref 1 0 5 0 0), (5, zbI l), (6, .sl 2 0 5 0 0), (7, .v (.bool (zmP g.must l i))), (8, .v (.int .i64 i))], [(0, .rows true 0 9 [zac g]), (1, .rows true 0 5 [zad p]), (2, .rows true 0 5 [])], 3⟩)
   (fun d i => i + d = l.length) ?_ l.length 0 ?_) ?_ ?_
  ·rintro d i i1 hrec
   repeat first|refine wV fun _=>?_|simp [go_sem]
   refine zAt (fun hi => ?_) (fun hi => ?_) <;> simp at hi
   ·have hms := zth g.must l hi
    cases hmk : zmP g.must l i
    ·rw [hmk, Bool.false_or] at hms
     cases hgm : g.must
     ·rw [hgm, Bool.false_and] at hms
      repeat first|refine wV fun _=>?_|simp [go_sem, hmk, hgm, hi]
      refine zAr (hrec (d - 1) (by omega) (i + 1) (by omega)) ?_ (by simp)
      simp [go_sem, zaf, hms, hgm]
     ·rw [hgm, Bool.true_and] at hms
      repeat first|refine wV fun _=>?_|simp [go_sem, hmk, hgm, hi]
      refine zAr (hrec (d - 1) (by omega) (i + 1) (by omega)) ?_ (by simp)
      simp [go_sem, zaf, hms, hgm]
    ·rw [hmk, Bool.true_or] at hms
     repeat first|refine wV fun _=>?_|simp [go_sem, hmk, hi]
     refine zAr (hrec (d - 1) (by omega) (i + 1) (by omega)) ?_ (by simp)
     simp [go_sem, zaf, hms]
   ·have hil : i = l.length := by omega
    subst hil
    rw [← hmu]
    generalize zf4 g p = must at *
    repeat first|refine wV fun _=>?_|simp [go_sem]
    refine zAr (zAv (α := Nat) (fun i => ⟨[(2, .ref 0 0 9 0 0), (3, .ref 1 0 5 0 0), (5, zbI l), (6, .sl 2 (zg3 must l i).length 5 0 (zg3 must l i).length), (7, .v (.bool must)), (9, .v (.int .i64 i))], [(0, .rows true 0 9 [zac g]), (1, .rows true 0 5 [zad p]), (2, .rows true (zg3 must l i).length 5 ((zg3 must l i).map zad))], 3⟩)
     (fun d i => i + d = l.length) ?_ l.length 0 ?_) ?_ ?_
    ·rintro d i i1 hrec2
     repeat first|refine wV fun _=>?_|simp [go_sem]
     refine zAt (fun hi => ?_) (fun hi => ?_) <;> simp at hi
     ·have hks := zs8 must l hi
      have hkl := zoq must l i
      cases must
      ·simp only [Bool.not_false, Bool.true_or, if_true] at hks
       repeat first|refine wV fun _=>?_|simp [go_sem, hi]
       refine zAr (hrec2 (d - 1) (by omega) (i + 1) (by omega)) ?_ (by simp)
       simp [go_sem, zaf, hks]
      ·cases ht : (nth l i).took
       ·simp [ht] at hks
        repeat first|refine wV fun _=>?_|simp [go_sem, hi, ht]
        refine zAr (hrec2 (d - 1) (by omega) (i + 1) (by omega)) ?_ (by simp)
        simp [go_sem, zaf, hks]
       ·simp [ht] at hks
        repeat first|refine wV fun _=>?_|simp [go_sem, hi, ht]
        refine zAr (hrec2 (d - 1) (by omega) (i + 1) (by omega)) ?_ (by simp)
        simp [go_sem, zaf, hks]
     ·have hil : i = l.length := by omega
      subst hil
      have hkl := zoq must l l.length
      rw [hmv]
      generalize zg3 must l l.length = kk at *
      cases must
      ·simp only [Bool.false_eq_true, if_false] at hml
       repeat first|refine wV fun _=>?_|simp [go_sem]
       refine zAs hD (by simp [go_sem]) ?_
       repeat first|refine wV fun _=>?_|simp [go_sem]
       subst hml
       refine zAy [2] hS ?_ (zwD (zb6 _)) ?_
       ·(first|done|exact agX)
       ·repeat first|refine wV fun _=>?_|simp [go_sem]
      ·simp only [if_true, List.append_nil] at hml
       subst hml
       repeat first|refine wV fun _=>?_|simp [go_sem]
       refine zAy [2] hS ?_ (zwD (zb6 _)) ?_
       ·(first|done|exact agX)
       ·repeat first|refine wV fun _=>?_|simp [go_sem]
    ·omega
    ·simp [go_sem, zaf, zs9]
    ·simp
  ·omega
  ·simp [go_sem, zaf, zti]
  ·simp
theorem zky (a b : List zah) (ha : a.length ≤ 17179869184) (hb : b.length ≤ 17179869184) (hfa : ∀ p ∈ a, zaU p) (hfb : ∀ p ∈ b, zaU p) : zaL Tryz.prog 41 [zaN a, zaN b] (.v (.bool (decide (a = b)))) := by
 refine pF Tryz.func41 ?_
 repeat first|refine wV fun _=>?_|simp [go_sem]
 refine zAt (fun hl => ?_) (fun hl => ?_) <;> simp at hl
 ·have e : decide (a = b) = false := decide_eq_false fun h => hl (by rw [h])
  rw [e]
  repeat first|refine wV fun _=>?_|simp [go_sem]
 ·repeat first|refine wV fun _=>?_|simp [go_sem]
  refine zAr (zAv (α := Nat) (fun i => ⟨[(0, zaN a), (1, zaN b), (5, .v (.int .i64 i))], [], 0⟩)
   (fun d i => i + d = a.length ∧ ∀ j, j < i → nth a j = nth b j) ?_ a.length 0 ?_) ?_ ?_
  ·rintro d i ⟨i1, i2⟩ hrec
   repeat first|refine wV fun _=>?_|simp [go_sem]
   refine zAt (fun hi => ?_) (fun hi => ?_) <;> simp at hi
   ·have hi' : i < b.length := by omega
    have hS := zgj (nth a i) (nth b i) (hfa _ (zaj hi)) (hfb _ (zaj hi'))
    rw [show decide (zbx (nth a i) (nth b i) = 0) = decide (nth a i = nth b i) by rw [decide_eq_decide]; exact za7.eq _ _] at hS
    repeat first|refine wV fun _=>?_|simp [go_sem, hi, hi']
    refine zAu hS (by simp [go_sem]) ?_
    by_cases h : nth a i = nth b i
    ·repeat first|refine wV fun _=>?_|simp [go_sem, h]
     refine zAr (hrec (d - 1) (by omega) (i + 1) ⟨by omega, fun j hj => ?_⟩) ?_ (by simp)
     ·rcases Nat.lt_or_ge j i with h' | h'
      ·exact i2 j h'
      ·obtain rfl : j = i := by omega
       exact h
     ·simp [go_sem, zaf]
    ·have e : decide (a = b) = false := decide_eq_false fun h' => h (by rw [h'])
     rw [e]
     repeat first|refine wV fun _=>?_|simp [go_sem, h]
   ·have e : decide (a = b) = true := decide_eq_true (List.ext_getElem (by omega) fun j h1 h2 => by
     have := i2 j (by omega)
     rwa [zaC _ _ h1, zaC _ _ h2] at this)
    rw [e]
    repeat first|refine wV fun _=>?_|simp [go_sem]
  ·exact ⟨by simp, fun j hj => by omega⟩
  ·simp [go_sem, zaf]
  ·simp
end Go.Av
end
