/- Texts of ours, part 6: contracts and facts for this claim. -/
import Derived.Test.YtblaonmapofniaaGreatDoorB06
set_option linter.unusedSimpArgs false
set_option linter.unusedVariables false
set_option maxRecDepth 100000
set_option maxHeartbeats 40000000
section
open Go Go.Proofs
namespace Go.Av
theorem stW_onP (g : GameD) (side : Int) (t : TkD) (w : PathD) (to : Int) (more : List ActD) :
  stW g side t (onP w to more) = ((doAs g side t w.acts).bind fun t => doAs g side t more).map fun t => stT t to := by
 unfold stW onP
 rw [doAs_append]
theorem doA_empty (g : GameD) (side : Int) (t : TkD) (c : Int) : doA g side t (3, c, 0) = (t, decide (nth t.p.at_ c.toNat = 0)) := by simp [doA]
theorem slide_none {g : GameD} {side : Int} {t : TkD} {w : PathD} : ∀ {l : List Int} {passed : List ActD}, ((doAs g side t w.acts).bind fun t => doAs g side t passed) = none → (slideP w l passed).filterMap (stW g side t) = []
 | [], _, _ => rfl
 | c :: l, passed, h => by
  rw [slideP, List.filterMap_cons, stW_onP, h]
  refine slide_none ?_
  cases hd : doAs g side t w.acts with
  | none => rfl
  | some u =>
   rw [hd] at h
   simp only [Option.bind_some] at h ⊢
   rw [doAs_append, h]; rfl
theorem slide_some {g : GameD} {side : Int} {t u : TkD} {w : PathD} (hd : doAs g side t w.acts = some u) : ∀ {l : List Int} {passed : List ActD}, doAs g side u passed = some u →
  (slideP w l passed).filterMap (stW g side t) = slideGo (stT u w.to) l
 | [], _, _ => rfl
 | c :: l, passed, h => by
  rw [slideP, List.filterMap_cons, stW_onP, hd, Option.bind_some, h, slideGo]
  simp only [Option.map_some]
  congr 1
  have he : doAs g side u (passed ++ [(3, c, 0)]) = if nth u.p.at_ c.toNat = 0 then some u else none := by
   rw [doAs_append, h, Option.bind_some]
   simp only [doAs, doA_empty, decide_eq_true_eq]
  show _ = if nth u.p.at_ c.toNat = 0 then _ else _
  split
  ·rename_i h0
   rw [if_pos h0] at he
   exact slide_some hd he
  ·rename_i h0
   rw [if_neg h0] at he
   refine slide_none ?_
   rw [hd, Option.bind_some, he]
theorem extP_none {g : GameD} {side : Int} {t : TkD} {w : PathD} (h : doAs g side t w.acts = none) (x : Int × Int) : (extP g.board side w x).filterMap (stW g side t) = [] := by
 have ho : ∀ to more, stW g side t (onP w to more) = none := fun to more => by rw [stW_onP, h]; rfl
 unfold extP
 split
 ·split
  ·rfl
  ·split <;> simp [ho]
 ·split
  ·exact slide_none (by rw [h]; rfl)
  ·split <;> simp [ho]
theorem extP_some {g : GameD} (hg : GOk g) {side : Int} {t u : TkD} {w : PathD} (hd : doAs g side t w.acts = some u) (hs : StOk g (stT u w.to)) (hside : u.p.side = side) {x : Int × Int}
  (hx : StepOk g.next.length g.kinds.length g.rights x) : (extP g.board side w x).filterMap (stW g side t) = stepS g (stT u w.to) x := by
 have ho : ∀ to more, stW g side t (onP w to more) = (doAs g side u more).map fun t => stT t to := fun to more => by rw [stW_onP, hd]; rfl
 have one : ∀ to a, stW g side t (onP w to [a]) = if (doA g side u a).2 = true then some (stT (doA g side u a).1 to) else none := fun to a => by
  rw [ho]; simp only [doAs]; split <;> rfl
 have hsl := hs.p.s
 have hat := hs.p.at (i := w.to.toNat) (by have := hs.c0; have := hs.c1; simp only [stT] at *; omega)
 have hm := manOf_cases hat.1 hat.2 hg.k6
 have hto := toB_lt hg.board side x.2 w.to
 have ht := hx.op
 simp only [stT] at hsl hat hm
 rw [hside] at hsl
 unfold stepS extP
 simp only [show (stT u w.to).p = u.p from rfl, show (stT u w.to).cursor = w.to from rfl, hside]
 by_cases h1 : x.1 = 1
 ·simp only [h1, true_or, if_true]
  by_cases hn : toB g.board side x.2 w.to < 0
  ·rw [if_pos hn, show decide (0 ≤ toB g.board side x.2 w.to) = false by simpa using hn]; rfl
  ·rw [if_neg hn, show decide (0 ≤ toB g.board side x.2 w.to) = true by simpa using hn]
   simp only [List.filterMap_cons, ho, doAs, Option.map_some, List.filterMap_nil, onlyS, if_true, stT]
 by_cases h7 : x.1 = 7
 ·simp only [h7, or_true, if_true, show ((7 : Int) = 1) = False by decide, show ((7 : Int) = 2) = False by decide, show ((7 : Int) = 3) = False by decide, show ((7 : Int) = 4) = False by decide,
   show ((7 : Int) = 5) = False by decide, show ((7 : Int) = 6) = False by decide, if_false, pushS]
  simp only [show (stT u w.to).p = u.p from rfl, show (stT u w.to).cursor = w.to from rfl, hside]
  by_cases hn : toB g.board side x.2 w.to < 0
  ·rw [if_pos hn, if_pos (.inr (.inl hn))]; rfl
  ·rw [if_neg hn]
   simp only [List.filterMap_cons, List.filterMap_nil, one, doA, show ((7 : Int) = 3) = False by decide, show ((7 : Int) = 4) = False by decide, show ((7 : Int) = 5) = False by decide,
    show ((7 : Int) = 6) = False by decide, if_false, if_true, pushA]
   by_cases hc : nth u.p.at_ w.to.toNat = 0 ∨ nth u.p.at_ (toB g.board side x.2 w.to).toNat ≠ 0
   ·have hc' : nth u.p.at_ w.to.toNat = 0 ∨ toB g.board side x.2 w.to < 0 ∨ nth u.p.at_ (toB g.board side x.2 w.to).toNat ≠ 0 := by rcases hc with h | h; exact .inl h; exact .inr (.inr h)
    simp only [if_pos hc, if_pos hc', Bool.false_eq_true, if_false]
   ·have hc' : ¬ (nth u.p.at_ w.to.toNat = 0 ∨ toB g.board side x.2 w.to < 0 ∨ nth u.p.at_ (toB g.board side x.2 w.to).toNat ≠ 0) := by rintro (h | h | h); exact hc (.inl h); exact hn h; exact hc (.inr h)
    simp only [if_neg hc, if_neg hc', if_true, stT, hside]
 rw [if_neg (by omega)]
 by_cases h2 : x.1 = 2
 ·simp only [h2, show ((2 : Int) = 1) = False by decide, if_true, if_false, slideS]
  simp only [show (stT u w.to).p = u.p from rfl, show (stT u w.to).cursor = w.to from rfl, hside]
  exact slide_some hd rfl
 rw [if_neg h2, if_neg h1, if_neg h2]
 by_cases h8 : x.1 = 8
 ·simp [h8, one, doA, stT]
 by_cases h9 : x.1 = 9
 ·simp only [h9, one, doA, onlyS, show ((9 : Int) = 8) = False by decide, show ((9 : Int) = 10) = False by decide, show ((9 : Int) = 3) = False by decide, show ((9 : Int) = 4) = False by decide, show ((9 : Int) = 5) = False by decide,
   show ((9 : Int) = 6) = False by decide, show ((9 : Int) = 7) = False by decide, if_true, if_false, or_true, true_or, false_or, or_false, List.filterMap_cons, List.filterMap_nil]
  split <;> simp_all [stT]
 by_cases h10 : x.1 = 10
 ·simp [h10, one, doA, stT, hside]
 rw [if_neg (by omega)]
 simp only [one, List.filterMap_cons, List.filterMap_nil]
 by_cases h3 : x.1 = 3
 ·simp only [h3, if_true, doA, onlyS]
  rcases hm with ⟨h0, e⟩ | ⟨h0, e1, e2, e3, e4⟩
  ·rw [e]; simp [h0, stT]
  ·rw [if_neg (by simpa using h0), if_neg (by simp; omega)]
 by_cases h4 : x.1 = 4
 ·simp only [h4, show ((4 : Int) = 3) = False by decide, if_true, if_false, doA, onlyS]
  rcases hm with ⟨h0, e⟩ | ⟨h0, e1, e2, e3, e4⟩
  ·rw [e, if_neg (by simp; omega), if_neg (by simp)]
  ·by_cases hs' : (manOf (nth u.p.at_ w.to.toNat)).2 = 1 - side
   ·rw [if_pos (by simpa using hs'), if_pos (by simp; omega)]
   ·rw [if_neg (by simpa using hs'), if_neg (by simp; omega)]
 by_cases h5 : x.1 = 5
 ·simp only [h5, show ((5 : Int) = 3) = False by decide, show ((5 : Int) = 4) = False by decide, if_true, if_false, doA, onlyS]
  rcases hm with ⟨h0, e⟩ | ⟨h0, e1, e2, e3, e4⟩
  ·rw [e, if_neg (by simp; omega), if_neg (by simp)]
  ·by_cases hs' : (manOf (nth u.p.at_ w.to.toNat)).2 = side
   ·rw [if_pos (by simpa using hs'), if_pos (by simp; omega)]
   ·rw [if_neg (by simpa using hs'), if_neg (by simp; omega)]
 have h6 : x.1 = 6 := by omega
 simp only [h6, show ((6 : Int) = 3) = False by decide, show ((6 : Int) = 4) = False by decide, show ((6 : Int) = 5) = False by decide, if_true, if_false, doA, takeA, takeS]
 simp only [show (stT u w.to).p = u.p from rfl, show (stT u w.to).cursor = w.to from rfl, hside]
 rcases hm with ⟨h0, e⟩ | ⟨h0, e1, e2, e3, e4⟩
 ·have hne : (-1 : Int) ≠ 1 - side := by omega
  rw [e]
  simp [hne]
 ·by_cases hs' : (manOf (nth u.p.at_ w.to.toNat)).2 = 1 - side
  ·rw [if_neg (not_not_intro hs'), if_neg (show ¬ ((manOf (nth u.p.at_ w.to.toNat)).1 < 0 ∨ (manOf (nth u.p.at_ w.to.toNat)).2 = side) by omega)]
   by_cases hk : (nth g.kinds (manOf (nth u.p.at_ w.to.toNat)).1.toNat).keep = true
   ·rw [if_pos hk, if_pos hk]
    by_cases h9 : nth (u.p.hand side) (manOf (nth u.p.at_ w.to.toNat)).1.toNat + 1 ≤ 8
    ·have h9' : ¬ 8 < nth (u.p.hand side) (manOf (nth u.p.at_ w.to.toNat)).1.toNat + 1 := by omega
     simp only [h9, h9', decide_true, if_true, if_false, stT]
    ·have h9' : 8 < nth (u.p.hand side) (manOf (nth u.p.at_ w.to.toNat)).1.toNat + 1 := by omega
     simp only [h9, h9', decide_false, if_true, Bool.false_eq_true, if_false]
   ·rw [if_neg hk, if_neg hk]; simp [stT]
  ·rw [if_pos hs', if_pos (show (manOf (nth u.p.at_ w.to.toNat)).1 < 0 ∨ (manOf (nth u.p.at_ w.to.toNat)).2 = side by omega)]; simp
theorem addS_mem : ∀ {more l : List StD} {s : StD}, s ∈ addS l more ↔ s ∈ l ∨ s ∈ more
 | [], l, s => by simp [addS]
 | m :: more, l, s => by
  show s ∈ addS (if m ∈ l then l else l ++ [m]) more ↔ _
  rw [addS_mem]
  split
  ·rename_i h
   simp only [List.mem_cons]
   exact ⟨fun h => by rcases h with h | h <;> simp [h], fun h => by rcases h with h | rfl | h; exact .inl h; exact .inl ‹_›; exact .inr h⟩
  ·simp only [List.mem_append, List.mem_cons, List.mem_singleton, List.not_mem_nil, or_false]
   exact or_assoc
theorem nextS_fold (g : GameD) (x : Int × Int) : ∀ (now acc : List StD) (s : StD), s ∈ now.foldl (fun next s => addS next (stepS g s x)) acc ↔ s ∈ acc ∨ ∃ r ∈ now, s ∈ stepS g r x
 | [], acc, s => by simp
 | r :: now, acc, s => by
  rw [List.foldl_cons, nextS_fold g x now, addS_mem]
  simp only [List.mem_cons, exists_eq_or_imp]
  exact or_assoc
theorem nextS_mem (g : GameD) (x : Int × Int) (now : List StD) (s : StD) : s ∈ nextS g now x ↔ ∃ r ∈ now, s ∈ stepS g r x := by
 unfold nextS
 rw [nextS_fold]; simp
theorem prog_mem {g : GameD} (hg : GOk g) {side : Int} {t : TkD} : ∀ (prog : List (Int × Int)) (nowP : List PathD) (nowS : List StD), (∀ x ∈ prog, StepOk g.next.length g.kinds.length g.rights x) →
  (∀ s, s ∈ nowP.filterMap (stW g side t) ↔ s ∈ nowS) → (∀ s ∈ nowS, StOk g s ∧ s.p.side = side) →
  ∀ s, s ∈ (prog.foldl (stepP g.board side) nowP).filterMap (stW g side t) ↔ s ∈ prog.foldl (nextS g) nowS
 | [], nowP, nowS, _, h, _, s => h s
 | x :: prog, nowP, nowS, hp, h, hk, s => by
  rw [List.foldl_cons, List.foldl_cons]
  have hx := hp x (by simp)
  refine prog_mem hg prog _ _ (fun y hy => hp y (by simp [hy])) (fun s => ?_) (fun s hs => ?_) s
  ·rw [nextS_mem]
   unfold stepP
   rw [List.filterMap_flatMap, List.mem_flatMap]
   constructor
   ·rintro ⟨w, hw, hs⟩
    cases hd : doAs g side t w.acts with
    | none => rw [extP_none hd] at hs; simp at hs
    | some u =>
     have hu : stT u w.to ∈ nowS := (h _).1 (List.mem_filterMap.2 ⟨w, hw, by simp [stW, hd]⟩)
     rw [extP_some hg hd (hk _ hu).1 (hk _ hu).2 hx] at hs
     exact ⟨_, hu, hs⟩
   ·rintro ⟨r, hr, hs⟩
    obtain ⟨w, hw, e⟩ := List.mem_filterMap.1 ((h r).2 hr)
    unfold stW at e
    cases hd : doAs g side t w.acts with
    | none => rw [hd] at e; simp at e
    | some u =>
     rw [hd] at e
     simp only [Option.map_some, Option.some.injEq] at e
     subst e
     exact ⟨w, hw, by rw [extP_some hg hd (hk _ hr).1 (hk _ hr).2 hx]; exact hs⟩
  ·obtain ⟨r, hr, hs⟩ := (nextS_mem g x nowS s).1 hs
   obtain ⟨k1, k2⟩ := stepS_ok hg (hk r hr).1 hx s hs
   exact ⟨k1, k2.trans (hk r hr).2⟩
def progsO (g : GameD) (p : PosD) (cell : Int) : List OutD :=
 if (manOf (nth p.at_ cell.toNat)).1 < 0 then [] else
 sortU cmpO ((List.range (nth g.kinds (manOf (nth p.at_ cell.toNat)).1.toNat).progs.length).flatMap fun (i : Nat) => runsP g (withSide p (manOf (nth p.at_ cell.toNat)).2) cell i)
theorem run_progs {g : GameD} (hg : GOk g) {p : PosD} (hp : POk g p) {cell : Int} (h0 : 0 ≤ cell) (h1 : cell < g.cells) : runO g p cell = progsO g p cell := by
 have hat := hp.at (i := cell.toNat) (by omega)
 unfold runO progsO
 rcases manOf_cases hat.1 hat.2 hg.k6 with ⟨hz, e⟩ | ⟨hz, e1, e2, e3, e4⟩
 ·rw [if_pos hz, e, if_pos (by decide)]
 rw [if_neg hz, if_neg (by omega)]
 generalize hs : (manOf (nth p.at_ cell.toNat)).2 = side at e3 e4
 refine sortU_congr cmp_out fun o => ?_
 have hq : POk g (withSide p side) := hp.side e3
 have hst : startT p cell = startT p cell := rfl
 have hout : ∀ w, outW g side (startT p cell) w = outW g side ((startT p cell).sd side) w := fun w => (outW_sd g side _ side w).symm
 obtain ⟨progs, hpg⟩ : ∃ l, l = (nth g.kinds (manOf (nth p.at_ cell.toNat)).1.toNat).progs := ⟨_, rfl⟩
 have hkm : nth g.kinds (manOf (nth p.at_ cell.toNat)).1.toNat ∈ g.kinds := nth_mem (by omega)
 have key : ∀ prog ∈ progs, ∀ o, o ∈ (pathsP g.board side prog cell).filterMap (outW g side (startT p cell)) ↔ o ∈ (lastS g (withSide p side) cell prog).filterMap (putS side) := by
  intro prog hm o
  have hok := hg.pr _ hkm prog (hpg ▸ hm)
  have hs0 := startS_ok hg hq h0 h1 (show 0 ≤ (manOf (nth (withSide p side).at_ cell.toNat)).1 from e1)
  have hmem := prog_mem hg (side := side) (t := (startT p cell).sd side) prog [⟨[], cell⟩] [startS (withSide p side) cell] hok.st (fun s => by simp [stW, doAs, startT, stT, startS, TkD.sd, withSide, clr])
   (fun s hs => by rw [List.mem_singleton] at hs; subst hs; exact ⟨hs0.1, hs0.2⟩)
  rw [show outW g side (startT p cell) = outW g side ((startT p cell).sd side) from funext hout]
  simp only [List.mem_filterMap, outW, Option.bind_eq_some_iff]
  constructor
  ·rintro ⟨w, hw, s, h3, h4⟩
   exact ⟨s, (hmem s).1 (List.mem_filterMap.2 ⟨w, hw, h3⟩), h4⟩
  ·rintro ⟨s, h3, h4⟩
   obtain ⟨w, hw, h5⟩ := List.mem_filterMap.1 ((hmem s).2 h3)
   exact ⟨w, hw, s, h5, h4⟩
 have e5 : outsL g p cell = progs.flatMap fun prog => (pathsP g.board side prog cell).filterMap (outW g side (startT p cell)) := by
  unfold outsL pathsAt kindP
  rw [hs, ← hpg, List.filterMap_flatMap]
 have hr : ∀ i, i < progs.length → runsP g (withSide p side) cell (i : Int) = sortU cmpO ((lastS g (withSide p side) cell (nth progs i)).filterMap (putS side)) := fun i _ => by
  unfold runsP progOf
  rw [show nth (withSide p side).at_ cell.toNat = nth p.at_ cell.toNat from rfl, ← hpg]
  rfl
 rw [e5, List.mem_flatMap, List.mem_flatMap]
 rw [← hpg]
 constructor
 ·rintro ⟨prog, hm, h⟩
  obtain ⟨i, hi, rfl⟩ := List.mem_iff_getElem.1 hm
  refine ⟨i, List.mem_range.2 hi, ?_⟩
  rw [hr i hi, sortU_mem, nth_eq _ _ hi]
  exact (key _ hm o).1 h
 ·rintro ⟨i, hi, h⟩
  have hi' := List.mem_range.1 hi
  rw [hr i hi', sortU_mem, nth_eq _ _ hi'] at h
  exact ⟨_, List.getElem_mem hi', (key _ (List.getElem_mem hi') o).2 h⟩
end Go.Av
end
