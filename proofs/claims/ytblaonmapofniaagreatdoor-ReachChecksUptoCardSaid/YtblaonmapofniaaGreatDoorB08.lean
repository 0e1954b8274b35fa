/- Texts of ours, part 8: our library and contracts of functions. -/
import Derived.Test.YtblaonmapofniaaGreatDoorB07
set_option linter.unusedSimpArgs false
set_option linter.unusedVariables false
set_option maxRecDepth 100000
set_option maxHeartbeats 40000000
section
/- Contracts, runs: Drops of the reference. -/
open Go Go.Proofs
namespace Go.Av
def dropsK (g : GameD) (p : PosD) (k : Nat) : List PosD := (List.range k).flatMap fun k => (List.range p.at_.length).filterMap fun c => dropP g p k c
def dropsC (g : GameD) (p : PosD) (k c : Nat) : List PosD := dropsK g p k ++ (List.range c).filterMap fun c => dropP g p k c
theorem dropsC_all (g : GameD) (p : PosD) (k : Nat) : dropsC g p k p.at_.length = dropsK g p (k + 1) := by simp [dropsC, dropsK, List.range_succ, List.flatMap_append]
theorem dropsC_zero (g : GameD) (p : PosD) (k : Nat) : dropsC g p k 0 = dropsK g p k := by simp [dropsC]
theorem dropsC_succ (g : GameD) (p : PosD) (k c : Nat) : dropsC g p k (c + 1) = dropsC g p k c ++ (dropP g p k c).toList := by
 simp only [dropsC, List.range_succ, List.filterMap_append, List.append_assoc]
 cases h : dropP g p k c <;> simp [h]
theorem dropsK_all (g : GameD) (p : PosD) : dropsK g p g.kinds.length = dropsL g p := rfl
theorem flatMap_range_len {α : Type} (f : Nat → List α) (m : Nat) (hf : ∀ k, (f k).length ≤ m) : ∀ n, ((List.range n).flatMap f).length ≤ n * m
 | 0 => by simp
 | n + 1 => by
  have := flatMap_range_len f m hf n
  have := hf n
  simp only [List.range_succ, List.flatMap_append, List.length_append, List.flatMap_cons, List.flatMap_nil, List.append_nil, Nat.add_mul, Nat.one_mul]
  omega
theorem dropsK_len (g : GameD) (p : PosD) (k : Nat) : (dropsK g p k).length ≤ k * p.at_.length :=
 flatMap_range_len _ _ (fun k => Nat.le_trans (List.length_filterMap_le _ _) (by simp)) k
theorem dropsC_len (g : GameD) (p : PosD) (k c : Nat) : (dropsC g p k c).length ≤ k * p.at_.length + c := by
 have h1 := dropsK_len g p k
 have h2 : ((List.range c).filterMap fun c => dropP g p k c).length ≤ c := Nat.le_trans (List.length_filterMap_le _ _) (by simp)
 simp only [dropsC, List.length_append]
 omega
theorem dropP_ok {g : GameD} (hg : GOk g) {p : PosD} (hp : POk g p) {k c : Nat} (hk : k < g.kinds.length) {q : PosD} (h : dropP g p k c = some q) : POk g q ∧ q.side = 1 - p.side := by
 unfold dropP at h
 split at h
 ·cases h
 ·rename_i hc
  simp only [Option.some.injEq] at h
  subst h
  have k6 := hg.k6
  have hcode : codeOf k p.side = 1 + 2 * k + p.side := codeOf_ok (K := g.kinds.length) ⟨by omega, by omega⟩ k6 hp.s
  have hs := hp.s
  have hh := hp.hand p.side
  have hl := hh.len
  have hv := hh.v k (by omega)
  refine ⟨POk.side (POk.withHand (hp.setAt c (by rw [hcode]; omega)) _ (hh.set k ?_ ?_)) (by omega), rfl⟩
  ·simp only [not_or] at hc; omega
  ·intro _; exact hv.2.2 (by simp only [not_or] at hc; omega)
theorem R5Drops_pure (g : GameD) (hg : GOk g) (p : PosD) (hp : POk g p) : Pure Tryz.prog 95 [.agg (encGame g), .agg (encPos p)] (encPs (dropsP g p)) := by
 refine pF Tryz.func95 ?_
 have hal := hp.al
 have c9 := hg.c9
 have k6 := hg.k6
 have hcp := copied_owns p (hp.fits hg)
 obtain ⟨gk, hgk⟩ : ∃ gk, gk = g.kinds.length := ⟨_, rfl⟩
 have hl0 := hp.h0.len
 have hl1 := hp.h1.len
 (repeat (first|with_reducible refine wV fun _=>?_|simp [go_sem]))
 refine ALoop.start (ALoop.ind (α := Nat) (fun k => ⟨[(2, .ref 0 0 9 0 0), (3, .ref 1 0 5 0 0), (5, .sl 2 (dropsK g p k).length 5 0 (dropsK g p k).length), (6, .v (.int .i64 k))], [(0, .rows true 0 9 [encGame g]), (1, .rows true 0 5 [encPos p]), (2, .rows true (dropsK g p k).length 5 ((dropsK g p k).map encPos))], 3⟩)
  (fun d k => k + d = g.kinds.length) ?_ g.kinds.length 0 ?_) ?_ ?_
 ·rintro d k k1 hrec
  (repeat (first|with_reducible refine wV fun _=>?_|simp [go_sem]))
  refine aIf.mkL (fun hk => ?_) (fun hk => ?_) <;> simp at hk
  ·have hz := dropsC_zero g p k
   have ha := dropsC_all g p k
   (repeat (first|with_reducible refine wV fun _=>?_|simp [go_sem]))
   refine ALoop.start (ALoop.ind (α := Nat) (fun c => ⟨[(2, .ref 0 0 9 0 0), (3, .ref 1 0 5 0 0), (5, .sl 2 (dropsC g p k c).length 5 0 (dropsC g p k c).length), (6, .v (.int .i64 k)), (7, .v (.int .i64 c))], [(0, .rows true 0 9 [encGame g]), (1, .rows true 0 5 [encPos p]), (2, .rows true (dropsC g p k c).length 5 ((dropsC g p k c).map encPos))], 3⟩)
    (fun d c => c + d = p.at_.length) ?_ p.at_.length 0 ?_) ?_ ?_
   ·rintro d2 c c1 hrec2
    (repeat (first|with_reducible refine wV fun _=>?_|simp [go_sem]))
    refine aIf.mkL (fun hci => ?_) (fun hci => ?_) <;> simp at hci
    ·have hD : dropP g p k c = if nth (p.hand p.side) k = 0 ∨ nth p.at_ c ≠ 0 then none
      else some { ({ p with at_ := p.at_.set c (codeOf k p.side) }.withHand p.side ((p.hand p.side).set k (nth (p.hand p.side) k - 1))) with side := 1 - p.side } := rfl
     rcases hp.s with hsd | hsd
     ·have hsn : p.side.toNat = 0 := by omega
      have hkh : k < p.h0.length := by omega
      have hhv := hp.h0.v k hkh
      have hD' : dropP g p k c = if nth p.h0 k = 0 ∨ nth p.at_ c ≠ 0 then none else some { p with at_ := p.at_.set c (codeOf k p.side), h0 := p.h0.set k (nth p.h0 k - 1), side := 1 - p.side } := by
       rw [hD]; simp [PosD.hand, PosD.withHand, hsd]
      (repeat (first|with_reducible refine wV fun _=>?_|simp [go_sem, hsn, hkh, hci]))
      refine aIf.mkL (fun hcc => ?_) (fun hcc => ?_) <;> simp at hcc
      ·rw [if_pos (by omega)] at hD'
       have hsu := dropsC_succ g p k c
       rw [hD'] at hsu
       simp only [Option.toList_none, List.append_nil] at hsu
       (repeat (first|with_reducible refine wV fun _=>?_|simp [go_sem]))
       refine ALoop.start (hrec2 (d2 - 1) (by omega) (c + 1) (by omega)) ?_ (by simp)
       simp [go_sem, Wk_eq, hsu]
      ·rw [if_neg (by omega)] at hD'
       have hsu := dropsC_succ g p k c
       rw [hD'] at hsu
       simp only [Option.toList_some] at hsu
       have hcl := dropsC_len g p k c
       have hkm : k * p.at_.length ≤ 6 * 9 := Nat.mul_le_mul (by omega) (by omega)
       (repeat (first|with_reducible refine wV fun _=>?_|simp [go_sem, hci]))
       refine ACallP.ownsPlain hcp (by simp [go_sem]) ?_
       (repeat (first|with_reducible refine wV fun _=>?_|simp [go_sem, hci]))
       refine dCall.plain (R3Code_pure (k : Int) p.side) (by simp [go_sem]) ?_
       (repeat (first|with_reducible refine wV fun _=>?_|simp [go_sem, hsn, hci, hkh]))
       refine ALoop.start (hrec2 (d2 - 1) (by omega) (c + 1) (by omega)) ?_ (by simp)
       simp [go_sem, Wk_eq, hsu]
       (first|done|exact rwX)
     ·have hsn : p.side.toNat = 1 := by omega
      have hkh : k < p.h1.length := by omega
      have hhv := hp.h1.v k hkh
      have hD' : dropP g p k c = if nth p.h1 k = 0 ∨ nth p.at_ c ≠ 0 then none else some { p with at_ := p.at_.set c (codeOf k p.side), h1 := p.h1.set k (nth p.h1 k - 1), side := 1 - p.side } := by
       rw [hD]; simp [PosD.hand, PosD.withHand, hsd]
      (repeat (first|with_reducible refine wV fun _=>?_|simp [go_sem, hsn, hkh, hci]))
      refine aIf.mkL (fun hcc => ?_) (fun hcc => ?_) <;> simp at hcc
      ·rw [if_pos (by omega)] at hD'
       have hsu := dropsC_succ g p k c
       rw [hD'] at hsu
       simp only [Option.toList_none, List.append_nil] at hsu
       (repeat (first|with_reducible refine wV fun _=>?_|simp [go_sem]))
       refine ALoop.start (hrec2 (d2 - 1) (by omega) (c + 1) (by omega)) ?_ (by simp)
       simp [go_sem, Wk_eq, hsu]
      ·rw [if_neg (by omega)] at hD'
       have hsu := dropsC_succ g p k c
       rw [hD'] at hsu
       simp only [Option.toList_some] at hsu
       have hcl := dropsC_len g p k c
       have hkm : k * p.at_.length ≤ 6 * 9 := Nat.mul_le_mul (by omega) (by omega)
       (repeat (first|with_reducible refine wV fun _=>?_|simp [go_sem, hci]))
       refine ACallP.ownsPlain hcp (by simp [go_sem]) ?_
       (repeat (first|with_reducible refine wV fun _=>?_|simp [go_sem, hci]))
       refine dCall.plain (R3Code_pure (k : Int) p.side) (by simp [go_sem]) ?_
       (repeat (first|with_reducible refine wV fun _=>?_|simp [go_sem, hsn, hci, hkh]))
       refine ALoop.start (hrec2 (d2 - 1) (by omega) (c + 1) (by omega)) ?_ (by simp)
       simp [go_sem, Wk_eq, hsu]
       (first|done|exact rwX)
    ·have hcl : c = p.at_.length := by omega
     subst hcl
     rw [ha]
     (repeat (first|with_reducible refine wV fun _=>?_|simp [go_sem]))
     refine ALoop.start (hrec (d - 1) (by omega) (k + 1) (by omega)) ?_ (by simp)
     simp [go_sem, Wk_eq]
   ·omega
   ·simp [go_sem, Wk_eq, hz]
   ·simp
  ·have hkl : k = g.kinds.length := by omega
   subst hkl
   have hdl := dropsK_len g p g.kinds.length
   have hkm : g.kinds.length * p.at_.length ≤ 6 * 9 := Nat.mul_le_mul k6 (by omega)
   have hS := R4Sort_pure (dropsK g p g.kinds.length) (by omega) (fun q hq => by
    rw [dropsK_all] at hq
    obtain ⟨k, hk, hq⟩ := List.mem_flatMap.1 hq
    obtain ⟨c, hc, hq⟩ := List.mem_filterMap.1 hq
    exact (dropP_ok hg hp (by simpa using hk) hq).1.fits hg)
   rw [show sortU cmpP (dropsK g p g.kinds.length) = dropsP g p from rfl] at hS
   generalize dropsK g p g.kinds.length = l at *
   generalize dropsP g p = r at *
   (repeat (first|with_reducible refine wV fun _=>?_|simp [go_sem]))
   refine ACallP.pureF [2] hS ?_ (bel1 (bel_encPs _)) ?_
   ·(first|done|exact agX)
   ·(repeat (first|with_reducible refine wV fun _=>?_|simp [go_sem]))
 ·omega
 ·simp [go_sem, Wk_eq, show dropsK g p 0 = [] from rfl]
 ·simp
end Go.Av
end
section
/- Plain: outcomes and moves are valid. -/
open Go Go.Proofs
namespace Go.Av
theorem kind_lt {g : GameD} (hg : GOk g) {p : PosD} (hp : POk g p) {cell : Int} (h0 : 0 ≤ cell) (h1 : cell < g.cells) (hm : 0 ≤ (manOf (nth p.at_ cell.toNat)).1) :
  (manOf (nth p.at_ cell.toNat)).1.toNat < g.kinds.length := by
 have hat := hp.at (i := cell.toNat) (by omega)
 rcases manOf_cases hat.1 hat.2 hg.k6 with ⟨_, e⟩ | ⟨_, a, b, _⟩
 ·rw [e] at hm; simp at hm
 ·omega
theorem prog_ok {g : GameD} (hg : GOk g) {p : PosD} (hp : POk g p) {cell i : Int} (hc : ChoiceOk g p cell i) : ProgOk g.next.length g.kinds.length g.rights (progOf g p cell i) :=
 hg.pr _ (nth_mem (kind_lt hg hp hc.c0 hc.c1 hc.man)) _ (nth_mem (by have := hc.i0; have := hc.i1; omega))
theorem lastS_ok {g : GameD} (hg : GOk g) {p : PosD} (hp : POk g p) {cell i : Int} (hc : ChoiceOk g p cell i) :
  (∀ s ∈ lastS g p cell (progOf g p cell i), StOk g s ∧ s.p.side = p.side) ∧ (lastS g p cell (progOf g p cell i)).length ≤ 100000000 := by
 have hpg := prog_ok hg hp hc
 have h := stageS_ok hg hp hc.c0 hc.c1 hc.man hpg.st _ (Nat.le_refl _)
 rw [stageS_last] at h
 exact ⟨h.1, Nat.le_trans h.2 (pow10_le hpg.len)⟩
theorem putS_ok {g : GameD} (hg : GOk g) {s : StD} (hs : StOk g s) {side : Int} (hsd : side = 0 ∨ side = 1) {o : OutD} (h : putS side s = some o) : POk g o.pos ∧ o.pos.side = 1 - side := by
 unfold putS at h
 split at h
 ·simp only [Option.some.injEq] at h
  subst h
  have hc : codeOf s.kind side = 1 + 2 * s.kind + side := codeOf_ok (K := g.kinds.length) hs.k hg.k6 hsd
  have hk := hs.k
  exact ⟨POk.side (hs.p.setAt _ (by rw [hc]; omega)) (by omega), rfl⟩
 ·cases h
theorem runsP_ok {g : GameD} (hg : GOk g) {p : PosD} (hp : POk g p) {cell i : Int} (hc : ChoiceOk g p cell i) : ∀ o ∈ runsP g p cell i, POk g o.pos ∧ o.pos.side = 1 - p.side := by
 intro o ho
 unfold runsP at ho
 rw [sortU_mem] at ho
 obtain ⟨s, hs, h⟩ := List.mem_filterMap.1 ho
 exact putS_ok hg ((lastS_ok hg hp hc).1 s hs).1 hp.s h
theorem runsP_len {g : GameD} (hg : GOk g) {p : PosD} (hp : POk g p) {cell i : Int} (hc : ChoiceOk g p cell i) : (runsP g p cell i).length ≤ 100000000 := by
 unfold runsP
 have h1 := sortU_le cmpO ((lastS g p cell (progOf g p cell i)).filterMap (putS p.side))
 have h2 : ((lastS g p cell (progOf g p cell i)).filterMap (putS p.side)).length ≤ (lastS g p cell (progOf g p cell i)).length := List.length_filterMap_le _ _
 have h3 := (lastS_ok hg hp hc).2
 omega
theorem choice_of {g : GameD} {p : PosD} {c i : Nat} (hp : POk g p) (hc : c < p.at_.length) (hm : 0 ≤ (manOf (nth p.at_ c)).1 ∧ (manOf (nth p.at_ c)).2 = p.side)
  (hi : i < (nth g.kinds (manOf (nth p.at_ c)).1.toNat).progs.length) : ChoiceOk g p c i := by
 have := hp.al
 exact ⟨by omega, by omega, hm.1, hm.2, by omega, by simp only [Int.toNat_natCast]; omega⟩
theorem mem_outsP {g : GameD} {p : PosD} (hp : POk g p) {o : OutD} : o ∈ outsP g p ↔ ∃ c i : Nat, ChoiceOk g p c i ∧ o ∈ runsP g p c i := by
 have hal := hp.al
 unfold outsP
 rw [List.mem_flatMap]
 constructor
 ·rintro ⟨c, hc, ho⟩
  rw [List.mem_range] at hc
  unfold outsAt at ho
  split at ho
  ·rename_i hm
   obtain ⟨i, hi, ho⟩ := List.mem_flatMap.1 ho
   rw [List.mem_range] at hi
   exact ⟨c, i, choice_of hp hc hm hi, ho⟩
  ·simp at ho
 ·rintro ⟨c, i, hc, ho⟩
  refine ⟨c, ?_, ?_⟩
  ·have := hc.c1; rw [List.mem_range]; omega
  ·have h1 := hc.man
   have h2 := hc.side
   have h3 := hc.i1
   simp only [Int.toNat_natCast] at h1 h2 h3
   unfold outsAt
   rw [if_pos ⟨h1, h2⟩]
   exact List.mem_flatMap.2 ⟨i, by rw [List.mem_range]; omega, ho⟩
theorem outsP_ok {g : GameD} (hg : GOk g) {p : PosD} (hp : POk g p) : ∀ o ∈ outsP g p, POk g o.pos ∧ o.pos.side = 1 - p.side := by
 intro o ho
 obtain ⟨c, i, hc, ho⟩ := (mem_outsP hp).1 ho
 exact runsP_ok hg hp hc o ho
theorem flatMap_range_le {α : Type} (f : Nat → List α) (m : Nat) : ∀ n, (∀ k, k < n → (f k).length ≤ m) → ((List.range n).flatMap f).length ≤ n * m
 | 0, _ => by simp
 | n + 1, hf => by
  have := flatMap_range_le f m n (fun k hk => hf k (by omega))
  have := hf n (by omega)
  simp only [List.range_succ, List.flatMap_append, List.length_append, List.flatMap_cons, List.flatMap_nil, List.append_nil, Nat.add_mul, Nat.one_mul]
  omega
theorem outsAt_len {g : GameD} (hg : GOk g) {p : PosD} (hp : POk g p) {c : Nat} (hc : c < p.at_.length) : (outsAt g p c).length ≤ 800000000 := by
 unfold outsAt
 split
 ·rename_i hm
  have hal := hp.al
  have hk := kind_lt hg hp (cell := c) (by omega) (by omega) (by simpa using hm.1)
  simp only [Int.toNat_natCast] at hk
  have h8 := hg.pn _ (nth_mem hk)
  have h1 := flatMap_range_le (fun (i : Nat) => runsP g p c i) 100000000 (nth g.kinds (manOf (nth p.at_ c)).1.toNat).progs.length (fun i hi => runsP_len hg hp (choice_of hp hc hm hi))
  have h2 : (nth g.kinds (manOf (nth p.at_ c)).1.toNat).progs.length * 100000000 ≤ 8 * 100000000 := Nat.mul_le_mul_right _ h8
  omega
 ·simp
theorem outsK_len {g : GameD} (hg : GOk g) {p : PosD} (hp : POk g p) {k : Nat} (hk : k ≤ p.at_.length) : ((List.range k).flatMap (outsAt g p)).length ≤ 7200000000 := by
 have hal := hp.al
 have c9 := hg.c9
 have h1 := flatMap_range_le (outsAt g p) 800000000 k (fun c hc => outsAt_len hg hp (by omega))
 have h2 : k * 800000000 ≤ 9 * 800000000 := Nat.mul_le_mul_right _ (by omega)
 omega
theorem outsP_len {g : GameD} (hg : GOk g) {p : PosD} (hp : POk g p) : (outsP g p).length ≤ 7200000000 := outsK_len hg hp (Nat.le_refl _)
theorem dropsP_ok {g : GameD} (hg : GOk g) {p : PosD} (hp : POk g p) : ∀ q ∈ dropsP g p, POk g q ∧ q.side = 1 - p.side := by
 intro q hq
 unfold dropsP at hq
 rw [sortU_mem] at hq
 obtain ⟨k, hk, hq⟩ := List.mem_flatMap.1 hq
 obtain ⟨c, hc, hq⟩ := List.mem_filterMap.1 hq
 exact dropP_ok hg hp (by simpa using hk) hq
theorem dropsP_len {g : GameD} (hg : GOk g) {p : PosD} (hp : POk g p) : (dropsP g p).length ≤ 54 := by
 have h1 := sortU_le cmpP (dropsL g p)
 have h2 := dropsK_len g p g.kinds.length
 rw [dropsK_all] at h2
 have hal := hp.al
 have c9 := hg.c9
 have h3 : g.kinds.length * p.at_.length ≤ 6 * 9 := Nat.mul_le_mul hg.k6 (by omega)
 unfold dropsP
 omega
theorem movesL_ok {g : GameD} (hg : GOk g) {p : PosD} (hp : POk g p) : ∀ q ∈ movesL g p, POk g q ∧ q.side = 1 - p.side := by
 intro q hq
 unfold movesL at hq
 rcases List.mem_append.1 hq with hq | hq
 ·obtain ⟨o, ho, rfl⟩ := List.mem_map.1 hq
  exact outsP_ok hg hp o (List.mem_filter.1 ho).1
 ·split at hq
  ·simp at hq
  ·exact dropsP_ok hg hp q hq
theorem movesL_len {g : GameD} (hg : GOk g) {p : PosD} (hp : POk g p) : (movesL g p).length ≤ 7200000054 := by
 have h1 := outsP_len hg hp
 have h2 := dropsP_len hg hp
 have h3 : ((outsP g p).filter fun o => !mustP g p || o.took).length ≤ (outsP g p).length := List.length_filter_le _ _
 unfold movesL
 rw [List.length_append, List.length_map]
 split <;> simp <;> omega
theorem movesP_ok {g : GameD} (hg : GOk g) {p : PosD} (hp : POk g p) : ∀ q ∈ movesP g p, POk g q ∧ q.side = 1 - p.side := by
 intro q hq
 unfold movesP at hq
 split at hq
 ·simp at hq
 ·exact movesL_ok hg hp q (sortU_mem.1 hq)
theorem movesP_len {g : GameD} (hg : GOk g) {p : PosD} (hp : POk g p) : (movesP g p).length ≤ 7200000054 := by
 unfold movesP
 split
 ·simp
 ·exact Nat.le_trans (sortU_le _ _) (movesL_len hg hp)
theorem walkP_ok {g : GameD} (hg : GOk g) : ∀ (l : List Int) {p : PosD}, POk g p → ∀ q ∈ walkP g p l, POk g q
 | [], p, hp, q, hq => by simp [walkP] at hq; subst hq; exact hp
 | k :: l, p, hp, q, hq => by
  rw [walkP] at hq
  split at hq
  ·simp at hq; subst hq; exact hp
  ·rename_i hne
   rcases List.mem_cons.1 hq with rfl | hq
   ·exact hp
   ·refine walkP_ok hg l ((movesP_ok hg hp) _ (nth_mem ?_)).1 q hq
    have hpos : 0 < (movesP g p).length := List.length_pos_iff.2 hne
    have h1 : 0 ≤ k.emod (movesP g p).length := Int.emod_nonneg k (show ((movesP g p).length : Int) ≠ 0 by omega)
    have h2 : k.emod (movesP g p).length < (movesP g p).length := Int.emod_lt_of_pos k (show (0 : Int) < (movesP g p).length by omega)
    omega
theorem walkP_ne (g : GameD) (p : PosD) (l : List Int) : walkP g p l ≠ [] := by
 cases l with
 | nil => simp [walkP]
 | cons k l => rw [walkP]; split <;> simp
theorem walkP_len (g : GameD) : ∀ (l : List Int) (p : PosD), (walkP g p l).length ≤ l.length + 1
 | [], p => by simp [walkP]
 | k :: l, p => by
  rw [walkP]
  split
  ·simp
  ·have := walkP_len g l (nth (movesP g p) (k.emod (movesP g p).length).toNat)
   simp; omega
end Go.Av
end
section
/- Contracts: slices.Clone of positions, pos.Sort, run.Runs. -/
open Go Go.Proofs
namespace Go.Av
theorem CloneP_owns (l : List PosD) (hl : l.length ≤ 17179869184) : Owns Tryz.prog 150 [encPs l] (fun n => .sl n 1 5 0 l.length) (fun n => [(n, .rows true 1 5 (l.map encPos))]) 1 := by
 refine ⟨?_, fun n => ⟨by simp [go_sem], by simp [go_sem]⟩⟩
 refine ACallP.emp (fun hne => ?_) (fun he A c => ?_)
 ·obtain ⟨x, l, rfl⟩ := List.exists_cons_of_ne_nil (show l ≠ [] by intro h; subst h; exact hne rfl)
  simp only [List.length_cons] at hl
  refine ACallP.of_awp (by kernel_rfl) Tryz.func150 rfl rfl (Nat.le_of_ble_eq_true rfl) (by kernel_rfl) ?_
  (repeat (first|with_reducible refine wV fun _=>?_|simp [go_sem]))
  simp [go_sem, Wk_eq]
 ·obtain rfl : l = [] := by simpa using he
  refine ACallP.of_awp (by kernel_rfl) Tryz.func150 rfl rfl (Nat.le_of_ble_eq_true rfl) (by kernel_rfl) ?_
  (repeat (first|with_reducible refine wV fun _=>?_|simp [go_sem]))
  refine aIf.mkL (fun h => ?_) (fun h => ?_)
  ·simp at h
   subst h
   simp [go_sem, Wk_eq]
  ·simp [go_sem, Wk_eq]
theorem pSort_pure (l : List PosD) (hl : l.length ≤ 17179869184) (hf : ∀ p ∈ l, FitsP p) : Pure Tryz.prog 74 [encPs l] (encPs (sortU cmpP l)) := by
 refine pF Tryz.func74 ?_
 have hC := CloneP_owns l hl
 (repeat (first|with_reducible refine wV fun _=>?_|simp [go_sem]))
 refine ACallP.ownsPlain hC (by simp [go_sem]) ?_
 (repeat (first|with_reducible refine wV fun _=>?_|simp [go_sem]))
 refine sortP_call l hf (by omega) (o := 0) (gn := 1) (by simp [upd]) ?_
 (repeat (first|with_reducible refine wV fun _=>?_|simp [go_sem]))
 refine compactP_call2 (sortC cmpP l) 1 l.length (sortC_len l) (by omega) (fun p hp => hf p (sortC_mem.1 hp)) (o := 0) (by simp [upd]) (by omega) ?_
 (repeat (first|with_reducible refine wV fun _=>?_|simp [go_sem]))
 exact leV_frz rfl (by simp) (by simp [noH, upd]) (by rw [List.drop_zero]; exact List.take_left' (by simp))
theorem rRun_call (g : GameD) (hg : GOk g) (p : PosD) (hp : POk g p) (cell i : Int) (hc : ChoiceOk g p cell i) {h : Heap} {n a b : Nat} (hd : [a, b].Nodup) (hlt : ∀ j ∈ [a, b], j < n)
  (ha : h a = some (.rows true 0 5 [encPos p])) (hb : h b = some (.rows true 0 1 [[AV.nils]])) {K : CallK}
  (hK : K (.v (.int .i64 0)) (upd (upd (upd h a (some (.rows true 0 5 [encPos p]))) b (some (.rows true 0 1 [[.sl (n + 245) (lastO g p cell i).length 6 0 (lastO g p cell i).length]]))) (n + 245) (some (.rows true (lastO g p cell i).length 6 ((lastO g p cell i).map encOut)))) (n + 246)) :
  ACallP Tryz.prog 142 [.agg (encGame g), .agg (encPos p), .v (.int .i64 cell), .v (.int .i64 i), .fn (.func 143) [] [.ref a 0 5 0 0, .ref b 0 1 0 0]] h n K := by
 have hbg : ∀ m, Bel m (.agg (encGame g)) := fun m => by simp [go_sem]
 have hbp : ∀ m, ∀ c ∈ encPos p, Bel m c := fun m => by simp [go_sem]
 have hbq : ∀ m, Bel m (.agg (encPos p)) := fun m => by simp [go_sem]
 have han := hlt a (by simp)
 have hbn := hlt b (by simp)
 have hrows : ∀ m, ∀ r ∈ [encPos p], ∀ c ∈ r, Bel m c := fun m r hr => by simp only [List.mem_singleton] at hr; subst hr; exact hbp m
 refine ACallP.ownsA (args' := [.agg (encGame g), .agg (encPos p), .v (.int .i64 cell), .v (.int .i64 i), .fn (.func 143) [] [.ref a 0 5 0 0, .ref b 0 1 0 0]])
  (HH := [(a, .rows true 0 5 [encPos p]), (b, .rows true 0 1 [[.sl (n + 245) (lastO g p cell i).length 6 0 (lastO g p cell i).length]]), (n + 245, .rows true (lastO g p cell i).length 6 ((lastO g p cell i).map encOut))])
  [a, b] h (run_owns g hg p hp cell i hc) hd hlt rfl (by omega) (.refl _) ?_ ?_ (.refl _ _ _ _) ?_ ?_ ?_ (.same (.v _)) ?_ ?_
 ·intro j hj
  rcases (show j = 0 ∨ j = 1 by omega) with rfl | rfl
  ·exact ⟨_, _, rfl, ha, .rows (.same (hrows _))⟩
  ·exact ⟨_, _, rfl, hb, .rows (.same (by simp [go_sem]))⟩
 ·intro q hq
  simp only [List.mem_cons, List.not_mem_nil, or_false] at hq
  rcases hq with rfl | rfl
  ·exact ⟨Nat.le_of_ble_eq_true rfl, hrows _⟩
  ·exact ⟨Nat.le_of_ble_eq_true rfl, by simp [go_sem, BelO]⟩
 ·simp [go_sem, han, hbn]
 ·exact .cons (.same (hbg _)) (.cons (.same (hbq _)) (.cons (.same (.v _)) (.cons (.same (.v _)) (.cons (.fn .nil (.cons (.ref rfl) (.cons (.ref rfl) .nil))) .nil))))
 ·simp [go_sem]
 ·exact .cons rfl (.rows (.same (hrows _))) (.cons rfl (.rows (.cons (.cons (.sl rfl) .nil) .nil)) (.cons rfl (.rows (.same (bel_map_out _))) .nil))
 ·have e : over [(a, .rows true 0 5 [encPos p]), (b, .rows true 0 1 [[.sl (n + 245) (lastO g p cell i).length 6 0 (lastO g p cell i).length]]), (n + 245, .rows true (lastO g p cell i).length 6 ((lastO g p cell i).map encOut))] (remH [a, b] h) =
    upd (upd (upd h a (some (.rows true 0 5 [encPos p]))) b (some (.rows true 0 1 [[.sl (n + 245) (lastO g p cell i).length 6 0 (lastO g p cell i).length]]))) (n + 245) (some (.rows true (lastO g p cell i).length 6 ((lastO g p cell i).map encOut))) := by
   simp only [List.nodup_cons, List.mem_cons, List.not_mem_nil, or_false, not_or, List.nodup_nil, and_true, not_false_eq_true] at hd
   have na : a ≠ n + 245 := by omega
   have nb : b ≠ n + 245 := by omega
   funext j
   simp only [over, remH, upd]
   by_cases j1 : j = a
   ·subst j1; simp [hd, na]
   ·by_cases j2 : j = b
    ·subst j2; simp [j1, nb]
    ·by_cases j3 : j = n + 245
     ·subst j3; simp [j1, j2]
     ·simp [j1, j2, j3]
  rw [e]
  exact hK
theorem rRuns_pure (g : GameD) (hg : GOk g) (p : PosD) (hp : POk g p) (cell i : Int) (hc : ChoiceOk g p cell i) :
  Pure Tryz.prog 66 [.agg (encGame g), .agg (encPos p), .v (.int .i64 cell), .v (.int .i64 i)] (.tup [encOs (runsP g p cell i), .v (.int .i64 0)]) := by
 refine pF Tryz.func66 ?_
 have hl := (lastS_ok hg hp hc)
 have hll : (lastO g p cell i).length ≤ 100000000 := Nat.le_trans (List.length_filterMap_le _ _) hl.2
 have hf : ∀ o ∈ lastO g p cell i, FitsP o.pos := by
  intro o ho
  obtain ⟨s, hs, h⟩ := List.mem_filterMap.1 ho
  exact (putS_ok hg (hl.1 s hs).1 hp.s h).1.fits hg
 have hr : runsP g p cell i = sortU cmpO (lastO g p cell i) := rfl
 rw [hr]
 (repeat (first|with_reducible refine wV fun _=>?_|simp [go_sem]))
 refine rRun_call g hg p hp cell i hc (a := 1) (b := 2) (by decide) (by simp) (by simp [upd, encPos, encIs]) (by simp [upd]) ?_
 generalize lastO g p cell i = l at *
 (repeat (first|with_reducible refine wV fun _=>?_|simp [go_sem]))
 refine sortR_call l hf (by omega) (o := 248) (gn := l.length) (by simp [upd]) ?_
 (repeat (first|with_reducible refine wV fun _=>?_|simp [go_sem]))
 refine compactR_call2 (sortC cmpO l) l.length l.length (sortC_len l) (by omega) (fun o ho => hf o (sortC_mem.1 ho)) (o := 248) (by simp [upd]) (by omega) ?_
 (repeat (first|with_reducible refine wV fun _=>?_|simp [go_sem]))
 exact leV_frz rfl (by simp) (by simp [noH, upd]) (by rw [List.drop_zero]; exact List.take_left' (by simp))
end Go.Av
end
section
/- Contracts: run.Drops. -/
open Go Go.Proofs
namespace Go.Av
theorem rDrops_pure (g : GameD) (hg : GOk g) (p : PosD) (hp : POk g p) : Pure Tryz.prog 75 [.agg (encGame g), .agg (encPos p)] (encPs (dropsP g p)) := by
 refine pF Tryz.func75 ?_
 have hal := hp.al
 have c9 := hg.c9
 have k6 := hg.k6
 have hcp := own_owns ⟨p, 0, 0, false⟩ (hp.fits hg)
 have hl0 := hp.h0.len
 have hl1 := hp.h1.len
 have hps := hp.s
 rcases hp.s with hsd | hsd
 ·have hsn : p.side.toNat = 0 := by omega
  (repeat (first|with_reducible refine wV fun _=>?_|simp [go_sem, hsn, hsd]))
  refine ALoop.start (ALoop.ind (α := Nat) (fun k => ⟨[(3, .ref 1 0 5 0 0), (5, .sl 2 (dropsK g p k).length 5 0 (dropsK g p k).length), (15, encIs p.h0), (16, .v (.int .i64 p.h0.length)), (17, .v (.int .i64 k))], [(1, .rows true 0 5 [encPos p]), (2, .rows true (dropsK g p k).length 5 ((dropsK g p k).map encPos))], 3⟩)
   (fun d k => k + d = g.kinds.length) ?_ g.kinds.length 0 ?_) ?_ ?_
  ·rintro d k k1 hrec
   (repeat (first|with_reducible refine wV fun _=>?_|simp [go_sem]))
   refine aIf.mkL (fun hk => ?_) (fun hk => ?_) <;> simp at hk
   ·have hz := dropsC_zero g p k
    have ha := dropsC_all g p k
    have hkh : k < p.h0.length := by omega
    have hhv := hp.h0.v k hkh
    (repeat (first|with_reducible refine wV fun _=>?_|simp [go_sem, hkh]))
    refine ALoop.start (ALoop.ind (α := Nat) (fun c => ⟨[(3, .ref 1 0 5 0 0), (5, .sl 2 (dropsC g p k c).length 5 0 (dropsC g p k c).length), (6, .v (.int .i64 k)), (7, .v (.int .i64 (nth p.h0 k))), (15, encIs p.h0), (16, .v (.int .i64 p.h0.length)), (17, .v (.int .i64 k)), (23, encIs p.at_), (24, .v (.int .i64 p.at_.length)), (25, .v (.int .i64 c))], [(1, .rows true 0 5 [encPos p]), (2, .rows true (dropsC g p k c).length 5 ((dropsC g p k c).map encPos))], 3⟩)
     (fun d c => c + d = p.at_.length) ?_ p.at_.length 0 ?_) ?_ ?_
    ·rintro d2 c c1 hrec2
     (repeat (first|with_reducible refine wV fun _=>?_|simp [go_sem]))
     refine aIf.mkL (fun hci => ?_) (fun hci => ?_) <;> simp at hci
     ·have hD : dropP g p k c = if nth (p.hand p.side) k = 0 ∨ nth p.at_ c ≠ 0 then none
       else some { ({ p with at_ := p.at_.set c (codeOf k p.side) }.withHand p.side ((p.hand p.side).set k (nth (p.hand p.side) k - 1))) with side := 1 - p.side } := rfl
      have hD' : dropP g p k c = if nth p.h0 k = 0 ∨ nth p.at_ c ≠ 0 then none else some { p with at_ := p.at_.set c (codeOf k p.side), h0 := p.h0.set k (nth p.h0 k - 1), side := 1 - p.side } := by
       rw [hD]; simp [PosD.hand, PosD.withHand, hsd]
      have hCd := gCode_pure (k : Int) p.side
      rw [hsd] at hCd hD'
      (repeat (first|with_reducible refine wV fun _=>?_|simp [go_sem, hci]))
      refine aIf.mkL (fun hcc => ?_) (fun hcc => ?_) <;> simp at hcc
      ·rw [if_pos (by omega)] at hD'
       have hsu := dropsC_succ g p k c
       rw [hD'] at hsu
       simp only [Option.toList_none, List.append_nil] at hsu
       (repeat (first|with_reducible refine wV fun _=>?_|simp [go_sem]))
       refine ALoop.start (hrec2 (d2 - 1) (by omega) (c + 1) (by omega)) ?_ (by simp)
       simp [go_sem, Wk_eq, hsd, hsu]
      ·rw [if_neg (by omega)] at hD'
       have hsu := dropsC_succ g p k c
       rw [hD'] at hsu
       simp only [Option.toList_some] at hsu
       have hcl := dropsC_len g p k c
       have hkm : k * p.at_.length ≤ 6 * 9 := Nat.mul_le_mul (by omega) (by omega)
       (repeat (first|with_reducible refine wV fun _=>?_|simp [go_sem, hci]))
       refine ACallP.ownsPlain hcp (by simp [go_sem]) ?_
       (repeat (first|with_reducible refine wV fun _=>?_|simp [go_sem, hci, hsd]))
       refine dCall.plain hCd (by simp [go_sem]) ?_
       (repeat (first|with_reducible refine wV fun _=>?_|simp [go_sem, hsn, hsd, hci, hkh]))
       refine ALoop.start (hrec2 (d2 - 1) (by omega) (c + 1) (by omega)) ?_ (by simp)
       simp [go_sem, Wk_eq, hsd, hsu]
       (first|done|exact rwX)
     ·have hcl : c = p.at_.length := by omega
      subst hcl
      rw [ha]
      (repeat (first|with_reducible refine wV fun _=>?_|simp [go_sem]))
      refine ALoop.start (hrec (d - 1) (by omega) (k + 1) (by omega)) ?_ (by simp)
      simp [go_sem, Wk_eq, hsd]
    ·omega
    ·simp [go_sem, Wk_eq, hsd, hz]
    ·simp
   ·have hkl : k = g.kinds.length := by omega
    subst hkl
    have hdl := dropsK_len g p g.kinds.length
    have hkm : g.kinds.length * p.at_.length ≤ 6 * 9 := Nat.mul_le_mul k6 (by omega)
    have hS := pSort_pure (dropsK g p g.kinds.length) (by omega) (fun q hq => by
     rw [dropsK_all] at hq
     obtain ⟨k, hk, hq⟩ := List.mem_flatMap.1 hq
     obtain ⟨c, hc, hq⟩ := List.mem_filterMap.1 hq
     exact (dropP_ok hg hp (by simpa using hk) hq).1.fits hg)
    rw [show sortU cmpP (dropsK g p g.kinds.length) = dropsP g p from rfl] at hS
    generalize dropsK g p g.kinds.length = l at *
    generalize dropsP g p = r at *
    (repeat (first|with_reducible refine wV fun _=>?_|simp [go_sem]))
    refine ACallP.pureF [2] hS ?_ (bel1 (bel_encPs _)) ?_
    ·(first|done|exact agX)
    ·(repeat (first|with_reducible refine wV fun _=>?_|simp [go_sem]))
  ·omega
  ·simp [go_sem, Wk_eq, hsd, show dropsK g p 0 = [] from rfl]
  ·simp
 ·have hsn : p.side.toNat = 1 := by omega
  (repeat (first|with_reducible refine wV fun _=>?_|simp [go_sem, hsn, hsd]))
  refine ALoop.start (ALoop.ind (α := Nat) (fun k => ⟨[(3, .ref 1 0 5 0 0), (5, .sl 2 (dropsK g p k).length 5 0 (dropsK g p k).length), (15, encIs p.h1), (16, .v (.int .i64 p.h1.length)), (17, .v (.int .i64 k))], [(1, .rows true 0 5 [encPos p]), (2, .rows true (dropsK g p k).length 5 ((dropsK g p k).map encPos))], 3⟩)
   (fun d k => k + d = g.kinds.length) ?_ g.kinds.length 0 ?_) ?_ ?_
  ·rintro d k k1 hrec
   (repeat (first|with_reducible refine wV fun _=>?_|simp [go_sem]))
   refine aIf.mkL (fun hk => ?_) (fun hk => ?_) <;> simp at hk
   ·have hz := dropsC_zero g p k
    have ha := dropsC_all g p k
    have hkh : k < p.h1.length := by omega
    have hhv := hp.h1.v k hkh
    (repeat (first|with_reducible refine wV fun _=>?_|simp [go_sem, hkh]))
    refine ALoop.start (ALoop.ind (α := Nat) (fun c => ⟨[(3, .ref 1 0 5 0 0), (5, .sl 2 (dropsC g p k c).length 5 0 (dropsC g p k c).length), (6, .v (.int .i64 k)), (7, .v (.int .i64 (nth p.h1 k))), (15, encIs p.h1), (16, .v (.int .i64 p.h1.length)), (17, .v (.int .i64 k)), (23, encIs p.at_), (24, .v (.int .i64 p.at_.length)), (25, .v (.int .i64 c))], [(1, .rows true 0 5 [encPos p]), (2, .rows true (dropsC g p k c).length 5 ((dropsC g p k c).map encPos))], 3⟩)
     (fun d c => c + d = p.at_.length) ?_ p.at_.length 0 ?_) ?_ ?_
    ·rintro d2 c c1 hrec2
     (repeat (first|with_reducible refine wV fun _=>?_|simp [go_sem]))
     refine aIf.mkL (fun hci => ?_) (fun hci => ?_) <;> simp at hci
     ·have hD : dropP g p k c = if nth (p.hand p.side) k = 0 ∨ nth p.at_ c ≠ 0 then none
       else some { ({ p with at_ := p.at_.set c (codeOf k p.side) }.withHand p.side ((p.hand p.side).set k (nth (p.hand p.side) k - 1))) with side := 1 - p.side } := rfl
      have hD' : dropP g p k c = if nth p.h1 k = 0 ∨ nth p.at_ c ≠ 0 then none else some { p with at_ := p.at_.set c (codeOf k p.side), h1 := p.h1.set k (nth p.h1 k - 1), side := 1 - p.side } := by
       rw [hD]; simp [PosD.hand, PosD.withHand, hsd]
      have hCd := gCode_pure (k : Int) p.side
      rw [hsd] at hCd hD'
      (repeat (first|with_reducible refine wV fun _=>?_|simp [go_sem, hci]))
      refine aIf.mkL (fun hcc => ?_) (fun hcc => ?_) <;> simp at hcc
      ·rw [if_pos (by omega)] at hD'
       have hsu := dropsC_succ g p k c
       rw [hD'] at hsu
       simp only [Option.toList_none, List.append_nil] at hsu
       (repeat (first|with_reducible refine wV fun _=>?_|simp [go_sem]))
       refine ALoop.start (hrec2 (d2 - 1) (by omega) (c + 1) (by omega)) ?_ (by simp)
       simp [go_sem, Wk_eq, hsd, hsu]
      ·rw [if_neg (by omega)] at hD'
       have hsu := dropsC_succ g p k c
       rw [hD'] at hsu
       simp only [Option.toList_some] at hsu
       have hcl := dropsC_len g p k c
       have hkm : k * p.at_.length ≤ 6 * 9 := Nat.mul_le_mul (by omega) (by omega)
       (repeat (first|with_reducible refine wV fun _=>?_|simp [go_sem, hci]))
       refine ACallP.ownsPlain hcp (by simp [go_sem]) ?_
       (repeat (first|with_reducible refine wV fun _=>?_|simp [go_sem, hci, hsd]))
       refine dCall.plain hCd (by simp [go_sem]) ?_
       (repeat (first|with_reducible refine wV fun _=>?_|simp [go_sem, hsn, hsd, hci, hkh]))
       refine ALoop.start (hrec2 (d2 - 1) (by omega) (c + 1) (by omega)) ?_ (by simp)
       simp [go_sem, Wk_eq, hsd, hsu]
       (first|done|exact rwX)
     ·have hcl : c = p.at_.length := by omega
      subst hcl
      rw [ha]
      (repeat (first|with_reducible refine wV fun _=>?_|simp [go_sem]))
      refine ALoop.start (hrec (d - 1) (by omega) (k + 1) (by omega)) ?_ (by simp)
      simp [go_sem, Wk_eq, hsd]
    ·omega
    ·simp [go_sem, Wk_eq, hsd, hz]
    ·simp
   ·have hkl : k = g.kinds.length := by omega
    subst hkl
    have hdl := dropsK_len g p g.kinds.length
    have hkm : g.kinds.length * p.at_.length ≤ 6 * 9 := Nat.mul_le_mul k6 (by omega)
    have hS := pSort_pure (dropsK g p g.kinds.length) (by omega) (fun q hq => by
     rw [dropsK_all] at hq
     obtain ⟨k, hk, hq⟩ := List.mem_flatMap.1 hq
     obtain ⟨c, hc, hq⟩ := List.mem_filterMap.1 hq
     exact (dropP_ok hg hp (by simpa using hk) hq).1.fits hg)
    rw [show sortU cmpP (dropsK g p g.kinds.length) = dropsP g p from rfl] at hS
    generalize dropsK g p g.kinds.length = l at *
    generalize dropsP g p = r at *
    (repeat (first|with_reducible refine wV fun _=>?_|simp [go_sem]))
    refine ACallP.pureF [2] hS ?_ (bel1 (bel_encPs _)) ?_
    ·(first|done|exact agX)
    ·(repeat (first|with_reducible refine wV fun _=>?_|simp [go_sem]))
  ·omega
  ·simp [go_sem, Wk_eq, hsd, show dropsK g p 0 = [] from rfl]
  ·simp
end Go.Av
end
section
/- Contracts, moves: men, Condition, Ended of the reference. -/
open Go Go.Proofs
namespace Go.Av
theorem countP_take (f : Int → Bool) (l : List Int) {i : Nat} (h : i < l.length) : (l.take (i + 1)).countP f = (l.take i).countP f + (if f (nth l i) then 1 else 0) := by
 rw [List.take_add_one, List.getElem?_eq_getElem h, nth_eq _ _ h, Option.toList_some, List.countP_append]
 simp [List.countP_cons]
theorem R6men_pure (p : PosD) (hp : FitsP p) (side kind : Int) : Pure Tryz.prog 209 [.agg (encPos p), .v (.int .i64 side), .v (.int .i64 kind)] (.v (.int .i64 (menP p side kind))) := by
 refine pF Tryz.func209 ?_
 obtain ⟨f1, _, _⟩ := hp
 unfold Fits at f1
 (repeat (first|with_reducible refine wV fun _=>?_|simp [go_sem]))
 refine ALoop.start (ALoop.ind (α := Nat) (fun i => ⟨[(1, .v (.int .i64 side)), (2, .v (.int .i64 kind)), (3, .ref 0 0 5 0 0), (7, .v (.int .i64 ((p.at_.take i).countP (isMan p side kind) : Nat))), (8, .v (.int .i64 i))], [(0, .rows true 0 5 [encPos p])], 1⟩)
  (fun d i => i + d = p.at_.length) ?_ p.at_.length 0 ?_) ?_ ?_
 ·rintro d i i1 hrec
  (repeat (first|with_reducible refine wV fun _=>?_|simp [go_sem]))
  refine aIf.mkL (fun hi => ?_) (fun hi => ?_) <;> simp at hi
  ·have hO := R3Of_pure (nth p.at_ i)
   have hcs := countP_take (isMan p side kind) p.at_ hi
   have hle : (p.at_.take i).countP (isMan p side kind) ≤ i := Nat.le_trans List.countP_le_length (by simp; omega)
   have hM : isMan p side kind (nth p.at_ i) = (decide (0 ≤ (manOf (nth p.at_ i)).1) && decide ((manOf (nth p.at_ i)).2 = side) && (decide (kind < 0) || decide ((manOf (nth p.at_ i)).1 = kind))) := rfl
   generalize manOf (nth p.at_ i) = m at *
   (repeat (first|with_reducible refine wV fun _=>?_|simp [go_sem, hi]))
   refine ACallP.plain hO (by simp [go_sem]) ?_
   (repeat (first|with_reducible refine wV fun _=>?_|simp [go_sem]))
   by_cases hm : isMan p side kind (nth p.at_ i) = true
   ·have hm' := hm
    rw [hM] at hm'
    rw [if_pos hm] at hcs
    simp only [hm']
    (repeat (first|with_reducible refine wV fun _=>?_|simp [go_sem]))
    refine ALoop.start (hrec (d - 1) (by omega) (i + 1) (by omega)) ?_ (by simp)
    simp [go_sem, Wk_eq, hcs]
   ·have hm' := hm
    rw [hM] at hm'
    rw [if_neg hm] at hcs
    simp only [Bool.not_eq_true] at hm'
    simp only [hm']
    (repeat (first|with_reducible refine wV fun _=>?_|simp [go_sem]))
    refine ALoop.start (hrec (d - 1) (by omega) (i + 1) (by omega)) ?_ (by simp)
    simp [go_sem, Wk_eq, hcs]
  ·have hil : i = p.at_.length := by omega
   subst hil
   have hM : menP p side kind = (p.at_.take p.at_.length).countP (isMan p side kind) := by rw [List.take_length]; rfl
   rw [hM]
   (repeat (first|with_reducible refine wV fun _=>?_|simp [go_sem]))
 ·omega
 ·simp [go_sem, Wk_eq]
 ·simp
theorem R6Condition_pure (g : GameD) (hg : GOk g) (p : PosD) (hp : POk g p) (c : Int × Int × Int × Int) (hc : ClauseOk g.cells g.kinds.length c) :
  Pure Tryz.prog 169 [.agg (encClause c), .agg (encPos p)] (.v (.bool (condP c p))) := by
 refine pF Tryz.func169 ?_
 have hps := hp.s
 have hal := hp.al
 have hM := fun s k => R6men_pure p (hp.fits hg) s k
 have hml : ∀ s k, menP p s k ≤ 9 := fun s k => Nat.le_trans List.countP_le_length (by have := hg.c9; omega)
 obtain ⟨c0, c1, c2, c3⟩ := c
 obtain ⟨k1, k2, k3, k4, k5⟩ := hc
 simp only at k1 k2 k3 k4 k5
 unfold condP
 rcases k1 with rfl | rfl | rfl
 ·have h1 := hM p.side c1
  (repeat (first|with_reducible refine wV fun _=>?_|simp [go_sem]))
  refine ACallP.plain h1 (by simp [go_sem]) ?_
  (repeat (first|with_reducible refine wV fun _=>?_|simp [go_sem]))
 ·have hci : c2.toNat < p.at_.length := by omega
  (repeat (first|with_reducible refine wV fun _=>?_|simp [go_sem, hci]))
  refine dCall.plain (R3Code_pure c1 (1 - p.side)) (by simp [go_sem]) ?_
  (repeat (first|with_reducible refine wV fun _=>?_|simp [go_sem, hci]))
 ·have h1 := hM p.side (-1)
  have := hml p.side (-1)
  (repeat (first|with_reducible refine wV fun _=>?_|simp [go_sem]))
  refine dCall.plain h1 (by simp [go_sem]) ?_
  (repeat (first|with_reducible refine wV fun _=>?_|simp [go_sem]))
theorem findIdx_some {α : Type} [Inhabited α] (f : α → Bool) (l : List α) {i : Nat} (hi : i < l.length) (hb : ∀ j, j < i → f (nth l j) = false) (h : f (nth l i) = true) : l.findIdx? f = some i := by
 rw [List.findIdx?_eq_some_iff_getElem]
 refine ⟨hi, by rw [← nth_eq _ _ hi]; exact h, fun j hj => ?_⟩
 have := hb j hj
 rw [nth_eq _ _ (by omega)] at this
 simp [this]
theorem findIdx_none {α : Type} [Inhabited α] (f : α → Bool) (l : List α) (hb : ∀ j, j < l.length → f (nth l j) = false) : l.findIdx? f = none := by
 rw [List.findIdx?_eq_none_iff]
 intro x hx
 obtain ⟨j, hj, rfl⟩ := List.getElem_of_mem hx
 have := hb j hj
 rwa [nth_eq _ _ hj] at this
theorem R6Ended_pure (g : GameD) (hg : GOk g) (p : PosD) (hp : POk g p) : Pure Tryz.prog 93 [.agg (encGame g), .agg (encPos p)] (.v (.int .i64 (endedP g p))) := by
 refine pF Tryz.func93 ?_
 have hcn := hg.cn
 (repeat (first|with_reducible refine wV fun _=>?_|simp [go_sem]))
 refine ALoop.start (ALoop.ind (α := Nat) (fun i => ⟨[(2, .ref 0 0 9 0 0), (3, .ref 1 0 5 0 0), (5, .v (.int .i64 i))], [(0, .rows true 0 9 [encGame g]), (1, .rows true 0 5 [encPos p])], 2⟩)
  (fun d i => i + d = g.clauses.length ∧ ∀ j, j < i → condP (nth g.clauses j) p = false) ?_ g.clauses.length 0 ?_) ?_ ?_
 ·rintro d i ⟨i1, i2⟩ hrec
  (repeat (first|with_reducible refine wV fun _=>?_|simp [go_sem]))
  refine aIf.mkL (fun hi => ?_) (fun hi => ?_) <;> simp at hi
  ·have hC := R6Condition_pure g hg p hp _ (hg.cl _ (nth_mem hi))
   (repeat (first|with_reducible refine wV fun _=>?_|simp [go_sem, hi]))
   refine dCall.plain hC (by simp [go_sem]) ?_
   (repeat (first|with_reducible refine wV fun _=>?_|simp [go_sem]))
   by_cases hc : condP (nth g.clauses i) p = true
   ·have he : endedP g p = i := by unfold endedP; rw [findIdx_some (fun c => condP c p) g.clauses hi i2 hc]
    (repeat (first|with_reducible refine wV fun _=>?_|simp [go_sem, hc, he]))
   ·(repeat (first|with_reducible refine wV fun _=>?_|simp [go_sem, hc]))
    refine ALoop.start (hrec (d - 1) (by omega) (i + 1) ⟨by omega, fun j hj => ?_⟩) ?_ (by simp)
    ·rcases Nat.lt_or_ge j i with h | h
     ·exact i2 j h
     ·obtain rfl : j = i := by omega
      simpa using hc
    ·simp [go_sem, Wk_eq]
  ·have he : endedP g p = -1 := by unfold endedP; rw [findIdx_none (fun c => condP c p) g.clauses (fun j hj => i2 j (by omega))]
   (repeat (first|with_reducible refine wV fun _=>?_|simp [go_sem, he]))
 ·exact ⟨by simp, fun j hj => by omega⟩
 ·simp [go_sem, Wk_eq]
 ·simp
end Go.Av
end
section
/- Contracts: pos.Count, play.conditions, play.ended. -/
open Go Go.Proofs
namespace Go.Av
def cntL (p : PosD) (side : Int) (K : Nat) (j : Nat) : List Int := (List.range K).map fun (k : Nat) => (((p.at_.take j).countP (isMan p side k) : Nat) : Int)
theorem cntL_len (p : PosD) (side : Int) (K j : Nat) : (cntL p side K j).length = K := by simp [cntL]
theorem nth_cntL (p : PosD) (side : Int) (K j : Nat) {k : Nat} (hk : k < K) : nth (cntL p side K j) k = (((p.at_.take j).countP (isMan p side k) : Nat) : Int) := by
 rw [nth_eq _ _ (by rw [cntL_len]; exact hk)]; simp [cntL]
theorem cntL_succ {p : PosD} {side : Int} {K j : Nat} (hj : j < p.at_.length) : cntL p side K (j + 1) = (List.range K).map fun (k : Nat) => (((p.at_.take j).countP (isMan p side k) + (if isMan p side k (nth p.at_ j) then 1 else 0) : Nat) : Int) := by
 unfold cntL
 refine List.map_congr_left fun k _ => ?_
 rw [countP_take _ _ hj]
theorem cntL_no {p : PosD} {side : Int} {K j : Nat} (hj : j < p.at_.length) (h : ∀ k : Nat, isMan p side k (nth p.at_ j) = false) : cntL p side K (j + 1) = cntL p side K j := by
 rw [cntL_succ hj]
 unfold cntL
 refine List.map_congr_left fun k _ => ?_
 rw [h k]; simp
theorem cntL_yes {p : PosD} {side : Int} {K j m : Nat} (hj : j < p.at_.length) (hm : m < K) (h : ∀ k : Nat, isMan p side k (nth p.at_ j) = decide (k = m)) :
  cntL p side K (j + 1) = (cntL p side K j).set m (nth (cntL p side K j) m + 1) := by
 rw [cntL_succ hj]
 refine List.ext_getElem (by simp [cntL]) fun k h1 h2 => ?_
 have hk : k < K := by simpa using h1
 rw [List.getElem_set]
 by_cases e : m = k
 ·subst e
  rw [if_pos rfl, nth_cntL _ _ _ _ hk]
  simp [h]
 ·rw [if_neg e]
  simp [cntL, h, Ne.symm e]
def countsP (g : GameD) (p : PosD) (side : Int) : List Int := cntL p side g.kinds.length p.at_.length
theorem nth_countsP (g : GameD) (p : PosD) (side : Int) {k : Nat} (hk : k < g.kinds.length) : nth (countsP g p side) k = menP p side k := by
 unfold countsP; rw [nth_cntL _ _ _ _ hk, List.take_length]; rfl
theorem tdiv_half {m s : Int} (h0 : 0 ≤ m) (hs : s = 0 ∨ s = 1) : (1 + 2 * m + s - 1).tmod 2 = s ∧ (1 + 2 * m + s - 1).tdiv 2 = m := by
 rw [Int.tmod_eq_emod_of_nonneg (by omega), Int.tdiv_eq_ediv_of_nonneg (by omega)]
 omega
theorem Count_pure (g : GameD) (hg : GOk g) (p : PosD) (hp : POk g p) (side : Int) (hsd : side = 0 ∨ side = 1) :
  Pure Tryz.prog 335 [.agg (encGame g), .agg (encPos p), .v (.int .i64 side)] (encIs (countsP g p side)) := by
 refine pF Tryz.func335 ?_
 have hal := hp.al
 have c9 := hg.c9
 have k6 := hg.k6
 have hall := fun j => cntL_len p side g.kinds.length j
 have hz : List.replicate g.kinds.length [AV.v (.int .i64 0)] = (cntL p side g.kinds.length 0).map encI := by
  refine List.ext_getElem (by simp [cntL]) fun k h1 h2 => ?_
  simp [cntL, encI]
 (repeat (first|with_reducible refine wV fun _=>?_|simp [go_sem]))
 refine ALoop.start (ALoop.ind (α := Nat) (fun j => ⟨[(2, .v (.int .i64 side)), (7, .sl 2 0 1 0 g.kinds.length), (15, encIs p.at_), (16, .v (.int .i64 p.at_.length)), (17, .v (.int .i64 j))], [(2, .rows true 0 1 ((cntL p side g.kinds.length j).map encI))], 3⟩)
  (fun d j => j + d = p.at_.length) ?_ p.at_.length 0 ?_) ?_ ?_
 ·rintro d j j1 hrec
  (repeat (first|with_reducible refine wV fun _=>?_|simp [go_sem]))
  refine aIf.mkL (fun hj => ?_) (fun hj => ?_) <;> simp at hj
  ·have hat := hp.at (i := j) (by omega)
   have hman := manOf_cases hat.1 hat.2 hg.k6
   have hM : ∀ k : Nat, isMan p side k (nth p.at_ j) = (decide (0 ≤ (manOf (nth p.at_ j)).1) && decide ((manOf (nth p.at_ j)).2 = side) && (decide ((k : Int) < 0) || decide ((manOf (nth p.at_ j)).1 = k))) := fun k => rfl
   have hno := cntL_no (p := p) (side := side) (K := g.kinds.length) hj
   have hyes := fun m => cntL_yes (p := p) (side := side) (K := g.kinds.length) (m := m) hj
   rcases hman with ⟨h0, hm⟩ | ⟨h0, hm0, hmk, hms, he⟩
   ·rw [hm] at hM
    have hno := hno (fun k => by rw [hM]; simp)
    (repeat (first|with_reducible refine wV fun _=>?_|simp [go_sem, hj, h0]))
    refine ALoop.start (hrec (d - 1) (by omega) (j + 1) (by omega)) ?_ (by simp)
    simp [go_sem, Wk_eq, hno]
   ·have ht := tdiv_half hm0 hms
    rw [← he] at ht
    have hpos : 0 < nth p.at_ j := by omega
    by_cases hs : (manOf (nth p.at_ j)).2 = side
    ·obtain ⟨m, hmm⟩ : ∃ m : Nat, (manOf (nth p.at_ j)).1 = m := ⟨(manOf (nth p.at_ j)).1.toNat, by omega⟩
     rw [hmm] at ht hmk
     have hmk' : m < g.kinds.length := by omega
     have hyes := hyes m hmk' (fun k => by rw [hM, hmm, decide_eq_true hs]; by_cases e : k = m <;> simp [e] <;> omega)
     have hb : 0 ≤ nth (cntL p side g.kinds.length j) m ∧ nth (cntL p side g.kinds.length j) m ≤ 9 := by
      rw [nth_cntL _ _ _ _ hmk']
      have : (p.at_.take j).countP (isMan p side m) ≤ (p.at_.take j).length := List.countP_le_length
      rw [List.length_take] at this
      omega
     have hlm : m < (cntL p side g.kinds.length j).length := by rw [hall]; exact hmk'
     rw [hs] at ht
     (repeat (first|with_reducible refine wV fun _=>?_|simp [go_sem, hj, hpos, ht.1, ht.2, hlm, hall, hmk']))
     refine ALoop.start (hrec (d - 1) (by omega) (j + 1) (by omega)) ?_ (by simp)
     simp [go_sem, Wk_eq, hyes, List.map_set, encI]
    ·have hno := hno (fun k => by rw [hM, decide_eq_false hs]; simp)
     (repeat (first|with_reducible refine wV fun _=>?_|simp [go_sem, hj, hpos, ht.1, ht.2, hs]))
     refine ALoop.start (hrec (d - 1) (by omega) (j + 1) (by omega)) ?_ (by simp)
     simp [go_sem, Wk_eq, hno]
  ·have e : j = p.at_.length := by omega
   subst e
   (repeat (first|with_reducible refine wV fun _=>?_|simp [go_sem]))
   exact leV_frz rfl (by simp [hall]) (by simp [noH, upd]) (by simp [countsP]; exact List.take_of_length_le (by simp [hall]))
 ·omega
 ·simp [go_sem, Wk_eq, hz]
 ·simp
end Go.Av
end
section
/- Contracts: play.conditions, play.ended. -/
open Go Go.Proofs
namespace Go.Av
theorem menP_le {g : GameD} (hg : GOk g) {p : PosD} (hp : POk g p) (s k : Int) : menP p s k ≤ 9 := Nat.le_trans List.countP_le_length (by have := hg.c9; have := hp.al; omega)
theorem countsP_len (g : GameD) (p : PosD) (side : Int) : (countsP g p side).length = g.kinds.length := cntL_len _ _ _ _
theorem one_kind (m : Int) (s side : Int) : ∀ K : Nat, 0 ≤ m → ((List.range K).map fun (k : Nat) => if (decide (0 ≤ m) && decide (s = side) && (decide ((k : Int) < 0) || decide (m = k))) = true then (1 : Nat) else 0).sum = if m < K ∧ s = side then 1 else 0
 | 0, h => by simp; omega
 | K + 1, h => by
  rw [List.range_succ, List.map_append, List.sum_append, one_kind m s side K h]
  have e : (if (decide (0 ≤ m) && decide (s = side) && (decide ((K : Int) < 0) || decide (m = K))) = true then (1 : Nat) else 0) = if s = side ∧ m = K then 1 else 0 := by
   have : ¬ (K : Int) < 0 := by omega
   simp [h, this]
  simp only [List.map_cons, List.map_nil, List.sum_cons, List.sum_nil, e, Nat.add_zero]
  by_cases hs : s = side
  ·by_cases h1 : m < K
   ·rw [if_pos ⟨h1, hs⟩, if_neg (by omega), if_pos ⟨by omega, hs⟩]
   ·by_cases h2 : m = K
    ·rw [if_neg (by omega), if_pos ⟨hs, h2⟩, if_pos ⟨by omega, hs⟩, Nat.zero_add]
    ·rw [if_neg (by omega), if_neg (by omega), if_neg (by omega)]
  ·rw [if_neg (by simp [hs]), if_neg (by simp [hs]), if_neg (by simp [hs])]
theorem sum_zero : ∀ l : List Nat, (l.map fun _ => 0).sum = 0
 | [] => rfl
 | _ :: l => by simp [sum_zero l]
theorem sum_add (f h : Nat → Nat) : ∀ l : List Nat, (l.map fun k => f k + h k).sum = (l.map f).sum + (l.map h).sum
 | [] => rfl
 | k :: l => by simp [sum_add f h l]; omega
theorem men_sum {K : Nat} (hK : K ≤ 6) (side : Int) : ∀ l : List Int, (∀ c ∈ l, 0 ≤ c ∧ c ≤ 2 * K) →
  ((List.range K).map fun (k : Nat) => l.countP fun c => decide (0 ≤ (manOf c).1) && decide ((manOf c).2 = side) && (decide ((k : Int) < 0) || decide ((manOf c).1 = k))).sum =
   l.countP fun c => decide (0 ≤ (manOf c).1) && decide ((manOf c).2 = side) && (decide ((-1 : Int) < 0) || decide ((manOf c).1 = -1))
 | [], _ => by simp [sum_zero]
 | c :: l, h => by
  have ih := men_sum hK side l (fun x hx => h x (by simp [hx]))
  simp only [List.countP_cons]
  rw [sum_add, ih]
  congr 1
  have hc := h c (by simp)
  rcases manOf_cases hc.1 hc.2 hK with ⟨h0, hm⟩ | ⟨h0, hm0, hmk, hms, he⟩
  ·rw [hm]; simp [sum_zero]
  ·rw [one_kind _ _ _ _ hm0]
   by_cases hs : (manOf c).2 = side
   ·simp [hs, hm0, hmk]
   ·simp [hs]
theorem men_all {g : GameD} (hg : GOk g) {p : PosD} (hp : POk g p) (side : Int) : ((List.range g.kinds.length).map fun (k : Nat) => menP p side k).sum = menP p side (-1) :=
 men_sum hg.k6 side p.at_ hp.av
section
variable (g : GameD) (hg : GOk g) (p : PosD) (hp : POk g p) (c : Int × Int × Int × Int) (hc : ClauseOk g.cells g.kinds.length c)
theorem cond1_pure (hg : GOk g) (hp : POk g p) (hc : ClauseOk g.cells g.kinds.length c) (h1 : c.1 = 1) : Pure Tryz.prog 334 [.agg (encGame g), .agg (encPos p), .agg (encClause c)] (.v (.bool (condP c p))) := by
 refine pF Tryz.func334 ?_
 have hC := Count_pure g hg p hp p.side hp.s
 have hl := countsP_len g p p.side
 have hk := hc.kind
 have hck : c.2.1.toNat < (countsP g p p.side).length := by omega
 have hn := nth_countsP g p p.side (k := c.2.1.toNat) (by omega)
 rw [show ((c.2.1.toNat : Nat) : Int) = c.2.1 by omega] at hn
 have he : condP c p = decide (nth (countsP g p p.side) c.2.1.toNat = 0) := by
  unfold condP; rw [if_pos h1, hn]; simp
 rw [he]
 generalize countsP g p p.side = l at *
 obtain ⟨c0, c1, c2, c3⟩ := c
 simp only at hk hck
 (repeat (first|with_reducible refine wV fun _=>?_|simp [go_sem]))
 refine dCall.plain hC (by simp [go_sem]) ?_
 (repeat (first|with_reducible refine wV fun _=>?_|simp [go_sem, hck]))
theorem cond2_pure (hg : GOk g) (hp : POk g p) (hc : ClauseOk g.cells g.kinds.length c) (h1 : c.1 = 2) : Pure Tryz.prog 336 [.agg (encGame g), .agg (encPos p), .agg (encClause c)] (.v (.bool (condP c p))) := by
 refine pF Tryz.func336 ?_
 have hal := hp.al
 have hps := hp.s
 have hn := hc.n
 have hcd := hn.2.1 h1
 have hci : c.2.2.1.toNat < p.at_.length := by omega
 have he : condP c p = decide (nth p.at_ c.2.2.1.toNat = codeOf c.2.1 (1 - p.side)) := by
  unfold condP; rw [if_neg (by omega), if_pos h1]
 rw [he]
 have hC := gCode_pure c.2.1 (1 - p.side)
 obtain ⟨c0, c1, c2, c3⟩ := c
 simp only at hcd hci hC hn
 generalize codeOf c1 (1 - p.side) = code at *
 (repeat (first|with_reducible refine wV fun _=>?_|simp [go_sem, hci]))
 refine dCall.plain hC (by simp [go_sem]) ?_
 (repeat (first|with_reducible refine wV fun _=>?_|simp [go_sem, hci]))
theorem cond3_pure (hg : GOk g) (hp : POk g p) (hc : ClauseOk g.cells g.kinds.length c) (h1 : c.1 = 3) : Pure Tryz.prog 337 [.agg (encGame g), .agg (encPos p), .agg (encClause c)] (.v (.bool (condP c p))) := by
 refine pF Tryz.func337 ?_
 have hC := Count_pure g hg p hp p.side hp.s
 have hl := countsP_len g p p.side
 have k6 := hg.k6
 have hnn := fun (k : Nat) hk => nth_countsP g p p.side (k := k) hk
 have hle := fun k : Nat => menP_le hg hp p.side k
 have hall := men_all hg hp p.side
 obtain ⟨S, hS⟩ : ∃ S : Nat → Nat, S = fun i => ((List.range i).map fun (k : Nat) => menP p p.side k).sum := ⟨_, rfl⟩
 have hS0 : S 0 = 0 := by rw [hS]; rfl
 have hSs : ∀ i, S (i + 1) = S i + menP p p.side i := fun i => by rw [hS]; simp [List.range_succ]
 have hSK : S g.kinds.length = menP p p.side (-1) := by rw [hS]; exact hall
 have hSb : ∀ i, S i ≤ 9 * i := fun i => by
  induction i with
  | zero => omega
  | succ i ih => rw [hSs]; have := hle i; omega
 have he : condP c p = decide ((S g.kinds.length : Int) ≤ c.2.2.1) := by
  unfold condP; rw [if_neg (by omega), if_neg (by omega), hSK]
 rw [he]
 clear hS
 generalize countsP g p p.side = l at *
 obtain ⟨c0, c1, c2, c3⟩ := c
 (repeat (first|with_reducible refine wV fun _=>?_|simp [go_sem]))
 refine ACallP.plain hC (by simp [go_sem]) ?_
 (repeat (first|with_reducible refine wV fun _=>?_|simp [go_sem]))
 refine ALoop.start (ALoop.ind (α := Nat) (fun i => ⟨[(5, .ref 2 0 4 0 0), (7, .v (.int .i64 (S i))), (14, encIs l), (15, .v (.int .i64 l.length)), (16, .v (.int .i64 i))], [(2, .rows true 0 4 [encClause (c0, c1, c2, c3)])], 3⟩)
  (fun d i => i + d = l.length) ?_ l.length 0 ?_) ?_ ?_
 ·rintro d i i1 hrec
  (repeat (first|with_reducible refine wV fun _=>?_|simp [go_sem]))
  refine aIf.mkL (fun hi => ?_) (fun hi => ?_) <;> simp at hi
  ·have h2 := hnn i (by omega)
   have h3 := hle i
   have h4 := hSb i
   have h5 := hSs i
   (repeat (first|with_reducible refine wV fun _=>?_|simp [go_sem, hi]))
   refine ALoop.start (hrec (d - 1) (by omega) (i + 1) (by omega)) ?_ (by simp)
   simp [go_sem, Wk_eq, h5, h2]
  ·have e : i = l.length := by omega
   subst e
   rw [hl]
   (repeat (first|with_reducible refine wV fun _=>?_|simp [go_sem]))
 ·omega
 ·simp [go_sem, Wk_eq, hS0]
 ·simp
end
def endedV (g : GameD) (p : PosD) : Int × Bool := if 0 ≤ endedP g p then ((nth g.clauses (endedP g p).toNat).2.2.2, true) else (0, false)
theorem glb_cond : glbs.lookup 0 = some [.v .nilFunc, .fn (.func 334) [] [], .fn (.func 336) [] [], .fn (.func 337) [] []] := rfl
theorem ended_pure (g : GameD) (hg : GOk g) (p : PosD) (hp : POk g p) : Pure Tryz.prog 72 [.agg (encGame g), .agg (encPos p)] (.tup [.v (.int .i64 (endedV g p).1), .v (.bool (endedV g p).2)]) := by
 refine pF Tryz.func72 ?_
 have hcn := hg.cn
 (repeat (first|with_reducible refine wV fun _=>?_|simp [go_sem]))
 refine ALoop.start (ALoop.ind (α := Nat) (fun i => ⟨[(2, .ref 0 0 9 0 0), (3, .ref 1 0 5 0 0), (9, .lst 4 (g.clauses.map encClause)), (10, .v (.int .i64 g.clauses.length)), (11, .v (.int .i64 i))], [(0, .rows true 0 9 [encGame g]), (1, .rows true 0 5 [encPos p])], 2⟩)
  (fun d i => i + d = g.clauses.length ∧ ∀ j, j < i → condP (nth g.clauses j) p = false) ?_ g.clauses.length 0 ?_) ?_ ?_
 ·rintro d i ⟨i1, i2⟩ hrec
  (repeat (first|with_reducible refine wV fun _=>?_|simp [go_sem]))
  refine aIf.mkL (fun hi => ?_) (fun hi => ?_) <;> simp at hi
  ·have hcl := hg.cl _ (nth_mem hi)
   have hfi : condP (nth g.clauses i) p = true → endedV g p = ((nth g.clauses i).2.2.2, true) := fun hc => by
    have he : endedP g p = i := by unfold endedP; rw [findIdx_some (fun c => condP c p) g.clauses hi i2 hc]
    unfold endedV
    rw [he, if_pos (by omega)]; simp
   have h1 := cond1_pure g p _ hg hp hcl
   have h2 := cond2_pure g p _ hg hp hcl
   have h3 := cond3_pure g p _ hg hp hcl
   have hcond := hcl.cond
   obtain ⟨c, hcc⟩ : ∃ c, c = nth g.clauses i := ⟨_, rfl⟩
   rw [← hcc] at hfi h1 h2 h3 hcond
   have fin : ∀ b, condP c p = b → b = false → ∀ j, j < i + 1 → condP (nth g.clauses j) p = false := by
    intro b hb hf j hj
    rcases Nat.lt_or_ge j i with h | h
    ·exact i2 j h
    ·obtain rfl : j = i := by omega
     rw [← hcc, hb, hf]
   obtain ⟨c0, c1, c2, c3⟩ := c
   generalize hcb : condP (c0, c1, c2, c3) p = b at *
   simp only at hcond hfi
   rcases hcond with rfl | rfl | rfl
   ·have hC := h1 rfl
    (repeat (first|with_reducible refine wV fun _=>?_|simp [go_sem, hi, ← hcc, glb_cond]))
    refine dCall.plain hC (by simp [go_sem]) ?_
    (repeat (first|with_reducible refine wV fun _=>?_|simp [go_sem]))
    cases b
    ·(repeat (first|with_reducible refine wV fun _=>?_|simp [go_sem]))
     refine ALoop.start (hrec (d - 1) (by omega) (i + 1) ⟨by omega, fin _ rfl rfl⟩) ?_ (by simp)
     simp [go_sem, Wk_eq]
    ·rw [hfi rfl]
     (repeat (first|with_reducible refine wV fun _=>?_|simp [go_sem]))
   ·have hC := h2 rfl
    (repeat (first|with_reducible refine wV fun _=>?_|simp [go_sem, hi, ← hcc, glb_cond]))
    refine dCall.plain hC (by simp [go_sem]) ?_
    (repeat (first|with_reducible refine wV fun _=>?_|simp [go_sem]))
    cases b
    ·(repeat (first|with_reducible refine wV fun _=>?_|simp [go_sem]))
     refine ALoop.start (hrec (d - 1) (by omega) (i + 1) ⟨by omega, fin _ rfl rfl⟩) ?_ (by simp)
     simp [go_sem, Wk_eq]
    ·rw [hfi rfl]
     (repeat (first|with_reducible refine wV fun _=>?_|simp [go_sem]))
   ·have hC := h3 rfl
    (repeat (first|with_reducible refine wV fun _=>?_|simp [go_sem, hi, ← hcc, glb_cond]))
    refine dCall.plain hC (by simp [go_sem]) ?_
    (repeat (first|with_reducible refine wV fun _=>?_|simp [go_sem]))
    cases b
    ·(repeat (first|with_reducible refine wV fun _=>?_|simp [go_sem]))
     refine ALoop.start (hrec (d - 1) (by omega) (i + 1) ⟨by omega, fin _ rfl rfl⟩) ?_ (by simp)
     simp [go_sem, Wk_eq]
    ·rw [hfi rfl]
     (repeat (first|with_reducible refine wV fun _=>?_|simp [go_sem]))
  ·have he : endedP g p = -1 := by unfold endedP; rw [findIdx_none (fun c => condP c p) g.clauses (fun j hj => i2 j (by omega))]
   have he' : endedV g p = (0, false) := by unfold endedV; rw [he]; rfl
   rw [he']
   (repeat (first|with_reducible refine wV fun _=>?_|simp [go_sem]))
 ·exact ⟨by simp, fun j hj => by omega⟩
 ·simp [go_sem, Wk_eq]
 ·simp
end Go.Av
end
section
/- Contracts, moves: Outcomes, Moves of the reference. -/
open Go Go.Proofs
namespace Go.Av
def outsK (g : GameD) (p : PosD) (c : Nat) : List OutD := (List.range c).flatMap (outsAt g p)
theorem outsK_succ (g : GameD) (p : PosD) (c : Nat) : outsK g p (c + 1) = outsK g p c ++ outsAt g p c := by simp [outsK, List.range_succ, List.flatMap_append]
theorem outsK_zero (g : GameD) (p : PosD) : outsK g p 0 = [] := rfl
def outsI (g : GameD) (p : PosD) (c i : Nat) : List OutD := outsK g p c ++ (List.range i).flatMap fun (i : Nat) => runsP g p c i
theorem outsI_zero (g : GameD) (p : PosD) (c : Nat) : outsI g p c 0 = outsK g p c := by simp [outsI]
theorem outsI_succ (g : GameD) (p : PosD) (c i : Nat) : outsI g p c (i + 1) = outsI g p c i ++ runsP g p c i := by simp [outsI, List.range_succ, List.flatMap_append]
theorem R6Outcomes_pure (g : GameD) (hg : GOk g) (p : PosD) (hp : POk g p) : Pure Tryz.prog 94 [.agg (encGame g), .agg (encPos p)] (encOs (outsP g p)) := by
 refine pF Tryz.func94 ?_
 have hal := hp.al
 have c9 := hg.c9
 have k6 := hg.k6
 have hU : ∀ c i, c < p.at_.length → 0 ≤ (manOf (nth p.at_ c)).1 ∧ (manOf (nth p.at_ c)).2 = p.side → i ≤ (nth g.kinds (manOf (nth p.at_ c)).1.toNat).progs.length → (outsI g p c i).length ≤ 8000000000 := fun c i hc hm hi => by
  have h1 : (outsK g p c).length ≤ 7200000000 := outsK_len hg hp (by omega)
  have hk := kind_lt hg hp (cell := c) (by omega) (by omega) (by simpa using hm.1)
  simp only [Int.toNat_natCast] at hk
  have h8 := hg.pn _ (nth_mem hk)
  have h2 := flatMap_range_le (fun (i : Nat) => runsP g p c i) 100000000 i (fun j hj => runsP_len hg hp (choice_of hp hc hm (by omega)))
  have h3 : i * 100000000 ≤ 8 * 100000000 := Nat.mul_le_mul_right _ (by omega)
  simp only [outsI, List.length_append]
  omega
 (repeat (first|with_reducible refine wV fun _=>?_|simp [go_sem]))
 refine ALoop.start (ALoop.ind (α := Nat × Nat) (fun a => ⟨[(2, .ref 0 0 9 0 0), (3, .ref 1 0 5 0 0), (5, .sl 2 a.2 6 0 (outsK g p a.1).length), (6, .v (.int .i64 a.1))], [(0, .rows true 0 9 [encGame g]), (1, .rows true 0 5 [encPos p]), (2, .rows true a.2 6 ((outsK g p a.1).map encOut))], 3⟩)
  (fun d a => a.1 + d = p.at_.length) ?_ p.at_.length (0, 0) ?_) ?_ ?_
 ·rintro d ⟨c, G⟩ c1 hrec
  simp only at c1
  (repeat (first|with_reducible refine wV fun _=>?_|simp [go_sem]))
  refine aIf.mkL (fun hc => ?_) (fun hc => ?_) <;> simp at hc
  ·have hO := R3Of_pure (nth p.at_ c)
   have hsu := outsK_succ g p c
   have hat := hp.at (i := c) (by omega)
   have hman := manOf_cases hat.1 hat.2 hg.k6
   have hAt : outsAt g p c = if 0 ≤ (manOf (nth p.at_ c)).1 ∧ (manOf (nth p.at_ c)).2 = p.side then (List.range (nth g.kinds (manOf (nth p.at_ c)).1.toNat).progs.length).flatMap fun (i : Nat) => runsP g p c i else [] := rfl
   have hU' := fun i => hU c i hc
   have hCh := fun i => choice_of (g := g) (i := i) hp hc
   generalize manOf (nth p.at_ c) = m at *
   obtain ⟨mk, ms⟩ := m
   simp only [Prod.mk.injEq] at hman hAt hU' hCh
   (repeat (first|with_reducible refine wV fun _=>?_|simp [go_sem, hc]))
   refine ACallP.plain hO (by simp [go_sem]) ?_
   (repeat (first|with_reducible refine wV fun _=>?_|simp [go_sem]))
   refine aIf.mkL (fun hm => ?_) (fun hm => ?_) <;> simp at hm
   ·rw [if_neg (by omega)] at hAt
    rw [hAt, List.append_nil] at hsu
    (repeat (first|with_reducible refine wV fun _=>?_|simp [go_sem]))
    refine ALoop.start (hrec (d - 1) (by omega) (c + 1, G) (by simp only; omega)) ?_ (by simp)
    simp [go_sem, Wk_eq, hsu]
   ·have hm' : 0 ≤ mk ∧ ms = p.side := by omega
    rw [if_pos hm'] at hAt
    have hkl : mk.toNat < g.kinds.length := by omega
    have hpn := hg.pn _ (nth_mem hkl)
    have hz := outsI_zero g p c
    (repeat (first|with_reducible refine wV fun _=>?_|simp [go_sem]))
    refine ALoop.start (ALoop.ind (α := Nat × Nat) (fun a => ⟨[(2, .ref 0 0 9 0 0), (3, .ref 1 0 5 0 0), (5, .sl 2 a.2 6 0 (outsI g p c a.1).length), (6, .v (.int .i64 c)), (7, .ref 3 0 2 0 0), (8, .v (.int .i64 a.1))],
      [(0, .rows true 0 9 [encGame g]), (1, .rows true 0 5 [encPos p]), (2, .rows true a.2 6 ((outsI g p c a.1).map encOut)), (3, .rows true 0 2 [[.v (.int .i64 mk), .v (.int .i64 ms)]])], 4⟩)
     (fun d a => a.1 + d = (nth g.kinds mk.toNat).progs.length) ?_ (nth g.kinds mk.toNat).progs.length (0, G) ?_) ?_ ?_
    ·rintro d2 ⟨i, G'⟩ i1 hrec2
     simp only at i1
     (repeat (first|with_reducible refine wV fun _=>?_|simp [go_sem, hkl]))
     refine aIf.mkL (fun hi => ?_) (fun hi => ?_) <;> simp at hi
     ·have hR := R5Runs_pure g hg p hp c i (hCh i hm' hi)
      have hsi := outsI_succ g p c i
      have hUi := hU' i hm' (by omega)
      have hUj := hU' (i + 1) hm' (by omega)
      rw [hsi, List.length_append] at hUj
      (repeat (first|with_reducible refine wV fun _=>?_|simp [go_sem]))
      refine ACallP.plain hR (by simp [go_sem]) ?_
      (repeat (first|with_reducible refine wV fun _=>?_|simp [go_sem]))
      refine ALoop.start (hrec2 (d2 - 1) (by omega) (i + 1, G' + 1) (by simp only; omega)) ?_ (by simp)
      simp [go_sem, Wk_eq, hsi]
     ·have hil : i = (nth g.kinds mk.toNat).progs.length := by omega
      subst hil
      have hfin : outsI g p c (nth g.kinds mk.toNat).progs.length = outsK g p (c + 1) := by rw [hsu, hAt]; rfl
      rw [hfin]
      (repeat (first|with_reducible refine wV fun _=>?_|simp [go_sem]))
      refine ALoop.start (hrec (d - 1) (by omega) (c + 1, G') (by simp only; omega)) ?_ (by simp)
      simp [go_sem, Wk_eq]
    ·simp
    ·simp [go_sem, Wk_eq, hz]
    ·simp
  ·have hcl : c = p.at_.length := by omega
   subst hcl
   have e : outsP g p = outsK g p p.at_.length := rfl
   rw [e]
   (repeat (first|with_reducible refine wV fun _=>?_|simp [go_sem]))
   exact frX
 ·simp
 ·simp [go_sem, Wk_eq, outsK_zero]
 ·simp
end Go.Av
end
section
/- Contracts: play.outcomes. -/
open Go Go.Proofs
namespace Go.Av
def rowO (o : OutD) : List AV := [.agg (encOut o)]
theorem drop_range {n j : Nat} (h : j < n) : (List.range n).drop j = j :: (List.range n).drop (j + 1) := by
 rw [List.drop_eq_getElem_cons (by simpa using h)]; simp
theorem outsF_seq (g : GameD) (hg : GOk g) (p : PosD) (hp : POk g p) : PSeq Tryz.prog 149 [.fp (encPos p), .fp (encGame g)] 0 ((outsP g p).map rowO) := by
 refine PSeq.of_awp (by kernel_rfl) Tryz.func149 rfl rfl (Nat.le_of_ble_eq_true rfl) (by kernel_rfl) (fun l => ?_) (hm2 := by decide)
 have hal := hp.al
 have c9 := hg.c9
 have k6 := hg.k6
 have hgb : ∀ (n : Nat) (L : List OutD), Bel n (ghost l 0 (L.map rowO)) := fun n L => by
  simp only [ghost, Bel_gd, Bel_tup, List.forall_mem_cons, Bel_v, Bel_lst]
  simp [go_sem, rowO]
 obtain ⟨oF, hoF⟩ : ∃ oF : Nat → List OutD, oF = fun j => ((List.range p.at_.length).drop j).flatMap (outsAt g p) := ⟨_, rfl⟩
 have ho0 : outsP g p = oF 0 := by rw [hoF]; rfl
 have hos : ∀ j, j < p.at_.length → oF j = outsAt g p j ++ oF (j + 1) := fun j hj => by rw [hoF]; simp only; rw [drop_range hj, List.flatMap_cons]
 have hon : oF p.at_.length = [] := by rw [hoF]; simp only; rw [List.drop_eq_nil_of_le (by simp)]; rfl
 rw [ho0]
 clear hoF ho0
 (repeat (first|with_reducible refine wV fun _=>?_|simp [go_sem, GH]))
 refine ALoop.start (ALoop.ind (α := Nat) (fun j => ⟨[(0, .fn (.yield l) [] []), (1, .fp (encPos p)), (2, .fp (encGame g)), (14, encIs p.at_), (15, .v (.int .i64 p.at_.length)), (16, .v (.int .i64 j)), (1000000007, ghost l 0 ((oF j).map rowO))], [], 0⟩)
  (fun d j => j + d = p.at_.length) ?_ p.at_.length 0 ?_) ?_ ?_
 ·rintro d j j1 hrec
  (repeat (first|with_reducible refine wV fun _=>?_|simp [go_sem, GH]))
  refine aIf.mkL (fun hj => ?_) (fun hj => ?_) <;> simp at hj
  ·have hat := hp.at (i := j) (by omega)
   have hman := manOf_cases hat.1 hat.2 hg.k6
   have hO := gMan_pure (nth p.at_ j)
   have hoj := hos j hj
   have hoa : outsAt g p j = if 0 ≤ (manOf (nth p.at_ j)).1 ∧ (manOf (nth p.at_ j)).2 = p.side then (List.range (nth g.kinds (manOf (nth p.at_ j)).1.toNat).progs.length).flatMap fun (i : Nat) => runsP g p j i else [] := rfl
   have hrp : ∀ i : Nat, i < (nth g.kinds (manOf (nth p.at_ j)).1.toNat).progs.length → 0 ≤ (manOf (nth p.at_ j)).1 → (manOf (nth p.at_ j)).2 = p.side → ChoiceOk g p j i := fun i hi h1 h2 =>
    ⟨by omega, by omega, h1, h2, by omega, by simpa using hi⟩
   have hRun : ∀ i : Nat, i < (nth g.kinds (manOf (nth p.at_ j)).1.toNat).progs.length → 0 ≤ (manOf (nth p.at_ j)).1 → (manOf (nth p.at_ j)).2 = p.side → _ := fun i hi h1 h2 => rRuns_pure g hg p hp j i (hrp i hi h1 h2)
   have hrl := fun (i : Nat) hi h1 h2 => runsP_len hg hp (hrp i hi h1 h2)
   clear hrp
   generalize manOf (nth p.at_ j) = m at *
   obtain ⟨mk, ms⟩ := m
   simp only at hoa hRun hman hO hrl
   (repeat (first|with_reducible refine wV fun _=>?_|simp [go_sem, hj, GH]))
   refine ACallP.plain hO (by simp [go_sem]) ?_
   (repeat (first|with_reducible refine wV fun _=>?_|simp [go_sem, GH]))
   refine aIf.mkL (fun hc => ?_) (fun hc => ?_) <;> simp at hc
   ·have hz : outsAt g p j = [] := by rw [hoa, if_neg (by omega)]
    rw [hz, List.nil_append] at hoj
    rw [hoj]
    (repeat (first|with_reducible refine wV fun _=>?_|simp [go_sem, GH]))
    refine ALoop.start (hrec (d - 1) (by omega) (j + 1) (by omega)) ?_ (by simp)
    simp [go_sem, Wk_eq, hgb, GH]
   ·rw [if_pos (by omega)] at hoa
    have hmk : mk.toNat < g.kinds.length := by
     simp only [Prod.mk.injEq] at hman
     omega
    have hn8 := hg.pn _ (nth_mem hmk)
    obtain ⟨np, hnp⟩ : ∃ np, np = (nth g.kinds mk.toNat).progs.length := ⟨_, rfl⟩
    rw [← hnp] at hoa hRun hn8 hrl
    obtain ⟨pF, hpF⟩ : ∃ pF : Nat → List OutD, pF = fun i => ((List.range np).drop i).flatMap (fun (i : Nat) => runsP g p j i) ++ oF (j + 1) := ⟨_, rfl⟩
    have hp0 : oF j = pF 0 := by rw [hpF, hoj, hoa]; rfl
    have hps : ∀ i, i < np → pF i = runsP g p j i ++ pF (i + 1) := fun i hi => by rw [hpF]; simp only; rw [drop_range hi, List.flatMap_cons, List.append_assoc]
    have hpn : pF np = oF (j + 1) := by rw [hpF]; simp only; rw [List.drop_eq_nil_of_le (by simp)]; rfl
    rw [hp0]
    clear hpF hp0 hoa hoj
    (repeat (first|with_reducible refine wV fun _=>?_|simp [go_sem, GH, hmk, ← hnp]))
    refine ALoop.start (ALoop.ind (α := Nat) (fun i => ⟨[(0, .fn (.yield l) [] []), (1, .fp (encPos p)), (2, .fp (encGame g)), (4, .v (.int .i64 j)), (14, encIs p.at_), (15, .v (.int .i64 p.at_.length)), (16, .v (.int .i64 j)), (40, .v (.int .i64 np)), (41, .v (.int .i64 i)), (1000000007, ghost l 0 ((pF i).map rowO))], [], 0⟩)
     (fun d i => i + d = np) ?_ np 0 ?_) ?_ ?_
    ·rintro d2 i i1 hrec2
     (repeat (first|with_reducible refine wV fun _=>?_|simp [go_sem, GH]))
     refine aIf.mkL (fun hi => ?_) (fun hi => ?_) <;> simp at hi
     ·have hR := hRun i hi (by omega) (by omega)
      have hpi := hps i hi
      obtain ⟨rs, hrs⟩ : ∃ rs, rs = runsP g p j i := ⟨_, rfl⟩
      have hrl' := hrl i hi (by omega) (by omega)
      rw [← hrs] at hR hpi hrl'
      obtain ⟨rF, hrF⟩ : ∃ rF : Nat → List OutD, rF = fun t => rs.drop t ++ pF (i + 1) := ⟨_, rfl⟩
      have hr0 : pF i = rF 0 := by rw [hrF, hpi]; rfl
      have hrt : ∀ t, t < rs.length → rF t = nth rs t :: rF (t + 1) := fun t ht => by rw [hrF]; simp only; rw [dropG_cons ht]; rfl
      have hrn : rF rs.length = pF (i + 1) := by rw [hrF]; simp
      rw [hr0]
      clear hrF hr0
      (repeat (first|with_reducible refine wV fun _=>?_|simp [go_sem, GH]))
      refine ACallP.plain hR (by simp [go_sem]) ?_
      (repeat (first|with_reducible refine wV fun _=>?_|simp [go_sem, GH]))
      refine ALoop.start (ALoop.ind (α := Nat) (fun t => ⟨[(0, .fn (.yield l) [] []), (1, .fp (encPos p)), (2, .fp (encGame g)), (4, .v (.int .i64 j)), (14, encIs p.at_), (15, .v (.int .i64 p.at_.length)), (16, .v (.int .i64 j)), (40, .v (.int .i64 np)), (41, .v (.int .i64 i)), (52, encOs rs), (53, .v (.int .i64 rs.length)), (54, .v (.int .i64 t)), (1000000007, ghost l 0 ((rF t).map rowO))], [], 0⟩)
       (fun d t => t + d = rs.length) ?_ rs.length 0 ?_) ?_ ?_
      ·rintro d3 t t1 hrec3
       (repeat (first|with_reducible refine wV fun _=>?_|simp [go_sem, GH]))
       refine aIf.mkL (fun ht => ?_) (fun ht => ?_) <;> simp at ht
       ·rw [hrt t ht]
        (repeat (first|with_reducible refine wV fun _=>?_|simp [go_sem, GH, ht]))
        refine aYld.mk (more := 0) (xs := rowO (nth rs t)) (rs := (rF (t + 1)).map rowO) _ (by simp [upd, GH]) (.refl _) (.refl _ _ _ _) (by simp [go_sem, rowO]) ?_ ?_
        ·(repeat (first|with_reducible refine wV fun _=>?_|simp [go_sem, GH]))
         refine ALoop.start (hrec3 (d3 - 1) (by omega) (t + 1) (by omega)) ?_ (by simp)
         simp [go_sem, Wk_eq, hgb, GH]
        ·(repeat (first|with_reducible refine wV fun _=>?_|simp [go_sem, GH]))
       ·have e : t = rs.length := by omega
        subst e
        rw [hrn]
        (repeat (first|with_reducible refine wV fun _=>?_|simp [go_sem, GH]))
        refine ALoop.start (hrec2 (d2 - 1) (by omega) (i + 1) (by omega)) ?_ (by simp)
        simp [go_sem, Wk_eq, hgb, GH]
      ·omega
      ·simp [go_sem, Wk_eq, hgb, GH]
      ·simp
     ·have e : i = np := by omega
      subst e
      rw [hpn]
      (repeat (first|with_reducible refine wV fun _=>?_|simp [go_sem, GH]))
      refine ALoop.start (hrec (d - 1) (by omega) (j + 1) (by omega)) ?_ (by simp)
      simp [go_sem, Wk_eq, hgb, GH]
    ·omega
    ·simp [go_sem, Wk_eq, hgb, GH]
    ·simp
  ·have e : j = p.at_.length := by omega
   subst e
   rw [hon]
   (repeat (first|with_reducible refine wV fun _=>?_|simp [go_sem, GH]))
 ·omega
 ·simp [go_sem, Wk_eq, hgb, GH]
 ·simp
end Go.Av
end
section
/- Contracts: play.Moves. -/
open Go Go.Proofs
namespace Go.Av
def outsR (n : Nat) : AV := .fn (.func 149) [] [.ref (n + 1) 0 5 0 0, .ref n 0 9 0 0]
def outsH (g : GameD) (p : PosD) (n : Nat) : List (Nat × AObj) := [(n, .rows true 0 9 [encGame g]), (n + 1, .rows true 0 5 [encPos p])]
theorem outcomes_owns (g : GameD) (p : PosD) : Owns Tryz.prog 73 [.agg (encGame g), .agg (encPos p)] outsR (outsH g p) 2 := by
 refine ⟨?_, fun n => ⟨by simp [go_sem, outsR], by simp [go_sem, outsH]⟩⟩
 refine ACallP.of_awp (by kernel_rfl) Tryz.func73 rfl rfl (Nat.le_of_ble_eq_true rfl) (by kernel_rfl) ?_
 (repeat (first|with_reducible refine wV fun _=>?_|simp [go_sem, outsR, outsH]))
 simp [go_sem, Wk_eq]
theorem endedV_2 (g : GameD) (p : PosD) : (endedV g p).2 = decide (0 ≤ endedP g p) := by
 unfold endedV; split <;> simp_all
theorem any_len {α : Type} (f : α → Bool) : ∀ l : List α, l.any f = decide (0 < (l.filter f).length)
 | [] => rfl
 | x :: l => by cases h : f x <;> simp [h, any_len f l]
theorem Moves_pure (g : GameD) (hg : GOk g) (p : PosD) (hp : POk g p) : Pure Tryz.prog 18 [.agg (encGame g), .agg (encPos p)] (encPs (movesP g p)) := by
 refine pF Tryz.func18 ?_
 have hE := ended_pure g hg p hp
 have hD := rDrops_pure g hg p hp
 have hdl := dropsP_len hg hp
 have hdo := fun q hq => ((dropsP_ok hg hp) q hq).1.fits hg
 have hol := outsP_len hg hp
 have hoo := fun o ho => ((outsP_ok hg hp) o ho).1.fits hg
 have hS : Owns Tryz.prog 73 [.agg (encGame g), .agg (encPos p)] (fun n => outsR n) (fun n => outsH g p n) 2 := outcomes_owns g p
 have hQ := outsF_seq g hg p hp
 simp only [outsR, outsH] at hS
 have e2 := endedV_2 g p
 have hMv : movesP g p = if 0 ≤ endedP g p then [] else sortU cmpP (movesL g p) := rfl
 have hML : movesL g p = ((outsP g p).filter fun o => !mustP g p || o.took).map (·.pos) ++ (if mustP g p then [] else dropsP g p) := rfl
 have hMu : mustP g p = (g.must && (outsP g p).any (·.took)) := rfl
 rw [e2] at hE
 rw [hMv]
 generalize endedP g p = ep at *
 generalize (endedV g p).1 = ev1 at *
 generalize outsP g p = outs at *
 generalize dropsP g p = drops at *
 generalize mustP g p = must at *
 generalize movesL g p = mvl at *
 clear hMv e2
 (repeat (first|with_reducible refine wV fun _=>?_|simp [go_sem]))
 refine ACallP.plain hE (by simp [go_sem]) ?_
 (repeat (first|with_reducible refine wV fun _=>?_|simp [go_sem]))
 refine aIf.mkL (fun he => ?_) (fun he => ?_) <;> simp at he
 ·rw [if_pos he]
  (repeat (first|with_reducible refine wV fun _=>?_|simp [go_sem]))
 ·rw [if_neg (by omega)]
  (repeat (first|with_reducible refine wV fun _=>?_|simp [go_sem, GH]))
  refine ACallP.ownsPlain hS (by simp [go_sem]) ?_
  (repeat (first|with_reducible refine wV fun _=>?_|simp [go_sem, GH]))
  refine aRange.mk [.fp (encPos p), .fp (encGame g)] (frzO _ [4, 5]) hQ (frz_frzO _ _) ?_ (by simp [go_sem]) (by simp [rowO]) ?_
  ·refine LeRow.cons (.frzP rfl ?_ ?_ ?_ ?_) (LeRow.cons (.frzP rfl ?_ ?_ ?_ ?_) .nil) <;> first | exact LeRow.refl _ _ _ _ | simp [frzO, frz1, upd]
  obtain ⟨al, hal⟩ : ∃ al : Nat → List PosD, al = fun k => (outs.take k).map (·.pos) := ⟨_, rfl⟩
  obtain ⟨tk, htk⟩ : ∃ tk : Nat → List PosD, tk = fun k => ((outs.take k).filter (·.took)).map (·.pos) := ⟨_, rfl⟩
  have hall : ∀ k, (al k).length ≤ 7200000000 := fun k => by rw [hal]; simp; omega
  have htkl : ∀ k, (tk k).length ≤ 7200000000 := fun k => by rw [htk]; simp only [List.length_map]; have := List.length_filter_le (·.took) (outs.take k); simp at this; omega
  have hals : ∀ k, k < outs.length → al (k + 1) = al k ++ [(nth outs k).pos] := fun k hk => by rw [hal]; simp only; rw [List.take_add_one, List.getElem?_eq_getElem hk, nth_eq _ _ hk, Option.toList_some, List.map_append]; rfl
  have htks : ∀ k, k < outs.length → tk (k + 1) = if (nth outs k).took = true then tk k ++ [(nth outs k).pos] else tk k := fun k hk => by
   rw [htk]; simp only; rw [List.take_add_one, List.getElem?_eq_getElem hk, nth_eq _ _ hk, Option.toList_some, List.filter_append]
   cases hq : outs[k].took <;> simp [hq]
  have hal0 : al 0 = [] := by rw [hal]; rfl
  have htk0 : tk 0 = [] := by rw [htk]; rfl
  have halE : al outs.length = outs.map (·.pos) := by rw [hal]; simp
  have htkE : tk outs.length = (outs.filter (·.took)).map (·.pos) := by rw [htk]; simp
  clear hal htk
  refine Fgt.to (ARange.ind (α := Nat) (fun k => ([(2, .ref 0 0 9 0 0), (3, .ref 1 0 5 0 0), (7, .ref 2 0 1 0 0), (8, .ref 3 0 1 0 0)], [(0, .rows true 0 9 [encGame g]), (1, .rows true 0 5 [encPos p]), (2, .rows true 0 1 [[.sl 6 (al k).length 5 0 (al k).length]]), (3, .rows true 0 1 [[.sl 7 (tk k).length 5 0 (tk k).length]]),
    (6, .rows true (al k).length 5 ((al k).map encPos)), (7, .rows true (tk k).length 5 ((tk k).map encPos))], 8))
   (fun rows k => rows = (outs.drop k).map rowO ∧ k ≤ outs.length) ?_ ?_ _ 0 ?_) ?_ ?_
  ·rintro k ⟨i1, i2⟩
   have hk : k = outs.length := by
    have := congrArg List.length i1
    simp at this
    omega
   subst hk
   refine ⟨rfl, ?_⟩
   have hmu : must = (g.must && decide (0 < (tk outs.length).length)) := by
    rw [hMu, htkE, any_len, List.length_map]
   have hft : ∀ q ∈ tk outs.length, FitsP q := fun q hq => by
    rw [htkE] at hq
    obtain ⟨o, ho, rfl⟩ := List.mem_map.1 hq
    exact hoo o (List.mem_filter.1 ho).1
   have hfa : ∀ q ∈ al outs.length, FitsP q := fun q hq => by
    rw [halE] at hq
    obtain ⟨o, ho, rfl⟩ := List.mem_map.1 hq
    exact hoo o ho
   have hla := hall outs.length
   have hlt := htkl outs.length
   by_cases hm : must = true
   ·rw [hm] at hmu hML
    have hgm : g.must = true := by cases h : g.must <;> simp [h] at hmu ⊢
    have hpos : 0 < (tk outs.length).length := by rw [hgm] at hmu; simpa using hmu
    have hpos' : (0 : Int) < (tk outs.length).length := by omega
    have e : mvl = tk outs.length := by rw [hML, htkE]; simp
    rw [e]
    generalize tk outs.length = tks at *
    have hS1 := pSort_pure tks (by omega) hft
    (repeat (first|with_reducible refine wV fun _=>?_|simp [go_sem, GH, ← hmu]))
    refine ACallP.pureF [7] hS1 ?_ (bel1 (bel_encPs _)) ?_
    ·(first|done|exact agX)
    ·(repeat (first|with_reducible refine wV fun _=>?_|simp [go_sem, GH]))
   ·have e : mvl = al outs.length ++ drops := by
     simp only [Bool.not_eq_true] at hm
     rw [hML, hm, halE, List.filter_eq_self.2 (by simp)]; simp
    rw [e]
    have hS1 := pSort_pure (al outs.length ++ drops) (by rw [List.length_append]; omega) (fun q hq => by
     rcases List.mem_append.1 hq with h | h
     ·exact hfa q h
     ·exact hdo q h)
    simp only [Bool.not_eq_true] at hm
    rw [hm] at hmu
    generalize al outs.length = als at *
    generalize tk outs.length = tks at *
    generalize sortU cmpP (als ++ drops) = res at *
    (repeat (first|with_reducible refine wV fun _=>?_|simp [go_sem, GH, ← hmu]))
    refine dCall.plain hD (by simp [go_sem]) ?_
    (repeat (first|with_reducible refine wV fun _=>?_|simp [go_sem, GH]))
    refine dCall.frz [encPs (als ++ drops)] _ [6] [(6, some (.rows false (als.length + 1) 5 ((als ++ drops).map encPos)))] hS1 ?_ ?_ (bel1 (bel_encPs _)) ?_
    ·intro q hq
     simp only [List.mem_singleton] at hq
     subst hq
     exact ⟨by simp, als.length + 1, 5, _, rfl, by simp [upd]⟩
    ·intro h₁ hS
     have h6 := hS 6 (by simp)
     simp [upd] at h6
     exact .cons (leV_frz h6.symm (by simp) (by simp [applyW, upd]) (by simp; exact List.take_of_length_le (by simp))) .nil
    ·(repeat (first|with_reducible refine wV fun _=>?_|simp [go_sem, GH]))
  ·rintro xs rs k ⟨i1, i2⟩ hrec
   have hk : k < outs.length := by
    have := congrArg List.length i1
    simp at this
    omega
   rw [dropG_cons hk, List.map_cons, List.cons.injEq] at i1
   obtain ⟨rfl, rfl⟩ := i1
   have hals := hals k hk
   have htks := htks k hk
   have h1 := hall k
   have h2 := htkl k
   obtain ⟨o, ho⟩ : ∃ o, o = nth outs k := ⟨_, rfl⟩
   rw [← ho] at hals htks ⊢
   obtain ⟨op, ot⟩ := o
   simp only at hals htks
   generalize hrs : (outs.drop (k + 1)).map rowO = rs at *
   refine ARange.go (Nat.zero_le _) ?_
   (repeat (first|with_reducible refine wV fun _=>?_|simp [go_sem, GH, rowO]))
   cases ot
   ·rw [if_neg (by simp)] at htks
    (repeat (first|with_reducible refine wV fun _=>?_|simp [go_sem, GH]))
    refine Fgt.to (hrec (k + 1) ⟨hrs.symm, by omega⟩) ?_ (by simp)
    simp [go_sem, Wk_eq, GH, hals, htks]
   ·rw [if_pos rfl] at htks
    (repeat (first|with_reducible refine wV fun _=>?_|simp [go_sem, GH]))
    refine Fgt.to (hrec (k + 1) ⟨hrs.symm, by omega⟩) ?_ (by simp)
    simp [go_sem, Wk_eq, GH, hals, htks]
  ·exact ⟨rfl, Nat.zero_le _⟩
  ·simp [go_sem, Wk_eq, hal0, htk0]
  ·simp
end Go.Av
end
section
/- Contracts: play.Status, play.Legal, play.Walk. -/
open Go Go.Proofs
namespace Go.Av
def idxOfP (p : PosD → Bool) (l : List PosD) : Int := match l.findIdx? p with | some i => (i : Int) | none => -1
theorem idxOfP_at {p : PosD → Bool} {l : List PosD} {j : Nat} (hj : j < l.length) (h : ∀ i, i < j → p (nth l i) = false) (hp : p (nth l j) = true) : idxOfP p l = j := by
 have : l.findIdx? p = some j := by
  rw [List.findIdx?_eq_some_iff_getElem]
  refine ⟨hj, by rw [← nth_eq _ _ hj]; exact hp, fun i hi => ?_⟩
  have := h i hi
  rw [nth_eq _ _ (by omega)] at this
  simp [this]
 simp [idxOfP, this]
theorem idxOfP_none {p : PosD → Bool} {l : List PosD} (h : ∀ i, i < l.length → p (nth l i) = false) : idxOfP p l = -1 := by
 have : l.findIdx? p = none := by
  rw [List.findIdx?_eq_none_iff]
  intro x hx
  obtain ⟨i, hi, rfl⟩ := List.getElem_of_mem hx
  have := h i hi
  rw [nth_eq _ _ hi] at this
  exact this
 simp [idxOfP, this]
theorem idxOfP_any {p : PosD → Bool} {l : List PosD} : decide (0 ≤ idxOfP p l) = l.any p := by
 unfold idxOfP
 cases h : l.findIdx? p with
 | none =>
  rw [List.findIdx?_eq_none_iff] at h
  simp
  simpa using h
 | some i =>
  have := List.findIdx?_isSome (xs := l) (p := p)
  rw [h] at this
  simp at this ⊢
  exact this
theorem IndexFuncP_pure (l : List PosD) (hl : l.length ≤ 17179869184) (f : FuncId) (first caps : List AV) (p : PosD → Bool) (hp : ∀ x ∈ l, Pure Tryz.prog f (first ++ .agg (encPos x) :: caps) (.v (.bool (p x)))) (hb : ∀ c ∈ first, Bel 0 c) (hb' : ∀ c ∈ caps, Bel 0 c) :
  Pure Tryz.prog 154 [encPs l, .fn (.func f) first caps] (.v (.int .i64 (idxOfP p l))) := by
 refine pF Tryz.func154 ?_
 simp [go_sem]
 refine ALoop.start (ALoop.ind (α := Nat) (fun j => ⟨[(0, encPs l), (1, .fn (.func f) first caps), (7, .v (.int .i64 l.length)), (8, .v (.int .i64 j))], [], 0⟩)
  (fun d j => j + d = l.length ∧ (∀ i < j, p (nth l i) = false)) ?_ l.length 0 ?_) ?_ ?_
 ·rintro d j ⟨i1, i2⟩ hrec
  simp [go_sem]
  refine aIf.mkL (fun hj => ?_) (fun hj => ?_)
  ·simp at hj
   simp [go_sem]
   refine VC.mkL hj fun _ => ?_
   simp [go_sem, hj]
   refine ACallP.plain (hp _ (nth_mem hj)) (fun c hc => by
    rcases List.mem_append.1 hc with h | h
    ·exact hb c h
    ·rcases List.mem_cons.1 h with rfl | h
     ·exact of_eq_true (by simp [go_sem])
     ·exact hb' c h) ?_
   simp [go_sem]
   refine aIf.mkL (fun h => ?_) (fun h => ?_)
   ·simp [go_sem, idxOfP_at hj i2 h]
   ·simp [go_sem]
    refine VC.mkL (by omega) fun _ => ?_
    simp [go_sem]
    refine ALoop.start (hrec (d - 1) (by omega) (j + 1) ⟨by omega, fun i hi => ?_⟩) ?_ (by simp)
    ·rcases Nat.lt_or_ge i j with h' | h'
     ·exact i2 i h'
     ·obtain rfl : i = j := by omega
      exact h
    ·simp [go_sem, Wk_eq]
     exact ⟨hb, hb'⟩
  ·simp at hj
   simp [go_sem, idxOfP_none fun i hi => i2 i (by omega)]
 ·simp
 ·simp [go_sem, Wk_eq]
  exact ⟨hb, hb'⟩
 ·simp
theorem ContainsFuncP_pure (l : List PosD) (hl : l.length ≤ 17179869184) (f : FuncId) (first caps : List AV) (p : PosD → Bool) (hp : ∀ x ∈ l, Pure Tryz.prog f (first ++ .agg (encPos x) :: caps) (.v (.bool (p x)))) (hb : ∀ c ∈ first, Bel 0 c) (hb' : ∀ c ∈ caps, Bel 0 c) :
  Pure Tryz.prog 81 [encPs l, .fn (.func f) first caps] (.v (.bool (l.any p))) := by
 refine pF Tryz.func81 ?_
 simp [go_sem]
 refine ACallP.plain (IndexFuncP_pure l hl f first caps p hp hb hb') (by simp [go_sem]; exact ⟨hb, hb'⟩) ?_
 simp [go_sem, idxOfP_any]
theorem legal1_pure (m q : PosD) (hm : FitsP m) (hq : FitsP q) : Pure Tryz.prog 82 [.agg (encPos m), .fp (encPos q)] (.v (.bool (decide (m = q)))) := by
 refine pF Tryz.func82 ?_
 have c1 := pCompare_pure m q hm hq
 have e : decide (m = q) = decide (cmpP m q = 0) := by rw [decide_eq_decide]; exact (cmp_pos.eq m q).symm
 rw [e]
 generalize cmpP m q = x at *
 (repeat (first|with_reducible refine wV fun _=>?_|simp [go_sem]))
 refine ACallP.plain c1 (by simp [go_sem]) ?_
 (repeat (first|with_reducible refine wV fun _=>?_|simp [go_sem]))
theorem Legal_pure (g : GameD) (hg : GOk g) (p : PosD) (hp : POk g p) (q : PosD) (hq : FitsP q) : Pure Tryz.prog 23 [.agg (encGame g), .agg (encPos p), .agg (encPos q)] (.v (.bool (decide (q ∈ movesP g p)))) := by
 refine pF Tryz.func23 ?_
 have hM := Moves_pure g hg p hp
 have hml := movesP_len hg hp
 have hmf := fun m hm => ((movesP_ok hg hp) m hm).1.fits hg
 generalize movesP g p = l at *
 have hC := ContainsFuncP_pure l (by omega) 82 [] [.fp (encPos q)] (fun m => decide (m = q)) (fun m hm => legal1_pure m q (hmf m hm) hq) (by simp) (by simp [go_sem])
 have e : l.any (fun m => decide (m = q)) = decide (q ∈ l) := by
  rw [Bool.eq_iff_iff]
  simp
 rw [e] at hC
 (repeat (first|with_reducible refine wV fun _=>?_|simp [go_sem]))
 refine ACallP.plain hM (by simp [go_sem]) ?_
 (repeat (first|with_reducible refine wV fun _=>?_|simp [go_sem]))
 refine ACallP.pureF [2] hC ?_ (by simp [go_sem]) ?_
 ·(first|done|exact leX)
 ·(repeat (first|with_reducible refine wV fun _=>?_|simp [go_sem]))
end Go.Av
end
section
/- Plain: a run has few states: bounds on outcomes and moves. -/
open Go Go.Proofs
namespace Go.Av
theorem len_sub {α : Type} [DecidableEq α] : ∀ {l r : List α}, l.Nodup → (∀ x ∈ l, x ∈ r) → l.length ≤ r.length
 | [], r, _, _ => by simp
 | x :: l, r, hn, hs => by
  rw [List.nodup_cons] at hn
  have hx := hs x (by simp)
  have := len_sub (l := l) (r := r.erase x) hn.2 (fun y hy => by
   have hne : y ≠ x := fun h => hn.1 (h ▸ hy)
   exact (List.mem_erase_of_ne hne).2 (hs y (by simp [hy])))
  rw [List.length_erase_of_mem hx] at this
  have := List.length_pos_of_mem hx
  simp only [List.length_cons]
  omega
theorem addS_memK : ∀ {more l : List StD} {s : StD}, s ∈ addS l more ↔ s ∈ l ∨ s ∈ more
 | [], l, s => by simp [addS]
 | x :: more, l, s => by
  show s ∈ addS (if x ∈ l then l else l ++ [x]) more ↔ _
  rw [addS_memK]
  split
  ·rename_i h
   simp only [List.mem_cons]
   exact ⟨fun h => by rcases h with h | h <;> simp [h], fun h' => by rcases h' with h' | rfl | h' <;> simp [*]⟩
  ·simp [or_assoc]
theorem addS_nodup : ∀ {more l : List StD}, l.Nodup → (addS l more).Nodup
 | [], l, h => h
 | x :: more, l, h => by
  show (addS (if x ∈ l then l else l ++ [x]) more).Nodup
  split
  ·exact addS_nodup h
  ·rename_i hx
   refine addS_nodup (List.nodup_append.2 ⟨h, by simp, ?_⟩)
   intro a ha b hb e
   simp only [List.mem_singleton] at hb
   subst hb; subst e
   exact hx ha
theorem nextS_foldK (g : GameD) (x : Int × Int) : ∀ (now acc : List StD) (s : StD), s ∈ now.foldl (fun next s => addS next (stepS g s x)) acc ↔ s ∈ acc ∨ ∃ r ∈ now, s ∈ stepS g r x
 | [], acc, s => by simp
 | r :: now, acc, s => by
  rw [List.foldl_cons, nextS_foldK g x now, addS_memK]
  simp [or_assoc]
theorem nextS_memK {g : GameD} {x : Int × Int} {now : List StD} {s : StD} : s ∈ nextS g now x ↔ ∃ r ∈ now, s ∈ stepS g r x := by
 unfold nextS
 rw [nextS_foldK]
 simp
theorem nextS_nodupK (g : GameD) (x : Int × Int) : ∀ (now acc : List StD), acc.Nodup → (now.foldl (fun next s => addS next (stepS g s x)) acc).Nodup
 | [], acc, h => h
 | r :: now, acc, h => nextS_nodupK g x now _ (addS_nodup h)
theorem nextS_nodup (g : GameD) (now : List StD) (x : Int × Int) : (nextS g now x).Nodup := nextS_nodupK g x now [] (by simp)
theorem fold_nodup (g : GameD) : ∀ (prog : List (Int × Int)) (now : List StD), now.Nodup → (prog.foldl (nextS g) now).Nodup
 | [], now, h => h
 | x :: prog, now, _ => fold_nodup g prog _ (nextS_nodup g now x)
def curS (s : StD) (c : Int) : StD := { s with cursor := c }
def FewS (n : Nat) (l : List StD) : Prop := ∃ B : List StD, B.length ≤ n ∧ ∀ s ∈ l, ∃ t ∈ B, s = curS t s.cursor
theorem slideGo_cur {s : StD} : ∀ {l : List Int}, ∀ t ∈ slideGo s l, t = curS s t.cursor
 | [], t, h => by simp [slideGo] at h
 | c :: l, t, h => by
  rw [slideGo, List.mem_cons] at h
  rcases h with rfl | h
  ·rfl
  ·split at h
   ·exact slideGo_cur t h
   ·simp at h
def moveOp (x : Int × Int) : Bool := x.1 == 6 || x.1 == 7
theorem onlyS_mem {s t : StD} {b : Bool} (h : t ∈ onlyS s b) : t = s := by
 unfold onlyS at h
 split at h <;> simp at h
 exact h
theorem stepS_base (g : GameD) (x : Int × Int) (hx : moveOp x = false) : ∃ f : StD → StD, ∀ t c, ∀ u ∈ stepS g (curS t c) x, u = curS (f t) u.cursor := by
 simp only [moveOp, Bool.or_eq_false_iff, beq_eq_false_iff_ne] at hx
 by_cases h8 : x.1 = 8
 ·refine ⟨fun t => { t with kind := x.2 }, fun t c u hu => ?_⟩
  simp [stepS, h8] at hu
  subst hu; rfl
 by_cases h10 : x.1 = 10
 ·refine ⟨fun t => { t with p := { t.p with rights := andNotN .i64 t.p.rights (2 ^ x.2.toNat) } }, fun t c u hu => ?_⟩
  simp [stepS, h10] at hu
  subst hu; rfl
 refine ⟨id, fun t c u hu => ?_⟩
 unfold stepS at hu
 simp only [h8, h10, hx.1, hx.2, if_false] at hu
 repeat' split at hu
 ·have := onlyS_mem hu; subst this; rfl
 ·have := slideGo_cur u hu
  rw [this]; rfl
 ·have := onlyS_mem hu; subst this; rfl
 ·have := onlyS_mem hu; subst this; rfl
 ·have := onlyS_mem hu; subst this; rfl
 ·have := onlyS_mem hu; subst this; rfl
 ·simp at hu; subst hu; rfl
theorem stepS_one (g : GameD) (s : StD) (x : Int × Int) (hx : moveOp x = true) : (stepS g s x).length ≤ 1 := by
 simp only [moveOp, Bool.or_eq_true, beq_iff_eq] at hx
 unfold stepS
 rcases hx with h | h
 ·simp only [h]
  rw [if_neg (by decide), if_neg (by decide), if_neg (by decide), if_neg (by decide), if_neg (by decide), if_pos trivial]
  unfold takeS
  simp only
  split
  ·simp
  ·split
   ·split <;> simp
   ·simp
 ·simp only [h]
  rw [if_neg (by decide), if_neg (by decide), if_neg (by decide), if_neg (by decide), if_neg (by decide), if_neg (by decide), if_pos trivial]
  unfold pushS
  simp only
  split <;> simp
theorem flatMap_leK {α β : Type} (f : α → List β) (m : Nat) : ∀ (l : List α), (∀ x ∈ l, (f x).length ≤ m) → (l.flatMap f).length ≤ l.length * m
 | [], _ => by simp
 | x :: l, h => by
  have := flatMap_leK f m l (fun y hy => h y (by simp [hy]))
  have := h x (by simp)
  rw [List.flatMap_cons, List.length_append, List.length_cons, Nat.succ_mul]
  omega
theorem fewS_next {g : GameD} {now : List StD} {x : Int × Int} {n : Nat} (hc : ∀ s ∈ now, 0 ≤ s.cursor ∧ s.cursor < 9) (h : FewS n now) : FewS (n * (if moveOp x then 9 else 1)) (nextS g now x) := by
 obtain ⟨B, hB, hs⟩ := h
 by_cases hx : moveOp x = true
 ·refine ⟨B.flatMap fun t => (List.range 9).flatMap fun (c : Nat) => stepS g (curS t c) x, ?_, fun u hu => ?_⟩
  ·have h1 := flatMap_leK (fun t : StD => (List.range 9).flatMap fun (c : Nat) => stepS g (curS t c) x) 9 B (fun t _ => by
    have := flatMap_leK (fun (c : Nat) => stepS g (curS t c) x) 1 (List.range 9) (fun c _ => stepS_one g _ x hx)
    simpa using this)
   rw [if_pos hx]
   exact Nat.le_trans h1 (Nat.mul_le_mul_right 9 hB)
  ·obtain ⟨r, hr, hu⟩ := nextS_memK.1 hu
   obtain ⟨t, ht, e⟩ := hs r hr
   have := hc r hr
   refine ⟨u, List.mem_flatMap.2 ⟨t, ht, List.mem_flatMap.2 ⟨r.cursor.toNat, by simp; omega, ?_⟩⟩, rfl⟩
   rw [show ((r.cursor.toNat : Nat) : Int) = r.cursor by omega, ← e]
   exact hu
 ·simp only [Bool.not_eq_true] at hx
  obtain ⟨f, hf⟩ := stepS_base g x hx
  refine ⟨B.map f, by simp [hx]; exact hB, fun u hu => ?_⟩
  obtain ⟨r, hr, hu⟩ := nextS_memK.1 hu
  obtain ⟨t, ht, e⟩ := hs r hr
  rw [e] at hu
  exact ⟨f t, List.mem_map_of_mem ht, hf t _ u hu⟩
theorem next_ok {g : GameD} (hg : GOk g) {now : List StD} {x : Int × Int} (hx : StepOk g.next.length g.kinds.length g.rights x) (hn : ∀ s ∈ now, StOk g s) : ∀ s ∈ nextS g now x, StOk g s := by
 intro s hs
 obtain ⟨r, hr, hs⟩ := nextS_memK.1 hs
 exact (stepS_ok hg (hn r hr) hx s hs).1
theorem fewS_fold {g : GameD} (hg : GOk g) : ∀ (prog : List (Int × Int)) (now : List StD) (n : Nat), (∀ x ∈ prog, StepOk g.next.length g.kinds.length g.rights x) → (∀ s ∈ now, StOk g s) → FewS n now →
  FewS (n * 9 ^ prog.countP moveOp) (prog.foldl (nextS g) now)
 | [], now, n, _, _, h => by simpa using h
 | x :: prog, now, n, hp, hn, h => by
  have h9 := hg.c9
  have h1 := fewS_next (g := g) (x := x) (fun s hs => ⟨(hn s hs).c0, by have := (hn s hs).c1; omega⟩) h
  have h2 := fewS_fold hg prog _ _ (fun y hy => hp y (by simp [hy])) (next_ok hg (hp x (by simp)) hn) h1
  rw [List.foldl_cons, List.countP_cons]
  have e : n * (if moveOp x = true then 9 else 1) * 9 ^ prog.countP moveOp = n * 9 ^ (prog.countP moveOp + if moveOp x = true then 1 else 0) := by
   by_cases hx : moveOp x = true
   ·rw [if_pos hx, if_pos hx, Nat.pow_succ, Nat.mul_assoc, Nat.mul_comm 9]
   ·rw [if_neg hx, if_neg hx, Nat.mul_one, Nat.add_zero]
  rw [← e]
  exact h2
theorem fewS_len {l : List StD} {n : Nat} (hn : l.Nodup) (hc : ∀ s ∈ l, 0 ≤ s.cursor ∧ s.cursor < 9) (h : FewS n l) : l.length ≤ n * 9 := by
 obtain ⟨B, hB, hs⟩ := h
 have h1 := len_sub (r := B.flatMap fun t => (List.range 9).map fun (c : Nat) => curS t c) hn (fun s h => by
  obtain ⟨t, ht, e⟩ := hs s h
  have := hc s h
  refine List.mem_flatMap.2 ⟨t, ht, List.mem_map.2 ⟨s.cursor.toNat, by simp; omega, ?_⟩⟩
  rw [show ((s.cursor.toNat : Nat) : Int) = s.cursor by omega, ← e])
 have h2 := flatMap_leK (fun t : StD => (List.range 9).map fun (c : Nat) => curS t c) 9 B (fun t _ => by simp)
 exact Nat.le_trans h1 (Nat.le_trans h2 (Nat.mul_le_mul_right 9 hB))
theorem countP_move (prog : List (Int × Int)) : prog.countP moveOp ≤ countOp prog 6 + countOp prog 7 := by
 unfold countOp
 induction prog with
 | nil => simp
 | cons x l ih =>
  simp only [List.countP_cons, moveOp]
  by_cases h6 : x.1 = 6
  ·simp [h6]; omega
  ·by_cases h7 : x.1 = 7
   ·simp [h7]; omega
   ·simp [h6, h7]; omega
theorem lastS_len {g : GameD} (hg : GOk g) {p : PosD} (hp : POk g p) {cell i : Int} (hc : ChoiceOk g p cell i) : (lastS g p cell (progOf g p cell i)).length ≤ 6561 := by
 have hpg := prog_ok hg hp hc
 have hst := (startS_ok hg hp hc.c0 hc.c1 hc.man).1
 have h1 := fewS_fold hg (progOf g p cell i) [startS p cell] 1 hpg.st (fun s hs => by simp at hs; subst hs; exact hst) ⟨[startS p cell], by simp, fun s hs => ⟨s, hs, rfl⟩⟩
 have h9 := hg.c9
 have h2 := fewS_len (fold_nodup g (progOf g p cell i) [startS p cell] (by simp)) (fun s hs => by
  have := ((lastS_ok hg hp hc).1 s hs).1
  exact ⟨this.c0, by have := this.c1; omega⟩) h1
 have h3 : (progOf g p cell i).countP moveOp ≤ 3 := by
  have := countP_move (progOf g p cell i)
  have := hpg.take
  have := hpg.push
  omega
 have h4 : 9 ^ (progOf g p cell i).countP moveOp ≤ 9 ^ 3 := Nat.pow_le_pow_right (by omega) h3
 have h5 : (lastS g p cell (progOf g p cell i)).length ≤ 1 * 9 ^ (progOf g p cell i).countP moveOp * 9 := h2
 omega
theorem runsP_len2 {g : GameD} (hg : GOk g) {p : PosD} (hp : POk g p) {cell i : Int} (hc : ChoiceOk g p cell i) : (runsP g p cell i).length ≤ 6561 := by
 unfold runsP
 have h1 := sortU_le cmpO ((lastS g p cell (progOf g p cell i)).filterMap (putS p.side))
 have h2 : ((lastS g p cell (progOf g p cell i)).filterMap (putS p.side)).length ≤ (lastS g p cell (progOf g p cell i)).length := List.length_filterMap_le _ _
 have h3 := lastS_len hg hp hc
 omega
theorem outsAt_len2 {g : GameD} (hg : GOk g) {p : PosD} (hp : POk g p) {c : Nat} (hc : c < p.at_.length) : (outsAt g p c).length ≤ 52488 := by
 unfold outsAt
 split
 ·rename_i hm
  have hal := hp.al
  have hk := kind_lt hg hp (cell := c) (by omega) (by omega) (by simpa using hm.1)
  have hpn := hg.pn _ (nth_mem (by simpa using hk))
  have := flatMap_range_le (fun (i : Nat) => runsP g p c i) 6561 (nth g.kinds (manOf (nth p.at_ c)).1.toNat).progs.length (fun i hi => runsP_len2 hg hp (choice_of hp hc hm hi))
  omega
 ·simp
theorem outsK_len2 {g : GameD} (hg : GOk g) {p : PosD} (hp : POk g p) {k : Nat} (hk : k ≤ p.at_.length) : ((List.range k).flatMap (outsAt g p)).length ≤ 472392 := by
 have := flatMap_range_le (outsAt g p) 52488 k (fun c hc => outsAt_len2 hg hp (by omega))
 have h9 := hg.c9
 have hal := hp.al
 omega
theorem outsP_len2 {g : GameD} (hg : GOk g) {p : PosD} (hp : POk g p) : (outsP g p).length ≤ 472392 := outsK_len2 hg hp (Nat.le_refl _)
theorem movesL_len2 {g : GameD} (hg : GOk g) {p : PosD} (hp : POk g p) : (movesL g p).length ≤ 472446 := by
 unfold movesL
 have h1 := outsP_len2 hg hp
 have h2 := dropsP_len hg hp
 have h3 : ((outsP g p).filter fun o => !mustP g p || o.took).length ≤ (outsP g p).length := List.length_filter_le _ _
 rw [List.length_append, List.length_map]
 split <;> simp <;> omega
theorem movesP_len2 {g : GameD} (hg : GOk g) {p : PosD} (hp : POk g p) : (movesP g p).length ≤ 472446 := by
 unfold movesP
 split
 ·simp
 ·exact Nat.le_trans (sortU_le cmpP _) (movesL_len2 hg hp)
end Go.Av
end
section
/- Plain: positions in sorted lists; what is a move. -/
open Go Go.Proofs
namespace Go.Av
abbrev Inc (l : List PosD) : Prop := l.Pairwise (fun a b => cmpP a b < 0)
theorem Inc.lt {l : List PosD} (h : Inc l) {i j : Nat} (hij : i < j) (hj : j < l.length) : cmpP (nth l i) (nth l j) < 0 := by
 rw [nth_eq _ _ (by omega), nth_eq _ _ hj]
 exact List.pairwise_iff_getElem.1 h _ _ _ _ hij
theorem Inc.sign {l : List PosD} (h : Inc l) {i j : Nat} (hi : i < l.length) (hj : j < l.length) : (cmpP (nth l i) (nth l j) = 0 ↔ i = j) ∧ (cmpP (nth l i) (nth l j) < 0 ↔ i < j) := by
 have hs := cmp_pos.swap (nth l i) (nth l j)
 rcases Nat.lt_trichotomy i j with h' | h' | h'
 ·have := h.lt h' hj
  exact ⟨⟨by omega, by omega⟩, ⟨by omega, by omega⟩⟩
 ·subst h'
  have := (cmp_pos.eq (nth l i) (nth l i)).2 rfl
  exact ⟨⟨by omega, by omega⟩, ⟨by omega, by omega⟩⟩
 ·have := h.lt h' hi
  exact ⟨⟨by omega, by omega⟩, ⟨by omega, by omega⟩⟩
theorem Inc.inj {l : List PosD} (h : Inc l) {i j : Nat} (hi : i < l.length) (hj : j < l.length) (e : nth l i = nth l j) : i = j :=
 (h.sign hi hj).1.1 ((cmp_pos.eq _ _).2 e)
theorem mem_nth {α : Type} [Inhabited α] {l : List α} {x : α} (h : x ∈ l) : ∃ j, j < l.length ∧ nth l j = x := by
 obtain ⟨j, hj, rfl⟩ := List.getElem_of_mem h
 exact ⟨j, hj, nth_eq _ _ hj⟩
def lowP : List PosD → PosD → Nat
 | [], _ => 0
 | q :: l, p => if cmpP q p < 0 then lowP l p + 1 else 0
theorem lowP_le : ∀ (l : List PosD) (p : PosD), lowP l p ≤ l.length
 | [], p => by simp [lowP]
 | q :: l, p => by
  have := lowP_le l p
  rw [lowP, List.length_cons]
  split <;> omega
theorem lowP_lt {p : PosD} : ∀ {l : List PosD} {h : Nat}, h < lowP l p → cmpP (nth l h) p < 0
 | [], h, hl => by simp [lowP] at hl
 | q :: l, h, hl => by
  rw [lowP] at hl
  split at hl
  ·cases h with
   | zero => rw [nth_zero]; assumption
   | succ h => rw [nth_succ]; exact lowP_lt (by omega)
  ·omega
theorem lowP_ge {p : PosD} : ∀ {l : List PosD}, Inc l → ∀ {h : Nat}, lowP l p ≤ h → h < l.length → ¬ cmpP (nth l h) p < 0
 | [], _, h, _, hl => by simp at hl
 | q :: l, hi, h, hl, hn => by
  have hi := List.pairwise_cons.1 hi
  rw [lowP] at hl
  split at hl
  ·cases h with
   | zero => omega
   | succ h => rw [nth_succ]; exact lowP_ge hi.2 (by omega) (by simpa using hn)
  ·rename_i hq
   cases h with
   | zero => rw [nth_zero]; exact hq
   | succ h =>
    rw [nth_succ]
    intro hr
    have hm : nth l h ∈ l := nth_mem (by simpa using hn)
    have h1 := hi.1 _ hm
    have h2 := cmp_pos.tr q (nth l h) p (by omega) (by omega)
    have e := (cmp_pos.eq q p).1 (by omega)
    subst e
    have := cmp_pos.swap q (nth l h)
    omega
theorem lowP_iff {l : List PosD} (hi : Inc l) (p : PosD) {h : Nat} (hn : h < l.length) : cmpP (nth l h) p < 0 ↔ h < lowP l p := by
 constructor
 ·intro hc
  rcases Nat.lt_or_ge h (lowP l p) with h' | h'
  ·exact h'
  ·exact absurd hc (lowP_ge hi h' hn)
 ·exact lowP_lt
theorem lowP_mem {l : List PosD} (hi : Inc l) (p : PosD) : p ∈ l ↔ lowP l p < l.length ∧ nth l (lowP l p) = p := by
 constructor
 ·intro hp
  obtain ⟨j, hj, rfl⟩ := mem_nth hp
  have h0 := (cmp_pos.eq (nth l j) (nth l j)).2 rfl
  have h1 : ¬ j < lowP l (nth l j) := fun h => by
   have := lowP_lt h
   omega
  rcases Nat.lt_or_ge (lowP l (nth l j)) j with h' | h'
  ·have h2 := hi.lt h' hj
   have h3 := (lowP_iff hi (nth l j) (by omega)).1 h2
   omega
  ·have e : lowP l (nth l j) = j := by omega
   rw [e]
   exact ⟨hj, rfl⟩
 ·rintro ⟨h1, h2⟩
  rw [← h2]
  exact nth_mem h1
end Go.Av
end
section
/- Plain: searches, layer by layer. -/
open Go Go.Proofs
namespace Go.Av
def addK (known nx : List PosD) (q : PosD) : List PosD := if q ∈ known ++ nx then nx else nx ++ [q]
def nextP (g : GameD) (known now : List PosD) : List PosD := (now.flatMap (movesP g)).foldl (addK known) []
def layersP (g : GameD) (b : Int) : Nat → List PosD → List PosD → List (List PosD × Bool)
 | 0, _, _ => []
 | f + 1, known, now => if b < known.length then [(now, false)] else if nextP g known now = [] then [(now, true)] else (now, false) :: layersP g b f (known ++ nextP g known now) (sortU cmpP (nextP g known now))
def budP (n : Int) : Int := if n < 0 then 0 else if 4000 < n then 4000 else n
def searchP (g : GameD) (p : PosD) (n : Int) : List (List PosD × Bool) := layersP g (budP n) ((budP n).toNat + 2) [p] [p]
theorem budP_range (n : Int) : 0 ≤ budP n ∧ budP n ≤ 4000 := by
 unfold budP
 split <;> (try split) <;> omega
theorem addK_fold_mem (known : List PosD) : ∀ (l nx : List PosD) (q : PosD), q ∈ l.foldl (addK known) nx ↔ q ∈ nx ∨ q ∈ l ∧ q ∉ known
 | [], nx, q => by simp
 | r :: l, nx, q => by
  rw [List.foldl_cons, addK_fold_mem known l]
  unfold addK
  by_cases hr : r ∈ known ++ nx
  ·rw [if_pos hr]
   rw [List.mem_append] at hr
   constructor
   ·rintro (h | ⟨h1, h2⟩)
    ·exact .inl h
    ·exact .inr ⟨List.mem_cons_of_mem _ h1, h2⟩
   ·rintro (h | ⟨h1, h2⟩)
    ·exact .inl h
    ·rcases List.mem_cons.1 h1 with rfl | h1
     ·rcases hr with hr | hr
      ·exact absurd hr h2
      ·exact .inl hr
     ·exact .inr ⟨h1, h2⟩
  ·rw [if_neg hr]
   rw [List.mem_append, not_or] at hr
   constructor
   ·rintro (h | ⟨h1, h2⟩)
    ·rcases List.mem_append.1 h with h | h
     ·exact .inl h
     ·simp only [List.mem_singleton] at h
      subst h
      exact .inr ⟨by simp, hr.1⟩
    ·exact .inr ⟨List.mem_cons_of_mem _ h1, h2⟩
   ·rintro (h | ⟨h1, h2⟩)
    ·exact .inl (List.mem_append.2 (.inl h))
    ·rcases List.mem_cons.1 h1 with rfl | h1
     ·exact .inl (by simp)
     ·exact .inr ⟨h1, h2⟩
theorem addK_fold_nodup (known : List PosD) : ∀ (l nx : List PosD), nx.Nodup → (l.foldl (addK known) nx).Nodup
 | [], nx, h => h
 | r :: l, nx, h => by
  rw [List.foldl_cons]
  refine addK_fold_nodup known l _ ?_
  unfold addK
  split
  ·exact h
  ·rename_i hr
   rw [List.mem_append, not_or] at hr
   refine List.nodup_append.2 ⟨h, by simp, ?_⟩
   intro a ha b hb e
   simp only [List.mem_singleton] at hb
   subst hb; subst e
   exact hr.2 ha
theorem addK_fold_len (known : List PosD) : ∀ (l nx : List PosD), (l.foldl (addK known) nx).length ≤ nx.length + l.length
 | [], nx => by simp
 | r :: l, nx => by
  rw [List.foldl_cons]
  have := addK_fold_len known l (addK known nx r)
  have h2 : (addK known nx r).length ≤ nx.length + 1 := by unfold addK; split <;> simp
  simp only [List.length_cons]
  omega
theorem nextP_mem {g : GameD} {known now : List PosD} {q : PosD} : q ∈ nextP g known now ↔ (∃ r ∈ now, q ∈ movesP g r) ∧ q ∉ known := by
 unfold nextP
 rw [addK_fold_mem, List.mem_flatMap]
 simp
theorem nextP_nodup (g : GameD) (known now : List PosD) : (nextP g known now).Nodup := addK_fold_nodup known _ [] (by simp)
theorem known_nodup {g : GameD} {known now : List PosD} (h : known.Nodup) : (known ++ nextP g known now).Nodup :=
 List.nodup_append.2 ⟨h, nextP_nodup g known now, fun a ha b hb e => (nextP_mem.1 hb).2 (e ▸ ha)⟩
theorem nextP_ok {g : GameD} (hg : GOk g) {known now : List PosD} (hn : ∀ p ∈ now, POk g p) : ∀ q ∈ nextP g known now, POk g q := fun q hq => by
 obtain ⟨⟨r, hr, hm⟩, _⟩ := nextP_mem.1 hq
 exact (movesP_ok hg (hn r hr) q hm).1
theorem flatMap_moves_len {g : GameD} (hg : GOk g) : ∀ {now : List PosD}, (∀ p ∈ now, POk g p) → (now.flatMap (movesP g)).length ≤ now.length * 472446
 | [], _ => by simp
 | p :: now, h => by
  have h1 := flatMap_moves_len hg (now := now) fun q hq => h q (by simp [hq])
  have h2 := movesP_len2 hg (h p (by simp))
  rw [List.flatMap_cons, List.length_append, List.length_cons, Nat.succ_mul]
  omega
theorem nextP_len {g : GameD} (hg : GOk g) {known now : List PosD} (hn : ∀ p ∈ now, POk g p) : (nextP g known now).length ≤ now.length * 472446 := by
 have h1 := addK_fold_len known (now.flatMap (movesP g)) []
 have h2 := flatMap_moves_len hg hn
 unfold nextP
 simp only [List.length_nil] at h1
 omega
theorem sortU_nodup_len {l : List PosD} (h : l.Nodup) : (sortU cmpP l).length = l.length := by
 refine Nat.le_antisymm (sortU_le _ _) (len_sub h fun x hx => sortU_mem.2 hx)
structure SearchOk (g : GameD) (known now : List PosD) : Prop where
 nd : known.Nodup
 sub : ∀ q ∈ now, q ∈ known
 inc : Inc now
 ok : ∀ q ∈ known, POk g q
theorem SearchOk.start {g : GameD} {p : PosD} (hp : POk g p) : SearchOk g [p] [p] :=
 ⟨by simp, fun q hq => hq, by simp [Inc], fun q hq => by simp only [List.mem_singleton] at hq; subst hq; exact hp⟩
theorem SearchOk.next {g : GameD} (hg : GOk g) {known now : List PosD} (h : SearchOk g known now) : SearchOk g (known ++ nextP g known now) (sortU cmpP (nextP g known now)) :=
 ⟨known_nodup h.nd, fun q hq => List.mem_append.2 (.inr (sortU_mem.1 hq)), sortU_pw cmp_pos _, fun q hq => by
  rcases List.mem_append.1 hq with hq | hq
  ·exact h.ok q hq
  ·exact nextP_ok hg (fun r hr => h.ok r (h.sub r hr)) q hq⟩
theorem SearchOk.now_len {g : GameD} {known now : List PosD} (h : SearchOk g known now) : now.length ≤ known.length := len_sub (by
  refine List.Pairwise.imp ?_ h.inc
  intro a b hab e
  have := (cmp_pos.eq a b).2 e
  omega) h.sub
theorem SearchOk.now_ok {g : GameD} {known now : List PosD} (h : SearchOk g known now) : ∀ q ∈ now, POk g q := fun q hq => h.ok q (h.sub q hq)
end Go.Av
end
section
/- Plain: what a search sees. -/
open Go Go.Proofs
namespace Go.Av
def fullP : List (List PosD × Bool) → Bool
 | [] => false
 | [x] => x.2
 | _ :: l => fullP l
theorem fullP_nth : ∀ {L : List (List PosD × Bool)}, L ≠ [] → fullP L = (nth L (L.length - 1)).2
 | [], h => absurd rfl h
 | [x], _ => rfl
 | x :: y :: l, _ => by
  have := fullP_nth (L := y :: l) (by simp)
  rw [fullP, this]
  ·simp only [List.length_cons, Nat.add_sub_cancel]
   rw [nth_succ]
  ·simp
theorem layersP_ne (g : GameD) (b : Int) (f : Nat) (known now : List PosD) : layersP g b (f + 1) known now ≠ [] := by
 rw [layersP]
 split
 ·simp
 ·split <;> simp
theorem layersP_ok {g : GameD} (hg : GOk g) (b : Int) : ∀ (f : Nat) {known now : List PosD}, SearchOk g known now → ∀ x ∈ layersP g b f known now, Inc x.1 ∧ ∀ q ∈ x.1, POk g q
 | 0, known, now, h, x, hx => by simp [layersP] at hx
 | f + 1, known, now, h, x, hx => by
  rw [layersP] at hx
  split at hx
  ·simp only [List.mem_singleton] at hx
   subst hx
   exact ⟨h.inc, h.now_ok⟩
  ·split at hx
   ·simp only [List.mem_singleton] at hx
    subst hx
    exact ⟨h.inc, h.now_ok⟩
   ·rcases List.mem_cons.1 hx with rfl | hx
    ·exact ⟨h.inc, h.now_ok⟩
    ·exact layersP_ok hg b f (h.next hg) x hx
def allOf (L : List (List PosD × Bool)) : List PosD := L.flatMap (·.1)
theorem layersP_all {g : GameD} (hg : GOk g) {b : Int} (hb : b ≤ 4000) : ∀ (f : Nat) {known now : List PosD}, SearchOk g known now →
  (allOf (layersP g b f known now)).length ≤ now.length + (if known.length ≤ b.toNat then 1889784000 + (b.toNat - known.length) else 0)
 | 0, known, now, h => by simp [layersP, allOf]
 | f + 1, known, now, h => by
  rw [layersP]
  split
  ·simp [allOf]
  ·rename_i hk
   split
   ·simp [allOf]
   ·have ih := layersP_all hg hb f (h.next hg)
    have e : allOf ((now, false) :: layersP g b f (known ++ nextP g known now) (sortU cmpP (nextP g known now))) = now ++ allOf (layersP g b f (known ++ nextP g known now) (sortU cmpP (nextP g known now))) := rfl
    rw [e, List.length_append]
    have hs := sortU_nodup_len (nextP_nodup g known now)
    have hl : (known ++ nextP g known now).length = known.length + (nextP g known now).length := List.length_append
    have hn := nextP_len hg (known := known) h.now_ok
    have hnl := h.now_len
    have h4 : now.length * 472446 ≤ 1889784000 := by omega
    rw [hs, hl] at ih
    rw [if_pos (by omega)]
    split at ih <;> omega
theorem searchP_len {g : GameD} (hg : GOk g) {p : PosD} (hp : POk g p) (n : Int) : (allOf (searchP g p n)).length ≤ 1889788001 := by
 have hb := budP_range n
 have := layersP_all hg hb.2 ((budP n).toNat + 2) (SearchOk.start hp)
 unfold searchP
 generalize layersP g (budP n) ((budP n).toNat + 2) [p] [p] = L at *
 simp only [List.length_singleton] at this
 split at this <;> omega
theorem searchP_ok {g : GameD} (hg : GOk g) {p : PosD} (hp : POk g p) (n : Int) : ∀ x ∈ searchP g p n, Inc x.1 ∧ ∀ q ∈ x.1, POk g q := layersP_ok hg _ _ (SearchOk.start hp)
theorem searchP_ne (g : GameD) (p : PosD) (n : Int) : searchP g p n ≠ [] := layersP_ne g _ _ _ _
theorem allOf_ok {g : GameD} (hg : GOk g) {p : PosD} (hp : POk g p) (n : Int) : ∀ q ∈ allOf (searchP g p n), POk g q := fun q hq => by
 obtain ⟨x, hx, hq⟩ := List.mem_flatMap.1 hq
 exact (searchP_ok hg hp n x hx).2 q hq
def seenP (g : GameD) (p : PosD) (n : Int) : List PosD := sortU cmpP (allOf (searchP g p n))
end Go.Av
end
section
/- Plain: the least game through layers of positions. -/
open Go Go.Proofs
namespace Go.Av
end Go.Av
end
section
/- Contracts: pos.Find (and the search by halves), Find of the reference, in sorted lists. -/
open Go Go.Proofs
namespace Go.Av
theorem BSearch_pure (l : List PosD) (hi : Inc l) (hl : l.length ≤ 17179869184) (hf : ∀ q ∈ l, FitsP q) (p : PosD) (hp : FitsP p) :
  Pure Tryz.prog 158 [encPs l, .agg (encPos p), .fn (.func 83) [] []] (.tup [.v (.int .i64 (lowP l p)), .v (.bool (decide (p ∈ l)))]) := by
 refine pF Tryz.func158 ?_
 have hle := lowP_le l p
 have hmem := lowP_mem hi p
 have hiff := fun h hn => lowP_iff hi p (h := h) hn
 generalize lowP l p = w at *
 (repeat (first|with_reducible refine wV fun _=>?_|simp [go_sem]))
 refine ALoop.start (ALoop.ind (α := Nat × Nat) (fun a => ⟨[(0, encPs l), (2, .fn (.func 83) [] []), (4, .ref 0 0 5 0 0), (8, .v (.int .i64 l.length)), (9, .v (.int .i64 a.1)), (10, .v (.int .i64 a.2))], [(0, .rows true 0 5 [encPos p])], 1⟩)
  (fun d a => a.2 - a.1 ≤ d ∧ a.1 ≤ w ∧ w ≤ a.2 ∧ a.2 ≤ l.length) ?_ l.length (0, l.length) ?_) ?_ ?_
 ·rintro d ⟨i, j⟩ ⟨i1, i2, i3, i4⟩ hrec
  simp only at i1 i2 i3 i4
  have hdiv : ((i : Int) + j).fdiv 2 = ((i + j) / 2 : Nat) := by rw [Int.fdiv_eq_ediv_of_nonneg _ (by omega)]; omega
  (repeat (first|with_reducible refine wV fun _=>?_|simp [go_sem]))
  refine aIf.mkL (fun hlt => ?_) (fun hlt => ?_) <;> simp at hlt
  ·have hm : (i + j) / 2 < l.length := by omega
   have hm2 : i ≤ (i + j) / 2 ∧ (i + j) / 2 < j := by omega
   generalize hmid : (i + j) / 2 = mid at *
   (repeat (first|with_reducible refine wV fun _=>?_|simp [go_sem, hdiv, hm]))
   refine dCall.plain (pCompare_pure (nth l mid) p (hf _ (nth_mem hm)) hp) (by simp [go_sem]) ?_
   have hi2 := hiff mid hm
   generalize cmpP (nth l mid) p = c at *
   (repeat (first|with_reducible refine wV fun _=>?_|simp [go_sem]))
   refine aIf.mkL (fun hc => ?_) (fun hc => ?_) <;> simp at hc
   ·have := hi2.1 hc
    (repeat (first|with_reducible refine wV fun _=>?_|simp [go_sem]))
    refine ALoop.start (hrec (d - 1) (by omega) (mid + 1, j) ⟨by simp only; omega, by simp only; omega, by simp only; omega, by simp only; omega⟩) ?_ (by simp)
    simp [go_sem, Wk_eq]
   ·have : ¬ mid < w := fun h => by have := hi2.2 h; omega
    (repeat (first|with_reducible refine wV fun _=>?_|simp [go_sem]))
    refine ALoop.start (hrec (d - 1) (by omega) (i, mid) ⟨by simp only; omega, by simp only; omega, by simp only; omega, by simp only; omega⟩) ?_ (by simp)
    simp [go_sem, Wk_eq]
  ·obtain rfl : i = w := by omega
   by_cases hw : i < l.length
   ·have hC := pCompare_pure (nth l i) p (hf _ (nth_mem hw)) hp
    have e : decide (p ∈ l) = decide (cmpP (nth l i) p = 0) := by
     rw [decide_eq_decide, hmem, cmp_pos.eq]
     exact ⟨fun h => h.2, fun h => ⟨hw, h⟩⟩
    rw [e]
    generalize cmpP (nth l i) p = c at *
    (repeat (first|with_reducible refine wV fun _=>?_|simp [go_sem, hw]))
    refine dGC.plain _ (fun _ => hC) (by simp [go_sem]) ?_
    (repeat (first|with_reducible refine wV fun _=>?_|simp [go_sem, hw]))
   ·have e : decide (p ∈ l) = false := decide_eq_false fun h => hw (hmem.1 h).1
    rw [e]
    (repeat (first|with_reducible refine wV fun _=>?_|simp [go_sem, hw]))
    refine dGC.skip (.v (.int .i64 0)) ?_
    (repeat (first|with_reducible refine wV fun _=>?_|simp [go_sem, hw]))
 ·exact ⟨by simp, by simp, hle, by simp⟩
 ·simp [go_sem, Wk_eq]
 ·simp
end Go.Av
end
section
/- Contracts: the layers of a search (reach.layers). -/
open Go Go.Proofs
namespace Go.Av
theorem keyP_toList (p : PosD) : (keyP p).data.toList = (allP p).map fun n => UInt8.ofNat n.toNat := by
 unfold keyP
 simp [strOf_toList]
theorem keyP_inj {g : GameD} (hg : GOk g) {a b : PosD} (ha : POk g a) (hb : POk g b) (h : keyP a = keyP b) : a = b := by
 have h2 : allP a = allP b := map_u8_inj (allP_ok hg ha) (allP_ok hg hb) (by rw [← keyP_toList, ← keyP_toList, h])
 have a1 := ha.al
 have b1 := hb.al
 have a2 := ha.h0.len
 have b2 := hb.h0.len
 have a3 := ha.h1.len
 have b3 := hb.h1.len
 obtain ⟨pat, ph0, ph1, pr, ps⟩ := a
 obtain ⟨qat, qh0, qh1, qr, qs⟩ := b
 simp only [allP, List.append_assoc] at h2 a1 b1 a2 b2 a3 b3
 obtain ⟨e3, h3⟩ := List.append_inj h2 (by omega)
 obtain ⟨e4, h4⟩ := List.append_inj h3 (by omega)
 obtain ⟨e5, h5⟩ := List.append_inj h4 (by omega)
 simp only [List.cons.injEq, and_true] at h5
 rw [e3, e4, e5, h5.1, h5.2]
def kRowP (q : PosD) : List AV := [.v (.string (keyP q)), .v (.bool true)]
theorem bel_kRowP {n : Nat} {l : List PosD} : (∀ r ∈ l.map kRowP, ∀ c ∈ r, Bel n c) = True := by
 refine eq_true ?_
 intro r hr c hc
 obtain ⟨x, _, rfl⟩ := List.mem_map.1 hr
 simp only [kRowP, List.mem_cons, List.not_mem_nil, or_false] at hc
 rcases hc with rfl | rfl <;> exact .v _
attribute [go_sem ↓] bel_kRowP
theorem find_keysP (t : PosD) : ∀ (next : List PosD), (∀ s ∈ next, keyP t = keyP s → t = s) → mapFind .string (.v (.string (keyP t))) (next.map kRowP) = some (if t ∈ next then some (.v (.bool true)) else none)
 | [], _ => by simp [mapFind]
 | s :: next, h => by
  rw [List.map_cons, mapFind]
  have e : keyEq .string (.v (.string (keyP t))) (cel (kRowP s) 0) = some (keyP t == keyP s) := rfl
  rw [e, bytes_beq]
  by_cases hk : keyP t = keyP s
  ·have := h s (by simp) hk
   subst this
   simp [kRowP, cel]
  ·have hne : t ≠ s := fun e => hk (by rw [e])
   rw [decide_eq_false hk]
   simp only
   rw [find_keysP t next (fun u hu => h u (by simp [hu]))]
   simp [hne]
theorem put_keysP (t : PosD) : ∀ (next : List PosD), (∀ s ∈ next, keyP t = keyP s → t = s) → t ∉ next → mapPut .string (.v (.string (keyP t))) (.v (.bool true)) (next.map kRowP) = some ((next ++ [t]).map kRowP)
 | [], _, _ => by simp [mapPut, kRowP]
 | s :: next, h, hn => by
  rw [List.map_cons, mapPut]
  have e : keyEq .string (.v (.string (keyP t))) (cel (kRowP s) 0) = some (keyP t == keyP s) := rfl
  rw [e, bytes_beq]
  have hk : keyP t ≠ keyP s := fun e => hn (by rw [h s (by simp) e]; simp)
  rw [decide_eq_false hk]
  simp only
  rw [put_keysP t next (fun u hu => h u (by simp [hu])) (fun hm => hn (by simp [hm]))]
  simp
def rowL (x : List PosD × Bool) : List AV := [encPs x.1, .v (.bool x.2)]
theorem bel_rowL {n : Nat} {L : List (List PosD × Bool)} : (∀ r ∈ L.map rowL, ∀ c ∈ r, Bel n c) = True := by
 refine eq_true ?_
 intro r hr c hc
 obtain ⟨x, _, rfl⟩ := List.mem_map.1 hr
 simp only [rowL, List.mem_cons, List.not_mem_nil, or_false] at hc
 rcases hc with rfl | rfl
 ·exact of_eq_true bel_Ps
 ·exact .v _
attribute [go_sem ↓] bel_rowL
def nxI (g : GameD) (known now : List PosD) (i : Nat) : List PosD := ((now.take i).flatMap (movesP g)).foldl (addK known) []
theorem nxI_succ (g : GameD) (known now : List PosD) {i : Nat} (hi : i < now.length) : nxI g known now (i + 1) = (movesP g (nth now i)).foldl (addK known) (nxI g known now i) := by
 unfold nxI
 rw [List.take_add_one, List.getElem?_eq_getElem hi, nth_eq _ _ hi, Option.toList_some, List.flatMap_append, List.foldl_append]
 simp
theorem nxI_all (g : GameD) (known now : List PosD) : nxI g known now now.length = nextP g known now := by
 unfold nxI nextP
 rw [List.take_length]
theorem foldK_succ (known nx : List PosD) (l : List PosD) {j : Nat} (hj : j < l.length) : (l.take (j + 1)).foldl (addK known) nx = addK known ((l.take j).foldl (addK known) nx) (nth l j) := by
 rw [List.take_add_one, List.getElem?_eq_getElem hj, nth_eq _ _ hj, Option.toList_some, List.foldl_append]
 rfl
theorem kKey_pure {g : GameD} (hg : GOk g) {p : PosD} (hp : POk g p) : Pure Tryz.prog 166 [.agg (encPos p)] (.v (.string (keyP p))) := by
 have := hp.al
 have := hg.c9
 have := hg.k6
 have := hp.h0.len
 have := hp.h1.len
 exact Key_pure p (by omega) (by omega) (by omega) (allP_ok hg hp)
theorem layersF_seq (g : GameD) (hg : GOk g) (p : PosD) (hp : POk g p) (b : Int) (hb : 0 ≤ b ∧ b ≤ 4000) :
  PSeq Tryz.prog 165 [.fp (encPos p), .fp [.v (.int .i64 b)], .fp (encGame g)] 0 ((layersP g b (b.toNat + 2) [p] [p]).map rowL) := by
 refine PSeq.of_awp (by kernel_rfl) Tryz.func165 rfl rfl (Nat.le_of_ble_eq_true rfl) (by kernel_rfl) (fun l => ?_) (hm2 := by decide)
 have hgb : ∀ (n : Nat) (L : List (List PosD × Bool)), Bel n (ghost l 0 (L.map rowL)) := fun n L => by
  simp only [ghost, Bel_gd, Bel_tup, List.forall_mem_cons, Bel_v, Bel_lst]
  simp [go_sem]
 have hK0 := kKey_pure hg hp
 (repeat (first|with_reducible refine wV fun _=>?_|simp [go_sem, GH]))
 refine dCall.plain hK0 (by simp [go_sem]) ?_
 (repeat (first|with_reducible refine wV fun _=>?_|simp [go_sem, GH, mapPut]))
 refine ALoop.start (ALoop.ind (α := List PosD × List PosD × List (List PosD × Bool)) (fun a => ⟨[(0, .fn (.yield l) [] []), (2, .fp [.v (.int .i64 b)]), (3, .fp (encGame g)), (5, .mp 0), (6, encPs a.2.1), (1000000007, ghost l 0 (a.2.2.map rowL))], [(0, .rows true 0 2 (a.1.map kRowP))], 1⟩)
  (fun d a => SearchOk g a.1 a.2.1 ∧ 1 ≤ d ∧ b.toNat + 2 ≤ a.1.length + d ∧ a.1.length ≤ 4000 + 4000 * 472446 ∧ a.2.2 = layersP g b d a.1 a.2.1) ?_ (b.toNat + 2) ([p], [p], layersP g b (b.toNat + 2) [p] [p]) ?_) ?_ ?_
 ·rintro d ⟨known, now, L⟩ ⟨i1, i2, i3, i4, i5⟩ hrec
  simp only at i1 i2 i3 i4 i5
  obtain ⟨d, rfl⟩ : ∃ d', d = d' + 1 := ⟨d - 1, by omega⟩
  rw [layersP] at i5
  (repeat (first|with_reducible refine wV fun _=>?_|simp [go_sem, GH]))
  refine aIf.mkL (fun hk => ?_) (fun hk => ?_) <;> simp at hk
  ·rw [if_pos hk] at i5
   subst i5
   (repeat (first|with_reducible refine wV fun _=>?_|simp [go_sem, GH]))
   refine aYld.mk (more := 0) (xs := rowL (now, false)) (rs := []) _ (by simp [upd, GH]) (.refl _) (.refl _ _ _ _) (by simp [go_sem, rowL]) ?_ ?_
   ·(repeat (first|with_reducible refine wV fun _=>?_|simp [go_sem, GH]))
   ·(repeat (first|with_reducible refine wV fun _=>?_|simp [go_sem, GH]))
  ·rw [if_neg (by omega)] at i5
   have hn2 := i1.next hg
   have hnl := i1.now_len
   have hok := i1.now_ok
   have hnx := nextP_len hg (known := known) hok
   have hnb : now.length * 472446 ≤ 4000 * 472446 := Nat.mul_le_mul_right _ (by omega)
   have hnd : (known ++ nextP g known now).length = known.length + (nextP g known now).length := List.length_append
   obtain ⟨A, hA⟩ : ∃ A : Nat → List PosD, ∀ i, A i = nxI g known now i := ⟨_, fun _ => rfl⟩
   have hAl : ∀ i, (A i).length ≤ 4000 * 472446 := fun i => by
    rw [hA]
    have h1 := addK_fold_len known ((now.take i).flatMap (movesP g)) []
    have h2 := flatMap_moves_len hg (now := now.take i) (fun q hq => hok q (List.mem_of_mem_take hq))
    have h3 : (now.take i).length * 472446 ≤ 4000 * 472446 := Nat.mul_le_mul_right _ (by simp; omega)
    unfold nxI
    simp only [List.length_nil] at h1
    omega
   have hAo : ∀ i, ∀ q ∈ A i, POk g q := fun i q hq => by
    rw [hA] at hq
    unfold nxI at hq
    rw [addK_fold_mem, List.mem_flatMap] at hq
    rcases hq with h | ⟨⟨r, hr, hm⟩, _⟩
    ·simp at h
    ·exact (movesP_ok hg (hok r (List.mem_of_mem_take hr)) q hm).1
   have hA0 : A 0 = [] := by rw [hA]; rfl
   have hAs : ∀ i, i < now.length → A (i + 1) = (movesP g (nth now i)).foldl (addK known) (A i) := fun i hi => by rw [hA, hA, nxI_succ g known now hi]
   have hAn : A now.length = nextP g known now := by rw [hA, nxI_all]
   (repeat (first|with_reducible refine wV fun _=>?_|simp [go_sem, GH]))
   refine ALoop.start (ALoop.ind (α := Nat) (fun i => ⟨[(0, .fn (.yield l) [] []), (2, .fp [.v (.int .i64 b)]), (3, .fp (encGame g)), (5, .mp 0), (6, encPs now), (7, .sl 1 (A i).length 5 0 (A i).length), (26, encPs now), (27, .v (.int .i64 now.length)), (28, .v (.int .i64 i)), (1000000007, ghost l 0 (L.map rowL))], [(0, .rows true 0 2 ((known ++ A i).map kRowP)), (1, .rows true (A i).length 5 ((A i).map encPos))], 2⟩)
    (fun d i => i + d = now.length) ?_ now.length 0 ?_) ?_ ?_
   ·rintro d2 i i1' hrec2
    (repeat (first|with_reducible refine wV fun _=>?_|simp [go_sem, GH]))
    refine aIf.mkL (fun hi => ?_) (fun hi => ?_) <;> simp at hi
    ·have hp0 := hok _ (nth_mem hi)
     have hM := Moves_pure g hg _ hp0
     have hml := movesP_len2 hg hp0
     have hmo := fun m hm => (movesP_ok hg hp0 m hm).1
     have hAs := hAs i hi
     (repeat (first|with_reducible refine wV fun _=>?_|simp [go_sem, GH, hi]))
     refine ACallP.plain hM (by simp [go_sem]) ?_
     (repeat (first|with_reducible refine wV fun _=>?_|simp [go_sem, GH, hi]))
     generalize hmv : movesP g (nth now i) = mv at *
     have hAi := hAo i
     have hAil := hAl i
     generalize A i = a0 at *
     obtain ⟨C, hC⟩ : ∃ C : Nat → List PosD, ∀ j, C j = (mv.take j).foldl (addK known) a0 := ⟨_, fun _ => rfl⟩
     have hC0 : C 0 = a0 := by rw [hC]; rfl
     have hCs : ∀ j, j < mv.length → C (j + 1) = addK known (C j) (nth mv j) := fun j hj => by rw [hC, hC, foldK_succ known a0 mv hj]
     have hCn : C mv.length = A (i + 1) := by rw [hC, List.take_length, hAs]
     have hCl : ∀ j, (C j).length ≤ 4000 * 472446 + 472446 := fun j => by
      rw [hC]
      have h1 := addK_fold_len known (mv.take j) a0
      have h2 : (mv.take j).length ≤ mv.length := by simp; omega
      omega
     have hCo : ∀ j, ∀ q ∈ C j, POk g q := fun j q hq => by
      rw [hC, addK_fold_mem] at hq
      rcases hq with h | ⟨h, _⟩
      ·exact hAi q h
      ·exact hmo q (List.mem_of_mem_take h)
     have hA0' : ∀ q ∈ mv, POk g q := hmo
     refine ALoop.start (ALoop.ind (α := Nat) (fun j => ⟨[(0, .fn (.yield l) [] []), (2, .fp [.v (.int .i64 b)]), (3, .fp (encGame g)), (5, .mp 0), (6, encPs now), (7, .sl 1 (C j).length 5 0 (C j).length), (26, encPs now), (27, .v (.int .i64 now.length)), (28, .v (.int .i64 i)), (34, encPs mv), (35, .v (.int .i64 mv.length)), (36, .v (.int .i64 j)), (1000000007, ghost l 0 (L.map rowL))], [(0, .rows true 0 2 ((known ++ C j).map kRowP)), (1, .rows true (C j).length 5 ((C j).map encPos))], 2⟩)
      (fun d j => j + d = mv.length) ?_ mv.length 0 ?_) ?_ ?_
     ·rintro d3 j j1 hrec3
      (repeat (first|with_reducible refine wV fun _=>?_|simp [go_sem, GH]))
      refine aIf.mkL (fun hj => ?_) (fun hj => ?_) <;> simp at hj
      ·have hqo := hmo _ (nth_mem hj)
       have hKq := kKey_pure hg hqo
       have hCj := hCs j hj
       have hCb := hCl j
       have hin : ∀ u ∈ known ++ C j, keyP (nth mv j) = keyP u → nth mv j = u := fun u hu e => by
        rcases List.mem_append.1 hu with h | h
        ·exact keyP_inj hg hqo (i1.ok u h) e
        ·exact keyP_inj hg hqo (hCo j u h) e
       have hfind := find_keysP _ _ hin
       have hput := put_keysP _ _ hin
       rw [List.map_append] at hfind hput
       unfold addK at hCj
       generalize hq : nth mv j = q at *
       generalize C j = cj at *
       (repeat (first|with_reducible refine wV fun _=>?_|simp [go_sem, GH, hj, hq]))
       refine ACallP.plain hKq (by simp [go_sem]) ?_
       by_cases hmem : q ∈ known ++ cj
       ·rw [if_pos hmem] at hCj hfind
        (repeat (first|with_reducible refine wV fun _=>?_|simp [go_sem, GH, hfind]))
        refine ALoop.start (hrec3 (d3 - 1) (by omega) (j + 1) (by omega)) ?_ (by simp)
        simp [go_sem, Wk_eq, hgb, GH, hCj]
       ·rw [if_neg hmem] at hCj hfind
        have hput := hput hmem
        (repeat (first|with_reducible refine wV fun _=>?_|simp [go_sem, GH, hfind, hput]))
        refine ALoop.start (hrec3 (d3 - 1) (by omega) (j + 1) (by omega)) ?_ (by simp)
        simp [go_sem, Wk_eq, hgb, GH, hCj]
        intro c hc
        simp only [kRowP, List.mem_cons, List.not_mem_nil, or_false] at hc
        rcases hc with rfl | rfl <;> exact .v _
      ·obtain rfl : j = mv.length := by omega
       rw [hCn]
       (repeat (first|with_reducible refine wV fun _=>?_|simp [go_sem, GH]))
       refine ALoop.start (hrec2 (d2 - 1) (by omega) (i + 1) (by omega)) ?_ (by simp)
       simp [go_sem, Wk_eq, hgb, GH]
     ·simp
     ·simp [go_sem, Wk_eq, hgb, GH, hC0]
     ·simp
    ·obtain rfl : i = now.length := by omega
     rw [hAn]
     have hfit : ∀ q ∈ nextP g known now, FitsP q := fun q hq => (nextP_ok hg hok q hq).fits hg
     have hSo := pSort_pure (nextP g known now) (by omega) hfit
     generalize nextP g known now = nx at *
     by_cases hz : nx = []
     ·rw [if_pos hz] at i5
      subst hz
      subst i5
      (repeat (first|with_reducible refine wV fun _=>?_|simp [go_sem, GH]))
      refine aYld.mk (more := 0) (xs := rowL (now, true)) (rs := []) _ (by simp [upd, GH]) (.refl _) (.refl _ _ _ _) (by simp [go_sem, rowL]) ?_ ?_
      ·(repeat (first|with_reducible refine wV fun _=>?_|simp [go_sem, GH]))
      ·(repeat (first|with_reducible refine wV fun _=>?_|simp [go_sem, GH]))
     ·rw [if_neg hz] at i5
      have hzl : 0 < nx.length := List.length_pos_iff.2 hz
      have hz2 : (nx = []) = False := eq_false hz
      subst i5
      (repeat (first|with_reducible refine wV fun _=>?_|simp [go_sem, GH, hz2]))
      refine aYld.mk (more := 0) (xs := rowL (now, false)) (rs := (layersP g b d (known ++ nx) (sortU cmpP nx)).map rowL) _ (by simp [upd, GH]) (.refl _) (.refl _ _ _ _) (by simp [go_sem, rowL]) ?_ ?_
      ·(repeat (first|with_reducible refine wV fun _=>?_|simp [go_sem, GH, hz2]))
       refine ACallP.pureF [1] hSo ?_ (bel1 (bel_encPs _)) ?_
       ·(first|done|exact agX)
       (repeat (first|with_reducible refine wV fun _=>?_|simp [go_sem, GH]))
       refine ALoop.start (hrec d (by omega) (known ++ nx, sortU cmpP nx, layersP g b d (known ++ nx) (sortU cmpP nx)) ⟨hn2, by omega, by simp only; omega, by simp only; omega, rfl⟩) ?_ (by simp)
       simp [go_sem, Wk_eq, hgb, GH]
      ·(repeat (first|with_reducible refine wV fun _=>?_|simp [go_sem, GH, hz2]))
   ·simp
   ·simp [go_sem, Wk_eq, hgb, GH, hA0]
   ·simp
 ·exact ⟨SearchOk.start hp, by omega, by simp only [List.length_singleton]; omega, by simp, rfl⟩
 ·simp [go_sem, Wk_eq, hgb, GH, kRowP]
  exact leV_frz rfl (by simp) (by simp [noH, upd]) (by simp)
 ·simp
end Go.Av
end
