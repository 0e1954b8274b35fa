/- Texts of ours, part 12: our library and contracts of functions. -/
import Derived.Test.YtkahkcakggflaaaGreatDoorB11
import Derived.OpenShut
import Derived.Test.YtkahkcakggflaaaGreatDoorCards
import Derived.Test.YtkahkcakggflaaaGreatDoorTie
import Derived.Deep.DeepHandedRow
import Derived.LaidHandle
import Derived.LaidMore
import Derived.Test.YtkahkcakggflaaaGreatDoorRows
set_option linter.unusedSimpArgs false
set_option linter.unusedVariables false
set_option maxRecDepth 100000
set_option maxHeartbeats 40000000
section
/- Contracts, moves: men, Condition, Ended of the reference. -/
open Go Go.Proofs
namespace Go.Av
theorem countP_take (f : Int → Bool) (l : List Int) {i : Nat} (h : i < l.length) : (l.take (i + 1)).countP f = (l.take i).countP f + (if f (nth l i) then 1 else 0) := by
 rw [List.take_add_one, List.getElem?_eq_getElem h, nth_eq _ _ h, Option.toList_some, List.countP_append]
 simp [List.countP_cons]
theorem R6men_pure (p : PosD) (hp : FitsP p) (side kind : Int) : Pure Tryz.prog 284 [.agg (encPos p), .v (.int .i64 side), .v (.int .i64 kind)] (.v (.int .i64 (menP p side kind))) := by
 refine pF Tryz.func284 ?_
 obtain ⟨f1, _, _⟩ := hp
 unfold Fits at f1
 (repeat (first|with_reducible refine wV fun _=>?_|simp [go_sem]))
 refine ALoop.start (ALoop.ind (α := Nat) (fun i => ⟨[(1, .v (.int .i64 side)), (2, .v (.int .i64 kind)), (3, .ref 0 0 5 0 0), (7, .v (.int .i64 ((p.at_.take i).countP (isMan p side kind) : Nat))), (8, .v (.int .i64 i))], [(0, .rows true 0 5 [encPos p])], 1⟩)
  (fun d i => i + d = p.at_.length) ?_ p.at_.length 0 ?_) ?_ ?_
 ·rintro d i i1 hrec
  (repeat (first|with_reducible refine wV fun _=>?_|simp [go_sem]))
  refine aIf.mkL (fun hi => ?_) (fun hi => ?_) <;> simp at hi
  ·have hO := R3Of_pure (nth p.at_ i)
   have hcs := countP_take (isMan p side kind) p.at_ hi
   have hle : (p.at_.take i).countP (isMan p side kind) ≤ i := Nat.le_trans List.countP_le_length (by simp; omega)
   have hM : isMan p side kind (nth p.at_ i) = (decide (0 ≤ (manOf (nth p.at_ i)).1) && decide ((manOf (nth p.at_ i)).2 = side) && (decide (kind < 0) || decide ((manOf (nth p.at_ i)).1 = kind))) := rfl
   generalize manOf (nth p.at_ i) = m at *
   (repeat (first|with_reducible refine wV fun _=>?_|simp [go_sem, hi]))
   refine ACallP.plain hO (by simp [go_sem]) ?_
   (repeat (first|with_reducible refine wV fun _=>?_|simp [go_sem]))
   by_cases hm : isMan p side kind (nth p.at_ i) = true
   ·have hm' := hm
    rw [hM] at hm'
    rw [if_pos hm] at hcs
    simp only [hm']
    (repeat (first|with_reducible refine wV fun _=>?_|simp [go_sem]))
    refine ALoop.start (hrec (d - 1) (by omega) (i + 1) (by omega)) ?_ (by simp)
    simp [go_sem, Wk_eq, hcs]
   ·have hm' := hm
    rw [hM] at hm'
    rw [if_neg hm] at hcs
    simp only [Bool.not_eq_true] at hm'
    simp only [hm']
    (repeat (first|with_reducible refine wV fun _=>?_|simp [go_sem]))
    refine ALoop.start (hrec (d - 1) (by omega) (i + 1) (by omega)) ?_ (by simp)
    simp [go_sem, Wk_eq, hcs]
  ·have hil : i = p.at_.length := by omega
   subst hil
   have hM : menP p side kind = (p.at_.take p.at_.length).countP (isMan p side kind) := by rw [List.take_length]; rfl
   rw [hM]
   (repeat (first|with_reducible refine wV fun _=>?_|simp [go_sem]))
 ·omega
 ·simp [go_sem, Wk_eq]
 ·simp
theorem R6Condition_pure (g : GameD) (hg : GOk g) (p : PosD) (hp : POk g p) (c : Int × Int × Int × Int) (hc : ClauseOk g.cells g.kinds.length c) :
  Pure Tryz.prog 256 [.agg (encClause c), .agg (encPos p)] (.v (.bool (condP c p))) := by
 refine pF Tryz.func256 ?_
 have hps := hp.s
 have hal := hp.al
 have hM := fun s k => R6men_pure p (hp.fits hg) s k
 have hml : ∀ s k, menP p s k ≤ 9 := fun s k => Nat.le_trans List.countP_le_length (by have := hg.c9; omega)
 obtain ⟨c0, c1, c2, c3⟩ := c
 obtain ⟨k1, k2, k3, k4, k5⟩ := hc
 simp only at k1 k2 k3 k4 k5
 unfold condP
 rcases k1 with rfl | rfl | rfl
 ·have h1 := hM p.side c1
  (repeat (first|with_reducible refine wV fun _=>?_|simp [go_sem]))
  refine ACallP.plain h1 (by simp [go_sem]) ?_
  (repeat (first|with_reducible refine wV fun _=>?_|simp [go_sem]))
 ·have hci : c2.toNat < p.at_.length := by omega
  (repeat (first|with_reducible refine wV fun _=>?_|simp [go_sem, hci]))
  refine dCall.plain (R3Code_pure c1 (1 - p.side)) (by simp [go_sem]) ?_
  (repeat (first|with_reducible refine wV fun _=>?_|simp [go_sem, hci]))
 ·have h1 := hM p.side (-1)
  have := hml p.side (-1)
  (repeat (first|with_reducible refine wV fun _=>?_|simp [go_sem]))
  refine dCall.plain h1 (by simp [go_sem]) ?_
  (repeat (first|with_reducible refine wV fun _=>?_|simp [go_sem]))
theorem findIdx_some {α : Type} [Inhabited α] (f : α → Bool) (l : List α) {i : Nat} (hi : i < l.length) (hb : ∀ j, j < i → f (nth l j) = false) (h : f (nth l i) = true) : l.findIdx? f = some i := by
 rw [List.findIdx?_eq_some_iff_getElem]
 refine ⟨hi, by rw [← nth_eq _ _ hi]; exact h, fun j hj => ?_⟩
 have := hb j hj
 rw [nth_eq _ _ (by omega)] at this
 simp [this]
theorem findIdx_none {α : Type} [Inhabited α] (f : α → Bool) (l : List α) (hb : ∀ j, j < l.length → f (nth l j) = false) : l.findIdx? f = none := by
 rw [List.findIdx?_eq_none_iff]
 intro x hx
 obtain ⟨j, hj, rfl⟩ := List.getElem_of_mem hx
 have := hb j hj
 rwa [nth_eq _ _ hj] at this
theorem R6Ended_pure (g : GameD) (hg : GOk g) (p : PosD) (hp : POk g p) : Pure Tryz.prog 193 [.agg (encGame g), .agg (encPos p)] (.v (.int .i64 (endedP g p))) := by
 refine pF Tryz.func193 ?_
 have hcn := hg.cn
 (repeat (first|with_reducible refine wV fun _=>?_|simp [go_sem]))
 refine ALoop.start (ALoop.ind (α := Nat) (fun i => ⟨[(2, .ref 0 0 9 0 0), (3, .ref 1 0 5 0 0), (5, .v (.int .i64 i))], [(0, .rows true 0 9 [encGame g]), (1, .rows true 0 5 [encPos p])], 2⟩)
  (fun d i => i + d = g.clauses.length ∧ ∀ j, j < i → condP (nth g.clauses j) p = false) ?_ g.clauses.length 0 ?_) ?_ ?_
 ·rintro d i ⟨i1, i2⟩ hrec
  (repeat (first|with_reducible refine wV fun _=>?_|simp [go_sem]))
  refine aIf.mkL (fun hi => ?_) (fun hi => ?_) <;> simp at hi
  ·have hC := R6Condition_pure g hg p hp _ (hg.cl _ (nth_mem hi))
   (repeat (first|with_reducible refine wV fun _=>?_|simp [go_sem, hi]))
   refine dCall.plain hC (by simp [go_sem]) ?_
   (repeat (first|with_reducible refine wV fun _=>?_|simp [go_sem]))
   by_cases hc : condP (nth g.clauses i) p = true
   ·have he : endedP g p = i := by unfold endedP; rw [findIdx_some (fun c => condP c p) g.clauses hi i2 hc]
    (repeat (first|with_reducible refine wV fun _=>?_|simp [go_sem, hc, he]))
   ·(repeat (first|with_reducible refine wV fun _=>?_|simp [go_sem, hc]))
    refine ALoop.start (hrec (d - 1) (by omega) (i + 1) ⟨by omega, fun j hj => ?_⟩) ?_ (by simp)
    ·rcases Nat.lt_or_ge j i with h | h
     ·exact i2 j h
     ·obtain rfl : j = i := by omega
      simpa using hc
    ·simp [go_sem, Wk_eq]
  ·have he : endedP g p = -1 := by unfold endedP; rw [findIdx_none (fun c => condP c p) g.clauses (fun j hj => i2 j (by omega))]
   (repeat (first|with_reducible refine wV fun _=>?_|simp [go_sem, he]))
 ·exact ⟨by simp, fun j hj => by omega⟩
 ·simp [go_sem, Wk_eq]
 ·simp
end Go.Av
end
section
/- Contracts, moves: Outcomes, Moves of the reference. -/
open Go Go.Proofs
namespace Go.Av
def outsK (g : GameD) (p : PosD) (c : Nat) : List OutD := (List.range c).flatMap (outsAt g p)
theorem outsK_succ (g : GameD) (p : PosD) (c : Nat) : outsK g p (c + 1) = outsK g p c ++ outsAt g p c := by simp [outsK, List.range_succ, List.flatMap_append]
theorem outsK_zero (g : GameD) (p : PosD) : outsK g p 0 = [] := rfl
def outsI (g : GameD) (p : PosD) (c i : Nat) : List OutD := outsK g p c ++ (List.range i).flatMap fun (i : Nat) => runsP g p c i
theorem outsI_zero (g : GameD) (p : PosD) (c : Nat) : outsI g p c 0 = outsK g p c := by simp [outsI]
theorem outsI_succ (g : GameD) (p : PosD) (c i : Nat) : outsI g p c (i + 1) = outsI g p c i ++ runsP g p c i := by simp [outsI, List.range_succ, List.flatMap_append]
theorem R6Outcomes_pure (g : GameD) (hg : GOk g) (p : PosD) (hp : POk g p) : Pure Tryz.prog 194 [.agg (encGame g), .agg (encPos p)] (encOs (outsP g p)) := by
 refine pF Tryz.func194 ?_
 have hal := hp.al
 have c9 := hg.c9
 have k6 := hg.k6
 have hU : ∀ c i, c < p.at_.length → 0 ≤ (manOf (nth p.at_ c)).1 ∧ (manOf (nth p.at_ c)).2 = p.side → i ≤ (nth g.kinds (manOf (nth p.at_ c)).1.toNat).progs.length → (outsI g p c i).length ≤ 8000000000 := fun c i hc hm hi => by
  have h1 : (outsK g p c).length ≤ 7200000000 := outsK_len hg hp (by omega)
  have hk := kind_lt hg hp (cell := c) (by omega) (by omega) (by simpa using hm.1)
  simp only [Int.toNat_natCast] at hk
  have h8 := hg.pn _ (nth_mem hk)
  have h2 := flatMap_range_le (fun (i : Nat) => runsP g p c i) 100000000 i (fun j hj => runsP_len hg hp (choice_of hp hc hm (by omega)))
  have h3 : i * 100000000 ≤ 8 * 100000000 := Nat.mul_le_mul_right _ (by omega)
  simp only [outsI, List.length_append]
  omega
 (repeat (first|with_reducible refine wV fun _=>?_|simp [go_sem]))
 refine ALoop.start (ALoop.ind (α := Nat × Nat) (fun a => ⟨[(2, .ref 0 0 9 0 0), (3, .ref 1 0 5 0 0), (5, .sl 2 a.2 6 0 (outsK g p a.1).length), (6, .v (.int .i64 a.1))], [(0, .rows true 0 9 [encGame g]), (1, .rows true 0 5 [encPos p]), (2, .rows true a.2 6 ((outsK g p a.1).map encOut))], 3⟩)
  (fun d a => a.1 + d = p.at_.length) ?_ p.at_.length (0, 0) ?_) ?_ ?_
 ·rintro d ⟨c, G⟩ c1 hrec
  simp only at c1
  (repeat (first|with_reducible refine wV fun _=>?_|simp [go_sem]))
  refine aIf.mkL (fun hc => ?_) (fun hc => ?_) <;> simp at hc
  ·have hO := R3Of_pure (nth p.at_ c)
   have hsu := outsK_succ g p c
   have hat := hp.at (i := c) (by omega)
   have hman := manOf_cases hat.1 hat.2 hg.k6
   have hAt : outsAt g p c = if 0 ≤ (manOf (nth p.at_ c)).1 ∧ (manOf (nth p.at_ c)).2 = p.side then (List.range (nth g.kinds (manOf (nth p.at_ c)).1.toNat).progs.length).flatMap fun (i : Nat) => runsP g p c i else [] := rfl
   have hU' := fun i => hU c i hc
   have hCh := fun i => choice_of (g := g) (i := i) hp hc
   generalize manOf (nth p.at_ c) = m at *
   obtain ⟨mk, ms⟩ := m
   simp only [Prod.mk.injEq] at hman hAt hU' hCh
   (repeat (first|with_reducible refine wV fun _=>?_|simp [go_sem, hc]))
   refine ACallP.plain hO (by simp [go_sem]) ?_
   (repeat (first|with_reducible refine wV fun _=>?_|simp [go_sem]))
   refine aIf.mkL (fun hm => ?_) (fun hm => ?_) <;> simp at hm
   ·rw [if_neg (by omega)] at hAt
    rw [hAt, List.append_nil] at hsu
    (repeat (first|with_reducible refine wV fun _=>?_|simp [go_sem]))
    refine ALoop.start (hrec (d - 1) (by omega) (c + 1, G) (by simp only; omega)) ?_ (by simp)
    simp [go_sem, Wk_eq, hsu]
   ·have hm' : 0 ≤ mk ∧ ms = p.side := by omega
    rw [if_pos hm'] at hAt
    have hkl : mk.toNat < g.kinds.length := by omega
    have hpn := hg.pn _ (nth_mem hkl)
    have hz := outsI_zero g p c
    (repeat (first|with_reducible refine wV fun _=>?_|simp [go_sem]))
    refine ALoop.start (ALoop.ind (α := Nat × Nat) (fun a => ⟨[(2, .ref 0 0 9 0 0), (3, .ref 1 0 5 0 0), (5, .sl 2 a.2 6 0 (outsI g p c a.1).length), (6, .v (.int .i64 c)), (7, .ref 3 0 2 0 0), (8, .v (.int .i64 a.1))],
      [(0, .rows true 0 9 [encGame g]), (1, .rows true 0 5 [encPos p]), (2, .rows true a.2 6 ((outsI g p c a.1).map encOut)), (3, .rows true 0 2 [[.v (.int .i64 mk), .v (.int .i64 ms)]])], 4⟩)
     (fun d a => a.1 + d = (nth g.kinds mk.toNat).progs.length) ?_ (nth g.kinds mk.toNat).progs.length (0, G) ?_) ?_ ?_
    ·rintro d2 ⟨i, G'⟩ i1 hrec2
     simp only at i1
     (repeat (first|with_reducible refine wV fun _=>?_|simp [go_sem, hkl]))
     refine aIf.mkL (fun hi => ?_) (fun hi => ?_) <;> simp at hi
     ·have hR := R5Runs_pure g hg p hp c i (hCh i hm' hi)
      have hsi := outsI_succ g p c i
      have hUi := hU' i hm' (by omega)
      have hUj := hU' (i + 1) hm' (by omega)
      rw [hsi, List.length_append] at hUj
      (repeat (first|with_reducible refine wV fun _=>?_|simp [go_sem]))
      refine ACallP.plain hR (by simp [go_sem]) ?_
      (repeat (first|with_reducible refine wV fun _=>?_|simp [go_sem]))
      refine ALoop.start (hrec2 (d2 - 1) (by omega) (i + 1, G' + 1) (by simp only; omega)) ?_ (by simp)
      simp [go_sem, Wk_eq, hsi]
     ·have hil : i = (nth g.kinds mk.toNat).progs.length := by omega
      subst hil
      have hfin : outsI g p c (nth g.kinds mk.toNat).progs.length = outsK g p (c + 1) := by rw [hsu, hAt]; rfl
      rw [hfin]
      (repeat (first|with_reducible refine wV fun _=>?_|simp [go_sem]))
      refine ALoop.start (hrec (d - 1) (by omega) (c + 1, G') (by simp only; omega)) ?_ (by simp)
      simp [go_sem, Wk_eq]
    ·simp
    ·simp [go_sem, Wk_eq, hz]
    ·simp
  ·have hcl : c = p.at_.length := by omega
   subst hcl
   have e : outsP g p = outsK g p p.at_.length := rfl
   rw [e]
   (repeat (first|with_reducible refine wV fun _=>?_|simp [go_sem]))
   exact frX
 ·simp
 ·simp [go_sem, Wk_eq, outsK_zero]
 ·simp
end Go.Av
end
section
/- Contracts, moves: Moves of the reference. -/
open Go Go.Proofs
namespace Go.Av
def mustK (gm : Bool) (l : List OutD) (i : Nat) : Bool := gm && (l.take i).any (·.took)
theorem mustK_zero (gm : Bool) (l : List OutD) : mustK gm l 0 = false := by simp [mustK]
theorem mustK_succ (gm : Bool) (l : List OutD) {i : Nat} (h : i < l.length) : mustK gm l (i + 1) = (mustK gm l i || (gm && (nth l i).took)) := by
 unfold mustK
 rw [List.take_add_one, List.getElem?_eq_getElem h, nth_eq _ _ h, Option.toList_some, List.any_append]
 simp only [List.any_cons, List.any_nil, Bool.or_false, Bool.and_or_distrib_left]
def keepK (must : Bool) (l : List OutD) (i : Nat) : List PosD := ((l.take i).filter fun o => !must || o.took).map (·.pos)
theorem keepK_zero (must : Bool) (l : List OutD) : keepK must l 0 = [] := by simp [keepK]
theorem keepK_succ (must : Bool) (l : List OutD) {i : Nat} (h : i < l.length) : keepK must l (i + 1) = keepK must l i ++ (if (!must || (nth l i).took) = true then [(nth l i).pos] else []) := by
 unfold keepK
 rw [List.take_add_one, List.getElem?_eq_getElem h, nth_eq _ _ h, Option.toList_some, List.filter_append, List.map_append]
 congr 1
 by_cases hc : (!must || l[i].took) = true <;> simp [hc]
theorem keepK_len (must : Bool) (l : List OutD) (i : Nat) : (keepK must l i).length ≤ i := by
 unfold keepK
 rw [List.length_map]
 refine Nat.le_trans (List.length_filter_le _ _) ?_
 simp; omega
theorem R6Moves_pure (g : GameD) (hg : GOk g) (p : PosD) (hp : POk g p) : Pure Tryz.prog 149 [.agg (encGame g), .agg (encPos p)] (encPs (movesP g p)) := by
 refine pF Tryz.func149 ?_
 have hE := R6Ended_pure g hg p hp
 have hO := R6Outcomes_pure g hg p hp
 have hD := R5Drops_pure g hg p hp
 have hdl := dropsP_len hg hp
 have hol := outsP_len hg hp
 have hS := R4Sort_pure (movesL g p) (by have := movesL_len hg hp; omega) (fun q hq => (movesL_ok hg hp q hq).1.fits hg)
 have hml : movesL g p = keepK (mustP g p) (outsP g p) (outsP g p).length ++ (if mustP g p then [] else dropsP g p) := by unfold movesL keepK; rw [List.take_length]
 have hmu : mustP g p = mustK g.must (outsP g p) (outsP g p).length := by unfold mustP mustK; rw [List.take_length]
 have hmv : movesP g p = if 0 ≤ endedP g p then [] else sortU cmpP (movesL g p) := rfl
 obtain ⟨R, hR⟩ : ∃ R, R = movesP g p := ⟨_, rfl⟩
 rw [← hR] at hmv ⊢
 generalize outsP g p = l at *
 generalize dropsP g p = ds at *
 generalize movesL g p = ml at *
 generalize endedP g p = en at *
 (repeat (first|with_reducible refine wV fun _=>?_|simp [go_sem]))
 refine ACallP.plain hE (by simp [go_sem]) ?_
 (repeat (first|with_reducible refine wV fun _=>?_|simp [go_sem]))
 refine aIf.mkL (fun he => ?_) (fun he => ?_) <;> simp at he
 ·rw [if_pos he] at hmv
  rw [hmv]
  (repeat (first|with_reducible refine wV fun _=>?_|simp [go_sem]))
 ·rw [if_neg (by omega)] at hmv
  (repeat (first|with_reducible refine wV fun _=>?_|simp [go_sem]))
  refine ACallP.plain hO (by simp [go_sem]) ?_
  (repeat (first|with_reducible refine wV fun _=>?_|simp [go_sem]))
  refine ALoop.start (ALoop.ind (α := Nat) (fun i => ⟨[(2, .ref 0 0 9 0 0), (3, .ref 1 0 5 0 0), (5, encOs l), (6, .sl 2 0 5 0 0), (7, .v (.bool (mustK g.must l i))), (8, .v (.int .i64 i))], [(0, .rows true 0 9 [encGame g]), (1, .rows true 0 5 [encPos p]), (2, .rows true 0 5 [])], 3⟩)
   (fun d i => i + d = l.length) ?_ l.length 0 ?_) ?_ ?_
  ·rintro d i i1 hrec
   (repeat (first|with_reducible refine wV fun _=>?_|simp [go_sem]))
   refine aIf.mkL (fun hi => ?_) (fun hi => ?_) <;> simp at hi
   ·have hms := mustK_succ g.must l hi
    cases hmk : mustK g.must l i
    ·rw [hmk, Bool.false_or] at hms
     cases hgm : g.must
     ·rw [hgm, Bool.false_and] at hms
      (repeat (first|with_reducible refine wV fun _=>?_|simp [go_sem, hmk, hgm, hi]))
      refine ALoop.start (hrec (d - 1) (by omega) (i + 1) (by omega)) ?_ (by simp)
      simp [go_sem, Wk_eq, hms, hgm]
     ·rw [hgm, Bool.true_and] at hms
      (repeat (first|with_reducible refine wV fun _=>?_|simp [go_sem, hmk, hgm, hi]))
      refine ALoop.start (hrec (d - 1) (by omega) (i + 1) (by omega)) ?_ (by simp)
      simp [go_sem, Wk_eq, hms, hgm]
    ·rw [hmk, Bool.true_or] at hms
     (repeat (first|with_reducible refine wV fun _=>?_|simp [go_sem, hmk, hi]))
     refine ALoop.start (hrec (d - 1) (by omega) (i + 1) (by omega)) ?_ (by simp)
     simp [go_sem, Wk_eq, hms]
   ·have hil : i = l.length := by omega
    subst hil
    rw [← hmu]
    generalize mustP g p = must at *
    (repeat (first|with_reducible refine wV fun _=>?_|simp [go_sem]))
    refine ALoop.start (ALoop.ind (α := Nat) (fun i => ⟨[(2, .ref 0 0 9 0 0), (3, .ref 1 0 5 0 0), (5, encOs l), (6, .sl 2 (keepK must l i).length 5 0 (keepK must l i).length), (7, .v (.bool must)), (9, .v (.int .i64 i))], [(0, .rows true 0 9 [encGame g]), (1, .rows true 0 5 [encPos p]), (2, .rows true (keepK must l i).length 5 ((keepK must l i).map encPos))], 3⟩)
     (fun d i => i + d = l.length) ?_ l.length 0 ?_) ?_ ?_
    ·rintro d i i1 hrec2
     (repeat (first|with_reducible refine wV fun _=>?_|simp [go_sem]))
     refine aIf.mkL (fun hi => ?_) (fun hi => ?_) <;> simp at hi
     ·have hks := keepK_succ must l hi
      have hkl := keepK_len must l i
      cases must
      ·simp only [Bool.not_false, Bool.true_or, if_true] at hks
       (repeat (first|with_reducible refine wV fun _=>?_|simp [go_sem, hi]))
       refine ALoop.start (hrec2 (d - 1) (by omega) (i + 1) (by omega)) ?_ (by simp)
       simp [go_sem, Wk_eq, hks]
      ·cases ht : (nth l i).took
       ·simp [ht] at hks
        (repeat (first|with_reducible refine wV fun _=>?_|simp [go_sem, hi, ht]))
        refine ALoop.start (hrec2 (d - 1) (by omega) (i + 1) (by omega)) ?_ (by simp)
        simp [go_sem, Wk_eq, hks]
       ·simp [ht] at hks
        (repeat (first|with_reducible refine wV fun _=>?_|simp [go_sem, hi, ht]))
        refine ALoop.start (hrec2 (d - 1) (by omega) (i + 1) (by omega)) ?_ (by simp)
        simp [go_sem, Wk_eq, hks]
     ·have hil : i = l.length := by omega
      subst hil
      have hkl := keepK_len must l l.length
      rw [hmv]
      generalize keepK must l l.length = kk at *
      cases must
      ·simp only [Bool.false_eq_true, if_false] at hml
       (repeat (first|with_reducible refine wV fun _=>?_|simp [go_sem]))
       refine ACallP.plain hD (by simp [go_sem]) ?_
       (repeat (first|with_reducible refine wV fun _=>?_|simp [go_sem]))
       subst hml
       refine ACallP.pureF [2] hS ?_ (bel1 (bel_encPs _)) ?_
       ·(first|done|exact agX)
       ·(repeat (first|with_reducible refine wV fun _=>?_|simp [go_sem]))
      ·simp only [if_true, List.append_nil] at hml
       subst hml
       (repeat (first|with_reducible refine wV fun _=>?_|simp [go_sem]))
       refine ACallP.pureF [2] hS ?_ (bel1 (bel_encPs _)) ?_
       ·(first|done|exact agX)
       ·(repeat (first|with_reducible refine wV fun _=>?_|simp [go_sem]))
    ·omega
    ·simp [go_sem, Wk_eq, keepK_zero]
    ·simp
  ·omega
  ·simp [go_sem, Wk_eq, mustK_zero]
  ·simp
end Go.Av
end
section
/- Contracts, positions: Made of the reference. -/
open Go Go.Proofs
namespace Go.Av
theorem R4Made_pure (g : GameD) (hg : GOk g) (x : RawP) (hx : RawPOk x) : Pure Tryz.prog 21 [.agg (encGame g), .agg (encRawP x)] (.agg (encPos (madePos g x))) := by
 refine pF Tryz.func21 ?_
 obtain ⟨q, hq⟩ : ∃ q, q = madePos g x := ⟨_, rfl⟩
 have hrow := rawRow hx
 obtain ⟨er, her⟩ : ∃ er, er = encRawP x := ⟨_, rfl⟩
 rw [← hq, ← her]
 rw [← her] at hrow
 obtain ⟨rl, rc, rk, rh, rr, rs, rb⟩ := hrow
 have c1 := hg.c1
 have c9 := hg.c9
 have k1 := hg.k1
 have k6 := hg.k6
 have hr0 := hg.r0
 have hr4 := hg.r4
 obtain ⟨gc, hgc⟩ : ∃ gc : Nat, g.cells = gc := ⟨g.cells.toNat, by omega⟩
 have hpow : (1 : Int) ≤ 2 ^ g.rights.toNat ∧ (2 : Int) ^ g.rights.toNat ≤ 16 := by
  rcases (show g.rights.toNat = 0 ∨ g.rights.toNat = 1 ∨ g.rights.toNat = 2 ∨ g.rights.toNat = 3 ∨ g.rights.toNat = 4 by omega) with h | h | h | h | h <;> rw [h] <;> decide
 have hrt := hx.r
 have hsd := hx.s
 obtain ⟨rt, hrt'⟩ : ∃ rt, x.rights = rt := ⟨_, rfl⟩
 obtain ⟨pw, hpw⟩ : ∃ pw : Int, (2 : Int) ^ g.rights.toNat = pw := ⟨_, rfl⟩
 have r1 : 0 ≤ x.rights ∧ x.rights ≤ 255 := hx.r
 have s1 : 0 ≤ x.side ∧ x.side ≤ 255 := hx.s
 have s0 := Int.tmod_nonneg 2 s1.1
 have s2 := Int.tmod_lt_of_pos x.side (show (0 : Int) < 2 by decide)
 rw [hpw] at hpow
 generalize heg : encGame g = eg at *
 have hel : eg.length = 9 := by rw [← heg]; rfl
 have hbl : ∀ n, (∀ c' ∈ eg, Bel n c') = True := fun n => by rw [← heg]; simp [go_sem]
 have e0 : cel eg 0 = .v (.int .i64 g.cells) := by rw [← heg]; rfl
 have e3 : cel eg 3 = .lst 3 (g.kinds.map encKind) := by rw [← heg]; rfl
 have e4 : cel eg 4 = .v (.int .i64 g.rights) := by rw [← heg]; rfl
 (repeat (first|with_reducible refine wV fun _=>?_|simp [go_sem, hel, e0, e3, e4, rl, rr, rs, rb, hbl, hpw]))
 have hcz : g.cells.toNat = gc := by omega
 have hkne : g.kinds ≠ [] := by intro h; rw [h] at k1; simp at k1
 have hz : List.replicate gc [AV.v (.int .i64 0)] = (madeAt g x 0).map encI := by simp [madeAt, hcz, encI]
 refine ALoop.start (ALoop.ind (α := Nat) (fun i => ⟨[(2, .ref 0 0 9 0 0), (3, .ref 1 0 18 0 0), (4, .ref 2 0 5 0 0), (5, .ref 19 0 5 0 0), (6, .v (.int .i64 i))], [(0, .rows true 0 9 [eg]), (1, .rows true 0 18 [er]), (2, .rows true 0 5 [[AV.nils, AV.nils, AV.nils, .v (.int .i64 0), .v (.int .i64 0)]]), (6, .rows true 0 1 ((madeAt g x i).map encI)), (19, .rows true 0 5 [[.sl 6 0 1 0 gc, AV.nils, AV.nils, .v (.int .i64 (x.rights.tmod pw)), .v (.int .i64 (x.side.tmod 2))]])], 21⟩)
  (fun d i => i + d = 6) ?_ 6 0 ?_) ?_ ?_
 ·rintro d i i1 hrec
  (repeat (first|with_reducible refine wV fun _=>?_|simp [go_sem]))
  refine aIf.mkL (fun hi => ?_) (fun hi => ?_) <;> simp at hi
  ·have hci := hx.cv _ (nth_mem (l := x.cell) (i := i) (by rw [hx.c6]; omega))
   have hki := hx.kv _ (nth_mem (l := x.kind) (i := i) (by rw [hx.k6]; omega))
   have hci' : 0 ≤ nth x.cell i ∧ nth x.cell i ≤ 255 := hci
   have hki' : 0 ≤ nth x.kind i ∧ nth x.kind i ≤ 255 := hki
   have m0 := Int.tmod_nonneg (g.cells + 1) hci'.1
   have m1 := Int.tmod_nonneg (g.kinds.length : Int) hki'.1
   have m2 := Int.tmod_lt_of_pos (nth x.kind i) (show (0 : Int) < g.kinds.length by omega)
   have m3 := Int.tmod_nonneg 2 (show (0 : Int) ≤ i by omega)
   have m4 := Int.tmod_lt_of_pos (i : Int) (show (0 : Int) < 2 by decide)
   have hrc := rc i (by omega)
   have hrk := rk i (by omega)
   have hsu := madeAt_succ g x i
   have hal := madeAt_len g x i
   rw [hcz] at hal
   unfold atStep at hsu
   (repeat (first|with_reducible refine wV fun _=>?_|simp [go_sem, hel, e0, e3, e4, hrc, hrk]))
   refine aIf.mkL (fun hc => ?_) (fun hc => ?_) <;> simp at hc
   ·have hc1 := hc.1
    rw [if_pos hc1] at hsu
    (repeat (first|with_reducible refine wV fun _=>?_|simp [go_sem, hel, e0, e3, e4, hrc, hrk, hal]))
    refine ALoop.start (hrec (d - 1) (by omega) (i + 1) (by omega)) ?_ (by simp)
    simp [go_sem, Wk_eq, hsu, rb, hbl]
   ·have hc1 : ¬ (nth x.cell i).tmod (g.cells + 1) < g.cells := fun h => hkne (hc h)
    rw [if_neg hc1] at hsu
    (repeat (first|with_reducible refine wV fun _=>?_|simp [go_sem, hel, e0, e3, e4, hrc, hrk]))
    refine ALoop.start (hrec (d - 1) (by omega) (i + 1) (by omega)) ?_ (by simp)
    simp [go_sem, Wk_eq, hsu, rb, hbl]
  ·obtain rfl : i = 6 := by omega
   have hal := madeAt_len g x 6
   rw [hcz] at hal
   have hqe : q = ⟨madeAt g x 6, handL g x 0 (min g.kinds.length 2), handL g x 1 (min g.kinds.length 2), x.rights.tmod pw, x.side.tmod 2⟩ := by rw [hq, ← hpw]; rfl
   clear hq
   have hq := hqe
   (repeat (first|with_reducible refine wV fun _=>?_|simp [go_sem, hel, e0, e3, e4]))
   refine ALoop.unroll ?_
   (repeat (first|with_reducible refine wV fun _=>?_|simp [go_sem, hel, e0, e3, e4]))
   have hz0 := handL_zero g x 0
   refine ALoop.start (ALoop.ind (α := Nat) (fun k => ⟨[(2, .ref 0 0 9 0 0), (3, .ref 1 0 18 0 0), (4, .ref 2 0 5 0 0), (5, .ref 19 0 5 0 0), (8, .v (.int .i64 0)), (9, .v (.int .i64 k))], [(0, .rows true 0 9 [eg]), (1, .rows true 0 18 [er]), (2, .rows true 0 5 [[AV.nils, AV.nils, AV.nils, .v (.int .i64 0), .v (.int .i64 0)]]), (6, .rows true 0 1 ((madeAt g x 6).map encI)), (19, .rows true 0 5 [[.sl 6 0 1 0 gc, .sl 21 0 1 0 g.kinds.length, AV.nils, .v (.int .i64 (x.rights.tmod pw)), .v (.int .i64 (x.side.tmod 2))]]), (21, .rows true 0 1 ((handL g x 0 k).map encI))], 22⟩)
    (fun d k => k + d = min g.kinds.length 2) ?_ (min g.kinds.length 2) 0 ?_) ?_ ?_
   ·rintro d k j1 hrec0
    (repeat (first|with_reducible refine wV fun _=>?_|simp [go_sem, hel, e0, e3, e4]))
    refine aIf.mkL (fun hj => ?_) (fun hj => ?_) <;> simp at hj
    ·have hk2 : k < 2 := by omega
     have hkk : k < g.kinds.length := by omega
     have hhv := hx.hv _ (nth_mem (l := x.hand) (i := 2 * 0 + k) (by rw [hx.h4]; omega))
     have hh1 : 0 ≤ nth x.hand (2 * 0 + k) ∧ nth x.hand (2 * 0 + k) ≤ 255 := hhv
     have hrh := rh (2 * 0 + k) (by omega)
     have m0 := Int.tmod_nonneg 3 hh1.1
     have hsu := handL_succ g x 0 k
     have hsk := handL_skip g x 0 k
     have hhl := handL_len g x 0 k
     have hV : handV g x 0 k = if (nth g.kinds k).keep = true then (if 250 < nth x.hand (2 * 0 + k) then 8 else (nth x.hand (2 * 0 + k)).tmod 3) else 0 := rfl
     simp only [Nat.mul_zero, Nat.zero_add, Nat.mul_one] at hrh hh1 m0 hV
     (repeat (first|with_reducible refine wV fun _=>?_|simp [go_sem, hel, e0, e3, e4, hkk]))
     refine aIf.mkL (fun hkeep => ?_) (fun hkeep => ?_)
     ·rw [if_pos hkeep] at hV
      have eI : ((k : Int)).toNat = k := by omega
      have eI2 : (k : Int) < 4 := by omega
      (repeat (first|with_reducible refine wV fun _=>?_|simp [go_sem, hel, e0, e3, e4, hkk, hrh, hhl, eI, eI2]))
      refine aIf.mkL (fun hbig => ?_) (fun hbig => ?_) <;> simp at hbig
      ·rw [if_pos hbig] at hV
       rw [hV] at hsu
       (repeat (first|with_reducible refine wV fun _=>?_|simp [go_sem, hel, e0, e3, e4, hkk, hrh, hhl]))
       refine ALoop.start (hrec0 (d - 1) (by omega) (k + 1) (by omega)) ?_ (by simp)
       simp [go_sem, Wk_eq, hsu, rb, hbl]
      ·rw [if_neg (by omega)] at hV
       rw [hV] at hsu
       (repeat (first|with_reducible refine wV fun _=>?_|simp [go_sem, hel, e0, e3, e4, hkk, hrh, hhl]))
       refine ALoop.start (hrec0 (d - 1) (by omega) (k + 1) (by omega)) ?_ (by simp)
       simp [go_sem, Wk_eq, hsu, rb, hbl]
     ·rw [if_neg (by simpa using hkeep)] at hV
      have hsk' := hsk hV
      (repeat (first|with_reducible refine wV fun _=>?_|simp [go_sem, hel, e0, e3, e4]))
      refine ALoop.start (hrec0 (d - 1) (by omega) (k + 1) (by omega)) ?_ (by simp)
      simp [go_sem, Wk_eq, hsk', rb, hbl]
    ·have hkm : k = min g.kinds.length 2 := by omega
     subst hkm
     (repeat (first|with_reducible refine wV fun _=>?_|simp [go_sem, hel, e0, e3, e4]))
     refine ALoop.unroll ?_
     (repeat (first|with_reducible refine wV fun _=>?_|simp [go_sem, hel, e0, e3, e4]))
     have hz1 := handL_zero g x 1
     refine ALoop.start (ALoop.ind (α := Nat) (fun k => ⟨[(2, .ref 0 0 9 0 0), (3, .ref 1 0 18 0 0), (4, .ref 2 0 5 0 0), (5, .ref 19 0 5 0 0), (8, .v (.int .i64 1)), (9, .v (.int .i64 k))], [(0, .rows true 0 9 [eg]), (1, .rows true 0 18 [er]), (2, .rows true 0 5 [[AV.nils, AV.nils, AV.nils, .v (.int .i64 0), .v (.int .i64 0)]]), (6, .rows true 0 1 ((madeAt g x 6).map encI)), (19, .rows true 0 5 [[.sl 6 0 1 0 gc, .sl 21 0 1 0 g.kinds.length, .sl 22 0 1 0 g.kinds.length, .v (.int .i64 (x.rights.tmod pw)), .v (.int .i64 (x.side.tmod 2))]]), (21, .rows true 0 1 ((handL g x 0 (min g.kinds.length 2)).map encI)), (22, .rows true 0 1 ((handL g x 1 k).map encI))], 23⟩)
      (fun d k => k + d = min g.kinds.length 2) ?_ (min g.kinds.length 2) 0 ?_) ?_ ?_
     ·rintro d k j1 hrec1
      (repeat (first|with_reducible refine wV fun _=>?_|simp [go_sem, hel, e0, e3, e4]))
      refine aIf.mkL (fun hj => ?_) (fun hj => ?_) <;> simp at hj
      ·have hk2 : k < 2 := by omega
       have hkk : k < g.kinds.length := by omega
       have hhv := hx.hv _ (nth_mem (l := x.hand) (i := 2 * 1 + k) (by rw [hx.h4]; omega))
       have hh1 : 0 ≤ nth x.hand (2 * 1 + k) ∧ nth x.hand (2 * 1 + k) ≤ 255 := hhv
       have hrh := rh (2 * 1 + k) (by omega)
       have m0 := Int.tmod_nonneg 3 hh1.1
       have hsu := handL_succ g x 1 k
       have hsk := handL_skip g x 1 k
       have hhl := handL_len g x 1 k
       have hV : handV g x 1 k = if (nth g.kinds k).keep = true then (if 250 < nth x.hand (2 * 1 + k) then 8 else (nth x.hand (2 * 1 + k)).tmod 3) else 0 := rfl
       simp only [Nat.mul_zero, Nat.zero_add, Nat.mul_one] at hrh hh1 m0 hV
       (repeat (first|with_reducible refine wV fun _=>?_|simp [go_sem, hel, e0, e3, e4, hkk]))
       refine aIf.mkL (fun hkeep => ?_) (fun hkeep => ?_)
       ·rw [if_pos hkeep] at hV
        have eI : (2 + (k : Int)).toNat = 2 + k := by omega
        have eI2 : 2 + (k : Int) < 4 := by omega
        (repeat (first|with_reducible refine wV fun _=>?_|simp [go_sem, hel, e0, e3, e4, hkk, hrh, hhl, eI, eI2]))
        refine aIf.mkL (fun hbig => ?_) (fun hbig => ?_) <;> simp at hbig
        ·rw [if_pos hbig] at hV
         rw [hV] at hsu
         (repeat (first|with_reducible refine wV fun _=>?_|simp [go_sem, hel, e0, e3, e4, hkk, hrh, hhl]))
         refine ALoop.start (hrec1 (d - 1) (by omega) (k + 1) (by omega)) ?_ (by simp)
         simp [go_sem, Wk_eq, hsu, rb, hbl]
        ·rw [if_neg (by omega)] at hV
         rw [hV] at hsu
         (repeat (first|with_reducible refine wV fun _=>?_|simp [go_sem, hel, e0, e3, e4, hkk, hrh, hhl]))
         refine ALoop.start (hrec1 (d - 1) (by omega) (k + 1) (by omega)) ?_ (by simp)
         simp [go_sem, Wk_eq, hsu, rb, hbl]
       ·rw [if_neg (by simpa using hkeep)] at hV
        have hsk' := hsk hV
        (repeat (first|with_reducible refine wV fun _=>?_|simp [go_sem, hel, e0, e3, e4]))
        refine ALoop.start (hrec1 (d - 1) (by omega) (k + 1) (by omega)) ?_ (by simp)
        simp [go_sem, Wk_eq, hsk', rb, hbl]
      ·have hkm : k = min g.kinds.length 2 := by omega
       subst hkm
       (repeat (first|with_reducible refine wV fun _=>?_|simp [go_sem, hel, e0, e3, e4]))
       (repeat (first|with_reducible refine wV fun _=>?_|simp [go_sem, hel, e0, e3, e4]))
       refine ALoop.unroll ?_
       (repeat (first|with_reducible refine wV fun _=>?_|simp [go_sem, hel, e0, e3, e4]))
       rw [hq]
       exact ⟨leV_frz rfl (by simp [hal]) (by simp [noH]) (by simp [List.take_of_length_le, hal]), leV_frz rfl (by simp [handL_len]) (by simp [noH]) (by simp [List.take_of_length_le, handL_len]), leV_frz rfl (by simp [handL_len]) (by simp [noH]) (by simp [List.take_of_length_le, handL_len]), .refl _, .refl _⟩
     ·omega
     ·simp [go_sem, Wk_eq, rb, hbl, hz1]
     ·simp
   ·omega
   ·simp [go_sem, Wk_eq, rb, hbl, hz0]
   ·simp
 ·rfl
 ·simp [go_sem, Wk_eq, rb, hbl, hz, hcz]
 ·simp
end Go.Av
end
section
/- Contracts, moves: Walk, Made of the reference. -/
open Go Go.Proofs
namespace Go.Av
theorem R6Walk_pure (g : GameD) (hg : GOk g) (p : PosD) (hp : POk g p) (picks : List Int) (hl : picks.length ≤ 4294967296) (hk : ∀ k ∈ picks, 0 ≤ k ∧ k ≤ 9223372036854775807) :
    Pure Tryz.prog 87 [.agg (encGame g), .agg (encPos p), encIs picks] (encPs (walkP g p picks)) := by
  refine pF Tryz.func87 ?_
  generalize hR : walkP g p picks = R
  (repeat (first|with_reducible refine wV fun _=>?_|simp [go_sem]))
  refine ALoop.start (ALoop.ind (α := Nat × List PosD × PosD) (fun a => ⟨[(2, encIs picks), (3, .ref 0 0 9 0 0), (4, .ref 1 0 5 0 0), (7, .sl 2 a.2.1.length 5 0 (a.2.1.length + 1)), (8, .v (.int .i64 a.1))], [(0, .rows true 0 9 [encGame g]), (1, .rows true 0 5 [encPos a.2.2]), (2, .rows true a.2.1.length 5 ((a.2.1 ++ [a.2.2]).map encPos))], 3⟩)
    (fun d a => a.1 + d = picks.length ∧ a.2.1.length = a.1 ∧ POk g a.2.2 ∧ R = a.2.1 ++ walkP g a.2.2 (picks.drop a.1)) ?_ picks.length (0, [], p) ?_) ?_ ?_
  · rintro d ⟨i, pre, cur⟩ ⟨i1, i2, i3, i4⟩ hrec
    simp only at i1 i2 i3 i4
    (repeat (first|with_reducible refine wV fun _=>?_|simp [go_sem]))
    refine aIf.mkL (fun hi => ?_) (fun hi => ?_) <;> simp at hi
    · have hM := R6Moves_pure g hg cur i3
      have hki := hk _ (nth_mem hi)
      have hml := movesP_len hg i3
      have hmo := movesP_ok hg i3
      rw [dropG_cons hi, walkP] at i4
      generalize movesP g cur = l at *
      (repeat (first|with_reducible refine wV fun _=>?_|simp [go_sem]))
      refine ACallP.plain hM (by simp [go_sem]) ?_
      (repeat (first|with_reducible refine wV fun _=>?_|simp [go_sem]))
      by_cases hz : l = []
      · rw [if_pos hz] at i4
        subst hz
        (repeat (first|with_reducible refine wV fun _=>?_|simp [go_sem]))
        rw [i4]
        exact frX
      · rw [if_neg hz] at i4
        have hlp : 0 < l.length := List.length_pos_iff.2 hz
        have e1 : (nth picks i).tmod l.length = (nth picks i).emod l.length := Int.tmod_eq_emod_of_nonneg hki.1
        have e2 : 0 ≤ (nth picks i).emod l.length := Int.emod_nonneg _ (by omega)
        have e3 : (nth picks i).emod l.length < l.length := Int.emod_lt_of_pos _ (by omega)
        generalize (nth picks i).emod l.length = j at *
        have hjl : j.toNat < l.length := by omega
        (repeat (first|with_reducible refine wV fun _=>?_|simp [go_sem, hi, hz, e1, hjl]))
        (refine aIf.mkL (fun hF => by first | omega | (simp at hF; omega)) (fun hF => ?_); clear hF)
        (repeat (first|with_reducible refine wV fun _=>?_|simp [go_sem, hjl]))
        refine ALoop.start (hrec (d - 1) (by omega) (i + 1, pre ++ [cur], nth l j.toNat) ⟨by simp only; omega, by simp; omega, (hmo _ (nth_mem hjl)).1, by simpa using i4⟩) ?_ (by simp)
        simp [go_sem, Wk_eq]
    · rw [List.drop_eq_nil_of_le hi, walkP] at i4
      (repeat (first|with_reducible refine wV fun _=>?_|simp [go_sem]))
      rw [i4]
      exact frX
  · exact ⟨by simp, rfl, hp, by simp [hR]⟩
  · simp [go_sem, Wk_eq]
  · simp
structure Raw6 where
  g : RawG
  p : RawP
  picks : List Int
structure Raw6Ok (x : Raw6) : Prop where
  g : RawOk x.g
  p : RawPOk x.p
  k : ∀ n ∈ x.picks, U8 n
  lk : x.picks.length ≤ 1099511627776
  l0 : x.g.k0.length ≤ 1099511627776
  l1 : x.g.k1.length ≤ 1099511627776
  lc : x.g.c.length ≤ 1099511627776
def encRaw6 (x : Raw6) : List AV := encRaw x.g ++ (encRawP x.p ++ [encUs x.picks])
def game6 (x : Raw6) : GameD := madeG x.g
def walk6 (x : Raw6) : List PosD := walkP (game6 x) (madePos (game6 x) x.p) (x.picks.take 6)
def pos6 (x : Raw6) : PosD := nth (walk6 x) ((walk6 x).length - 1)
theorem game6_ok {x : Raw6} (hx : Raw6Ok x) : GOk (game6 x) := madeG_ok hx.g
theorem pos6_ok {x : Raw6} (hx : Raw6Ok x) : POk (game6 x) (pos6 x) := by
  have hne := List.length_pos_iff.2 (walkP_ne (game6 x) (madePos (game6 x) x.p) (x.picks.take 6))
  exact walkP_ok (game6_ok hx) _ (madePos_ok (game6_ok hx) hx.p) _ (nth_mem (by unfold walk6; omega))
theorem R6Made_pure (x : Raw6) (hx : Raw6Ok x) : Pure Tryz.prog 32 [.agg (encRaw6 x)] (.tup [.agg (encGame (game6 x)), .agg (encPos (pos6 x))]) := by
  refine pF Tryz.func32 ?_
  have hg := game6_ok hx
  have hG := R3Made_pure x.g hx.g hx.lc hx.l0 hx.l1
  have hP := R4Made_pure (game6 x) hg x.p hx.p
  have hlk := hx.lk
  have hW := R6Walk_pure (game6 x) hg (madePos (game6 x) x.p) (madePos_ok hg hx.p) (x.picks.take 6) (by simp; omega) (fun k hk => by have := hx.k k (List.mem_of_mem_take hk); have h0 := this.1; have h1 := this.2; omega)
  have hwl := walkP_len (game6 x) (x.picks.take 6) (madePos (game6 x) x.p)
  have hwp := List.length_pos_iff.2 (walkP_ne (game6 x) (madePos (game6 x) x.p) (x.picks.take 6))
  rw [show walkP (game6 x) (madePos (game6 x) x.p) (x.picks.take 6) = walk6 x from rfl] at hW hwl hwp
  have hq : pos6 x = nth (walk6 x) ((walk6 x).length - 1) := rfl
  rw [show madeG x.g = game6 x from rfl] at hG
  obtain ⟨eg, heg⟩ : ∃ eg, eg = encGame (game6 x) := ⟨_, rfl⟩
  have hegl : eg.length = 9 := by rw [heg]; rfl
  have hegb : ∀ n, (∀ c ∈ eg, Bel n c) = True := fun n => by rw [heg]; simp [go_sem]
  rw [← heg] at hG hP hW ⊢
  generalize walk6 x = w at *
  generalize pos6 x = q at *
  unfold encRaw6
  have hrow := rawRow hx.p
  obtain ⟨er, her⟩ : ∃ er, er = encRawP x.p := ⟨_, rfl⟩
  rw [← her] at hrow hP ⊢
  obtain ⟨rl, _, _, _, _, _, rb⟩ := hrow
  obtain ⟨er1, her1⟩ : ∃ er1, er1 = encRaw x.g := ⟨_, rfl⟩
  have er1l : er1.length = 12 := by rw [her1]; rfl
  have er1b : ∀ n, (∀ c ∈ er1, Bel n c) = True := fun n => by rw [her1]; simp [go_sem]
  rw [← her1] at hG ⊢
  have hc30 : cel (er1 ++ (er ++ [AV.lst 1 (x.picks.map encU)])) 30 = .lst 1 (x.picks.map encU) := by
    unfold cel
    rw [List.getD_eq_getElem?_getD, List.getElem?_append_right (by omega), List.getElem?_append_right (by omega)]
    simp [er1l, rl]
  have hd12 : List.take 18 (List.drop 12 (er1 ++ (er ++ [AV.lst 1 (x.picks.map encU)]))) = er := by
    rw [← er1l, List.drop_left, ← rl, List.take_left]
  (repeat (first|with_reducible refine wV fun _=>?_|simp [go_sem, rl, rb, er1l, er1b, hegl, hegb]))
  refine ACallP.plain hG (by simp [go_sem, er1b]) ?_
  (repeat (first|with_reducible refine wV fun _=>?_|simp [go_sem, rl, rb, er1l, er1b, hegl, hegb, hc30]))
  obtain ⟨pk, hpk⟩ : ∃ pk : Nat → List Int, ∀ i, pk i = x.picks.take i := ⟨_, fun _ => rfl⟩
  have htl : ∀ i, i ≤ x.picks.length → (pk i).length = i := fun i hi => by rw [hpk]; simp; omega
  have hts : ∀ i, i < x.picks.length → pk (i + 1) = pk i ++ [nth x.picks i] := fun i hi => by rw [hpk, hpk, List.take_add_one, List.getElem?_eq_getElem hi, nth_eq _ _ hi]; rfl
  have hp0 : pk 0 = [] := by rw [hpk]; rfl
  rw [← hpk] at hW
  refine ALoop.start (ALoop.ind (α := Nat) (fun i => ⟨[(1, .ref 0 0 31 0 0), (2, .ref 1 0 9 0 0), (3, .ref 2 0 5 0 0), (4, .ref 3 0 9 0 0), (5, .sl 4 i 1 0 i), (6, .v (.int .i64 i))],
      [(0, .rows true 0 31 [er1 ++ (er ++ [AV.lst 1 (x.picks.map encU)])]), (1, .rows true 0 9 [[.v (.int .i64 0), AV.nils, AV.nils, AV.nils, .v (.int .i64 0), .v (.bool false), AV.nils, .v (.int .i64 0), .v (.int .i64 0)]]),
       (2, .rows true 0 5 [[AV.nils, AV.nils, AV.nils, .v (.int .i64 0), .v (.int .i64 0)]]), (3, .rows true 0 9 [eg]), (4, .rows true i 1 ((pk i).map encI))], 5⟩)
    (fun d i => i + d = min x.picks.length 6) ?_ (min x.picks.length 6) 0 ?_) ?_ ?_
  · rintro d i i1 hrec
    (repeat (first|with_reducible refine wV fun _=>?_|simp [go_sem, rl, rb, er1l, er1b, hegl, hegb, hc30]))
    refine aIf.mkL (fun hi => ?_) (fun hi => ?_) <;> simp at hi
    · have hil : i < x.picks.length := by omega
      have hki := hx.k _ (nth_mem hil)
      have hk0 := hki.1
      have hk1 := hki.2
      have e1 := htl i (by omega)
      have e2 := hts i hil
      (repeat (first|with_reducible refine wV fun _=>?_|simp [go_sem, rl, er1l, hc30, hil, e1]))
      refine ALoop.start (hrec (d - 1) (by omega) (i + 1) (by omega)) ?_ (by simp)
      simp [go_sem, Wk_eq, e2, rb, er1b, hegb]
    · have hil : i = min x.picks.length 6 := by omega
      have e1 := htl i (by omega)
      have e2 : pk i = pk 6 := by rw [hpk, hpk, hil, List.take_eq_take_iff]; omega
      rw [← e2] at hW
      (repeat (first|with_reducible refine wV fun _=>?_|simp [go_sem, rl, rb, er1l, er1b, hegl, hegb, hd12]))
      refine dCall.plain hP (by simp [go_sem, hegb, rb]) ?_
      (repeat (first|with_reducible refine wV fun _=>?_|simp [go_sem, rl, rb, er1l, er1b, hegl, hegb]))
      refine dCall.frz [.agg eg, .agg (encPos (madePos (game6 x) x.p)), encIs (pk i)] _ [4] [(4, some (.rows false i 1 ((pk i).map encI)))] hW ?_ ?_ (by simp [go_sem, hegb]) ?_
      · intro p hp
        simp only [List.mem_singleton] at hp
        subst hp
        exact ⟨by simp, i, 1, _, rfl, by simp [upd]⟩
      · intro h₁ hS
        have h7 := hS 4 (by simp)
        simp [upd] at h7
        exact .cons (.refl _) (.cons (.refl _) (.cons (leV_frz h7.symm (by simp [e1]) (by simp [applyW, upd]) (by rw [List.drop_zero, List.take_of_length_le (by simp [e1])])) .nil))
      · have h6 : (x.picks.take 6).length ≤ 6 := by simp; omega
        have hw7 : w.length ≤ 7 := by omega
        have hwi : ((w.length : Int) - 1).toNat = w.length - 1 := by omega
        have hwn : w.length - 1 < w.length := by omega
        rw [hq]
        (repeat (first|with_reducible refine wV fun _=>?_|simp [go_sem, rl, rb, er1l, er1b, hegl, hegb, hwi, hwn]))
  · omega
  · simp [go_sem, Wk_eq, rb, er1b, hegb, hp0]
  · simp
theorem raw6_len {x : Raw6} (hx : Raw6Ok x) : (encRaw6 x).length = 31 := by
  obtain ⟨rl, _, _, _, _, _, rb⟩ := rawRow hx.p
  simp [encRaw6, encRaw, rl]
theorem raw6_bel {x : Raw6} (hx : Raw6Ok x) (n : Nat) : (∀ c ∈ encRaw6 x, Bel n c) = True := by
  obtain ⟨rl, _, _, _, _, _, rb⟩ := rawRow hx.p
  refine eq_true ?_
  intro c hc
  unfold encRaw6 at hc
  rcases List.mem_append.1 hc with h | h
  · have : (∀ c ∈ encRaw x.g, Bel n c) = True := by simp [go_sem]
    exact of_eq_true this c h
  · rcases List.mem_append.1 h with h | h
    · exact of_eq_true (rb n) c h
    · simp only [List.mem_singleton] at h
      subst h
      simp [go_sem]
end Go.Av
end
section
/- The law RegionPaths: its call gives true. -/
open Go Go.Proofs
namespace Go.Av
theorem RegionPaths_pure (x : Raw6) (hx : Raw6Ok x) : Pure Tryz.prog 15 [.agg (encRaw6 x)] (.v (.bool true)) := by
 refine pF Tryz.func15 ?_
 have hM := R6Made_pure x hx
 have hg := game6_ok hx
 have hp := pos6_ok hx
 have hs1 : OneSlide (game6 x) := madeG_slide x.g
 obtain ⟨er, her⟩ : ∃ er, er = encRaw6 x := ⟨_, rfl⟩
 have herl : er.length = 31 := by rw [her]; exact raw6_len hx
 have herb : ∀ n, (∀ c ∈ er, Bel n c) = True := fun n => by rw [her]; exact raw6_bel hx n
 rw [← her] at hM ⊢
 generalize game6 x = g at *
 generalize pos6 x = p at *
 have hS := sanity22_pure
 have hsm := small22_pure g hg hs1
 have hOf := rOf_pure g hg
 have hsr1 := sideR_codeP hg 0
 have hsr2 := sideR_codeP hg 1
 have hrg := fun (c i : Nat) (hc : ChoiceOk g p c i) => runsP_region hg hsr1 hsr2 hp hc
 have hRu := fun (c i : Nat) (hc : ChoiceOk g p c i) => rRuns_pure g hg p hp (c : Int) (i : Int) hc
 have hofl : (namesL (linksC (codeP g)) g.cells.toNat).length = g.cells.toNat := by simp [namesL]
 have hal := hp.al
 have hav := hp.av
 have hps := hp.s
 have hegl : (encGame g).length = 9 := rfl
 have hegb : ∀ n, (∀ c ∈ encGame g, Bel n c) = True := fun n => by simp [go_sem]
 have hegc : cel (encGame g) 0 = .v (.int .i64 g.cells) := rfl
 have hegk : cel (encGame g) 3 = .lst 3 (g.kinds.map encKind) := rfl
 generalize decide (countC (codeP g) ≤ 3000) = sm at *
 generalize namesL (linksC (codeP g)) g.cells.toNat = of at *
 have hkn : ∀ c : Nat, c < p.at_.length → nth p.at_ c ≠ 0 → 0 ≤ (manOf (nth p.at_ c)).1 ∧ (manOf (nth p.at_ c)).1.toNat < g.kinds.length := fun c hc h0 => by
  have hv := hav _ (nth_mem hc)
  rcases manOf_cases hv.1 hv.2 hg.k6 with h | h
  ·exact absurd h.1 h0
  ·omega
 generalize encGame g = eg at *
 (repeat (first|with_reducible refine wV fun _=>?_|simp [go_sem, herl]))
 refine ACallP.plain hS (by simp [go_sem]) ?_
 (repeat (first|with_reducible refine wV fun _=>?_|simp [go_sem, herl]))
 refine ACallP.plain hM (by simp [go_sem, herb]) ?_
 (repeat (first|with_reducible refine wV fun _=>?_|simp [go_sem, herl, hegl]))
 refine ACallP.plain hsm (by simp [go_sem, hegb]) ?_
 cases sm
 ·(repeat (first|with_reducible refine wV fun _=>?_|simp [go_sem, hegl]))
 ·(repeat (first|with_reducible refine wV fun _=>?_|simp [go_sem, hegl]))
  refine ACallP.plain hOf (by simp [go_sem, hegb]) ?_
  have hc0 : ((of.length : Int) = g.cells) := by rw [hofl]; have := hg.c1; omega
  (repeat (first|with_reducible refine wV fun _=>?_|simp [go_sem, hegl, hegc, hc0]))
  refine ALoop.start (ALoop.ind (α := Nat) (fun c => ⟨[(3, .v (.bool true)), (4, .ref 1 0 9 0 0), (5, .ref 2 0 5 0 0), (6, encIs of), (7, .v (.int .i64 c))], [(1, .rows true 0 9 [eg]), (2, .rows true 0 5 [encPos p])], 3⟩)
   (fun d c => c + d = p.at_.length) ?_ p.at_.length 0 ?_) ?_ ?_
  ·rintro d c i1 hrec
   (repeat (first|with_reducible refine wV fun _=>?_|simp [go_sem, hegl]))
   refine aIf.mkL (fun hc => ?_) (fun hc => ?_) <;> simp at hc
   ·have hv := hav _ (nth_mem hc)
    have hco : c < of.length := by omega
    have hk6 := hg.k6
    have hc9 := hg.c9
    by_cases h0 : nth p.at_ c = 0
    ·(repeat (first|with_reducible refine wV fun _=>?_|simp [go_sem, hegl, hc, h0]))
     refine ALoop.start (hrec (d - 1) (by omega) (c + 1) (by omega)) ?_ (by simp)
     simp [go_sem, Wk_eq, hegb]
    ·obtain ⟨k1, k2⟩ := hkn c hc h0
     have hman : manOf (nth p.at_ c) = ((nth p.at_ c - 1).tdiv 2, (nth p.at_ c - 1).tmod 2) := by unfold manOf; rw [if_pos (by omega)]
     by_cases hsd : (nth p.at_ c - 1).tmod 2 = p.side
     ·have hch : ∀ i : Nat, i < (nth g.kinds (manOf (nth p.at_ c)).1.toNat).progs.length → ChoiceOk g p c i := fun i hi =>
       ⟨by omega, by omega, by simpa using k1, by simp only [Int.toNat_natCast]; rw [hman]; exact hsd, by omega, by simpa using hi⟩
      rw [hman] at hch k1 k2
      simp only at hch k1 k2
      have hgk : nth (g.kinds.map encKind) ((nth p.at_ c - 1).tdiv 2).toNat = encKind (nth g.kinds ((nth p.at_ c - 1).tdiv 2).toNat) := nth_map _ _ _ k2
      generalize hkk : (nth p.at_ c - 1).tdiv 2 = kk at *
      generalize hss : (nth p.at_ c - 1).tmod 2 = ss at *
      (repeat (first|with_reducible refine wV fun _=>?_|simp [go_sem, hegl, hegk, hc, h0, hss, hsd, hkk, k2, hgk]))
      obtain ⟨ps, hps2⟩ : ∃ ps, ps = (nth g.kinds kk.toNat).progs := ⟨_, rfl⟩
      rw [← hps2] at hch ⊢
      have hpl := hg.pn _ (nth_mem k2)
      rw [← hps2] at hpl
      refine ALoop.start (ALoop.ind (α := Nat) (fun i => ⟨[(3, .v (.bool true)), (4, .ref 1 0 9 0 0), (5, .ref 2 0 5 0 0), (6, encIs of), (7, .v (.int .i64 c)), (8, .lst 1 (ps.map fun p => [.lst 2 (p.map encStep)])), (9, .v (.int .i64 i))], [(1, .rows true 0 9 [eg]), (2, .rows true 0 5 [encPos p])], 34⟩)
       (fun d i => i + d = ps.length) ?_ ps.length 0 ?_) ?_ ?_
      ·rintro d2 i i2 hrec2
       (repeat (first|with_reducible refine wV fun _=>?_|simp [go_sem, hegl]))
       refine aIf.mkL (fun hi => ?_) (fun hi => ?_) <;> simp at hi
       ·have hcho := hch i hi
        have hR := hRu c i hcho
        have hrg := hrg c i hcho
        have hrl := runsP_len hg hp hcho
        generalize runsP g p (c : Int) (i : Int) = outs at *
        (repeat (first|with_reducible refine wV fun _=>?_|simp [go_sem, hegl, hi]))
        (first | refine ACallP.plain (hR) (by simp [go_sem, hegb]) ?_ | refine aGC.plain _ (fun _ => hR) (by simp [go_sem, hegb]) ?_ | ((try ((with_reducible refine wZ ?_); (try simp [go_sem]))); first | refine dCall.plain (hR) (by simp [go_sem, hegb]) ?_ | refine dGC.plain _ (fun _ => hR) (by simp [go_sem, hegb]) ?_))
        (repeat (first|with_reducible refine wV fun _=>?_|simp [go_sem, hegl]))
        refine ALoop.start (ALoop.ind (α := Nat) (fun k => ⟨[(3, .v (.bool true)), (4, .ref 1 0 9 0 0), (5, .ref 2 0 5 0 0), (6, encIs of), (7, .v (.int .i64 c)), (8, .lst 1 (ps.map fun p => [.lst 2 (p.map encStep)])), (9, .v (.int .i64 i)), (10, encOs outs), (12, .v (.int .i64 k))], [(1, .rows true 0 9 [eg]), (2, .rows true 0 5 [encPos p])], 47⟩)
         (fun d k => k + d = outs.length) ?_ outs.length 0 ?_) ?_ ?_
        ·rintro d3 k k3 hrec3
         (repeat (first|with_reducible refine wV fun _=>?_|simp [go_sem, hegl]))
         refine aIf.mkL (fun hko => ?_) (fun hko => ?_) <;> simp at hko
         ·obtain ⟨r1, r2⟩ := hrg _ (nth_mem hko)
          have hgo : nth (outs.map encOut) k = encOut (nth outs k) := nth_map _ _ _ hko
          generalize nth outs k = o at *
          obtain ⟨⟨oat, oh0, oh1, ori, osi⟩, otk⟩ := o
          simp only at r1 r2
          have r1' : (oat.length : Int) = p.at_.length := by omega
          (repeat (first|with_reducible refine wV fun _=>?_|simp [go_sem, hegl, hko, hgo, r1']))
          refine ALoop.start (ALoop.ind (α := Nat) (fun z => ⟨[(3, .v (.bool true)), (4, .ref 1 0 9 0 0), (5, .ref 2 0 5 0 0), (6, encIs of), (7, .v (.int .i64 c)), (8, .lst 1 (ps.map fun p => [.lst 2 (p.map encStep)])), (9, .v (.int .i64 i)), (10, encOs outs), (12, .v (.int .i64 k)), (13, .v (.int .i64 z))], [(1, .rows true 0 9 [eg]), (2, .rows true 0 5 [encPos p])], 58⟩)
           (fun d z => z + d = p.at_.length) ?_ p.at_.length 0 ?_) ?_ ?_
          ·rintro d4 z z4 hrec4
           (repeat (first|with_reducible refine wV fun _=>?_|simp [go_sem, hegl]))
           refine aIf.mkL (fun hz => ?_) (fun hz => ?_) <;> simp at hz
           ·have hzo : z < oat.length := by omega
            have hzf : z < of.length := by omega
            have r2z := r2 z hz
            (repeat (first|with_reducible refine wV fun _=>?_|simp [go_sem, hegl, hko, hgo, hz, hzo, hzf, hco]))
            refine aIf.mkL (fun hF => ?_) (fun _ => ?_)
            ·exfalso
             simp at hF
             exact hF.2 (r2z hF.1)
            ·(repeat (first|with_reducible refine wV fun _=>?_|simp [go_sem, hegl]))
             refine ALoop.start (hrec4 (d4 - 1) (by omega) (z + 1) (by omega)) ?_ (by simp)
             simp [go_sem, Wk_eq, hegb]
           ·(repeat (first|with_reducible refine wV fun _=>?_|simp [go_sem, hegl]))
            refine ALoop.start (hrec3 (d3 - 1) (by omega) (k + 1) (by omega)) ?_ (by simp)
            simp [go_sem, Wk_eq, hegb]
          ·simp
          ·simp [go_sem, Wk_eq, hegb]
          ·simp
         ·(repeat (first|with_reducible refine wV fun _=>?_|simp [go_sem, hegl]))
          refine ALoop.start (hrec2 (d2 - 1) (by omega) (i + 1) (by omega)) ?_ (by simp)
          simp [go_sem, Wk_eq, hegb]
        ·simp
        ·simp [go_sem, Wk_eq, hegb]
        ·simp
       ·(repeat (first|with_reducible refine wV fun _=>?_|simp [go_sem, hegl]))
        refine ALoop.start (hrec (d - 1) (by omega) (c + 1) (by omega)) ?_ (by simp)
        simp [go_sem, Wk_eq, hegb]
      ·simp
      ·simp [go_sem, Wk_eq, hegb]
      ·simp
     ·(repeat (first|with_reducible refine wV fun _=>?_|simp [go_sem, hegl, hc, h0, hsd]))
      refine ALoop.start (hrec (d - 1) (by omega) (c + 1) (by omega)) ?_ (by simp)
      simp [go_sem, Wk_eq, hegb]
   ·(repeat (first|with_reducible refine wV fun _=>?_|simp [go_sem, hegl]))
  ·simp
  ·simp [go_sem, Wk_eq, hegb]
  ·simp
end Go.Av
end
section
/- Our library, part 14: arguments, as the statements read them, are values of the abstract domain. -/
namespace Go.Av
open Go

abbrev NoM : Nat → Prop := fun _ => False

structure Bulk (B : Nat) (bk : ∀ {H : Type}, DataW H → Nat) : Prop where
 len : ∀ {H : Type} (l r : List (DataW H)), bk (.slice l r) ≤ B → l.length ≤ maxLen → l.length ≤ B
 elem : ∀ {H : Type} (l r : List (DataW H)) d, d ∈ l → bk (.slice l r) ≤ B → bk d ≤ B
 part : ∀ {H : Type} (l : List (DataW H)) d, d ∈ l → bk (.agg l) ≤ B → bk d ≤ B
 str : ∀ {H : Type} (l : List UInt8), bk (DataW.lit (H := H) (.string l)) ≤ B → l.length ≤ maxLen → l.length ≤ B

theorem Bulk.any : Bulk maxLen (fun _ => 0) := ⟨fun _ _ _ h => h, fun _ _ _ _ _ => Nat.zero_le _, fun _ _ _ _ => Nat.zero_le _, fun _ _ h => h⟩

def Opn (P : Program) (B : Nat) (bk : ∀ {H : Type}, DataW H → Nat) {α : Type} (t : TypeId) (en : α → List AV) (Q : α → Prop) : Prop :=
 ∀ {H : Type} (enc : TypeId × Value → H) (w : World) (fuel : Nat) (cs : List Value) (d : DataW H) (ps : List MemPlace),
  DataW.trod enc P w 0 (fun _ => true) true fuel t cs = some (d, ps) → bk d ≤ B → ∃ x, RelL noP w NoM (en x) cs ∧ (∀ c ∈ cs, cellV c = true) ∧ cs.length = P.cellsOf t ∧ Q x

section
variable {P : Program} {B : Nat} {bk : ∀ {H : Type}, DataW H → Nat}
theorem Opn.int {t : TypeId} {k : IntKind} (ht : P.underlying t = some (.int k)) (hc : P.cellsOf t = 1) : Opn P B bk t (fun n : Int => [.v (.int k n)]) (fun n => (Lit.int k n).wf = true) := by
 intro H enc w fuel cs d ps h _
 obtain ⟨n, rfl, _, hw⟩ := DataW.trod_int ht h
 exact ⟨n, .cons (.v _) .nil, by simp [cellV, Value.oneCell'], by simp [hc], hw⟩
theorem Opn.bool {t : TypeId} (ht : P.underlying t = some .bool) (hc : P.cellsOf t = 1) : Opn P B bk t (fun b : Bool => [.v (.bool b)]) (fun _ => True) := by
 intro H enc w fuel cs d ps h _
 obtain ⟨n, rfl, _⟩ := DataW.trod_bool ht h
 exact ⟨n, .cons (.v _) .nil, by simp [cellV, Value.oneCell'], by simp [hc], trivial⟩
theorem Opn.string {t : TypeId} (hB : Bulk B bk) (ht : P.underlying t = some .string) (hc : P.cellsOf t = 1) : Opn P B bk t (fun s : ByteArray => [.v (.string s)]) (fun s => s.size ≤ B) := by
 intro H enc w fuel cs d ps h hb
 obtain ⟨n, rfl, hx, hm⟩ := DataW.trod_string ht h
 simp only [Prod.mk.injEq] at hx
 obtain ⟨rfl, _⟩ := hx
 refine ⟨n, .cons (.v _) .nil, by simp [cellV, Value.oneCell'], by simp [hc], ?_⟩
 have := hB.str _ hb (by simpa using hm)
 simpa using this
theorem Opn.imp {α : Type} {t : TypeId} {en : α → List AV} {Q Q' : α → Prop} (h : Opn P B bk t en Q) (hq : ∀ x, Q x → Q' x) : Opn P B bk t en Q' := by
 intro H enc w fuel cs d ps h1 h2
 obtain ⟨x, a, b, c, e⟩ := h enc w fuel cs d ps h1 h2
 exact ⟨x, a, b, c, hq x e⟩
theorem Opn.map {α β : Type} {t : TypeId} {en : α → List AV} {en' : β → List AV} {Q : α → Prop} {Q' : β → Prop} (h : Opn P B bk t en Q) (f : α → β) (hq : ∀ x, Q x → Q' (f x)) (he : ∀ x, Q x → en' (f x) = en x) : Opn P B bk t en' Q' := by
 intro H enc w fuel cs d ps h1 h2
 obtain ⟨x, a, b, c, e⟩ := h enc w fuel cs d ps h1 h2
 exact ⟨f x, by rw [he x e]; exact a, b, c, hq x e⟩
theorem cells?_get {w : World} {a : Addr} {n : Nat} {cs : List Value} (h : w.cells? 0 a n = some cs) : cs.length = n ∧ ∀ i, i < n → w.cell? (a.add i) = cs[i]? := by
 unfold World.cells? at h
 rw [if_pos (Nat.zero_le _)] at h
 exact ⟨by simpa using mapM_some_length h, fun i hi => mapM_some_get h i i (by simp [hi])⟩
theorem cell?_block {w : World} {a : Addr} {v : Value} (h : w.cell? a = some v) : ∃ C T fz, w.heap[a.block]? = some (.cells C T fz) ∧ a.spot = none ∧ C[a.off]? = some v := by
 unfold World.cell? at h
 split at h
 ·rename_i C T fz hb
  split at h
  ·cases h
  ·rename_i hs
   refine ⟨C, T, fz, hb, ?_, h⟩
   cases hsp : a.spot with
   | none => rfl
   | some x => simp [hsp] at hs
 ·cases h
theorem add_block (a : Addr) (n : Nat) : (a.add n).block = a.block := by unfold Addr.add; split <;> rfl
theorem add_off (a : Addr) (n : Nat) : (a.add n).off = a.off + n := by
 unfold Addr.add
 split
 ·rename_i h; subst h; rfl
 ·rfl
theorem relL_flatten {φ : Place} {w : World} {M : Nat → Prop} {rows : List (List AV)} {L : List Value} {sz : Nat} (hl : L.length = rows.length * sz)
  (h : ∀ i (hi : i < rows.length), RelL φ w M rows[i] ((L.drop (i * sz)).take sz)) : RelL φ w M rows.flatten L := by
 induction rows generalizing L with
 | nil => simp at hl; subst hl; exact .nil
 | cons r rows ih =>
  have h0 := h 0 (by simp)
  simp only [List.getElem_cons_zero, Nat.zero_mul, List.drop_zero] at h0
  rw [List.flatten_cons, ← List.take_append_drop sz L]
  refine RelL.append h0 (ih (by simp at hl ⊢; rw [hl, Nat.add_mul]; omega) fun i hi => ?_)
  have := h (i + 1) (by simpa using hi)
  simp only [List.getElem_cons_succ] at this
  rw [List.drop_drop, show sz + i * sz = (i + 1) * sz by rw [Nat.add_mul]; omega]
  exact this
theorem exists_list {α : Type} (n : Nat) (p : Nat → α → Prop) (h : ∀ i, i < n → ∃ x, p i x) : ∃ l : List α, l.length = n ∧ ∀ i (hi : i < l.length), p i l[i] := by
 induction n with
 | zero => exact ⟨[], rfl, fun i hi => by simp at hi⟩
 | succ n ih =>
  obtain ⟨l, hl, hp⟩ := ih fun i hi => h i (by omega)
  obtain ⟨x, hx⟩ := h n (by omega)
  refine ⟨l ++ [x], by simp [hl], fun i hi => ?_⟩
  rcases Nat.lt_or_ge i l.length with h1 | h1
  ·rw [List.getElem_append_left h1]; exact hp i h1
  ·have : i = n := by simp at hi; omega
   subst this
   simp [List.getElem_append_right, hl, hx]
theorem Opn.slice {α : Type} {t e : TypeId} {en : α → List AV} {Q : α → Prop} {sz : Nat} (hB : Bulk B bk) (ht : P.underlying t = some (.slice e)) (hc : P.cellsOf t = 1) (hz : P.cellsOf e = sz) (hp : 0 < sz)
  (he : Opn P B bk e en Q) : Opn P B bk t (fun l : List α => [.lst sz (l.map en)]) (fun l => l.length ≤ B ∧ ∀ x ∈ l, Q x) := by
 intro H enc w fuel cs d ps h hb
 rcases DataW.trod_slice ht h with ⟨rfl, _⟩ | ⟨a, len, cap, elems, rest, n, rfl, rfl, hx, _, hlen, hmax, hel, hget, _, _⟩
 ·exact ⟨[], .cons (.nil _ _ _) .nil, by simp [cellV, Value.oneCell'], by simp [hc], by simp, by simp⟩
 ·simp only [Prod.mk.injEq] at hx
  obtain ⟨rfl, _⟩ := hx
  rw [hz] at hget
  have key : ∀ i (hi : i < len), ∃ x ci, w.cells? 0 (a.add (i * sz)) sz = some ci ∧ RelL noP w NoM (en x) ci ∧ (∀ c ∈ ci, cellV c = true) ∧ Q x := by
   intro i hi
   have h1 := hget i hi
   rw [List.getElem?_eq_getElem (by omega), Option.bind_eq_some_iff] at h1
   obtain ⟨ci, h2, h3⟩ := h1
   obtain ⟨x, a1, a2, _, a4⟩ := he enc w n ci elems[i].1 elems[i].2 h3 (hB.elem _ _ _ (List.mem_map.2 ⟨elems[i], List.getElem_mem _, rfl⟩) hb)
   exact ⟨x, ci, h2, a1, a2, a4⟩
  have hlb : len ≤ B := by have := hB.len _ _ hb (by simp; omega); simp at this; omega
  obtain ⟨l, hl, hx⟩ := exists_list len _ key
  refine ⟨l, ?_, by simp [cellV, Value.oneCell'], by simp [hc], by omega, fun x hxm => ?_⟩
  ·rcases Nat.eq_zero_or_pos len with h0 | h0
   ·have : l = [] := List.eq_nil_of_length_eq_zero (by omega)
    subst this
    rw [h0]
    exact .cons (.nil _ _ _) .nil
   ·have cellI : ∀ i, i < len → ∀ j, j < sz → ∃ v, w.cell? (a.add (i * sz + j)) = some v ∧ cellV v = true := by
     intro i hi j hj
     obtain ⟨x, ci, h2, a1, a2, a3⟩ := key i hi
     obtain ⟨hcl, hcg⟩ := cells?_get h2
     refine ⟨ci[j], ?_, a2 _ (List.getElem_mem (by omega))⟩
     have := hcg j hj
     rw [List.getElem?_eq_getElem (by omega)] at this
     rw [← this]
     simp only [World.cell?, add_block, add_off, Nat.add_assoc]
     by_cases hj0 : j = 0
     ·subst hj0; simp [Addr.add]
     ·simp [Addr.add, hj0]
    obtain ⟨v0, hv0, _⟩ := cellI 0 h0 0 hp
    obtain ⟨C, T, fz, hC, hs, _⟩ := cell?_block hv0
    simp only [Nat.zero_mul, Nat.zero_add, Addr.add, if_true] at hC hs
    have cellC : ∀ k, k < len * sz → ∃ v, C[a.off + k]? = some v ∧ w.cell? (a.add k) = some v ∧ cellV v = true := by
     intro k hk
     have hi : k / sz < len := Nat.div_lt_of_lt_mul (by rw [Nat.mul_comm]; exact hk)
     have hj : k % sz < sz := Nat.mod_lt _ hp
     obtain ⟨v, h1, h2⟩ := cellI _ hi _ hj
     rw [show k / sz * sz + k % sz = k by rw [Nat.mul_comm]; exact Nat.div_add_mod k sz] at h1
     obtain ⟨C', T', fz', hC', hs', hv'⟩ := cell?_block h1
     rw [add_block, hC] at hC'
     simp only [Option.some.injEq, Obj.cells.injEq] at hC'
     obtain ⟨rfl, _, _⟩ := hC'
     rw [add_off] at hv'
     exact ⟨v, hv', h1, h2⟩
    have hsz : a.off + len * sz ≤ C.size := by
     have hpos : 0 < len * sz := Nat.mul_pos h0 hp
     obtain ⟨v, h1, _⟩ := cellC (len * sz - 1) (by omega)
     have := (Array.getElem?_eq_some_iff.1 h1).1
     omega
    have hL : ((C.toList.drop a.off).take (len * sz)).length = len * sz := by simp; omega
    have hget : ∀ k, k < len * sz → ((C.toList.drop a.off).take (len * sz))[k]? = C[a.off + k]? := by
     intro k hk
     rw [List.getElem?_take, if_pos hk, List.getElem?_drop]; simp
    have hrl : ∀ i (hi : i < l.length), ∃ ci, w.cells? 0 (a.add (i * sz)) sz = some ci ∧ RelL noP w NoM (en l[i]) ci := fun i hi => by
     obtain ⟨ci, h2, a1, _⟩ := hx i hi
     exact ⟨ci, h2, a1⟩
    refine .cons (.lst (C := C) (T := T) (fz := fz) hs (fun h => h) hC (fun r hr => ?_) (by simp; omega) (by rw [List.length_map, hl]; exact hsz) (by omega) (fun u hu => ?_) ?_) .nil
    ·obtain ⟨x, hxm, rfl⟩ := List.mem_map.1 hr
     obtain ⟨i, hi, rfl⟩ := List.getElem_of_mem hxm
     obtain ⟨ci, h2, a1⟩ := hrl i hi
     rw [a1.length, (cells?_get h2).1]
    ·rw [List.length_map, hl] at hu
     obtain ⟨k, hk, rfl⟩ := List.getElem_of_mem hu
     rw [hL] at hk
     obtain ⟨v, h1, _, h3⟩ := cellC k hk
     have := hget k hk
     rw [List.getElem?_eq_getElem (by omega), h1] at this
     simp only [Option.some.injEq] at this
     rw [this]; exact h3
    ·rw [List.length_map, hl]
     refine relL_flatten (sz := sz) (by rw [hL, List.length_map, hl]) fun i hi => ?_
     rw [List.length_map] at hi
     obtain ⟨ci, h2, a1⟩ := hrl i hi
     rw [List.getElem_map]
     obtain ⟨hcl, hcg⟩ := cells?_get h2
     have hle : (i + 1) * sz ≤ len * sz := Nat.mul_le_mul_right _ (by omega)
     rw [Nat.add_mul] at hle
     have : ci = (((C.toList.drop a.off).take (len * sz)).drop (i * sz)).take sz := by
      refine List.ext_getElem? fun j => ?_
      rcases Nat.lt_or_ge j sz with hj | hj
      ·rw [← hcg j hj, List.getElem?_take, if_pos hj, List.getElem?_drop, hget _ (by omega)]
       obtain ⟨v, h1, h3, _⟩ := cellC (i * sz + j) (by omega)
       rw [h1, ← h3]
       simp only [World.cell?, add_block, add_off, Nat.add_assoc]
       by_cases hj0 : j = 0
       ·subst hj0; simp [Addr.add]
       ·simp [Addr.add, hj0]
      ·rw [List.getElem?_eq_none (by omega), List.getElem?_eq_none (by simp; omega)]
     rw [← this]; exact a1
  ·obtain ⟨i, hi, rfl⟩ := List.getElem_of_mem hxm
   obtain ⟨ci, _, _, _, a4⟩ := hx i hi
   exact a4
theorem Opn.array {α : Type} {t e : TypeId} {en : α → List AV} {Q : α → Prop} {n sz : Nat} (hB : Bulk B bk) (ht : P.underlying t = some (.array n e)) (hz : P.cellsOf e = sz) (hc : P.cellsOf t = n * sz)
  (he : Opn P B bk e en Q) : Opn P B bk t (fun l : List α => (l.map en).flatten) (fun l => l.length = n ∧ ∀ x ∈ l, Q x) := by
 intro H enc w fuel cs d ps h hb
 obtain ⟨xs, m, _, hx, hl, hxl, hget⟩ := DataW.trod_array ht h
 simp only [Prod.mk.injEq] at hx
 obtain ⟨rfl, _⟩ := hx
 rw [hz] at hget
 have key : ∀ i, i < n → ∃ x, RelL noP w NoM (en x) ((cs.drop (i * sz)).take sz) ∧ (∀ c ∈ (cs.drop (i * sz)).take sz, cellV c = true) ∧ Q x := by
  intro i hi
  have h1 := hget i hi
  rw [List.getElem?_eq_getElem (by omega)] at h1
  obtain ⟨x, a1, a2, _, a4⟩ := he enc w m _ xs[i].1 xs[i].2 h1 (hB.part _ _ (List.mem_map.2 ⟨xs[i], List.getElem_mem _, rfl⟩) hb)
  exact ⟨x, a1, a2, a4⟩
 obtain ⟨l, hll, hx⟩ := exists_list n _ key
 rw [hc] at hl
 refine ⟨l, relL_flatten (sz := sz) (by rw [List.length_map, hll]; exact hl) (fun i hi => ?_), fun c hcm => ?_, by rw [hc]; exact hl, hll, fun x hxm => ?_⟩
 ·rw [List.length_map] at hi
  rw [List.getElem_map]; exact (hx i hi).1
 ·obtain ⟨k, hk, rfl⟩ := List.getElem_of_mem hcm
  have hp : 0 < sz := Nat.pos_of_ne_zero fun h0 => by subst h0; simp at hl; subst hl; simp at hk
  have hi : k / sz < n := Nat.div_lt_of_lt_mul (by rw [Nat.mul_comm, ← hl]; exact hk)
  have hj : k % sz < sz := Nat.mod_lt _ hp
  have e : k / sz * sz + k % sz = k := by rw [Nat.mul_comm]; exact Nat.div_add_mod k sz
  refine (hx (k / sz) (by omega)).2.1 _ (List.mem_iff_getElem?.2 ⟨k % sz, ?_⟩)
  rw [List.getElem?_take, if_pos hj, List.getElem?_drop, e]
  exact List.getElem?_eq_getElem hk
 ·obtain ⟨i, hi, rfl⟩ := List.getElem_of_mem hxm
  exact (hx i hi).2.2
def OpnF (P : Program) (B : Nat) (bk : ∀ {H : Type}, DataW H → Nat) {α : Type} (ts : List TypeId) (en : α → List AV) (Q : α → Prop) : Prop :=
 ∀ {H : Type} (enc : TypeId × Value → H) (w : World) (fuel : Nat) (cs : List Value), cs.length = (ts.map P.cellsOf).sum →
  (∀ i (hi : i < ts.length), ∃ d ps, DataW.trod enc P w 0 (fun _ => true) true fuel ts[i] ((cs.drop ((ts.take i).map P.cellsOf).sum).take (P.cellsOf ts[i])) = some (d, ps) ∧ bk d ≤ B) →
  ∃ x, RelL noP w NoM (en x) cs ∧ (∀ c ∈ cs, cellV c = true) ∧ Q x
theorem OpnF.nil : OpnF P B bk [] (fun _ : Unit => []) (fun _ => True) := by
 intro H enc w fuel cs hl _
 have : cs = [] := List.eq_nil_of_length_eq_zero (by simpa using hl)
 subst this
 exact ⟨(), .nil, by simp, trivial⟩
theorem OpnF.cons {α β : Type} {t : TypeId} {ts : List TypeId} {en : α → List AV} {Q : α → Prop} {en' : β → List AV} {Q' : β → Prop} (h : Opn P B bk t en Q) (h' : OpnF P B bk ts en' Q') :
  OpnF P B bk (t :: ts) (fun x : α × β => en x.1 ++ en' x.2) (fun x => Q x.1 ∧ Q' x.2) := by
 intro H enc w fuel cs hl hd
 obtain ⟨d, ps, h1, h2⟩ := hd 0 (by simp)
 simp only [List.getElem_cons_zero, List.take_zero, List.map_nil, List.sum_nil, List.drop_zero] at h1
 obtain ⟨x, a1, a2, a3, a4⟩ := h enc w fuel _ d ps h1 h2
 obtain ⟨y, b1, b2, b3⟩ := h' enc w fuel (cs.drop (P.cellsOf t)) (by simp at hl ⊢; omega) (fun i hi => by
  obtain ⟨d, ps, k1, k2⟩ := hd (i + 1) (by simpa using hi)
  simp only [List.getElem_cons_succ, List.take_succ_cons, List.map_cons, List.sum_cons] at k1
  exact ⟨d, ps, by rw [List.drop_drop]; exact k1, k2⟩)
 refine ⟨(x, y), ?_, fun c hc => ?_, a4, b3⟩
 ·rw [← List.take_append_drop (P.cellsOf t) cs]
  exact RelL.append a1 b1
 ·rw [← List.take_append_drop (P.cellsOf t) cs] at hc
  rcases List.mem_append.1 hc with hc | hc
  ·exact a2 c hc
  ·exact b2 c hc
def fieldsOk (P : Program) (t : TypeId) (ts : List TypeId) : Bool := match P.underlying t with
 | some (.struct fs) => decide (fs.toList.map (·.type) = ts) && decide (fs.toList.map (·.offset) = (List.range ts.length).map fun i => ((ts.take i).map P.cellsOf).sum) && decide (P.cellsOf t = (ts.map P.cellsOf).sum)
 | _ => false
theorem Opn.struct {α : Type} {t : TypeId} {ts : List TypeId} {en : α → List AV} {Q : α → Prop} (hB : Bulk B bk) (ht : fieldsOk P t ts = true) (h : OpnF P B bk ts en Q) : Opn P B bk t en Q := by
 unfold fieldsOk at ht
 split at ht
 ·rename_i fs hfs
  simp only [Bool.and_eq_true, decide_eq_true_eq] at ht
  obtain ⟨⟨h1, h2⟩, h3⟩ := ht
  intro H enc w fuel cs d ps hd hb
  obtain ⟨xs, n, _, hx, hl, hxl, hget⟩ := DataW.trod_struct hfs hd
  simp only [Prod.mk.injEq] at hx
  obtain ⟨rfl, _⟩ := hx
  have hlen : fs.size = ts.length := by rw [← h1]; simp
  obtain ⟨x, a1, a2, a3⟩ := h enc w n cs (by rw [hl, h3]) (fun i hi => by
   have hi' : i < fs.size := by omega
   have e1 : fs[i].type = ts[i] := by
    have := congrArg (fun l => l[i]?) h1
    simp [hi', List.getElem?_eq_getElem hi] at this
    exact this
   have e2 : fs[i].offset = ((ts.take i).map P.cellsOf).sum := by
    have := congrArg (fun l => l[i]?) h2
    simp [hi', hi] at this
    rw [this, List.map_take]
   have := hget i fs[i] (Array.getElem?_eq_getElem hi')
   rw [e1, e2, List.getElem?_eq_getElem (by omega)] at this
   exact ⟨xs[i].1, xs[i].2, this, hB.part _ _ (List.mem_map.2 ⟨xs[i], List.getElem_mem _, rfl⟩) hb⟩)
  exact ⟨x, a1, a2, hl, a3⟩
 ·cases ht
def outer (P : Program) (t : TypeId) : Bool := match P.underlying t with
 | some (.struct _) | some (.array _ _) => true
 | _ => false
def wrapAV (agg : Bool) (cs : List AV) : AV := if agg then .agg cs else cel cs 0
theorem Opn.arg {α : Type} {t : TypeId} {en : α → List AV} {Q : α → Prop} (h : Opn P B bk t en Q) {ag : Bool} (ho : outer P t = ag) (h1 : ag = false → P.cellsOf t = 1) {H : Type} {enc : TypeId × Value → H} {W : World} {base : Nat} {r : Reach} {v : Value} {d : DataW H} {ps : List MemPlace}
  (hval : Value.okWide P W r base t v) (hd : DataW.Trod enc P W 0 (fun _ => true) true t v d ps) (hb : bk d ≤ B) : ∃ x, Rel noP W NoM (wrapAV ag (en x)) v ∧ Q x := by
 obtain ⟨fuel, hd⟩ := hd
 obtain ⟨x, a1, a2, a3, a4⟩ := h enc W fuel _ d ps hd hb
 refine ⟨x, ?_, a4⟩
 unfold outer at ho
 unfold Value.okWide at hval
 split at ho
 ·rename_i hu
  subst ho
  rw [hu] at hval
  obtain ⟨cs, rfl, _, _⟩ := hval
  exact .agg (vs := cs.toList) a2 a1
 ·rename_i hu
  subst ho
  rw [hu] at hval
  obtain ⟨cs, rfl, _, _⟩ := hval
  exact .agg (vs := cs.toList) a2 a1
 ·subst ho
  rw [h1 rfl] at a3
  have hv : v.cells.toList = [v] := by
   unfold Value.cells at a3 a2 ⊢
   split
   ·rename_i cs
    exfalso
    split at hval
    ·simp_all
    ·simp_all
    ·unfold Cell.okWide at hval
     split at hval <;> simp_all [Cell.ok]
   ·rfl
  rw [hv] at a1
  cases he : en x with
  | nil => rw [he] at a1; cases a1
  | cons y ys =>
   rw [he] at a1
   cases a1 with
   | cons a1 _ => exact a1

theorem post_of_fr {f : Func} {s : ChangeSpec} {apart fresh handsOn again : Bool} {H : Type} {enc : TypeId × Value → H} {W W' : World} {args : Array Value} {v : Value} {ds gs : List (DataW H)} {before : List MemPlace}
  (hlo : laidOutB P = true) (hts : f.params.toList.all (fun t => P.readableRec t && decide (t < P.types.size)) = true) (hv : s.vars = [])
  (hW : DataW.Whole enc P f.params.toList s.vars apart W args.toList ds gs before)
  (hres : ∀ (b : Nat) (sp : Nat → Bool) (hd : Bool), DataW.TrodAll enc P W' b sp hd f.resultTypes.toList (v.resultList f.resultTypes.size) (s.fn H (ds ++ gs)).results [])
  (hargs : (s.fn H (ds ++ gs)).args = ds) (hvars : (s.fn H (ds ++ gs)).vars = [])
  (hfr : Fr W (fun _ => False) W')
  (hok : ∀ (j : Nat) (t : TypeId) (r : Value), f.resultTypes[j]? = some t → (v.resultList f.resultTypes.size)[j]? = some r → Value.okWide P W' .any 0 t r) :
  s.post enc P f apart fresh handsOn again W args v W' := by
 have hlt : ∀ p ∈ before, p.block < W.heap.size := fun p hp => hW.lt p hp
 have hsame : ∀ p : MemPlace, p.block < W.heap.size → W.sameAt W' p := fun p hp => (Go.RowKit.Below.same ⟨hfr.os, hfr.tape, hfr.output, hfr.size, fun k hk => hfr.block k hk (fun h => h)⟩ hp)
 obtain ⟨p, q, hA, hV, hpq, hz, hn⟩ := id hW
 rw [hv] at hV
 have hq : q = [] ∧ gs = [] := by
  cases gs with
  | nil => exact ⟨hV, rfl⟩
  | cons g gs => exact hV.elim
 obtain ⟨rfl, rfl⟩ := hq
 rw [List.append_nil] at hpq
 subst hpq
 have key : ∀ (sp : Nat → Bool) (ts : List TypeId) (vs : List Value) (ds : List (DataW H)) (ps : List MemPlace), ts.all (fun t => P.readableRec t && decide (t < P.types.size)) = true → (∀ x ∈ ps, x.block < W.heap.size) → (∀ x ∈ ps, sp x.block = true) →
   DataW.TrodAll enc P W 0 (fun _ => true) true ts vs ds ps → DataW.TrodAll enc P W' 0 sp true ts vs ds ps := by
  intro sp ts
  induction ts with
  | nil =>
   intro vs ds ps _ _ _ h
   cases vs <;> cases ds <;> simp [DataW.TrodAll] at h ⊢
   exact h
  | cons t ts ih =>
   intro vs ds ps ht hlt hsp h
   obtain ⟨v, vs', d, ds', a, b, rfl, rfl, rfl, h1, h2⟩ := ChangeShapes.trodAll_cons h
   simp only [List.all_cons, Bool.and_eq_true, decide_eq_true_eq] at ht
   obtain ⟨⟨hr, hs⟩, hts⟩ := ht
   exact ⟨a, b, WideElems.Trod_stays hlo hr hs h1 (fun x hx => hsame x (hlt x (List.mem_append_left _ hx))) (fun x hx => hsp x (List.mem_append_left _ hx)),
    ih _ _ _ (by simpa using hts) (fun x hx => hlt x (List.mem_append_right _ hx)) (fun x hx => hsp x (List.mem_append_right _ hx)) h2, rfl⟩
 have key' : ∀ sp : Nat → Bool, (∀ x ∈ before, sp x.block = true) → DataW.TrodAll enc P W' 0 sp true f.params.toList args.toList (s.fn H (ds ++ [])).args before := fun sp hsp => by
  rw [hargs]; exact key sp _ _ _ _ hts hlt hsp hA
 have kv : ∀ sp : Nat → Bool, DataW.TrodVars enc P W' sp s.vars (s.fn H (ds ++ [])).vars [] := fun sp => by rw [hv, hvars]; rfl
 refine ⟨ds, [], before, [], before, [], hW, hres _ _ _, key' _ (fun x hx => by simpa using hlt x hx), kv _, ?_, fun _ => ⟨hok, _, _, ([] ++ before) ++ [], ⟨[] ++ before, [], ChangeShapes.trodAll_append (key' _ fun _ _ => rfl) (hres _ _ _), kv _, rfl, ?_, ?_⟩, ?_⟩⟩
 ·refine ⟨hfr.os, hfr.output, fun i hi => ?_⟩
  rw [hfr.block i hi (fun h => h)]
  cases h : W.heap[i]? with
  | none => simp
  | some o => cases o <;> simp
 ·intro b off hp
  have hp' : MemPlace.cell b off ∈ before := by simpa using hp
  have hb := hlt _ hp'
  have := hz b off hp'
  unfold World.frozen? at this ⊢
  simp only [MemPlace.block] at hb
  rw [show W'.heap[b]? = W.heap[b]? from hfr.block b hb (fun h => h)]
  exact this
 ·intro ha
  simpa using hn ha
 ·intro x hx _
  simpa using hx
theorem contract_of_pure {f : FuncId} {fn : Func} {tb : TypeId} {s : ChangeSpec} {apart fresh handsOn again : Bool} {H : Type} {enc : TypeId × Value → H} {W : World} {args : Array Value} {ds gs : List (DataW H)} {before : List MemPlace}
  (hlo : laidOutB P = true) (hts : fn.params.toList.all (fun t => P.readableRec t && decide (t < P.types.size)) = true) (hv : s.vars = []) (hrt : fn.resultTypes = #[tb]) (hb : P.underlying tb = some .bool)
  (hW : DataW.Whole enc P fn.params.toList s.vars apart W args.toList ds gs before)
  (hfn : gs = [] → s.fn H (ds ++ gs) = { results := [.lit (.bool true)], args := ds }) {avs : List AV} (hp : Pure P f avs (.v (.bool true))) (hr : RelL noP W NoM avs args.toList) (hg : GlbOk W NoM := by intro p hp; simp [glbs] at hp) :
  Calls P f args W fun e W' => ∃ v, e = .returned v ∧ s.post enc P fn apart fresh handsOn again W args v W' := by
 have hgs : gs = [] := by
  obtain ⟨p, q, hA, hV, _⟩ := hW
  rw [hv] at hV
  cases gs with
  | nil => rfl
  | cons g gs => exact hV.elim
 have := hp.2 NoM W args.toList (fun k hk => hk.elim) hg hr
 rw [show (⟨args.toList⟩ : Array Value) = args from rfl] at this
 refine this.mono ?_
 rintro e W' ⟨v, rfl, hv', hfr⟩
 cases hv'
 refine ⟨_, rfl, post_of_fr hlo hts hv hW (fun b sp hd => ?_) (by rw [hfn hgs]) (by rw [hfn hgs]) hfr ?_⟩
 ·rw [hfn hgs, hrt]
  exact trodAll_cons_mk (RowKit.shut_bool hb _) ChangeShapes.trodAll_mk0
 ·exact RowKit.ok_one hrt rfl (RowKit.okWide_bool_mk hb true)
end
end Go.Av
end
section
/- Rows that are tied cards and list no variable of play: the world that the text lays. -/
open Go Go.Proofs Go.Av Go.ChangeShapes Go.RowKit
namespace Go.Proofs.YtkahkcakggflaaaGreatDoor
theorem door3_own : ownKnob Tryz.prog.godebug = none := by kernel_rfl
theorem door3_lo : laidOutB Tryz.prog = true := by kernel_rfl
abbrev door3List : List (String × DataW Unit) := [("math/bits.deBruijn32tab", Rows.laid_math_bits_deBruijn32tab), ("math/bits.deBruijn64tab", Rows.laid_math_bits_deBruijn64tab), ("internal/strconv.uint64pow10", Rows.laid_internal_strconv_uint64pow10)]
theorem door3_met (os : Os) (args : Array Value) : laidMetH Tryz.prog door3List ((World.doorLaid Tryz.prog 29 os).forCall (fun _ _ => 0) ⟨#[], args, []⟩).memory :=
 laidMetH_of_parts3 (fuel := 8) (laidMet_of_run' 8 (by kernel_rfl) (by kernel_rfl)) (by kernel_rfl) (by kernel_rfl)
theorem door3_vars (os : Os) (args : Array Value) : ((World.doorLaid Tryz.prog 29 os).forCall (fun _ _ => 0) ⟨#[], args, []⟩).variablesB Tryz.prog = true := by kernel_rfl
theorem door3_heap (os : Os) (args : Array Value) : (((World.doorLaid Tryz.prog 29 os).forCall (fun _ _ => 0) ⟨#[], args, []⟩).heap.toList.drop Tryz.prog.globals.size).take ((begin Tryz.prog (fun _ _ => 0) default).world.heap.size - Tryz.prog.globals.size) =
  (begin Tryz.prog (fun _ _ => 0) default).world.heap.toList.drop Tryz.prog.globals.size := by kernel_rfl
end Go.Proofs.YtkahkcakggflaaaGreatDoor
end
section
/- What the bound of the second form gives, for our library. -/
open Go Go.Proofs
namespace Go.Av
open Go.Proofs.YtkahkcakggflaaaGreatDoor
theorem upto_one {H : Type} (d : DataW H) : 1 ≤ Rows.uptoBulk d := by
 cases d with
 | lit l => cases l <;> simp [Rows.uptoBulk]
 | _ => simp [Rows.uptoBulk]
theorem upto_part {H : Type} {d : DataW H} {l : List (DataW H)} (h : d ∈ l) : Rows.uptoBulk d ≤ Rows.uptoBulkAll l := by
 induction l with
 | nil => cases h
 | cons x r ih =>
  simp only [Rows.uptoBulkAll]
  rcases List.mem_cons.1 h with e | e
  ·subst e; omega
  ·have := ih e; omega
theorem upto_length {H : Type} (l : List (DataW H)) : l.length ≤ Rows.uptoBulkAll l := by
 induction l with
 | nil => simp [Rows.uptoBulkAll]
 | cons x r ih => have := upto_one x; simp only [Rows.uptoBulkAll, List.length_cons]; omega
theorem Bulk.upto {B : Nat} : Bulk B (fun d => Rows.uptoBulk d) where
 len := fun l r h _ => by
  have := upto_length l
  simp only [Rows.uptoBulk] at h; omega
 elem := fun l r d hd h => by
  have := upto_part hd
  simp only [Rows.uptoBulk] at h; omega
 part := fun l d hd h => by
  have := upto_part hd
  simp only [Rows.uptoBulk] at h; omega
 str := fun l h _ => by
  simp only [Rows.uptoBulk] at h; omega
theorem upto_bound {H : Type} {l : List (DataW H)} (hk : Rows.uptoSmall H l = true) {d : DataW H} (hd : d ∈ l) : Rows.uptoBulk d ≤ 1048576 := by
 have := upto_part hd
 have h := of_decide_eq_true hk
 omega
end Go.Av
end
section
/- The argument of the statements on games and positions, as our library reads it. -/
open Go Go.Proofs Go.Av
namespace Go.Av
open Go.Proofs.YtkahkcakggflaaaGreatDoor
abbrev UpB : {H : Type} → DataW H → Nat := fun d => Rows.uptoBulk d
abbrev G3T := Int × Int × Int × List (List Int) × List (List Int) × List Int × Unit
def encG3T (x : G3T) : List AV := [.v (.int .u8 x.1)] ++ ([.v (.int .u8 x.2.1)] ++ ([.v (.int .u8 x.2.2.1)] ++ ((x.2.2.2.1.map fun l => [AV.lst 1 (l.map fun n => [.v (.int .u8 n)])]).flatten ++
 ([AV.lst 3 (x.2.2.2.2.1.map fun l => (l.map fun n => [AV.v (.int .u8 n)]).flatten)] ++ ((x.2.2.2.2.2.1.map fun n => [AV.v (.int .u8 n)]).flatten ++ [])))))
abbrev P4T := List Int × List Int × List Int × Int × Int × Unit
def encP4T (x : P4T) : List AV := (x.1.map fun n => [AV.v (.int .u8 n)]).flatten ++ ((x.2.1.map fun n => [AV.v (.int .u8 n)]).flatten ++ ((x.2.2.1.map fun n => [AV.v (.int .u8 n)]).flatten ++ ([.v (.int .u8 x.2.2.2.1)] ++ ([.v (.int .u8 x.2.2.2.2.1)] ++ []))))
abbrev U8W (n : Int) : Prop := (Lit.int .u8 n).wf = true
theorem opn_u8 : Opn Tryz.prog 1048576 UpB 5 (fun n : Int => [.v (.int .u8 n)]) U8W := Opn.int Tryz.underlying5 (by kernel_rfl)
theorem opn_u8s : Opn Tryz.prog 1048576 UpB 22 (fun l : List Int => [.lst 1 (l.map fun n => [.v (.int .u8 n)])]) (fun l => l.length ≤ 1048576 ∧ ∀ x ∈ l, U8W x) :=
 Opn.slice (sz := 1) Bulk.upto Tryz.underlying22 (by kernel_rfl) (by kernel_rfl) Nat.one_pos opn_u8
theorem opn_g3 : Opn Tryz.prog 1048576 UpB 27 encRaw (fun x => RawOk x ∧ x.k0.length ≤ 1048576 ∧ x.k1.length ≤ 1048576 ∧ x.c.length ≤ 1048576) := by
 have hK : Opn Tryz.prog 1048576 UpB 23 (fun l : List (List Int) => (l.map fun l => [AV.lst 1 (l.map fun n => [.v (.int .u8 n)])]).flatten) (fun l => l.length = 2 ∧ ∀ x ∈ l, x.length ≤ 1048576 ∧ ∀ y ∈ x, U8W y) :=
  Opn.array (sz := 1) (n := 2) Bulk.upto Tryz.underlying23 (by kernel_rfl) (by kernel_rfl) opn_u8s
 have h3 : Opn Tryz.prog 1048576 UpB 85 (fun l : List Int => (l.map fun n => [AV.v (.int .u8 n)]).flatten) (fun l => l.length = 3 ∧ ∀ x ∈ l, U8W x) :=
  Opn.array (sz := 1) (n := 3) Bulk.upto Tryz.underlying85 (by kernel_rfl) (by kernel_rfl) opn_u8
 have hC : Opn Tryz.prog 1048576 UpB 24 (fun l : List (List Int) => [.lst 3 (l.map fun l => (l.map fun n => [AV.v (.int .u8 n)]).flatten)]) (fun l => l.length ≤ 1048576 ∧ ∀ x ∈ l, x.length = 3 ∧ ∀ y ∈ x, U8W y) :=
  Opn.slice (sz := 3) Bulk.upto Tryz.underlying24 (by kernel_rfl) (by kernel_rfl) (by decide) h3
 have hFF : Opn Tryz.prog 1048576 UpB 25 (fun l : List Int => (l.map fun n => [AV.v (.int .u8 n)]).flatten) (fun l => l.length = 6 ∧ ∀ x ∈ l, U8W x) :=
  Opn.array (sz := 1) (n := 6) Bulk.upto Tryz.underlying25 (by kernel_rfl) (by kernel_rfl) opn_u8
 have hF : OpnF Tryz.prog 1048576 UpB [5, 5, 5, 23, 24, 25] encG3T (fun x => U8W x.1 ∧ U8W x.2.1 ∧ U8W x.2.2.1 ∧ (x.2.2.2.1.length = 2 ∧ ∀ z ∈ x.2.2.2.1, z.length ≤ 1048576 ∧ ∀ y ∈ z, U8W y) ∧
   (x.2.2.2.2.1.length ≤ 1048576 ∧ ∀ z ∈ x.2.2.2.2.1, z.length = 3 ∧ ∀ y ∈ z, U8W y) ∧ (x.2.2.2.2.2.1.length = 6 ∧ ∀ y ∈ x.2.2.2.2.2.1, U8W y) ∧ True) :=
  OpnF.cons opn_u8 (OpnF.cons opn_u8 (OpnF.cons opn_u8 (OpnF.cons hK (OpnF.cons hC (OpnF.cons hFF OpnF.nil)))))
 have hT : Opn Tryz.prog 1048576 UpB 27 encG3T (fun x => U8W x.1 ∧ U8W x.2.1 ∧ U8W x.2.2.1 ∧ (x.2.2.2.1.length = 2 ∧ ∀ z ∈ x.2.2.2.1, z.length ≤ 1048576 ∧ ∀ y ∈ z, U8W y) ∧
   (x.2.2.2.2.1.length ≤ 1048576 ∧ ∀ z ∈ x.2.2.2.2.1, z.length = 3 ∧ ∀ y ∈ z, U8W y) ∧ (x.2.2.2.2.2.1.length = 6 ∧ ∀ y ∈ x.2.2.2.2.2.1, U8W y) ∧ True) := Opn.struct Bulk.upto (by kernel_rfl) hF
 intro H enc w fuel cs d ps k1 k2
 obtain ⟨x, r1, r2, r3, hx⟩ := hT enc w fuel cs d ps k1 k2
 obtain ⟨W, Hh, cut, K, C, F, ⟨⟩⟩ := x
 obtain ⟨h1, h2, h3', ⟨h4, h4'⟩, ⟨h5, h5'⟩, ⟨h6, h6'⟩, _⟩ := hx
 simp only at h1 h2 h3' h4 h4' h5 h5' h6 h6'
 match K, h4 with
 | [ka, kb], _ =>
  match F, h6 with
  | [f0, f1, f2, f3, f4, f5], _ =>
   have hCl : ∀ (C : List (List Int)), (∀ z ∈ C, z.length = 3) → (C.map fun l => (nth l 0, nth l 1, nth l 2)).map encC3 = C.map fun l => (l.map fun n => [AV.v (.int .u8 n)]).flatten := by
    intro C hC
    rw [List.map_map]
    refine List.map_congr_left fun l hl => ?_
    have := hC l hl
    match l, this with
    | [a, b, c], _ => rfl
   refine ⟨⟨W, Hh, cut, ka, kb, C.map fun l => (nth l 0, nth l 1, nth l 2), f0, f1, f2, f3, f4, f5⟩, ?_, r2, r3, ⟨bounds_u8 h1, bounds_u8 h2, bounds_u8 h3', fun n hn => bounds_u8 ((h4' ka (by simp)).2 n hn), fun n hn => bounds_u8 ((h4' kb (by simp)).2 n hn), ?_,
    bounds_u8 (h6' f0 (by simp)), bounds_u8 (h6' f1 (by simp)), bounds_u8 (h6' f2 (by simp)), bounds_u8 (h6' f3 (by simp)), bounds_u8 (h6' f4 (by simp)), bounds_u8 (h6' f5 (by simp))⟩, (h4' ka (by simp)).1, (h4' kb (by simp)).1, by simpa using h5⟩
   ·unfold encRaw
    simp only
    rw [hCl C (fun z hz => (h5' z hz).1)]
    exact r1
   ·intro t ht
    obtain ⟨z, hz, rfl⟩ := List.mem_map.1 ht
    obtain ⟨q1, q2⟩ := h5' z hz
    match z, q1 with
    | [a, b, c], _ => exact ⟨bounds_u8 (q2 a (by simp)), bounds_u8 (q2 b (by simp)), bounds_u8 (q2 c (by simp))⟩
theorem opn_p4 : Opn Tryz.prog 1048576 UpB 30 encRawP RawPOk := by
 have hFF : Opn Tryz.prog 1048576 UpB 25 (fun l : List Int => (l.map fun n => [AV.v (.int .u8 n)]).flatten) (fun l => l.length = 6 ∧ ∀ x ∈ l, U8W x) :=
  Opn.array (sz := 1) (n := 6) Bulk.upto Tryz.underlying25 (by kernel_rfl) (by kernel_rfl) opn_u8
 have h4 : Opn Tryz.prog 1048576 UpB 28 (fun l : List Int => (l.map fun n => [AV.v (.int .u8 n)]).flatten) (fun l => l.length = 4 ∧ ∀ x ∈ l, U8W x) :=
  Opn.array (sz := 1) (n := 4) Bulk.upto Tryz.underlying28 (by kernel_rfl) (by kernel_rfl) opn_u8
 have hF : OpnF Tryz.prog 1048576 UpB [25, 25, 28, 5, 5] encP4T (fun x => (x.1.length = 6 ∧ ∀ y ∈ x.1, U8W y) ∧ (x.2.1.length = 6 ∧ ∀ y ∈ x.2.1, U8W y) ∧ (x.2.2.1.length = 4 ∧ ∀ y ∈ x.2.2.1, U8W y) ∧ U8W x.2.2.2.1 ∧ U8W x.2.2.2.2.1 ∧ True) :=
  OpnF.cons hFF (OpnF.cons hFF (OpnF.cons h4 (OpnF.cons opn_u8 (OpnF.cons opn_u8 OpnF.nil))))
 have hT : Opn Tryz.prog 1048576 UpB 30 encP4T (fun x => (x.1.length = 6 ∧ ∀ y ∈ x.1, U8W y) ∧ (x.2.1.length = 6 ∧ ∀ y ∈ x.2.1, U8W y) ∧ (x.2.2.1.length = 4 ∧ ∀ y ∈ x.2.2.1, U8W y) ∧ U8W x.2.2.2.1 ∧ U8W x.2.2.2.2.1 ∧ True) := Opn.struct Bulk.upto (by kernel_rfl) hF
 intro H enc w fuel cs d ps k1 k2
 obtain ⟨x, r1, r2, r3, hx⟩ := hT enc w fuel cs d ps k1 k2
 obtain ⟨c, k, h, r, s, ⟨⟩⟩ := x
 obtain ⟨⟨a1, a2⟩, ⟨b1, b2⟩, ⟨c1, c2⟩, d1, e1, _⟩ := hx
 simp only at a1 a2 b1 b2 c1 c2 d1 e1
 have hfl : ∀ l : List Int, (l.map fun n => [AV.v (.int .u8 n)]).flatten = l.map fun n => AV.v (.int .u8 n) := fun l => by
  induction l with
  | nil => rfl
  | cons x l ih => simp only [List.map_cons, List.flatten_cons, ih]; rfl
 refine ⟨⟨c, k, h, r, s⟩, ?_, r2, r3, ⟨a1, b1, c1, fun n hn => bounds_u8 (a2 n hn), fun n hn => bounds_u8 (b2 n hn), fun n hn => bounds_u8 (c2 n hn), bounds_u8 d1, bounds_u8 e1⟩⟩
 unfold encP4T at r1
 rw [hfl, hfl, hfl] at r1
 exact r1
end Go.Av
end
section
/- The argument of the statements on games and positions, as our library reads it. -/
open Go Go.Proofs Go.Av
namespace Go.Av
open Go.Proofs.YtkahkcakggflaaaGreatDoor
theorem opn_raw6 : Opn Tryz.prog 1048576 UpB 65 encRaw6 Raw6Ok := by
 have hF : OpnF Tryz.prog 1048576 UpB [27, 30, 22] (fun x : RawG × RawP × List Int × Unit => encRaw x.1 ++ (encRawP x.2.1 ++ ([.lst 1 (x.2.2.1.map fun n => [.v (.int .u8 n)])] ++ [])))
   (fun x => (RawOk x.1 ∧ x.1.k0.length ≤ 1048576 ∧ x.1.k1.length ≤ 1048576 ∧ x.1.c.length ≤ 1048576) ∧ RawPOk x.2.1 ∧ (x.2.2.1.length ≤ 1048576 ∧ ∀ y ∈ x.2.2.1, U8W y) ∧ True) := OpnF.cons opn_g3 (OpnF.cons opn_p4 (OpnF.cons opn_u8s OpnF.nil))
 have hT : Opn Tryz.prog 1048576 UpB 65 (fun x : RawG × RawP × List Int × Unit => encRaw x.1 ++ (encRawP x.2.1 ++ ([.lst 1 (x.2.2.1.map fun n => [.v (.int .u8 n)])] ++ [])))
   (fun x => (RawOk x.1 ∧ x.1.k0.length ≤ 1048576 ∧ x.1.k1.length ≤ 1048576 ∧ x.1.c.length ≤ 1048576) ∧ RawPOk x.2.1 ∧ (x.2.2.1.length ≤ 1048576 ∧ ∀ y ∈ x.2.2.1, U8W y) ∧ True) := Opn.struct Bulk.upto (by kernel_rfl) hF
 intro H enc w fuel cs d ps k1 k2
 obtain ⟨x, r1, r2, r3, hx⟩ := hT enc w fuel cs d ps k1 k2
 obtain ⟨g, p, k, ⟨⟩⟩ := x
 obtain ⟨⟨a1, a2, a3, a4⟩, b1, ⟨c1, c2⟩, _⟩ := hx
 simp only at a1 a2 a3 a4 b1 c1 c2
 exact ⟨⟨g, p, k⟩, r1, r2, r3, ⟨a1, b1, fun n hn => bounds_u8 (c2 n hn), by simp only; omega, by simp only; omega, by simp only; omega, by simp only; omega⟩⟩
end Go.Av
end
