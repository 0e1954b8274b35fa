/- Texts of ours, part 9: contracts and facts for this claim. -/
import Derived.Test.YtkahkcakggflaaaGreatDoorB09
import Derived.Test.YtkahkcakggflaaaGreatDoorSGx07
set_option linter.unusedSimpArgs false
set_option linter.unusedVariables false
set_option maxRecDepth 100000
set_option maxHeartbeats 40000000
section
open Go Go.Proofs
namespace Go.Av
theorem zry (p : zaj) (hp : zaW p) (side kind : Int) : zaC Tryz.prog 284 [.agg (zad p), .v (.int .i64 side), .v (.int .i64 kind)] (.v (.int .i64 (zqV p side kind))) := by
 refine pF Tryz.func284 ?_
 obtain ⟨f1, _, _⟩ := hp
 unfold zeR at f1
 repeat first|with_reducible refine wV fun _=>?_|simp [go_sem]
 refine zyI (zyN (α := Nat) (fun i => ⟨[(1, .v (.int .i64 side)), (2, .v (.int .i64 kind)), (3, .ref 0 0 5 0 0), (7, .v (.int .i64 ((p.at_.take i).countP (zgx p side kind) : Nat))), (8, .v (.int .i64 i))], [(0, .rows true 0 5 [zad p])], 1⟩)
  (fun d i => i + d = p.at_.length) ?_ p.at_.length 0 ?_) ?_ ?_
 ·rintro d i i1 hrec
  repeat first|with_reducible refine wV fun _=>?_|simp [go_sem]
  refine zyK (fun hi => ?_) (fun hi => ?_) <;> simp at hi
  ·have hO := zdS (nth p.at_ i)
   have hcs := zjv (zgx p side kind) p.at_ hi
   have hle : (p.at_.take i).countP (zgx p side kind) ≤ i := Nat.le_trans List.countP_le_length (by simp; omega)
   have hM : zgx p side kind (nth p.at_ i) = (decide (0 ≤ (zaq (nth p.at_ i)).1) && decide ((zaq (nth p.at_ i)).2 = side) && (decide (kind < 0) || decide ((zaq (nth p.at_ i)).1 = kind))) := rfl
   generalize zaq (nth p.at_ i) = m at *
   repeat first|with_reducible refine wV fun _=>?_|simp [go_sem, hi]
   refine zyJ hO (by simp [go_sem]) ?_
   repeat first|with_reducible refine wV fun _=>?_|simp [go_sem]
   by_cases hm : zgx p side kind (nth p.at_ i) = true
   ·have hm' := hm
    rw [hM] at hm'
    rw [if_pos hm] at hcs
    simp only [hm']
    repeat first|with_reducible refine wV fun _=>?_|simp [go_sem]
    refine zyI (hrec (d - 1) (by omega) (i + 1) (by omega)) ?_ (by simp)
    simp [go_sem, zah, hcs]
   ·have hm' := hm
    rw [hM] at hm'
    rw [if_neg hm] at hcs
    simp only [Bool.not_eq_true] at hm'
    simp only [hm']
    repeat first|with_reducible refine wV fun _=>?_|simp [go_sem]
    refine zyI (hrec (d - 1) (by omega) (i + 1) (by omega)) ?_ (by simp)
    simp [go_sem, zah, hcs]
  ·have hil : i = p.at_.length := by omega
   subst hil
   have hM : zqV p side kind = (p.at_.take p.at_.length).countP (zgx p side kind) := by rw [List.take_length]; rfl
   rw [hM]
   repeat first|with_reducible refine wV fun _=>?_|simp [go_sem]
 ·omega
 ·simp [go_sem, zah]
 ·simp
theorem ziD (g : zaf) (hg : GOk g) (p : zaj) (hp : POk g p) (c : Int × Int × Int × Int) (hc : zfV g.cells g.kinds.length c) :
  zaC Tryz.prog 256 [.agg (za6 c), .agg (zad p)] (.v (.bool (zdE c p))) := by
 refine pF Tryz.func256 ?_
 have hps := hp.s
 have hal := hp.al
 have hM := fun s k => zry p (hp.fits hg) s k
 have hml : ∀ s k, zqV p s k ≤ 9 := fun s k => Nat.le_trans List.countP_le_length (by have := hg.c9; omega)
 obtain ⟨c0, c1, c2, c3⟩ := c
 obtain ⟨k1, k2, k3, k4, k5⟩ := hc
 simp only at k1 k2 k3 k4 k5
 unfold zdE
 rcases k1 with rfl | rfl | rfl
 ·have h1 := hM p.side c1
  repeat first|with_reducible refine wV fun _=>?_|simp [go_sem]
  refine zyJ h1 (by simp [go_sem]) ?_
  repeat first|with_reducible refine wV fun _=>?_|simp [go_sem]
 ·have hci : c2.toNat < p.at_.length := by omega
  repeat first|with_reducible refine wV fun _=>?_|simp [go_sem, hci]
  refine zyM (zdk c1 (1 - p.side)) (by simp [go_sem]) ?_
  repeat first|with_reducible refine wV fun _=>?_|simp [go_sem, hci]
 ·have h1 := hM p.side (-1)
  have := hml p.side (-1)
  repeat first|with_reducible refine wV fun _=>?_|simp [go_sem]
  refine zyM h1 (by simp [go_sem]) ?_
  repeat first|with_reducible refine wV fun _=>?_|simp [go_sem]
theorem zm9 (g : zaf) (hg : GOk g) (p : zaj) (hp : POk g p) : zaC Tryz.prog 193 [.agg (zab g), .agg (zad p)] (.v (.int .i64 (zcj g p))) := by
 refine pF Tryz.func193 ?_
 have hcn := hg.cn
 repeat first|with_reducible refine wV fun _=>?_|simp [go_sem]
 refine zyI (zyN (α := Nat) (fun i => ⟨[(2, .ref 0 0 9 0 0), (3, .ref 1 0 5 0 0), (5, .v (.int .i64 i))], [(0, .rows true 0 9 [zab g]), (1, .rows true 0 5 [zad p])], 2⟩)
  (fun d i => i + d = g.clauses.length ∧ ∀ j, j < i → zdE (nth g.clauses j) p = false) ?_ g.clauses.length 0 ?_) ?_ ?_
 ·rintro d i ⟨i1, i2⟩ hrec
  repeat first|with_reducible refine wV fun _=>?_|simp [go_sem]
  refine zyK (fun hi => ?_) (fun hi => ?_) <;> simp at hi
  ·have hC := ziD g hg p hp _ (hg.cl _ (zan hi))
   repeat first|with_reducible refine wV fun _=>?_|simp [go_sem, hi]
   refine zyM hC (by simp [go_sem]) ?_
   repeat first|with_reducible refine wV fun _=>?_|simp [go_sem]
   by_cases hc : zdE (nth g.clauses i) p = true
   ·have he : zcj g p = i := by unfold zcj; rw [zil (fun c => zdE c p) g.clauses hi i2 hc]
    repeat first|with_reducible refine wV fun _=>?_|simp [go_sem, hc, he]
   ·repeat first|with_reducible refine wV fun _=>?_|simp [go_sem, hc]
    refine zyI (hrec (d - 1) (by omega) (i + 1) ⟨by omega, fun j hj => ?_⟩) ?_ (by simp)
    ·rcases Nat.lt_or_ge j i with h | h
     ·exact i2 j h
     ·obtain rfl : j = i := by omega
      simpa using hc
    ·simp [go_sem, zah]
  ·have he : zcj g p = -1 := by unfold zcj; rw [zik (fun c => zdE c p) g.clauses (fun j hj => i2 j (by omega))]
   repeat first|with_reducible refine wV fun _=>?_|simp [go_sem, he]
 ·exact ⟨by simp, fun j hj => by omega⟩
 ·simp [go_sem, zah]
 ·simp
def zj6 (g : zaf) (p : zaj) (c : Nat) : List zco := (List.range c).flatMap (zdj g p)
theorem zsF (g : zaf) (p : zaj) (c : Nat) : zj6 g p (c + 1) = zj6 g p c ++ zdj g p c := by simp [zj6, List.range_succ, List.flatMap_append]
theorem zsG (g : zaf) (p : zaj) : zj6 g p 0 = [] := rfl
def zkY (g : zaf) (p : zaj) (c i : Nat) : List zco := zj6 g p c ++ (List.range i).flatMap fun (i : Nat) => zdr g p c i
theorem zsD (g : zaf) (p : zaj) (c : Nat) : zkY g p c 0 = zj6 g p c := by simp [zkY]
theorem zsC (g : zaf) (p : zaj) (c i : Nat) : zkY g p c (i + 1) = zkY g p c i ++ zdr g p c i := by simp [zkY, List.range_succ, List.flatMap_append]
theorem zjb (g : zaf) (hg : GOk g) (p : zaj) (hp : POk g p) : zaC Tryz.prog 194 [.agg (zab g), .agg (zad p)] (za3 (zdC g p)) := by
 refine pF Tryz.func194 ?_
 have hal := hp.al
 have c9 := hg.c9
 have k6 := hg.k6
 have hU : ∀ c i, c < p.at_.length → 0 ≤ (zaq (nth p.at_ c)).1 ∧ (zaq (nth p.at_ c)).2 = p.side → i ≤ (nth g.kinds (zaq (nth p.at_ c)).1.toNat).progs.length → (zkY g p c i).length ≤ 8000000000 := fun c i hc hm hi => by
  have h1 : (zj6 g p c).length ≤ 7200000000 := zoo hg hp (by omega)
  have hk := zmD hg hp (cell := c) (by omega) (by omega) (by simpa using hm.1)
  simp only [Int.toNat_natCast] at hk
  have h8 := hg.pn _ (zan hk)
  have h2 := zbF (fun (i : Nat) => zdr g p c i) 100000000 i (fun j hj => zkj hg hp (zfv hp hc hm (by omega)))
  have h3 : i * 100000000 ≤ 8 * 100000000 := Nat.mul_le_mul_right _ (by omega)
  simp only [zkY, List.length_append]
  omega
 repeat first|with_reducible refine wV fun _=>?_|simp [go_sem]
 refine zyI (zyN (α := Nat × Nat) (fun a => ⟨[(2, .ref 0 0 9 0 0), (3, .ref 1 0 5 0 0), (5, .sl 2 a.2 6 0 (zj6 g p a.1).length), (6, .v (.int .i64 a.1))], [(0, .rows true 0 9 [zab g]), (1, .rows true 0 5 [zad p]), (2, .rows true a.2 6 ((zj6 g p a.1).map zat))], 3⟩)
  (fun d a => a.1 + d = p.at_.length) ?_ p.at_.length (0, 0) ?_) ?_ ?_
 ·rintro d ⟨c, G⟩ c1 hrec
  simp only at c1
  repeat first|with_reducible refine wV fun _=>?_|simp [go_sem]
  refine zyK (fun hc => ?_) (fun hc => ?_) <;> simp at hc
  ·have hO := zdS (nth p.at_ c)
   have hsu := zsF g p c
   have hat := hp.at (i := c) (by omega)
   have hman := zaS hat.1 hat.2 hg.k6
   have hAt : zdj g p c = if 0 ≤ (zaq (nth p.at_ c)).1 ∧ (zaq (nth p.at_ c)).2 = p.side then (List.range (nth g.kinds (zaq (nth p.at_ c)).1.toNat).progs.length).flatMap fun (i : Nat) => zdr g p c i else [] := rfl
   have hU' := fun i => hU c i hc
   have hCh := fun i => zfv (g := g) (i := i) hp hc
   generalize zaq (nth p.at_ c) = m at *
   obtain ⟨mk, ms⟩ := m
   simp only [Prod.mk.injEq] at hman hAt hU' hCh
   repeat first|with_reducible refine wV fun _=>?_|simp [go_sem, hc]
   refine zyJ hO (by simp [go_sem]) ?_
   repeat first|with_reducible refine wV fun _=>?_|simp [go_sem]
   refine zyK (fun hm => ?_) (fun hm => ?_) <;> simp at hm
   ·rw [if_neg (by omega)] at hAt
    rw [hAt, List.append_nil] at hsu
    repeat first|with_reducible refine wV fun _=>?_|simp [go_sem]
    refine zyI (hrec (d - 1) (by omega) (c + 1, G) (by simp only; omega)) ?_ (by simp)
    simp [go_sem, zah, hsu]
   ·have hm' : 0 ≤ mk ∧ ms = p.side := by omega
    rw [if_pos hm'] at hAt
    have hkl : mk.toNat < g.kinds.length := by omega
    have hpn := hg.pn _ (zan hkl)
    have hz := zsD g p c
    repeat first|with_reducible refine wV fun _=>?_|simp [go_sem]
    refine zyI (zyN (α := Nat × Nat) (fun a => ⟨[(2, .ref 0 0 9 0 0), (3, .ref 1 0 5 0 0), (5, .sl 2 a.2 6 0 (zkY g p c a.1).length), (6, .v (.int .i64 c)), (7, .ref 3 0 2 0 0), (8, .v (.int .i64 a.1))],
      [(0, .rows true 0 9 [zab g]), (1, .rows true 0 5 [zad p]), (2, .rows true a.2 6 ((zkY g p c a.1).map zat)), (3, .rows true 0 2 [[.v (.int .i64 mk), .v (.int .i64 ms)]])], 4⟩)
     (fun d a => a.1 + d = (nth g.kinds mk.toNat).progs.length) ?_ (nth g.kinds mk.toNat).progs.length (0, G) ?_) ?_ ?_
    ·rintro d2 ⟨i, G'⟩ i1 hrec2
     simp only at i1
     repeat first|with_reducible refine wV fun _=>?_|simp [go_sem, hkl]
     refine zyK (fun hi => ?_) (fun hi => ?_) <;> simp at hi
     ·have hR := zoZ g hg p hp c i (hCh i hm' hi)
      have hsi := zsC g p c i
      have hUi := hU' i hm' (by omega)
      have hUj := hU' (i + 1) hm' (by omega)
      rw [hsi, List.length_append] at hUj
      repeat first|with_reducible refine wV fun _=>?_|simp [go_sem]
      refine zyJ hR (by simp [go_sem]) ?_
      repeat first|with_reducible refine wV fun _=>?_|simp [go_sem]
      refine zyI (hrec2 (d2 - 1) (by omega) (i + 1, G' + 1) (by simp only; omega)) ?_ (by simp)
      simp [go_sem, zah, hsi]
     ·have hil : i = (nth g.kinds mk.toNat).progs.length := by omega
      subst hil
      have hfin : zkY g p c (nth g.kinds mk.toNat).progs.length = zj6 g p (c + 1) := by rw [hsu, hAt]; rfl
      rw [hfin]
      repeat first|with_reducible refine wV fun _=>?_|simp [go_sem]
      refine zyI (hrec (d - 1) (by omega) (c + 1, G') (by simp only; omega)) ?_ (by simp)
      simp [go_sem, zah]
    ·simp
    ·simp [go_sem, zah, hz]
    ·simp
  ·have hcl : c = p.at_.length := by omega
   subst hcl
   have e : zdC g p = zj6 g p p.at_.length := rfl
   rw [e]
   repeat first|with_reducible refine wV fun _=>?_|simp [go_sem]
   exact frX
 ·simp
 ·simp [go_sem, zah, zsG]
 ·simp
def zkr (g : zaf) (p : zaj) : Int × Bool := if 0 ≤ zcj g p then zfj g p else if zaH g p = [] then (g.blocked, true) else (0, false)
theorem zo7 (g : zaf) (hg : GOk g) (p : zaj) (hp : POk g p) : zaC Tryz.prog 30 [.agg (zab g), .agg (zad p)] (.tup [.v (.int .i64 (zkr g p).1), .v (.bool (zkr g p).2)]) := by
 refine pF Tryz.func30 ?_
 have hE := zll g hg p hp
 have hM := zhy g hg p hp
 have hS : zkr g p = if 0 ≤ zcj g p then zfj g p else if zaH g p = [] then (g.blocked, true) else (0, false) := rfl
 have e2 := zqK g p
 rw [hS]
 obtain ⟨ev, hev⟩ : ∃ ev, ev = zfj g p := ⟨_, rfl⟩
 rw [← hev] at hE e2 ⊢
 obtain ⟨e1, b⟩ := ev
 simp only at hE e2 ⊢
 generalize zcj g p = ep at *
 generalize zaH g p = l at *
 clear hS hev
 subst e2
 repeat first|with_reducible refine wV fun _=>?_|simp [go_sem]
 refine zyJ hE (by simp [go_sem]) ?_
 repeat first|with_reducible refine wV fun _=>?_|simp [go_sem]
 refine zyK (fun he => ?_) (fun he => ?_) <;> simp at he
 ·rw [if_pos he]
  repeat first|with_reducible refine wV fun _=>?_|simp [go_sem, he]
 ·rw [if_neg (by omega)]
  repeat first|with_reducible refine wV fun _=>?_|simp [go_sem]
  refine zyJ hM (by simp [go_sem]) ?_
  repeat first|with_reducible refine wV fun _=>?_|simp [go_sem]
  by_cases hl : l = []
  ·subst hl
   rw [if_pos rfl]
   repeat first|with_reducible refine wV fun _=>?_|simp [go_sem]
  ·rw [if_neg hl]
   have hl' : ¬ (l.length : Int) = 0 := by
    have := List.length_pos_iff.2 hl
    omega
   repeat first|with_reducible refine wV fun _=>?_|simp [go_sem, hl, hl']
def zmH (gm : Bool) (l : List zco) (i : Nat) : Bool := gm && (l.take i).any (·.took)
theorem zsx (gm : Bool) (l : List zco) : zmH gm l 0 = false := by simp [zmH]
theorem zsw (gm : Bool) (l : List zco) {i : Nat} (h : i < l.length) : zmH gm l (i + 1) = (zmH gm l i || (gm && (nth l i).took)) := by
 unfold zmH
 rw [List.take_add_one, List.getElem?_eq_getElem h, zaJ _ _ h, Option.toList_some, List.any_append]
 simp only [List.any_cons, List.any_nil, Bool.or_false, Bool.and_or_distrib_left]
def zha (must : Bool) (l : List zco) (i : Nat) : List zaj := ((l.take i).filter fun o => !must || o.took).map (·.pos)
theorem zso (must : Bool) (l : List zco) : zha must l 0 = [] := by simp [zha]
theorem zsn (must : Bool) (l : List zco) {i : Nat} (h : i < l.length) : zha must l (i + 1) = zha must l i ++ (if (!must || (nth l i).took) = true then [(nth l i).pos] else []) := by
 unfold zha
 rw [List.take_add_one, List.getElem?_eq_getElem h, zaJ _ _ h, Option.toList_some, List.filter_append, List.map_append]
 congr 1
 by_cases hc : (!must || l[i].took) = true <;> simp [hc]
theorem zn5 (must : Bool) (l : List zco) (i : Nat) : (zha must l i).length ≤ i := by
 unfold zha
 rw [List.length_map]
 refine Nat.le_trans (List.length_filter_le _ _) ?_
 simp; omega
theorem zib (g : zaf) (hg : GOk g) (p : zaj) (hp : POk g p) : zaC Tryz.prog 149 [.agg (zab g), .agg (zad p)] (zaz (zaH g p)) := by
 refine pF Tryz.func149 ?_
 have hE := zm9 g hg p hp
 have hO := zjb g hg p hp
 have hD := zm7 g hg p hp
 have hdl := zfZ hg hp
 have hol := zj7 hg hp
 have hS := zeT (zdH g p) (by have := zlN hg hp; omega) (fun q hq => (zoi hg hp q hq).1.fits hg)
 have hml : zdH g p = zha (ziH g p) (zdC g p) (zdC g p).length ++ (if ziH g p then [] else zcF g p) := by unfold zdH zha; rw [List.take_length]
 have hmu : ziH g p = zmH g.must (zdC g p) (zdC g p).length := by unfold ziH zmH; rw [List.take_length]
 have hmv : zaH g p = if 0 ≤ zcj g p then [] else zbk zbw (zdH g p) := rfl
 obtain ⟨R, hR⟩ : ∃ R, R = zaH g p := ⟨_, rfl⟩
 rw [← hR] at hmv ⊢
 generalize zdC g p = l at *
 generalize zcF g p = ds at *
 generalize zdH g p = ml at *
 generalize zcj g p = en at *
 repeat first|with_reducible refine wV fun _=>?_|simp [go_sem]
 refine zyJ hE (by simp [go_sem]) ?_
 repeat first|with_reducible refine wV fun _=>?_|simp [go_sem]
 refine zyK (fun he => ?_) (fun he => ?_) <;> simp at he
 ·rw [if_pos he] at hmv
  rw [hmv]
  repeat first|with_reducible refine wV fun _=>?_|simp [go_sem]
 ·rw [if_neg (by omega)] at hmv
  repeat first|with_reducible refine wV fun _=>?_|simp [go_sem]
  refine zyJ hO (by simp [go_sem]) ?_
  repeat first|with_reducible refine wV fun _=>?_|simp [go_sem]
  refine zyI (zyN (α := Nat) (fun i => ⟨[(2, .ref 0 0 9 0 0), (3, .ref 1 0 5 0 0), (5, za3 l), (6, .sl 2 0 5 0 0), (7, .v (.bool (zmH g.must l i))), (8, .v (.int .i64 i))], [(0, .rows true 0 9 [zab g]), (1, .rows true 0 5 [zad p]), (2, .rows true 0 5 [])], 3⟩)
   (fun d i => i + d = l.length) ?_ l.length 0 ?_) ?_ ?_
  ·rintro d i i1 hrec
   repeat first|with_reducible refine wV fun _=>?_|simp [go_sem]
   refine zyK (fun hi => ?_) (fun hi => ?_) <;> simp at hi
   ·have hms := zsw g.must l hi
    cases hmk : zmH g.must l i
    ·rw [hmk, Bool.false_or] at hms
     cases hgm : g.must
     ·rw [hgm, Bool.false_and] at hms
      repeat first|with_reducible refine wV fun _=>?_|simp [go_sem, hmk, hgm, hi]
      refine zyI (hrec (d - 1) (by omega) (i + 1) (by omega)) ?_ (by simp)
      simp [go_sem, zah, hms, hgm]
     ·rw [hgm, Bool.true_and] at hms
      repeat first|with_reducible refine wV fun _=>?_|simp [go_sem, hmk, hgm, hi]
      refine zyI (hrec (d - 1) (by omega) (i + 1) (by omega)) ?_ (by simp)
      simp [go_sem, zah, hms, hgm]
    ·rw [hmk, Bool.true_or] at hms
     repeat first|with_reducible refine wV fun _=>?_|simp [go_sem, hmk, hi]
     refine zyI (hrec (d - 1) (by omega) (i + 1) (by omega)) ?_ (by simp)
     simp [go_sem, zah, hms]
   ·have hil : i = l.length := by omega
    subst hil
    rw [← hmu]
    generalize ziH g p = must at *
    repeat first|with_reducible refine wV fun _=>?_|simp [go_sem]
    refine zyI (zyN (α := Nat) (fun i => ⟨[(2, .ref 0 0 9 0 0), (3, .ref 1 0 5 0 0), (5, za3 l), (6, .sl 2 (zha must l i).length 5 0 (zha must l i).length), (7, .v (.bool must)), (9, .v (.int .i64 i))], [(0, .rows true 0 9 [zab g]), (1, .rows true 0 5 [zad p]), (2, .rows true (zha must l i).length 5 ((zha must l i).map zad))], 3⟩)
     (fun d i => i + d = l.length) ?_ l.length 0 ?_) ?_ ?_
    ·rintro d i i1 hrec2
     repeat first|with_reducible refine wV fun _=>?_|simp [go_sem]
     refine zyK (fun hi => ?_) (fun hi => ?_) <;> simp at hi
     ·have hks := zsn must l hi
      have hkl := zn5 must l i
      cases must
      ·simp only [Bool.not_false, Bool.true_or, if_true] at hks
       repeat first|with_reducible refine wV fun _=>?_|simp [go_sem, hi]
       refine zyI (hrec2 (d - 1) (by omega) (i + 1) (by omega)) ?_ (by simp)
       simp [go_sem, zah, hks]
      ·cases ht : (nth l i).took
       ·simp [ht] at hks
        repeat first|with_reducible refine wV fun _=>?_|simp [go_sem, hi, ht]
        refine zyI (hrec2 (d - 1) (by omega) (i + 1) (by omega)) ?_ (by simp)
        simp [go_sem, zah, hks]
       ·simp [ht] at hks
        repeat first|with_reducible refine wV fun _=>?_|simp [go_sem, hi, ht]
        refine zyI (hrec2 (d - 1) (by omega) (i + 1) (by omega)) ?_ (by simp)
        simp [go_sem, zah, hks]
     ·have hil : i = l.length := by omega
      subst hil
      have hkl := zn5 must l l.length
      rw [hmv]
      generalize zha must l l.length = kk at *
      cases must
      ·simp only [Bool.false_eq_true, if_false] at hml
       repeat first|with_reducible refine wV fun _=>?_|simp [go_sem]
       refine zyJ hD (by simp [go_sem]) ?_
       repeat first|with_reducible refine wV fun _=>?_|simp [go_sem]
       subst hml
       refine zyP [2] hS ?_ (zvA (zcD _)) ?_
       ·(first|done|exact agX)
       ·repeat first|with_reducible refine wV fun _=>?_|simp [go_sem]
      ·simp only [if_true, List.append_nil] at hml
       subst hml
       repeat first|with_reducible refine wV fun _=>?_|simp [go_sem]
       refine zyP [2] hS ?_ (zvA (zcD _)) ?_
       ·(first|done|exact agX)
       ·repeat first|with_reducible refine wV fun _=>?_|simp [go_sem]
    ·omega
    ·simp [go_sem, zah, zso]
    ·simp
  ·omega
  ·simp [go_sem, zah, zsx]
  ·simp
end Go.Av
end
