/- Texts of ours, part 10: contracts and facts for this claim. -/
import Derived.Test.YtkahkcakggflaaaGreatDoorB10
import Derived.Test.YtkahkcakggflaaaGreatDoorSFx08
set_option linter.unusedSimpArgs false
set_option linter.unusedVariables false
set_option maxRecDepth 100000
set_option maxHeartbeats 40000000
section
open Go Go.Proofs
namespace Go.Av
theorem zsL (p : zaj) (hp : za0 p) (side kind : Int) : zaC Tryz.prog 284 [.agg (zad p), .v (.int .i64 side), .v (.int .i64 kind)] (.v (.int .i64 (zr4 p side kind))) := by
 refine pF Tryz.func284 ?_
 obtain ⟨f1, _, _⟩ := hp
 unfold zeS at f1
 repeat first|with_reducible refine wV fun _=>?_|simp [go_sem]
 refine zBm (zBr (α := Nat) (fun i => ⟨[(1, .v (.int .i64 side)), (2, .v (.int .i64 kind)), (3, .ref 0 0 5 0 0), (7, .v (.int .i64 ((p.at_.take i).countP (zgK p side kind) : Nat))), (8, .v (.int .i64 i))], [(0, .rows true 0 5 [zad p])], 1⟩)
  (fun d i => i + d = p.at_.length) ?_ p.at_.length 0 ?_) ?_ ?_
 ·rintro d i i1 hrec
  repeat first|with_reducible refine wV fun _=>?_|simp [go_sem]
  refine zBo (fun hi => ?_) (fun hi => ?_) <;> simp at hi
  ·have hO := zdS (nth p.at_ i)
   have hcs := zjO (zgK p side kind) p.at_ hi
   have hle : (p.at_.take i).countP (zgK p side kind) ≤ i := Nat.le_trans List.countP_le_length (by simp; omega)
   have hM : zgK p side kind (nth p.at_ i) = (decide (0 ≤ (zaq (nth p.at_ i)).1) && decide ((zaq (nth p.at_ i)).2 = side) && (decide (kind < 0) || decide ((zaq (nth p.at_ i)).1 = kind))) := rfl
   generalize zaq (nth p.at_ i) = m at *
   repeat first|with_reducible refine wV fun _=>?_|simp [go_sem, hi]
   refine zBn hO (by simp [go_sem]) ?_
   repeat first|with_reducible refine wV fun _=>?_|simp [go_sem]
   by_cases hm : zgK p side kind (nth p.at_ i) = true
   ·have hm' := hm
    rw [hM] at hm'
    rw [if_pos hm] at hcs
    simp only [hm']
    repeat first|with_reducible refine wV fun _=>?_|simp [go_sem]
    refine zBm (hrec (d - 1) (by omega) (i + 1) (by omega)) ?_ (by simp)
    simp [go_sem, zah, hcs]
   ·have hm' := hm
    rw [hM] at hm'
    rw [if_neg hm] at hcs
    simp only [Bool.not_eq_true] at hm'
    simp only [hm']
    repeat first|with_reducible refine wV fun _=>?_|simp [go_sem]
    refine zBm (hrec (d - 1) (by omega) (i + 1) (by omega)) ?_ (by simp)
    simp [go_sem, zah, hcs]
  ·have hil : i = p.at_.length := by omega
   subst hil
   have hM : zr4 p side kind = (p.at_.take p.at_.length).countP (zgK p side kind) := by rw [List.take_length]; rfl
   rw [hM]
   repeat first|with_reducible refine wV fun _=>?_|simp [go_sem]
 ·omega
 ·simp [go_sem, zah]
 ·simp
theorem ziR (g : zaf) (hg : GOk g) (p : zaj) (hp : POk g p) (c : Int × Int × Int × Int) (hc : zf0 g.cells g.kinds.length c) :
  zaC Tryz.prog 256 [.agg (za8 c), .agg (zad p)] (.v (.bool (zdE c p))) := by
 refine pF Tryz.func256 ?_
 have hps := hp.s
 have hal := hp.al
 have hM := fun s k => zsL p (hp.fits hg) s k
 have hml : ∀ s k, zr4 p s k ≤ 9 := fun s k => Nat.le_trans List.countP_le_length (by have := hg.c9; omega)
 obtain ⟨c0, c1, c2, c3⟩ := c
 obtain ⟨k1, k2, k3, k4, k5⟩ := hc
 simp only at k1 k2 k3 k4 k5
 unfold zdE
 rcases k1 with rfl | rfl | rfl
 ·have h1 := hM p.side c1
  repeat first|with_reducible refine wV fun _=>?_|simp [go_sem]
  refine zBn h1 (by simp [go_sem]) ?_
  repeat first|with_reducible refine wV fun _=>?_|simp [go_sem]
 ·have hci : c2.toNat < p.at_.length := by omega
  repeat first|with_reducible refine wV fun _=>?_|simp [go_sem, hci]
  refine zBq (zdl c1 (1 - p.side)) (by simp [go_sem]) ?_
  repeat first|with_reducible refine wV fun _=>?_|simp [go_sem, hci]
 ·have h1 := hM p.side (-1)
  have := hml p.side (-1)
  repeat first|with_reducible refine wV fun _=>?_|simp [go_sem]
  refine zBq h1 (by simp [go_sem]) ?_
  repeat first|with_reducible refine wV fun _=>?_|simp [go_sem]
theorem znS (g : zaf) (hg : GOk g) (p : zaj) (hp : POk g p) : zaC Tryz.prog 193 [.agg (zab g), .agg (zad p)] (.v (.int .i64 (zcp g p))) := by
 refine pF Tryz.func193 ?_
 have hcn := hg.cn
 repeat first|with_reducible refine wV fun _=>?_|simp [go_sem]
 refine zBm (zBr (α := Nat) (fun i => ⟨[(2, .ref 0 0 9 0 0), (3, .ref 1 0 5 0 0), (5, .v (.int .i64 i))], [(0, .rows true 0 9 [zab g]), (1, .rows true 0 5 [zad p])], 2⟩)
  (fun d i => i + d = g.clauses.length ∧ ∀ j, j < i → zdE (nth g.clauses j) p = false) ?_ g.clauses.length 0 ?_) ?_ ?_
 ·rintro d i ⟨i1, i2⟩ hrec
  repeat first|with_reducible refine wV fun _=>?_|simp [go_sem]
  refine zBo (fun hi => ?_) (fun hi => ?_) <;> simp at hi
  ·have hC := ziR g hg p hp _ (hg.cl _ (zan hi))
   repeat first|with_reducible refine wV fun _=>?_|simp [go_sem, hi]
   refine zBq hC (by simp [go_sem]) ?_
   repeat first|with_reducible refine wV fun _=>?_|simp [go_sem]
   by_cases hc : zdE (nth g.clauses i) p = true
   ·have he : zcp g p = i := by unfold zcp; rw [ziA (fun c => zdE c p) g.clauses hi i2 hc]
    repeat first|with_reducible refine wV fun _=>?_|simp [go_sem, hc, he]
   ·repeat first|with_reducible refine wV fun _=>?_|simp [go_sem, hc]
    refine zBm (hrec (d - 1) (by omega) (i + 1) ⟨by omega, fun j hj => ?_⟩) ?_ (by simp)
    ·rcases Nat.lt_or_ge j i with h | h
     ·exact i2 j h
     ·obtain rfl : j = i := by omega
      simpa using hc
    ·simp [go_sem, zah]
  ·have he : zcp g p = -1 := by unfold zcp; rw [ziz (fun c => zdE c p) g.clauses (fun j hj => i2 j (by omega))]
   repeat first|with_reducible refine wV fun _=>?_|simp [go_sem, he]
 ·exact ⟨by simp, fun j hj => by omega⟩
 ·simp [go_sem, zah]
 ·simp
def zko (g : zaf) (p : zaj) (c : Nat) : List zcu := (List.range c).flatMap (zdk g p)
theorem zt8 (g : zaf) (p : zaj) (c : Nat) : zko g p (c + 1) = zko g p c ++ zdk g p c := by simp [zko, List.range_succ, List.flatMap_append]
theorem zt9 (g : zaf) (p : zaj) : zko g p 0 = [] := rfl
def zlo (g : zaf) (p : zaj) (c i : Nat) : List zcu := zko g p c ++ (List.range i).flatMap fun (i : Nat) => zds g p c i
theorem zt6 (g : zaf) (p : zaj) (c : Nat) : zlo g p c 0 = zko g p c := by simp [zlo]
theorem zt5 (g : zaf) (p : zaj) (c i : Nat) : zlo g p c (i + 1) = zlo g p c i ++ zds g p c i := by simp [zlo, List.range_succ, List.flatMap_append]
theorem zjr (g : zaf) (hg : GOk g) (p : zaj) (hp : POk g p) : zaC Tryz.prog 194 [.agg (zab g), .agg (zad p)] (za9 (zdC g p)) := by
 refine pF Tryz.func194 ?_
 have hal := hp.al
 have c9 := hg.c9
 have k6 := hg.k6
 have hU : ∀ c i, c < p.at_.length → 0 ≤ (zaq (nth p.at_ c)).1 ∧ (zaq (nth p.at_ c)).2 = p.side → i ≤ (nth g.kinds (zaq (nth p.at_ c)).1.toNat).progs.length → (zlo g p c i).length ≤ 8000000000 := fun c i hc hm hi => by
  have h1 : (zko g p c).length ≤ 7200000000 := zpj hg hp (by omega)
  have hk := znk hg hp (cell := c) (by omega) (by omega) (by simpa using hm.1)
  simp only [Int.toNat_natCast] at hk
  have h8 := hg.pn _ (zan hk)
  have h2 := zbJ (fun (i : Nat) => zds g p c i) 100000000 i (fun j hj => zkB hg hp (zfy hp hc hm (by omega)))
  have h3 : i * 100000000 ≤ 8 * 100000000 := Nat.mul_le_mul_right _ (by omega)
  simp only [zlo, List.length_append]
  omega
 repeat first|with_reducible refine wV fun _=>?_|simp [go_sem]
 refine zBm (zBr (α := Nat × Nat) (fun a => ⟨[(2, .ref 0 0 9 0 0), (3, .ref 1 0 5 0 0), (5, .sl 2 a.2 6 0 (zko g p a.1).length), (6, .v (.int .i64 a.1))], [(0, .rows true 0 9 [zab g]), (1, .rows true 0 5 [zad p]), (2, .rows true a.2 6 ((zko g p a.1).map zat))], 3⟩)
  (fun d a => a.1 + d = p.at_.length) ?_ p.at_.length (0, 0) ?_) ?_ ?_
 ·rintro d ⟨c, G⟩ c1 hrec
  simp only at c1
  repeat first|with_reducible refine wV fun _=>?_|simp [go_sem]
  refine zBo (fun hc => ?_) (fun hc => ?_) <;> simp at hc
  ·have hO := zdS (nth p.at_ c)
   have hsu := zt8 g p c
   have hat := hp.at (i := c) (by omega)
   have hman := zaU hat.1 hat.2 hg.k6
   have hAt : zdk g p c = if 0 ≤ (zaq (nth p.at_ c)).1 ∧ (zaq (nth p.at_ c)).2 = p.side then (List.range (nth g.kinds (zaq (nth p.at_ c)).1.toNat).progs.length).flatMap fun (i : Nat) => zds g p c i else [] := rfl
   have hU' := fun i => hU c i hc
   have hCh := fun i => zfy (g := g) (i := i) hp hc
   generalize zaq (nth p.at_ c) = m at *
   obtain ⟨mk, ms⟩ := m
   simp only [Prod.mk.injEq] at hman hAt hU' hCh
   repeat first|with_reducible refine wV fun _=>?_|simp [go_sem, hc]
   refine zBn hO (by simp [go_sem]) ?_
   repeat first|with_reducible refine wV fun _=>?_|simp [go_sem]
   refine zBo (fun hm => ?_) (fun hm => ?_) <;> simp at hm
   ·rw [if_neg (by omega)] at hAt
    rw [hAt, List.append_nil] at hsu
    repeat first|with_reducible refine wV fun _=>?_|simp [go_sem]
    refine zBm (hrec (d - 1) (by omega) (c + 1, G) (by simp only; omega)) ?_ (by simp)
    simp [go_sem, zah, hsu]
   ·have hm' : 0 ≤ mk ∧ ms = p.side := by omega
    rw [if_pos hm'] at hAt
    have hkl : mk.toNat < g.kinds.length := by omega
    have hpn := hg.pn _ (zan hkl)
    have hz := zt6 g p c
    repeat first|with_reducible refine wV fun _=>?_|simp [go_sem]
    refine zBm (zBr (α := Nat × Nat) (fun a => ⟨[(2, .ref 0 0 9 0 0), (3, .ref 1 0 5 0 0), (5, .sl 2 a.2 6 0 (zlo g p c a.1).length), (6, .v (.int .i64 c)), (7, .ref 3 0 2 0 0), (8, .v (.int .i64 a.1))],
      [(0, .rows true 0 9 [zab g]), (1, .rows true 0 5 [zad p]), (2, .rows true a.2 6 ((zlo g p c a.1).map zat)), (3, .rows true 0 2 [[.v (.int .i64 mk), .v (.int .i64 ms)]])], 4⟩)
     (fun d a => a.1 + d = (nth g.kinds mk.toNat).progs.length) ?_ (nth g.kinds mk.toNat).progs.length (0, G) ?_) ?_ ?_
    ·rintro d2 ⟨i, G'⟩ i1 hrec2
     simp only at i1
     repeat first|with_reducible refine wV fun _=>?_|simp [go_sem, hkl]
     refine zBo (fun hi => ?_) (fun hi => ?_) <;> simp at hi
     ·have hR := zpX g hg p hp c i (hCh i hm' hi)
      have hsi := zt5 g p c i
      have hUi := hU' i hm' (by omega)
      have hUj := hU' (i + 1) hm' (by omega)
      rw [hsi, List.length_append] at hUj
      repeat first|with_reducible refine wV fun _=>?_|simp [go_sem]
      refine zBn hR (by simp [go_sem]) ?_
      repeat first|with_reducible refine wV fun _=>?_|simp [go_sem]
      refine zBm (hrec2 (d2 - 1) (by omega) (i + 1, G' + 1) (by simp only; omega)) ?_ (by simp)
      simp [go_sem, zah, hsi]
     ·have hil : i = (nth g.kinds mk.toNat).progs.length := by omega
      subst hil
      have hfin : zlo g p c (nth g.kinds mk.toNat).progs.length = zko g p (c + 1) := by rw [hsu, hAt]; rfl
      rw [hfin]
      repeat first|with_reducible refine wV fun _=>?_|simp [go_sem]
      refine zBm (hrec (d - 1) (by omega) (c + 1, G') (by simp only; omega)) ?_ (by simp)
      simp [go_sem, zah]
    ·simp
    ·simp [go_sem, zah, hz]
    ·simp
  ·have hcl : c = p.at_.length := by omega
   subst hcl
   have e : zdC g p = zko g p p.at_.length := rfl
   rw [e]
   repeat first|with_reducible refine wV fun _=>?_|simp [go_sem]
   exact frX
 ·simp
 ·simp [go_sem, zah, zt9]
 ·simp
def zno (gm : Bool) (l : List zcu) (i : Nat) : Bool := gm && (l.take i).any (·.took)
theorem ztZ (gm : Bool) (l : List zcu) : zno gm l 0 = false := by simp [zno]
theorem ztY (gm : Bool) (l : List zcu) {i : Nat} (h : i < l.length) : zno gm l (i + 1) = (zno gm l i || (gm && (nth l i).took)) := by
 unfold zno
 rw [List.take_add_one, List.getElem?_eq_getElem h, zaJ _ _ h, Option.toList_some, List.any_append]
 simp only [List.any_cons, List.any_nil, Bool.or_false, Bool.and_or_distrib_left]
def zhn (must : Bool) (l : List zcu) (i : Nat) : List zaj := ((l.take i).filter fun o => !must || o.took).map (·.pos)
theorem ztQ (must : Bool) (l : List zcu) : zhn must l 0 = [] := by simp [zhn]
theorem ztP (must : Bool) (l : List zcu) {i : Nat} (h : i < l.length) : zhn must l (i + 1) = zhn must l i ++ (if (!must || (nth l i).took) = true then [(nth l i).pos] else []) := by
 unfold zhn
 rw [List.take_add_one, List.getElem?_eq_getElem h, zaJ _ _ h, Option.toList_some, List.filter_append, List.map_append]
 congr 1
 by_cases hc : (!must || l[i].took) = true <;> simp [hc]
theorem zo0 (must : Bool) (l : List zcu) (i : Nat) : (zhn must l i).length ≤ i := by
 unfold zhn
 rw [List.length_map]
 refine Nat.le_trans (List.length_filter_le _ _) ?_
 simp; omega
theorem ziq (g : zaf) (hg : GOk g) (p : zaj) (hp : POk g p) : zaC Tryz.prog 149 [.agg (zab g), .agg (zad p)] (zaz (zaH g p)) := by
 refine pF Tryz.func149 ?_
 have hE := znS g hg p hp
 have hO := zjr g hg p hp
 have hD := znQ g hg p hp
 have hdl := zf5 hg hp
 have hol := zkp hg hp
 have hS := zeU (zdH g p) (by have := zme hg hp; omega) (fun q hq => (zpd hg hp q hq).1.fits hg)
 have hml : zdH g p = zhn (zgl g p) (zdC g p) (zdC g p).length ++ (if zgl g p then [] else zcK g p) := by unfold zdH zhn; rw [List.take_length]
 have hmu : zgl g p = zno g.must (zdC g p) (zdC g p).length := by unfold zgl zno; rw [List.take_length]
 have hmv : zaH g p = if 0 ≤ zcp g p then [] else zbp zbB (zdH g p) := rfl
 obtain ⟨R, hR⟩ : ∃ R, R = zaH g p := ⟨_, rfl⟩
 rw [← hR] at hmv ⊢
 generalize zdC g p = l at *
 generalize zcK g p = ds at *
 generalize zdH g p = ml at *
 generalize zcp g p = en at *
 repeat first|with_reducible refine wV fun _=>?_|simp [go_sem]
 refine zBn hE (by simp [go_sem]) ?_
 repeat first|with_reducible refine wV fun _=>?_|simp [go_sem]
 refine zBo (fun he => ?_) (fun he => ?_) <;> simp at he
 ·rw [if_pos he] at hmv
  rw [hmv]
  repeat first|with_reducible refine wV fun _=>?_|simp [go_sem]
 ·rw [if_neg (by omega)] at hmv
  repeat first|with_reducible refine wV fun _=>?_|simp [go_sem]
  refine zBn hO (by simp [go_sem]) ?_
  repeat first|with_reducible refine wV fun _=>?_|simp [go_sem]
  refine zBm (zBr (α := Nat) (fun i => ⟨[(2, .ref 0 0 9 0 0), (3, .ref 1 0 5 0 0), (5, za9 l), (6, .sl 2 0 5 0 0), (7, .v (.bool (zno g.must l i))), (8, .v (.int .i64 i))], [(0, .rows true 0 9 [zab g]), (1, .rows true 0 5 [zad p]), (2, .rows true 0 5 [])], 3⟩)
   (fun d i => i + d = l.length) ?_ l.length 0 ?_) ?_ ?_
  ·rintro d i i1 hrec
   repeat first|with_reducible refine wV fun _=>?_|simp [go_sem]
   refine zBo (fun hi => ?_) (fun hi => ?_) <;> simp at hi
   ·have hms := ztY g.must l hi
    cases hmk : zno g.must l i
    ·rw [hmk, Bool.false_or] at hms
     cases hgm : g.must
     ·rw [hgm, Bool.false_and] at hms
      repeat first|with_reducible refine wV fun _=>?_|simp [go_sem, hmk, hgm, hi]
      refine zBm (hrec (d - 1) (by omega) (i + 1) (by omega)) ?_ (by simp)
      simp [go_sem, zah, hms, hgm]
     ·rw [hgm, Bool.true_and] at hms
      repeat first|with_reducible refine wV fun _=>?_|simp [go_sem, hmk, hgm, hi]
      refine zBm (hrec (d - 1) (by omega) (i + 1) (by omega)) ?_ (by simp)
      simp [go_sem, zah, hms, hgm]
    ·rw [hmk, Bool.true_or] at hms
     repeat first|with_reducible refine wV fun _=>?_|simp [go_sem, hmk, hi]
     refine zBm (hrec (d - 1) (by omega) (i + 1) (by omega)) ?_ (by simp)
     simp [go_sem, zah, hms]
   ·have hil : i = l.length := by omega
    subst hil
    rw [← hmu]
    generalize zgl g p = must at *
    repeat first|with_reducible refine wV fun _=>?_|simp [go_sem]
    refine zBm (zBr (α := Nat) (fun i => ⟨[(2, .ref 0 0 9 0 0), (3, .ref 1 0 5 0 0), (5, za9 l), (6, .sl 2 (zhn must l i).length 5 0 (zhn must l i).length), (7, .v (.bool must)), (9, .v (.int .i64 i))], [(0, .rows true 0 9 [zab g]), (1, .rows true 0 5 [zad p]), (2, .rows true (zhn must l i).length 5 ((zhn must l i).map zad))], 3⟩)
     (fun d i => i + d = l.length) ?_ l.length 0 ?_) ?_ ?_
    ·rintro d i i1 hrec2
     repeat first|with_reducible refine wV fun _=>?_|simp [go_sem]
     refine zBo (fun hi => ?_) (fun hi => ?_) <;> simp at hi
     ·have hks := ztP must l hi
      have hkl := zo0 must l i
      cases must
      ·simp only [Bool.not_false, Bool.true_or, if_true] at hks
       repeat first|with_reducible refine wV fun _=>?_|simp [go_sem, hi]
       refine zBm (hrec2 (d - 1) (by omega) (i + 1) (by omega)) ?_ (by simp)
       simp [go_sem, zah, hks]
      ·cases ht : (nth l i).took
       ·simp [ht] at hks
        repeat first|with_reducible refine wV fun _=>?_|simp [go_sem, hi, ht]
        refine zBm (hrec2 (d - 1) (by omega) (i + 1) (by omega)) ?_ (by simp)
        simp [go_sem, zah, hks]
       ·simp [ht] at hks
        repeat first|with_reducible refine wV fun _=>?_|simp [go_sem, hi, ht]
        refine zBm (hrec2 (d - 1) (by omega) (i + 1) (by omega)) ?_ (by simp)
        simp [go_sem, zah, hks]
     ·have hil : i = l.length := by omega
      subst hil
      have hkl := zo0 must l l.length
      rw [hmv]
      generalize zhn must l l.length = kk at *
      cases must
      ·simp only [Bool.false_eq_true, if_false] at hml
       repeat first|with_reducible refine wV fun _=>?_|simp [go_sem]
       refine zBn hD (by simp [go_sem]) ?_
       repeat first|with_reducible refine wV fun _=>?_|simp [go_sem]
       subst hml
       refine zBt [2] hS ?_ (zxq (zce _)) ?_
       ·(first|done|exact agX)
       ·repeat first|with_reducible refine wV fun _=>?_|simp [go_sem]
      ·simp only [if_true, List.append_nil] at hml
       subst hml
       repeat first|with_reducible refine wV fun _=>?_|simp [go_sem]
       refine zBt [2] hS ?_ (zxq (zce _)) ?_
       ·(first|done|exact agX)
       ·repeat first|with_reducible refine wV fun _=>?_|simp [go_sem]
    ·omega
    ·simp [go_sem, zah, ztQ]
    ·simp
  ·omega
  ·simp [go_sem, zah, ztZ]
  ·simp
end Go.Av
end
