/- Texts of ours, part 10: our library and contracts of functions. -/
import Derived.Test.YtblaonmapofniaaGreatDoorB09
set_option linter.unusedSimpArgs false
set_option linter.unusedVariables false
set_option maxRecDepth 100000
set_option maxHeartbeats 40000000
section
/- Contracts: run.Drops. -/
open Go Go.Proofs
namespace Go.Av
theorem rDrops_pure (g : GameD) (hg : GOk g) (p : PosD) (hp : POk g p) : Pure Tryz.prog 75 [.agg (encGame g), .agg (encPos p)] (encPs (dropsP g p)) := by
 refine pF Tryz.func75 ?_
 have hal := hp.al
 have c9 := hg.c9
 have k6 := hg.k6
 have hcp := own_owns ⟨p, 0, 0, false⟩ (hp.fits hg)
 have hl0 := hp.h0.len
 have hl1 := hp.h1.len
 have hps := hp.s
 rcases hp.s with hsd | hsd
 ·have hsn : p.side.toNat = 0 := by omega
  (repeat (first|with_reducible refine wV fun _=>?_|simp [go_sem, hsn, hsd]))
  refine ALoop.start (ALoop.ind (α := Nat) (fun k => ⟨[(3, .ref 1 0 5 0 0), (5, .sl 2 (dropsK g p k).length 5 0 (dropsK g p k).length), (15, encIs p.h0), (16, .v (.int .i64 p.h0.length)), (17, .v (.int .i64 k))], [(1, .rows true 0 5 [encPos p]), (2, .rows true (dropsK g p k).length 5 ((dropsK g p k).map encPos))], 3⟩)
   (fun d k => k + d = g.kinds.length) ?_ g.kinds.length 0 ?_) ?_ ?_
  ·rintro d k k1 hrec
   (repeat (first|with_reducible refine wV fun _=>?_|simp [go_sem]))
   refine aIf.mkL (fun hk => ?_) (fun hk => ?_) <;> simp at hk
   ·have hz := dropsC_zero g p k
    have ha := dropsC_all g p k
    have hkh : k < p.h0.length := by omega
    have hhv := hp.h0.v k hkh
    (repeat (first|with_reducible refine wV fun _=>?_|simp [go_sem, hkh]))
    refine ALoop.start (ALoop.ind (α := Nat) (fun c => ⟨[(3, .ref 1 0 5 0 0), (5, .sl 2 (dropsC g p k c).length 5 0 (dropsC g p k c).length), (6, .v (.int .i64 k)), (7, .v (.int .i64 (nth p.h0 k))), (15, encIs p.h0), (16, .v (.int .i64 p.h0.length)), (17, .v (.int .i64 k)), (23, encIs p.at_), (24, .v (.int .i64 p.at_.length)), (25, .v (.int .i64 c))], [(1, .rows true 0 5 [encPos p]), (2, .rows true (dropsC g p k c).length 5 ((dropsC g p k c).map encPos))], 3⟩)
     (fun d c => c + d = p.at_.length) ?_ p.at_.length 0 ?_) ?_ ?_
    ·rintro d2 c c1 hrec2
     (repeat (first|with_reducible refine wV fun _=>?_|simp [go_sem]))
     refine aIf.mkL (fun hci => ?_) (fun hci => ?_) <;> simp at hci
     ·have hD : dropP g p k c = if nth (p.hand p.side) k = 0 ∨ nth p.at_ c ≠ 0 then none
       else some { ({ p with at_ := p.at_.set c (codeOf k p.side) }.withHand p.side ((p.hand p.side).set k (nth (p.hand p.side) k - 1))) with side := 1 - p.side } := rfl
      have hD' : dropP g p k c = if nth p.h0 k = 0 ∨ nth p.at_ c ≠ 0 then none else some { p with at_ := p.at_.set c (codeOf k p.side), h0 := p.h0.set k (nth p.h0 k - 1), side := 1 - p.side } := by
       rw [hD]; simp [PosD.hand, PosD.withHand, hsd]
      have hCd := gCode_pure (k : Int) p.side
      rw [hsd] at hCd hD'
      (repeat (first|with_reducible refine wV fun _=>?_|simp [go_sem, hci]))
      refine aIf.mkL (fun hcc => ?_) (fun hcc => ?_) <;> simp at hcc
      ·rw [if_pos (by omega)] at hD'
       have hsu := dropsC_succ g p k c
       rw [hD'] at hsu
       simp only [Option.toList_none, List.append_nil] at hsu
       (repeat (first|with_reducible refine wV fun _=>?_|simp [go_sem]))
       refine ALoop.start (hrec2 (d2 - 1) (by omega) (c + 1) (by omega)) ?_ (by simp)
       simp [go_sem, Wk_eq, hsd, hsu]
      ·rw [if_neg (by omega)] at hD'
       have hsu := dropsC_succ g p k c
       rw [hD'] at hsu
       simp only [Option.toList_some] at hsu
       have hcl := dropsC_len g p k c
       have hkm : k * p.at_.length ≤ 6 * 9 := Nat.mul_le_mul (by omega) (by omega)
       (repeat (first|with_reducible refine wV fun _=>?_|simp [go_sem, hci]))
       refine ACallP.ownsPlain hcp (by simp [go_sem]) ?_
       (repeat (first|with_reducible refine wV fun _=>?_|simp [go_sem, hci, hsd]))
       refine dCall.plain hCd (by simp [go_sem]) ?_
       (repeat (first|with_reducible refine wV fun _=>?_|simp [go_sem, hsn, hsd, hci, hkh]))
       refine ALoop.start (hrec2 (d2 - 1) (by omega) (c + 1) (by omega)) ?_ (by simp)
       simp [go_sem, Wk_eq, hsd, hsu]
       (first|done|exact rwX)
     ·have hcl : c = p.at_.length := by omega
      subst hcl
      rw [ha]
      (repeat (first|with_reducible refine wV fun _=>?_|simp [go_sem]))
      refine ALoop.start (hrec (d - 1) (by omega) (k + 1) (by omega)) ?_ (by simp)
      simp [go_sem, Wk_eq, hsd]
    ·omega
    ·simp [go_sem, Wk_eq, hsd, hz]
    ·simp
   ·have hkl : k = g.kinds.length := by omega
    subst hkl
    have hdl := dropsK_len g p g.kinds.length
    have hkm : g.kinds.length * p.at_.length ≤ 6 * 9 := Nat.mul_le_mul k6 (by omega)
    have hS := pSort_pure (dropsK g p g.kinds.length) (by omega) (fun q hq => by
     rw [dropsK_all] at hq
     obtain ⟨k, hk, hq⟩ := List.mem_flatMap.1 hq
     obtain ⟨c, hc, hq⟩ := List.mem_filterMap.1 hq
     exact (dropP_ok hg hp (by simpa using hk) hq).1.fits hg)
    rw [show sortU cmpP (dropsK g p g.kinds.length) = dropsP g p from rfl] at hS
    generalize dropsK g p g.kinds.length = l at *
    generalize dropsP g p = r at *
    (repeat (first|with_reducible refine wV fun _=>?_|simp [go_sem]))
    refine ACallP.pureF [2] hS ?_ (bel1 (bel_encPs _)) ?_
    ·(first|done|exact agX)
    ·(repeat (first|with_reducible refine wV fun _=>?_|simp [go_sem]))
  ·omega
  ·simp [go_sem, Wk_eq, hsd, show dropsK g p 0 = [] from rfl]
  ·simp
 ·have hsn : p.side.toNat = 1 := by omega
  (repeat (first|with_reducible refine wV fun _=>?_|simp [go_sem, hsn, hsd]))
  refine ALoop.start (ALoop.ind (α := Nat) (fun k => ⟨[(3, .ref 1 0 5 0 0), (5, .sl 2 (dropsK g p k).length 5 0 (dropsK g p k).length), (15, encIs p.h1), (16, .v (.int .i64 p.h1.length)), (17, .v (.int .i64 k))], [(1, .rows true 0 5 [encPos p]), (2, .rows true (dropsK g p k).length 5 ((dropsK g p k).map encPos))], 3⟩)
   (fun d k => k + d = g.kinds.length) ?_ g.kinds.length 0 ?_) ?_ ?_
  ·rintro d k k1 hrec
   (repeat (first|with_reducible refine wV fun _=>?_|simp [go_sem]))
   refine aIf.mkL (fun hk => ?_) (fun hk => ?_) <;> simp at hk
   ·have hz := dropsC_zero g p k
    have ha := dropsC_all g p k
    have hkh : k < p.h1.length := by omega
    have hhv := hp.h1.v k hkh
    (repeat (first|with_reducible refine wV fun _=>?_|simp [go_sem, hkh]))
    refine ALoop.start (ALoop.ind (α := Nat) (fun c => ⟨[(3, .ref 1 0 5 0 0), (5, .sl 2 (dropsC g p k c).length 5 0 (dropsC g p k c).length), (6, .v (.int .i64 k)), (7, .v (.int .i64 (nth p.h1 k))), (15, encIs p.h1), (16, .v (.int .i64 p.h1.length)), (17, .v (.int .i64 k)), (23, encIs p.at_), (24, .v (.int .i64 p.at_.length)), (25, .v (.int .i64 c))], [(1, .rows true 0 5 [encPos p]), (2, .rows true (dropsC g p k c).length 5 ((dropsC g p k c).map encPos))], 3⟩)
     (fun d c => c + d = p.at_.length) ?_ p.at_.length 0 ?_) ?_ ?_
    ·rintro d2 c c1 hrec2
     (repeat (first|with_reducible refine wV fun _=>?_|simp [go_sem]))
     refine aIf.mkL (fun hci => ?_) (fun hci => ?_) <;> simp at hci
     ·have hD : dropP g p k c = if nth (p.hand p.side) k = 0 ∨ nth p.at_ c ≠ 0 then none
       else some { ({ p with at_ := p.at_.set c (codeOf k p.side) }.withHand p.side ((p.hand p.side).set k (nth (p.hand p.side) k - 1))) with side := 1 - p.side } := rfl
      have hD' : dropP g p k c = if nth p.h1 k = 0 ∨ nth p.at_ c ≠ 0 then none else some { p with at_ := p.at_.set c (codeOf k p.side), h1 := p.h1.set k (nth p.h1 k - 1), side := 1 - p.side } := by
       rw [hD]; simp [PosD.hand, PosD.withHand, hsd]
      have hCd := gCode_pure (k : Int) p.side
      rw [hsd] at hCd hD'
      (repeat (first|with_reducible refine wV fun _=>?_|simp [go_sem, hci]))
      refine aIf.mkL (fun hcc => ?_) (fun hcc => ?_) <;> simp at hcc
      ·rw [if_pos (by omega)] at hD'
       have hsu := dropsC_succ g p k c
       rw [hD'] at hsu
       simp only [Option.toList_none, List.append_nil] at hsu
       (repeat (first|with_reducible refine wV fun _=>?_|simp [go_sem]))
       refine ALoop.start (hrec2 (d2 - 1) (by omega) (c + 1) (by omega)) ?_ (by simp)
       simp [go_sem, Wk_eq, hsd, hsu]
      ·rw [if_neg (by omega)] at hD'
       have hsu := dropsC_succ g p k c
       rw [hD'] at hsu
       simp only [Option.toList_some] at hsu
       have hcl := dropsC_len g p k c
       have hkm : k * p.at_.length ≤ 6 * 9 := Nat.mul_le_mul (by omega) (by omega)
       (repeat (first|with_reducible refine wV fun _=>?_|simp [go_sem, hci]))
       refine ACallP.ownsPlain hcp (by simp [go_sem]) ?_
       (repeat (first|with_reducible refine wV fun _=>?_|simp [go_sem, hci, hsd]))
       refine dCall.plain hCd (by simp [go_sem]) ?_
       (repeat (first|with_reducible refine wV fun _=>?_|simp [go_sem, hsn, hsd, hci, hkh]))
       refine ALoop.start (hrec2 (d2 - 1) (by omega) (c + 1) (by omega)) ?_ (by simp)
       simp [go_sem, Wk_eq, hsd, hsu]
       (first|done|exact rwX)
     ·have hcl : c = p.at_.length := by omega
      subst hcl
      rw [ha]
      (repeat (first|with_reducible refine wV fun _=>?_|simp [go_sem]))
      refine ALoop.start (hrec (d - 1) (by omega) (k + 1) (by omega)) ?_ (by simp)
      simp [go_sem, Wk_eq, hsd]
    ·omega
    ·simp [go_sem, Wk_eq, hsd, hz]
    ·simp
   ·have hkl : k = g.kinds.length := by omega
    subst hkl
    have hdl := dropsK_len g p g.kinds.length
    have hkm : g.kinds.length * p.at_.length ≤ 6 * 9 := Nat.mul_le_mul k6 (by omega)
    have hS := pSort_pure (dropsK g p g.kinds.length) (by omega) (fun q hq => by
     rw [dropsK_all] at hq
     obtain ⟨k, hk, hq⟩ := List.mem_flatMap.1 hq
     obtain ⟨c, hc, hq⟩ := List.mem_filterMap.1 hq
     exact (dropP_ok hg hp (by simpa using hk) hq).1.fits hg)
    rw [show sortU cmpP (dropsK g p g.kinds.length) = dropsP g p from rfl] at hS
    generalize dropsK g p g.kinds.length = l at *
    generalize dropsP g p = r at *
    (repeat (first|with_reducible refine wV fun _=>?_|simp [go_sem]))
    refine ACallP.pureF [2] hS ?_ (bel1 (bel_encPs _)) ?_
    ·(first|done|exact agX)
    ·(repeat (first|with_reducible refine wV fun _=>?_|simp [go_sem]))
  ·omega
  ·simp [go_sem, Wk_eq, hsd, show dropsK g p 0 = [] from rfl]
  ·simp
end Go.Av
end
section
/- Contracts: pos.Count, play.conditions, play.ended. -/
open Go Go.Proofs
namespace Go.Av
def cntL (p : PosD) (side : Int) (K : Nat) (j : Nat) : List Int := (List.range K).map fun (k : Nat) => (((p.at_.take j).countP (isMan p side k) : Nat) : Int)
theorem cntL_len (p : PosD) (side : Int) (K j : Nat) : (cntL p side K j).length = K := by simp [cntL]
theorem nth_cntL (p : PosD) (side : Int) (K j : Nat) {k : Nat} (hk : k < K) : nth (cntL p side K j) k = (((p.at_.take j).countP (isMan p side k) : Nat) : Int) := by
 rw [nth_eq _ _ (by rw [cntL_len]; exact hk)]; simp [cntL]
theorem cntL_succ {p : PosD} {side : Int} {K j : Nat} (hj : j < p.at_.length) : cntL p side K (j + 1) = (List.range K).map fun (k : Nat) => (((p.at_.take j).countP (isMan p side k) + (if isMan p side k (nth p.at_ j) then 1 else 0) : Nat) : Int) := by
 unfold cntL
 refine List.map_congr_left fun k _ => ?_
 rw [countP_take _ _ hj]
theorem cntL_no {p : PosD} {side : Int} {K j : Nat} (hj : j < p.at_.length) (h : ∀ k : Nat, isMan p side k (nth p.at_ j) = false) : cntL p side K (j + 1) = cntL p side K j := by
 rw [cntL_succ hj]
 unfold cntL
 refine List.map_congr_left fun k _ => ?_
 rw [h k]; simp
theorem cntL_yes {p : PosD} {side : Int} {K j m : Nat} (hj : j < p.at_.length) (hm : m < K) (h : ∀ k : Nat, isMan p side k (nth p.at_ j) = decide (k = m)) :
  cntL p side K (j + 1) = (cntL p side K j).set m (nth (cntL p side K j) m + 1) := by
 rw [cntL_succ hj]
 refine List.ext_getElem (by simp [cntL]) fun k h1 h2 => ?_
 have hk : k < K := by simpa using h1
 rw [List.getElem_set]
 by_cases e : m = k
 ·subst e
  rw [if_pos rfl, nth_cntL _ _ _ _ hk]
  simp [h]
 ·rw [if_neg e]
  simp [cntL, h, Ne.symm e]
def countsP (g : GameD) (p : PosD) (side : Int) : List Int := cntL p side g.kinds.length p.at_.length
theorem nth_countsP (g : GameD) (p : PosD) (side : Int) {k : Nat} (hk : k < g.kinds.length) : nth (countsP g p side) k = menP p side k := by
 unfold countsP; rw [nth_cntL _ _ _ _ hk, List.take_length]; rfl
theorem tdiv_half {m s : Int} (h0 : 0 ≤ m) (hs : s = 0 ∨ s = 1) : (1 + 2 * m + s - 1).tmod 2 = s ∧ (1 + 2 * m + s - 1).tdiv 2 = m := by
 rw [Int.tmod_eq_emod_of_nonneg (by omega), Int.tdiv_eq_ediv_of_nonneg (by omega)]
 omega
theorem Count_pure (g : GameD) (hg : GOk g) (p : PosD) (hp : POk g p) (side : Int) (hsd : side = 0 ∨ side = 1) :
  Pure Tryz.prog 335 [.agg (encGame g), .agg (encPos p), .v (.int .i64 side)] (encIs (countsP g p side)) := by
 refine pF Tryz.func335 ?_
 have hal := hp.al
 have c9 := hg.c9
 have k6 := hg.k6
 have hall := fun j => cntL_len p side g.kinds.length j
 have hz : List.replicate g.kinds.length [AV.v (.int .i64 0)] = (cntL p side g.kinds.length 0).map encI := by
  refine List.ext_getElem (by simp [cntL]) fun k h1 h2 => ?_
  simp [cntL, encI]
 (repeat (first|with_reducible refine wV fun _=>?_|simp [go_sem]))
 refine ALoop.start (ALoop.ind (α := Nat) (fun j => ⟨[(2, .v (.int .i64 side)), (7, .sl 2 0 1 0 g.kinds.length), (15, encIs p.at_), (16, .v (.int .i64 p.at_.length)), (17, .v (.int .i64 j))], [(2, .rows true 0 1 ((cntL p side g.kinds.length j).map encI))], 3⟩)
  (fun d j => j + d = p.at_.length) ?_ p.at_.length 0 ?_) ?_ ?_
 ·rintro d j j1 hrec
  (repeat (first|with_reducible refine wV fun _=>?_|simp [go_sem]))
  refine aIf.mkL (fun hj => ?_) (fun hj => ?_) <;> simp at hj
  ·have hat := hp.at (i := j) (by omega)
   have hman := manOf_cases hat.1 hat.2 hg.k6
   have hM : ∀ k : Nat, isMan p side k (nth p.at_ j) = (decide (0 ≤ (manOf (nth p.at_ j)).1) && decide ((manOf (nth p.at_ j)).2 = side) && (decide ((k : Int) < 0) || decide ((manOf (nth p.at_ j)).1 = k))) := fun k => rfl
   have hno := cntL_no (p := p) (side := side) (K := g.kinds.length) hj
   have hyes := fun m => cntL_yes (p := p) (side := side) (K := g.kinds.length) (m := m) hj
   rcases hman with ⟨h0, hm⟩ | ⟨h0, hm0, hmk, hms, he⟩
   ·rw [hm] at hM
    have hno := hno (fun k => by rw [hM]; simp)
    (repeat (first|with_reducible refine wV fun _=>?_|simp [go_sem, hj, h0]))
    refine ALoop.start (hrec (d - 1) (by omega) (j + 1) (by omega)) ?_ (by simp)
    simp [go_sem, Wk_eq, hno]
   ·have ht := tdiv_half hm0 hms
    rw [← he] at ht
    have hpos : 0 < nth p.at_ j := by omega
    by_cases hs : (manOf (nth p.at_ j)).2 = side
    ·obtain ⟨m, hmm⟩ : ∃ m : Nat, (manOf (nth p.at_ j)).1 = m := ⟨(manOf (nth p.at_ j)).1.toNat, by omega⟩
     rw [hmm] at ht hmk
     have hmk' : m < g.kinds.length := by omega
     have hyes := hyes m hmk' (fun k => by rw [hM, hmm, decide_eq_true hs]; by_cases e : k = m <;> simp [e] <;> omega)
     have hb : 0 ≤ nth (cntL p side g.kinds.length j) m ∧ nth (cntL p side g.kinds.length j) m ≤ 9 := by
      rw [nth_cntL _ _ _ _ hmk']
      have : (p.at_.take j).countP (isMan p side m) ≤ (p.at_.take j).length := List.countP_le_length
      rw [List.length_take] at this
      omega
     have hlm : m < (cntL p side g.kinds.length j).length := by rw [hall]; exact hmk'
     rw [hs] at ht
     (repeat (first|with_reducible refine wV fun _=>?_|simp [go_sem, hj, hpos, ht.1, ht.2, hlm, hall, hmk']))
     refine ALoop.start (hrec (d - 1) (by omega) (j + 1) (by omega)) ?_ (by simp)
     simp [go_sem, Wk_eq, hyes, List.map_set, encI]
    ·have hno := hno (fun k => by rw [hM, decide_eq_false hs]; simp)
     (repeat (first|with_reducible refine wV fun _=>?_|simp [go_sem, hj, hpos, ht.1, ht.2, hs]))
     refine ALoop.start (hrec (d - 1) (by omega) (j + 1) (by omega)) ?_ (by simp)
     simp [go_sem, Wk_eq, hno]
  ·have e : j = p.at_.length := by omega
   subst e
   (repeat (first|with_reducible refine wV fun _=>?_|simp [go_sem]))
   exact leV_frz rfl (by simp [hall]) (by simp [noH, upd]) (by simp [countsP]; exact List.take_of_length_le (by simp [hall]))
 ·omega
 ·simp [go_sem, Wk_eq, hz]
 ·simp
end Go.Av
end
section
/- Contracts: play.conditions, play.ended. -/
open Go Go.Proofs
namespace Go.Av
theorem menP_le {g : GameD} (hg : GOk g) {p : PosD} (hp : POk g p) (s k : Int) : menP p s k ≤ 9 := Nat.le_trans List.countP_le_length (by have := hg.c9; have := hp.al; omega)
theorem countsP_len (g : GameD) (p : PosD) (side : Int) : (countsP g p side).length = g.kinds.length := cntL_len _ _ _ _
theorem one_kind (m : Int) (s side : Int) : ∀ K : Nat, 0 ≤ m → ((List.range K).map fun (k : Nat) => if (decide (0 ≤ m) && decide (s = side) && (decide ((k : Int) < 0) || decide (m = k))) = true then (1 : Nat) else 0).sum = if m < K ∧ s = side then 1 else 0
 | 0, h => by simp; omega
 | K + 1, h => by
  rw [List.range_succ, List.map_append, List.sum_append, one_kind m s side K h]
  have e : (if (decide (0 ≤ m) && decide (s = side) && (decide ((K : Int) < 0) || decide (m = K))) = true then (1 : Nat) else 0) = if s = side ∧ m = K then 1 else 0 := by
   have : ¬ (K : Int) < 0 := by omega
   simp [h, this]
  simp only [List.map_cons, List.map_nil, List.sum_cons, List.sum_nil, e, Nat.add_zero]
  by_cases hs : s = side
  ·by_cases h1 : m < K
   ·rw [if_pos ⟨h1, hs⟩, if_neg (by omega), if_pos ⟨by omega, hs⟩]
   ·by_cases h2 : m = K
    ·rw [if_neg (by omega), if_pos ⟨hs, h2⟩, if_pos ⟨by omega, hs⟩, Nat.zero_add]
    ·rw [if_neg (by omega), if_neg (by omega), if_neg (by omega)]
  ·rw [if_neg (by simp [hs]), if_neg (by simp [hs]), if_neg (by simp [hs])]
theorem sum_zero : ∀ l : List Nat, (l.map fun _ => 0).sum = 0
 | [] => rfl
 | _ :: l => by simp [sum_zero l]
theorem sum_add (f h : Nat → Nat) : ∀ l : List Nat, (l.map fun k => f k + h k).sum = (l.map f).sum + (l.map h).sum
 | [] => rfl
 | k :: l => by simp [sum_add f h l]; omega
theorem men_sum {K : Nat} (hK : K ≤ 6) (side : Int) : ∀ l : List Int, (∀ c ∈ l, 0 ≤ c ∧ c ≤ 2 * K) →
  ((List.range K).map fun (k : Nat) => l.countP fun c => decide (0 ≤ (manOf c).1) && decide ((manOf c).2 = side) && (decide ((k : Int) < 0) || decide ((manOf c).1 = k))).sum =
   l.countP fun c => decide (0 ≤ (manOf c).1) && decide ((manOf c).2 = side) && (decide ((-1 : Int) < 0) || decide ((manOf c).1 = -1))
 | [], _ => by simp [sum_zero]
 | c :: l, h => by
  have ih := men_sum hK side l (fun x hx => h x (by simp [hx]))
  simp only [List.countP_cons]
  rw [sum_add, ih]
  congr 1
  have hc := h c (by simp)
  rcases manOf_cases hc.1 hc.2 hK with ⟨h0, hm⟩ | ⟨h0, hm0, hmk, hms, he⟩
  ·rw [hm]; simp [sum_zero]
  ·rw [one_kind _ _ _ _ hm0]
   by_cases hs : (manOf c).2 = side
   ·simp [hs, hm0, hmk]
   ·simp [hs]
theorem men_all {g : GameD} (hg : GOk g) {p : PosD} (hp : POk g p) (side : Int) : ((List.range g.kinds.length).map fun (k : Nat) => menP p side k).sum = menP p side (-1) :=
 men_sum hg.k6 side p.at_ hp.av
section
variable (g : GameD) (hg : GOk g) (p : PosD) (hp : POk g p) (c : Int × Int × Int × Int) (hc : ClauseOk g.cells g.kinds.length c)
theorem cond1_pure (hg : GOk g) (hp : POk g p) (hc : ClauseOk g.cells g.kinds.length c) (h1 : c.1 = 1) : Pure Tryz.prog 334 [.agg (encGame g), .agg (encPos p), .agg (encClause c)] (.v (.bool (condP c p))) := by
 refine pF Tryz.func334 ?_
 have hC := Count_pure g hg p hp p.side hp.s
 have hl := countsP_len g p p.side
 have hk := hc.kind
 have hck : c.2.1.toNat < (countsP g p p.side).length := by omega
 have hn := nth_countsP g p p.side (k := c.2.1.toNat) (by omega)
 rw [show ((c.2.1.toNat : Nat) : Int) = c.2.1 by omega] at hn
 have he : condP c p = decide (nth (countsP g p p.side) c.2.1.toNat = 0) := by
  unfold condP; rw [if_pos h1, hn]; simp
 rw [he]
 generalize countsP g p p.side = l at *
 obtain ⟨c0, c1, c2, c3⟩ := c
 simp only at hk hck
 (repeat (first|with_reducible refine wV fun _=>?_|simp [go_sem]))
 refine dCall.plain hC (by simp [go_sem]) ?_
 (repeat (first|with_reducible refine wV fun _=>?_|simp [go_sem, hck]))
theorem cond2_pure (hg : GOk g) (hp : POk g p) (hc : ClauseOk g.cells g.kinds.length c) (h1 : c.1 = 2) : Pure Tryz.prog 336 [.agg (encGame g), .agg (encPos p), .agg (encClause c)] (.v (.bool (condP c p))) := by
 refine pF Tryz.func336 ?_
 have hal := hp.al
 have hps := hp.s
 have hn := hc.n
 have hcd := hn.2.1 h1
 have hci : c.2.2.1.toNat < p.at_.length := by omega
 have he : condP c p = decide (nth p.at_ c.2.2.1.toNat = codeOf c.2.1 (1 - p.side)) := by
  unfold condP; rw [if_neg (by omega), if_pos h1]
 rw [he]
 have hC := gCode_pure c.2.1 (1 - p.side)
 obtain ⟨c0, c1, c2, c3⟩ := c
 simp only at hcd hci hC hn
 generalize codeOf c1 (1 - p.side) = code at *
 (repeat (first|with_reducible refine wV fun _=>?_|simp [go_sem, hci]))
 refine dCall.plain hC (by simp [go_sem]) ?_
 (repeat (first|with_reducible refine wV fun _=>?_|simp [go_sem, hci]))
theorem cond3_pure (hg : GOk g) (hp : POk g p) (hc : ClauseOk g.cells g.kinds.length c) (h1 : c.1 = 3) : Pure Tryz.prog 337 [.agg (encGame g), .agg (encPos p), .agg (encClause c)] (.v (.bool (condP c p))) := by
 refine pF Tryz.func337 ?_
 have hC := Count_pure g hg p hp p.side hp.s
 have hl := countsP_len g p p.side
 have k6 := hg.k6
 have hnn := fun (k : Nat) hk => nth_countsP g p p.side (k := k) hk
 have hle := fun k : Nat => menP_le hg hp p.side k
 have hall := men_all hg hp p.side
 obtain ⟨S, hS⟩ : ∃ S : Nat → Nat, S = fun i => ((List.range i).map fun (k : Nat) => menP p p.side k).sum := ⟨_, rfl⟩
 have hS0 : S 0 = 0 := by rw [hS]; rfl
 have hSs : ∀ i, S (i + 1) = S i + menP p p.side i := fun i => by rw [hS]; simp [List.range_succ]
 have hSK : S g.kinds.length = menP p p.side (-1) := by rw [hS]; exact hall
 have hSb : ∀ i, S i ≤ 9 * i := fun i => by
  induction i with
  | zero => omega
  | succ i ih => rw [hSs]; have := hle i; omega
 have he : condP c p = decide ((S g.kinds.length : Int) ≤ c.2.2.1) := by
  unfold condP; rw [if_neg (by omega), if_neg (by omega), hSK]
 rw [he]
 clear hS
 generalize countsP g p p.side = l at *
 obtain ⟨c0, c1, c2, c3⟩ := c
 (repeat (first|with_reducible refine wV fun _=>?_|simp [go_sem]))
 refine ACallP.plain hC (by simp [go_sem]) ?_
 (repeat (first|with_reducible refine wV fun _=>?_|simp [go_sem]))
 refine ALoop.start (ALoop.ind (α := Nat) (fun i => ⟨[(5, .ref 2 0 4 0 0), (7, .v (.int .i64 (S i))), (14, encIs l), (15, .v (.int .i64 l.length)), (16, .v (.int .i64 i))], [(2, .rows true 0 4 [encClause (c0, c1, c2, c3)])], 3⟩)
  (fun d i => i + d = l.length) ?_ l.length 0 ?_) ?_ ?_
 ·rintro d i i1 hrec
  (repeat (first|with_reducible refine wV fun _=>?_|simp [go_sem]))
  refine aIf.mkL (fun hi => ?_) (fun hi => ?_) <;> simp at hi
  ·have h2 := hnn i (by omega)
   have h3 := hle i
   have h4 := hSb i
   have h5 := hSs i
   (repeat (first|with_reducible refine wV fun _=>?_|simp [go_sem, hi]))
   refine ALoop.start (hrec (d - 1) (by omega) (i + 1) (by omega)) ?_ (by simp)
   simp [go_sem, Wk_eq, h5, h2]
  ·have e : i = l.length := by omega
   subst e
   rw [hl]
   (repeat (first|with_reducible refine wV fun _=>?_|simp [go_sem]))
 ·omega
 ·simp [go_sem, Wk_eq, hS0]
 ·simp
end
def endedV (g : GameD) (p : PosD) : Int × Bool := if 0 ≤ endedP g p then ((nth g.clauses (endedP g p).toNat).2.2.2, true) else (0, false)
theorem glb_cond : glbs.lookup 0 = some [.v .nilFunc, .fn (.func 334) [] [], .fn (.func 336) [] [], .fn (.func 337) [] []] := rfl
theorem ended_pure (g : GameD) (hg : GOk g) (p : PosD) (hp : POk g p) : Pure Tryz.prog 72 [.agg (encGame g), .agg (encPos p)] (.tup [.v (.int .i64 (endedV g p).1), .v (.bool (endedV g p).2)]) := by
 refine pF Tryz.func72 ?_
 have hcn := hg.cn
 (repeat (first|with_reducible refine wV fun _=>?_|simp [go_sem]))
 refine ALoop.start (ALoop.ind (α := Nat) (fun i => ⟨[(2, .ref 0 0 9 0 0), (3, .ref 1 0 5 0 0), (9, .lst 4 (g.clauses.map encClause)), (10, .v (.int .i64 g.clauses.length)), (11, .v (.int .i64 i))], [(0, .rows true 0 9 [encGame g]), (1, .rows true 0 5 [encPos p])], 2⟩)
  (fun d i => i + d = g.clauses.length ∧ ∀ j, j < i → condP (nth g.clauses j) p = false) ?_ g.clauses.length 0 ?_) ?_ ?_
 ·rintro d i ⟨i1, i2⟩ hrec
  (repeat (first|with_reducible refine wV fun _=>?_|simp [go_sem]))
  refine aIf.mkL (fun hi => ?_) (fun hi => ?_) <;> simp at hi
  ·have hcl := hg.cl _ (nth_mem hi)
   have hfi : condP (nth g.clauses i) p = true → endedV g p = ((nth g.clauses i).2.2.2, true) := fun hc => by
    have he : endedP g p = i := by unfold endedP; rw [findIdx_some (fun c => condP c p) g.clauses hi i2 hc]
    unfold endedV
    rw [he, if_pos (by omega)]; simp
   have h1 := cond1_pure g p _ hg hp hcl
   have h2 := cond2_pure g p _ hg hp hcl
   have h3 := cond3_pure g p _ hg hp hcl
   have hcond := hcl.cond
   obtain ⟨c, hcc⟩ : ∃ c, c = nth g.clauses i := ⟨_, rfl⟩
   rw [← hcc] at hfi h1 h2 h3 hcond
   have fin : ∀ b, condP c p = b → b = false → ∀ j, j < i + 1 → condP (nth g.clauses j) p = false := by
    intro b hb hf j hj
    rcases Nat.lt_or_ge j i with h | h
    ·exact i2 j h
    ·obtain rfl : j = i := by omega
     rw [← hcc, hb, hf]
   obtain ⟨c0, c1, c2, c3⟩ := c
   generalize hcb : condP (c0, c1, c2, c3) p = b at *
   simp only at hcond hfi
   rcases hcond with rfl | rfl | rfl
   ·have hC := h1 rfl
    (repeat (first|with_reducible refine wV fun _=>?_|simp [go_sem, hi, ← hcc, glb_cond]))
    refine dCall.plain hC (by simp [go_sem]) ?_
    (repeat (first|with_reducible refine wV fun _=>?_|simp [go_sem]))
    cases b
    ·(repeat (first|with_reducible refine wV fun _=>?_|simp [go_sem]))
     refine ALoop.start (hrec (d - 1) (by omega) (i + 1) ⟨by omega, fin _ rfl rfl⟩) ?_ (by simp)
     simp [go_sem, Wk_eq]
    ·rw [hfi rfl]
     (repeat (first|with_reducible refine wV fun _=>?_|simp [go_sem]))
   ·have hC := h2 rfl
    (repeat (first|with_reducible refine wV fun _=>?_|simp [go_sem, hi, ← hcc, glb_cond]))
    refine dCall.plain hC (by simp [go_sem]) ?_
    (repeat (first|with_reducible refine wV fun _=>?_|simp [go_sem]))
    cases b
    ·(repeat (first|with_reducible refine wV fun _=>?_|simp [go_sem]))
     refine ALoop.start (hrec (d - 1) (by omega) (i + 1) ⟨by omega, fin _ rfl rfl⟩) ?_ (by simp)
     simp [go_sem, Wk_eq]
    ·rw [hfi rfl]
     (repeat (first|with_reducible refine wV fun _=>?_|simp [go_sem]))
   ·have hC := h3 rfl
    (repeat (first|with_reducible refine wV fun _=>?_|simp [go_sem, hi, ← hcc, glb_cond]))
    refine dCall.plain hC (by simp [go_sem]) ?_
    (repeat (first|with_reducible refine wV fun _=>?_|simp [go_sem]))
    cases b
    ·(repeat (first|with_reducible refine wV fun _=>?_|simp [go_sem]))
     refine ALoop.start (hrec (d - 1) (by omega) (i + 1) ⟨by omega, fin _ rfl rfl⟩) ?_ (by simp)
     simp [go_sem, Wk_eq]
    ·rw [hfi rfl]
     (repeat (first|with_reducible refine wV fun _=>?_|simp [go_sem]))
  ·have he : endedP g p = -1 := by unfold endedP; rw [findIdx_none (fun c => condP c p) g.clauses (fun j hj => i2 j (by omega))]
   have he' : endedV g p = (0, false) := by unfold endedV; rw [he]; rfl
   rw [he']
   (repeat (first|with_reducible refine wV fun _=>?_|simp [go_sem]))
 ·exact ⟨by simp, fun j hj => by omega⟩
 ·simp [go_sem, Wk_eq]
 ·simp
end Go.Av
end
section
/- Contracts: play.outcomes. -/
open Go Go.Proofs
namespace Go.Av
def rowO (o : OutD) : List AV := [.agg (encOut o)]
theorem drop_range {n j : Nat} (h : j < n) : (List.range n).drop j = j :: (List.range n).drop (j + 1) := by
 rw [List.drop_eq_getElem_cons (by simpa using h)]; simp
theorem outsF_seq (g : GameD) (hg : GOk g) (p : PosD) (hp : POk g p) : PSeq Tryz.prog 149 [.fp (encPos p), .fp (encGame g)] 0 ((outsP g p).map rowO) := by
 refine PSeq.of_awp (by kernel_rfl) Tryz.func149 rfl rfl (Nat.le_of_ble_eq_true rfl) (by kernel_rfl) (fun l => ?_) (hm2 := by decide)
 have hal := hp.al
 have c9 := hg.c9
 have k6 := hg.k6
 have hgb : ∀ (n : Nat) (L : List OutD), Bel n (ghost l 0 (L.map rowO)) := fun n L => by
  simp only [ghost, Bel_gd, Bel_tup, List.forall_mem_cons, Bel_v, Bel_lst]
  simp [go_sem, rowO]
 obtain ⟨oF, hoF⟩ : ∃ oF : Nat → List OutD, oF = fun j => ((List.range p.at_.length).drop j).flatMap (outsAt g p) := ⟨_, rfl⟩
 have ho0 : outsP g p = oF 0 := by rw [hoF]; rfl
 have hos : ∀ j, j < p.at_.length → oF j = outsAt g p j ++ oF (j + 1) := fun j hj => by rw [hoF]; simp only; rw [drop_range hj, List.flatMap_cons]
 have hon : oF p.at_.length = [] := by rw [hoF]; simp only; rw [List.drop_eq_nil_of_le (by simp)]; rfl
 rw [ho0]
 clear hoF ho0
 (repeat (first|with_reducible refine wV fun _=>?_|simp [go_sem, GH]))
 refine ALoop.start (ALoop.ind (α := Nat) (fun j => ⟨[(0, .fn (.yield l) [] []), (1, .fp (encPos p)), (2, .fp (encGame g)), (14, encIs p.at_), (15, .v (.int .i64 p.at_.length)), (16, .v (.int .i64 j)), (1000000007, ghost l 0 ((oF j).map rowO))], [], 0⟩)
  (fun d j => j + d = p.at_.length) ?_ p.at_.length 0 ?_) ?_ ?_
 ·rintro d j j1 hrec
  (repeat (first|with_reducible refine wV fun _=>?_|simp [go_sem, GH]))
  refine aIf.mkL (fun hj => ?_) (fun hj => ?_) <;> simp at hj
  ·have hat := hp.at (i := j) (by omega)
   have hman := manOf_cases hat.1 hat.2 hg.k6
   have hO := gMan_pure (nth p.at_ j)
   have hoj := hos j hj
   have hoa : outsAt g p j = if 0 ≤ (manOf (nth p.at_ j)).1 ∧ (manOf (nth p.at_ j)).2 = p.side then (List.range (nth g.kinds (manOf (nth p.at_ j)).1.toNat).progs.length).flatMap fun (i : Nat) => runsP g p j i else [] := rfl
   have hrp : ∀ i : Nat, i < (nth g.kinds (manOf (nth p.at_ j)).1.toNat).progs.length → 0 ≤ (manOf (nth p.at_ j)).1 → (manOf (nth p.at_ j)).2 = p.side → ChoiceOk g p j i := fun i hi h1 h2 =>
    ⟨by omega, by omega, h1, h2, by omega, by simpa using hi⟩
   have hRun : ∀ i : Nat, i < (nth g.kinds (manOf (nth p.at_ j)).1.toNat).progs.length → 0 ≤ (manOf (nth p.at_ j)).1 → (manOf (nth p.at_ j)).2 = p.side → _ := fun i hi h1 h2 => rRuns_pure g hg p hp j i (hrp i hi h1 h2)
   have hrl := fun (i : Nat) hi h1 h2 => runsP_len hg hp (hrp i hi h1 h2)
   clear hrp
   generalize manOf (nth p.at_ j) = m at *
   obtain ⟨mk, ms⟩ := m
   simp only at hoa hRun hman hO hrl
   (repeat (first|with_reducible refine wV fun _=>?_|simp [go_sem, hj, GH]))
   refine ACallP.plain hO (by simp [go_sem]) ?_
   (repeat (first|with_reducible refine wV fun _=>?_|simp [go_sem, GH]))
   refine aIf.mkL (fun hc => ?_) (fun hc => ?_) <;> simp at hc
   ·have hz : outsAt g p j = [] := by rw [hoa, if_neg (by omega)]
    rw [hz, List.nil_append] at hoj
    rw [hoj]
    (repeat (first|with_reducible refine wV fun _=>?_|simp [go_sem, GH]))
    refine ALoop.start (hrec (d - 1) (by omega) (j + 1) (by omega)) ?_ (by simp)
    simp [go_sem, Wk_eq, hgb, GH]
   ·rw [if_pos (by omega)] at hoa
    have hmk : mk.toNat < g.kinds.length := by
     simp only [Prod.mk.injEq] at hman
     omega
    have hn8 := hg.pn _ (nth_mem hmk)
    obtain ⟨np, hnp⟩ : ∃ np, np = (nth g.kinds mk.toNat).progs.length := ⟨_, rfl⟩
    rw [← hnp] at hoa hRun hn8 hrl
    obtain ⟨pF, hpF⟩ : ∃ pF : Nat → List OutD, pF = fun i => ((List.range np).drop i).flatMap (fun (i : Nat) => runsP g p j i) ++ oF (j + 1) := ⟨_, rfl⟩
    have hp0 : oF j = pF 0 := by rw [hpF, hoj, hoa]; rfl
    have hps : ∀ i, i < np → pF i = runsP g p j i ++ pF (i + 1) := fun i hi => by rw [hpF]; simp only; rw [drop_range hi, List.flatMap_cons, List.append_assoc]
    have hpn : pF np = oF (j + 1) := by rw [hpF]; simp only; rw [List.drop_eq_nil_of_le (by simp)]; rfl
    rw [hp0]
    clear hpF hp0 hoa hoj
    (repeat (first|with_reducible refine wV fun _=>?_|simp [go_sem, GH, hmk, ← hnp]))
    refine ALoop.start (ALoop.ind (α := Nat) (fun i => ⟨[(0, .fn (.yield l) [] []), (1, .fp (encPos p)), (2, .fp (encGame g)), (4, .v (.int .i64 j)), (14, encIs p.at_), (15, .v (.int .i64 p.at_.length)), (16, .v (.int .i64 j)), (40, .v (.int .i64 np)), (41, .v (.int .i64 i)), (1000000007, ghost l 0 ((pF i).map rowO))], [], 0⟩)
     (fun d i => i + d = np) ?_ np 0 ?_) ?_ ?_
    ·rintro d2 i i1 hrec2
     (repeat (first|with_reducible refine wV fun _=>?_|simp [go_sem, GH]))
     refine aIf.mkL (fun hi => ?_) (fun hi => ?_) <;> simp at hi
     ·have hR := hRun i hi (by omega) (by omega)
      have hpi := hps i hi
      obtain ⟨rs, hrs⟩ : ∃ rs, rs = runsP g p j i := ⟨_, rfl⟩
      have hrl' := hrl i hi (by omega) (by omega)
      rw [← hrs] at hR hpi hrl'
      obtain ⟨rF, hrF⟩ : ∃ rF : Nat → List OutD, rF = fun t => rs.drop t ++ pF (i + 1) := ⟨_, rfl⟩
      have hr0 : pF i = rF 0 := by rw [hrF, hpi]; rfl
      have hrt : ∀ t, t < rs.length → rF t = nth rs t :: rF (t + 1) := fun t ht => by rw [hrF]; simp only; rw [dropG_cons ht]; rfl
      have hrn : rF rs.length = pF (i + 1) := by rw [hrF]; simp
      rw [hr0]
      clear hrF hr0
      (repeat (first|with_reducible refine wV fun _=>?_|simp [go_sem, GH]))
      refine ACallP.plain hR (by simp [go_sem]) ?_
      (repeat (first|with_reducible refine wV fun _=>?_|simp [go_sem, GH]))
      refine ALoop.start (ALoop.ind (α := Nat) (fun t => ⟨[(0, .fn (.yield l) [] []), (1, .fp (encPos p)), (2, .fp (encGame g)), (4, .v (.int .i64 j)), (14, encIs p.at_), (15, .v (.int .i64 p.at_.length)), (16, .v (.int .i64 j)), (40, .v (.int .i64 np)), (41, .v (.int .i64 i)), (52, encOs rs), (53, .v (.int .i64 rs.length)), (54, .v (.int .i64 t)), (1000000007, ghost l 0 ((rF t).map rowO))], [], 0⟩)
       (fun d t => t + d = rs.length) ?_ rs.length 0 ?_) ?_ ?_
      ·rintro d3 t t1 hrec3
       (repeat (first|with_reducible refine wV fun _=>?_|simp [go_sem, GH]))
       refine aIf.mkL (fun ht => ?_) (fun ht => ?_) <;> simp at ht
       ·rw [hrt t ht]
        (repeat (first|with_reducible refine wV fun _=>?_|simp [go_sem, GH, ht]))
        refine aYld.mk (more := 0) (xs := rowO (nth rs t)) (rs := (rF (t + 1)).map rowO) _ (by simp [upd, GH]) (.refl _) (.refl _ _ _ _) (by simp [go_sem, rowO]) ?_ ?_
        ·(repeat (first|with_reducible refine wV fun _=>?_|simp [go_sem, GH]))
         refine ALoop.start (hrec3 (d3 - 1) (by omega) (t + 1) (by omega)) ?_ (by simp)
         simp [go_sem, Wk_eq, hgb, GH]
        ·(repeat (first|with_reducible refine wV fun _=>?_|simp [go_sem, GH]))
       ·have e : t = rs.length := by omega
        subst e
        rw [hrn]
        (repeat (first|with_reducible refine wV fun _=>?_|simp [go_sem, GH]))
        refine ALoop.start (hrec2 (d2 - 1) (by omega) (i + 1) (by omega)) ?_ (by simp)
        simp [go_sem, Wk_eq, hgb, GH]
      ·omega
      ·simp [go_sem, Wk_eq, hgb, GH]
      ·simp
     ·have e : i = np := by omega
      subst e
      rw [hpn]
      (repeat (first|with_reducible refine wV fun _=>?_|simp [go_sem, GH]))
      refine ALoop.start (hrec (d - 1) (by omega) (j + 1) (by omega)) ?_ (by simp)
      simp [go_sem, Wk_eq, hgb, GH]
    ·omega
    ·simp [go_sem, Wk_eq, hgb, GH]
    ·simp
  ·have e : j = p.at_.length := by omega
   subst e
   rw [hon]
   (repeat (first|with_reducible refine wV fun _=>?_|simp [go_sem, GH]))
 ·omega
 ·simp [go_sem, Wk_eq, hgb, GH]
 ·simp
end Go.Av
end
section
/- Contracts: play.Moves. -/
open Go Go.Proofs
namespace Go.Av
def outsR (n : Nat) : AV := .fn (.func 149) [] [.ref (n + 1) 0 5 0 0, .ref n 0 9 0 0]
def outsH (g : GameD) (p : PosD) (n : Nat) : List (Nat × AObj) := [(n, .rows true 0 9 [encGame g]), (n + 1, .rows true 0 5 [encPos p])]
theorem outcomes_owns (g : GameD) (p : PosD) : Owns Tryz.prog 73 [.agg (encGame g), .agg (encPos p)] outsR (outsH g p) 2 := by
 refine ⟨?_, fun n => ⟨by simp [go_sem, outsR], by simp [go_sem, outsH]⟩⟩
 refine ACallP.of_awp (by kernel_rfl) Tryz.func73 rfl rfl (Nat.le_of_ble_eq_true rfl) (by kernel_rfl) ?_
 (repeat (first|with_reducible refine wV fun _=>?_|simp [go_sem, outsR, outsH]))
 simp [go_sem, Wk_eq]
theorem endedV_2 (g : GameD) (p : PosD) : (endedV g p).2 = decide (0 ≤ endedP g p) := by
 unfold endedV; split <;> simp_all
theorem any_len {α : Type} (f : α → Bool) : ∀ l : List α, l.any f = decide (0 < (l.filter f).length)
 | [] => rfl
 | x :: l => by cases h : f x <;> simp [h, any_len f l]
theorem Moves_pure (g : GameD) (hg : GOk g) (p : PosD) (hp : POk g p) : Pure Tryz.prog 18 [.agg (encGame g), .agg (encPos p)] (encPs (movesP g p)) := by
 refine pF Tryz.func18 ?_
 have hE := ended_pure g hg p hp
 have hD := rDrops_pure g hg p hp
 have hdl := dropsP_len hg hp
 have hdo := fun q hq => ((dropsP_ok hg hp) q hq).1.fits hg
 have hol := outsP_len hg hp
 have hoo := fun o ho => ((outsP_ok hg hp) o ho).1.fits hg
 have hS : Owns Tryz.prog 73 [.agg (encGame g), .agg (encPos p)] (fun n => outsR n) (fun n => outsH g p n) 2 := outcomes_owns g p
 have hQ := outsF_seq g hg p hp
 simp only [outsR, outsH] at hS
 have e2 := endedV_2 g p
 have hMv : movesP g p = if 0 ≤ endedP g p then [] else sortU cmpP (movesL g p) := rfl
 have hML : movesL g p = ((outsP g p).filter fun o => !mustP g p || o.took).map (·.pos) ++ (if mustP g p then [] else dropsP g p) := rfl
 have hMu : mustP g p = (g.must && (outsP g p).any (·.took)) := rfl
 rw [e2] at hE
 rw [hMv]
 generalize endedP g p = ep at *
 generalize (endedV g p).1 = ev1 at *
 generalize outsP g p = outs at *
 generalize dropsP g p = drops at *
 generalize mustP g p = must at *
 generalize movesL g p = mvl at *
 clear hMv e2
 (repeat (first|with_reducible refine wV fun _=>?_|simp [go_sem]))
 refine ACallP.plain hE (by simp [go_sem]) ?_
 (repeat (first|with_reducible refine wV fun _=>?_|simp [go_sem]))
 refine aIf.mkL (fun he => ?_) (fun he => ?_) <;> simp at he
 ·rw [if_pos he]
  (repeat (first|with_reducible refine wV fun _=>?_|simp [go_sem]))
 ·rw [if_neg (by omega)]
  (repeat (first|with_reducible refine wV fun _=>?_|simp [go_sem, GH]))
  refine ACallP.ownsPlain hS (by simp [go_sem]) ?_
  (repeat (first|with_reducible refine wV fun _=>?_|simp [go_sem, GH]))
  refine aRange.mk [.fp (encPos p), .fp (encGame g)] (frzO _ [4, 5]) hQ (frz_frzO _ _) ?_ (by simp [go_sem]) (by simp [rowO]) ?_
  ·refine LeRow.cons (.frzP rfl ?_ ?_ ?_ ?_) (LeRow.cons (.frzP rfl ?_ ?_ ?_ ?_) .nil) <;> first | exact LeRow.refl _ _ _ _ | simp [frzO, frz1, upd]
  obtain ⟨al, hal⟩ : ∃ al : Nat → List PosD, al = fun k => (outs.take k).map (·.pos) := ⟨_, rfl⟩
  obtain ⟨tk, htk⟩ : ∃ tk : Nat → List PosD, tk = fun k => ((outs.take k).filter (·.took)).map (·.pos) := ⟨_, rfl⟩
  have hall : ∀ k, (al k).length ≤ 7200000000 := fun k => by rw [hal]; simp; omega
  have htkl : ∀ k, (tk k).length ≤ 7200000000 := fun k => by rw [htk]; simp only [List.length_map]; have := List.length_filter_le (·.took) (outs.take k); simp at this; omega
  have hals : ∀ k, k < outs.length → al (k + 1) = al k ++ [(nth outs k).pos] := fun k hk => by rw [hal]; simp only; rw [List.take_add_one, List.getElem?_eq_getElem hk, nth_eq _ _ hk, Option.toList_some, List.map_append]; rfl
  have htks : ∀ k, k < outs.length → tk (k + 1) = if (nth outs k).took = true then tk k ++ [(nth outs k).pos] else tk k := fun k hk => by
   rw [htk]; simp only; rw [List.take_add_one, List.getElem?_eq_getElem hk, nth_eq _ _ hk, Option.toList_some, List.filter_append]
   cases hq : outs[k].took <;> simp [hq]
  have hal0 : al 0 = [] := by rw [hal]; rfl
  have htk0 : tk 0 = [] := by rw [htk]; rfl
  have halE : al outs.length = outs.map (·.pos) := by rw [hal]; simp
  have htkE : tk outs.length = (outs.filter (·.took)).map (·.pos) := by rw [htk]; simp
  clear hal htk
  refine Fgt.to (ARange.ind (α := Nat) (fun k => ([(2, .ref 0 0 9 0 0), (3, .ref 1 0 5 0 0), (7, .ref 2 0 1 0 0), (8, .ref 3 0 1 0 0)], [(0, .rows true 0 9 [encGame g]), (1, .rows true 0 5 [encPos p]), (2, .rows true 0 1 [[.sl 6 (al k).length 5 0 (al k).length]]), (3, .rows true 0 1 [[.sl 7 (tk k).length 5 0 (tk k).length]]),
    (6, .rows true (al k).length 5 ((al k).map encPos)), (7, .rows true (tk k).length 5 ((tk k).map encPos))], 8))
   (fun rows k => rows = (outs.drop k).map rowO ∧ k ≤ outs.length) ?_ ?_ _ 0 ?_) ?_ ?_
  ·rintro k ⟨i1, i2⟩
   have hk : k = outs.length := by
    have := congrArg List.length i1
    simp at this
    omega
   subst hk
   refine ⟨rfl, ?_⟩
   have hmu : must = (g.must && decide (0 < (tk outs.length).length)) := by
    rw [hMu, htkE, any_len, List.length_map]
   have hft : ∀ q ∈ tk outs.length, FitsP q := fun q hq => by
    rw [htkE] at hq
    obtain ⟨o, ho, rfl⟩ := List.mem_map.1 hq
    exact hoo o (List.mem_filter.1 ho).1
   have hfa : ∀ q ∈ al outs.length, FitsP q := fun q hq => by
    rw [halE] at hq
    obtain ⟨o, ho, rfl⟩ := List.mem_map.1 hq
    exact hoo o ho
   have hla := hall outs.length
   have hlt := htkl outs.length
   by_cases hm : must = true
   ·rw [hm] at hmu hML
    have hgm : g.must = true := by cases h : g.must <;> simp [h] at hmu ⊢
    have hpos : 0 < (tk outs.length).length := by rw [hgm] at hmu; simpa using hmu
    have hpos' : (0 : Int) < (tk outs.length).length := by omega
    have e : mvl = tk outs.length := by rw [hML, htkE]; simp
    rw [e]
    generalize tk outs.length = tks at *
    have hS1 := pSort_pure tks (by omega) hft
    (repeat (first|with_reducible refine wV fun _=>?_|simp [go_sem, GH, ← hmu]))
    refine ACallP.pureF [7] hS1 ?_ (bel1 (bel_encPs _)) ?_
    ·(first|done|exact agX)
    ·(repeat (first|with_reducible refine wV fun _=>?_|simp [go_sem, GH]))
   ·have e : mvl = al outs.length ++ drops := by
     simp only [Bool.not_eq_true] at hm
     rw [hML, hm, halE, List.filter_eq_self.2 (by simp)]; simp
    rw [e]
    have hS1 := pSort_pure (al outs.length ++ drops) (by rw [List.length_append]; omega) (fun q hq => by
     rcases List.mem_append.1 hq with h | h
     ·exact hfa q h
     ·exact hdo q h)
    simp only [Bool.not_eq_true] at hm
    rw [hm] at hmu
    generalize al outs.length = als at *
    generalize tk outs.length = tks at *
    generalize sortU cmpP (als ++ drops) = res at *
    (repeat (first|with_reducible refine wV fun _=>?_|simp [go_sem, GH, ← hmu]))
    refine dCall.plain hD (by simp [go_sem]) ?_
    (repeat (first|with_reducible refine wV fun _=>?_|simp [go_sem, GH]))
    refine dCall.frz [encPs (als ++ drops)] _ [6] [(6, some (.rows false (als.length + 1) 5 ((als ++ drops).map encPos)))] hS1 ?_ ?_ (bel1 (bel_encPs _)) ?_
    ·intro q hq
     simp only [List.mem_singleton] at hq
     subst hq
     exact ⟨by simp, als.length + 1, 5, _, rfl, by simp [upd]⟩
    ·intro h₁ hS
     have h6 := hS 6 (by simp)
     simp [upd] at h6
     exact .cons (leV_frz h6.symm (by simp) (by simp [applyW, upd]) (by simp; exact List.take_of_length_le (by simp))) .nil
    ·(repeat (first|with_reducible refine wV fun _=>?_|simp [go_sem, GH]))
  ·rintro xs rs k ⟨i1, i2⟩ hrec
   have hk : k < outs.length := by
    have := congrArg List.length i1
    simp at this
    omega
   rw [dropG_cons hk, List.map_cons, List.cons.injEq] at i1
   obtain ⟨rfl, rfl⟩ := i1
   have hals := hals k hk
   have htks := htks k hk
   have h1 := hall k
   have h2 := htkl k
   obtain ⟨o, ho⟩ : ∃ o, o = nth outs k := ⟨_, rfl⟩
   rw [← ho] at hals htks ⊢
   obtain ⟨op, ot⟩ := o
   simp only at hals htks
   generalize hrs : (outs.drop (k + 1)).map rowO = rs at *
   refine ARange.go (Nat.zero_le _) ?_
   (repeat (first|with_reducible refine wV fun _=>?_|simp [go_sem, GH, rowO]))
   cases ot
   ·rw [if_neg (by simp)] at htks
    (repeat (first|with_reducible refine wV fun _=>?_|simp [go_sem, GH]))
    refine Fgt.to (hrec (k + 1) ⟨hrs.symm, by omega⟩) ?_ (by simp)
    simp [go_sem, Wk_eq, GH, hals, htks]
   ·rw [if_pos rfl] at htks
    (repeat (first|with_reducible refine wV fun _=>?_|simp [go_sem, GH]))
    refine Fgt.to (hrec (k + 1) ⟨hrs.symm, by omega⟩) ?_ (by simp)
    simp [go_sem, Wk_eq, GH, hals, htks]
  ·exact ⟨rfl, Nat.zero_le _⟩
  ·simp [go_sem, Wk_eq, hal0, htk0]
  ·simp
end Go.Av
end
section
/- Contracts: play.Status, play.Legal, play.Walk. -/
open Go Go.Proofs
namespace Go.Av
def statusV (g : GameD) (p : PosD) : Int × Bool := if 0 ≤ endedP g p then endedV g p else if movesP g p = [] then (g.blocked, true) else (0, false)
theorem Status_pure (g : GameD) (hg : GOk g) (p : PosD) (hp : POk g p) : Pure Tryz.prog 76 [.agg (encGame g), .agg (encPos p)] (.tup [.v (.int .i64 (statusV g p).1), .v (.bool (statusV g p).2)]) := by
 refine pF Tryz.func76 ?_
 have hE := ended_pure g hg p hp
 have hM := Moves_pure g hg p hp
 have hS : statusV g p = if 0 ≤ endedP g p then endedV g p else if movesP g p = [] then (g.blocked, true) else (0, false) := rfl
 have e2 := endedV_2 g p
 rw [hS]
 obtain ⟨ev, hev⟩ : ∃ ev, ev = endedV g p := ⟨_, rfl⟩
 rw [← hev] at hE e2 ⊢
 obtain ⟨e1, b⟩ := ev
 simp only at hE e2 ⊢
 generalize endedP g p = ep at *
 generalize movesP g p = l at *
 clear hS hev
 subst e2
 (repeat (first|with_reducible refine wV fun _=>?_|simp [go_sem]))
 refine ACallP.plain hE (by simp [go_sem]) ?_
 (repeat (first|with_reducible refine wV fun _=>?_|simp [go_sem]))
 refine aIf.mkL (fun he => ?_) (fun he => ?_) <;> simp at he
 ·rw [if_pos he]
  (repeat (first|with_reducible refine wV fun _=>?_|simp [go_sem, he]))
 ·rw [if_neg (by omega)]
  (repeat (first|with_reducible refine wV fun _=>?_|simp [go_sem]))
  refine ACallP.plain hM (by simp [go_sem]) ?_
  (repeat (first|with_reducible refine wV fun _=>?_|simp [go_sem]))
  by_cases hl : l = []
  ·subst hl
   rw [if_pos rfl]
   (repeat (first|with_reducible refine wV fun _=>?_|simp [go_sem]))
  ·rw [if_neg hl]
   have hl' : ¬ (l.length : Int) = 0 := by
    have := List.length_pos_iff.2 hl
    omega
   (repeat (first|with_reducible refine wV fun _=>?_|simp [go_sem, hl, hl']))
end Go.Av
end
section
/- Contracts: Status, Legal, SameLists of the reference; the law's status. -/
open Go Go.Proofs
namespace Go.Av
def encOver (v : Int × Bool) : AV := .agg [.v (.int .i64 v.1), .v (.bool v.2)]
theorem endedP_lt {g : GameD} {p : PosD} (h : 0 ≤ endedP g p) : (endedP g p).toNat < g.clauses.length := by
 unfold endedP at h ⊢
 cases he : g.clauses.findIdx? (fun c => condP c p) with
 | none => rw [he] at h; simp at h
 | some i =>
  have := (List.findIdx?_eq_some_iff_getElem.1 he).1
  simpa using this
theorem R6Status_pure (g : GameD) (hg : GOk g) (p : PosD) (hp : POk g p) : Pure Tryz.prog 133 [.agg (encGame g), .agg (encPos p)] (encOver (statusV g p)) := by
 refine pF Tryz.func133 ?_
 have hE := R6Ended_pure g hg p hp
 have hM := R6Moves_pure g hg p hp
 have hlt := fun h => endedP_lt (g := g) (p := p) h
 have hS : statusV g p = if 0 ≤ endedP g p then ((nth g.clauses (endedP g p).toNat).2.2.2, true) else if movesP g p = [] then (g.blocked, true) else (0, false) := by
  unfold statusV endedV
  split <;> rfl
 rw [hS]
 generalize endedP g p = ep at *
 generalize movesP g p = l at *
 clear hS
 (repeat (first|with_reducible refine wV fun _=>?_|simp [go_sem, encOver]))
 refine ACallP.plain hE (by simp [go_sem]) ?_
 (repeat (first|with_reducible refine wV fun _=>?_|simp [go_sem, encOver]))
 refine aIf.mkL (fun he => ?_) (fun he => ?_) <;> simp at he
 ·have hlt := hlt he
  rw [if_pos he]
  (repeat (first|with_reducible refine wV fun _=>?_|simp [go_sem, encOver, hlt]))
 ·rw [if_neg (by omega)]
  (repeat (first|with_reducible refine wV fun _=>?_|simp [go_sem, encOver]))
  refine ACallP.plain hM (by simp [go_sem]) ?_
  (repeat (first|with_reducible refine wV fun _=>?_|simp [go_sem, encOver]))
  by_cases hl : l = []
  ·subst hl
   rw [if_pos rfl]
   (repeat (first|with_reducible refine wV fun _=>?_|simp [go_sem, encOver]))
  ·rw [if_neg hl]
   (repeat (first|with_reducible refine wV fun _=>?_|simp [go_sem, encOver, hl]))
end Go.Av
end
section
/- Contracts: Walk of the reference, for any picks. -/
open Go Go.Proofs
namespace Go.Av
end Go.Av
end
section
/- Contracts, laws of play: the game and the positions of the examples. -/
open Go Go.Proofs
namespace Go.Av
end Go.Av
end
section
/- Laws of play: the examples are a game and positions of it. -/
open Go Go.Proofs
namespace Go.Av
end Go.Av
end
section
/- Laws of play: the fixed examples. -/
open Go Go.Proofs
namespace Go.Av
end Go.Av
end
section
/- The law PlayEnds: its call gives true. -/
open Go Go.Proofs
namespace Go.Av
end Go.Av
end
section
/- Plain: moves that are found with a code. -/
open Go Go.Proofs
namespace Go.Av
def gAllN (g : GameD) (c : CodeD) (p : PosD) (n : Nat) : List OutD := (List.range n).flatMap fun (i : Nat) => if (manOf (nth p.at_ i)).2 = p.side then runC g c p i else []
def gAll (g : GameD) (c : CodeD) (p : PosD) : List OutD := gAllN g c p p.at_.length
def gMust (g : GameD) (c : CodeD) (p : PosD) : Bool := g.must && (gAll g c p).any (·.took)
def gOuts (m : Bool) (l : List OutD) : List PosD := (l.filter fun o => o.took || !m).map (·.pos)
def gMovesL (g : GameD) (c : CodeD) (p : PosD) : List PosD := gOuts (gMust g c p) (gAll g c p) ++ (if gMust g c p then [] else dropsP g p)
def gMovesP (g : GameD) (c : CodeD) (p : PosD) : List PosD := if (statusV g p).2 = true then [] else sortU cmpP (gMovesL g c p)
theorem gAllN_succ (g : GameD) (c : CodeD) (p : PosD) (n : Nat) : gAllN g c p (n + 1) = gAllN g c p n ++ (if (manOf (nth p.at_ n)).2 = p.side then runC g c p n else []) := by
 unfold gAllN
 rw [List.range_succ, List.flatMap_append]
 simp
end Go.Av
end
section
/- Contracts: slices.ContainsFunc at outcomes; gen.Moves. -/
open Go Go.Proofs
namespace Go.Av
def idxH {α : Type} (p : α → Bool) (l : List α) : Int := match l.findIdx? p with | some i => (i : Int) | none => -1
theorem idxH_at {α : Type} [Inhabited α] {p : α → Bool} {l : List α} {j : Nat} (hj : j < l.length) (h : ∀ i, i < j → p (nth l i) = false) (hp : p (nth l j) = true) : idxH p l = j := by
 have : l.findIdx? p = some j := by
  rw [List.findIdx?_eq_some_iff_getElem]
  refine ⟨hj, by rw [← nth_eq _ _ hj]; exact hp, fun i hi => ?_⟩
  have := h i hi
  rw [nth_eq _ _ (by omega)] at this
  simp [this]
 simp [idxH, this]
theorem idxH_none {α : Type} [Inhabited α] {p : α → Bool} {l : List α} (h : ∀ i, i < l.length → p (nth l i) = false) : idxH p l = -1 := by
 have : l.findIdx? p = none := by
  rw [List.findIdx?_eq_none_iff]
  intro x hx
  obtain ⟨i, hi, rfl⟩ := List.getElem_of_mem hx
  have := h i hi
  rw [nth_eq _ _ hi] at this
  exact this
 simp [idxH, this]
theorem idxH_any {α : Type} {p : α → Bool} {l : List α} : decide (0 ≤ idxH p l) = l.any p := by
 unfold idxH
 cases h : l.findIdx? p with
 | none =>
  rw [List.findIdx?_eq_none_iff] at h
  simp
  simpa using h
 | some i =>
  have := List.findIdx?_isSome (xs := l) (p := p)
  rw [h] at this
  simp at this ⊢
  exact this
theorem IndexFuncO_pure (l : List (OutD)) (hl : l.length ≤ 1048576) (f : FuncId) (caps : List AV) (p : (OutD) → Bool) (hp : ∀ x ∈ l, Pure Tryz.prog f (.agg (encOut x) :: caps) (.v (.bool (p x)))) (hb' : ∀ c ∈ caps, Bel 0 c) :
  Pure Tryz.prog 193 [.lst 6 (l.map encOut), .fn (.func f) [] caps] (.v (.int .i64 (idxH p l))) := by
 refine pF Tryz.func193 ?_
 have hA : ∀ x : (OutD), ∀ m, Bel m (.agg (encOut x)) := fun x m => by simp [go_sem]
 (repeat (first|with_reducible refine wV fun _=>?_|simp [go_sem]))
 refine ALoop.start (ALoop.ind (α := Nat) (fun j => ⟨[(0, .lst 6 (l.map encOut)), (1, .fn (.func f) [] caps), (7, .v (.int .i64 l.length)), (8, .v (.int .i64 j))], [], 0⟩)
  (fun d j => j + d = l.length ∧ (∀ i < j, p (nth l i) = false)) ?_ l.length 0 ?_) ?_ ?_
 ·rintro d j ⟨i1, i2⟩ hrec
  (repeat (first|with_reducible refine wV fun _=>?_|simp [go_sem]))
  refine aIf.mkL (fun hj => ?_) (fun hj => ?_) <;> simp at hj
  ·(repeat (first|with_reducible refine wV fun _=>?_|simp [go_sem, hj]))
   refine ACallP.plain (hp _ (nth_mem hj)) (fun c hc => by
    simp only [List.nil_append, List.cons_append, List.mem_cons] at hc
    rcases hc with rfl | h
    ·exact hA _ _
    ·exact hb' c h) ?_
   (repeat (first|with_reducible refine wV fun _=>?_|simp [go_sem]))
   refine aIf.mkL (fun h => ?_) (fun h => ?_)
   ·(repeat (first|with_reducible refine wV fun _=>?_|simp [go_sem, idxH_at hj i2 h]))
   ·(repeat (first|with_reducible refine wV fun _=>?_|simp [go_sem]))
    refine ALoop.start (hrec (d - 1) (by omega) (j + 1) ⟨by omega, fun i hi => ?_⟩) ?_ (by simp)
    ·rcases Nat.lt_or_ge i j with h' | h'
     ·exact i2 i h'
     ·obtain rfl : i = j := by omega
      exact h
    ·simp [go_sem, Wk_eq]
     exact hb'
  ·have hn := idxH_none (p := p) (l := l) fun i hi => i2 i (by omega)
   (repeat (first|with_reducible refine wV fun _=>?_|simp [go_sem, hn]))
 ·simp
 ·simp [go_sem, Wk_eq]
  exact hb'
 ·simp
theorem ContainsFuncO_pure (l : List (OutD)) (hl : l.length ≤ 1048576) (f : FuncId) (caps : List AV) (p : (OutD) → Bool) (hp : ∀ x ∈ l, Pure Tryz.prog f (.agg (encOut x) :: caps) (.v (.bool (p x)))) (hb' : ∀ c ∈ caps, Bel 0 c) :
  Pure Tryz.prog 131 [.lst 6 (l.map encOut), .fn (.func f) [] caps] (.v (.bool (l.any p))) := by
 refine pF Tryz.func131 ?_
 have hI := IndexFuncO_pure l hl f caps p hp hb'
 (repeat (first|with_reducible refine wV fun _=>?_|simp [go_sem]))
 refine ACallP.plain hI (by simp [go_sem]; exact hb') ?_
 (repeat (first|with_reducible refine wV fun _=>?_|simp [go_sem, idxH_any]))
theorem gMoves1_pure (o : OutD) : Pure Tryz.prog 132 [.agg (encOut o)] (.v (.bool o.took)) := by
 refine pF Tryz.func132 ?_
 (repeat (first|with_reducible refine wV fun _=>?_|simp [go_sem]))
def ownN (p : PosD) : Nat → Nat
 | 0 => 0
 | n + 1 => ownN p n + if (manOf (nth p.at_ n)).2 = p.side then 1 else 0
def CodeFew (g : GameD) (c : CodeD) (p : PosD) : Prop := ∀ i : Nat, (i : Int) < g.cells → (runC g c p i).length ≤ 100 ∧ ∀ o ∈ runC g c p i, FitsP o.pos
theorem gAllN_len {g : GameD} {c : CodeD} {p : PosD} (hf : CodeFew g c p) : ∀ n : Nat, (n : Int) ≤ g.cells → (gAllN g c p n).length ≤ 100 * n ∧ ∀ o ∈ gAllN g c p n, FitsP o.pos
 | 0, _ => by simp [gAllN]
 | n + 1, h => by
  obtain ⟨h1, h2⟩ := gAllN_len hf n (by omega)
  obtain ⟨h3, h4⟩ := hf n (by omega)
  rw [gAllN_succ]
  split
  ·refine ⟨by rw [List.length_append]; omega, fun o ho => ?_⟩
   rcases List.mem_append.1 ho with ho | ho
   ·exact h2 o ho
   ·exact h4 o ho
  ·rw [List.append_nil]
   exact ⟨by omega, h2⟩
theorem gMoves_pure (g : GameD) (hg : GOk g) (c : CodeD) (hc : CodeOk g c) (p : PosD) (hp : POk g p) (hf : CodeFew g c p) :
  Pure Tryz.prog 61 [.agg (encGame g), .agg (encCode c), .agg (encPos p)] (encPs (gMovesP g c p)) := by
 refine pF Tryz.func61 ?_
 have hal := hp.al
 have hc9 := hg.c9
 have hSt := Status_pure g hg p hp
 have hMan := fun i => gMan_pure (nth p.at_ i)
 have hRun := fun (i : Nat) (hi : (i : Int) < g.cells) => gRun_pure g hg c hc p hp (i : Int) (by omega) hi
 have hlen := fun n (hn : ((n : Nat) : Int) ≤ g.cells) => gAllN_len hf n hn
 have hCF := fun (l : List OutD) (hl : l.length ≤ 1048576) => ContainsFuncO_pure l hl 132 [] (·.took) (fun o _ => gMoves1_pure o) (by simp)
 have hD := rDrops_pure g hg p hp
 have hdl := dropsP_len hg hp
 have hdo := fun q hq => ((dropsP_ok hg hp) q hq).1.fits hg
 have hR : gMovesP g c p = if (statusV g p).2 = true then [] else sortU cmpP (gMovesL g c p) := rfl
 rw [hR]
 generalize statusV g p = st at *
 obtain ⟨so, sb⟩ := st
 (repeat (first|with_reducible refine wV fun _=>?_|simp [go_sem]))
 refine ACallP.plain hSt (by simp [go_sem]) ?_
 (repeat (first|with_reducible refine wV fun _=>?_|simp [go_sem]))
 cases sb
 ·rw [if_neg (by simp)]
  (repeat (first|with_reducible refine wV fun _=>?_|simp [go_sem]))
  have hgs := gAllN_succ g c p
  refine ALoop.start (ALoop.ind (α := Nat) (fun i => ⟨[(3, .ref 0 0 9 0 0), (4, .ref 1 0 2 0 0), (5, .ref 2 0 5 0 0), (9, .sl 3 (ownN p i) 6 0 (gAllN g c p i).length), (26, .v (.int .i64 p.at_.length)), (27, .v (.int .i64 i))], [(0, .rows true 0 9 [encGame g]), (1, .rows true 0 2 [encCode c]), (2, .rows true 0 5 [encPos p]), (3, .rows true (ownN p i) 6 ((gAllN g c p i).map encOut))], 4⟩)
   (fun d i => i + d = p.at_.length) ?_ p.at_.length 0 ?_) ?_ ?_
  ·rintro d i i1 hrec
   (repeat (first|with_reducible refine wV fun _=>?_|simp [go_sem]))
   refine aIf.mkL (fun hi => ?_) (fun hi => ?_) <;> simp at hi
   ·have hM := hMan i
    have hRi := hRun i (by omega)
    obtain ⟨l1, _⟩ := hlen i (by omega)
    obtain ⟨l2, _⟩ := hf i (by omega)
    have hgs := hgs i
    have hon : ownN p (i + 1) = ownN p i + if (manOf (nth p.at_ i)).2 = p.side then 1 else 0 := rfl
    generalize manOf (nth p.at_ i) = m at *
    obtain ⟨m1, m2⟩ := m
    simp only at hgs hon hM
    (repeat (first|with_reducible refine wV fun _=>?_|simp [go_sem, hi]))
    (first | refine ACallP.plain (hM) (by simp [go_sem]) ?_ | refine aGC.plain _ (fun _ => hM) (by simp [go_sem]) ?_ | ((try ((with_reducible refine wZ ?_); (try simp [go_sem]))); first | refine dCall.plain (hM) (by simp [go_sem]) ?_ | refine dGC.plain _ (fun _ => hM) (by simp [go_sem]) ?_))
    (repeat (first|with_reducible refine wV fun _=>?_|simp [go_sem, hi]))
    refine aIf.mkL (fun hs => ?_) (fun hs => ?_) <;> simp at hs
    ·rw [if_pos hs] at hgs hon
     (repeat (first|with_reducible refine wV fun _=>?_|simp [go_sem, hi]))
     (first | refine ACallP.plain (hRi) (by simp [go_sem]) ?_ | refine aGC.plain _ (fun _ => hRi) (by simp [go_sem]) ?_ | ((try ((with_reducible refine wZ ?_); (try simp [go_sem]))); first | refine dCall.plain (hRi) (by simp [go_sem]) ?_ | refine dGC.plain _ (fun _ => hRi) (by simp [go_sem]) ?_))
     (repeat (first|with_reducible refine wV fun _=>?_|simp [go_sem, hi]))
     refine ALoop.start (hrec (d - 1) (by omega) (i + 1) (by omega)) ?_ (by simp)
     simp [go_sem, Wk_eq, hon, hgs]
    ·rw [if_neg hs] at hgs hon
     rw [List.append_nil] at hgs
     (repeat (first|with_reducible refine wV fun _=>?_|simp [go_sem, hi]))
     refine ALoop.start (hrec (d - 1) (by omega) (i + 1) (by omega)) ?_ (by simp)
     simp [go_sem, Wk_eq, hon, hgs]
   ·obtain rfl : i = p.at_.length := by omega
    obtain ⟨l1, l2⟩ := hlen p.at_.length (by omega)
    have hgL : gMovesL g c p = gOuts (gMust g c p) (gAllN g c p p.at_.length) ++ (if gMust g c p then [] else dropsP g p) := rfl
    have hgM : gMust g c p = (g.must && (gAllN g c p p.at_.length).any (·.took)) := rfl
    rw [hgL]
    generalize gAllN g c p p.at_.length = al at *
    generalize dropsP g p = drops at *
    have hcf := hCF al (by omega)
    generalize ownN p p.at_.length = gen at *
    clear hgs hRun hlen hCF hgL
    (repeat (first|with_reducible refine wV fun _=>?_|simp [go_sem]))
    refine aGC.flat [encOs al, .fn (.func 132) [] []] (.v (.bool (al.any (·.took)))) (fun _ => hcf) (.v _) ?_ (by simp [go_sem]) ?_
    ·(first|done|exact leX)
    (repeat (first|with_reducible refine wV fun _=>?_|simp [go_sem, ← hgM]))
    generalize gMust g c p = mu at *
    obtain ⟨ol, hol⟩ : ∃ ol : Nat → List PosD, ol = fun k => gOuts mu (al.take k) := ⟨_, rfl⟩
    have hos : ∀ k, k < al.length → ol (k + 1) = if ((nth al k).took || !mu) = true then ol k ++ [(nth al k).pos] else ol k := fun k hk => by
     rw [hol]
     simp only [gOuts]
     rw [List.take_add_one, List.getElem?_eq_getElem hk, nth_eq _ _ hk, Option.toList_some, List.filter_append, List.map_append]
     by_cases hq : (al[k].took || !mu) = true
     ·simp [hq]
     ·simp [hq]
    have hoz : ol 0 = [] := by rw [hol]; simp [gOuts]
    have hoe : ol al.length = gOuts mu al := by rw [hol]; simp
    have hoL : ∀ k, (ol k).length ≤ 900 := fun k => by
     rw [hol]
     simp only [gOuts, List.length_map]
     have h1 := List.length_filter_le (fun o : OutD => o.took || !mu) (al.take k)
     have h2 : (al.take k).length ≤ al.length := by rw [List.length_take]; omega
     omega
    have hof : ∀ k, ∀ q ∈ ol k, FitsP q := fun k q hq => by
     rw [hol] at hq
     obtain ⟨o, ho, rfl⟩ := List.mem_map.1 hq
     exact l2 o (List.mem_of_mem_take (List.mem_filter.1 ho).1)
    clear hol
    refine ALoop.start (ALoop.ind (α := Nat) (fun k => ⟨[(3, .ref 0 0 9 0 0), (5, .ref 2 0 5 0 0), (13, .v (.bool mu)), (14, .sl 4 (ol k).length 5 0 (ol k).length), (57, encOs al), (58, .v (.int .i64 al.length)), (59, .v (.int .i64 k))], [(0, .rows true 0 9 [encGame g]), (2, .rows true 0 5 [encPos p]), (4, .rows true (ol k).length 5 ((ol k).map encPos))], 5⟩)
     (fun d k => k + d = al.length) ?_ al.length 0 ?_) ?_ ?_
    ·rintro d2 k k1 hrec2
     (repeat (first|with_reducible refine wV fun _=>?_|simp [go_sem]))
     refine aIf.mkL (fun hk => ?_) (fun hk => ?_) <;> simp at hk
     ·have hos := hos k hk
      have hl := hoL k
      have hgo : nth (al.map encOut) k = encOut (nth al k) := nth_map _ _ _ hk
      generalize nth al k = o at *
      obtain ⟨op, ot⟩ := o
      simp only at hos
      (repeat (first|with_reducible refine wV fun _=>?_|simp [go_sem, hk, hgo]))
      cases hb : (ot || !mu)
      ·rw [hb, if_neg (by simp)] at hos
       (repeat (first|with_reducible refine wV fun _=>?_|simp [go_sem, hk, hgo, hb]))
       refine ALoop.start (hrec2 (d2 - 1) (by omega) (k + 1) (by omega)) ?_ (by simp)
       simp [go_sem, Wk_eq, hos]
      ·rw [hb, if_pos rfl] at hos
       (repeat (first|with_reducible refine wV fun _=>?_|simp [go_sem, hk, hgo, hb]))
       refine ALoop.start (hrec2 (d2 - 1) (by omega) (k + 1) (by omega)) ?_ (by simp)
       simp [go_sem, Wk_eq, hos]
     ·obtain rfl : k = al.length := by omega
      have hl := hoL al.length
      have hfz := hof al.length
      rw [hoe] at hl hfz
      cases mu
      ·have hS1 := pSort_pure (gOuts false al ++ drops) (by rw [List.length_append]; omega) (fun q hq => by
        rcases List.mem_append.1 hq with h | h
        ·exact hfz q h
        ·exact hdo q h)
       rw [if_neg (by simp)]
       generalize sortU cmpP (gOuts false al ++ drops) = res at *
       generalize gOuts false al = ou at *
       (repeat (first|with_reducible refine wV fun _=>?_|simp [go_sem, hoe]))
       (first | refine ACallP.plain (hD) (by simp [go_sem]) ?_ | refine aGC.plain _ (fun _ => hD) (by simp [go_sem]) ?_ | ((try ((with_reducible refine wZ ?_); (try simp [go_sem]))); first | refine dCall.plain (hD) (by simp [go_sem]) ?_ | refine dGC.plain _ (fun _ => hD) (by simp [go_sem]) ?_))
       (repeat (first|with_reducible refine wV fun _=>?_|simp [go_sem, hoe]))
       refine ACallP.pureF [4] hS1 ?_ (bel1 (bel_encPs _)) ?_
       ·(first|done|exact agX)
       ·(repeat (first|with_reducible refine wV fun _=>?_|simp [go_sem]))
      ·have hS1 := pSort_pure (gOuts true al) (by omega) hfz
       rw [if_pos rfl, List.append_nil]
       generalize gOuts true al = ou at *
       (repeat (first|with_reducible refine wV fun _=>?_|simp [go_sem, hoe]))
       refine ACallP.pureF [4] hS1 ?_ (bel1 (bel_encPs _)) ?_
       ·(first|done|exact agX)
       ·(repeat (first|with_reducible refine wV fun _=>?_|simp [go_sem]))
    ·simp
    ·simp [go_sem, Wk_eq, hoz]
     (first|done|exact leX)
    ·simp
  ·simp
  ·simp [go_sem, Wk_eq, gAllN, ownN]
  ·simp
 ·rw [if_pos rfl]
  (repeat (first|with_reducible refine wV fun _=>?_|simp [go_sem]))
end Go.Av
end
section
/- The law GenTurns: its call gives true. -/
open Go Go.Proofs
namespace Go.Av
end Go.Av
end
section
/- Contracts, the reference of layer 8: ways, extensions, paths. -/
open Go Go.Proofs
namespace Go.Av
theorem way_owns (p : PathD) (more : List ActD) (to : Int) (hp : p.acts.length ≤ 1048576) (hm : more.length ≤ 1048576) : Owns Tryz.prog 218 [.agg (encPath p), encAs more, .v (.int .i64 to)]
  (fun n => .agg [.sl (n + 2) 2 3 0 (p.acts.length + more.length), .v (.int .i64 to)]) (fun n => [(n + 2, .rows true 2 3 ((p.acts ++ more).map encAct))]) 3 := by
 refine ⟨ACallP.of_awp (by kernel_rfl) Tryz.func218 rfl rfl (Nat.le_of_ble_eq_true rfl) (by kernel_rfl) ?_, fun n => ⟨by simp [go_sem], by simp [go_sem]⟩⟩
 obtain ⟨acts, t⟩ := p
 simp only at hp
 (repeat (first|with_reducible refine wV fun _=>?_|simp [go_sem]))
 simp [go_sem, Wk_eq]
theorem way_pure (p : PathD) (more : List ActD) (to : Int) (hp : p.acts.length ≤ 1048576) (hm : more.length ≤ 1048576) : Pure Tryz.prog 218 [.agg (encPath p), encAs more, .v (.int .i64 to)] (.agg (encPath (onP p to more))) := by
 refine (way_owns p more to hp hm).pure ?_ (by simp [go_sem])
 unfold onP
 (first|done|exact leX)
theorem extend8_pure (b : BoardD) (hb : BoardOk b) (h9 : b.cells ≤ 9) (side : Int) (p : PathD) (hp : p.acts.length ≤ 1000000) (x : Int × Int) (hx : 1 ≤ x.1 ∧ x.1 ≤ 10) :
  Pure Tryz.prog 185 [.agg (encB b), .v (.int .i64 side), .agg (encPath p), .agg (encStep x)] (encPt (extP b side p x)) := by
 refine pF Tryz.func185 ?_
 have hT := R1To_pure b hb side x.2 p.to
 have hL := R1Line_pure b hb side x.2 p.to
 have hwg : ∀ to, Pure Tryz.prog 218 [.agg (encPath p), encAs [], .v (.int .i64 to)] (.agg (encPath (onP p to []))) := fun to => way_pure p [] to (by omega) (by simp)
 have hw1 : ∀ to a, Pure Tryz.prog 218 [.agg (encPath p), encAs [a], .v (.int .i64 to)] (.agg (encPath (onP p to [a]))) := fun to a => way_pure p [a] to (by omega) (by simp)
 have hbl : ∀ n, (∀ c' ∈ encB b, Bel n c') = True := fun n => by simp [go_sem]
 have hel : (encB b).length = 3 := rfl
 generalize encB b = eb at *
 obtain ⟨op, N⟩ := x
 simp only at hx hT hL
 unfold extP
 simp only
 by_cases h1 : op = 1
 ·subst h1
  rw [if_pos (.inl rfl)]
  generalize toB b side N p.to = T at *
  by_cases ht : T < 0
  ·rw [if_pos ht]
   (repeat (first|with_reducible refine wV fun _=>?_|simp [go_sem, hel]))
   refine ACallP.plain hT (by simp [go_sem, hbl]) ?_
   (repeat (first|with_reducible refine wV fun _=>?_|simp [go_sem, hel, ht]))
   (first|done|exact leX)
  ·rw [if_neg ht, if_pos rfl]
   (repeat (first|with_reducible refine wV fun _=>?_|simp [go_sem, hel]))
   refine ACallP.plain hT (by simp [go_sem, hbl]) ?_
   (repeat (first|with_reducible refine wV fun _=>?_|simp [go_sem, hel, ht]))
   refine ACallP.pureF [] (hwg T) (.cons (.refl _) (.cons (.nil _) (.refl _ _ _ _))) (by simp [go_sem]) ?_
   (repeat (first|with_reducible refine wV fun _=>?_|simp [go_sem]))
   (first|done|exact leX)
 by_cases h7 : op = 7
 ·subst h7
  rw [if_pos (.inr rfl)]
  generalize toB b side N p.to = T at *
  by_cases ht : T < 0
  ·rw [if_pos ht]
   (repeat (first|with_reducible refine wV fun _=>?_|simp [go_sem, hel]))
   refine ACallP.plain hT (by simp [go_sem, hbl]) ?_
   (repeat (first|with_reducible refine wV fun _=>?_|simp [go_sem, hel, ht]))
   (first|done|exact leX)
  ·rw [if_neg ht, if_neg (by omega)]
   (repeat (first|with_reducible refine wV fun _=>?_|simp [go_sem, hel]))
   refine ACallP.plain hT (by simp [go_sem, hbl]) ?_
   (repeat (first|with_reducible refine wV fun _=>?_|simp [go_sem, hel, ht]))
   refine ACallP.pureF [3] (hw1 p.to (7, p.to, T)) ?_ (by simp [go_sem]) ?_
   ·(first|done|exact leX)
   (repeat (first|with_reducible refine wV fun _=>?_|simp [go_sem]))
   (first|done|exact leX)
 rw [if_neg (by omega)]
 by_cases h2 : op = 2
 ·subst h2
  rw [if_pos rfl]
  have hll : (lineB b side N p.to).length ≤ 9 := by have := lineB_le hb (side := side) (d := N) (c := p.to); omega
  generalize lineB b side N p.to = line at *
  (repeat (first|with_reducible refine wV fun _=>?_|simp [go_sem, hel]))
  refine ACallP.plain hL (by simp [go_sem, hbl]) ?_
  (repeat (first|with_reducible refine wV fun _=>?_|simp [go_sem, hel]))
  refine ALoop.start (ALoop.ind (α := Nat × List ActD × List PathD) (fun a => ⟨[(6, .ref 1 0 2 0 0), (10, .sl 3 a.1 2 0 a.2.2.length), (11, .sl 4 a.1 3 0 a.2.1.length), (12, encIs line), (13, .v (.int .i64 a.1))],
    [(1, .rows true 0 2 [encPath p]), (3, .rows true a.1 2 (a.2.2.map encPath)), (4, .rows true a.1 3 (a.2.1.map encAct))], 5⟩)
   (fun d a => a.1 + d = line.length ∧ a.2.1.length = a.1 ∧ a.2.2.length = a.1 ∧ a.2.2 ++ slideP p (line.drop a.1) a.2.1 = slideP p line []) ?_ line.length (0, [], []) ?_) ?_ ?_
  ·rintro d ⟨i, passed, out⟩ ⟨i1, i2, i3, i4⟩ hrec
   simp only at i1 i2 i3 i4
   have hw := way_owns p passed (nth line i) (by omega) (by omega)
   (repeat (first|with_reducible refine wV fun _=>?_|simp [go_sem]))
   refine aIf.mkL (fun hi => ?_) (fun hi => ?_) <;> simp at hi
   ·rw [dropG_cons hi, slideP] at i4
    have hgo := hrec (d - 1) (by omega) (i + 1, passed ++ [(3, nth line i, 0)], out ++ [onP p (nth line i) passed]) ⟨by simp only; omega, by simp; omega, by simp; omega, by simp only; rw [← i4, List.append_assoc]; rfl⟩
    (repeat (first|with_reducible refine wV fun _=>?_|simp [go_sem, hi]))
    refine dCall.ownsR [4] 128 (by rfl) hw (by decide) (by simp [go_sem]) (by simp [go_sem]) ?_ (by simp [go_sem]) (by simp [go_sem]) ?_
    ·intro h₁ hh
     exact LeRow.cons (.refl _) (LeRow.cons (leV_frz ((hh 4 (by simp)).symm.trans rfl) (by simp) (by simp [noH]) (by rw [List.drop_zero, List.take_of_length_le (by simp)])) (.refl _ _ _ _))
    ((repeat (first|with_reducible (first|refine wL fun _=>?_|refine wD fun _=>?_|refine wZ ?_)|simp [go_sem, hi])); refine dEnd.mkN (by kernel_rfl) ?_)
    (repeat (first|with_reducible refine wV fun _=>?_|simp [go_sem, hi]))
    refine ALoop.start hgo ?_ (by simp)
    simp [go_sem, Wk_eq]
    unfold onP
    (first|done|exact rwX)
   ·rw [List.drop_eq_nil_of_le hi, slideP, List.append_nil] at i4
    rw [← i4]
    (repeat (first|with_reducible refine wV fun _=>?_|simp [go_sem]))
    (first|done|exact leX)
  ·exact ⟨by simp, rfl, rfl, rfl⟩
  ·simp [go_sem, Wk_eq]
  ·simp
 rw [if_neg h2]
 by_cases h8 : op = 8 ∨ op = 9 ∨ op = 10
 ·rw [if_pos h8]
  rcases h8 with rfl | rfl | rfl
  ·(repeat (first|with_reducible refine wV fun _=>?_|simp [go_sem]))
   refine ACallP.pureF [3] (hw1 p.to (8, N, 0)) ?_ (by simp [go_sem]) ?_
   ·(first|done|exact leX)
   (repeat (first|with_reducible refine wV fun _=>?_|simp [go_sem]))
   (first|done|exact leX)
  ·(repeat (first|with_reducible refine wV fun _=>?_|simp [go_sem]))
   refine ACallP.pureF [3] (hw1 p.to (9, N, 0)) ?_ (by simp [go_sem]) ?_
   ·(first|done|exact leX)
   (repeat (first|with_reducible refine wV fun _=>?_|simp [go_sem]))
   (first|done|exact leX)
  ·(repeat (first|with_reducible refine wV fun _=>?_|simp [go_sem]))
   refine ACallP.pureF [3] (hw1 p.to (10, N, 0)) ?_ (by simp [go_sem]) ?_
   ·(first|done|exact leX)
   (repeat (first|with_reducible refine wV fun _=>?_|simp [go_sem]))
   (first|done|exact leX)
 ·rw [if_neg h8]
  rcases (show op = 3 ∨ op = 4 ∨ op = 5 ∨ op = 6 by omega) with rfl | rfl | rfl | rfl
  ·(repeat (first|with_reducible refine wV fun _=>?_|simp [go_sem]))
   refine ACallP.pureF [3] (hw1 p.to (3, p.to, 0)) ?_ (by simp [go_sem]) ?_
   ·(first|done|exact leX)
   (repeat (first|with_reducible refine wV fun _=>?_|simp [go_sem]))
   (first|done|exact leX)
  ·(repeat (first|with_reducible refine wV fun _=>?_|simp [go_sem]))
   refine ACallP.pureF [3] (hw1 p.to (4, p.to, 0)) ?_ (by simp [go_sem]) ?_
   ·(first|done|exact leX)
   (repeat (first|with_reducible refine wV fun _=>?_|simp [go_sem]))
   (first|done|exact leX)
  ·(repeat (first|with_reducible refine wV fun _=>?_|simp [go_sem]))
   refine ACallP.pureF [3] (hw1 p.to (5, p.to, 0)) ?_ (by simp [go_sem]) ?_
   ·(first|done|exact leX)
   (repeat (first|with_reducible refine wV fun _=>?_|simp [go_sem]))
   (first|done|exact leX)
  ·(repeat (first|with_reducible refine wV fun _=>?_|simp [go_sem]))
   refine ACallP.pureF [3] (hw1 p.to (6, p.to, 0)) ?_ (by simp [go_sem]) ?_
   ·(first|done|exact leX)
   (repeat (first|with_reducible refine wV fun _=>?_|simp [go_sem]))
   (first|done|exact leX)
theorem Paths8_pure (b : BoardD) (hb : BoardOk b) (h1 : 1 ≤ b.cells) (h9 : b.cells ≤ 9) (side : Int) (prog : List (Int × Int)) (hp : prog.length ≤ 8) (hpo : ∀ x ∈ prog, 1 ≤ x.1 ∧ x.1 ≤ 10) (cell : Int) :
  Pure Tryz.prog 119 [.agg (encB b), .v (.int .i64 side), encProg prog, .v (.int .i64 cell)] (encPt (pathsP b side prog cell)) := by
 refine pF Tryz.func119 ?_
 have hR : pathsP b side prog cell = pathsK b side prog cell prog.length := by unfold pathsK; rw [List.take_length]
 have hl := pathsK_len hb h1 h9 side prog hp cell
 have ha := pathsK_acts hb h9 side prog cell
 have hs := fun (i : Nat) (h : i < prog.length) => pathsK_succ b side prog cell h
 have h0 : pathsK b side prog cell 0 = [⟨[], cell⟩] := rfl
 have hE : ∀ p x, p.acts.length ≤ 1000000 → (1 ≤ x.1 ∧ x.1 ≤ 10) → Pure Tryz.prog 185 [.agg (encB b), .v (.int .i64 side), .agg (encPath p), .agg (encStep x)] (encPt (extP b side p x)) := fun p x hp hx => extend8_pure b hb h9 side p hp x hx
 have hbl : ∀ n, (∀ c' ∈ encB b, Bel n c') = True := fun n => by simp [go_sem]
 have hel : (encB b).length = 3 := rfl
 rw [hR]
 generalize encB b = eb at *
 generalize pathsK b side prog cell = K at *
 generalize extP b side = X at *
 clear hR
 (repeat (first|with_reducible refine wV fun _=>?_|simp [go_sem, hel]))
 refine ALoop.start (ALoop.ind (α := Nat) (fun i => ⟨[(1, .v (.int .i64 side)), (2, encProg prog), (4, .ref 0 0 3 0 0), (9, encPt (K i)), (10, .v (.int .i64 i))], [(0, .rows true 0 3 [eb])], 1⟩)
  (fun d i => i + d = prog.length) ?_ prog.length 0 ?_) ?_ ?_
 ·rintro d i i1 hrec
  have hli := hl i
  (repeat (first|with_reducible refine wV fun _=>?_|simp [go_sem]))
  refine aIf.mkL (fun hi => ?_) (fun hi => ?_) <;> simp at hi
  ·have hai := ha i (by omega)
   have hsi := hs i hi
   have hx := hpo _ (nth_mem hi)
   have hl1 := hl (i + 1)
   have hgo := hrec (d - 1) (by omega) (i + 1) (by omega)
   rw [hsi] at hgo hl1
   generalize K i = now at *
   obtain ⟨R, hR⟩ : ∃ R, R = now.flatMap fun w => X w (nth prog i) := ⟨_, rfl⟩
   rw [← hR] at hgo hl1
   (repeat (first|with_reducible refine wV fun _=>?_|simp [go_sem]))
   refine ALoop.start (ALoop.ind (α := Nat × List PathD) (fun a => ⟨[(1, .v (.int .i64 side)), (2, encProg prog), (4, .ref 0 0 3 0 0), (9, encPt now), (10, .v (.int .i64 i)), (11, .sl 1 a.1 2 0 a.2.length), (12, .v (.int .i64 a.1))],
     [(0, .rows true 0 3 [eb]), (1, .rows true a.1 2 (a.2.map encPath))], 2⟩)
    (fun d a => a.1 + d = now.length ∧ a.2 ++ ((now.drop a.1).flatMap fun w => X w (nth prog i)) = R) ?_ now.length (0, []) ?_) ?_ ?_
   ·rintro d2 ⟨j, l⟩ ⟨j1, j2⟩ hrec2
    simp only at j1 j2
    (repeat (first|with_reducible refine wV fun _=>?_|simp [go_sem]))
    refine aIf.mkL (fun hj => ?_) (fun hj => ?_) <;> simp at hj
    ·have haj := hai _ (nth_mem hj)
     have hlR : l.length + (X (nth now j) (nth prog i)).length ≤ 43046721 := by
      rw [dropG_cons hj] at j2
      rw [← j2] at hl1
      simp only [List.flatMap_cons, List.length_append] at hl1
      omega
     rw [dropG_cons hj, List.flatMap_cons, ← List.append_assoc] at j2
     have hgo2 := hrec2 (d2 - 1) (by omega) (j + 1, l ++ X (nth now j) (nth prog i)) ⟨by simp only; omega, j2⟩
     have hEj := hE (nth now j) (nth prog i) (by omega) hx
     simp only [List.length_append] at hgo2
     (repeat (first|with_reducible refine wV fun _=>?_|simp [go_sem, hel, hi, hj]))
     refine dCall.plain hEj (by simp [go_sem, hbl]) ?_
     (repeat (first|with_reducible refine wV fun _=>?_|simp [go_sem]))
     refine ALoop.start hgo2 ?_ (by simp)
     simp [go_sem, Wk_eq, hbl]
    ·rw [List.drop_eq_nil_of_le hj, List.flatMap_nil, List.append_nil] at j2
     subst j2
     (repeat (first|with_reducible refine wV fun _=>?_|simp [go_sem]))
     refine ALoop.start hgo ?_ (by simp)
     simp [go_sem, Wk_eq]
     refine ⟨?_, of_eq_true (hbl 1)⟩
     (first|done|exact leX)
   ·exact ⟨by simp, by rw [hR]; rfl⟩
   ·simp [go_sem, Wk_eq, hbl]
   ·simp
  ·have hil : i = prog.length := by omega
   subst hil
   (repeat (first|with_reducible refine wV fun _=>?_|simp [go_sem]))
 ·simp
 ·simp [go_sem, Wk_eq, hbl, h0]
  (first|done|exact leX)
 ·simp
end Go.Av
end
section
/- Contracts, the reference of layer 8: counts, codes. -/
open Go Go.Proofs
namespace Go.Av
theorem Count8_pure (c : CodeD) (hc : countC c ≤ 4611686018427387904) (h1 : c.1.length ≤ 1048576) (h2 : c.2.length ≤ 1048576) (hl : ∀ x ∈ c.1 ++ c.2, x.length ≤ 1048576) :
  Pure Tryz.prog 55 [.agg (encCode c)] (.v (.int .i64 (countC c))) := by
 refine pF Tryz.func55 ?_
 obtain ⟨a, b⟩ := c
 simp only at h1 h2 hl
 have hT : countC (a, b) = cntSide a + cntSide b := rfl
 rw [hT] at hc ⊢
 (repeat (first|with_reducible refine wV fun _=>?_|simp [go_sem]))
 refine ALoop.start (ALoop.ind (α := Nat × Nat) (fun x => ⟨[(1, .ref 0 0 2 0 0), (3, .v (.int .i64 x.2)), (4, .v (.int .i64 x.1))], [(0, .rows true 0 2 [[encSide a, encSide b]])], 1⟩)
  (fun d x => x.1 + d = 2 ∧ x.2 = (if x.1 = 0 then 0 else if x.1 = 1 then cntSide a else cntSide a + cntSide b)) ?_ 2 (0, 0) ?_) ?_ ?_
 ·rintro d ⟨s, n⟩ ⟨s1, s2⟩ hrec
  simp only at s1 s2
  rcases (show s = 2 ∨ s < 2 by omega) with rfl | hs2
  ·simp at s2
   subst s2
   (repeat (first|with_reducible refine wV fun _=>?_|simp [go_sem]))
  ·obtain ⟨l, hl0, hl1, hl2, hl3⟩ : ∃ l : List (List (List PathD)), cel [encSide a, encSide b] s = encSide l ∧ l.length ≤ 1048576 ∧ (∀ x ∈ l, x.length ≤ 1048576) ∧ (if s + 1 = 0 then 0 else if s + 1 = 1 then cntSide a else cntSide a + cntSide b) = n + cntSide l := by
    rcases (show s = 0 ∨ s = 1 by omega) with rfl | rfl
    ·simp at s2
     exact ⟨a, rfl, h1, fun x hx => hl x (by simp [hx]), by simp [s2]⟩
    ·simp at s2
     exact ⟨b, rfl, h2, fun x hx => hl x (by simp [hx]), by simp [s2]⟩
   have hcap : n + cntSide l ≤ 4611686018427387904 := by rw [← hl3]; split <;> (try split) <;> omega
   simp only [encSide, encCells, encPt] at hl0
   (repeat (first|with_reducible refine wV fun _=>?_|simp [go_sem, hl0]))
   (refine aIf.mkL (fun hT => ?_) (fun hT => by first | omega | (simp at hT; omega)); clear hT)
   (repeat (first|with_reducible refine wV fun _=>?_|simp [go_sem, hl0]))
   refine ALoop.start (ALoop.ind (α := Nat × Nat) (fun x => ⟨[(1, .ref 0 0 2 0 0), (3, .v (.int .i64 x.2)), (4, .v (.int .i64 s)), (5, .v (.int .i64 x.1))], [(0, .rows true 0 2 [[encSide a, encSide b]])], 1⟩)
    (fun d x => x.1 + d = l.length ∧ x.2 + cntSide (l.drop x.1) = n + cntSide l) ?_ l.length (0, n) ?_) ?_ ?_
   ·rintro d2 ⟨j, m⟩ ⟨j1, j2⟩ hrec2
    simp only at j1 j2
    (repeat (first|with_reducible refine wV fun _=>?_|simp [go_sem, hl0]))
    refine aIf.mkL (fun hj => ?_) (fun hj => ?_) <;> simp at hj
    ·have hll := hl2 _ (nth_mem hj)
     rw [cntSide_drop l hj] at j2
     (repeat (first|with_reducible refine wV fun _=>?_|simp [go_sem, hj, hl0]))
     refine ALoop.start (ALoop.ind (α := Nat × Nat) (fun x => ⟨[(1, .ref 0 0 2 0 0), (3, .v (.int .i64 x.2)), (4, .v (.int .i64 s)), (5, .v (.int .i64 j)), (6, .v (.int .i64 x.1))], [(0, .rows true 0 2 [[encSide a, encSide b]])], 1⟩)
      (fun d x => x.1 + d = (nth l j).length ∧ x.2 + cntCells ((nth l j).drop x.1) = m + cntCells (nth l j)) ?_ (nth l j).length (0, m) ?_) ?_ ?_
     ·rintro d3 ⟨k, q⟩ ⟨k1, k2⟩ hrec3
      simp only at k1 k2
      (repeat (first|with_reducible refine wV fun _=>?_|simp [go_sem, hl0, hj]))
      refine aIf.mkL (fun hk => ?_) (fun hk => ?_) <;> simp at hk
      ·rw [cntCells_drop _ hk] at k2
       (repeat (first|with_reducible refine wV fun _=>?_|simp [go_sem, hk, hl0, hj]))
       refine ALoop.start (hrec3 (d3 - 1) (by omega) (k + 1, q + (nth (nth l j) k).length) ⟨by simp only; omega, by simp only; omega⟩) ?_ (by simp)
       simp [go_sem, Wk_eq]
      ·rw [List.drop_eq_nil_of_le hk] at k2
       simp [cntCells] at k2
       (repeat (first|with_reducible refine wV fun _=>?_|simp [go_sem]))
       refine ALoop.start (hrec2 (d2 - 1) (by omega) (j + 1, q) ⟨by simp only; omega, by simp only [cntCells] at j2 ⊢; omega⟩) ?_ (by simp)
       simp [go_sem, Wk_eq]
     ·exact ⟨by simp, by simp⟩
     ·simp [go_sem, Wk_eq]
     ·simp
    ·rw [List.drop_eq_nil_of_le hj] at j2
     simp [cntSide] at j2
     (repeat (first|with_reducible refine wV fun _=>?_|simp [go_sem]))
     refine ALoop.start (hrec (d - 1) (by omega) (s + 1, m) ⟨by simp only; omega, ?_⟩) ?_ (by simp)
     ·simp only
      rw [hl3, j2]
      rfl
     ·simp [go_sem, Wk_eq]
   ·exact ⟨by simp, by simp⟩
   ·simp [go_sem, Wk_eq]
   ·simp
 ·exact ⟨rfl, rfl⟩
 ·simp [go_sem, Wk_eq]
 ·simp
def rowS (a : AV) (s : Nat) (x : AV) : List AV := if s = 0 then [x, .v (.slice none 0 0)] else [a, x]
theorem rowS_len (a : AV) (s : Nat) (x : AV) : (rowS a s x).length = 2 := by unfold rowS; split <;> rfl
theorem rowS_cel (a : AV) {s : Nat} (hs : s < 2) (x : AV) : cel (rowS a s x) s = x := by
 rcases (show s = 0 ∨ s = 1 by omega) with rfl | rfl <;> rfl
theorem rowS_set (a : AV) {s : Nat} (hs : s < 2) (x y : AV) : (rowS a s x).set s y = rowS a s y := by
 rcases (show s = 0 ∨ s = 1 by omega) with rfl | rfl <;> rfl
theorem rowS_le {h h' : Heap} {n : Nat} {a : AV} {s : Nat} {x y : AV} (hx : LeV h h' n x y) : LeRow h h' n (rowS a s x) (rowS a s y) := by
 unfold rowS
 split
 ·exact .cons hx (.refl _ _ _ _)
 ·exact .cons (.refl _) (.cons hx .nil)
theorem rowS_bel {n : Nat} {a : AV} {s : Nat} {x : AV} (ha : Bel n a) (hx : Bel n x) : ∀ c ∈ rowS a s x, Bel n c := by
 unfold rowS
 split <;> intro c hc <;> simp only [List.mem_cons, List.not_mem_nil, or_false] at hc <;> rcases hc with rfl | rfl
 ·exact hx
 ·exact .v _
 ·exact ha
 ·exact hx
def cellsK (b : BoardD) (s : Int) (ps : List (List (Int × Int))) (c : Nat) : List (List PathD) := (List.range c).map fun (c : Nat) => kindP b s ps c
theorem cellsK_succ (b : BoardD) (s : Int) (ps : List (List (Int × Int))) (c : Nat) : cellsK b s ps (c + 1) = cellsK b s ps c ++ [kindP b s ps c] := by simp [cellsK, List.range_succ]
theorem cellsK_len (b : BoardD) (s : Int) (ps : List (List (Int × Int))) (c : Nat) : (cellsK b s ps c).length = c := by simp [cellsK]
def rowA (a b : AV) (s : Nat) : List AV := [if s = 0 then AV.v (.slice none 0 0) else a, if s < 2 then AV.v (.slice none 0 0) else b]
theorem Compile8_pure (g : GameD) (hg : GOk g) : Pure Tryz.prog 53 [.agg (encGame g)] (.agg (encCode (codeP g))) := by
 refine pF Tryz.func53 ?_
 have hc1 := hg.c1
 have hc9 := hg.c9
 have hk6 := hg.k6
 have hP : ∀ k ∈ g.kinds, ∀ p ∈ k.progs, ∀ (side c : Int), Pure Tryz.prog 119 [.agg (encB g.board), .v (.int .i64 side), encProg p, .v (.int .i64 c)] (encPt (pathsP g.board side p c)) :=
  fun k hk p hp side c => by
   have hpo := hg.pr k hk p hp
   exact Paths8_pure g.board hg.board hg.c1 hg.c9 side p hpo.len (fun x hx => (hpo.st x hx).op) c
 have hR : encCode (codeP g) = [encSide (sideP g 0), encSide (sideP g 1)] := rfl
 rw [hR]
 clear hR
 obtain ⟨C, hC⟩ : ∃ C : Nat, g.cells = C := ⟨g.cells.toNat, by omega⟩
 have hcells : ∀ (s : Int) (j : Nat), cellsP g.board s (nth g.kinds j).progs = cellsK g.board s (nth g.kinds j).progs C := fun s j => by
  unfold cellsP cellsK
  rw [show g.board.cells.toNat = C by have : g.board.cells = g.cells := rfl; omega]
 have hbl : ∀ n, (∀ c' ∈ encGame g, Bel n c') = True := fun n => by simp [go_sem]
 have hel : (encGame g).length = 9 := rfl
 obtain ⟨eB, heB⟩ : ∃ eB, eB = encB g.board := ⟨_, rfl⟩
 have hg1 : (encGame g).take 3 = eB := by rw [heB]; rfl
 have hg2 : cel (encGame g) 3 = .lst 3 (g.kinds.map encKind) := rfl
 have hg3 : cel (encGame g) 0 = .v (.int .i64 C) := by rw [← hC]; rfl
 have heBb : ∀ n, (∀ c' ∈ eB, Bel n c') = True := fun n => by rw [heB]; simp [go_sem]
 rw [← heB] at hP
 clear heB
 generalize encGame g = eg at *
 obtain ⟨S0, hS0⟩ : ∃ S0, S0 = encSide (sideP g 0) := ⟨_, rfl⟩
 obtain ⟨S1, hS1⟩ : ∃ S1, S1 = encSide (sideP g 1) := ⟨_, rfl⟩
 have hSb0 : ∀ n, Bel n S0 = True := fun n => by rw [hS0]; simp [go_sem]
 have hSb1 : ∀ n, Bel n S1 = True := fun n => by rw [hS1]; simp [go_sem]
 rw [← hS0, ← hS1]
 (repeat (first|with_reducible refine wV fun _=>?_|simp [go_sem, hel]))
 refine ALoop.start (ALoop.ind (α := Nat) (fun s => ⟨[(1, .ref 0 0 9 0 0), (2, .ref 1 0 2 0 0), (3, .ref 2 0 2 0 0), (4, .v (.int .i64 s))],
   [(0, .rows true 0 9 [eg]), (1, .rows true 0 2 [[AV.v (.slice none 0 0), AV.v (.slice none 0 0)]]), (2, .rows true 0 2 [rowA S0 S1 s])], 3⟩)
  (fun d s => s + d = 2) ?_ 2 0 ?_) ?_ ?_
 ·rintro d0 s s1 hrec
  rcases (show s = 2 ∨ s < 2 by omega) with rfl | hs2
  ·simp only [rowA]
   (repeat (first|with_reducible refine wV fun _=>?_|simp [go_sem]))
   exact ⟨of_eq_true (hSb0 0), of_eq_true (hSb1 0)⟩
  have hAS : rowA S0 S1 s = rowS S0 s (.v (.slice none 0 0)) := by rcases (show s = 0 ∨ s = 1 by omega) with rfl | rfl <;> rfl
  rw [hAS]
  have hrl := rowS_len S0 s
  have hrc := rowS_cel S0 hs2
  have hrs := rowS_set S0 hs2
  (repeat (first|with_reducible refine wV fun _=>?_|simp [go_sem, hel]))
  (refine aIf.mkL (fun hT => ?_) (fun hT => by first | omega | (simp at hT; omega)); clear hT)
  (repeat (first|with_reducible refine wV fun _=>?_|simp [go_sem, hel]))
  refine ALoop.start (ALoop.ind (α := Nat) (fun j => ⟨[(1, .ref 0 0 9 0 0), (2, .ref 1 0 2 0 0), (3, .ref 2 0 2 0 0), (4, .v (.int .i64 s)), (5, .v (.int .i64 j))],
    [(0, .rows true 0 9 [eg]), (1, .rows true 0 2 [[AV.v (.slice none 0 0), AV.v (.slice none 0 0)]]), (2, .rows true 0 2 [rowS S0 s (.sl 3 j 1 0 j)]), (3, .rows true j 1 ((sideK g s j).map fun x => [encCells x]))], 4⟩)
   (fun d j => j + d = g.kinds.length) ?_ g.kinds.length 0 ?_) ?_ ?_
  ·rintro d j j1 hrec2
   have hlj := sideK_len g s (show j ≤ g.kinds.length by omega)
   (repeat (first|with_reducible refine wV fun _=>?_|simp [go_sem, hel, hg2]))
   refine aIf.mkL (fun hj => ?_) (fun hj => ?_) <;> simp at hj
   ·have hkm := nth_mem hj
    have hpn := hg.pn _ hkm
    have hPk := hP _ hkm
    have hsj := sideK_succ g s hj
    have hcj := hcells s j
    have hlj1 := sideK_len g s (show j + 1 ≤ g.kinds.length by omega)
    have hkl := kindP_len hg s hkm
    have hks : ∀ c : Nat, kindP g.board s (nth g.kinds j).progs c = (nth g.kinds j).progs.flatMap fun p => pathsP g.board s p c := fun c => rfl
    obtain ⟨k, hk⟩ : ∃ k, k = nth g.kinds j := ⟨_, rfl⟩
    rw [← hk] at hpn hPk hsj hcj hkl hks
    rw [hcj] at hsj
    have hcs := cellsK_succ g.board s k.progs
    have hcl := cellsK_len g.board s k.progs
    have hc0 : cellsK g.board s k.progs 0 = [] := rfl
    generalize cellsK g.board s k.progs = CK at *
    generalize kindP g.board s k.progs = KP at *
    (repeat (first|with_reducible refine wV fun _=>?_|simp [go_sem, hel, hg2]))
    refine ALoop.start (ALoop.ind (α := Nat) (fun c => ⟨[(1, .ref 0 0 9 0 0), (2, .ref 1 0 2 0 0), (3, .ref 2 0 2 0 0), (4, .v (.int .i64 s)), (5, .v (.int .i64 j)), (6, .sl 4 c 1 0 c), (7, .v (.int .i64 c))],
      [(0, .rows true 0 9 [eg]), (1, .rows true 0 2 [[AV.v (.slice none 0 0), AV.v (.slice none 0 0)]]), (2, .rows true 0 2 [rowS S0 s (.sl 3 j 1 0 j)]), (3, .rows true j 1 ((sideK g s j).map fun x => [encCells x])), (4, .rows true c 1 ((CK c).map fun x => [encPt x]))], 5⟩)
     (fun d c => c + d = C) ?_ C 0 ?_) ?_ ?_
    ·rintro d2 c c1' hrec3
     have hclc := hcl c
     (repeat (first|with_reducible refine wV fun _=>?_|simp [go_sem, hel, hg3]))
     refine aIf.mkL (fun hc => ?_) (fun hc => ?_) <;> simp at hc
     ·have hklc := hkl c
      have hcsc := hcs c
      rw [hks c] at hcsc
      have hks' : ((k.progs.flatMap fun p => pathsP g.board s p c)).length ≤ 8589934592 := by rw [← hks c]; exact hklc
      obtain ⟨R, hR⟩ : ∃ R, R = k.progs.flatMap fun p => pathsP g.board s p c := ⟨_, rfl⟩
      rw [← hR] at hcsc hks'
      (repeat (first|with_reducible refine wV fun _=>?_|simp [go_sem, hel]))
      refine ALoop.start (ALoop.ind (α := Nat × List PathD) (fun a => ⟨[(1, .ref 0 0 9 0 0), (2, .ref 1 0 2 0 0), (3, .ref 2 0 2 0 0), (4, .v (.int .i64 s)), (5, .v (.int .i64 j)), (6, .sl 4 c 1 0 c), (7, .v (.int .i64 c)), (8, .sl 5 a.1 2 0 a.2.length), (9, .v (.int .i64 a.1))],
        [(0, .rows true 0 9 [eg]), (1, .rows true 0 2 [[AV.v (.slice none 0 0), AV.v (.slice none 0 0)]]), (2, .rows true 0 2 [rowS S0 s (.sl 3 j 1 0 j)]), (3, .rows true j 1 ((sideK g s j).map fun x => [encCells x])), (4, .rows true c 1 ((CK c).map fun x => [encPt x])), (5, .rows true a.1 2 (a.2.map encPath))], 6⟩)
       (fun d a => a.1 + d = k.progs.length ∧ a.2 ++ ((k.progs.drop a.1).flatMap fun p => pathsP g.board s p c) = R) ?_ k.progs.length (0, []) ?_) ?_ ?_
      ·rintro d3 ⟨i, l⟩ ⟨i1, i2⟩ hrec4
       simp only at i1 i2
       (repeat (first|with_reducible refine wV fun _=>?_|simp [go_sem, hel, hg2, hj, ← hk]))
       refine aIf.mkL (fun hi => ?_) (fun hi => ?_) <;> simp at hi
       ·rw [dropG_cons hi, List.flatMap_cons, ← List.append_assoc] at i2
        have hlR : l.length + (pathsP g.board s (nth k.progs i) c).length ≤ 8589934592 := by
         have := hks'
         rw [← i2] at this
         simp only [List.length_append] at this
         omega
        have hPi := hPk _ (nth_mem hi) s c
        have hgo := hrec4 (d3 - 1) (by omega) (i + 1, l ++ pathsP g.board s (nth k.progs i) c) ⟨by simp only; omega, i2⟩
        simp only [List.length_append] at hgo
        generalize pathsP g.board s (nth k.progs i) c = X at *
        (repeat (first|with_reducible refine wV fun _=>?_|simp [go_sem, hel, hg1, hg2, hj, hi, ← hk]))
        refine dCall.plain hPi (by simp [go_sem, heBb]) ?_
        (repeat (first|with_reducible refine wV fun _=>?_|simp [go_sem]))
        refine ALoop.start hgo ?_ (by simp)
        simp [go_sem, Wk_eq, hbl]
        exact rowS_bel (of_eq_true (hSb0 _)) (.sl (by omega))
       ·rw [List.drop_eq_nil_of_le hi, List.flatMap_nil, List.append_nil] at i2
        subst i2
        (repeat (first|with_reducible refine wV fun _=>?_|simp [go_sem]))
        refine ALoop.start (hrec3 (d2 - 1) (by omega) (c + 1) (by omega)) ?_ (by simp)
        simp [go_sem, Wk_eq, hbl, hcsc]
        refine ⟨rowS_bel (of_eq_true (hSb0 _)) (.sl (by omega)), ?_⟩
        (first|done|exact leX)
      ·exact ⟨by simp, by rw [hR]; rfl⟩
      ·simp [go_sem, Wk_eq, hbl]
       exact rowS_bel (of_eq_true (hSb0 _)) (.sl (by omega))
      ·simp
     ·have hcC : c = C := by omega
      subst hcC
      (repeat (first|with_reducible refine wV fun _=>?_|simp [go_sem, hel, hrl, hrc, hrs, hlj]))
      refine ALoop.start (hrec2 (d - 1) (by omega) (j + 1) (by omega)) ?_ (by simp)
      simp [go_sem, Wk_eq, hbl, hsj]
      refine ⟨rowS_bel (of_eq_true (hSb0 _)) (.sl (by omega)), ?_⟩
      ((try simp only [encProg, encStep, encAct, encAs, encPath, encPt, encOut, encState, encPos, encOs, encSs, encPs, encIs, encGame, List.map_cons, List.map_nil, List.nil_append, List.append_nil, List.cons_append]); (repeat (first | (with_reducible exact LeRow.nil) | (with_reducible exact LeRows.nil) | (with_reducible exact LeV.refl _) | (with_reducible exact LeRow.refl _ _ _ _) | (with_reducible exact LeRows.refl _) | (with_reducible refine LeRow.cons ?_ ?_) | (with_reducible refine LeRows.cons ?_ ?_) | (with_reducible refine LeV.agg ?_) | (with_reducible refine LeV.tup ?_) | (with_reducible refine LeV.fn ?_ ?_) | (with_reducible exact LeV.nil _) | (with_reducible refine leRows_append (LeRows.refl _) ?_) | ((refine leV_frz rfl (by simp [hclc]) (by simp [frzO, frz1, upd, noH]) ?_); (first | (simp [go_sem, hclc]; done) | (simp [go_sem, hclc]; exact List.take_of_length_le (by simp [hclc])))) | ((refine LeV.frz rfl (by simp [hclc]) (by simp [frzO, frz1, upd, noH]) ?_); (simp only [List.drop_zero, List.take_succ_cons, List.take_zero, List.map_cons, List.map_nil])) | ((refine LeV.frzP rfl (by simp [hclc]) (by simp) (by simp [frzO, frz1, upd, noH]) ?_); (simp only [nth_zero, List.drop_zero])))))
    ·simp
    ·simp [go_sem, Wk_eq, hbl, hc0]
     exact rowS_bel (of_eq_true (hSb0 _)) (.sl (by omega))
    ·simp
   ·have hjk : j = g.kinds.length := by omega
    subst hjk
    rw [sideK_all] at *
    (repeat (first|with_reducible refine wV fun _=>?_|simp [go_sem]))
    refine ALoop.start (hrec (d0 - 1) (by omega) (s + 1) (by omega)) ?_ (by simp)
    simp [go_sem, Wk_eq, hbl]
    refine ⟨?_, ?_⟩
    ·rcases (show s = 0 ∨ s = 1 by omega) with rfl | rfl
     ·have hl0 : (sideP g 0).length = g.kinds.length := by simp [sideP]
      simp only [rowA, rowS, hS0, encSide, encCells, encPt]
      simp
      ((try simp only [encProg, encStep, encAct, encAs, encPath, encPt, encOut, encState, encPos, encOs, encSs, encPs, encIs, encGame, List.map_cons, List.map_nil, List.nil_append, List.append_nil, List.cons_append]); (repeat (first | (with_reducible exact LeRow.nil) | (with_reducible exact LeRows.nil) | (with_reducible exact LeV.refl _) | (with_reducible exact LeRow.refl _ _ _ _) | (with_reducible exact LeRows.refl _) | (with_reducible refine LeRow.cons ?_ ?_) | (with_reducible refine LeRows.cons ?_ ?_) | (with_reducible refine LeV.agg ?_) | (with_reducible refine LeV.tup ?_) | (with_reducible refine LeV.fn ?_ ?_) | (with_reducible exact LeV.nil _) | (with_reducible refine leRows_append (LeRows.refl _) ?_) | ((refine leV_frz rfl (by simp [hl0]) (by simp [frzO, frz1, upd, noH]) ?_); (first | (simp [go_sem, hl0]; done) | (simp [go_sem, hl0]; exact List.take_of_length_le (by simp [hl0])))) | ((refine LeV.frz rfl (by simp [hl0]) (by simp [frzO, frz1, upd, noH]) ?_); (simp only [List.drop_zero, List.take_succ_cons, List.take_zero, List.map_cons, List.map_nil])) | ((refine LeV.frzP rfl (by simp [hl0]) (by simp) (by simp [frzO, frz1, upd, noH]) ?_); (simp only [nth_zero, List.drop_zero])))))
     ·have hl0 : (sideP g 1).length = g.kinds.length := by simp [sideP]
      simp only [rowA, rowS, hS1, encSide, encCells, encPt]
      simp
      ((try simp only [encProg, encStep, encAct, encAs, encPath, encPt, encOut, encState, encPos, encOs, encSs, encPs, encIs, encGame, List.map_cons, List.map_nil, List.nil_append, List.append_nil, List.cons_append]); (repeat (first | (with_reducible exact LeRow.nil) | (with_reducible exact LeRows.nil) | (with_reducible exact LeV.refl _) | (with_reducible exact LeRow.refl _ _ _ _) | (with_reducible exact LeRows.refl _) | (with_reducible refine LeRow.cons ?_ ?_) | (with_reducible refine LeRows.cons ?_ ?_) | (with_reducible refine LeV.agg ?_) | (with_reducible refine LeV.tup ?_) | (with_reducible refine LeV.fn ?_ ?_) | (with_reducible exact LeV.nil _) | (with_reducible refine leRows_append (LeRows.refl _) ?_) | ((refine leV_frz rfl (by simp [hl0]) (by simp [frzO, frz1, upd, noH]) ?_); (first | (simp [go_sem, hl0]; done) | (simp [go_sem, hl0]; exact List.take_of_length_le (by simp [hl0])))) | ((refine LeV.frz rfl (by simp [hl0]) (by simp [frzO, frz1, upd, noH]) ?_); (simp only [List.drop_zero, List.take_succ_cons, List.take_zero, List.map_cons, List.map_nil])) | ((refine LeV.frzP rfl (by simp [hl0]) (by simp) (by simp [frzO, frz1, upd, noH]) ?_); (simp only [nth_zero, List.drop_zero])))))
    ·intro x hx
     unfold rowA at hx
     simp only [List.mem_cons, List.not_mem_nil, or_false] at hx
     rcases hx with rfl | rfl
     ·exact of_eq_true (hSb0 _)
     ·split
      ·exact .v _
      ·exact of_eq_true (hSb1 _)
  ·simp
  ·have h0 := sideK_zero g s
   simp [go_sem, Wk_eq, h0]
   refine ⟨of_eq_true (hbl _), rowS_le ?_, rowS_bel (of_eq_true (hSb0 _)) (.sl (by omega))⟩
   simp [go_sem]
  ·simp
 ·simp
 ·simp [go_sem, Wk_eq, hbl, rowA]
 ·simp
end Go.Av
end
section
/- The law GenMoves: its call gives true. -/
open Go Go.Proofs
namespace Go.Av
theorem SamePos_true (l : List PosD) (hl : l.length ≤ 17179869184) (hf : ∀ o ∈ l, FitsP o) : Pure Tryz.prog 60 [encPs l, encPs l] (.v (.bool true)) := by
 refine pF Tryz.func60 ?_
 (repeat (first|with_reducible refine wV fun _=>?_|simp [go_sem]))
 refine ALoop.start (ALoop.ind (α := Nat) (fun j => ⟨[(0, encPs l), (1, encPs l), (5, .v (.int .i64 j))], [], 0⟩) (fun d j => j + d = l.length) ?_ l.length 0 ?_) ?_ ?_
 ·rintro d j i1 hrec
  (repeat (first|with_reducible refine wV fun _=>?_|simp [go_sem]))
  refine aIf.mkL (fun hj => ?_) (fun hj => ?_) <;> simp at hj
  ·have hfj := hf _ (nth_mem hj)
   have hc := Compare_pure _ _ hfj hfj
   rw [cmpP_eq.2 rfl] at hc
   (repeat (first|with_reducible refine wV fun _=>?_|simp [go_sem, hj]))
   (first | refine ACallP.plain (hc) (by simp [go_sem]) ?_ | refine aGC.plain _ (fun _ => hc) (by simp [go_sem]) ?_ | ((try ((with_reducible refine wZ ?_); (try simp [go_sem]))); first | refine dCall.plain (hc) (by simp [go_sem]) ?_ | refine dGC.plain _ (fun _ => hc) (by simp [go_sem]) ?_))
   (repeat (first|with_reducible refine wV fun _=>?_|simp [go_sem, hj]))
   refine ALoop.start (hrec (d - 1) (by omega) (j + 1) (by omega)) ?_ (by simp)
   simp [go_sem, Wk_eq]
  ·(repeat (first|with_reducible refine wV fun _=>?_|simp [go_sem]))
 ·simp
 ·simp [go_sem, Wk_eq]
 ·simp
theorem codeFew_codeP {g : GameD} (hg : GOk g) (hs : OneSlide g) {p : PosD} (hp : POk g p) : CodeFew g (codeP g) p := fun i hi => by
 rw [runC_codeP hg hp (by omega) hi]
 exact runO_len hg hs hp (by omega) hi
end Go.Av
end
section
/- Contracts: act, Take and Run of the reference of chapter 8; gen.Run outside the board. -/
open Go Go.Proofs
namespace Go.Av
theorem act8_pure (g : GameD) (hg : GOk g) (s : StD) (hs : StOk g s) (x : ActD) (hx : ActOk g.cells g.kinds.length g.rights x) :
  Pure Tryz.prog 191 [.agg (encGame g), .agg (encState s), .agg (encAct x)] (encSs (actS g s x)) := by
 refine pF Tryz.func191 ?_
 have hal := hs.p.al
 have hCp := Copied_owns s.p (hs.p.fits hg)
 have hSt := fun (u : StD) (hu : StOk g u) (z : Int × Int) (hz : StepOk g.next.length g.kinds.length g.rights z) => R5Step_pure g hg u hu z hz
 obtain ⟨op, a, b⟩ := x
 unfold ActOk at hx
 unfold actS
 simp only at hx
 rcases hx with ⟨h3, h6, ha, rfl⟩ | ⟨rfl, ha, hb⟩ | ⟨rfl, ha, rfl⟩ | ⟨h9, ha, rfl⟩
 ·have hS := hSt { s with cursor := a } ⟨hs.p, ha.1, ha.2, hs.k⟩ (op, 0) ⟨⟨by simp only; omega, by simp only; omega⟩, fun h => by simp only at h; exfalso; omega, fun _ => rfl, fun h => by simp only at h; exfalso; omega, fun h => by simp only at h; exfalso; omega⟩
  rw [if_neg (by simp only; omega), if_neg (by simp only; omega)]
  have e8 : ¬ op = 8 := by omega
  have e9 : ¬ op = 9 := by omega
  have e10 : ¬ op = 10 := by omega
  have e7 : ¬ op = 7 := by omega
  generalize stepS g { s with cursor := a } (op, 0) = r at *
  (repeat (first|with_reducible refine wV fun _=>?_|simp [go_sem, e8, e9, e10, e7]))
  (first | refine ACallP.plain (hS) (by simp [go_sem]) ?_ | refine aGC.plain _ (fun _ => hS) (by simp [go_sem]) ?_ | ((try ((with_reducible refine wZ ?_); (try simp [go_sem]))); first | refine dCall.plain (hS) (by simp [go_sem]) ?_ | refine dGC.plain _ (fun _ => hS) (by simp [go_sem]) ?_))
  (repeat (first|with_reducible refine wV fun _=>?_|simp [go_sem]))
 ·rw [if_neg (by simp only; omega), if_pos rfl]
  have hal2 : a.toNat < s.p.at_.length := by omega
  have hbl2 : b.toNat < s.p.at_.length := by omega
  (repeat (first|with_reducible refine wV fun _=>?_|simp [go_sem, hal2, hbl2]))
  refine aIf.mkL (fun hA => ?_) (fun hA => ?_)
  ·have h : nth s.p.at_ a.toNat = 0 ∨ nth s.p.at_ b.toNat ≠ 0 := by simpa using hA
   rw [if_pos h]
   (repeat (first|with_reducible refine wV fun _=>?_|simp [go_sem]))
   exact frX
  ·have h : ¬ (nth s.p.at_ a.toNat = 0 ∨ nth s.p.at_ b.toNat ≠ 0) := by simpa using hA
   rw [if_neg h]
   (repeat (first|with_reducible refine wV fun _=>?_|simp [go_sem]))
   refine ACallP.ownsPlain hCp (by simp [go_sem]) ?_
   (repeat (first|with_reducible refine wV fun _=>?_|simp [go_sem, hal2, hbl2]))
   (first|done|exact dpX)
 ·have hS := hSt s hs (8, a) ⟨⟨by simp only; omega, by simp only; omega⟩, fun h => by simp only at h; exfalso; omega, fun h => by simp only at h; exfalso; omega, fun _ => ha, fun h => by simp only at h; exfalso; omega⟩
  rw [if_pos (.inl rfl)]
  generalize stepS g s (8, a) = r at *
  (repeat (first|with_reducible refine wV fun _=>?_|simp [go_sem]))
  (first | refine ACallP.plain (hS) (by simp [go_sem]) ?_ | refine aGC.plain _ (fun _ => hS) (by simp [go_sem]) ?_ | ((try ((with_reducible refine wZ ?_); (try simp [go_sem]))); first | refine dCall.plain (hS) (by simp [go_sem]) ?_ | refine dGC.plain _ (fun _ => hS) (by simp [go_sem]) ?_))
  (repeat (first|with_reducible refine wV fun _=>?_|simp [go_sem]))
 ·have hS := hSt s hs (op, a) ⟨⟨by simp only; omega, by simp only; omega⟩, fun h => by simp only at h; exfalso; omega, fun h => by simp only at h; exfalso; omega, fun h => by simp only at h; exfalso; omega, fun _ => ha⟩
  rw [if_pos (.inr h9)]
  have e8 : ¬ op = 8 := by omega
  generalize stepS g s (op, a) = r at *
  rcases h9 with rfl | rfl
  ·(repeat (first|with_reducible refine wV fun _=>?_|simp [go_sem]))
   (first | refine ACallP.plain (hS) (by simp [go_sem]) ?_ | refine aGC.plain _ (fun _ => hS) (by simp [go_sem]) ?_ | ((try ((with_reducible refine wZ ?_); (try simp [go_sem]))); first | refine dCall.plain (hS) (by simp [go_sem]) ?_ | refine dGC.plain _ (fun _ => hS) (by simp [go_sem]) ?_))
   (repeat (first|with_reducible refine wV fun _=>?_|simp [go_sem]))
  ·(repeat (first|with_reducible refine wV fun _=>?_|simp [go_sem]))
   (first | refine ACallP.plain (hS) (by simp [go_sem]) ?_ | refine aGC.plain _ (fun _ => hS) (by simp [go_sem]) ?_ | ((try ((with_reducible refine wZ ?_); (try simp [go_sem]))); first | refine dCall.plain (hS) (by simp [go_sem]) ?_ | refine dGC.plain _ (fun _ => hS) (by simp [go_sem]) ?_))
   (repeat (first|with_reducible refine wV fun _=>?_|simp [go_sem]))
theorem Take8_pure (g : GameD) (hg : GOk g) (p : PosD) (hp : POk g p) (cell : Int) (c0 : 0 ≤ cell) (c1 : cell < g.cells) (hz : nth p.at_ cell.toNat ≠ 0) (w : PathD) (hwt : 0 ≤ w.to ∧ w.to < g.cells) (hwl : w.acts.length ≤ 1048576) (hw : ∀ x ∈ w.acts, ActOk g.cells g.kinds.length g.rights x) :
  Pure Tryz.prog 128 [.agg (encGame g), .agg (encPos p), .v (.int .i64 cell), .agg (encPath w)] (encOs (takeO g p cell w)) := by
 refine pF Tryz.func128 ?_
 have hal := hp.al
 have hcl : cell.toNat < p.at_.length := by omega
 have hO := R3Of_pure (nth p.at_ cell.toNat)
 have hCp := Copied_owns p (hp.fits hg)
 have hat := hp.at (i := cell.toNat) (by omega)
 have hms : (manOf (nth p.at_ cell.toNat)).2 = 0 ∨ (manOf (nth p.at_ cell.toNat)).2 = 1 := by
  rcases manOf_cases hat.1 hat.2 hg.k6 with h | h
  ·exact absurd h.1 hz
  ·exact h.2.2.2.1
 have hok : POk g ((startT p cell).sd (manOf (nth p.at_ cell.toNat)).2).p := by
  have h := hp.clr cell
  exact ⟨h.al, h.av, h.h0, h.h1, h.r0, h.r1, hms⟩
 have hTO : takeO g p cell w = match actsS g w.acts [stT ((startT p cell).sd (manOf (nth p.at_ cell.toNat)).2) cell] with
  | [] => []
  | s :: _ => if nth s.p.at_ w.to.toNat ≠ 0 then [] else [⟨{ s.p with at_ := s.p.at_.set w.to.toNat (codeOf s.kind (manOf (nth p.at_ cell.toNat)).2), side := 1 - (manOf (nth p.at_ cell.toNat)).2 }, s.took⟩] := rfl
 rw [hTO]
 have hst0 : stT ((startT p cell).sd (manOf (nth p.at_ cell.toNat)).2) cell = ⟨⟨p.at_.set cell.toNat 0, p.h0, p.h1, p.rights, (manOf (nth p.at_ cell.toNat)).2⟩, (manOf (nth p.at_ cell.toNat)).1, cell, false⟩ := rfl
 have hinv := fun (i : Nat) => actsS_doAs hg hms (l := w.acts.take i) (t := (startT p cell).sd (manOf (nth p.at_ cell.toNat)).2) cell hok rfl (fun x hx => hw x (List.mem_of_mem_take hx))
 generalize (startT p cell).sd (manOf (nth p.at_ cell.toNat)).2 = t0 at *
 obtain ⟨mm, hmm⟩ : ∃ mm, mm = manOf (nth p.at_ cell.toNat) := ⟨_, rfl⟩
 rw [← hmm] at hO hms hst0 hinv ⊢
 obtain ⟨mk, ms⟩ := mm
 simp only at hO hms hst0 hinv ⊢
 (repeat (first|with_reducible refine wV fun _=>?_|simp [go_sem, hcl]))
 (first | refine ACallP.plain (hO) (by simp [go_sem]) ?_ | refine aGC.plain _ (fun _ => hO) (by simp [go_sem]) ?_ | ((try ((with_reducible refine wZ ?_); (try simp [go_sem]))); first | refine dCall.plain (hO) (by simp [go_sem]) ?_ | refine dGC.plain _ (fun _ => hO) (by simp [go_sem]) ?_))
 (repeat (first|with_reducible refine wV fun _=>?_|simp [go_sem, hcl]))
 refine dCall.owns 28 (by rfl) (hCp) (by decide) (by simp [go_sem]) (by simp [go_sem]) (fun _ => LeRow.refl _ _ _ _) (by simp [go_sem]) (by simp [go_sem]) ?_
 ((repeat (first|with_reducible (first|refine wL fun _=>?_|refine wD fun _=>?_|refine wZ ?_)|simp [go_sem])); refine dEnd.mkN (by kernel_rfl) ?_)
 (repeat (first|with_reducible refine wV fun _=>?_|simp [go_sem, hcl]))
 have hk0 : 0 ≤ t0.kind ∧ t0.kind < g.kinds.length := by
  have : t0.kind = mk := congrArg StD.kind hst0
  rw [this]
  rcases manOf_cases hat.1 hat.2 hg.k6 with h | h
  ·exact absurd h.1 hz
  ·rw [← hmm] at h
   exact ⟨h.2.1, h.2.2.1⟩
 obtain ⟨sS, hsS⟩ : ∃ sS : Nat → List StD, ∀ i, sS i = actsS g (w.acts.take i) [stT t0 cell] := ⟨_, fun _ => rfl⟩
 have hs0 : sS 0 = [stT t0 cell] := hsS 0
 have hsL : actsS g w.acts [stT t0 cell] = sS w.acts.length := by rw [hsS, List.take_length]
 have hss : ∀ i, i < w.acts.length → sS (i + 1) = match sS i with | [] => [] | s :: _ => actS g s (nth w.acts i) := fun i hi => by
  rw [hsS, hsS, List.take_add_one, List.getElem?_eq_getElem hi, nth_eq _ _ hi, Option.toList_some, actsS_snoc]
  rfl
 have hsE : ∀ i, sS i = [] → sS w.acts.length = [] := fun i hi => by
  rw [hsS] at hi
  rw [← hsL]
  conv => lhs; rw [← List.take_append_drop i w.acts]
  rw [actsS_append, hi, actsS_nil]
 have hsO : ∀ i, sS i = [] ∨ ∃ s, sS i = [s] ∧ StOk g s := fun i => by
  rw [hsS]
  obtain ⟨q1, q2⟩ := hinv i
  cases hd : doAs g ms t0 (w.acts.take i) with
  | none => exact .inl (q2 hd)
  | some u =>
   obtain ⟨c', r1, r2, r3, r4, r5⟩ := q1 u hd
   exact .inr ⟨_, r1, r2, (r4 ⟨c0, c1⟩).1, (r4 ⟨c0, c1⟩).2, r5 hk0⟩
 rw [hsL]
 have hsz : encSs (sS 0) = .lst 8 [[.lst 1 ((p.at_.map encI).set cell.toNat [.v (.int .i64 0)]), encIs p.h0, encIs p.h1, .v (.int .i64 p.rights), .v (.int .i64 ms), .v (.int .i64 mk), .v (.int .i64 cell), .v (.bool false)]] := by
  rw [hs0, hst0]; simp [encSs, encState, encIs, encI, List.map_set]
 clear hinv hsS hsL hTO
 refine ALoop.start (ALoop.ind (α := Nat) (fun i => ⟨[(4, .ref 0 0 9 0 0), (7, .ref 2 0 2 0 0), (9, .ref 3 0 2 0 0), (11, encSs (sS i)), (12, .v (.int .i64 i))], [(0, .rows true 0 9 [encGame g]), (2, .rows true 0 2 [encPath w]), (3, .rows true 0 2 [[.v (.int .i64 mk), .v (.int .i64 ms)]])], 141⟩)
  (fun d i => i + d = w.acts.length) ?_ w.acts.length 0 ?_) ?_ ?_
 ·rintro d i i1 hrec
  have hss := hss i
  rcases hsO i with h0 | ⟨s, h1, hsok⟩
  ·have hE := hsE i h0
   have hn1 : nth ([] : List (List AV)) 0 = [] := rfl
   have hn2 : ∀ k, cel [] k = AV.top := fun k => rfl
   rw [h0, hE]
   (repeat (first|with_reducible refine wV fun _=>?_|simp [go_sem, hn1, hn2]))
   (first|done|exact leX)
  ·have hc1 := hsok.c0
   have hwt1 := hwt.1
   rw [h1]
   (repeat (first|with_reducible refine wV fun _=>?_|simp [go_sem]))
   refine aIf.mkL (fun hi => ?_) (fun hi => ?_) <;> simp at hi
   ·rw [h1] at hss
    have hss := hss hi
    simp only at hss
    have hA := act8_pure g hg s hsok (nth w.acts i) (hw _ (nth_mem hi))
    rw [← hss] at hA
    (repeat (first|with_reducible refine wV fun _=>?_|simp [go_sem, hi]))
    (first | refine ACallP.plain (hA) (by simp [go_sem]) ?_ | refine aGC.plain _ (fun _ => hA) (by simp [go_sem]) ?_ | ((try ((with_reducible refine wZ ?_); (try simp [go_sem]))); first | refine dCall.plain (hA) (by simp [go_sem]) ?_ | refine dGC.plain _ (fun _ => hA) (by simp [go_sem]) ?_))
    (repeat (first|with_reducible refine wV fun _=>?_|simp [go_sem, hi]))
    refine ALoop.start (hrec (d - 1) (by omega) (i + 1) (by omega)) ?_ (by simp)
    simp [go_sem, Wk_eq]
   ·obtain rfl : i = w.acts.length := by omega
    rw [h1]
    simp only
    have hal2 := hsok.p.al
    have hwl2 : w.to.toNat < s.p.at_.length := by omega
    have hwl3 : w.to < s.p.at_.length := by omega
    have hCs := Copied_owns s.p (hsok.p.fits hg)
    by_cases hq : nth s.p.at_ w.to.toNat = 0
    ·have hCo := R3Code_pure s.kind ms
     rw [if_pos hq]
     (repeat (first|with_reducible refine wV fun _=>?_|simp [go_sem, hwl2, hwl3, hq]))
     refine ACallP.ownsPlain hCs (by simp [go_sem]) ?_
     (repeat (first|with_reducible refine wV fun _=>?_|simp [go_sem, hwl2, hwl3]))
     (first | refine ACallP.plain (hCo) (by simp [go_sem]) ?_ | refine aGC.plain _ (fun _ => hCo) (by simp [go_sem]) ?_ | ((try ((with_reducible refine wZ ?_); (try simp [go_sem]))); first | refine dCall.plain (hCo) (by simp [go_sem]) ?_ | refine dGC.plain _ (fun _ => hCo) (by simp [go_sem]) ?_))
     (repeat (first|with_reducible refine wV fun _=>?_|simp [go_sem, hwl2, hwl3]))
     (first|done|exact dpX)
    ·rw [if_neg hq]
     (repeat (first|with_reducible refine wV fun _=>?_|simp [go_sem, hwl2, hwl3, hq]))
     (first|done|exact leX)
 ·simp
 ·rw [hsz]
  simp [go_sem, Wk_eq]
  (first|done|exact leX)
 ·simp
theorem Run8_pure (g : GameD) (hg : GOk g) (c : CodeD) (hc : CodeOk g c) (p : PosD) (hp : POk g p) (cell : Int) :
  Pure Tryz.prog 58 [.agg (encGame g), .agg (encCode c), .agg (encPos p), .v (.int .i64 cell)] (encOs (runC g c p cell)) := by
 refine pF Tryz.func58 ?_
 have hal := hp.al
 have hle := hg.c9
 by_cases hin : 0 ≤ cell ∧ cell < g.cells
 ·have h0 : ¬ cell < 0 := by omega
  have h1 : ¬ (p.at_.length : Int) ≤ cell := by omega
  have hcl : cell.toNat < p.at_.length := by omega
  by_cases h2 : nth p.at_ cell.toNat = 0
  ·have e : runC g c p cell = [] := if_neg (by rintro ⟨_, _, h⟩; exact h h2)
   rw [e]
   (repeat (first|with_reducible refine wV fun _=>?_|simp [go_sem, h0, h1, hcl, h2]))
   (first|done|exact leX)
  ·have hR : runC g c p cell = sortU cmpO ((pathsC c (manOf (nth p.at_ cell.toNat)).2 (manOf (nth p.at_ cell.toNat)).1.toNat cell.toNat).filterMap (outW g (manOf (nth p.at_ cell.toNat)).2 (startT p cell))) := if_pos ⟨hin.1, hin.2, h2⟩
   rw [hR, ← insertO_all]
   have hat := hp.at (i := cell.toNat) (by omega)
   have hman := manOf_cases hat.1 hat.2 hg.k6
   have hO := R3Of_pure (nth p.at_ cell.toNat)
   have hT := fun (w : PathD) (hwt : 0 ≤ w.to ∧ w.to < g.cells) (hwl : w.acts.length ≤ 1048576) (hw : ∀ x ∈ w.acts, ActOk g.cells g.kinds.length g.rights x) => Take8_pure g hg p hp cell hin.1 hin.2 h2 w hwt hwl hw
   have hTe := fun (w : PathD) (hw : ∀ x ∈ w.acts, ActOk g.cells g.kinds.length g.rights x) => takeO_eq hg hp hin.1 hin.2 h2 hw
   generalize hm : manOf (nth p.at_ cell.toNat) = m at *
   obtain ⟨mk, ms⟩ := m
   simp only [Prod.mk.injEq] at hman hO hTe ⊢
   have hmk : mk.toNat < g.kinds.length := by omega
   have hms : ms = 0 ∨ ms = 1 := by omega
   rcases hms with rfl | rfl
   all_goals
    have hmc1 : mk.toNat < c.1.length := by rw [hc.l0]; exact hmk
    have hmc2 : mk.toNat < c.2.length := by rw [hc.l1]; exact hmk
    have hcc1 : cell.toNat < (nth c.1 mk.toNat).length := by have := hc.k0 _ (nth_mem hmc1); omega
    have hcc2 : cell.toNat < (nth c.2 mk.toNat).length := by have := hc.k1 _ (nth_mem hmc2); omega
    have hpo1 := hc.p0 _ (nth_mem hmc1) _ (nth_mem hcc1)
    have hpo2 := hc.p1 _ (nth_mem hmc2) _ (nth_mem hcc2)
    (repeat (first|with_reducible refine wV fun _=>?_|simp [go_sem, h0, h1, hcl, h2]))
    (first | refine ACallP.plain (hO) (by simp [go_sem]) ?_ | refine aGC.plain _ (fun _ => hO) (by simp [go_sem]) ?_ | ((try ((with_reducible refine wZ ?_); (try simp [go_sem]))); first | refine dCall.plain (hO) (by simp [go_sem]) ?_ | refine dGC.plain _ (fun _ => hO) (by simp [go_sem]) ?_))
    (repeat (first|with_reducible refine wV fun _=>?_|simp [go_sem, h0, h1, hcl, h2, hmc1, hmc2, hcc1, hcc2]))
    skip
   ·obtain ⟨pl, hpl⟩ : ∃ pl, pl = nth (nth c.1 mk.toNat) cell.toNat := ⟨_, rfl⟩
    rw [show pathsC c 0 mk.toNat cell.toNat = pl from by rw [hpl]; rfl]
    rw [← hpl] at hpo1 ⊢
    have hpo := hpo1
    obtain ⟨F, hF⟩ : ∃ F : Nat → List OutD, ∀ i, F i = ((pl.take i).filterMap (outW g 0 (startT p cell))).foldl (fun a x => insertO x a) [] := ⟨_, fun _ => rfl⟩
    have hF0 : F 0 = [] := by rw [hF]; rfl
    have hFE : ((pl.filterMap (outW g 0 (startT p cell))).foldl (fun a x => insertO x a) []) = F pl.length := by rw [hF, List.take_length]
    have hFs : ∀ i, i < pl.length → F (i + 1) = ((outW g 0 (startT p cell) (nth pl i)).toList).foldl (fun a x => insertO x a) (F i) := fun i hi => by
     rw [hF, hF, List.take_add_one, List.getElem?_eq_getElem hi, nth_eq _ _ hi, List.filterMap_append, List.foldl_append]
     simp only [Option.toList_some, List.filterMap_cons, List.filterMap_nil]
     cases outW g 0 (startT p cell) pl[i] <;> rfl
    have hfo : ∀ w ∈ pl, ∀ o, outW g 0 (startT p cell) w = some o → FitsP o.pos := fun w hw o ho => outW_fits hg (by decide) (hp.clr cell) (hpo.2 w hw).2.2 ho
    have hFl : ∀ i, (F i).length ≤ 1000000000 ∧ ∀ o ∈ F i, FitsP o.pos := fun i => by
     rw [hF]
     constructor
     ·have h1 := insF_len ((pl.take i).filterMap (outW g 0 (startT p cell))) []
      have h2 := List.length_filterMap_le (outW g 0 (startT p cell)) (pl.take i)
      have h3 : (pl.take i).length ≤ pl.length := by rw [List.length_take]; omega
      have := hpo.1
      simp only [List.length_nil] at h1
      omega
     ·refine insF_all (by simp) fun o ho => ?_
      obtain ⟨w, hw, hwo⟩ := List.mem_filterMap.1 ho
      exact hfo w (List.mem_of_mem_take hw) o hwo
    rw [hFE]
    clear hFE hF
    refine ALoop.start (ALoop.ind (α := Nat) (fun i => ⟨[(3, .v (.int .i64 cell)), (4, .ref 0 0 9 0 0), (6, .ref 2 0 5 0 0), (9, encOs (F i)), (11, encPt pl), (12, .v (.int .i64 i))], [(0, .rows true 0 9 [encGame g]), (2, .rows true 0 5 [encPos p])], 18⟩)
     (fun d i => i + d = pl.length) ?_ pl.length 0 ?_) ?_ ?_
    ·rintro d i i1 hrec
     (repeat (first|with_reducible refine wV fun _=>?_|simp [go_sem]))
     refine aIf.mkL (fun hi => ?_) (fun hi => ?_) <;> simp at hi
     ·obtain ⟨w1, w2, w3⟩ := hpo.2 _ (nth_mem hi)
      have hT := hT (nth pl i) w1 w2 w3
      have hTe := hTe (nth pl i) w3
      have hFs := hFs i hi
      have hfo := hfo _ (nth_mem hi)
      rw [← hTe] at hFs
      have hlf : ∀ o ∈ takeO g p cell (nth pl i), FitsP o.pos := fun o ho => by
       rw [hTe, Option.mem_toList] at ho
       exact hfo o ho
      have hll : (takeO g p cell (nth pl i)).length ≤ 1 := by rw [hTe]; cases outW g 0 (startT p cell) (nth pl i) <;> simp
      generalize takeO g p cell (nth pl i) = l at *
      have hgp : nth (pl.map encPath) i = encPath (nth pl i) := nth_map _ _ _ hi
      generalize nth pl i = w at *
      obtain ⟨f1, f2⟩ := hFl i
      obtain ⟨H, hH⟩ : ∃ H : Nat → List OutD, ∀ k, H k = (l.take k).foldl (fun a x => insertO x a) (F i) := ⟨_, fun _ => rfl⟩
      have hH0 : H 0 = F i := by rw [hH]; rfl
      have hHE : H l.length = F (i + 1) := by rw [hH, List.take_length, hFs]
      have hHs : ∀ k, k < l.length → H (k + 1) = insertO (nth l k) (H k) := fun k hk => by
       rw [hH, hH, List.take_add_one, List.getElem?_eq_getElem hk, nth_eq _ _ hk, List.foldl_append]; rfl
      have hHl : ∀ k, (H k).length ≤ 1000000001 ∧ ∀ o ∈ H k, FitsP o.pos := fun k => by
       rw [hH]
       constructor
       ·have h1 := insF_len (l.take k) (F i)
        have h3 : (l.take k).length ≤ l.length := by rw [List.length_take]; omega
        omega
       ·exact insF_all f2 fun o ho => hlf o (List.mem_of_mem_take ho)
      rw [← hH0]
      (repeat (first|with_reducible refine wV fun _=>?_|simp [go_sem, hi, hgp]))
      (first | refine ACallP.plain (hT) (by simp [go_sem]) ?_ | refine aGC.plain _ (fun _ => hT) (by simp [go_sem]) ?_ | ((try ((with_reducible refine wZ ?_); (try simp [go_sem]))); first | refine dCall.plain (hT) (by simp [go_sem]) ?_ | refine dGC.plain _ (fun _ => hT) (by simp [go_sem]) ?_))
      (repeat (first|with_reducible refine wV fun _=>?_|simp [go_sem, hi]))
      refine ALoop.start (ALoop.ind (α := Nat) (fun k => ⟨[(3, .v (.int .i64 cell)), (4, .ref 0 0 9 0 0), (6, .ref 2 0 5 0 0), (9, encOs (H k)), (11, encPt pl), (12, .v (.int .i64 i)), (13, encOs l), (14, .v (.int .i64 k))], [(0, .rows true 0 9 [encGame g]), (2, .rows true 0 5 [encPos p])], 26⟩)
       (fun d k => k + d = l.length) ?_ l.length 0 ?_) ?_ ?_
      ·rintro d2 k k1 hrec2
       (repeat (first|with_reducible refine wV fun _=>?_|simp [go_sem]))
       refine aIf.mkL (fun hk => ?_) (fun hk => ?_) <;> simp at hk
       ·obtain ⟨q1, q2⟩ := hHl k
        have hI := R5Insert_pure (H k) (nth l k) (by omega) q2 (hlf _ (nth_mem hk))
        rw [← hHs k hk] at hI
        have hgo : nth (l.map encOut) k = encOut (nth l k) := nth_map _ _ _ hk
        (repeat (first|with_reducible refine wV fun _=>?_|simp [go_sem, hk, hgo]))
        (first | refine ACallP.plain (hI) (by simp [go_sem]) ?_ | refine aGC.plain _ (fun _ => hI) (by simp [go_sem]) ?_ | ((try ((with_reducible refine wZ ?_); (try simp [go_sem]))); first | refine dCall.plain (hI) (by simp [go_sem]) ?_ | refine dGC.plain _ (fun _ => hI) (by simp [go_sem]) ?_))
        (repeat (first|with_reducible refine wV fun _=>?_|simp [go_sem, hk, hgo]))
        refine ALoop.start (hrec2 (d2 - 1) (by omega) (k + 1) (by omega)) ?_ (by simp)
        simp [go_sem, Wk_eq]
       ·obtain rfl : k = l.length := by omega
        (repeat (first|with_reducible refine wV fun _=>?_|simp [go_sem]))
        refine ALoop.start (hrec (d - 1) (by omega) (i + 1) (by omega)) ?_ (by simp)
        simp [go_sem, Wk_eq, hHE]
      ·simp
      ·simp [go_sem, Wk_eq]
      ·simp
     ·obtain rfl : i = pl.length := by omega
      (repeat (first|with_reducible refine wV fun _=>?_|simp [go_sem]))
    ·simp
    ·simp [go_sem, Wk_eq, hF0]
     (first|done|exact leX)
    ·simp
   ·obtain ⟨pl, hpl⟩ : ∃ pl, pl = nth (nth c.2 mk.toNat) cell.toNat := ⟨_, rfl⟩
    rw [show pathsC c 1 mk.toNat cell.toNat = pl from by rw [hpl]; rfl]
    rw [← hpl] at hpo2 ⊢
    have hpo := hpo2
    obtain ⟨F, hF⟩ : ∃ F : Nat → List OutD, ∀ i, F i = ((pl.take i).filterMap (outW g 1 (startT p cell))).foldl (fun a x => insertO x a) [] := ⟨_, fun _ => rfl⟩
    have hF0 : F 0 = [] := by rw [hF]; rfl
    have hFE : ((pl.filterMap (outW g 1 (startT p cell))).foldl (fun a x => insertO x a) []) = F pl.length := by rw [hF, List.take_length]
    have hFs : ∀ i, i < pl.length → F (i + 1) = ((outW g 1 (startT p cell) (nth pl i)).toList).foldl (fun a x => insertO x a) (F i) := fun i hi => by
     rw [hF, hF, List.take_add_one, List.getElem?_eq_getElem hi, nth_eq _ _ hi, List.filterMap_append, List.foldl_append]
     simp only [Option.toList_some, List.filterMap_cons, List.filterMap_nil]
     cases outW g 1 (startT p cell) pl[i] <;> rfl
    have hfo : ∀ w ∈ pl, ∀ o, outW g 1 (startT p cell) w = some o → FitsP o.pos := fun w hw o ho => outW_fits hg (by decide) (hp.clr cell) (hpo.2 w hw).2.2 ho
    have hFl : ∀ i, (F i).length ≤ 1000000000 ∧ ∀ o ∈ F i, FitsP o.pos := fun i => by
     rw [hF]
     constructor
     ·have h1 := insF_len ((pl.take i).filterMap (outW g 1 (startT p cell))) []
      have h2 := List.length_filterMap_le (outW g 1 (startT p cell)) (pl.take i)
      have h3 : (pl.take i).length ≤ pl.length := by rw [List.length_take]; omega
      have := hpo.1
      simp only [List.length_nil] at h1
      omega
     ·refine insF_all (by simp) fun o ho => ?_
      obtain ⟨w, hw, hwo⟩ := List.mem_filterMap.1 ho
      exact hfo w (List.mem_of_mem_take hw) o hwo
    rw [hFE]
    clear hFE hF
    refine ALoop.start (ALoop.ind (α := Nat) (fun i => ⟨[(3, .v (.int .i64 cell)), (4, .ref 0 0 9 0 0), (6, .ref 2 0 5 0 0), (9, encOs (F i)), (11, encPt pl), (12, .v (.int .i64 i))], [(0, .rows true 0 9 [encGame g]), (2, .rows true 0 5 [encPos p])], 18⟩)
     (fun d i => i + d = pl.length) ?_ pl.length 0 ?_) ?_ ?_
    ·rintro d i i1 hrec
     (repeat (first|with_reducible refine wV fun _=>?_|simp [go_sem]))
     refine aIf.mkL (fun hi => ?_) (fun hi => ?_) <;> simp at hi
     ·obtain ⟨w1, w2, w3⟩ := hpo.2 _ (nth_mem hi)
      have hT := hT (nth pl i) w1 w2 w3
      have hTe := hTe (nth pl i) w3
      have hFs := hFs i hi
      have hfo := hfo _ (nth_mem hi)
      rw [← hTe] at hFs
      have hlf : ∀ o ∈ takeO g p cell (nth pl i), FitsP o.pos := fun o ho => by
       rw [hTe, Option.mem_toList] at ho
       exact hfo o ho
      have hll : (takeO g p cell (nth pl i)).length ≤ 1 := by rw [hTe]; cases outW g 1 (startT p cell) (nth pl i) <;> simp
      generalize takeO g p cell (nth pl i) = l at *
      have hgp : nth (pl.map encPath) i = encPath (nth pl i) := nth_map _ _ _ hi
      generalize nth pl i = w at *
      obtain ⟨f1, f2⟩ := hFl i
      obtain ⟨H, hH⟩ : ∃ H : Nat → List OutD, ∀ k, H k = (l.take k).foldl (fun a x => insertO x a) (F i) := ⟨_, fun _ => rfl⟩
      have hH0 : H 0 = F i := by rw [hH]; rfl
      have hHE : H l.length = F (i + 1) := by rw [hH, List.take_length, hFs]
      have hHs : ∀ k, k < l.length → H (k + 1) = insertO (nth l k) (H k) := fun k hk => by
       rw [hH, hH, List.take_add_one, List.getElem?_eq_getElem hk, nth_eq _ _ hk, List.foldl_append]; rfl
      have hHl : ∀ k, (H k).length ≤ 1000000001 ∧ ∀ o ∈ H k, FitsP o.pos := fun k => by
       rw [hH]
       constructor
       ·have h1 := insF_len (l.take k) (F i)
        have h3 : (l.take k).length ≤ l.length := by rw [List.length_take]; omega
        omega
       ·exact insF_all f2 fun o ho => hlf o (List.mem_of_mem_take ho)
      rw [← hH0]
      (repeat (first|with_reducible refine wV fun _=>?_|simp [go_sem, hi, hgp]))
      (first | refine ACallP.plain (hT) (by simp [go_sem]) ?_ | refine aGC.plain _ (fun _ => hT) (by simp [go_sem]) ?_ | ((try ((with_reducible refine wZ ?_); (try simp [go_sem]))); first | refine dCall.plain (hT) (by simp [go_sem]) ?_ | refine dGC.plain _ (fun _ => hT) (by simp [go_sem]) ?_))
      (repeat (first|with_reducible refine wV fun _=>?_|simp [go_sem, hi]))
      refine ALoop.start (ALoop.ind (α := Nat) (fun k => ⟨[(3, .v (.int .i64 cell)), (4, .ref 0 0 9 0 0), (6, .ref 2 0 5 0 0), (9, encOs (H k)), (11, encPt pl), (12, .v (.int .i64 i)), (13, encOs l), (14, .v (.int .i64 k))], [(0, .rows true 0 9 [encGame g]), (2, .rows true 0 5 [encPos p])], 26⟩)
       (fun d k => k + d = l.length) ?_ l.length 0 ?_) ?_ ?_
      ·rintro d2 k k1 hrec2
       (repeat (first|with_reducible refine wV fun _=>?_|simp [go_sem]))
       refine aIf.mkL (fun hk => ?_) (fun hk => ?_) <;> simp at hk
       ·obtain ⟨q1, q2⟩ := hHl k
        have hI := R5Insert_pure (H k) (nth l k) (by omega) q2 (hlf _ (nth_mem hk))
        rw [← hHs k hk] at hI
        have hgo : nth (l.map encOut) k = encOut (nth l k) := nth_map _ _ _ hk
        (repeat (first|with_reducible refine wV fun _=>?_|simp [go_sem, hk, hgo]))
        (first | refine ACallP.plain (hI) (by simp [go_sem]) ?_ | refine aGC.plain _ (fun _ => hI) (by simp [go_sem]) ?_ | ((try ((with_reducible refine wZ ?_); (try simp [go_sem]))); first | refine dCall.plain (hI) (by simp [go_sem]) ?_ | refine dGC.plain _ (fun _ => hI) (by simp [go_sem]) ?_))
        (repeat (first|with_reducible refine wV fun _=>?_|simp [go_sem, hk, hgo]))
        refine ALoop.start (hrec2 (d2 - 1) (by omega) (k + 1) (by omega)) ?_ (by simp)
        simp [go_sem, Wk_eq]
       ·obtain rfl : k = l.length := by omega
        (repeat (first|with_reducible refine wV fun _=>?_|simp [go_sem]))
        refine ALoop.start (hrec (d - 1) (by omega) (i + 1) (by omega)) ?_ (by simp)
        simp [go_sem, Wk_eq, hHE]
      ·simp
      ·simp [go_sem, Wk_eq]
      ·simp
     ·obtain rfl : i = pl.length := by omega
      (repeat (first|with_reducible refine wV fun _=>?_|simp [go_sem]))
    ·simp
    ·simp [go_sem, Wk_eq, hF0]
     (first|done|exact leX)
    ·simp
 ·have e : runC g c p cell = [] := if_neg (fun h => hin ⟨h.1, h.2.1⟩)
  rw [e]
  by_cases h0 : cell < 0
  ·have hz0 : cell.toNat = 0 := by omega
   have hl0 : 0 < p.at_.length := by have := hg.c1; omega
   (repeat (first|with_reducible refine wV fun _=>?_|simp [go_sem, h0, hz0, hl0]))
   (first|done|exact leX)
  ·have h1 : (p.at_.length : Int) ≤ cell := by omega
   have hnn : nth (p.at_.map encI) cell.toNat = [] := by
    unfold nth
    rw [List.getD_eq_getElem?_getD, List.getElem?_eq_none (by simp; omega)]
    rfl
   have hn2 : ∀ k, cel [] k = AV.top := fun k => rfl
   (repeat (first|with_reducible refine wV fun _=>?_|simp [go_sem, h0, h1, hnn, hn2]))
   (first|done|exact leX)
end Go.Av
end
