/- Texts of ours, part 12: contracts and facts for this claim. -/
import Derived.Test.YtedhfmmlhfmomaaGreatDoorB12
import Derived.Test.YtedhfmmlhfmomaaGreatDoorSMx10
set_option linter.unusedSimpArgs false
set_option linter.unusedVariables false
set_option maxRecDepth 100000
set_option maxHeartbeats 40000000
section
open Go Go.Proofs
namespace Go.Av
theorem zpj {g : zac} (h : zb8 g) : zb8 (zcB g) := by
 have e : (zcB g).kinds.map (·.name) = g.kinds.map (·.name) := by simp [zcB, zgs]
 unfold zb8
 rw [e]; exact h
theorem zit {g : zac} (h : zb8 g) (w : Int) : zb8 (zdz g w) := zpj h
theorem zkc (x : zir) : zb8 (zdd x) := by
 unfold zb8 zdd zcV
 split
 ·left; rfl
 ·right; rfl
def zlE (v : Int) (ic i : Nat) : Int := if v ≠ 0 ∧ ic < i then 1 else 0
theorem zvD (v : Int) (ic : Nat) : zlE v ic 0 = 0 := by unfold zlE; rw [if_neg (by omega)]
theorem zrb {g : zac} (hg : GOk g) {p : zal} (hp : POk g p) : ∃ ic : Nat → Nat, ∀ c : Nat, (c : Int) < g.cells → ic c < (zaW (ofG g) p).length ∧
  ∀ i, i < (zaW (ofG g) p).length → nth (nth (zaW (ofG g) p) i).at_ c = if i = ic c then nth p.at_ c else 0 := by
 have hcl := zet hg
 have ho := zzA hg
 have hlen := (zhx hp (ofG g)).len
 have hal := hp.al
 have h : ∀ c : Nat, ∃ k : Nat, (c : Int) < g.cells → k < (zaW (ofG g) p).length ∧ ∀ i, i < (zaW (ofG g) p).length → nth (nth (zaW (ofG g) p) i).at_ c = if i = k then nth p.at_ c else 0 := by
  intro c
  by_cases hc : (c : Int) < g.cells
  ·have hc' : c < (ofG g).length := by omega
   obtain ⟨k, hk, e⟩ := ho.idx hc'
   refine ⟨k, fun _ => ⟨by omega, fun i hi => ?_⟩⟩
   have hi' : i < (zaO (ofG g) (ofG g).length).length := by omega
   rw [zes hi']
   show nth (zeU (ofG g) p.at_ _ p.at_.length) c = _
   rw [zhu _ _ _ (by omega)]
   by_cases hik : i = k
   ·subst hik; rw [if_pos e, if_pos rfl]
   ·rw [if_neg hik, if_neg]
    intro e'
    exact hik (zht (zdX _ _) hi' hk (e'.symm.trans e))
  ·exact ⟨0, fun h => absurd h hc⟩
 exact ⟨fun c => (h c).choose, fun c => (h c).choose_spec⟩
theorem ziE (g : zac) (hg : GOk g) (p : zal) (hp : POk g p) : zaJ Tryz.prog 19 [.agg (zad g), zaV (zaW (ofG g) p), .agg (zag p)] (.v (.bool true)) := by
 refine pF Tryz.func19 ?_
 have hV := fun (p : zal) (hp : POk g p) => zpZ g (by have := hg.k6; unfold zhG; omega) ⟨hg.r0, by have := hg.r4; omega⟩ p (hp.fits hg)
 have hPP := zhx hp (ofG g)
 obtain ⟨ic, hic⟩ := zrb hg hp
 have hal := hp.al
 have hnl := zkl hg
 have h9 := hg.c9
 have hLl : (zaW (ofG g) p).length ≤ 9 := by have := hPP.len; unfold nmG at hnl; omega
 have hok := hPP.ok
 have hsd := hPP.sd
 have hpok : ∀ p : zal, POk g p → zkx g p = true := fun p hp => zq8.2 hp
 have hgb : ∀ n, (∀ c ∈ zad g, Bel n c) = True := fun n => by simp [go_sem]
 clear hPP
 generalize zaW (ofG g) p = L at *
 obtain ⟨eg, heg⟩ : ∃ eg, eg = zad g := ⟨_, rfl⟩
 have hel : eg.length = 9 := by rw [heg]; rfl
 rw [← heg] at hV hgb ⊢
 clear heg
 have hLal := fun q hq => (hok q hq).al
 repeat first|refine wV fun _=>?_|simp [go_sem, hel]
 refine zBh (zBk (α := Nat) (fun i => ⟨[(1, zaV L), (3, .ref 0 0 9 0 0), (5, .ref 1 0 5 0 0), (7, .v (.int .i64 i))], [(0, .rows true 0 9 [eg]), (1, .rows true 0 5 [zag p])], 2⟩)
  (fun d i => i + d = L.length) ?_ L.length 0 ?_) ?_ ?_
 ·rintro d i i1 hrec
  repeat first|refine wV fun _=>?_|simp [go_sem]
  refine zBj (fun hi => ?_) (fun hi => ?_) <;> simp at hi
  ·have hm := zah hi
   have hVi := hV _ (hok _ hm)
   rw [hpok _ (hok _ hm)] at hVi
   have hsi := hsd _ hm
   repeat first|refine wV fun _=>?_|simp [go_sem, hi, hel]
   refine zBl hVi (by simp [go_sem, hgb]) ?_
   repeat first|refine wV fun _=>?_|simp [go_sem, hi, hel, hsi]
   refine zBh (hrec (d - 1) (by omega) (i + 1) (by omega)) ?_ (by simp)
   simp [go_sem, zaf]
   exact of_eq_true (hgb 2)
  ·clear hrec
   repeat first|refine wV fun _=>?_|simp [go_sem]
   refine zBh (zBk (α := Nat) (fun c => ⟨[(1, zaV L), (5, .ref 1 0 5 0 0), (8, .v (.int .i64 c))], [(1, .rows true 0 5 [zag p])], 2⟩)
    (fun d c => c + d = p.at_.length) ?_ p.at_.length 0 ?_) ?_ ?_
   ·rintro d c c1 hrec
    repeat first|refine wV fun _=>?_|simp [go_sem]
    refine zBj (fun hc => ?_) (fun hc => ?_) <;> simp at hc
    ·obtain ⟨hic1, hic2⟩ := hic c (by omega)
     generalize hv : nth p.at_ c = v at *
     generalize ic c = k at *
     have hz := zvD v k
     repeat first|refine wV fun _=>?_|simp [go_sem, hc]
     refine zBh (zBk (α := Nat) (fun i => ⟨[(1, zaV L), (5, .ref 1 0 5 0 0), (8, .v (.int .i64 c)), (9, .v (.int .i64 (zlE v k i))), (10, .v (.int .i64 i))], [(1, .rows true 0 5 [zag p])], 2⟩)
      (fun d i => i + d = L.length) ?_ L.length 0 ?_) ?_ ?_
     ·rintro d2 i i2 hrec2
      have hcb : 0 ≤ zlE v k i ∧ zlE v k i ≤ 1 := by unfold zlE; split <;> omega
      repeat first|refine wV fun _=>?_|simp [go_sem]
      refine zBj (fun hi2 => ?_) (fun hi2 => ?_) <;> simp at hi2
      ·have hLi := hLal _ (zah hi2)
       have hca : c < (nth L i).at_.length := by omega
       have hat := hic2 i hi2
       by_cases hik : i = k
       ·rw [if_pos hik] at hat
        by_cases hv0 : v = 0
        ·have hcc : zlE v k (i + 1) = zlE v k i := by unfold zlE; rw [if_neg (by omega), if_neg (by omega)]
         repeat first|refine wV fun _=>?_|simp [go_sem, hi2, hca, hat, hv0, hc, hv]
         refine zBh (hrec2 (d2 - 1) (by omega) (i + 1) (by omega)) ?_ (by simp)
         rw [hv0] at hcc
         simp [go_sem, zaf, hcc, hv0]
        ·have hcc : zlE v k (i + 1) = zlE v k i + 1 := by unfold zlE; rw [if_pos (by omega), if_neg (by omega)]; rfl
         repeat first|refine wV fun _=>?_|simp [go_sem, hi2, hca, hat, hv0, hc, hv]
         refine zBh (hrec2 (d2 - 1) (by omega) (i + 1) (by omega)) ?_ (by simp)
         simp [go_sem, zaf, hcc]
       ·rw [if_neg hik] at hat
        have hcc : zlE v k (i + 1) = zlE v k i := by
         unfold zlE
         by_cases h : v ≠ 0 ∧ k < i
         ·rw [if_pos h, if_pos ⟨h.1, by omega⟩]
         ·rw [if_neg h, if_neg (by omega)]
        repeat first|refine wV fun _=>?_|simp [go_sem, hi2, hca, hat, hc, hv]
        refine zBh (hrec2 (d2 - 1) (by omega) (i + 1) (by omega)) ?_ (by simp)
        simp [go_sem, zaf, hcc]
      ·have hil : i = L.length := by omega
       have hgt : ¬ (1 : Int) < zlE v k i := by omega
       repeat first|refine wV fun _=>?_|simp [go_sem, hc, hv, hgt]
       refine zBj (fun hx => ?_) (fun hx => ?_)
       ·exfalso
        by_cases h : v = 0
        ·have e : zlE v k i = 0 := by unfold zlE; rw [if_neg (by omega)]
         rw [h] at e
         simp [h] at hx
         omega
        ·have e : zlE v k i = 1 := by unfold zlE; rw [if_pos ⟨h, by omega⟩]
         simp [e, h] at hx
       ·repeat first|refine wV fun _=>?_|simp [go_sem]
        refine zBh (hrec (d - 1) (by omega) (c + 1) (by omega)) ?_ (by simp)
        simp [go_sem, zaf]
     ·simp
     ·simp [go_sem, zaf, hz]
     ·simp
    ·repeat first|refine wV fun _=>?_|simp [go_sem]
   ·simp
   ·simp [go_sem, zaf]
   ·simp
 ·simp
 ·simp [go_sem, zaf]
  exact of_eq_true (hgb 2)
 ·simp
theorem zdP (x : zir) (hx : zsE x) (hl : x.c.length ≤ 1099511627776) (hl0 : x.k0.length ≤ 1099511627776) (hl1 : x.k1.length ≤ 1099511627776) (y : ziO) (hy : ze6 y) (w : Int) (hw : U8 w) :
  zaJ Tryz.prog 5 [.agg (zb0 x), .agg (zbp y), .v (.int .u8 w)] (.v (.bool true)) := by
 refine pF Tryz.func5 ?_
 have hSan := ze2
 have hG := zgy x hx hl hl0 hl1
 have hmg := zns hx
 have hA := zeE _ hmg _ hw
 have hg := zjB hmg w
 have hn := zit (zkc x) w
 have hs := zfp (zgK x) w
 have hnb := zfE (zdd x) w
 have hbl : (zdz (zdd x) w).blocked = 3 := rfl
 generalize zdz (zdd x) w = g at *
 have hR := regG hg
 have hN := znw hnb
 have hsm := zfN _ hg hs
 have hM0 := zgz _ hg y hy
 have hp := zf1 hg hy
 generalize zd7 g y = p at *
 have hS := zeY _ hg hn _ hp
 rw [hnb] at hS
 simp only [if_true] at hS
 have hPp := ziE g hg p hp
 have hnl := zkl hg
 have hl := zhx hp (ofG g)
 have hln := hl.len
 have hll : (zaW (ofG g) p).length ≤ 9 := by unfold nmG at hnl; omega
 have hSt := fun (i : Nat) (hi : i < (zaW (ofG g) p).length) => zjs g hg _ (hl.ok _ (zah hi))
 have hSp := zjs g hg p hp
 obtain ⟨ho1, ho2⟩ := zt3 hR hN hp
 rw [hbl] at ho2
 have has := fun i (hi : i < (zaW (ofG g) p).length) => zn5 (g := g) hi
 have ha0 : zgD g (zaW (ofG g) p) 0 = true := rfl
 have hgb : ∀ n, (∀ c ∈ zad g, Bel n c) = True := fun n => by simp [go_sem]
 have hgb0 : ∀ n, (∀ c ∈ zad (zdd x), Bel n c) = True := fun n => by simp [go_sem]
 have hel : (zad g).length = 9 := rfl
 obtain ⟨ry0, _, _, _, _, _, rb0⟩ := zmj hy
 have hrl : (zb0 x).length = 12 := rfl
 have hrb : ∀ n, (∀ c ∈ zb0 x, Bel n c) = True := fun n => by simp [go_sem]
 generalize zbp y = e0 at *
 generalize zb0 x = er at *
 generalize zad (zdd x) = eg0 at *
 clear hl hx hmg hR hN
 generalize zgD g (zaW (ofG g) p) = aO at *
 generalize zdm g = sv at *
 generalize zaW (ofG g) p = l at *
 obtain ⟨eg, heg⟩ : ∃ eg, eg = zad g := ⟨_, rfl⟩
 rw [← heg] at hA hsm hM0 hS hPp hgb hel hSp
 simp only [← heg] at hSt
 clear heg
 repeat first|refine wV fun _=>?_|simp [go_sem, hrl, ry0]
 refine zBi hSan (by simp [go_sem]) ?_
 repeat first|refine wV fun _=>?_|simp [go_sem, hrl, ry0]
 refine zBi hG (by simp [go_sem, hrb]) ?_
 repeat first|refine wV fun _=>?_|simp [go_sem, hrl, ry0]
 refine zBi hA (by simp [go_sem, hgb0]) ?_
 repeat first|refine wV fun _=>?_|simp [go_sem, hrl, ry0, hel]
 refine zBi hsm (by simp [go_sem, hgb]) ?_
 repeat first|refine wV fun _=>?_|simp [go_sem, hel]
 refine zBj (fun h3 => ?_) (fun h3 => ?_)
 ·repeat first|refine wV fun _=>?_|simp [go_sem]
 ·repeat first|refine wV fun _=>?_|simp [go_sem, hel, ry0]
  refine zBi hM0 (by simp [go_sem, hgb, rb0]) ?_
  repeat first|refine wV fun _=>?_|simp [go_sem, hel]
  refine zBi hS (by simp [go_sem, hgb]) ?_
  repeat first|refine wV fun _=>?_|simp [go_sem, hel]
  refine zBw _ (fun _ => hPp) (by simp [go_sem, hgb]) ?_
  repeat first|refine wV fun _=>?_|simp [go_sem, hel]
  refine zBh (zBk (α := Nat) (fun i => ⟨[(7, .v (.bool true)), (8, .ref 2 0 9 0 0), (9, .ref 3 0 5 0 0), (10, zaV l), (12, .v (.bool (aO i))), (13, .v (.int .i64 i))], [(2, .rows true 0 9 [eg]), (3, .rows true 0 5 [zag p])], 4⟩)
   (fun d i => i + d = l.length) ?_ l.length 0 ?_) ?_ ?_
  ·rintro d i i1 hrec
   repeat first|refine wV fun _=>?_|simp [go_sem, hel]
   refine zBj (fun hi => ?_) (fun hi => ?_) <;> simp at hi
   ·have hgi := zcb zag l i hi
    have hSt := hSt i hi
    have has := has i hi
    generalize nth l i = q at *
    generalize sv q = z at *
    obtain ⟨z1, z2⟩ := z
    simp only at has
    repeat first|refine wV fun _=>?_|simp [go_sem, hel, hi, hgi]
    refine zBl hSt (by simp [go_sem, hgb]) ?_
    repeat first|refine wV fun _=>?_|simp [go_sem, hel]
    refine zBh (hrec (d - 1) (by omega) (i + 1) (by omega)) ?_ (by simp)
    rw [has]
    cases aO i <;> cases z2 <;> simp [go_sem, zaf, hgb]
   ·obtain rfl : i = l.length := by omega
    repeat first|refine wV fun _=>?_|simp [go_sem, hel]
    refine zBi hSp (by simp [go_sem, hgb]) ?_
    rw [← ho1]
    generalize sv p = z at *
    obtain ⟨z1, z2⟩ := z
    simp only at ho2
    cases z2
    ·repeat first|refine wV fun _=>?_|simp [go_sem, hel]
    ·have ho2 := ho2 rfl
     subst ho2
     repeat first|refine wV fun _=>?_|simp [go_sem, hel]
  ·omega
  ·simp [go_sem, zaf, hgb, ha0]
  ·simp
end Go.Av
end
