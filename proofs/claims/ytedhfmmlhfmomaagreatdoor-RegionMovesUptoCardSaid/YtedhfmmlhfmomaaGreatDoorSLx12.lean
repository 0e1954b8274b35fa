/- Texts of ours, part 12: contracts and facts for this claim. -/
import Derived.Test.YtedhfmmlhfmomaaGreatDoorB12
import Derived.Test.YtedhfmmlhfmomaaGreatDoorSLx10
set_option linter.unusedSimpArgs false
set_option linter.unusedVariables false
set_option maxRecDepth 100000
set_option maxHeartbeats 40000000
section
open Go Go.Proofs
namespace Go.Av
theorem zpj {g : zac} (h : zb8 g) : zb8 (zcB g) := by
 have e : (zcB g).kinds.map (·.name) = g.kinds.map (·.name) := by simp [zcB, zgs]
 unfold zb8
 rw [e]; exact h
theorem zit {g : zac} (h : zb8 g) (w : Int) : zb8 (zdz g w) := zpj h
theorem zkc (x : zir) : zb8 (zdd x) := by
 unfold zb8 zdd zcV
 split
 ·left; rfl
 ·right; rfl
def zlE (v : Int) (ic i : Nat) : Int := if v ≠ 0 ∧ ic < i then 1 else 0
theorem zvD (v : Int) (ic : Nat) : zlE v ic 0 = 0 := by unfold zlE; rw [if_neg (by omega)]
theorem zrb {g : zac} (hg : GOk g) {p : zal} (hp : POk g p) : ∃ ic : Nat → Nat, ∀ c : Nat, (c : Int) < g.cells → ic c < (zaW (ofG g) p).length ∧
  ∀ i, i < (zaW (ofG g) p).length → nth (nth (zaW (ofG g) p) i).at_ c = if i = ic c then nth p.at_ c else 0 := by
 have hcl := zet hg
 have ho := zzA hg
 have hlen := (zhx hp (ofG g)).len
 have hal := hp.al
 have h : ∀ c : Nat, ∃ k : Nat, (c : Int) < g.cells → k < (zaW (ofG g) p).length ∧ ∀ i, i < (zaW (ofG g) p).length → nth (nth (zaW (ofG g) p) i).at_ c = if i = k then nth p.at_ c else 0 := by
  intro c
  by_cases hc : (c : Int) < g.cells
  ·have hc' : c < (ofG g).length := by omega
   obtain ⟨k, hk, e⟩ := ho.idx hc'
   refine ⟨k, fun _ => ⟨by omega, fun i hi => ?_⟩⟩
   have hi' : i < (zaO (ofG g) (ofG g).length).length := by omega
   rw [zes hi']
   show nth (zeU (ofG g) p.at_ _ p.at_.length) c = _
   rw [zhu _ _ _ (by omega)]
   by_cases hik : i = k
   ·subst hik; rw [if_pos e, if_pos rfl]
   ·rw [if_neg hik, if_neg]
    intro e'
    exact hik (zht (zdX _ _) hi' hk (e'.symm.trans e))
  ·exact ⟨0, fun h => absurd h hc⟩
 exact ⟨fun c => (h c).choose, fun c => (h c).choose_spec⟩
theorem ziE (g : zac) (hg : GOk g) (p : zal) (hp : POk g p) : zaJ Tryz.prog 19 [.agg (zad g), zaV (zaW (ofG g) p), .agg (zag p)] (.v (.bool true)) := by
 refine pF Tryz.func19 ?_
 have hV := fun (p : zal) (hp : POk g p) => zpZ g (by have := hg.k6; unfold zhG; omega) ⟨hg.r0, by have := hg.r4; omega⟩ p (hp.fits hg)
 have hPP := zhx hp (ofG g)
 obtain ⟨ic, hic⟩ := zrb hg hp
 have hal := hp.al
 have hnl := zkl hg
 have h9 := hg.c9
 have hLl : (zaW (ofG g) p).length ≤ 9 := by have := hPP.len; unfold nmG at hnl; omega
 have hok := hPP.ok
 have hsd := hPP.sd
 have hpok : ∀ p : zal, POk g p → zkx g p = true := fun p hp => zq8.2 hp
 have hgb : ∀ n, (∀ c ∈ zad g, Bel n c) = True := fun n => by simp [go_sem]
 clear hPP
 generalize zaW (ofG g) p = L at *
 obtain ⟨eg, heg⟩ : ∃ eg, eg = zad g := ⟨_, rfl⟩
 have hel : eg.length = 9 := by rw [heg]; rfl
 rw [← heg] at hV hgb ⊢
 clear heg
 have hLal := fun q hq => (hok q hq).al
 repeat first|refine wV fun _=>?_|simp [go_sem, hel]
 refine zBh (zBk (α := Nat) (fun i => ⟨[(1, zaV L), (3, .ref 0 0 9 0 0), (5, .ref 1 0 5 0 0), (7, .v (.int .i64 i))], [(0, .rows true 0 9 [eg]), (1, .rows true 0 5 [zag p])], 2⟩)
  (fun d i => i + d = L.length) ?_ L.length 0 ?_) ?_ ?_
 ·rintro d i i1 hrec
  repeat first|refine wV fun _=>?_|simp [go_sem]
  refine zBj (fun hi => ?_) (fun hi => ?_) <;> simp at hi
  ·have hm := zah hi
   have hVi := hV _ (hok _ hm)
   rw [hpok _ (hok _ hm)] at hVi
   have hsi := hsd _ hm
   repeat first|refine wV fun _=>?_|simp [go_sem, hi, hel]
   refine zBl hVi (by simp [go_sem, hgb]) ?_
   repeat first|refine wV fun _=>?_|simp [go_sem, hi, hel, hsi]
   refine zBh (hrec (d - 1) (by omega) (i + 1) (by omega)) ?_ (by simp)
   simp [go_sem, zaf]
   exact of_eq_true (hgb 2)
  ·clear hrec
   repeat first|refine wV fun _=>?_|simp [go_sem]
   refine zBh (zBk (α := Nat) (fun c => ⟨[(1, zaV L), (5, .ref 1 0 5 0 0), (8, .v (.int .i64 c))], [(1, .rows true 0 5 [zag p])], 2⟩)
    (fun d c => c + d = p.at_.length) ?_ p.at_.length 0 ?_) ?_ ?_
   ·rintro d c c1 hrec
    repeat first|refine wV fun _=>?_|simp [go_sem]
    refine zBj (fun hc => ?_) (fun hc => ?_) <;> simp at hc
    ·obtain ⟨hic1, hic2⟩ := hic c (by omega)
     generalize hv : nth p.at_ c = v at *
     generalize ic c = k at *
     have hz := zvD v k
     repeat first|refine wV fun _=>?_|simp [go_sem, hc]
     refine zBh (zBk (α := Nat) (fun i => ⟨[(1, zaV L), (5, .ref 1 0 5 0 0), (8, .v (.int .i64 c)), (9, .v (.int .i64 (zlE v k i))), (10, .v (.int .i64 i))], [(1, .rows true 0 5 [zag p])], 2⟩)
      (fun d i => i + d = L.length) ?_ L.length 0 ?_) ?_ ?_
     ·rintro d2 i i2 hrec2
      have hcb : 0 ≤ zlE v k i ∧ zlE v k i ≤ 1 := by unfold zlE; split <;> omega
      repeat first|refine wV fun _=>?_|simp [go_sem]
      refine zBj (fun hi2 => ?_) (fun hi2 => ?_) <;> simp at hi2
      ·have hLi := hLal _ (zah hi2)
       have hca : c < (nth L i).at_.length := by omega
       have hat := hic2 i hi2
       by_cases hik : i = k
       ·rw [if_pos hik] at hat
        by_cases hv0 : v = 0
        ·have hcc : zlE v k (i + 1) = zlE v k i := by unfold zlE; rw [if_neg (by omega), if_neg (by omega)]
         repeat first|refine wV fun _=>?_|simp [go_sem, hi2, hca, hat, hv0, hc, hv]
         refine zBh (hrec2 (d2 - 1) (by omega) (i + 1) (by omega)) ?_ (by simp)
         rw [hv0] at hcc
         simp [go_sem, zaf, hcc, hv0]
        ·have hcc : zlE v k (i + 1) = zlE v k i + 1 := by unfold zlE; rw [if_pos (by omega), if_neg (by omega)]; rfl
         repeat first|refine wV fun _=>?_|simp [go_sem, hi2, hca, hat, hv0, hc, hv]
         refine zBh (hrec2 (d2 - 1) (by omega) (i + 1) (by omega)) ?_ (by simp)
         simp [go_sem, zaf, hcc]
       ·rw [if_neg hik] at hat
        have hcc : zlE v k (i + 1) = zlE v k i := by
         unfold zlE
         by_cases h : v ≠ 0 ∧ k < i
         ·rw [if_pos h, if_pos ⟨h.1, by omega⟩]
         ·rw [if_neg h, if_neg (by omega)]
        repeat first|refine wV fun _=>?_|simp [go_sem, hi2, hca, hat, hc, hv]
        refine zBh (hrec2 (d2 - 1) (by omega) (i + 1) (by omega)) ?_ (by simp)
        simp [go_sem, zaf, hcc]
      ·have hil : i = L.length := by omega
       have hgt : ¬ (1 : Int) < zlE v k i := by omega
       repeat first|refine wV fun _=>?_|simp [go_sem, hc, hv, hgt]
       refine zBj (fun hx => ?_) (fun hx => ?_)
       ·exfalso
        by_cases h : v = 0
        ·have e : zlE v k i = 0 := by unfold zlE; rw [if_neg (by omega)]
         rw [h] at e
         simp [h] at hx
         omega
        ·have e : zlE v k i = 1 := by unfold zlE; rw [if_pos ⟨h, by omega⟩]
         simp [e, h] at hx
       ·repeat first|refine wV fun _=>?_|simp [go_sem]
        refine zBh (hrec (d - 1) (by omega) (c + 1) (by omega)) ?_ (by simp)
        simp [go_sem, zaf]
     ·simp
     ·simp [go_sem, zaf, hz]
     ·simp
    ·repeat first|refine wV fun _=>?_|simp [go_sem]
   ·simp
   ·simp [go_sem, zaf]
   ·simp
 ·simp
 ·simp [go_sem, zaf]
  exact of_eq_true (hgb 2)
 ·simp
theorem zvv {n j : Nat} {l : List zal} : (∀ x ∈ List.take j (l.map zag), ∀ c ∈ x, Bel n c) = True := eq_true fun x hx c hc => by
 obtain ⟨q, _, rfl⟩ := List.mem_map.1 (List.mem_of_mem_take hx)
 have : ∀ c ∈ zag q, Bel n c := by simp [go_sem]
 exact this c hc
theorem ze7 (x : zir) (hx : zsE x) (hl : x.c.length ≤ 1099511627776) (hl0 : x.k0.length ≤ 1099511627776) (hl1 : x.k1.length ≤ 1099511627776) (y : ziO) (hy : ze6 y) (w : Int) (hw : U8 w) :
  zaJ Tryz.prog 3 [.agg (zb0 x), .agg (zbp y), .v (.int .u8 w)] (.v (.bool true)) := by
 refine pF Tryz.func3 ?_
 have hSan := ze2
 have hG := zgy x hx hl hl0 hl1
 have hmg := zns hx
 have hA := zeE _ hmg _ hw
 have hg := zjB hmg w
 have hn := zit (zkc x) w
 have hs := zfp (zgK x) w
 have hnb := zfE (zdd x) w
 generalize zdz (zdd x) w = g at *
 have hR := regG hg
 have hN := znw hnb
 have hsm := zfN _ hg hs
 have hM0 := zgz _ hg y hy
 have hp := zf1 hg hy
 generalize zd7 g y = p at *
 have hS := zeY _ hg hn _ hp
 rw [hnb] at hS
 simp only [if_true] at hS
 have hPp := ziE g hg p hp
 have hnl := zkl hg
 have hl := zhx hp (ofG g)
 have hln := hl.len
 have hll : (zaW (ofG g) p).length ≤ 9 := by unfold nmG at hnl; omega
 have hpi : ∀ i, i < (zaW (ofG g) p).length → nth (zaW (ofG g) p) i = zid g p i := fun i hi => zes (by omega)
 have hM := fun (i : Nat) (hi : i < (zaW (ofG g) p).length) => zef g hg _ (hl.ok _ (zah hi))
 have hMp := zef g hg p hp
 have hml : ∀ i, (zaN g (zid g p i)).length ≤ 472446 := fun i => zc1 hg (zci hp _ _)
 have hmpl := zc1 hg hp
 have hjk := fun i (hi : i ≤ 9) k => zqP hg hp hi k
 have hjs := fun i k (hk : k < (zaN g (zid g p i)).length) => zoY g p i hk
 have hja := fun i => zqO g p i
 have hj0 := fun i => zoZ g p i
 have hJ : ∀ i, i < (zaW (ofG g) p).length → ∀ m ∈ zaN g (zid g p i), zaJ Tryz.prog 21 [.agg (zad g), zaV (zb2 (ofG g) p i m)] (.tup [.agg (zag (zoW g p i m)), .v (.int .i64 0)]) := fun i hi m hm => by
  have hno := zkk hR hN hp (i := i) (by omega) hm
  have h1 := zig g hg hn _ hno.ok (by rw [hno.len]; omega)
  have hjo : zeq g (zb2 (ofG g) p i m) = true := by
   unfold zeq nmG
   rw [hnb, hno.okJ]
   simp [hno.len]
  have hjr : zeP g (zb2 (ofG g) p i m) = zoW g p i m := by unfold zeP; rw [hjo, if_pos rfl]; rfl
  rw [hjo, hjr] at h1
  simpa using h1
 have hnt : ∀ i m j, j < (zaW (ofG g) p).length → (zb2 (ofG g) p i m).take (j + 1) = (zb2 (ofG g) p i m).take j ++ [if i = j then m else zdN (nth (zaW (ofG g) p) j)] := fun i m j hj => zq4 (by omega)
 have hnn : ∀ i m, (zb2 (ofG g) p i m).length = (zaW (ofG g) p).length := fun i m => by rw [zdw]; omega
 have hall := zqN g p
 rw [← hln] at hall
 have hok := ztL hR hN hp (i := (zaW (ofG g) p).length) (by omega)
 rw [hall] at hok
 have hjl : (zh7 g p).length ≤ 10 * 472446 := by rw [← hall, ← hj0]; exact hjk _ (by omega) 0
 have hSo := zgA (zh7 g p) (by omega) (fun q hq => (hok q hq).fits hg)
 rw [znq hR hN hp] at hSo
 have hfm := fun m hm => ((zcN hg hp) m hm).1.fits hg
 have hLs := zhI (zaN g p) (zaN g p) (by omega) (by omega) hfm hfm
 rw [show ∀ z : List zal, decide (z = z) = true from fun z => decide_eq_true rfl] at hLs
 have hsd : ∀ i, i < (zaW (ofG g) p).length → (nth (zaW (ofG g) p) i).side = 0 ∨ (nth (zaW (ofG g) p) i).side = 1 := fun i hi => (hl.ok _ (zah hi)).s
 have hgb : ∀ n, (∀ c ∈ zad g, Bel n c) = True := fun n => by simp [go_sem]
 have hgb0 : ∀ n, (∀ c ∈ zad (zdd x), Bel n c) = True := fun n => by simp [go_sem]
 have hel : (zad g).length = 9 := rfl
 obtain ⟨ry0, _, _, _, _, _, rb0⟩ := zmj hy
 have hrl : (zb0 x).length = 12 := rfl
 have hrb : ∀ n, (∀ c ∈ zb0 x, Bel n c) = True := fun n => by simp [go_sem]
 generalize zbp y = e0 at *
 generalize zb0 x = er at *
 generalize zad (zdd x) = eg0 at *
 clear hl hx hmg hok hR hN hfm
 have hz0 : zdG g p 0 0 = [] := rfl
 generalize zh7 g p = jl at *
 generalize zaN g p = mp at *
 generalize zid g p = pn at *
 generalize zfB g p = jI at *
 generalize zdG g p = jK at *
 generalize zoW g p = jM at *
 generalize zb2 (ofG g) p = nx at *
 generalize zaW (ofG g) p = l at *
 generalize hmv : (fun i => zaN g (pn i)) = mv at *
 replace hmv : ∀ i, zaN g (pn i) = mv i := fun i => by rw [← hmv]
 obtain ⟨eg, heg⟩ : ∃ eg, eg = zad g := ⟨_, rfl⟩
 rw [← heg] at hA hsm hM0 hS hPp hgb hel hMp
 simp only [← heg] at hM hJ
 clear heg
 repeat first|refine wV fun _=>?_|simp [go_sem, hrl, ry0]
 refine zBi hSan (by simp [go_sem]) ?_
 repeat first|refine wV fun _=>?_|simp [go_sem, hrl, ry0]
 refine zBi hG (by simp [go_sem, hrb]) ?_
 repeat first|refine wV fun _=>?_|simp [go_sem, hrl, ry0]
 refine zBi hA (by simp [go_sem, hgb0]) ?_
 repeat first|refine wV fun _=>?_|simp [go_sem, hrl, ry0, hel]
 refine zBi hsm (by simp [go_sem, hgb]) ?_
 repeat first|refine wV fun _=>?_|simp [go_sem, hel]
 refine zBj (fun h3 => ?_) (fun h3 => ?_)
 ·repeat first|refine wV fun _=>?_|simp [go_sem]
 ·repeat first|refine wV fun _=>?_|simp [go_sem, hel, ry0]
  refine zBi hM0 (by simp [go_sem, hgb, rb0]) ?_
  repeat first|refine wV fun _=>?_|simp [go_sem, hel]
  refine zBi hS (by simp [go_sem, hgb]) ?_
  repeat first|refine wV fun _=>?_|simp [go_sem, hel]
  refine zBw _ (fun _ => hPp) (by simp [go_sem, hgb]) ?_
  repeat first|refine wV fun _=>?_|simp [go_sem, hel]
  simp only [hmv] at hml hjs hja hJ
  refine zBh (zBk (α := Nat) (fun i => ⟨[(7, .v (.bool true)), (8, .ref 2 0 9 0 0), (9, .ref 3 0 5 0 0), (10, zaV l), (12, .sl 4 (jI i).length 5 0 (jI i).length), (13, .v (.int .i64 i))], [(2, .rows true 0 9 [eg]), (3, .rows true 0 5 [zag p]), (4, .rows true (jI i).length 5 ((jI i).map zag))], 5⟩)
   (fun d i => i + d = l.length) ?_ l.length 0 ?_) ?_ ?_
  ·rintro d i i1 hrec
   repeat first|refine wV fun _=>?_|simp [go_sem, hel]
   refine zBj (fun hi => ?_) (fun hi => ?_) <;> simp at hi
   ·have hgi := zcb zag l i hi
    have hMi := hM i hi
    rw [show zaN g (nth l i) = mv i by rw [hpi i hi, hmv]] at hMi
    clear hpi hM
    have hJ := hJ i hi
    have hjs := hjs i
    have hja := hja i
    have hjk := hjk i (by omega)
    have hnt := hnt i
    have hnn := hnn i
    have hml := hml i
    have hj0 := hj0 i
    generalize hmi : mv i = mi at *
    repeat first|refine wV fun _=>?_|simp [go_sem, hel, hi, hgi]
    refine zBl hMi (by simp [go_sem, hgb]) ?_
    repeat first|refine wV fun _=>?_|simp [go_sem, hel]
    refine zBh (zBk (α := Nat) (fun k => ⟨[(7, .v (.bool true)), (8, .ref 2 0 9 0 0), (9, .ref 3 0 5 0 0), (10, zaV l), (12, .sl 4 (jK i k).length 5 0 (jK i k).length), (13, .v (.int .i64 i)), (14, zaV mi), (15, .v (.int .i64 k))], [(2, .rows true 0 9 [eg]), (3, .rows true 0 5 [zag p]), (4, .rows true (jK i k).length 5 ((jK i k).map zag))], 5⟩)
     (fun d k => k + d = mi.length) ?_ mi.length 0 ?_) ?_ ?_
    ·rintro d2 k k1 hrec2
     repeat first|refine wV fun _=>?_|simp [go_sem, hel]
     refine zBj (fun hk => ?_) (fun hk => ?_) <;> simp at hk
     ·have hgk := zcb zag mi k hk
      have hJ := hJ _ (zah hk)
      have hjs := hjs k hk
      have hjk := hjk k
      generalize nth mi k = m at *
      have hnt := hnt m
      have hnn := hnn m
      generalize nx i m = ns at *
      have hbt := fun n j => zvv (n := n) (j := j) (l := ns)
      repeat first|refine wV fun _=>?_|simp [go_sem, hel]
      refine zBh (zBk (α := Nat) (fun j => ⟨[(7, .v (.bool true)), (8, .ref 2 0 9 0 0), (9, .ref 3 0 5 0 0), (10, zaV l), (12, .sl 4 (jK i k).length 5 0 (jK i k).length), (13, .v (.int .i64 i)), (14, zaV mi), (15, .v (.int .i64 k)), (16, .sl 5 j 5 0 j), (17, .v (.int .i64 j))], [(2, .rows true 0 9 [eg]), (3, .rows true 0 5 [zag p]), (4, .rows true (jK i k).length 5 ((jK i k).map zag)), (5, .rows true j 5 ((ns.take j).map zag))], 6⟩)
       (fun d j => j + d = l.length) ?_ l.length 0 ?_) ?_ ?_
      ·rintro d3 j j1 hrec3
       repeat first|refine wV fun _=>?_|simp [go_sem, hel]
       refine zBj (fun hj => ?_) (fun hj => ?_) <;> simp at hj
       ·have hgj := zcb zag l j hj
        have hnt := hnt j hj
        have hsj := hsd j hj
        have hsj1 : -9223372036854775808 ≤ 1 - (nth l j).side ∧ 1 - (nth l j).side ≤ 9223372036854775807 := by omega
        have htl : (ns.take j).length = j := by rw [List.length_take]; omega
        generalize nth l j = q at *
        have hnt2 : List.take (j + 1) (ns.map zag) = List.take j (ns.map zag) ++ [zag (if i = j then m else zdN q)] := by rw [← List.map_take, hnt, List.map_append, List.map_take]; rfl
        by_cases hij : i = j
        ·rw [if_pos hij] at hnt2
         subst hij
         repeat first|refine wV fun _=>?_|simp [go_sem, hel, hj, hgj, hk, hgk]
         refine zBh (hrec3 (d3 - 1) (by omega) (i + 1) (by omega)) ?_ (by simp)
         simp [go_sem, zaf, hgb, hnt2, hbt]
        ·rw [if_neg hij] at hnt2
         have hij2 : ¬ (j : Int) = (i : Int) := by omega
         repeat first|refine wV fun _=>?_|simp [go_sem, hel, hj, hgj, hij2, hk, hgk]
         refine zBh (hrec3 (d3 - 1) (by omega) (j + 1) (by omega)) ?_ (by simp)
         simp [go_sem, zaf, hgb, hnt2, zdN, hbt]
       ·obtain rfl : j = l.length := by omega
        have htn : List.take l.length (ns.map zag) = ns.map zag := List.take_of_length_le (by simp; omega)
        repeat first|refine wV fun _=>?_|simp [go_sem, hel, htn]
        have hnl : l.length = ns.length := hnn.symm
        simp only [hnl]
        refine zBp [5] hJ ?_ (by simp [go_sem, hgb]) ?_
        ·(first|done|exact agX)
        repeat first|refine wV fun _=>?_|simp [go_sem, hel]
        refine zBh (hrec2 (d2 - 1) (by omega) (k + 1) (by omega)) ?_ (by simp)
        simp [go_sem, zaf, hgb, hjs]
      ·omega
      ·simp [go_sem, zaf, hgb]
      ·simp
     ·obtain rfl : k = mi.length := by omega
      repeat first|refine wV fun _=>?_|simp [go_sem, hel]
      refine zBh (hrec (d - 1) (by omega) (i + 1) (by omega)) ?_ (by simp)
      simp [go_sem, zaf, hgb, hja]
    ·omega
    ·simp [go_sem, zaf, hgb, hj0]
    ·simp
   ·obtain rfl : i = l.length := by omega
    (repeat (first|with_reducible (first|refine wL fun _=>?_|refine wD fun _=>?_|refine wE ?_)|simp [go_sem, hel, hall]))
    refine zsP.frz (zbB _ [4]) (zc5 _ _) ?_
    repeat first|refine wV fun _=>?_|simp [go_sem, hel]
    refine dGC.frz [zaV jl] _ [4] [] hSo (by simp) ?_ (by simp [go_sem]) ?_
    ·intro h₁ hS
     have h4 := (hS 4 (by simp)).symm
     clear hS
     simp [upd, zbB, zb5] at h4
     ((try simp only [zaq, zaE, zbt, zcG, zaw, zbm, zaM, zar, zag, zdC, zbz, zaV, zaj, zad, List.map_cons, List.map_nil, List.nil_append, List.append_nil, List.cons_append]); (repeat (first | (with_reducible first|exact zam.nil|exact zak.nil|exact LeV.refl _|exact zam.refl _ _ _ _|exact zak.refl _|refine zam.cons ?_ ?_|refine zak.cons ?_ ?_|refine LeV.agg ?_|refine LeV.tup ?_|refine LeV.fn ?_ ?_|exact LeV.nil _|refine zao (zak.refl _) ?_) | ((refine zaL (by first | rfl | assumption) (by simp [h4]) (by simp [zbB, zb5, upd, noH, zai, h4]) ?_); (first | (simp [go_sem, h4]; done) | (simp [go_sem, h4]; exact List.take_of_length_le (by simp [h4])))) | ((refine LeV.frz (by first | rfl | assumption) (by simp [h4]) (by simp [zbB, zb5, upd, noH, zai, h4]) ?_); (simp only [List.drop_zero, List.take_succ_cons, List.take_zero, List.map_cons, List.map_nil])) | ((refine LeV.frzP (by first | rfl | assumption) (by simp [h4]) (by simp) (by simp [zbB, zb5, upd, noH, zai, h4]) ?_); (simp only [zbe, List.drop_zero])))))
    repeat first|refine wV fun _=>?_|simp [go_sem, hel]
    refine zBt _ (fun _ => hMp) (by simp [go_sem, hgb]) ?_
    repeat first|refine wV fun _=>?_|simp [go_sem, hel]
    refine zBt _ (fun _ => hLs) (by simp [go_sem]) ?_
    repeat first|refine wV fun _=>?_|simp [go_sem, hel]
  ·omega
  ·have hI0 : jI 0 = [] := by rw [← hj0]; exact hz0
   simp [go_sem, zaf, hgb, hI0]
  ·simp
end Go.Av
end
