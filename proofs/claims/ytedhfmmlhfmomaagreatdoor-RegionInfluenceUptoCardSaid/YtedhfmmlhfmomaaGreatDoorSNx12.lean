/- Texts of ours, part 12: contracts and facts for this claim. -/
import Derived.Test.YtedhfmmlhfmomaaGreatDoorB12
import Derived.Test.YtedhfmmlhfmomaaGreatDoorSNx10
set_option linter.unusedSimpArgs false
set_option linter.unusedVariables false
set_option maxRecDepth 100000
set_option maxHeartbeats 40000000
section
open Go Go.Proofs Go.Av
namespace Go.Av
open Go.Proofs.YtedhfmmlhfmomaaGreatDoor
theorem zr4 : Opn Tryz.prog 1048576 UpB 58 (fun y : ziO × ziO => zbp y.1 ++ zbp y.2) (fun y => ze6 y.1 ∧ ze6 y.2) := by
 have hA : Opn Tryz.prog 1048576 UpB 58 (fun l : List ziO => (l.map zbp).flatten) (fun l => l.length = 2 ∧ ∀ x ∈ l, ze6 x) :=
  Opn.array (sz := 18) (n := 2) znK.upto Tryz.underlying58 (by kernel_rfl) (by kernel_rfl) zpd
 intro H enc w fuel cs d ps k1 k2
 obtain ⟨x, r1, r2, r3, h1, h2⟩ := hA enc w fuel cs d ps k1 k2
 match x, h1 with
 | [a, b], _ =>
  simp only [List.map_cons, List.map_nil, List.flatten_cons, List.flatten_nil, List.append_nil] at r1
  exact ⟨(a, b), r1, r2, r3, h2 a (by simp), h2 b (by simp)⟩
end Go.Av
end
section
open Go Go.Proofs
namespace Go.Av
def zwU (n : Nat) (p : zal) : AV := .agg [.sl (n + 6) 0 1 0 p.at_.length, .sl (n + 21) 0 1 0 p.h0.length, .sl (n + 22) 0 1 0 p.h1.length, .v (.int .i64 p.rights), .v (.int .i64 p.side)]
def zr6 (n : Nat) (p : zal) : List (Nat × zbi) := [(n + 6, .rows true 0 1 (p.at_.map zbd)), (n + 21, .rows true 0 1 (p.h0.map zbd)), (n + 22, .rows true 0 1 (p.h1.map zbd))]
attribute [go_sem] zwU zr6
theorem zpY (g : zac) (hg : GOk g) (x : ziO) (hx : ze6 x) : zlt Tryz.prog 17 [.agg (zad g), .agg (zbp x)] (fun n => zwU n (zd7 g x)) (fun n => zr6 n (zd7 g x)) 23 := by
 refine ⟨zBm (by kernel_rfl) Tryz.func17 rfl rfl (Nat.le_of_ble_eq_true rfl) (by kernel_rfl) ?_, fun n => ⟨by simp [go_sem], by simp [go_sem]⟩⟩
 obtain ⟨q, hq⟩ : ∃ q, q = zd7 g x := ⟨_, rfl⟩
 have hrow := zmj hx
 obtain ⟨er, her⟩ : ∃ er, er = zbp x := ⟨_, rfl⟩
 rw [← hq, ← her]
 rw [← her] at hrow
 obtain ⟨rl, rc, rk, rh, rr, rs, rb⟩ := hrow
 have c1 := hg.c1
 have c9 := hg.c9
 have k1 := hg.k1
 have k6 := hg.k6
 have hr0 := hg.r0
 have hr4 := hg.r4
 obtain ⟨gc, hgc⟩ : ∃ gc : Nat, g.cells = gc := ⟨g.cells.toNat, by omega⟩
 have hpow : (1 : Int) ≤ 2 ^ g.rights.toNat ∧ (2 : Int) ^ g.rights.toNat ≤ 16 := by
  rcases (show g.rights.toNat = 0 ∨ g.rights.toNat = 1 ∨ g.rights.toNat = 2 ∨ g.rights.toNat = 3 ∨ g.rights.toNat = 4 by omega) with h | h | h | h | h <;> rw [h] <;> decide
 have hrt := hx.r
 have hsd := hx.s
 obtain ⟨rt, hrt'⟩ : ∃ rt, x.rights = rt := ⟨_, rfl⟩
 obtain ⟨pw, hpw⟩ : ∃ pw : Int, (2 : Int) ^ g.rights.toNat = pw := ⟨_, rfl⟩
 have r1 : 0 ≤ x.rights ∧ x.rights ≤ 255 := hx.r
 have s1 : 0 ≤ x.side ∧ x.side ≤ 255 := hx.s
 have s0 := Int.tmod_nonneg 2 s1.1
 have s2 := Int.tmod_lt_of_pos x.side (show (0 : Int) < 2 by decide)
 rw [hpw] at hpow
 generalize heg : zad g = eg at *
 have hel : eg.length = 9 := by rw [← heg]; rfl
 have hbl : ∀ n, (∀ c' ∈ eg, Bel n c') = True := fun n => by rw [← heg]; simp [go_sem]
 have e0 : cel eg 0 = .v (.int .i64 g.cells) := by rw [← heg]; rfl
 have e3 : cel eg 3 = .lst 3 (g.kinds.map zay) := by rw [← heg]; rfl
 have e4 : cel eg 4 = .v (.int .i64 g.rights) := by rw [← heg]; rfl
 repeat first|refine wV fun _=>?_|simp [go_sem, hel, e0, e3, e4, rl, rr, rs, rb, hbl, hpw]
 have hcz : g.cells.toNat = gc := by omega
 have hkne : g.kinds ≠ [] := by intro h; rw [h] at k1; simp at k1
 have hz : List.replicate gc [AV.v (.int .i64 0)] = (zcq g x 0).map zbd := by simp [zcq, hcz, zbd]
 refine zBh (zBk (α := Nat) (fun i => ⟨[(2, .ref 0 0 9 0 0), (3, .ref 1 0 18 0 0), (4, .ref 2 0 5 0 0), (5, .ref 19 0 5 0 0), (6, .v (.int .i64 i))], [(0, .rows true 0 9 [eg]), (1, .rows true 0 18 [er]), (2, .rows true 0 5 [[zBo, zBo, zBo, .v (.int .i64 0), .v (.int .i64 0)]]), (6, .rows true 0 1 ((zcq g x i).map zbd)), (19, .rows true 0 5 [[.sl 6 0 1 0 gc, zBo, zBo, .v (.int .i64 (x.rights.tmod pw)), .v (.int .i64 (x.side.tmod 2))]])], 21⟩)
  (fun d i => i + d = 6) ?_ 6 0 ?_) ?_ ?_
 ·rintro d i i1 hrec
  repeat first|refine wV fun _=>?_|simp [go_sem]
  refine zBj (fun hi => ?_) (fun hi => ?_) <;> simp at hi
  ·have hci := hx.cv _ (zah (l := x.cell) (i := i) (by rw [hx.c6]; omega))
   have hki := hx.kv _ (zah (l := x.kind) (i := i) (by rw [hx.k6]; omega))
   have hci' : 0 ≤ nth x.cell i ∧ nth x.cell i ≤ 255 := hci
   have hki' : 0 ≤ nth x.kind i ∧ nth x.kind i ≤ 255 := hki
   have m0 := Int.tmod_nonneg (g.cells + 1) hci'.1
   have m1 := Int.tmod_nonneg (g.kinds.length : Int) hki'.1
   have m2 := Int.tmod_lt_of_pos (nth x.kind i) (show (0 : Int) < g.kinds.length by omega)
   have m3 := Int.tmod_nonneg 2 (show (0 : Int) ≤ i by omega)
   have m4 := Int.tmod_lt_of_pos (i : Int) (show (0 : Int) < 2 by decide)
   have hrc := rc i (by omega)
   have hrk := rk i (by omega)
   have hsu := zeS g x i
   have hal := zer g x i
   rw [hcz] at hal
   unfold zjD at hsu
   repeat first|refine wV fun _=>?_|simp [go_sem, hel, e0, e3, e4, hrc, hrk]
   refine zBj (fun hc => ?_) (fun hc => ?_) <;> simp at hc
   ·have hc1 := hc.1
    rw [if_pos hc1] at hsu
    repeat first|refine wV fun _=>?_|simp [go_sem, hel, e0, e3, e4, hrc, hrk, hal]
    refine zBh (hrec (d - 1) (by omega) (i + 1) (by omega)) ?_ (by simp)
    simp [go_sem, zaf, hsu, rb, hbl]
   ·have hc1 : ¬ (nth x.cell i).tmod (g.cells + 1) < g.cells := fun h => hkne (hc h)
    rw [if_neg hc1] at hsu
    repeat first|refine wV fun _=>?_|simp [go_sem, hel, e0, e3, e4, hrc, hrk]
    refine zBh (hrec (d - 1) (by omega) (i + 1) (by omega)) ?_ (by simp)
    simp [go_sem, zaf, hsu, rb, hbl]
  ·obtain rfl : i = 6 := by omega
   have hal := zer g x 6
   rw [hcz] at hal
   have hqe : q = ⟨zcq g x 6, zdc g x 0 (min g.kinds.length 2), zdc g x 1 (min g.kinds.length 2), x.rights.tmod pw, x.side.tmod 2⟩ := by rw [hq, ← hpw]; rfl
   clear hq
   have hq := hqe
   repeat first|refine wV fun _=>?_|simp [go_sem, hel, e0, e3, e4]
   refine zBn ?_
   repeat first|refine wV fun _=>?_|simp [go_sem, hel, e0, e3, e4]
   have hz0 := zf0 g x 0
   refine zBh (zBk (α := Nat) (fun k => ⟨[(2, .ref 0 0 9 0 0), (3, .ref 1 0 18 0 0), (4, .ref 2 0 5 0 0), (5, .ref 19 0 5 0 0), (8, .v (.int .i64 0)), (9, .v (.int .i64 k))], [(0, .rows true 0 9 [eg]), (1, .rows true 0 18 [er]), (2, .rows true 0 5 [[zBo, zBo, zBo, .v (.int .i64 0), .v (.int .i64 0)]]), (6, .rows true 0 1 ((zcq g x 6).map zbd)), (19, .rows true 0 5 [[.sl 6 0 1 0 gc, .sl 21 0 1 0 g.kinds.length, zBo, .v (.int .i64 (x.rights.tmod pw)), .v (.int .i64 (x.side.tmod 2))]]), (21, .rows true 0 1 ((zdc g x 0 k).map zbd))], 22⟩)
    (fun d k => k + d = min g.kinds.length 2) ?_ (min g.kinds.length 2) 0 ?_) ?_ ?_
   ·rintro d k j1 hrec0
    repeat first|refine wV fun _=>?_|simp [go_sem, hel, e0, e3, e4]
    refine zBj (fun hj => ?_) (fun hj => ?_) <;> simp at hj
    ·have hk2 : k < 2 := by omega
     have hkk : k < g.kinds.length := by omega
     have hhv := hx.hv _ (zah (l := x.hand) (i := 2 * 0 + k) (by rw [hx.h4]; omega))
     have hh1 : 0 ≤ nth x.hand (2 * 0 + k) ∧ nth x.hand (2 * 0 + k) ≤ 255 := hhv
     have hrh := rh (2 * 0 + k) (by omega)
     have m0 := Int.tmod_nonneg 3 hh1.1
     have hsu := zfZ g x 0 k
     have hsk := zfY g x 0 k
     have hhl := zbT g x 0 k
     have hV : znl g x 0 k = if (nth g.kinds k).keep = true then (if 250 < nth x.hand (2 * 0 + k) then 8 else (nth x.hand (2 * 0 + k)).tmod 3) else 0 := rfl
     simp only [Nat.mul_zero, Nat.zero_add, Nat.mul_one] at hrh hh1 m0 hV
     repeat first|refine wV fun _=>?_|simp [go_sem, hel, e0, e3, e4, hkk]
     refine zBj (fun hkeep => ?_) (fun hkeep => ?_)
     ·rw [if_pos hkeep] at hV
      have eI : ((k : Int)).toNat = k := by omega
      have eI2 : (k : Int) < 4 := by omega
      repeat first|refine wV fun _=>?_|simp [go_sem, hel, e0, e3, e4, hkk, hrh, hhl, eI, eI2]
      refine zBj (fun hbig => ?_) (fun hbig => ?_) <;> simp at hbig
      ·rw [if_pos hbig] at hV
       rw [hV] at hsu
       repeat first|refine wV fun _=>?_|simp [go_sem, hel, e0, e3, e4, hkk, hrh, hhl]
       refine zBh (hrec0 (d - 1) (by omega) (k + 1) (by omega)) ?_ (by simp)
       simp [go_sem, zaf, hsu, rb, hbl]
      ·rw [if_neg (by omega)] at hV
       rw [hV] at hsu
       repeat first|refine wV fun _=>?_|simp [go_sem, hel, e0, e3, e4, hkk, hrh, hhl]
       refine zBh (hrec0 (d - 1) (by omega) (k + 1) (by omega)) ?_ (by simp)
       simp [go_sem, zaf, hsu, rb, hbl]
     ·rw [if_neg (by simpa using hkeep)] at hV
      have hsk' := hsk hV
      repeat first|refine wV fun _=>?_|simp [go_sem, hel, e0, e3, e4]
      refine zBh (hrec0 (d - 1) (by omega) (k + 1) (by omega)) ?_ (by simp)
      simp [go_sem, zaf, hsk', rb, hbl]
    ·have hkm : k = min g.kinds.length 2 := by omega
     subst hkm
     repeat first|refine wV fun _=>?_|simp [go_sem, hel, e0, e3, e4]
     refine zBn ?_
     repeat first|refine wV fun _=>?_|simp [go_sem, hel, e0, e3, e4]
     have hz1 := zf0 g x 1
     refine zBh (zBk (α := Nat) (fun k => ⟨[(2, .ref 0 0 9 0 0), (3, .ref 1 0 18 0 0), (4, .ref 2 0 5 0 0), (5, .ref 19 0 5 0 0), (8, .v (.int .i64 1)), (9, .v (.int .i64 k))], [(0, .rows true 0 9 [eg]), (1, .rows true 0 18 [er]), (2, .rows true 0 5 [[zBo, zBo, zBo, .v (.int .i64 0), .v (.int .i64 0)]]), (6, .rows true 0 1 ((zcq g x 6).map zbd)), (19, .rows true 0 5 [[.sl 6 0 1 0 gc, .sl 21 0 1 0 g.kinds.length, .sl 22 0 1 0 g.kinds.length, .v (.int .i64 (x.rights.tmod pw)), .v (.int .i64 (x.side.tmod 2))]]), (21, .rows true 0 1 ((zdc g x 0 (min g.kinds.length 2)).map zbd)), (22, .rows true 0 1 ((zdc g x 1 k).map zbd))], 23⟩)
      (fun d k => k + d = min g.kinds.length 2) ?_ (min g.kinds.length 2) 0 ?_) ?_ ?_
     ·rintro d k j1 hrec1
      repeat first|refine wV fun _=>?_|simp [go_sem, hel, e0, e3, e4]
      refine zBj (fun hj => ?_) (fun hj => ?_) <;> simp at hj
      ·have hk2 : k < 2 := by omega
       have hkk : k < g.kinds.length := by omega
       have hhv := hx.hv _ (zah (l := x.hand) (i := 2 * 1 + k) (by rw [hx.h4]; omega))
       have hh1 : 0 ≤ nth x.hand (2 * 1 + k) ∧ nth x.hand (2 * 1 + k) ≤ 255 := hhv
       have hrh := rh (2 * 1 + k) (by omega)
       have m0 := Int.tmod_nonneg 3 hh1.1
       have hsu := zfZ g x 1 k
       have hsk := zfY g x 1 k
       have hhl := zbT g x 1 k
       have hV : znl g x 1 k = if (nth g.kinds k).keep = true then (if 250 < nth x.hand (2 * 1 + k) then 8 else (nth x.hand (2 * 1 + k)).tmod 3) else 0 := rfl
       simp only [Nat.mul_zero, Nat.zero_add, Nat.mul_one] at hrh hh1 m0 hV
       repeat first|refine wV fun _=>?_|simp [go_sem, hel, e0, e3, e4, hkk]
       refine zBj (fun hkeep => ?_) (fun hkeep => ?_)
       ·rw [if_pos hkeep] at hV
        have eI : (2 + (k : Int)).toNat = 2 + k := by omega
        have eI2 : 2 + (k : Int) < 4 := by omega
        repeat first|refine wV fun _=>?_|simp [go_sem, hel, e0, e3, e4, hkk, hrh, hhl, eI, eI2]
        refine zBj (fun hbig => ?_) (fun hbig => ?_) <;> simp at hbig
        ·rw [if_pos hbig] at hV
         rw [hV] at hsu
         repeat first|refine wV fun _=>?_|simp [go_sem, hel, e0, e3, e4, hkk, hrh, hhl]
         refine zBh (hrec1 (d - 1) (by omega) (k + 1) (by omega)) ?_ (by simp)
         simp [go_sem, zaf, hsu, rb, hbl]
        ·rw [if_neg (by omega)] at hV
         rw [hV] at hsu
         repeat first|refine wV fun _=>?_|simp [go_sem, hel, e0, e3, e4, hkk, hrh, hhl]
         refine zBh (hrec1 (d - 1) (by omega) (k + 1) (by omega)) ?_ (by simp)
         simp [go_sem, zaf, hsu, rb, hbl]
       ·rw [if_neg (by simpa using hkeep)] at hV
        have hsk' := hsk hV
        repeat first|refine wV fun _=>?_|simp [go_sem, hel, e0, e3, e4]
        refine zBh (hrec1 (d - 1) (by omega) (k + 1) (by omega)) ?_ (by simp)
        simp [go_sem, zaf, hsk', rb, hbl]
      ·have hkm : k = min g.kinds.length 2 := by omega
       subst hkm
       repeat first|refine wV fun _=>?_|simp [go_sem, hel, e0, e3, e4]
       repeat first|refine wV fun _=>?_|simp [go_sem, hel, e0, e3, e4]
       refine zBn ?_
       repeat first|refine wV fun _=>?_|simp [go_sem, hel, e0, e3, e4]
       rw [hq]
       have hh0 := zbT g x 0 (min g.kinds.length 2)
       have hh1 := zbT g x 1 (min g.kinds.length 2)
       simp [go_sem, zaf, hal, hh0, hh1]
     ·omega
     ·simp [go_sem, zaf, rb, hbl, hz1]
     ·simp
   ·omega
   ·simp [go_sem, zaf, rb, hbl, hz0]
   ·simp
 ·rfl
 ·simp [go_sem, zaf, rb, hbl, hz, hcz]
 ·simp
theorem znG (p : zal) (hs : p.side = 0 ∨ p.side = 1) : zaJ Tryz.prog 81 [.agg (zag p)] (.agg (zag (zdN p))) := by
 refine pF Tryz.func81 ?_
 have h1 : -9223372036854775808 ≤ 1 - p.side ∧ 1 - p.side ≤ 9223372036854775807 := by omega
 repeat first|refine wV fun _=>?_|simp [go_sem, zdN]
theorem zhj (g : zac) (hg : GOk g) (p : zal) (hp : POk g p) (r : Int) : zaJ Tryz.prog 25 [zaV (zaN g p), .agg (zag p), zaj (ofG g), .v (.int .i64 r)] (zaV (zbr g p r)) := by
 refine pF Tryz.func25 ?_
 have hcl := zet hg
 have h9 := hg.c9
 have hal := hp.al
 have hmo := zcN hg hp
 have hml := zc1 hg hp
 have hP := fun (q : zal) (hq : POk g q) => znV (ofG g) q r (by have := hq.al; omega) (by have := hq.al; omega)
 have hT := znG (za4 (ofG g) p r) (by exact hp.s)
 have hPp := hP p hp
 have hE := fun (i : Nat) (hi : i < (zaN g p).length) => zeG (za4 (ofG g) (nth (zaN g p) i) r) (zdN (za4 (ofG g) p r)) ((zci (hmo _ (zah hi)).1 _ _).fits hg) ((zso (zci hp _ _)).fits hg)
 have hPm := fun (i : Nat) (hi : i < (zaN g p).length) => hP _ (hmo _ (zah hi)).1
 have hla := fun (i : Nat) (hi : i < (zaN g p).length) => (hmo _ (zah hi)).1.al
 have hIs := fun (i : Nat) (hi : i < (zaN g p).length) => zwg (r := r) hi
 have hI0 := zwh g p r
 have hIa := zyu g p r
 have hIl : ∀ i, (zwf g p r i).length ≤ 472446 := fun i => by
  unfold zwf
  rw [List.length_map]
  refine Nat.le_trans (List.length_filter_le _ _) ?_
  rw [List.length_take]
  omega
 rw [← hIa]
 clear hmo hIa
 generalize zaN g p = M at *
 generalize zwf g p r = I at *
 generalize ofG g = of at *
 repeat first|refine wV fun _=>?_|simp [go_sem]
 refine zBh (zBk (α := Nat) (fun i => ⟨[(0, zaV M), (2, zaj of), (3, .v (.int .i64 r)), (5, .ref 0 0 5 0 0), (9, .sl 1 (I i).length 5 0 (I i).length), (10, .v (.int .i64 i))], [(0, .rows true 0 5 [zag p]), (1, .rows true (I i).length 5 ((I i).map zag))], 2⟩)
  (fun d i => i + d = M.length) ?_ M.length 0 ?_) ?_ ?_
 ·rintro d i i1 hrec
  have hIl := hIl i
  repeat first|refine wV fun _=>?_|simp [go_sem]
  refine zBj (fun hi => ?_) (fun hi => ?_) <;> simp at hi
  ·have hgi := zcb zag M i hi
   have hEi := hE i hi
   have hPi := hPm i hi
   have hIi := hIs i hi
   have hlq : (nth M i).at_.length = of.length := by have := hla i hi; omega
   generalize nth M i = q at *
   by_cases hz : za4 of q r = zdN (za4 of p r)
   ·rw [if_pos hz] at hIi
    rw [decide_eq_true ((zbo.eq _ _).2 hz)] at hEi
    generalize za4 of q r = pq at *
    generalize zdN (za4 of p r) = tp at *
    generalize za4 of p r = pp at *
    repeat first|refine wV fun _=>?_|simp [go_sem, hi, hgi, hlq]
    refine zBt _ (fun _ => hPi) (by simp [go_sem]) ?_
    repeat first|refine wV fun _=>?_|simp [go_sem, hi, hgi, hlq]
    refine zBt _ (fun _ => hPp) (by simp [go_sem]) ?_
    repeat first|refine wV fun _=>?_|simp [go_sem, hi, hgi, hlq]
    refine zBt _ (fun _ => hT) (by simp [go_sem]) ?_
    repeat first|refine wV fun _=>?_|simp [go_sem, hi, hgi, hlq]
    refine zBt _ (fun _ => hEi) (by simp [go_sem]) ?_
    repeat first|refine wV fun _=>?_|simp [go_sem, hi, hgi, hlq]
    refine zBh (hrec (d - 1) (by omega) (i + 1) (by omega)) ?_ (by simp)
    simp [go_sem, zaf, hIi]
   ·rw [if_neg hz] at hIi
    rw [decide_eq_false (fun h => hz ((zbo.eq _ _).1 h))] at hEi
    generalize za4 of q r = pq at *
    generalize zdN (za4 of p r) = tp at *
    generalize za4 of p r = pp at *
    repeat first|refine wV fun _=>?_|simp [go_sem, hi, hgi, hlq]
    refine zBt _ (fun _ => hPi) (by simp [go_sem]) ?_
    repeat first|refine wV fun _=>?_|simp [go_sem, hi, hgi, hlq]
    refine zBt _ (fun _ => hPp) (by simp [go_sem]) ?_
    repeat first|refine wV fun _=>?_|simp [go_sem, hi, hgi, hlq]
    refine zBt _ (fun _ => hT) (by simp [go_sem]) ?_
    repeat first|refine wV fun _=>?_|simp [go_sem, hi, hgi, hlq]
    refine zBt _ (fun _ => hEi) (by simp [go_sem]) ?_
    repeat first|refine wV fun _=>?_|simp [go_sem, hi, hgi, hlq]
    refine zBi hPi (by simp [go_sem]) ?_
    repeat first|refine wV fun _=>?_|simp [go_sem, hi, hgi, hlq]
    refine zBh (hrec (d - 1) (by omega) (i + 1) (by omega)) ?_ (by simp)
    simp [go_sem, zaf, hIi]
  ·obtain rfl : i = M.length := by omega
   repeat first|refine wV fun _=>?_|simp [go_sem]
   exact frX
 ·omega
 ·simp [go_sem, zaf, hI0]
 ·simp
theorem zuw {l : List Int} (h : 0 < l.length) {w : Int} (hw : 0 ≤ w) : 0 ≤ w.tmod l.length ∧ (w.tmod l.length).toNat < l.length := by
 have h2 := Int.tmod_nonneg (l.length : Int) hw
 have h3 := Int.tmod_lt_of_pos w (show (0 : Int) < (l.length : Int) by omega)
 omega
theorem zdn (x : zir) (hx : zsE x) (hl : x.c.length ≤ 1099511627776) (hl0 : x.k0.length ≤ 1099511627776) (hl1 : x.k1.length ≤ 1099511627776) (y0 y1 : ziO) (hy0 : ze6 y0) (hy1 : ze6 y1) (w : Int) (hw : U8 w) :
  zaJ Tryz.prog 4 [.agg (zb0 x), .agg (zbp y0 ++ zbp y1), .v (.int .u8 w)] (.v (.bool true)) := by
 refine pF Tryz.func4 ?_
 have hSan := ze2
 have hG := zgy x hx hl hl0 hl1
 have hmg := zns hx
 have hA := zeE _ hmg _ hw
 have hg := zjB hmg w
 have hs := zfp (zgK x) w
 have hnb := zfE (zdd x) w
 generalize zdz (zdd x) w = g at *
 have hR := regG hg
 have hN := znw hnb
 have hsm := zfN _ hg hs
 have hO : zaJ Tryz.prog 24 [.agg (zad g)] (zaj (ofG g)) := zji g hg
 have hof := zet hg
 have hM0 := zgz _ hg y0 hy0
 have hM1 := zpY _ hg y1 hy1
 have hp := zf1 hg hy0
 have hq := zf1 hg hy1
 generalize zd7 g y0 = p at *
 generalize zd7 g y1 = q at *
 have c1 := hg.c1
 have c9 := hg.c9
 have hpl := hp.al
 have hql := hq.al
 have hop : 0 < (ofG g).length := by omega
 obtain ⟨hj0, hj⟩ := zuw hop hw.1
 have hcg : ((ofG g).length : Int) = g.cells := by omega
 obtain ⟨hwa, hwb⟩ := hw
 have hw64 : -9223372036854775808 ≤ w ∧ w ≤ 9223372036854775807 := by omega
 obtain ⟨r, hr⟩ : ∃ r, r = nth (ofG g) (w.tmod (ofG g).length).toNat := ⟨_, rfl⟩
 have hrm := zcb zbd (ofG g) _ hj
 rw [← hr] at hrm
 have hm := zwA hp hq (ofG g) r
 have hMp := zef g hg p hp
 have hMm := zef g hg _ hm
 have hIp := zhj g hg p hp r
 have hIm := zhj g hg _ hm r
 have hms := zyO hR hN hp hq r
 have hipl : (zbr g p r).length ≤ 472446 := by
  unfold zbr
  rw [List.length_map]
  exact Nat.le_trans (List.length_filter_le _ _) (zc1 hg hp)
 have himl : (zbr g (mixP (ofG g) p q r) r).length ≤ 472446 := by
  unfold zbr
  rw [List.length_map]
  exact Nat.le_trans (List.length_filter_le _ _) (zc1 hg hm)
 have hS1 := zgA (zbr g p r) (by omega) (fun z hz => (zh5 hg hp z hz).fits hg)
 have hS2 := zgA (zbr g (mixP (ofG g) p q r) r) (by omega) (fun z hz => (zh5 hg hm z hz).fits hg)
 rw [← hms] at hS2
 have hfs : ∀ z ∈ zcI zcK (zbr g p r), zbw z := fun z hz => (zh5 hg hp z (za9.1 hz)).fits hg
 have hsl := zhE zcK (zbr g p r)
 have hLs := zhI (zcI zcK (zbr g p r)) (zcI zcK (zbr g p r)) (by omega) (by omega) hfs hfs
 rw [show ∀ z : List zal, decide (z = z) = true from fun z => decide_eq_true rfl] at hLs
 have hz0 := zwz (ofG g) p.at_ q.at_ r
 have hzl := fun k => zdW (ofG g) p.at_ q.at_ r k
 have hzs := fun k (hk : k < q.at_.length) => zwy (of := ofG g) (a := p.at_) (r := r) hk
 have hgb : ∀ n, (∀ c ∈ zad g, Bel n c) = True := fun n => by simp [go_sem]
 have hgb0 : ∀ n, (∀ c ∈ zad (zdd x), Bel n c) = True := fun n => by simp [go_sem]
 have hel : (zad g).length = 9 := rfl
 have heg0 : cel (zad g) 0 = .v (.int .i64 g.cells) := rfl
 obtain ⟨ry0, _, _, _, _, _, rb0⟩ := zmj hy0
 obtain ⟨ry1, _, _, _, _, _, rb1⟩ := zmj hy1
 have hrl : (zb0 x).length = 12 := rfl
 have hrb : ∀ n, (∀ c ∈ zb0 x, Bel n c) = True := fun n => by simp [go_sem]
 unfold mixP at hMm hIm
 generalize zbp y0 = e0 at *
 generalize zbp y1 = e1 at *
 generalize zb0 x = er at *
 generalize zad (zdd x) = eg0 at *
 have ht0 : List.take 18 (e0 ++ e1) = e0 := by rw [List.take_append_of_le_length (by omega), List.take_of_length_le (by omega)]
 have ht1 : List.drop 18 (e0 ++ e1) = e1 := by rw [List.drop_append_of_le_length (by omega), List.drop_of_length_le (by omega), List.nil_append]
 have ht2 : List.take 18 e1 = e1 := List.take_of_length_le (by omega)
 obtain ⟨eg, heg⟩ : ∃ eg, eg = zad g := ⟨_, rfl⟩
 rw [← heg] at hA hsm hM0 hM1 hgb hel hMp hMm hO heg0
 clear heg hmg hR hN
 repeat first|refine wV fun _=>?_|simp [go_sem, hrl, ry0, ry1]
 refine zBi hSan (by simp [go_sem]) ?_
 repeat first|refine wV fun _=>?_|simp [go_sem, hrl, ry0, ry1]
 refine zBi hG (by simp [go_sem, hrb]) ?_
 repeat first|refine wV fun _=>?_|simp [go_sem, hrl, ry0, ry1]
 refine zBi hA (by simp [go_sem, hgb0]) ?_
 repeat first|refine wV fun _=>?_|simp [go_sem, hrl, ry0, ry1, hel]
 refine zBi hsm (by simp [go_sem, hgb]) ?_
 repeat first|refine wV fun _=>?_|simp [go_sem, hel]
 refine zBj (fun h3 => ?_) (fun h3 => ?_)
 ·repeat first|refine wV fun _=>?_|simp [go_sem]
 ·repeat first|refine wV fun _=>?_|simp [go_sem, hel]
  refine zBi hO (by simp [go_sem, hgb]) ?_
  repeat first|refine wV fun _=>?_|simp [go_sem, hel, heg0, hcg, ht0, ht1, ht2, ry0, ry1]
  refine zBi hM0 (by simp [go_sem, hgb, rb0]) ?_
  repeat first|refine wV fun _=>?_|simp [go_sem, hel, heg0, hcg, ht0, ht1, ht2, ry0, ry1]
  refine zBq hM1 (by simp [go_sem, hgb, rb1]) ?_
  have hne : ¬ ofG g = [] := fun h => by rw [h] at hop; exact absurd hop (by simp)
  repeat first|refine wV fun _=>?_|simp [go_sem, hel, hj0, hj, hrm, hop, hne]
  generalize ofG g = of at *
  have hlq : of.length = q.at_.length := by omega
  refine zBh (zBk (α := Nat) (fun k => ⟨[(7, .v (.bool true)), (8, .ref 2 0 9 0 0), (9, zaj of), (10, .ref 3 0 5 0 0), (11, .ref 27 0 5 0 0), (12, .v (.int .i64 r)), (13, .v (.int .i64 k))],
    [(2, .rows true 0 9 [eg]), (3, .rows true 0 5 [zag p]), (10, .rows true 0 1 ((zqW of p.at_ q.at_ r k).map zbd)), (25, .rows true 0 1 (q.h0.map zbd)), (26, .rows true 0 1 (q.h1.map zbd)), (27, .rows true 0 5 [[.sl 10 0 1 0 q.at_.length, .sl 25 0 1 0 q.h0.length, .sl 26 0 1 0 q.h1.length, .v (.int .i64 q.rights), .v (.int .i64 p.side)]])], 28⟩)
   (fun d k => k + d = of.length) ?_ of.length 0 ?_) ?_ ?_
  ·rintro d k k1 hrec
   repeat first|refine wV fun _=>?_|simp [go_sem, hel]
   refine zBj (fun hk => ?_) (fun hk => ?_) <;> simp at hk
   ·have hkq : k < q.at_.length := by omega
    have hkp : k < p.at_.length := by omega
    have hgk := zcb zbd of k hk
    have hgp := zcb zbd p.at_ k hkp
    have hzi := hzs k hkq
    have hzk := hzl k
    by_cases hz : nth of k = r
    ·rw [if_pos hz] at hzi
     repeat first|refine wV fun _=>?_|simp [go_sem, hel, hk, hkq, hkp, hgk, hgp, hz]
     refine zBh (hrec (d - 1) (by omega) (k + 1) (by omega)) ?_ (by simp)
     simp [go_sem, zaf, hgb, hzi, List.map_set]
    ·rw [if_neg hz] at hzi
     repeat first|refine wV fun _=>?_|simp [go_sem, hel, hk, hkq, hkp, hgk, hgp, hz]
     refine zBh (hrec (d - 1) (by omega) (k + 1) (by omega)) ?_ (by simp)
     simp [go_sem, zaf, hgb, hzi]
   ·obtain rfl : k = of.length := by omega
    have hzk := hzl q.at_.length
    repeat first|refine wV fun _=>?_|simp [go_sem, hel]
    refine zBl hMp (by simp [go_sem, hgb]) ?_
    repeat first|refine wV fun _=>?_|simp [go_sem, hel]
    refine zBl hIp (by simp [go_sem]) ?_
    simp only [hlq]
    (repeat (first|with_reducible (first|refine wL fun _=>?_|refine wD fun _=>?_|refine wE ?_)|simp [go_sem, hel]))
    refine zsP.frz (zbB _ [10, 25, 26]) (zc5 _ _) ?_
    repeat first|refine wV fun _=>?_|simp [go_sem, hel]
    refine zaQ.frz [.agg eg, .agg (zag { q with at_ := zqW of p.at_ q.at_ r q.at_.length, side := p.side })] _ [10, 25, 26] [] hMm (by simp) ?_ (by simp [go_sem, hgb]) ?_
    ·intro h₁ hS
     have h10 := (hS 10 (by simp)).symm
     have h25 := (hS 25 (by simp)).symm
     have h26 := (hS 26 (by simp)).symm
     clear hS
     simp [upd, zbB, zb5] at h10 h25 h26
     ((try simp only [zaq, zaE, zbt, zcG, zaw, zbm, zaM, zar, zag, zdC, zbz, zaV, zaj, zad, List.map_cons, List.map_nil, List.nil_append, List.append_nil, List.cons_append]); (repeat (first | (with_reducible first|exact zam.nil|exact zak.nil|exact LeV.refl _|exact zam.refl _ _ _ _|exact zak.refl _|refine zam.cons ?_ ?_|refine zak.cons ?_ ?_|refine LeV.agg ?_|refine LeV.tup ?_|refine LeV.fn ?_ ?_|exact LeV.nil _|refine zao (zak.refl _) ?_) | ((refine zaL (by first | rfl | assumption) (by simp [h10, h25, h26, hzk]) (by simp [zbB, zb5, upd, noH, zai, h10, h25, h26, hzk]) ?_); (first | (simp [go_sem, h10, h25, h26, hzk]; done) | (simp [go_sem, h10, h25, h26, hzk]; exact List.take_of_length_le (by simp [h10, h25, h26, hzk])))) | ((refine LeV.frz (by first | rfl | assumption) (by simp [h10, h25, h26, hzk]) (by simp [zbB, zb5, upd, noH, zai, h10, h25, h26, hzk]) ?_); (simp only [List.drop_zero, List.take_succ_cons, List.take_zero, List.map_cons, List.map_nil])) | ((refine LeV.frzP (by first | rfl | assumption) (by simp [h10, h25, h26, hzk]) (by simp) (by simp [zbB, zb5, upd, noH, zai, h10, h25, h26, hzk]) ?_); (simp only [zbe, List.drop_zero])))))
    repeat first|refine wV fun _=>?_|simp [go_sem, hel]
    refine zaQ.frz [zaV (zaN g { q with at_ := zqW of p.at_ q.at_ r q.at_.length, side := p.side }), .agg (zag { q with at_ := zqW of p.at_ q.at_ r q.at_.length, side := p.side }), zaj of, .v (.int .i64 r)] _ [10, 25, 26] [] hIm (by simp) ?_ (by simp [go_sem]) ?_
    ·intro h₁ hS
     have h10 := (hS 10 (by simp)).symm
     have h25 := (hS 25 (by simp)).symm
     have h26 := (hS 26 (by simp)).symm
     clear hS
     simp [upd, zbB, zb5] at h10 h25 h26
     ((try simp only [zaq, zaE, zbt, zcG, zaw, zbm, zaM, zar, zag, zdC, zbz, zaV, zaj, zad, List.map_cons, List.map_nil, List.nil_append, List.append_nil, List.cons_append]); (repeat (first | (with_reducible first|exact zam.nil|exact zak.nil|exact LeV.refl _|exact zam.refl _ _ _ _|exact zak.refl _|refine zam.cons ?_ ?_|refine zak.cons ?_ ?_|refine LeV.agg ?_|refine LeV.tup ?_|refine LeV.fn ?_ ?_|exact LeV.nil _|refine zao (zak.refl _) ?_) | ((refine zaL (by first | rfl | assumption) (by simp [h10, h25, h26, hzk]) (by simp [zbB, zb5, upd, noH, zai, h10, h25, h26, hzk]) ?_); (first | (simp [go_sem, h10, h25, h26, hzk]; done) | (simp [go_sem, h10, h25, h26, hzk]; exact List.take_of_length_le (by simp [h10, h25, h26, hzk])))) | ((refine LeV.frz (by first | rfl | assumption) (by simp [h10, h25, h26, hzk]) (by simp [zbB, zb5, upd, noH, zai, h10, h25, h26, hzk]) ?_); (simp only [List.drop_zero, List.take_succ_cons, List.take_zero, List.map_cons, List.map_nil])) | ((refine LeV.frzP (by first | rfl | assumption) (by simp [h10, h25, h26, hzk]) (by simp) (by simp [zbB, zb5, upd, noH, zai, h10, h25, h26, hzk]) ?_); (simp only [zbe, List.drop_zero])))))
    repeat first|refine wV fun _=>?_|simp [go_sem, hel]
    refine zBw _ (fun _ => hS1) (by simp [go_sem]) ?_
    repeat first|refine wV fun _=>?_|simp [go_sem, hel]
    refine zBw _ (fun _ => hS2) (by simp [go_sem]) ?_
    repeat first|refine wV fun _=>?_|simp [go_sem, hel]
    refine zBw _ (fun _ => hLs) (by simp [go_sem]) ?_
    repeat first|refine wV fun _=>?_|simp [go_sem, hel]
  ·omega
  ·simp [go_sem, zaf, hgb, hz0]
  ·simp
end Go.Av
end
