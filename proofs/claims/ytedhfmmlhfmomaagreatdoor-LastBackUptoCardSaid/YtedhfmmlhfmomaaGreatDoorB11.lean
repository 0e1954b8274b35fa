/- Texts of ours, part 11: our library and contracts of functions. -/
import Derived.Test.YtedhfmmlhfmomaaGreatDoorB10
set_option linter.unusedSimpArgs false
set_option linter.unusedVariables false
set_option maxRecDepth 100000
set_option maxHeartbeats 40000000
section
open Go Go.Proofs
namespace Go.Av
def zmH (gm : Bool) (l : List zb8) (i : Nat) : Bool := gm && (l.take i).any (·.took)
theorem zsY (gm : Bool) (l : List zb8) : zmH gm l 0 = false := by simp [zmH]
theorem zsX (gm : Bool) (l : List zb8) {i : Nat} (h : i < l.length) : zmH gm l (i + 1) = (zmH gm l i || (gm && (nth l i).took)) := by
 unfold zmH
 rw [List.take_add_one, List.getElem?_eq_getElem h, zau _ _ h, Option.toList_some, List.any_append]
 simp only [List.any_cons, List.any_nil, Bool.or_false, Bool.and_or_distrib_left]
def zgG (must : Bool) (l : List zb8) (i : Nat) : List zag := ((l.take i).filter fun o => !must || o.took).map (·.pos)
theorem zsL (must : Bool) (l : List zb8) : zgG must l 0 = [] := by simp [zgG]
theorem zsK (must : Bool) (l : List zb8) {i : Nat} (h : i < l.length) : zgG must l (i + 1) = zgG must l i ++ (if (!must || (nth l i).took) = true then [(nth l i).pos] else []) := by
 unfold zgG
 rw [List.take_add_one, List.getElem?_eq_getElem h, zau _ _ h, Option.toList_some, List.filter_append, List.map_append]
 congr 1
 by_cases hc : (!must || l[i].took) = true <;> simp [hc]
theorem zog (must : Bool) (l : List zb8) (i : Nat) : (zgG must l i).length ≤ i := by
 unfold zgG
 rw [List.length_map]
 refine Nat.le_trans (List.length_filter_le _ _) ?_
 simp; omega
theorem zhw (g : zad) (hg : GOk g) (p : zag) (hp : POk g p) : zaP Tryz.prog 141 [.agg (zae g), .agg (zac p)] (zaI (zaC g p)) := by
 refine pF Tryz.func141 ?_
 have hE := zne g hg p hp
 have hO := ziz g hg p hp
 have hD := znc g hg p hp
 have hdl := zfy hg hp
 have hol := zjD hg hp
 have hS := zew (zcV g p) (by have := zlq hg hp; omega) (fun q hq => (zor hg hp q hq).1.fits hg)
 have hml : zcV g p = zgG (zfJ g p) (zdj g p) (zdj g p).length ++ (if zfJ g p then [] else zcF g p) := by unfold zcV zgG; rw [List.take_length]
 have hmu : zfJ g p = zmH g.must (zdj g p) (zdj g p).length := by unfold zfJ zmH; rw [List.take_length]
 have hmv : zaC g p = if 0 ≤ zcU g p then [] else zaU za7 (zcV g p) := rfl
 obtain ⟨R, hR⟩ : ∃ R, R = zaC g p := ⟨_, rfl⟩
 rw [← hR] at hmv ⊢
 generalize zdj g p = l at *
 generalize zcF g p = ds at *
 generalize zcV g p = ml at *
 generalize zcU g p = en at *
 repeat first|refine wV fun _=>?_|simp [go_sem]
 refine zAD hE (by simp [go_sem]) ?_
 repeat first|refine wV fun _=>?_|simp [go_sem]
 refine zAE (fun he => ?_) (fun he => ?_) <;> simp at he
 ·rw [if_pos he] at hmv
  rw [hmv]
  repeat first|refine wV fun _=>?_|simp [go_sem]
 ·rw [if_neg (by omega)] at hmv
  repeat first|refine wV fun _=>?_|simp [go_sem]
  refine zAD hO (by simp [go_sem]) ?_
  repeat first|refine wV fun _=>?_|simp [go_sem]
  refine zAC (zAG (α := Nat) (fun i => ⟨[(2, .ref 0 0 9 0 0), (3, .ref 1 0 5 0 0), (5, zcS l), (6, .sl 2 0 5 0 0), (7, .v (.bool (zmH g.must l i))), (8, .v (.int .i64 i))], [(0, .rows true 0 9 [zae g]), (1, .rows true 0 5 [zac p]), (2, .rows true 0 5 [])], 3⟩)
   (fun d i => i + d = l.length) ?_ l.length 0 ?_) ?_ ?_
  ·rintro d i i1 hrec
   repeat first|refine wV fun _=>?_|simp [go_sem]
   refine zAE (fun hi => ?_) (fun hi => ?_) <;> simp at hi
   ·have hms := zsX g.must l hi
    cases hmk : zmH g.must l i
    ·rw [hmk, Bool.false_or] at hms
     cases hgm : g.must
     ·rw [hgm, Bool.false_and] at hms
      repeat first|refine wV fun _=>?_|simp [go_sem, hmk, hgm, hi]
      refine zAC (hrec (d - 1) (by omega) (i + 1) (by omega)) ?_ (by simp)
      simp [go_sem, zaf, hms, hgm]
     ·rw [hgm, Bool.true_and] at hms
      repeat first|refine wV fun _=>?_|simp [go_sem, hmk, hgm, hi]
      refine zAC (hrec (d - 1) (by omega) (i + 1) (by omega)) ?_ (by simp)
      simp [go_sem, zaf, hms, hgm]
    ·rw [hmk, Bool.true_or] at hms
     repeat first|refine wV fun _=>?_|simp [go_sem, hmk, hi]
     refine zAC (hrec (d - 1) (by omega) (i + 1) (by omega)) ?_ (by simp)
     simp [go_sem, zaf, hms]
   ·have hil : i = l.length := by omega
    subst hil
    rw [← hmu]
    generalize zfJ g p = must at *
    repeat first|refine wV fun _=>?_|simp [go_sem]
    refine zAC (zAG (α := Nat) (fun i => ⟨[(2, .ref 0 0 9 0 0), (3, .ref 1 0 5 0 0), (5, zcS l), (6, .sl 2 (zgG must l i).length 5 0 (zgG must l i).length), (7, .v (.bool must)), (9, .v (.int .i64 i))], [(0, .rows true 0 9 [zae g]), (1, .rows true 0 5 [zac p]), (2, .rows true (zgG must l i).length 5 ((zgG must l i).map zac))], 3⟩)
     (fun d i => i + d = l.length) ?_ l.length 0 ?_) ?_ ?_
    ·rintro d i i1 hrec2
     repeat first|refine wV fun _=>?_|simp [go_sem]
     refine zAE (fun hi => ?_) (fun hi => ?_) <;> simp at hi
     ·have hks := zsK must l hi
      have hkl := zog must l i
      cases must
      ·simp only [Bool.not_false, Bool.true_or, if_true] at hks
       repeat first|refine wV fun _=>?_|simp [go_sem, hi]
       refine zAC (hrec2 (d - 1) (by omega) (i + 1) (by omega)) ?_ (by simp)
       simp [go_sem, zaf, hks]
      ·cases ht : (nth l i).took
       ·simp [ht] at hks
        repeat first|refine wV fun _=>?_|simp [go_sem, hi, ht]
        refine zAC (hrec2 (d - 1) (by omega) (i + 1) (by omega)) ?_ (by simp)
        simp [go_sem, zaf, hks]
       ·simp [ht] at hks
        repeat first|refine wV fun _=>?_|simp [go_sem, hi, ht]
        refine zAC (hrec2 (d - 1) (by omega) (i + 1) (by omega)) ?_ (by simp)
        simp [go_sem, zaf, hks]
     ·have hil : i = l.length := by omega
      subst hil
      have hkl := zog must l l.length
      rw [hmv]
      generalize zgG must l l.length = kk at *
      cases must
      ·simp only [Bool.false_eq_true, if_false] at hml
       repeat first|refine wV fun _=>?_|simp [go_sem]
       refine zAD hD (by simp [go_sem]) ?_
       repeat first|refine wV fun _=>?_|simp [go_sem]
       subst hml
       refine zAL [2] hS ?_ (zqS (zbi _)) ?_
       ·(first|done|exact agX)
       ·repeat first|refine wV fun _=>?_|simp [go_sem]
      ·simp only [if_true, List.append_nil] at hml
       subst hml
       repeat first|refine wV fun _=>?_|simp [go_sem]
       refine zAL [2] hS ?_ (zqS (zbi _)) ?_
       ·(first|done|exact agX)
       ·repeat first|refine wV fun _=>?_|simp [go_sem]
    ·omega
    ·simp [go_sem, zaf, zsL]
    ·simp
  ·omega
  ·simp [go_sem, zaf, zsY]
  ·simp
theorem zfL (a b : List zag) (ha : a.length ≤ 17179869184) (hb : b.length ≤ 17179869184) (hfa : ∀ p ∈ a, zaK p) (hfb : ∀ p ∈ b, zaK p) : zaP Tryz.prog 41 [zaI a, zaI b] (.v (.bool (decide (a = b)))) := by
 refine pF Tryz.func41 ?_
 repeat first|refine wV fun _=>?_|simp [go_sem]
 refine zAE (fun hl => ?_) (fun hl => ?_) <;> simp at hl
 ·have e : decide (a = b) = false := decide_eq_false fun h => hl (by rw [h])
  rw [e]
  repeat first|refine wV fun _=>?_|simp [go_sem]
 ·repeat first|refine wV fun _=>?_|simp [go_sem]
  refine zAC (zAG (α := Nat) (fun i => ⟨[(0, zaI a), (1, zaI b), (5, .v (.int .i64 i))], [], 0⟩)
   (fun d i => i + d = a.length ∧ ∀ j, j < i → nth a j = nth b j) ?_ a.length 0 ?_) ?_ ?_
  ·rintro d i ⟨i1, i2⟩ hrec
   repeat first|refine wV fun _=>?_|simp [go_sem]
   refine zAE (fun hi => ?_) (fun hi => ?_) <;> simp at hi
   ·have hi' : i < b.length := by omega
    have hS := zix (nth a i) (nth b i) (hfa _ (zaj hi)) (hfb _ (zaj hi'))
    rw [show decide (za7 (nth a i) (nth b i) = 0) = decide (nth a i = nth b i) by rw [decide_eq_decide]; exact zaM.eq _ _] at hS
    repeat first|refine wV fun _=>?_|simp [go_sem, hi, hi']
    refine zAF hS (by simp [go_sem]) ?_
    by_cases h : nth a i = nth b i
    ·repeat first|refine wV fun _=>?_|simp [go_sem, h]
     refine zAC (hrec (d - 1) (by omega) (i + 1) ⟨by omega, fun j hj => ?_⟩) ?_ (by simp)
     ·rcases Nat.lt_or_ge j i with h' | h'
      ·exact i2 j h'
      ·obtain rfl : j = i := by omega
       exact h
     ·simp [go_sem, zaf]
    ·have e : decide (a = b) = false := decide_eq_false fun h' => h (by rw [h'])
     rw [e]
     repeat first|refine wV fun _=>?_|simp [go_sem, h]
   ·have e : decide (a = b) = true := decide_eq_true (List.ext_getElem (by omega) fun j h1 h2 => by
     have := i2 j (by omega)
     rwa [zau _ _ h1, zau _ _ h2] at this)
    rw [e]
    repeat first|refine wV fun _=>?_|simp [go_sem]
  ·exact ⟨by simp, fun j hj => by omega⟩
  ·simp [go_sem, zaf]
  ·simp
theorem zo8 (x : zhY) (hx : zrH x) (hl : x.c.length ≤ 1099511627776) (hl0 : x.k0.length ≤ 1099511627776) (hl1 : x.k1.length ≤ 1099511627776) : zaP Tryz.prog 15 [.agg (zcL x)] (.agg (zae (zhd x))) := by
 refine pF Tryz.func15 ?_
 obtain ⟨eg, heg⟩ : ∃ eg, eg = zae (zhd x) := ⟨_, rfl⟩
 rw [← heg]
 have hB := zo7 x.w x.h x.cut hx.w hx.h hx.cut
 have hok := zhy hx.w.1 hx.h.1 x.cut
 have hb : zeV x.w x.h x.cut = x.board := rfl
 rw [hb] at hB hok
 have r0 := Int.tmod_nonneg 3 hx.f0.1
 have r1 := Int.tmod_lt_of_pos x.f0 (show (0 : Int) < 3 by decide)
 have f0 : 0 ≤ x.f0 ∧ x.f0 ≤ 255 := hx.f0
 have f1 : 0 ≤ x.f1 ∧ x.f1 ≤ 255 := hx.f1
 have f2 : 0 ≤ x.f2 ∧ x.f2 ≤ 255 := hx.f2
 have f3 : 0 ≤ x.f3 ∧ x.f3 ≤ 255 := hx.f3
 have f4 : 0 ≤ x.f4 ∧ x.f4 ≤ 255 := hx.f4
 have m1 := Int.tmod_nonneg 4 hx.f1.1
 have m3 := Int.tmod_nonneg 4 hx.f3.1
 have m4 := Int.tmod_nonneg 4 hx.f4.1
 have qq : ∀ n : Int, U8 n → (0 ≤ n.tdiv 4 ∧ n.tdiv 4 ≤ 63) ∧ 0 ≤ (n.tdiv 4).tmod 3 ∧ (n.tdiv 4).tmod 3 < 3 := fun n hn => by
  have h : n.tdiv 4 = n / 4 := Int.tdiv_eq_ediv_of_nonneg hn.1
  have h1 := hn.1
  have h2 := hn.2
  have h3 := Int.tmod_nonneg 3 (show 0 ≤ n.tdiv 4 by omega)
  have h4 := Int.tmod_lt_of_pos (n.tdiv 4) (show (0 : Int) < 3 by decide)
  omega
 obtain ⟨q3, q3'⟩ := qq _ hx.f3
 obtain ⟨q4, q4'⟩ := qq _ hx.f4
 obtain ⟨bl, hbl⟩ : ∃ bl, bl = if x.f3.tmod 4 = 3 then 1 + (x.f3.tdiv 4).tmod 3 else 3 := ⟨_, rfl⟩
 obtain ⟨en, hen⟩ : ∃ en, en = if x.f4.tmod 4 = 3 then 1 + (x.f4.tdiv 4).tmod 3 else 2 := ⟨_, rfl⟩
 obtain ⟨R, hR⟩ : ∃ R, R = x.rights := ⟨_, rfl⟩
 have hR' : x.f0.tmod 3 = R := by rw [hR]; rfl
 obtain ⟨b, hbb⟩ : ∃ b, b = x.board := ⟨_, rfl⟩
 rw [← hbb] at hB hok
 repeat first|refine wV fun _=>?_|simp [go_sem]
 refine zAF hB (by simp [go_sem]) ?_
 repeat first|refine wV fun _=>?_|simp [go_sem, hR']
 have hd8 : b.next.length = 8 := by rw [hbb]; exact zlm _ _ _
 have hcell : 1 ≤ b.cells ∧ b.cells ≤ 9 := by rw [hbb]; exact zjo hx.w.1 hx.h.1 _
 obtain ⟨K, hK⟩ : ∃ K : Nat, K = zdg x := ⟨_, rfl⟩
 have hKn : zdg x = if x.k1.length = 0 then 1 else 2 := by unfold zdg; simp only [List.length_eq_zero_iff]
 have hKl : ∀ i, (x.ks i).length ≤ 1099511627776 := fun i => by unfold zhY.ks; split <;> assumption
 have hKv : ∀ i, ∀ n ∈ x.ks i, U8 n := fun i => by unfold zhY.ks; split; exact hx.k0; exact hx.k1
 refine zAE (fun hk1 => ?_) (fun hk1 => ?_) <;> simp at hk1
 ·have hK2 : zdg x = 2 := by rw [hKn, if_neg (by omega)]
  rw [hK2] at hK
  repeat first|refine wV fun _=>?_|simp [go_sem]
  refine zAC (zAG (α := Nat) (fun a => ⟨[(1, .ref 0 0 12 0 0), (2, .ref 1 0 9 0 0), (3, .ref 20 0 9 0 0), (4, .v (.int .i64 K)), (5, .v (.int .i64 a))],
   [(0, .rows true 0 12 [zcL x]), (1, .rows true 0 9 [[.v (.int .i64 0), zAI, zAI, zAI, .v (.int .i64 0), .v (.bool false), zAI, .v (.int .i64 0), .v (.int .i64 0)]]), (20, .rows true 0 9 [[.v (.int .i64 b.cells), zbY b.next, zap b.turn, .sl 22 a 3 0 a, .v (.int .i64 R), .v (.bool (decide (x.f1.tmod 4 = 3))), zAI, .v (.int .i64 3), .v (.int .i64 2)]]), (22, .rows true a 3 (ksR x a))], 23⟩)
   (fun d a => a + d = K) ?_ K 0 ?_) ?_ ?_
  ·rintro d0 i i1 hrec
   repeat first|refine wV fun _=>?_|simp [go_sem]
   refine zAE (fun hi => ?_) (fun hi => ?_) <;> simp at hi
   ·have hi2 : i = 0 ∨ i = 1 := by omega
    have hkl := hKl i
    have hkv := hKv i
    have hks : zeP x i = ⟨if i = 0 then zqh else zqi, ((x.ks i).take 4).map (fun n => zkx n b.next.length K x.rights), zuH x.f2 i⟩ := by rw [hbb, hK, ← hK2]; rfl
    rcases hi2 with rfl | rfl
    ·obtain ⟨kk, hkk⟩ : ∃ kk, kk = x.ks 0 := ⟨_, rfl⟩
     have hk0 : x.k0 = kk := hkk.symm
     rw [← hkk] at hkl hkv hks
     have hbit : zuH x.f2 0 = decide (zgi .u8 x.f2 1 = 1) := by simp [zuH]
     obtain ⟨f, hf⟩ : ∃ f, f = (fun n => zkx n b.next.length K x.rights) := ⟨_, rfl⟩
     have hfp : ∀ n, U8 n → zaP Tryz.prog 67 [.v (.int .u8 n), .v (.int .i64 b.next.length), .v (.int .i64 K), .v (.int .i64 R)] (zax (f n)) := fun n hn => by
      rw [hf, ← hR]; exact zeu n _ _ _ hn (by omega) (by omega) (by omega)
     rw [← hf, hbit] at hks
     repeat first|refine wV fun _=>?_|simp [go_sem, hk0]
     refine zAC (zAG (α := Nat) (fun n => ⟨[(1, .ref 0 0 12 0 0), (2, .ref 1 0 9 0 0), (3, .ref 20 0 9 0 0), (4, .v (.int .i64 K)), (5, .v (.int .i64 0)), (6, .ref 35 0 3 0 0), (7, .v (.int .i64 n))],
      [(0, .rows true 0 12 [zcL x]), (1, .rows true 0 9 [[.v (.int .i64 0), zAI, zAI, zAI, .v (.int .i64 0), .v (.bool false), zAI, .v (.int .i64 0), .v (.int .i64 0)]]), (20, .rows true 0 9 [[.v (.int .i64 b.cells), zbY b.next, zap b.turn, .sl 22 0 3 0 0, .v (.int .i64 R), .v (.bool (decide (x.f1.tmod 4 = 3))), zAI, .v (.int .i64 3), .v (.int .i64 2)]]), (22, .rows true 0 3 (ksR x 0)), (35, .rows true 0 3 [[.v (.string ⟨#[97]⟩), .sl 37 n 1 0 n, .v (.bool (decide (zgi .u8 x.f2 1 = 1)))]]), (37, .rows true n 1 (psR f kk n))], 38⟩)
      (fun d n => n + d = min kk.length 4) ?_ (min kk.length 4) 0 ?_) ?_ ?_
     ·rintro d n n1 hrec1
      repeat first|refine wV fun _=>?_|simp [go_sem, hk0]
      refine zAE (fun hn => ?_) (fun hn => ?_) <;> simp at hn
      ·have hn1 : n < kk.length := by omega
       have hn2 := hkv _ (zaj hn1)
       have hpl := zfj f kk (n := n) (by omega)
       repeat first|refine wV fun _=>?_|simp [go_sem, hk0, hn1]
       refine zAF (hfp _ hn2) (by simp [go_sem]) ?_
       repeat first|refine wV fun _=>?_|simp [go_sem, hk0, hn1, hpl]
       refine zAC (hrec1 (d - 1) (by omega) (n + 1) (by omega)) ?_ (by simp)
       simp [go_sem, zaf, hk0, zin f kk hn1]
      ·have hne : n = min kk.length 4 := by omega
       repeat first|refine wV fun _=>?_|simp [go_sem]
       refine zAC (hrec (d0 - 1) (by omega) (0 + 1) (by omega)) ?_ (by simp)
       have hkx : zwK (zeP x 0) = [.v (.string ⟨#[97]⟩), .lst 1 (psR f kk n), .v (.bool (decide (zgi .u8 x.f2 1 = 1)))] := by rw [hks, show psR f kk n = psR f kk (min kk.length 4) by rw [← hne]]; simp [zwK, zaV, psR, zqh, zqi, zax]; omega
       have hpl := zfj f kk (n := n) (by omega)
       simp [go_sem, zaf, hk0, zij x 0, hkx]
       (try refine zar (.refl _) (.cons (.cons (.refl _) (.cons ?_ (.cons (.refl _) .nil))) .nil))
       refine LeV.frz rfl ?_ ?_ (zAN ?_) <;> simp [mkH, upd, hpl, List.take_of_length_le]
     ·omega
     ·simp [go_sem, zaf, hk0]
     ·simp
    ·obtain ⟨kk, hkk⟩ : ∃ kk, kk = x.ks 1 := ⟨_, rfl⟩
     have hk0 : x.k1 = kk := hkk.symm
     rw [← hkk] at hkl hkv hks
     have hbit : zuH x.f2 1 = decide (zgi .u8 (x.f2.fdiv 2) 1 = 1) := by simp [zuH]
     obtain ⟨f, hf⟩ : ∃ f, f = (fun n => zkx n b.next.length K x.rights) := ⟨_, rfl⟩
     have hfp : ∀ n, U8 n → zaP Tryz.prog 67 [.v (.int .u8 n), .v (.int .i64 b.next.length), .v (.int .i64 K), .v (.int .i64 R)] (zax (f n)) := fun n hn => by
      rw [hf, ← hR]; exact zeu n _ _ _ hn (by omega) (by omega) (by omega)
     rw [← hf, hbit] at hks
     repeat first|refine wV fun _=>?_|simp [go_sem, hk0]
     refine zAC (zAG (α := Nat) (fun n => ⟨[(1, .ref 0 0 12 0 0), (2, .ref 1 0 9 0 0), (3, .ref 20 0 9 0 0), (4, .v (.int .i64 K)), (5, .v (.int .i64 1)), (6, .ref 35 0 3 0 0), (7, .v (.int .i64 n))],
      [(0, .rows true 0 12 [zcL x]), (1, .rows true 0 9 [[.v (.int .i64 0), zAI, zAI, zAI, .v (.int .i64 0), .v (.bool false), zAI, .v (.int .i64 0), .v (.int .i64 0)]]), (20, .rows true 0 9 [[.v (.int .i64 b.cells), zbY b.next, zap b.turn, .sl 22 1 3 0 1, .v (.int .i64 R), .v (.bool (decide (x.f1.tmod 4 = 3))), zAI, .v (.int .i64 3), .v (.int .i64 2)]]), (22, .rows true 1 3 (ksR x 1)), (35, .rows true 0 3 [[.v (.string ⟨#[98, 101, 101]⟩), .sl 37 n 1 0 n, .v (.bool (decide (zgi .u8 (x.f2.fdiv 2) 1 = 1)))]]), (37, .rows true n 1 (psR f kk n))], 38⟩)
      (fun d n => n + d = min kk.length 4) ?_ (min kk.length 4) 0 ?_) ?_ ?_
     ·rintro d n n1 hrec1
      repeat first|refine wV fun _=>?_|simp [go_sem, hk0]
      refine zAE (fun hn => ?_) (fun hn => ?_) <;> simp at hn
      ·have hn1 : n < kk.length := by omega
       have hn2 := hkv _ (zaj hn1)
       have hpl := zfj f kk (n := n) (by omega)
       repeat first|refine wV fun _=>?_|simp [go_sem, hk0, hn1]
       refine zAF (hfp _ hn2) (by simp [go_sem]) ?_
       repeat first|refine wV fun _=>?_|simp [go_sem, hk0, hn1, hpl]
       refine zAC (hrec1 (d - 1) (by omega) (n + 1) (by omega)) ?_ (by simp)
       simp [go_sem, zaf, hk0, zin f kk hn1]
      ·have hne : n = min kk.length 4 := by omega
       repeat first|refine wV fun _=>?_|simp [go_sem]
       refine zAC (hrec (d0 - 1) (by omega) (1 + 1) (by omega)) ?_ (by simp)
       have hkx : zwK (zeP x 1) = [.v (.string ⟨#[98, 101, 101]⟩), .lst 1 (psR f kk n), .v (.bool (decide (zgi .u8 (x.f2.fdiv 2) 1 = 1)))] := by rw [hks, show psR f kk n = psR f kk (min kk.length 4) by rw [← hne]]; simp [zwK, zaV, psR, zqh, zqi, zax]; omega
       have hpl := zfj f kk (n := n) (by omega)
       simp [go_sem, zaf, hk0, zij x 1, hkx]
       (try refine zar (.refl _) (.cons (.cons (.refl _) (.cons ?_ (.cons (.refl _) .nil))) .nil))
       refine LeV.frz rfl ?_ ?_ (zAN ?_) <;> simp [mkH, upd, hpl, List.take_of_length_le]
     ·omega
     ·simp [go_sem, zaf, hk0]
     ·simp
   ·have hiK : i = K := by omega
    subst hiK
    repeat first|refine wV fun _=>?_|simp [go_sem]
    refine zAE (fun hb3 => ?_) (fun hb3 => ?_) <;> simp at hb3 <;> (repeat (first|refine wV fun _=>?_|simp [go_sem]))
    all_goals refine zAE (fun hb4 => ?_) (fun hb4 => ?_) <;> simp at hb4 <;> (repeat (first|refine wV fun _=>?_|simp [go_sem]))
    all_goals (
     refine zAC (zAG (α := Nat) (fun a => ⟨[(1, .ref 0 0 12 0 0), (2, .ref 1 0 9 0 0), (3, .ref 20 0 9 0 0), (4, .v (.int .i64 i)), (8, .v (.int .i64 a))],
      [(0, .rows true 0 12 [zcL x]), (1, .rows true 0 9 [[.v (.int .i64 0), zAI, zAI, zAI, .v (.int .i64 0), .v (.bool false), zAI, .v (.int .i64 0), .v (.int .i64 0)]]), (20, .rows true 0 9 [[.v (.int .i64 b.cells), zbY b.next, zap b.turn, .sl 22 i 3 0 i, .v (.int .i64 R), .v (.bool (decide (x.f1.tmod 4 = 3))), .sl 23 a 4 0 a, .v (.int .i64 bl), .v (.int .i64 en)]]), (22, .rows true i 3 (ksR x i)), (23, .rows true a 4 (clR b.cells i x.c a))], 24⟩)
      (fun d a => a + d = min x.c.length 3) ?_ (min x.c.length 3) 0 ?_) ?_ ?_
     ·rintro d j j1 hrec2
      repeat first|refine wV fun _=>?_|simp [go_sem]
      refine zAE (fun hj => ?_) (fun hj => ?_) <;> simp at hj
      ·have hj1 : j < x.c.length := by omega
       have hjc := hx.c _ (zaj hj1)
       have hpl := zmg b.cells i x.c (n := j) (by omega)
       have hsu := zqY b.cells i x.c hj1
       generalize hcx : nth x.c j = c at *
       obtain ⟨c0, c1, c2⟩ := c
       obtain ⟨u0, u1, u2⟩ := hjc
       obtain ⟨w0, w0'⟩ := qq _ u0
       obtain ⟨v0, v0'⟩ := u0
       obtain ⟨v1, v1'⟩ := u1
       obtain ⟨v2, v2'⟩ := u2
       simp only at v0 v0' v1 v1' v2 v2' w0 w0'
       have t0 := Int.tmod_nonneg 3 v0
       have t1 := Int.tmod_lt_of_pos c0 (show (0 : Int) < 3 by decide)
       have hip : (0 : Int) < i := by omega
       have k0 := Int.tmod_nonneg i v1
       have n0 := Int.tmod_nonneg b.cells v2
       have n1 := Int.tmod_nonneg 3 v2
       rcases (show c0.tmod 3 = 0 ∨ c0.tmod 3 = 1 ∨ c0.tmod 3 = 2 by omega) with ht | ht | ht
       ·have hr : zsj (zbe b.cells i (c0, c1, c2)) = [.v (.int .i64 1), .v (.int .i64 (c1.tmod i)), .v (.int .i64 0), .v (.int .i64 (1 + (c0.tdiv 4).tmod 3))] := by simp [zsj, zbe, zaZ, ht]
        repeat first|refine wV fun _=>?_|simp [go_sem, hj1, hcx, ht, hpl]
        refine zAC (hrec2 (d - 1) (by omega) (j + 1) (by omega)) ?_ (by simp)
        simp [go_sem, zaf, hsu, hr]
       ·have hr : zsj (zbe b.cells i (c0, c1, c2)) = [.v (.int .i64 2), .v (.int .i64 (c1.tmod i)), .v (.int .i64 (c2.tmod b.cells)), .v (.int .i64 (1 + (c0.tdiv 4).tmod 3))] := by simp [zsj, zbe, zaZ, ht]
        repeat first|refine wV fun _=>?_|simp [go_sem, hj1, hcx, ht, hpl]
        refine zAC (hrec2 (d - 1) (by omega) (j + 1) (by omega)) ?_ (by simp)
        simp [go_sem, zaf, hsu, hr]
       ·have hr : zsj (zbe b.cells i (c0, c1, c2)) = [.v (.int .i64 3), .v (.int .i64 0), .v (.int .i64 (c2.tmod 3)), .v (.int .i64 (1 + (c0.tdiv 4).tmod 3))] := by simp [zsj, zbe, zaZ, ht]
        repeat first|refine wV fun _=>?_|simp [go_sem, hj1, hcx, ht, hpl]
        refine zAC (hrec2 (d - 1) (by omega) (j + 1) (by omega)) ?_ (by simp)
        simp [go_sem, zaf, hsu, hr]
      ·have hki : zdg x = i := by rw [hK2, hK]
       have hjm : j = min x.c.length 3 := by omega
       have htk : x.c.take (min x.c.length 3) = x.c.take 3 := by rw [List.take_eq_take_iff]; omega
       have hpl := zmg b.cells i x.c (n := j) (by omega)
       have hkl : (ksR x i).length = i := zvs x i
       have hcl : clR b.cells i x.c j = ((x.c.take 3).map (zbe b.cells i)).map zaZ := by unfold clR; rw [hjm, htk]
       have hG : zhd x = { cells := b.cells, next := b.next, turn := b.turn, kinds := (List.range i).map (zeP x), rights := R, must := decide (x.f1.tmod 4 = 3), clauses := (x.c.take 3).map (zbe b.cells i), blocked := bl, endless := en } := by
        unfold zhd; rw [hki, ← hbb, ← hR, ← hbl, ← hen]
       have hEnc : eg = [.v (.int .i64 b.cells), zbY b.next, zap b.turn, .lst 3 (ksR x i), .v (.int .i64 R), .v (.bool (decide (x.f1.tmod 4 = 3))), .lst 4 (clR b.cells i x.c j), .v (.int .i64 bl), .v (.int .i64 en)] := by
        rw [heg, hG, hcl]; rfl
       repeat first|refine wV fun _=>?_|simp [go_sem]
       rw [hEnc]
       refine ⟨.cons (.refl _) (.cons (.refl _) (.cons (.refl _) (.cons (zaB rfl (by omega) (by simp [noH]) (by rw [List.drop_zero, List.take_of_length_le (by omega)])) (.cons (.refl _) (.cons (.refl _) (.cons (zaB rfl (by omega) (by simp [noH]) (by rw [List.drop_zero, List.take_of_length_le (by omega)])) (.cons (.refl _) (.cons (.refl _) .nil)))))))), ?_⟩
       intro c hc
       simp only [List.mem_cons, List.not_mem_nil, or_false] at hc
       rcases hc with rfl | rfl | rfl | rfl | rfl | rfl | rfl | rfl | rfl
       all_goals first | exact .v _ | simp [go_sem]
     ·omega
     ·simp [go_sem, zaf, hbl, hen, hb3, hb4]
     ·simp)
  ·omega
  ·simp [go_sem, zaf, hK]
  ·simp
 ·have hK2 : zdg x = 1 := by rw [hKn, if_pos (by simp [hk1])]
  rw [hK2] at hK
  repeat first|refine wV fun _=>?_|simp [go_sem]
  refine zAC (zAG (α := Nat) (fun a => ⟨[(1, .ref 0 0 12 0 0), (2, .ref 1 0 9 0 0), (3, .ref 20 0 9 0 0), (4, .v (.int .i64 K)), (5, .v (.int .i64 a))],
   [(0, .rows true 0 12 [zcL x]), (1, .rows true 0 9 [[.v (.int .i64 0), zAI, zAI, zAI, .v (.int .i64 0), .v (.bool false), zAI, .v (.int .i64 0), .v (.int .i64 0)]]), (20, .rows true 0 9 [[.v (.int .i64 b.cells), zbY b.next, zap b.turn, .sl 22 a 3 0 a, .v (.int .i64 R), .v (.bool (decide (x.f1.tmod 4 = 3))), zAI, .v (.int .i64 3), .v (.int .i64 2)]]), (22, .rows true a 3 (ksR x a))], 23⟩)
   (fun d a => a + d = K) ?_ K 0 ?_) ?_ ?_
  ·rintro d0 i i1 hrec
   repeat first|refine wV fun _=>?_|simp [go_sem]
   refine zAE (fun hi => ?_) (fun hi => ?_) <;> simp at hi
   ·have hi2 : i = 0 ∨ i = 1 := by omega
    have hkl := hKl i
    have hkv := hKv i
    have hks : zeP x i = ⟨if i = 0 then zqh else zqi, ((x.ks i).take 4).map (fun n => zkx n b.next.length K x.rights), zuH x.f2 i⟩ := by rw [hbb, hK, ← hK2]; rfl
    rcases hi2 with rfl | rfl
    ·obtain ⟨kk, hkk⟩ : ∃ kk, kk = x.ks 0 := ⟨_, rfl⟩
     have hk0 : x.k0 = kk := hkk.symm
     rw [← hkk] at hkl hkv hks
     have hbit : zuH x.f2 0 = decide (zgi .u8 x.f2 1 = 1) := by simp [zuH]
     obtain ⟨f, hf⟩ : ∃ f, f = (fun n => zkx n b.next.length K x.rights) := ⟨_, rfl⟩
     have hfp : ∀ n, U8 n → zaP Tryz.prog 67 [.v (.int .u8 n), .v (.int .i64 b.next.length), .v (.int .i64 K), .v (.int .i64 R)] (zax (f n)) := fun n hn => by
      rw [hf, ← hR]; exact zeu n _ _ _ hn (by omega) (by omega) (by omega)
     rw [← hf, hbit] at hks
     repeat first|refine wV fun _=>?_|simp [go_sem, hk0]
     refine zAC (zAG (α := Nat) (fun n => ⟨[(1, .ref 0 0 12 0 0), (2, .ref 1 0 9 0 0), (3, .ref 20 0 9 0 0), (4, .v (.int .i64 K)), (5, .v (.int .i64 0)), (6, .ref 35 0 3 0 0), (7, .v (.int .i64 n))],
      [(0, .rows true 0 12 [zcL x]), (1, .rows true 0 9 [[.v (.int .i64 0), zAI, zAI, zAI, .v (.int .i64 0), .v (.bool false), zAI, .v (.int .i64 0), .v (.int .i64 0)]]), (20, .rows true 0 9 [[.v (.int .i64 b.cells), zbY b.next, zap b.turn, .sl 22 0 3 0 0, .v (.int .i64 R), .v (.bool (decide (x.f1.tmod 4 = 3))), zAI, .v (.int .i64 3), .v (.int .i64 2)]]), (22, .rows true 0 3 (ksR x 0)), (35, .rows true 0 3 [[.v (.string ⟨#[97]⟩), .sl 37 n 1 0 n, .v (.bool (decide (zgi .u8 x.f2 1 = 1)))]]), (37, .rows true n 1 (psR f kk n))], 38⟩)
      (fun d n => n + d = min kk.length 4) ?_ (min kk.length 4) 0 ?_) ?_ ?_
     ·rintro d n n1 hrec1
      repeat first|refine wV fun _=>?_|simp [go_sem, hk0]
      refine zAE (fun hn => ?_) (fun hn => ?_) <;> simp at hn
      ·have hn1 : n < kk.length := by omega
       have hn2 := hkv _ (zaj hn1)
       have hpl := zfj f kk (n := n) (by omega)
       repeat first|refine wV fun _=>?_|simp [go_sem, hk0, hn1]
       refine zAF (hfp _ hn2) (by simp [go_sem]) ?_
       repeat first|refine wV fun _=>?_|simp [go_sem, hk0, hn1, hpl]
       refine zAC (hrec1 (d - 1) (by omega) (n + 1) (by omega)) ?_ (by simp)
       simp [go_sem, zaf, hk0, zin f kk hn1]
      ·have hne : n = min kk.length 4 := by omega
       repeat first|refine wV fun _=>?_|simp [go_sem]
       refine zAC (hrec (d0 - 1) (by omega) (0 + 1) (by omega)) ?_ (by simp)
       have hkx : zwK (zeP x 0) = [.v (.string ⟨#[97]⟩), .lst 1 (psR f kk n), .v (.bool (decide (zgi .u8 x.f2 1 = 1)))] := by rw [hks, show psR f kk n = psR f kk (min kk.length 4) by rw [← hne]]; simp [zwK, zaV, psR, zqh, zqi, zax]; omega
       have hpl := zfj f kk (n := n) (by omega)
       simp [go_sem, zaf, hk0, zij x 0, hkx]
       (try refine zar (.refl _) (.cons (.cons (.refl _) (.cons ?_ (.cons (.refl _) .nil))) .nil))
       refine LeV.frz rfl ?_ ?_ (zAN ?_) <;> simp [mkH, upd, hpl, List.take_of_length_le]
     ·omega
     ·simp [go_sem, zaf, hk0]
     ·simp
    ·obtain ⟨kk, hkk⟩ : ∃ kk, kk = x.ks 1 := ⟨_, rfl⟩
     have hk0 : x.k1 = kk := hkk.symm
     rw [← hkk] at hkl hkv hks
     have hbit : zuH x.f2 1 = decide (zgi .u8 (x.f2.fdiv 2) 1 = 1) := by simp [zuH]
     obtain ⟨f, hf⟩ : ∃ f, f = (fun n => zkx n b.next.length K x.rights) := ⟨_, rfl⟩
     have hfp : ∀ n, U8 n → zaP Tryz.prog 67 [.v (.int .u8 n), .v (.int .i64 b.next.length), .v (.int .i64 K), .v (.int .i64 R)] (zax (f n)) := fun n hn => by
      rw [hf, ← hR]; exact zeu n _ _ _ hn (by omega) (by omega) (by omega)
     rw [← hf, hbit] at hks
     repeat first|refine wV fun _=>?_|simp [go_sem, hk0]
     refine zAC (zAG (α := Nat) (fun n => ⟨[(1, .ref 0 0 12 0 0), (2, .ref 1 0 9 0 0), (3, .ref 20 0 9 0 0), (4, .v (.int .i64 K)), (5, .v (.int .i64 1)), (6, .ref 35 0 3 0 0), (7, .v (.int .i64 n))],
      [(0, .rows true 0 12 [zcL x]), (1, .rows true 0 9 [[.v (.int .i64 0), zAI, zAI, zAI, .v (.int .i64 0), .v (.bool false), zAI, .v (.int .i64 0), .v (.int .i64 0)]]), (20, .rows true 0 9 [[.v (.int .i64 b.cells), zbY b.next, zap b.turn, .sl 22 1 3 0 1, .v (.int .i64 R), .v (.bool (decide (x.f1.tmod 4 = 3))), zAI, .v (.int .i64 3), .v (.int .i64 2)]]), (22, .rows true 1 3 (ksR x 1)), (35, .rows true 0 3 [[.v (.string ⟨#[98, 101, 101]⟩), .sl 37 n 1 0 n, .v (.bool (decide (zgi .u8 (x.f2.fdiv 2) 1 = 1)))]]), (37, .rows true n 1 (psR f kk n))], 38⟩)
      (fun d n => n + d = min kk.length 4) ?_ (min kk.length 4) 0 ?_) ?_ ?_
     ·rintro d n n1 hrec1
      repeat first|refine wV fun _=>?_|simp [go_sem, hk0]
      refine zAE (fun hn => ?_) (fun hn => ?_) <;> simp at hn
      ·have hn1 : n < kk.length := by omega
       have hn2 := hkv _ (zaj hn1)
       have hpl := zfj f kk (n := n) (by omega)
       repeat first|refine wV fun _=>?_|simp [go_sem, hk0, hn1]
       refine zAF (hfp _ hn2) (by simp [go_sem]) ?_
       repeat first|refine wV fun _=>?_|simp [go_sem, hk0, hn1, hpl]
       refine zAC (hrec1 (d - 1) (by omega) (n + 1) (by omega)) ?_ (by simp)
       simp [go_sem, zaf, hk0, zin f kk hn1]
      ·have hne : n = min kk.length 4 := by omega
       repeat first|refine wV fun _=>?_|simp [go_sem]
       refine zAC (hrec (d0 - 1) (by omega) (1 + 1) (by omega)) ?_ (by simp)
       have hkx : zwK (zeP x 1) = [.v (.string ⟨#[98, 101, 101]⟩), .lst 1 (psR f kk n), .v (.bool (decide (zgi .u8 (x.f2.fdiv 2) 1 = 1)))] := by rw [hks, show psR f kk n = psR f kk (min kk.length 4) by rw [← hne]]; simp [zwK, zaV, psR, zqh, zqi, zax]; omega
       have hpl := zfj f kk (n := n) (by omega)
       simp [go_sem, zaf, hk0, zij x 1, hkx]
       (try refine zar (.refl _) (.cons (.cons (.refl _) (.cons ?_ (.cons (.refl _) .nil))) .nil))
       refine LeV.frz rfl ?_ ?_ (zAN ?_) <;> simp [mkH, upd, hpl, List.take_of_length_le]
     ·omega
     ·simp [go_sem, zaf, hk0]
     ·simp
   ·have hiK : i = K := by omega
    subst hiK
    repeat first|refine wV fun _=>?_|simp [go_sem]
    refine zAE (fun hb3 => ?_) (fun hb3 => ?_) <;> simp at hb3 <;> (repeat (first|refine wV fun _=>?_|simp [go_sem]))
    all_goals refine zAE (fun hb4 => ?_) (fun hb4 => ?_) <;> simp at hb4 <;> (repeat (first|refine wV fun _=>?_|simp [go_sem]))
    all_goals (
     refine zAC (zAG (α := Nat) (fun a => ⟨[(1, .ref 0 0 12 0 0), (2, .ref 1 0 9 0 0), (3, .ref 20 0 9 0 0), (4, .v (.int .i64 i)), (8, .v (.int .i64 a))],
      [(0, .rows true 0 12 [zcL x]), (1, .rows true 0 9 [[.v (.int .i64 0), zAI, zAI, zAI, .v (.int .i64 0), .v (.bool false), zAI, .v (.int .i64 0), .v (.int .i64 0)]]), (20, .rows true 0 9 [[.v (.int .i64 b.cells), zbY b.next, zap b.turn, .sl 22 i 3 0 i, .v (.int .i64 R), .v (.bool (decide (x.f1.tmod 4 = 3))), .sl 23 a 4 0 a, .v (.int .i64 bl), .v (.int .i64 en)]]), (22, .rows true i 3 (ksR x i)), (23, .rows true a 4 (clR b.cells i x.c a))], 24⟩)
      (fun d a => a + d = min x.c.length 3) ?_ (min x.c.length 3) 0 ?_) ?_ ?_
     ·rintro d j j1 hrec2
      repeat first|refine wV fun _=>?_|simp [go_sem]
      refine zAE (fun hj => ?_) (fun hj => ?_) <;> simp at hj
      ·have hj1 : j < x.c.length := by omega
       have hjc := hx.c _ (zaj hj1)
       have hpl := zmg b.cells i x.c (n := j) (by omega)
       have hsu := zqY b.cells i x.c hj1
       generalize hcx : nth x.c j = c at *
       obtain ⟨c0, c1, c2⟩ := c
       obtain ⟨u0, u1, u2⟩ := hjc
       obtain ⟨w0, w0'⟩ := qq _ u0
       obtain ⟨v0, v0'⟩ := u0
       obtain ⟨v1, v1'⟩ := u1
       obtain ⟨v2, v2'⟩ := u2
       simp only at v0 v0' v1 v1' v2 v2' w0 w0'
       have t0 := Int.tmod_nonneg 3 v0
       have t1 := Int.tmod_lt_of_pos c0 (show (0 : Int) < 3 by decide)
       have hip : (0 : Int) < i := by omega
       have k0 := Int.tmod_nonneg i v1
       have n0 := Int.tmod_nonneg b.cells v2
       have n1 := Int.tmod_nonneg 3 v2
       rcases (show c0.tmod 3 = 0 ∨ c0.tmod 3 = 1 ∨ c0.tmod 3 = 2 by omega) with ht | ht | ht
       ·have hr : zsj (zbe b.cells i (c0, c1, c2)) = [.v (.int .i64 1), .v (.int .i64 (c1.tmod i)), .v (.int .i64 0), .v (.int .i64 (1 + (c0.tdiv 4).tmod 3))] := by simp [zsj, zbe, zaZ, ht]
        repeat first|refine wV fun _=>?_|simp [go_sem, hj1, hcx, ht, hpl]
        refine zAC (hrec2 (d - 1) (by omega) (j + 1) (by omega)) ?_ (by simp)
        simp [go_sem, zaf, hsu, hr]
       ·have hr : zsj (zbe b.cells i (c0, c1, c2)) = [.v (.int .i64 2), .v (.int .i64 (c1.tmod i)), .v (.int .i64 (c2.tmod b.cells)), .v (.int .i64 (1 + (c0.tdiv 4).tmod 3))] := by simp [zsj, zbe, zaZ, ht]
        repeat first|refine wV fun _=>?_|simp [go_sem, hj1, hcx, ht, hpl]
        refine zAC (hrec2 (d - 1) (by omega) (j + 1) (by omega)) ?_ (by simp)
        simp [go_sem, zaf, hsu, hr]
       ·have hr : zsj (zbe b.cells i (c0, c1, c2)) = [.v (.int .i64 3), .v (.int .i64 0), .v (.int .i64 (c2.tmod 3)), .v (.int .i64 (1 + (c0.tdiv 4).tmod 3))] := by simp [zsj, zbe, zaZ, ht]
        repeat first|refine wV fun _=>?_|simp [go_sem, hj1, hcx, ht, hpl]
        refine zAC (hrec2 (d - 1) (by omega) (j + 1) (by omega)) ?_ (by simp)
        simp [go_sem, zaf, hsu, hr]
      ·have hki : zdg x = i := by rw [hK2, hK]
       have hjm : j = min x.c.length 3 := by omega
       have htk : x.c.take (min x.c.length 3) = x.c.take 3 := by rw [List.take_eq_take_iff]; omega
       have hpl := zmg b.cells i x.c (n := j) (by omega)
       have hkl : (ksR x i).length = i := zvs x i
       have hcl : clR b.cells i x.c j = ((x.c.take 3).map (zbe b.cells i)).map zaZ := by unfold clR; rw [hjm, htk]
       have hG : zhd x = { cells := b.cells, next := b.next, turn := b.turn, kinds := (List.range i).map (zeP x), rights := R, must := decide (x.f1.tmod 4 = 3), clauses := (x.c.take 3).map (zbe b.cells i), blocked := bl, endless := en } := by
        unfold zhd; rw [hki, ← hbb, ← hR, ← hbl, ← hen]
       have hEnc : eg = [.v (.int .i64 b.cells), zbY b.next, zap b.turn, .lst 3 (ksR x i), .v (.int .i64 R), .v (.bool (decide (x.f1.tmod 4 = 3))), .lst 4 (clR b.cells i x.c j), .v (.int .i64 bl), .v (.int .i64 en)] := by
        rw [heg, hG, hcl]; rfl
       repeat first|refine wV fun _=>?_|simp [go_sem]
       rw [hEnc]
       refine ⟨.cons (.refl _) (.cons (.refl _) (.cons (.refl _) (.cons (zaB rfl (by omega) (by simp [noH]) (by rw [List.drop_zero, List.take_of_length_le (by omega)])) (.cons (.refl _) (.cons (.refl _) (.cons (zaB rfl (by omega) (by simp [noH]) (by rw [List.drop_zero, List.take_of_length_le (by omega)])) (.cons (.refl _) (.cons (.refl _) .nil)))))))), ?_⟩
       intro c hc
       simp only [List.mem_cons, List.not_mem_nil, or_false] at hc
       rcases hc with rfl | rfl | rfl | rfl | rfl | rfl | rfl | rfl | rfl
       all_goals first | exact .v _ | simp [go_sem]
     ·omega
     ·simp [go_sem, zaf, hbl, hen, hb3, hb4]
     ·simp)
  ·omega
  ·simp [go_sem, zaf, hK]
  ·simp
theorem zo9 (g : zad) (hg : GOk g) (x : zkd) (hx : ziB x) : zaP Tryz.prog 17 [.agg (zae g), .agg (zcM x)] (.agg (zac (zd5 g x))) := by
 refine pF Tryz.func17 ?_
 obtain ⟨q, hq⟩ : ∃ q, q = zd5 g x := ⟨_, rfl⟩
 have hrow := zoB hx
 obtain ⟨er, her⟩ : ∃ er, er = zcM x := ⟨_, rfl⟩
 rw [← hq, ← her]
 rw [← her] at hrow
 obtain ⟨rl, rc, rk, rh, rr, rs, rb⟩ := hrow
 have c1 := hg.c1
 have c9 := hg.c9
 have k1 := hg.k1
 have k6 := hg.k6
 have hr0 := hg.r0
 have hr4 := hg.r4
 obtain ⟨gc, hgc⟩ : ∃ gc : Nat, g.cells = gc := ⟨g.cells.toNat, by omega⟩
 have hpow : (1 : Int) ≤ 2 ^ g.rights.toNat ∧ (2 : Int) ^ g.rights.toNat ≤ 16 := by
  rcases (show g.rights.toNat = 0 ∨ g.rights.toNat = 1 ∨ g.rights.toNat = 2 ∨ g.rights.toNat = 3 ∨ g.rights.toNat = 4 by omega) with h | h | h | h | h <;> rw [h] <;> decide
 have hrt := hx.r
 have hsd := hx.s
 obtain ⟨rt, hrt'⟩ : ∃ rt, x.rights = rt := ⟨_, rfl⟩
 obtain ⟨pw, hpw⟩ : ∃ pw : Int, (2 : Int) ^ g.rights.toNat = pw := ⟨_, rfl⟩
 have r1 : 0 ≤ x.rights ∧ x.rights ≤ 255 := hx.r
 have s1 : 0 ≤ x.side ∧ x.side ≤ 255 := hx.s
 have s0 := Int.tmod_nonneg 2 s1.1
 have s2 := Int.tmod_lt_of_pos x.side (show (0 : Int) < 2 by decide)
 rw [hpw] at hpow
 generalize heg : zae g = eg at *
 have hel : eg.length = 9 := by rw [← heg]; rfl
 have hbl : ∀ n, (∀ c' ∈ eg, Bel n c') = True := fun n => by rw [← heg]; simp [go_sem]
 have e0 : cel eg 0 = .v (.int .i64 g.cells) := by rw [← heg]; rfl
 have e3 : cel eg 3 = .lst 3 (g.kinds.map zaV) := by rw [← heg]; rfl
 have e4 : cel eg 4 = .v (.int .i64 g.rights) := by rw [← heg]; rfl
 repeat first|refine wV fun _=>?_|simp [go_sem, hel, e0, e3, e4, rl, rr, rs, rb, hbl, hpw]
 have hcz : g.cells.toNat = gc := by omega
 have hkne : g.kinds ≠ [] := by intro h; rw [h] at k1; simp at k1
 have hz : List.replicate gc [AV.v (.int .i64 0)] = (zdJ g x 0).map zbB := by simp [zdJ, hcz, zbB]
 refine zAC (zAG (α := Nat) (fun i => ⟨[(2, .ref 0 0 9 0 0), (3, .ref 1 0 18 0 0), (4, .ref 2 0 5 0 0), (5, .ref 19 0 5 0 0), (6, .v (.int .i64 i))], [(0, .rows true 0 9 [eg]), (1, .rows true 0 18 [er]), (2, .rows true 0 5 [[zAI, zAI, zAI, .v (.int .i64 0), .v (.int .i64 0)]]), (6, .rows true 0 1 ((zdJ g x i).map zbB)), (19, .rows true 0 5 [[.sl 6 0 1 0 gc, zAI, zAI, .v (.int .i64 (x.rights.tmod pw)), .v (.int .i64 (x.side.tmod 2))]])], 21⟩)
  (fun d i => i + d = 6) ?_ 6 0 ?_) ?_ ?_
 ·rintro d i i1 hrec
  repeat first|refine wV fun _=>?_|simp [go_sem]
  refine zAE (fun hi => ?_) (fun hi => ?_) <;> simp at hi
  ·have hci := hx.cv _ (zaj (l := x.cell) (i := i) (by rw [hx.c6]; omega))
   have hki := hx.kv _ (zaj (l := x.kind) (i := i) (by rw [hx.k6]; omega))
   have hci' : 0 ≤ nth x.cell i ∧ nth x.cell i ≤ 255 := hci
   have hki' : 0 ≤ nth x.kind i ∧ nth x.kind i ≤ 255 := hki
   have m0 := Int.tmod_nonneg (g.cells + 1) hci'.1
   have m1 := Int.tmod_nonneg (g.kinds.length : Int) hki'.1
   have m2 := Int.tmod_lt_of_pos (nth x.kind i) (show (0 : Int) < g.kinds.length by omega)
   have m3 := Int.tmod_nonneg 2 (show (0 : Int) ≤ i by omega)
   have m4 := Int.tmod_lt_of_pos (i : Int) (show (0 : Int) < 2 by decide)
   have hrc := rc i (by omega)
   have hrk := rk i (by omega)
   have hsu := zf8 g x i
   have hal := zhc g x i
   rw [hcz] at hal
   unfold zkQ at hsu
   repeat first|refine wV fun _=>?_|simp [go_sem, hel, e0, e3, e4, hrc, hrk]
   refine zAE (fun hc => ?_) (fun hc => ?_) <;> simp at hc
   ·have hc1 := hc.1
    rw [if_pos hc1] at hsu
    repeat first|refine wV fun _=>?_|simp [go_sem, hel, e0, e3, e4, hrc, hrk, hal]
    refine zAC (hrec (d - 1) (by omega) (i + 1) (by omega)) ?_ (by simp)
    simp [go_sem, zaf, hsu, rb, hbl]
   ·have hc1 : ¬ (nth x.cell i).tmod (g.cells + 1) < g.cells := fun h => hkne (hc h)
    rw [if_neg hc1] at hsu
    repeat first|refine wV fun _=>?_|simp [go_sem, hel, e0, e3, e4, hrc, hrk]
    refine zAC (hrec (d - 1) (by omega) (i + 1) (by omega)) ?_ (by simp)
    simp [go_sem, zaf, hsu, rb, hbl]
  ·obtain rfl : i = 6 := by omega
   have hal := zhc g x 6
   rw [hcz] at hal
   have hqe : q = ⟨zdJ g x 6, zd3 g x 0 (min g.kinds.length 2), zd3 g x 1 (min g.kinds.length 2), x.rights.tmod pw, x.side.tmod 2⟩ := by rw [hq, ← hpw]; rfl
   clear hq
   have hq := hqe
   repeat first|refine wV fun _=>?_|simp [go_sem, hel, e0, e3, e4]
   refine zAK ?_
   repeat first|refine wV fun _=>?_|simp [go_sem, hel, e0, e3, e4]
   have hz0 := zk7 g x 0
   refine zAC (zAG (α := Nat) (fun k => ⟨[(2, .ref 0 0 9 0 0), (3, .ref 1 0 18 0 0), (4, .ref 2 0 5 0 0), (5, .ref 19 0 5 0 0), (8, .v (.int .i64 0)), (9, .v (.int .i64 k))], [(0, .rows true 0 9 [eg]), (1, .rows true 0 18 [er]), (2, .rows true 0 5 [[zAI, zAI, zAI, .v (.int .i64 0), .v (.int .i64 0)]]), (6, .rows true 0 1 ((zdJ g x 6).map zbB)), (19, .rows true 0 5 [[.sl 6 0 1 0 gc, .sl 21 0 1 0 g.kinds.length, zAI, .v (.int .i64 (x.rights.tmod pw)), .v (.int .i64 (x.side.tmod 2))]]), (21, .rows true 0 1 ((zd3 g x 0 k).map zbB))], 22⟩)
    (fun d k => k + d = min g.kinds.length 2) ?_ (min g.kinds.length 2) 0 ?_) ?_ ?_
   ·rintro d k j1 hrec0
    repeat first|refine wV fun _=>?_|simp [go_sem, hel, e0, e3, e4]
    refine zAE (fun hj => ?_) (fun hj => ?_) <;> simp at hj
    ·have hk2 : k < 2 := by omega
     have hkk : k < g.kinds.length := by omega
     have hhv := hx.hv _ (zaj (l := x.hand) (i := 2 * 0 + k) (by rw [hx.h4]; omega))
     have hh1 : 0 ≤ nth x.hand (2 * 0 + k) ∧ nth x.hand (2 * 0 + k) ≤ 255 := hhv
     have hrh := rh (2 * 0 + k) (by omega)
     have m0 := Int.tmod_nonneg 3 hh1.1
     have hsu := zk6 g x 0 k
     have hsk := zk5 g x 0 k
     have hhl := zdf g x 0 k
     have hV : zp0 g x 0 k = if (nth g.kinds k).keep = true then (if 250 < nth x.hand (2 * 0 + k) then 8 else (nth x.hand (2 * 0 + k)).tmod 3) else 0 := rfl
     simp only [Nat.mul_zero, Nat.zero_add, Nat.mul_one] at hrh hh1 m0 hV
     repeat first|refine wV fun _=>?_|simp [go_sem, hel, e0, e3, e4, hkk]
     refine zAE (fun hkeep => ?_) (fun hkeep => ?_)
     ·rw [if_pos hkeep] at hV
      have eI : ((k : Int)).toNat = k := by omega
      have eI2 : (k : Int) < 4 := by omega
      repeat first|refine wV fun _=>?_|simp [go_sem, hel, e0, e3, e4, hkk, hrh, hhl, eI, eI2]
      refine zAE (fun hbig => ?_) (fun hbig => ?_) <;> simp at hbig
      ·rw [if_pos hbig] at hV
       rw [hV] at hsu
       repeat first|refine wV fun _=>?_|simp [go_sem, hel, e0, e3, e4, hkk, hrh, hhl]
       refine zAC (hrec0 (d - 1) (by omega) (k + 1) (by omega)) ?_ (by simp)
       simp [go_sem, zaf, hsu, rb, hbl]
      ·rw [if_neg (by omega)] at hV
       rw [hV] at hsu
       repeat first|refine wV fun _=>?_|simp [go_sem, hel, e0, e3, e4, hkk, hrh, hhl]
       refine zAC (hrec0 (d - 1) (by omega) (k + 1) (by omega)) ?_ (by simp)
       simp [go_sem, zaf, hsu, rb, hbl]
     ·rw [if_neg (by simpa using hkeep)] at hV
      have hsk' := hsk hV
      repeat first|refine wV fun _=>?_|simp [go_sem, hel, e0, e3, e4]
      refine zAC (hrec0 (d - 1) (by omega) (k + 1) (by omega)) ?_ (by simp)
      simp [go_sem, zaf, hsk', rb, hbl]
    ·have hkm : k = min g.kinds.length 2 := by omega
     subst hkm
     repeat first|refine wV fun _=>?_|simp [go_sem, hel, e0, e3, e4]
     refine zAK ?_
     repeat first|refine wV fun _=>?_|simp [go_sem, hel, e0, e3, e4]
     have hz1 := zk7 g x 1
     refine zAC (zAG (α := Nat) (fun k => ⟨[(2, .ref 0 0 9 0 0), (3, .ref 1 0 18 0 0), (4, .ref 2 0 5 0 0), (5, .ref 19 0 5 0 0), (8, .v (.int .i64 1)), (9, .v (.int .i64 k))], [(0, .rows true 0 9 [eg]), (1, .rows true 0 18 [er]), (2, .rows true 0 5 [[zAI, zAI, zAI, .v (.int .i64 0), .v (.int .i64 0)]]), (6, .rows true 0 1 ((zdJ g x 6).map zbB)), (19, .rows true 0 5 [[.sl 6 0 1 0 gc, .sl 21 0 1 0 g.kinds.length, .sl 22 0 1 0 g.kinds.length, .v (.int .i64 (x.rights.tmod pw)), .v (.int .i64 (x.side.tmod 2))]]), (21, .rows true 0 1 ((zd3 g x 0 (min g.kinds.length 2)).map zbB)), (22, .rows true 0 1 ((zd3 g x 1 k).map zbB))], 23⟩)
      (fun d k => k + d = min g.kinds.length 2) ?_ (min g.kinds.length 2) 0 ?_) ?_ ?_
     ·rintro d k j1 hrec1
      repeat first|refine wV fun _=>?_|simp [go_sem, hel, e0, e3, e4]
      refine zAE (fun hj => ?_) (fun hj => ?_) <;> simp at hj
      ·have hk2 : k < 2 := by omega
       have hkk : k < g.kinds.length := by omega
       have hhv := hx.hv _ (zaj (l := x.hand) (i := 2 * 1 + k) (by rw [hx.h4]; omega))
       have hh1 : 0 ≤ nth x.hand (2 * 1 + k) ∧ nth x.hand (2 * 1 + k) ≤ 255 := hhv
       have hrh := rh (2 * 1 + k) (by omega)
       have m0 := Int.tmod_nonneg 3 hh1.1
       have hsu := zk6 g x 1 k
       have hsk := zk5 g x 1 k
       have hhl := zdf g x 1 k
       have hV : zp0 g x 1 k = if (nth g.kinds k).keep = true then (if 250 < nth x.hand (2 * 1 + k) then 8 else (nth x.hand (2 * 1 + k)).tmod 3) else 0 := rfl
       simp only [Nat.mul_zero, Nat.zero_add, Nat.mul_one] at hrh hh1 m0 hV
       repeat first|refine wV fun _=>?_|simp [go_sem, hel, e0, e3, e4, hkk]
       refine zAE (fun hkeep => ?_) (fun hkeep => ?_)
       ·rw [if_pos hkeep] at hV
        have eI : (2 + (k : Int)).toNat = 2 + k := by omega
        have eI2 : 2 + (k : Int) < 4 := by omega
        repeat first|refine wV fun _=>?_|simp [go_sem, hel, e0, e3, e4, hkk, hrh, hhl, eI, eI2]
        refine zAE (fun hbig => ?_) (fun hbig => ?_) <;> simp at hbig
        ·rw [if_pos hbig] at hV
         rw [hV] at hsu
         repeat first|refine wV fun _=>?_|simp [go_sem, hel, e0, e3, e4, hkk, hrh, hhl]
         refine zAC (hrec1 (d - 1) (by omega) (k + 1) (by omega)) ?_ (by simp)
         simp [go_sem, zaf, hsu, rb, hbl]
        ·rw [if_neg (by omega)] at hV
         rw [hV] at hsu
         repeat first|refine wV fun _=>?_|simp [go_sem, hel, e0, e3, e4, hkk, hrh, hhl]
         refine zAC (hrec1 (d - 1) (by omega) (k + 1) (by omega)) ?_ (by simp)
         simp [go_sem, zaf, hsu, rb, hbl]
       ·rw [if_neg (by simpa using hkeep)] at hV
        have hsk' := hsk hV
        repeat first|refine wV fun _=>?_|simp [go_sem, hel, e0, e3, e4]
        refine zAC (hrec1 (d - 1) (by omega) (k + 1) (by omega)) ?_ (by simp)
        simp [go_sem, zaf, hsk', rb, hbl]
      ·have hkm : k = min g.kinds.length 2 := by omega
       subst hkm
       repeat first|refine wV fun _=>?_|simp [go_sem, hel, e0, e3, e4]
       repeat first|refine wV fun _=>?_|simp [go_sem, hel, e0, e3, e4]
       refine zAK ?_
       repeat first|refine wV fun _=>?_|simp [go_sem, hel, e0, e3, e4]
       rw [hq]
       exact ⟨zaB rfl (by simp [hal]) (by simp [noH]) (by simp [List.take_of_length_le, hal]), zaB rfl (by simp [zdf]) (by simp [noH]) (by simp [List.take_of_length_le, zdf]), zaB rfl (by simp [zdf]) (by simp [noH]) (by simp [List.take_of_length_le, zdf]), .refl _, .refl _⟩
     ·omega
     ·simp [go_sem, zaf, rb, hbl, hz1]
     ·simp
   ·omega
   ·simp [go_sem, zaf, rb, hbl, hz0]
   ·simp
 ·rfl
 ·simp [go_sem, zaf, rb, hbl, hz, hcz]
 ·simp
theorem ziA (g : zad) (hg : GOk g) (p : zag) (hp : POk g p) (picks : List Int) (hl : picks.length ≤ 4294967296) (hk : ∀ k ∈ picks, 0 ≤ k ∧ k ≤ 9223372036854775807) :
    zaP Tryz.prog 83 [.agg (zae g), .agg (zac p), zap picks] (zaI (zdu g p picks)) := by
  refine pF Tryz.func83 ?_
  generalize hR : zdu g p picks = R
  repeat first|refine wV fun _=>?_|simp [go_sem]
  refine zAC (zAG (α := Nat × List zag × zag) (fun a => ⟨[(2, zap picks), (3, .ref 0 0 9 0 0), (4, .ref 1 0 5 0 0), (7, .sl 2 a.2.1.length 5 0 (a.2.1.length + 1)), (8, .v (.int .i64 a.1))], [(0, .rows true 0 9 [zae g]), (1, .rows true 0 5 [zac a.2.2]), (2, .rows true a.2.1.length 5 ((a.2.1 ++ [a.2.2]).map zac))], 3⟩)
    (fun d a => a.1 + d = picks.length ∧ a.2.1.length = a.1 ∧ POk g a.2.2 ∧ R = a.2.1 ++ zdu g a.2.2 (picks.drop a.1)) ?_ picks.length (0, [], p) ?_) ?_ ?_
  · rintro d ⟨i, pre, cur⟩ ⟨i1, i2, i3, i4⟩ hrec
    simp only at i1 i2 i3 i4
    repeat first|refine wV fun _=>?_|simp [go_sem]
    refine zAE (fun hi => ?_) (fun hi => ?_) <;> simp at hi
    · have hM := zhw g hg cur i3
      have hki := hk _ (zaj hi)
      have hml := zlr hg i3
      have hmo := zdi hg i3
      rw [zaQ hi, zdu] at i4
      generalize zaC g cur = l at *
      repeat first|refine wV fun _=>?_|simp [go_sem]
      refine zAD hM (by simp [go_sem]) ?_
      repeat first|refine wV fun _=>?_|simp [go_sem]
      by_cases hz : l = []
      · rw [if_pos hz] at i4
        subst hz
        repeat first|refine wV fun _=>?_|simp [go_sem]
        rw [i4]
        exact frX
      · rw [if_neg hz] at i4
        have hlp : 0 < l.length := List.length_pos_iff.2 hz
        have e1 : (nth picks i).tmod l.length = (nth picks i).emod l.length := Int.tmod_eq_emod_of_nonneg hki.1
        have e2 : 0 ≤ (nth picks i).emod l.length := Int.emod_nonneg _ (by omega)
        have e3 : (nth picks i).emod l.length < l.length := Int.emod_lt_of_pos _ (by omega)
        generalize (nth picks i).emod l.length = j at *
        have hjl : j.toNat < l.length := by omega
        repeat first|refine wV fun _=>?_|simp [go_sem, hi, hz, e1, hjl]
        (refine zAE (fun hF => by first | omega | (simp at hF; omega)) (fun hF => ?_); clear hF)
        repeat first|refine wV fun _=>?_|simp [go_sem, hjl]
        refine zAC (hrec (d - 1) (by omega) (i + 1, pre ++ [cur], nth l j.toNat) ⟨by simp only; omega, by simp; omega, (hmo _ (zaj hjl)).1, by simpa using i4⟩) ?_ (by simp)
        simp [go_sem, zaf]
    · rw [List.drop_eq_nil_of_le hi, zdu] at i4
      repeat first|refine wV fun _=>?_|simp [go_sem]
      rw [i4]
      exact frX
  · exact ⟨by simp, rfl, hp, by simp [hR]⟩
  · simp [go_sem, zaf]
  · simp
structure zlV where
  g : zhY
  p : zkd
  picks : List Int
structure zeM (x : zlV) : Prop where
  g : zrH x.g
  p : ziB x.p
  k : ∀ n ∈ x.picks, U8 n
  lk : x.picks.length ≤ 1099511627776
  l0 : x.g.k0.length ≤ 1099511627776
  l1 : x.g.k1.length ≤ 1099511627776
  lc : x.g.c.length ≤ 1099511627776
def zdD (x : zlV) : List AV := zcL x.g ++ (zcM x.p ++ [zst x.picks])
def zbD (x : zlV) : zad := zhd x.g
def zqD (x : zlV) : List zag := zdu (zbD x) (zd5 (zbD x) x.p) (x.picks.take 6)
def zyZ (x : zlV) : zag := nth (zqD x) ((zqD x).length - 1)
theorem zeD {x : zlV} (hx : zeM x) : GOk (zbD x) := zx4 hx.g
theorem zv3 {x : zlV} (hx : zeM x) : POk (zbD x) (zyZ x) := by
  have hne := List.length_pos_iff.2 (ziq (zbD x) (zd5 (zbD x) x.p) (x.picks.take 6))
  exact zmU (zeD hx) _ (zln (zeD hx) hx.p) _ (zaj (by unfold zqD; omega))
theorem zpg (x : zlV) (hx : zeM x) : zaP Tryz.prog 28 [.agg (zdD x)] (.tup [.agg (zae (zbD x)), .agg (zac (zyZ x))]) := by
  refine pF Tryz.func28 ?_
  have hg := zeD hx
  have hG := zo8 x.g hx.g hx.lc hx.l0 hx.l1
  have hP := zo9 (zbD x) hg x.p hx.p
  have hlk := hx.lk
  have hW := ziA (zbD x) hg (zd5 (zbD x) x.p) (zln hg hx.p) (x.picks.take 6) (by simp; omega) (fun k hk => by have := hx.k k (List.mem_of_mem_take hk); have h0 := this.1; have h1 := this.2; omega)
  have hwl := zj7 (zbD x) (x.picks.take 6) (zd5 (zbD x) x.p)
  have hwp := List.length_pos_iff.2 (ziq (zbD x) (zd5 (zbD x) x.p) (x.picks.take 6))
  rw [show zdu (zbD x) (zd5 (zbD x) x.p) (x.picks.take 6) = zqD x from rfl] at hW hwl hwp
  have hq : zyZ x = nth (zqD x) ((zqD x).length - 1) := rfl
  rw [show zhd x.g = zbD x from rfl] at hG
  obtain ⟨eg, heg⟩ : ∃ eg, eg = zae (zbD x) := ⟨_, rfl⟩
  have hegl : eg.length = 9 := by rw [heg]; rfl
  have hegb : ∀ n, (∀ c ∈ eg, Bel n c) = True := fun n => by rw [heg]; simp [go_sem]
  rw [← heg] at hG hP hW ⊢
  generalize zqD x = w at *
  generalize zyZ x = q at *
  unfold zdD
  have hrow := zoB hx.p
  obtain ⟨er, her⟩ : ∃ er, er = zcM x.p := ⟨_, rfl⟩
  rw [← her] at hrow hP ⊢
  obtain ⟨rl, _, _, _, _, _, rb⟩ := hrow
  obtain ⟨er1, her1⟩ : ∃ er1, er1 = zcL x.g := ⟨_, rfl⟩
  have er1l : er1.length = 12 := by rw [her1]; rfl
  have er1b : ∀ n, (∀ c ∈ er1, Bel n c) = True := fun n => by rw [her1]; simp [go_sem]
  rw [← her1] at hG ⊢
  have hc30 : cel (er1 ++ (er ++ [AV.lst 1 (x.picks.map zi0)])) 30 = .lst 1 (x.picks.map zi0) := by
    unfold cel
    rw [List.getD_eq_getElem?_getD, List.getElem?_append_right (by omega), List.getElem?_append_right (by omega)]
    simp [er1l, rl]
  have hd12 : List.take 18 (List.drop 12 (er1 ++ (er ++ [AV.lst 1 (x.picks.map zi0)]))) = er := by
    rw [← er1l, List.drop_left, ← rl, List.take_left]
  repeat first|refine wV fun _=>?_|simp [go_sem, rl, rb, er1l, er1b, hegl, hegb]
  refine zAD hG (by simp [go_sem, er1b]) ?_
  repeat first|refine wV fun _=>?_|simp [go_sem, rl, rb, er1l, er1b, hegl, hegb, hc30]
  obtain ⟨pk, hpk⟩ : ∃ pk : Nat → List Int, ∀ i, pk i = x.picks.take i := ⟨_, fun _ => rfl⟩
  have htl : ∀ i, i ≤ x.picks.length → (pk i).length = i := fun i hi => by rw [hpk]; simp; omega
  have hts : ∀ i, i < x.picks.length → pk (i + 1) = pk i ++ [nth x.picks i] := fun i hi => by rw [hpk, hpk, List.take_add_one, List.getElem?_eq_getElem hi, zau _ _ hi]; rfl
  have hp0 : pk 0 = [] := by rw [hpk]; rfl
  rw [← hpk] at hW
  refine zAC (zAG (α := Nat) (fun i => ⟨[(1, .ref 0 0 31 0 0), (2, .ref 1 0 9 0 0), (3, .ref 2 0 5 0 0), (4, .ref 3 0 9 0 0), (5, .sl 4 i 1 0 i), (6, .v (.int .i64 i))],
      [(0, .rows true 0 31 [er1 ++ (er ++ [AV.lst 1 (x.picks.map zi0)])]), (1, .rows true 0 9 [[.v (.int .i64 0), zAI, zAI, zAI, .v (.int .i64 0), .v (.bool false), zAI, .v (.int .i64 0), .v (.int .i64 0)]]),
       (2, .rows true 0 5 [[zAI, zAI, zAI, .v (.int .i64 0), .v (.int .i64 0)]]), (3, .rows true 0 9 [eg]), (4, .rows true i 1 ((pk i).map zbB))], 5⟩)
    (fun d i => i + d = min x.picks.length 6) ?_ (min x.picks.length 6) 0 ?_) ?_ ?_
  · rintro d i i1 hrec
    repeat first|refine wV fun _=>?_|simp [go_sem, rl, rb, er1l, er1b, hegl, hegb, hc30]
    refine zAE (fun hi => ?_) (fun hi => ?_) <;> simp at hi
    · have hil : i < x.picks.length := by omega
      have hki := hx.k _ (zaj hil)
      have hk0 := hki.1
      have hk1 := hki.2
      have e1 := htl i (by omega)
      have e2 := hts i hil
      repeat first|refine wV fun _=>?_|simp [go_sem, rl, er1l, hc30, hil, e1]
      refine zAC (hrec (d - 1) (by omega) (i + 1) (by omega)) ?_ (by simp)
      simp [go_sem, zaf, e2, rb, er1b, hegb]
    · have hil : i = min x.picks.length 6 := by omega
      have e1 := htl i (by omega)
      have e2 : pk i = pk 6 := by rw [hpk, hpk, hil, List.take_eq_take_iff]; omega
      rw [← e2] at hW
      repeat first|refine wV fun _=>?_|simp [go_sem, rl, rb, er1l, er1b, hegl, hegb, hd12]
      refine zAF hP (by simp [go_sem, hegb, rb]) ?_
      repeat first|refine wV fun _=>?_|simp [go_sem, rl, rb, er1l, er1b, hegl, hegb]
      refine zaw.frz [.agg eg, .agg (zac (zd5 (zbD x) x.p)), zap (pk i)] _ [4] [(4, some (.rows false i 1 ((pk i).map zbB)))] hW ?_ ?_ (by simp [go_sem, hegb]) ?_
      · intro p hp
        simp only [List.mem_singleton] at hp
        subst hp
        exact ⟨by simp, i, 1, _, rfl, by simp [upd]⟩
      · intro h₁ hS
        have h7 := hS 4 (by simp)
        simp [upd] at h7
        exact .cons (.refl _) (.cons (.refl _) (.cons (zaB h7.symm (by simp [e1]) (by simp [zai, upd]) (by rw [List.drop_zero, List.take_of_length_le (by simp [e1])])) .nil))
      · have h6 : (x.picks.take 6).length ≤ 6 := by simp; omega
        have hw7 : w.length ≤ 7 := by omega
        have hwi : ((w.length : Int) - 1).toNat = w.length - 1 := by omega
        have hwn : w.length - 1 < w.length := by omega
        rw [hq]
        repeat first|refine wV fun _=>?_|simp [go_sem, rl, rb, er1l, er1b, hegl, hegb, hwi, hwn]
  · omega
  · simp [go_sem, zaf, rb, er1b, hegb, hp0]
  · simp
theorem zyo {x : zlV} (hx : zeM x) : (zdD x).length = 31 := by
  obtain ⟨rl, _, _, _, _, _, rb⟩ := zoB hx.p
  simp [zdD, zcL, rl]
theorem zyn {x : zlV} (hx : zeM x) (n : Nat) : (∀ c ∈ zdD x, Bel n c) = True := by
  obtain ⟨rl, _, _, _, _, _, rb⟩ := zoB hx.p
  refine eq_true ?_
  intro c hc
  unfold zdD at hc
  rcases List.mem_append.1 hc with h | h
  · have : (∀ c ∈ zcL x.g, Bel n c) = True := by simp [go_sem]
    exact of_eq_true this c h
  · rcases List.mem_append.1 h with h | h
    · exact of_eq_true (rb n) c h
    · simp only [List.mem_singleton] at h
      subst h
      simp [go_sem]
theorem zoR (n : Int) : zaP Tryz.prog 149 [.v (.int .i64 n)] (.v (.int .i64 (zmf n))) := by
 refine pF Tryz.func149 ?_
 have e : zmf n = if 0 < (if 4000 < n then 4000 else n) then (if 4000 < n then 4000 else n) else 0 := by
  unfold zmf
  split <;> split <;> (try split) <;> omega
 rw [e]
 repeat first|refine wV fun _=>?_|simp [go_sem]
theorem zsF {g : zad} {known now : List zag} : (zaU za7 (now.flatMap (zaC g))).filter (fun q => decide (zq4 (zaU za7 known) q < 0)) = zaU za7 (zbw g known now) := by
 refine (zbo zaM ((zdY zaM _).filter _) fun x => ?_).symm
 rw [zjw, List.mem_filter, zaS, List.mem_flatMap, decide_eq_true_eq]
 have h := zxM (l := zaU za7 known) (zdY zaM _) (p := x)
 rw [zaS] at h
 constructor
 ·rintro ⟨h1, h2⟩
  exact ⟨h1, by
   have : ¬ 0 ≤ zq4 (zaU za7 known) x := fun h' => h2 (h.1 h')
   omega⟩
 ·rintro ⟨h1, h2⟩
  exact ⟨h1, fun h' => by have := h.2 h'; omega⟩
theorem zn9 (g : zad) (hg : GOk g) (known now : List zag) (hs : zbs g known now) (hn : now.length ≤ 4000) (hk : known.length ≤ 17179869184) :
  zaP Tryz.prog 150 [.agg (zae g), zaI now, zaI (zaU za7 known)] (zaI (zaU za7 (zbw g known now))) := by
 refine pF Tryz.func150 ?_
 have hok := hs.now_ok
 rw [← zsF]
 obtain ⟨al, hal⟩ : ∃ al : Nat → List zag, ∀ k, al k = (now.take k).flatMap (zaC g) := ⟨_, fun _ => rfl⟩
 have hall : ∀ k, (al k).length ≤ 1889784000 := fun k => by
  have := zcf hg (now := now.take k) (fun q hq => hok q (List.mem_of_mem_take hq))
  have h2 : (now.take k).length ≤ 4000 := by simp; omega
  rw [hal]
  omega
 have hals : ∀ k, k < now.length → al (k + 1) = al k ++ zaC g (nth now k) := fun k hk => by
  rw [hal, hal, List.take_add_one, List.getElem?_eq_getElem hk, zau _ _ hk, Option.toList_some, List.flatMap_append]; simp
 have hal0 : al 0 = [] := by rw [hal]; rfl
 have halE : al now.length = now.flatMap (zaC g) := by rw [hal, List.take_length]
 have halo : ∀ q ∈ now.flatMap (zaC g), zaK q := fun q hq => by
  obtain ⟨r, hr, hm⟩ := List.mem_flatMap.1 hq
  exact ((zdi hg (hok r hr) q hm).1).fits hg
 have hkf : ∀ q ∈ zaU za7 known, zaK q := fun q hq => (hs.ok q (zaS.1 hq)).fits hg
 have hkl : (zaU za7 known).length ≤ 17179869184 := Nat.le_trans (zda _ _) hk
 have hFd := fun q hq => zte (zaU za7 known) (zdY zaM _) hkl hkf q hq
 have hM := fun i hi => zhw g hg (nth now i) (hok _ (zaj (i := i) hi))
 clear hal
 generalize zaU za7 known = kn at *
 repeat first|refine wV fun _=>?_|simp [go_sem]
 refine zAC (zAG (α := Nat) (fun k => ⟨[(1, zaI now), (2, zaI kn), (3, .ref 0 0 9 0 0), (7, .sl 1 k 5 0 (al k).length), (8, .sl 2 0 5 0 0), (9, .v (.int .i64 k))], [(0, .rows true 0 9 [zae g]), (1, .rows true k 5 ((al k).map zac)), (2, .rows true 0 5 [])], 3⟩)
  (fun d k => k + d = now.length) ?_ now.length 0 ?_) ?_ ?_
 ·rintro d k k1 hrec
  repeat first|refine wV fun _=>?_|simp [go_sem]
  refine zAE (fun hk => ?_) (fun hk => ?_) <;> simp at hk
  ·have hMk := hM k hk
   have h1 := hall k
   have h2 := hall (k + 1)
   have hals := hals k hk
   have h3 : (al k).length + (zaC g (nth now k)).length ≤ 1889784000 := by rw [hals, List.length_append] at h2; exact h2
   generalize zaC g (nth now k) = mv at *
   repeat first|refine wV fun _=>?_|simp [go_sem, hk]
   refine zAF hMk (by simp [go_sem]) ?_
   repeat first|refine wV fun _=>?_|simp [go_sem, hk]
   refine zAC (hrec (d - 1) (by omega) (k + 1) (by omega)) ?_ (by simp)
   simp [go_sem, zaf, hals]
  ·obtain rfl : k = now.length := by omega
   have h1 := hall now.length
   rw [halE] at *
   have hSo := zew (now.flatMap (zaC g)) (by omega) halo
   have hSl := zda za7 (now.flatMap (zaC g))
   have hSf : ∀ q ∈ zaU za7 (now.flatMap (zaC g)), zaK q := fun q hq => halo q (zaS.1 hq)
   generalize now.flatMap (zaC g) = all at *
   generalize zaU za7 all = S at *
   repeat first|refine wV fun _=>?_|simp [go_sem]
   refine zAL [1] hSo ?_ (zqS (zbi _)) ?_
   ·(first|done|exact agX)
   repeat first|refine wV fun _=>?_|simp [go_sem]
   obtain ⟨fl, hfl⟩ : ∃ fl : Nat → List zag, ∀ k, fl k = (S.take k).filter (fun q => decide (zq4 kn q < 0)) := ⟨_, fun _ => rfl⟩
   have hfll : ∀ k, (fl k).length ≤ 1889784000 := fun k => by
    have h1 : (fl k).length ≤ (S.take k).length := by rw [hfl]; exact List.length_filter_le _ _
    have h2 : (S.take k).length ≤ S.length := by simp; omega
    omega
   have hfl0 : fl 0 = [] := by rw [hfl]; rfl
   have hfls : ∀ k, k < S.length → fl (k + 1) = if zq4 kn (nth S k) < 0 then fl k ++ [nth S k] else fl k := fun k hk => by
    rw [hfl, hfl, List.take_add_one, List.getElem?_eq_getElem hk, zau _ _ hk, Option.toList_some, List.filter_append]
    by_cases h : zq4 kn S[k] < 0 <;> simp [h]
   have hflE : fl S.length = S.filter (fun q => decide (zq4 kn q < 0)) := by rw [hfl, List.take_length]
   rw [← hflE]
   clear hfl hflE
   refine zAC (zAG (α := Nat) (fun k => ⟨[(2, zaI kn), (7, zaI S), (8, .sl 2 (fl k).length 5 0 (fl k).length), (10, .v (.int .i64 k))], [(2, .rows true (fl k).length 5 ((fl k).map zac))], 3⟩)
    (fun d k => k + d = S.length) ?_ S.length 0 ?_) ?_ ?_
   ·rintro d k k1 hrec
    repeat first|refine wV fun _=>?_|simp [go_sem]
    refine zAE (fun hk => ?_) (fun hk => ?_) <;> simp at hk
    ·have hC := hFd _ (hSf _ (zaj hk))
     have hfls := hfls k hk
     have h1 := hfll k
     have h2 := hfll (k + 1)
     generalize hq : nth S k = q at *
     generalize zq4 kn q = fi at *
     repeat first|refine wV fun _=>?_|simp [go_sem, hk, hq]
     refine zAD hC (by simp [go_sem]) ?_
     repeat first|refine wV fun _=>?_|simp [go_sem]
     refine zAE (fun hz => ?_) (fun hz => ?_) <;> simp at hz
     ·rw [if_pos hz] at hfls
      repeat first|refine wV fun _=>?_|simp [go_sem, hk, hq]
      refine zAC (hrec (d - 1) (by omega) (k + 1) (by omega)) ?_ (by simp)
      simp [go_sem, zaf, hfls]
     ·rw [if_neg (by omega)] at hfls
      repeat first|refine wV fun _=>?_|simp [go_sem]
      refine zAC (hrec (d - 1) (by omega) (k + 1) (by omega)) ?_ (by simp)
      simp [go_sem, zaf, hfls]
    ·obtain rfl : k = S.length := by omega
     repeat first|refine wV fun _=>?_|simp [go_sem]
     exact frX
   ·simp
   ·simp [go_sem, zaf, hfl0]
   ·simp
 ·simp
 ·simp [go_sem, zaf, hal0]
 ·simp
def ztH (D : List (List zag)) : List (List AV) := D.map fun l => [zaI l]
theorem zxj {n : Nat} {D : List (List zag)} : (∀ r ∈ ztH D, ∀ c ∈ r, Bel n c) = True := by
 refine eq_true ?_
 intro r hr c hc
 obtain ⟨x, _, rfl⟩ := List.mem_map.1 hr
 simp only [List.mem_cons, List.not_mem_nil, or_false] at hc
 subst hc
 exact zbi _
attribute [go_sem ↓] zxj
@[go_sem] theorem encD_len (D : List (List zag)) : (ztH D).length = D.length := by simp [ztH]
theorem zx8 {D : List (List zag)} {i : Nat} (h : i < D.length) : nth (ztH D) i = [zaI (nth D i)] := zcC _ _ _ h
def ziZ (L : List (List zag × Bool)) : AV := .agg [.lst 1 (ztH (L.map (·.1))), .v (.bool (zdF L))]
theorem zjd : ∀ (pre : List (List zag)) (x : List zag × Bool), zdF (pre.map (fun l => (l, false)) ++ [x]) = x.2
 | [], x => rfl
 | [l], x => rfl
 | l :: m :: pre, x => by
  have := zjd (m :: pre) x
  simp only [List.map_cons, List.cons_append] at this ⊢
  rw [zdF]
  ·exact this
  ·simp
theorem ztQ (g : zad) (hg : GOk g) (p : zag) (hp : POk g p) (n : Int) : zaP Tryz.prog 99 [.agg (zae g), .agg (zac p), .v (.int .i64 n)] (ziZ (zba g p n)) := by
 refine pF Tryz.func99 ?_
 have hB := zoR n
 have hb := zgZ n
 unfold zba
 generalize zmf n = b at *
 generalize hR : za9 g b (b.toNat + 2) [p] [p] = R
 unfold ziZ
 repeat first|refine wV fun _=>?_|simp [go_sem]
 refine zAC (zAG (α := List zag × List zag × List (List zag)) (fun a => ⟨[(2, .v (.int .i64 n)), (3, .ref 0 0 9 0 0), (6, .ref 2 0 2 0 0), (7, .ref 9 0 2 0 0), (8, zaI (zaU za7 a.1))], [(0, .rows true 0 9 [zae g]), (2, .rows true 0 2 [[zAI, .v (.bool false)]]), (5, .rows true a.2.2.length 1 (ztH (a.2.2 ++ [a.2.1]))), (9, .rows true 0 2 [[.sl 5 a.2.2.length 1 0 (a.2.2.length + 1), .v (.bool false)]])], 12⟩)
  (fun d a => zbs g a.1 a.2.1 ∧ 1 ≤ d ∧ b.toNat + 2 ≤ a.1.length + d ∧ a.1.length ≤ 1889788000 ∧ a.2.2.length + d = b.toNat + 2 ∧ R = (a.2.2.map fun l => (l, false)) ++ za9 g b d a.1 a.2.1) ?_ (b.toNat + 2) ([p], [p], []) ?_) ?_ ?_
 ·rintro d ⟨known, now, pre⟩ ⟨i1, i2, i3, i4, i6, i5⟩ hrec
  simp only at i1 i2 i3 i4 i5 i6
  obtain ⟨d, rfl⟩ : ∃ d', d = d' + 1 := ⟨d - 1, by omega⟩
  rw [za9] at i5
  have hkl := zdM i1.nd
  have hnl := i1.now_len
  repeat first|refine wV fun _=>?_|simp [go_sem]
  refine zAD hB (by simp [go_sem]) ?_
  repeat first|refine wV fun _=>?_|simp [go_sem, hkl]
  refine zAE (fun hk => ?_) (fun hk => ?_) <;> simp at hk
  ·rw [if_pos hk] at i5
   have hf : zdF R = false := by rw [i5]; exact zjd pre (now, false)
   have hD : R.map (·.1) = pre ++ [now] := by rw [i5]; simp [Function.comp_def]
   rw [hf, hD]
   repeat first|refine wV fun _=>?_|simp [go_sem]
   exact zaB rfl (by simp [ztH]) (by simp [upd, noH]) (by rw [List.drop_zero]; exact List.take_of_length_le (by simp [ztH]))
  ·rw [if_neg (by omega)] at i5
   have hF := zn9 g hg known now i1 (by omega) (by omega)
   have hnx := zjv hg (known := known) i1.now_ok
   have hn2 := i1.next hg
   have hnd : (known ++ zbw g known now).length = known.length + (zbw g known now).length := List.length_append
   have hsl := zdM (zf9 g known now)
   have hso : ∀ q ∈ zaU za7 (zbw g known now), zaK q := fun q hq => (zmJ hg i1.now_ok q (zaS.1 hq)).fits hg
   have hSo := zew (zaU za7 known ++ zaU za7 (zbw g known now)) (by rw [List.length_append, hkl, hsl]; omega) (fun q hq => by
    rcases List.mem_append.1 hq with h | h
    ·exact (i1.ok q (zaS.1 h)).fits hg
    ·exact hso q h)
   have hSe : zaU za7 (zaU za7 known ++ zaU za7 (zbw g known now)) = zaU za7 (known ++ zbw g known now) := zjW zaM (fun x => by simp [zaS])
   rw [hSe] at hSo
   have hce : nth (ztH (pre ++ [now])) pre.length = [zaI now] := by rw [zx8 (by simp), zau _ _ (by simp)]; simp
   have hkl2 : (zaU za7 known).length = known.length := hkl
   have hsl2 : (zaU za7 (zbw g known now)).length = (zbw g known now).length := hsl
   have hz0 : (zaU za7 (zbw g known now) = []) = (zbw g known now = []) := propext ⟨fun h => List.eq_nil_of_length_eq_zero (by rw [← hsl, h]; rfl), fun h => List.eq_nil_of_length_eq_zero (by rw [hsl, h]; rfl)⟩
   repeat first|refine wV fun _=>?_|simp [go_sem, hce]
   refine zAF hF (by simp [go_sem]) ?_
   by_cases hz : zbw g known now = []
   ·rw [if_pos hz] at i5
    have hf : zdF R = true := by rw [i5]; exact zjd pre (now, true)
    have hD : R.map (·.1) = pre ++ [now] := by rw [i5]; simp [Function.comp_def]
    rw [hf, hD]
    have e0 : zaU za7 ([] : List zag) = [] := zbo zaM (by simp) (fun x => Iff.rfl)
    repeat first|refine wV fun _=>?_|simp [go_sem, hsl2, hz0, hz, e0]
    exact zaB rfl (by simp [ztH]) (by simp [upd, noH]) (by rw [List.drop_zero]; exact List.take_of_length_le (by simp [ztH]))
   ·rw [if_neg hz] at i5
    have hz2 : (zbw g known now = []) = False := eq_false hz
    have hpos := List.length_pos_iff.2 hz
    generalize zbw g known now = nx at *
    repeat first|refine wV fun _=>?_|simp [go_sem, hsl2, hz0, hz2]
    refine zAL [25] hSo ?_ (zqS (zbi _)) ?_
    ·exact .cons (zaB rfl (by simp [hsl2]) (by simp [zbt, zbV, upd, noH]) (by simp; exact List.take_of_length_le (by simp [hsl2]))) .nil
    repeat first|refine wV fun _=>?_|simp [go_sem]
    refine zAC (hrec d (by omega) (known ++ nx, zaU za7 nx, pre ++ [now]) ⟨hn2, by omega, by simp only; omega, by simp only; omega, by simp; omega, by rw [i5]; simp⟩) ?_ (by simp)
    simp [go_sem, zaf, ztH]
 ·exact ⟨zAW hp, by omega, by simp only [List.length_singleton]; omega, by simp, by simp, by simp [hR]⟩
 ·have e1 : zaU za7 [p] = [p] := zbo zaM (by simp) (fun x => Iff.rfl)
  simp [go_sem, zaf, e1]
  refine ⟨zaB rfl (by simp) (by simp [noH, upd]) (by simp [go_sem]), .cons (.cons (zaB rfl (by simp) (by simp [noH, upd]) (by simp [go_sem])) .nil) .nil⟩
 ·simp
def zzw (N : Nat) (G : List (List zag)) (m : Nat) : List (List AV) := (List.range N).map fun j => if m ≤ j then [zaI (nth G j)] else [zAI]
@[go_sem] theorem backR_len (N : Nat) (G : List (List zag)) (m : Nat) : (zzw N G m).length = N := by simp [zzw]
theorem zuA {n N : Nat} {G : List (List zag)} {m : Nat} : (∀ r ∈ zzw N G m, ∀ c ∈ r, Bel n c) = True := by
 refine eq_true ?_
 intro r hr c hc
 obtain ⟨j, _, rfl⟩ := List.mem_map.1 hr
 split at hc
 ·simp only [List.mem_cons, List.not_mem_nil, or_false] at hc
  subst hc
  exact zbi _
 ·simp only [List.mem_cons, List.not_mem_nil, or_false] at hc
  subst hc
  exact .v _
attribute [go_sem ↓] zuA
end Go.Av
end
section
open Go Go.Proofs
namespace Go.Av
theorem zoH (g : zad) (p : zag) (n : Int) : Inc (zcs g p n) := zdY zaM _
section Ways
variable {g : zad} (hg : GOk g) {p : zag} (hp : POk g p)
end Ways
end Go.Av
end
section
open Go Go.Proofs
namespace Go.Av
def zeU (g : zad) (s p : zag) (n : Int) : List zag × Int :=
 if zdF (zba g s n) = false then ([], 2) else if p ∈ zcs g s n then ((zcs g s n).filter fun q => decide (p ∈ zaC g q), 0) else ([], 270)
def zhL (p q : zag) : Bool := decide (p = { q with rights := p.rights })
def zuG (q : zag) (r : Nat) : Bool := decide (zgi .i64 (q.rights.fdiv (2 ^ r)) 1 = 1)
def zkN (g : zad) (s p : zag) (n : Int) : List zag := (zcs g s n).filter (zhL p)
def zhP (l : List zag) (r : Nat) : Int := if l.countP (zuG · r) = 0 then 0 else if l.countP (zuG · r) = l.length then 1 else 2
def zc4 (g : zad) (s p : zag) (n : Int) : List Int × Int :=
 if zdF (zba g s n) = false then ([], 2) else if zkN g s p n = [] then ([], 270) else ((List.range g.rights.toNat).map (zhP (zkN g s p n)), 0)
def mn (side kind : Int) (c : Int) : Bool := zeh default side kind c
def cnt (l : List Int) (side kind : Int) : Nat := l.countP (mn side kind)
theorem zhf (side kind : Int) : mn side kind 0 = false := by
 unfold mn zeh zak
 simp
theorem zf0 : ∀ (l : List Int) {i : Nat} (hi : i < l.length) (v side kind : Int), cnt (l.set i v) side kind + (if mn side kind (nth l i) then 1 else 0) = cnt l side kind + (if mn side kind v then 1 else 0)
 | [], i, hi, _, _, _ => by simp at hi
 | a :: l, 0, _, v, side, kind => by
  simp only [cnt, List.set_cons_zero, List.countP_cons, zbg]
  exact Nat.add_right_comm _ _ _
 | a :: l, i + 1, hi, v, side, kind => by
  have := zf0 l (i := i) (by simpa using hi) v side kind
  simp only [cnt, List.set_cons_succ, List.countP_cons, zfB] at this ⊢
  revert this
  cases mn side kind a <;> cases mn side kind v <;> cases mn side kind (nth l i) <;> simp <;> omega
theorem mn_own {side c kind : Int} (h : (zak c).2 = side) : mn (1 - side) kind c = false := by
 unfold mn zeh
 have : ¬ (zak c).2 = 1 - side := by omega
 simp [this]
theorem mn_foe {side c kind : Int} (h : (zak c).2 ≠ side) : mn side kind c = false := by
 unfold mn zeh
 simp [h]
theorem mn_any {side c : Int} (h : (zak c).2 = side) (h0 : 0 ≤ (zak c).1) : mn side (-1) c = true := by
 unfold mn zeh
 simp [h, h0]
structure ztT (a : List Int) (side : Int) (l : List Int) : Prop where
 len : l.length = a.length
 own : cnt l side (-1) + 1 = cnt a side (-1)
 foe : ∀ k, cnt l (1 - side) k ≤ cnt a (1 - side) k
theorem zBm {a : List Int} {i : Nat} (hi : i < a.length) {side : Int} (h0 : 0 ≤ (zak (nth a i)).1) (h : (zak (nth a i)).2 = side) : ztT a side (a.set i 0) := by
 refine ⟨by simp, ?_, fun k => ?_⟩
 ·have := zf0 a hi 0 side (-1)
  rw [zhf, mn_any h h0] at this
  simpa using this
 ·have := zf0 a hi 0 (1 - side) k
  rw [zhf, mn_own h] at this
  simp at this
  omega
theorem ztT.take {a l : List Int} {side : Int} (h : ztT a side l) {i : Nat} (hi : i < l.length) (hs : (zak (nth l i)).2 ≠ side) : ztT a side (l.set i 0) := by
 refine ⟨by simpa using h.len, ?_, fun k => ?_⟩
 ·have := zf0 l hi 0 side (-1)
  rw [zhf, mn_foe hs] at this
  have := h.own
  simp at *
  omega
 ·have := zf0 l hi 0 (1 - side) k
  rw [zhf] at this
  have := h.foe k
  simp at *
  omega
theorem zq0 {l : List Int} {i j : Nat} (hi : i < l.length) (hj : j < l.length) (h0 : nth l j = 0) (h1 : nth l i ≠ 0) (side kind : Int) : cnt ((l.set j (nth l i)).set i 0) side kind = cnt l side kind := by
 have hij : j ≠ i := fun e => h1 (e ▸ h0)
 have a1 := zf0 l hj (nth l i) side kind
 have a2 := zf0 (l.set j (nth l i)) (i := i) (by simpa using hi) 0 side kind
 rw [h0, zhf] at a1
 have e := zcx l j i (nth l i)
 rw [if_neg (fun h => hij h.1)] at e
 rw [e, zhf] at a2
 revert a1 a2
 cases mn side kind (nth l i) <;> simp <;> omega
theorem ztT.push {a l : List Int} {side : Int} (h : ztT a side l) {i j : Nat} (hi : i < l.length) (hj : j < l.length) (h0 : nth l j = 0) (h1 : nth l i ≠ 0) : ztT a side ((l.set j (nth l i)).set i 0) :=
 ⟨by simpa using h.len, by rw [zq0 hi hj h0 h1]; exact h.own, fun k => by rw [zq0 hi hj h0 h1]; exact h.foe k⟩
theorem zlC {s : StD} : ∀ {l : List Int}, ∀ t ∈ zbl s l, t.p = s.p
 | [], t, h => by simp [zbl] at h
 | c :: l, t, h => by
  rw [zbl, List.mem_cons] at h
  rcases h with rfl | h
  ·rfl
  ·split at h
   ·exact zlC t h
   ·simp at h
theorem zqE (p : zag) (side : Int) (l : List Int) : (p.withHand side l).at_ = p.at_ := by
 unfold zag.withHand
 split <;> rfl
theorem ztT.step {g : zad} (hg : GOk g) {a : List Int} {s : StD} (hs : zeS g s) (h : ztT a s.p.side s.p.at_) {x : Int × Int} : ∀ t ∈ zbG g s x, ztT a s.p.side t.p.at_ := by
 intro t ht
 have hal := hs.p.al
 have c0 := hs.c0
 have c1 := hs.c1
 have hcl : s.cursor.toNat < s.p.at_.length := by omega
 unfold zbG at ht
 simp only at ht
 repeat' split at ht
 ·have := zcq ht; subst this; exact h
 ·have := zlC t ht; rw [this]; exact h
 ·have := zcq ht; subst this; exact h
 ·have := zcq ht; subst this; exact h
 ·have := zcq ht; subst this; exact h
 ·unfold zkD at ht
  simp only at ht
  split at ht
  ·simp at ht
  ·rename_i hm
   have hm2 : (zak (nth s.p.at_ s.cursor.toNat)).2 ≠ s.p.side := fun e => hm (.inr e)
   have key := h.take hcl hm2
   split at ht
   ·split at ht
    ·simp at ht
    ·simp only [List.mem_singleton] at ht
     subst ht
     simp only [zqE]
     exact key
   ·simp only [List.mem_singleton] at ht
    subst ht
    exact key
 ·unfold zkA at ht
  simp only at ht
  split at ht
  ·simp at ht
  ·rename_i hm
   simp only [not_or, Decidable.not_not, Int.not_lt] at hm
   simp only [List.mem_singleton] at ht
   subst ht
   have hto := zeQ hg.board s.p.side x.2 s.cursor
   have e : g.board.cells = g.cells := rfl
   exact h.push hcl (by omega) hm.2.2 hm.1
 ·simp only [List.mem_singleton] at ht; subst ht; exact h
 ·have := zcq ht; subst this; exact h
 ·simp only [List.mem_singleton] at ht; subst ht; exact h
 ·simp only [List.mem_singleton] at ht; subst ht; exact h
def bitI (a : Int) (r : Nat) : Bool := decide (zgi .i64 (a.fdiv (2 ^ r)) 1 = 1)
theorem zyp {g : zad} (hg : GOk g) {p : zag} (hp : POk g p) : p.rights < 16 := by
 have h4 := hg.r4
 have h0 := hg.r0
 have := hp.r1
 have e : (2 : Int) ^ g.rights.toNat ≤ 2 ^ 4 := by
  rcases (show g.rights.toNat = 0 ∨ g.rights.toNat = 1 ∨ g.rights.toNat = 2 ∨ g.rights.toNat = 3 ∨ g.rights.toNat = 4 by omega) with h | h | h | h | h <;> rw [h] <;> decide
 omega
def bitN (a : Int) (r : Nat) : Int := zgi .i64 (a.fdiv (2 ^ r)) 1
def zuI : Bool := (List.range 16).all fun (a : Nat) => (List.range 4).all fun (r : Nat) => decide (bitN (a : Int) r = if bitI (a : Int) r = true then 1 else 0)
theorem znB : zuI = true := by kernel_rfl
theorem zzF {a : Int} (h0 : 0 ≤ a) (h1 : a < 16) {r : Nat} (hr : r < 4) : bitN a r = if bitI a r = true then 1 else 0 := by
 have key := znB
 unfold zuI at key
 have k1 := List.all_eq_true.1 key a.toNat (List.mem_range.2 (by omega))
 have k2 := of_decide_eq_true (List.all_eq_true.1 k1 r (List.mem_range.2 hr))
 rwa [Int.toNat_of_nonneg h0] at k2
theorem zzG (q : zag) (r : Nat) : zuG q r = bitI q.rights r := rfl
def orR (a : Int) : Nat → Int
 | 0 => a
 | r + 1 => orN .i64 (orR a r) (2 ^ r)
def orAll : Bool := (List.range 5).all fun (n : Nat) => (List.range (2 ^ n)).all fun (a : Nat) => decide (0 ≤ orR (a : Int) n ∧ orR (a : Int) n < 2 ^ n)
theorem zs0 : orAll = true := by kernel_rfl
theorem pow16 {n : Nat} (hn : n ≤ 4) : (2 : Int) ^ n ≤ 16 ∧ (2 : Int) ^ n = ((2 ^ n : Nat) : Int) ∧ (0 : Int) < 2 ^ n := by
 rcases (show n = 0 ∨ n = 1 ∨ n = 2 ∨ n = 3 ∨ n = 4 by omega) with h | h | h | h | h <;> subst h <;> decide
theorem orR_in {n : Nat} (hn : n ≤ 4) {a : Int} (h0 : 0 ≤ a) (h1 : a < 2 ^ n) : 0 ≤ orR a n ∧ orR a n < 2 ^ n := by
 have key := zs0
 unfold orAll at key
 obtain ⟨_, p2, _⟩ := pow16 hn
 have k1 := List.all_eq_true.1 key n (List.mem_range.2 (by omega))
 have k2 := of_decide_eq_true (List.all_eq_true.1 k1 a.toNat (List.mem_range.2 (by omega)))
 rwa [Int.toNat_of_nonneg h0] at k2
theorem POk.setR {g : zad} {p : zag} (h : POk g p) {a : Int} (h0 : 0 ≤ a) (h1 : a < 2 ^ g.rights.toNat) : POk g { p with rights := a } := ⟨h.al, h.av, h.h0, h.h1, h0, h1, h.s⟩
def allR (g : zad) (p : zag) : zag := { p with rights := orR p.rights g.rights.toNat }
theorem zzt {g : zad} (hg : GOk g) {p : zag} (hp : POk g p) : POk g (allR g p) := by
 have h4 := hg.r4
 have h0 := hg.r0
 have := orR_in (n := g.rights.toNat) (by omega) hp.r0 hp.r1
 exact hp.setR this.1 this.2
def endW (g : zad) (s : zag) (picks : List Int) : zag := nth (zdu g s picks) ((zdu g s picks).length - 1)
theorem zu4 {g : zad} (hg : GOk g) {s : zag} (hs : POk g s) (picks : List Int) : POk g (endW g s picks) := by
 have hne := List.length_pos_iff.2 (ziq g s picks)
 exact zmU hg _ hs _ (zaj (by omega))
def endR (g : zad) (s : zag) (picks : List Int) (a b : Int) : zag := if a.tmod 4 = 3 then { endW g s picks with rights := b.tmod (2 ^ g.rights.toNat) } else endW g s picks
theorem zyC {b : Int} (h0 : 0 ≤ b) {n : Int} (hn : 0 < n) : 0 ≤ b.tmod n ∧ b.tmod n < n := ⟨Int.tmod_nonneg _ h0, Int.tmod_lt_of_pos _ hn⟩
theorem zzX {g : zad} (hg : GOk g) {s : zag} (hs : POk g s) (picks : List Int) (a : Int) {b : Int} (hb : 0 ≤ b) : POk g (endR g s picks a b) := by
 have h4 := hg.r4
 have h0 := hg.r0
 unfold endR
 split
 ·obtain ⟨h1, h2⟩ := zyC hb (pow16 (n := g.rights.toNat) (by omega)).2.2
  exact (zu4 hg hs picks).setR h1 h2
 ·exact zu4 hg hs picks
def zaY (x : List zag × Int) : AV := .agg [zaI x.1, .v (.int .i64 x.2)]
theorem zyA {α : Type} [Inhabited α] [DecidableEq α] {l : List α} {k : Nat} {p : α} (hk : k < l.length) (h : p ∉ l.take k) (h2 : nth l k ≠ p) : p ∉ l.take (k + 1) := by
 rw [List.take_add_one, List.getElem?_eq_getElem hk, Option.toList_some, List.mem_append]
 rintro (h3 | h3)
 ·exact h h3
 ·simp only [List.mem_singleton] at h3
  rw [zau _ _ hk] at h2
  exact h2 h3.symm
theorem zru (l : List zag) (p : zag) (hl : l.length ≤ 17179869184) (hf : ∀ q ∈ l, zaK q) (hp : zaK p) : zaP Tryz.prog 49 [zaI l, .agg (zac p)] (.v (.bool (decide (p ∈ l)))) := by
 refine pF Tryz.func49 ?_
 have hC := fun i hi => zcE (nth l i) p (hf _ (zaj (i := i) hi)) hp
 obtain ⟨b, hb⟩ : ∃ b, b = decide (p ∈ l) := ⟨_, rfl⟩
 rw [← hb]
 repeat first|refine wV fun _=>?_|simp [go_sem]
 refine zAC (zAG (α := Nat) (fun k => ⟨[(0, zaI l), (3, .ref 0 0 5 0 0), (5, .v (.int .i64 k))], [(0, .rows true 0 5 [zac p])], 1⟩)
  (fun d k => k + d = l.length ∧ p ∉ l.take k) ?_ l.length 0 ?_) ?_ ?_
 ·rintro d k ⟨k1, k2⟩ hrec
  repeat first|refine wV fun _=>?_|simp [go_sem]
  refine zAE (fun hk => ?_) (fun hk => ?_) <;> simp at hk
  ·have hCk := hC k hk
   have e := zaM.eq (nth l k) p
   generalize za7 (nth l k) p = c at *
   repeat first|refine wV fun _=>?_|simp [go_sem, hk]
   refine zAF hCk (by simp [go_sem]) ?_
   repeat first|refine wV fun _=>?_|simp [go_sem, hk]
   refine zAE (fun hz => ?_) (fun hz => ?_) <;> simp at hz
   ·have hin : p ∈ l := (e.1 hz) ▸ zaj hk
    obtain rfl : b = true := by rw [hb]; exact decide_eq_true hin
    repeat first|refine wV fun _=>?_|simp [go_sem]
   ·have hnx := zyA hk k2 (fun h => hz (e.2 h))
    repeat first|refine wV fun _=>?_|simp [go_sem]
    refine zAC (hrec (d - 1) (by omega) (k + 1) ⟨by omega, hnx⟩) ?_ (by simp)
    simp [go_sem, zaf]
  ·have hno : p ∉ l := by rw [List.take_of_length_le (by omega)] at k2; exact k2
   obtain rfl : b = false := by rw [hb]; exact decide_eq_false hno
   repeat first|refine wV fun _=>?_|simp [go_sem]
 ·exact ⟨by omega, by simp⟩
 ·simp [go_sem, zaf]
 ·simp
theorem zaK.rights {q : zag} (h : zaK q) (r : Int) : zaK { q with rights := r } := h
theorem ziC (a b : List zag × Int) (ha : a.1.length ≤ 17179869184) (hb : b.1.length ≤ 17179869184) (hfa : ∀ p ∈ a.1, zaK p) (hfb : ∀ p ∈ b.1, zaK p) :
  zaP Tryz.prog 96 [zaY a, zaY b] (.v (.bool (decide (a = b)))) := by
 refine pF Tryz.func96 ?_
 have hS := zfL a.1 b.1 ha hb hfa hfb
 have e : decide (a = b) = (decide (a.2 = b.2) && decide (a.1 = b.1)) := by
  rw [← Bool.decide_and, decide_eq_decide, and_comm]
  exact Prod.ext_iff
 rw [e]
 generalize decide (a.1 = b.1) = s at *
 unfold zaY
 repeat first|refine wV fun _=>?_|simp [go_sem]
 refine zAS _ (fun _ => hS) (by simp [go_sem]) ?_
 by_cases h : a.2 = b.2
 ·repeat first|refine wV fun _=>?_|simp [go_sem, h]
 ·repeat first|refine wV fun _=>?_|simp [go_sem, h]
def za8 (x : List Int × Int) : AV := .agg [zap x.1, .v (.int .i64 x.2)]
theorem zeN (a b : List Int × Int) (ha : a.1.length ≤ 17179869184) (hb : b.1.length ≤ 17179869184) :
  zaP Tryz.prog 97 [za8 a, za8 b] (.v (.bool (decide (a = b)))) := by
 refine pF Tryz.func97 ?_
 unfold za8
 obtain ⟨t, ht⟩ : ∃ t, t = decide (a = b) := ⟨_, rfl⟩
 rw [← ht]
 obtain ⟨la, ea⟩ := a
 obtain ⟨lb, eb⟩ := b
 simp only at ha hb ⊢
 repeat first|refine wV fun _=>?_|simp [go_sem]
 refine zAE (fun hA => ?_) (fun hA => ?_)
 ·obtain rfl : t = false := by
   rw [ht]
   refine decide_eq_false fun h => ?_
   obtain ⟨h1, h2⟩ := Prod.mk.inj h
   subst h1; subst h2
   simp at hA
  repeat first|refine wV fun _=>?_|simp [go_sem]
 ·have hE : ea = eb ∧ la.length = lb.length := by
   by_cases h1 : ea = eb
   ·by_cases h2 : la.length = lb.length
    ·exact ⟨h1, h2⟩
    ·simp [h1, show (la.length : Int) ≠ lb.length by omega] at hA
   ·simp [h1] at hA
  obtain ⟨rfl, hll⟩ := hE
  repeat first|refine wV fun _=>?_|simp [go_sem]
  refine zAC (zAG (α := Nat) (fun k => ⟨[(2, .ref 0 0 2 0 0), (3, .ref 1 0 2 0 0), (5, .v (.int .i64 k))], [(0, .rows true 0 2 [[zap la, .v (.int .i64 ea)]]), (1, .rows true 0 2 [[zap lb, .v (.int .i64 ea)]])], 2⟩)
   (fun d k => k + d = la.length ∧ ∀ j, j < k → nth la j = nth lb j) ?_ la.length 0 ?_) ?_ ?_
  ·rintro d k ⟨k1, k2⟩ hrec
   repeat first|refine wV fun _=>?_|simp [go_sem]
   refine zAE (fun hk => ?_) (fun hk => ?_) <;> simp at hk
   ·have hk2 : k < lb.length := by omega
    repeat first|refine wV fun _=>?_|simp [go_sem, hk, hk2]
    refine zAE (fun hz => ?_) (fun hz => ?_) <;> simp at hz
    ·obtain rfl : t = false := by
      rw [ht]
      refine decide_eq_false fun h => ?_
      obtain ⟨h1, _⟩ := Prod.mk.inj h
      exact hz (by rw [h1])
     repeat first|refine wV fun _=>?_|simp [go_sem]
    ·repeat first|refine wV fun _=>?_|simp [go_sem]
     refine zAC (hrec (d - 1) (by omega) (k + 1) ⟨by omega, fun j hj => ?_⟩) ?_ (by simp)
     ·by_cases e : j = k
      ·subst e; exact hz
      ·exact k2 j (by omega)
     simp [go_sem, zaf]
   ·obtain rfl : t = true := by
     rw [ht]
     refine decide_eq_true ?_
     have e : la = lb := List.ext_getElem hll fun j h1 h2 => by
      have := k2 j (by omega)
      rwa [zau _ _ h1, zau _ _ h2] at this
     rw [e]
    repeat first|refine wV fun _=>?_|simp [go_sem]
  ·exact ⟨by omega, fun j hj => by omega⟩
  ·simp [go_sem, zaf]
  ·simp
theorem zsO (g : zad) (hg : GOk g) (q : zag) (hq : POk g q) (p : zag) (hp : zaK p) : zaP Tryz.prog 116 [.agg (zac q), .fp (zae g), .fp (zac p)] (.v (.bool (decide (p ∈ zaC g q)))) := by
 refine pF Tryz.func116 ?_
 have hL := zkH g hg q hq p hp
 generalize decide (p ∈ zaC g q) = b at *
 repeat first|refine wV fun _=>?_|simp [go_sem]
 refine zAD hL (by simp [go_sem]) ?_
 repeat first|refine wV fun _=>?_|simp [go_sem]
theorem zqb (p q : zag) (hp : zaK p) (hq : zaK q) : zaP Tryz.prog 249 [.agg (zac q), .fp (zac p)] (.v (.bool (zhL p q))) := by
 refine pF Tryz.func249 ?_
 have hC := zbz p { q with rights := p.rights } hp hq
 have e : zhL p q = decide (za7 p { q with rights := p.rights } = 0) := by
  unfold zhL
  rw [decide_eq_decide]
  exact (zaM.eq _ _).symm
 rw [e]
 have ee : zac { q with rights := p.rights } = [zap q.at_, zap q.h0, zap q.h1, .v (.int .i64 p.rights), .v (.int .i64 q.side)] := rfl
 rw [ee] at hC
 generalize za7 p { q with rights := p.rights } = c at *
 repeat first|refine wV fun _=>?_|simp [go_sem]
 refine zAD hC (by simp [go_sem]) ?_
 repeat first|refine wV fun _=>?_|simp [go_sem]
theorem zsT (p : zag) : zgS Tryz.prog 200 [.agg (zac p)] (fun n => .fn (.func 249) [] [.ref n 0 5 0 0]) (fun n => [(n, .rows true 0 5 [zac p])]) 1 := by
 refine ⟨?_, fun n => ⟨by simp [go_sem], by simp [go_sem]⟩⟩
 refine zAJ (by kernel_rfl) Tryz.func200 rfl rfl (Nat.le_of_ble_eq_true rfl) (by kernel_rfl) ?_
 repeat first|refine wV fun _=>?_|simp [go_sem]
 simp [go_sem, zaf]
theorem zoh (l : List zag) (hl : l.length ≤ 17179869184) (f : FuncId) (caps : List AV) (p : zag → Bool) (hp : ∀ x ∈ l, zaP Tryz.prog f (.agg (zac x) :: caps) (.v (.bool (p x)))) (hb' : ∀ c ∈ caps, Bel 0 c) :
  zaP Tryz.prog 115 [zaI l, .fn (.func f) [] caps] (zaI (l.filter p)) := by
 refine pF Tryz.func115 ?_
 have hbn : ∀ n, (∀ c ∈ caps, Bel n c) = True := fun n => eq_true fun c hc => (hb' c hc).mono (Nat.zero_le n)
 obtain ⟨fl, hfl⟩ : ∃ fl : Nat → List zag, ∀ k, fl k = (l.take k).filter p := ⟨_, fun _ => rfl⟩
 have hfll : ∀ k, (fl k).length ≤ 17179869184 := fun k => by
  have h1 : (fl k).length ≤ (l.take k).length := by rw [hfl]; exact List.length_filter_le _ _
  have h2 : (l.take k).length ≤ l.length := by simp; omega
  omega
 have hfl0 : fl 0 = [] := by rw [hfl]; rfl
 have hfls : ∀ k, k < l.length → fl (k + 1) = if p (nth l k) = true then fl k ++ [nth l k] else fl k := fun k hk => by
  rw [hfl, hfl, List.take_add_one, List.getElem?_eq_getElem hk, zau _ _ hk, Option.toList_some, List.filter_append]
  by_cases h : p l[k] = true <;> simp [h]
 have hflE : fl l.length = l.filter p := by rw [hfl, List.take_length]
 rw [← hflE]
 clear hfl hflE
 repeat first|refine wV fun _=>?_|simp [go_sem]
 refine zAC (zAG (α := Nat) (fun k => ⟨[(1, .fn (.func f) [] caps), (5, .sl 0 (fl k).length 5 0 (fl k).length), (8, zaI l), (9, .v (.int .i64 l.length)), (10, .v (.int .i64 k))], [(0, .rows true (fl k).length 5 ((fl k).map zac))], 1⟩)
  (fun d k => k + d = l.length) ?_ l.length 0 ?_) ?_ ?_
 ·rintro d k k1 hrec
  repeat first|refine wV fun _=>?_|simp [go_sem]
  refine zAE (fun hk => ?_) (fun hk => ?_) <;> simp at hk
  ·have hpk := hp _ (zaj hk)
   have hfls := hfls k hk
   have h1 := hfll k
   have h2 := hfll (k + 1)
   generalize p (nth l k) = b at *
   repeat first|refine wV fun _=>?_|simp [go_sem, hk]
   refine zAD hpk (by simp [go_sem, hbn]) ?_
   cases b
   ·repeat first|refine wV fun _=>?_|simp [go_sem, hk]
    refine zAC (hrec (d - 1) (by omega) (k + 1) (by omega)) ?_ (by simp)
    simp [go_sem, zaf, hfls, hbn]
   ·repeat first|refine wV fun _=>?_|simp [go_sem, hk]
    refine zAC (hrec (d - 1) (by omega) (k + 1) (by omega)) ?_ (by simp)
    simp [go_sem, zaf, hfls, hbn]
  ·obtain rfl : k = l.length := by omega
   have h1 := hfll l.length
   repeat first|refine wV fun _=>?_|simp [go_sem]
   exact frX
 ·show 0 + l.length = l.length
  omega
 ·simp [go_sem, zaf, hfl0, hbn]
 ·simp
theorem zhp {g : zad} (hg : GOk g) {s : zag} (hs : POk g s) (n : Int) : (zcs g s n).length ≤ 1889788001 := Nat.le_trans (zda _ _) (zjP hg hs n)
theorem zjQ {g : zad} (hg : GOk g) {s : zag} (hs : POk g s) (n : Int) : ∀ z ∈ zcs g s n, POk g z := fun z hz => zl5 hg hs n z (zaS.1 hz)
theorem ztS (g : zad) (hg : GOk g) (s : zag) (hs : POk g s) (p : zag) (hp : zaK p) (n : Int) :
  zaP Tryz.prog 60 [.agg (zae g), .agg (zac s), .agg (zac p), .v (.int .i64 n)] (.tup [zaI (zeU g s p n).1, .v (.int .i64 (zeU g s p n).2)]) := by
 refine pF Tryz.func60 ?_
 have hSn := ziD g hg s hs n
 have hl := zhp hg hs n
 have hok := zjQ hg hs n
 have hinc := zoH g s n
 have hBS := zm1 (zcs g s n) hinc (by omega) (fun q hq => (hok q hq).fits hg) p hp
 have hK := zoh (zcs g s n) (by omega) 116 [.fp (zae g), .fp (zac p)] (fun q => decide (p ∈ zaC g q)) (fun q hq => zsO g hg q (hok q hq) p hp) (by simp [go_sem])
 have hkl : ((zcs g s n).filter fun q => decide (p ∈ zaC g q)).length ≤ 1889788001 := Nat.le_trans (List.length_filter_le _ _) hl
 unfold zeU
 obtain ⟨kp, hkp⟩ : ∃ kp, kp = (zcs g s n).filter fun q => decide (p ∈ zaC g q) := ⟨_, rfl⟩
 rw [← hkp] at hK hkl ⊢
 clear hkp
 by_cases hin : p ∈ zcs g s n
 ·rw [if_pos hin]
  rw [decide_eq_true hin] at hBS
  clear hin
  generalize zll (zcs g s n) p = lw at *
  generalize zcs g s n = sn at *
  generalize zdF (zba g s n) = fu at *
  have hegl : (zae g).length = 9 := rfl
  have hegb : ∀ n, (∀ c ∈ zae g, Bel n c) = True := fun n => by simp [go_sem]
  generalize zae g = eg at *
  cases fu
  ·repeat first|refine wV fun _=>?_|simp [go_sem, hegl]
   refine zAD hSn (by simp [go_sem, hegb]) ?_
   repeat first|refine wV fun _=>?_|simp [go_sem, hegl]
  ·repeat first|refine wV fun _=>?_|simp [go_sem, hegl]
   refine zAD hSn (by simp [go_sem, hegb]) ?_
   repeat first|refine wV fun _=>?_|simp [go_sem, hegl]
   refine zAD hBS (by simp [go_sem, hegb]) ?_
   repeat first|refine wV fun _=>?_|simp [go_sem, hegl]
   refine zAL [0, 2] hK ?_ (by simp [go_sem, hegb]) ?_
   ·(first|done|exact leX)
   ·repeat first|refine wV fun _=>?_|simp [go_sem, hegl]
 ·rw [if_neg hin]
  rw [decide_eq_false hin] at hBS
  clear hin
  generalize zll (zcs g s n) p = lw at *
  generalize zcs g s n = sn at *
  generalize zdF (zba g s n) = fu at *
  have hegl : (zae g).length = 9 := rfl
  have hegb : ∀ n, (∀ c ∈ zae g, Bel n c) = True := fun n => by simp [go_sem]
  generalize zae g = eg at *
  cases fu
  ·repeat first|refine wV fun _=>?_|simp [go_sem, hegl]
   refine zAD hSn (by simp [go_sem, hegb]) ?_
   repeat first|refine wV fun _=>?_|simp [go_sem, hegl]
  ·repeat first|refine wV fun _=>?_|simp [go_sem, hegl]
   refine zAD hSn (by simp [go_sem, hegb]) ?_
   repeat first|refine wV fun _=>?_|simp [go_sem, hegl]
   refine zAD hBS (by simp [go_sem, hegb]) ?_
   repeat first|refine wV fun _=>?_|simp [go_sem, hegl]
def zqZ (al : List zag) (k r : Nat) : Nat := (al.take k).countP (zuG · r)
def zro (al : List zag) (k r : Nat) : List AV := (List.range 4).map fun j => .v (.int .i64 ((if j < r then zqZ al (k + 1) j else zqZ al k j : Nat) : Int))
theorem zys (al : List zag) (k r : Nat) : (zro al k r).length = 4 := by simp [zro]
theorem four {r : Nat} (h : r < 4) : r = 0 ∨ r = 1 ∨ r = 2 ∨ r = 3 := by omega
theorem zmO (al : List zag) (k r : Nat) {j : Nat} (hj : j < 4) : cel (zro al k r) j = .v (.int .i64 ((if j < r then zqZ al (k + 1) j else zqZ al k j : Nat) : Int)) := by
 rcases four hj with h | h | h | h <;> subst h <;> rfl
theorem zyt (al : List zag) (k : Nat) {r : Nat} (h : r < 4) : (zro al k r).set r (.v (.int .i64 (zqZ al (k + 1) r))) = zro al k (r + 1) := by
 rcases four h with h | h | h | h <;> subst h <;> rfl
theorem zyr (al : List zag) (k : Nat) : zro al k 4 = zro al (k + 1) 0 := rfl
theorem zyq {n : Nat} (al : List zag) (k r : Nat) : (∀ c ∈ zro al k r, Bel n c) = True := by
 refine eq_true fun c hc => ?_
 obtain ⟨j, _, rfl⟩ := List.mem_map.1 hc
 exact .v _
theorem zzO (al : List zag) (k r : Nat) : zqZ al k r ≤ al.length := by
 unfold zqZ
 have h1 := List.countP_le_length (p := (zuG · r)) (l := al.take k)
 have h2 : (al.take k).length ≤ al.length := by simp; omega
 omega
theorem zuQ {al : List zag} {k r : Nat} (hk : k < al.length) : zqZ al (k + 1) r = zqZ al k r + if zuG (nth al k) r = true then 1 else 0 := by
 unfold zqZ
 rw [List.take_add_one, List.getElem?_eq_getElem hk, zau _ _ hk, Option.toList_some, List.countP_append, List.countP_cons, List.countP_nil, Nat.zero_add]
theorem zxw {g : zad} (hg : GOk g) {al : List zag} {k r : Nat} (hk : k < al.length) (hr : r < 4) (h : POk g (nth al k)) : (zqZ al (k + 1) r : Int) = zqZ al k r + zgi .i64 ((nth al k).rights.fdiv (2 ^ r)) 1 ∧ 0 ≤ zgi .i64 ((nth al k).rights.fdiv (2 ^ r)) 1 ∧ zgi .i64 ((nth al k).rights.fdiv (2 ^ r)) 1 ≤ 1 := by
 have e := zzF h.r0 (zyp hg h) hr
 have e2 : bitN (nth al k).rights r = zgi .i64 ((nth al k).rights.fdiv (2 ^ r)) 1 := rfl
 rw [← e2, e, zuQ hk, zzG]
 split <;> simp
def zql (al : List zag) (R r : Nat) : List (List AV) := (List.range R).map fun j => zbB (if j < r then zhP al j else 0)
theorem zyg (al : List zag) (R r : Nat) : (zql al R r).length = R := by simp [zql]
theorem zvT (al : List zag) (R : Nat) : zql al R 0 = List.replicate R (zbB 0) := by
 unfold zql
 refine List.ext_getElem (by simp) fun j h1 h2 => ?_
 simp
theorem zyh (al : List zag) (R r : Nat) : (zql al R r).set r (zbB (zhP al r)) = zql al R (r + 1) := by
 refine List.ext_getElem (by simp [zql]) fun j h1 h2 => ?_
 rw [List.getElem_set]
 by_cases e : r = j
 ·subst e; simp [zql]
 ·rw [if_neg e]
  simp only [zql, List.getElem_map, List.getElem_range]
  by_cases h : j < r
  ·rw [if_pos h, if_pos (by omega)]
  ·rw [if_neg h, if_neg (by omega)]
theorem zvS (al : List zag) (R : Nat) {r : Nat} (h : zhP al r = 0) : zql al R r = zql al R (r + 1) := by
 refine List.map_congr_left fun j _ => ?_
 by_cases e : j = r
 ·subst e; rw [if_neg (by omega), if_pos (by omega), h]
 ·by_cases h : j < r
  ·rw [if_pos h, if_pos (by omega)]
  ·rw [if_neg h, if_neg (by omega)]
theorem zye (al : List zag) (R : Nat) : zql al R R = ((List.range R).map (zhP al)).map zbB := by
 unfold zql
 rw [List.map_map]
 refine List.map_congr_left fun j hj => ?_
 rw [if_pos (List.mem_range.1 hj)]
 rfl
theorem zyf {n : Nat} (al : List zag) (R r : Nat) : (∀ x ∈ zql al R r, ∀ c ∈ x, Bel n c) = True := by
 refine eq_true fun x hx c hc => ?_
 obtain ⟨j, _, rfl⟩ := List.mem_map.1 hx
 simp only [zbB, List.mem_singleton] at hc
 subst hc
 exact .v _
theorem zpk (g : zad) (hg : GOk g) (s : zag) (hs : POk g s) (p : zag) (hp : zaK p) (n : Int) :
  zaP Tryz.prog 148 [.agg (zae g), .agg (zac s), .agg (zac p), .v (.int .i64 n)] (.tup [zap (zc4 g s p n).1, .v (.int .i64 (zc4 g s p n).2)]) := by
 refine pF Tryz.func148 ?_
 have hSn := ziD g hg s hs n
 have hl := zhp hg hs n
 have hok := zjQ hg hs n
 have hLo := zsT p
 have hK := zoh (zcs g s n) (by omega) 249 [.fp (zac p)] (zhL p) (fun q hq => zqb p q hp ((hok q hq).fits hg)) (by simp [go_sem])
 have hal : ((zcs g s n).filter (zhL p)).length ≤ 1889788001 := Nat.le_trans (List.length_filter_le _ _) hl
 have halo : ∀ q ∈ (zcs g s n).filter (zhL p), POk g q := fun q hq => hok q (List.mem_filter.1 hq).1
 unfold zc4 zkN
 generalize (zcs g s n).filter (zhL p) = al at *
 generalize zcs g s n = sn at *
 generalize zdF (zba g s n) = fu at *
 have hegl : (zae g).length = 9 := rfl
 have hegb : ∀ n, (∀ c ∈ zae g, Bel n c) = True := fun n => by simp [go_sem]
 have hegr : cel (zae g) 4 = .v (.int .i64 g.rights) := rfl
 have hr0 := hg.r0
 have hr4 := hg.r4
 obtain ⟨R, hR⟩ : ∃ R : Nat, g.rights = R := ⟨g.rights.toNat, by omega⟩
 rw [hR] at hegr hr4 ⊢
 rw [Int.toNat_natCast]
 generalize zae g = eg at *
 cases fu
 ·repeat first|refine wV fun _=>?_|simp [go_sem, hegl]
  refine zAD hSn (by simp [go_sem, hegb]) ?_
  repeat first|refine wV fun _=>?_|simp [go_sem, hegl]
 ·repeat first|refine wV fun _=>?_|simp [go_sem, hegl]
  refine zAD hSn (by simp [go_sem, hegb]) ?_
  repeat first|refine wV fun _=>?_|simp [go_sem, hegl]
  refine zAH hLo (by simp [go_sem]) ?_
  repeat first|refine wV fun _=>?_|simp [go_sem, hegl]
  refine zAL [3] hK ?_ (by simp [go_sem]) ?_
  ·(first|done|exact leX)
  by_cases hz : al = []
  ·subst hz
   repeat first|refine wV fun _=>?_|simp [go_sem, hegl]
  ·have hap := List.length_pos_iff.2 hz
   have hz2 : (al = []) = False := eq_false hz
   have hcel := fun k r j hj => zmO al k r (j := j) hj
   have hset := fun k r hr => zyt al k (r := r) hr
   have hrl := zys al
   have hrb := fun n => zyq (n := n) al
   have hre := zyr al
   have hcl := zzO al
   have hnum := fun k r hk hr => zxw hg (al := al) (k := k) (r := r) hk hr (halo _ (zaj hk))
   repeat first|refine wV fun _=>?_|simp [go_sem, hegl, hz2]
   refine zAC (zAG (α := Nat) (fun k => ⟨[(4, .ref 0 0 9 0 0), (12, zaI al), (13, .ref 4 0 4 0 0), (35, zaI al), (36, .v (.int .i64 al.length)), (37, .v (.int .i64 k))], [(0, .rows true 0 9 [eg]), (4, .rows true 0 4 [zro al k 0])], 5⟩)
    (fun d k => k + d = al.length) ?_ al.length 0 ?_) ?_ ?_
   ·rintro d k k1 hrec
    repeat first|refine wV fun _=>?_|simp [go_sem, hegl]
    refine zAE (fun hk => ?_) (fun hk => ?_) <;> simp at hk
    ·repeat first|refine wV fun _=>?_|simp [go_sem, hegl, hk]
     refine zAC (zAG (α := Nat) (fun r => ⟨[(4, .ref 0 0 9 0 0), (12, zaI al), (13, .ref 4 0 4 0 0), (15, .ref 5 0 5 0 0), (35, zaI al), (36, .v (.int .i64 al.length)), (37, .v (.int .i64 k)), (41, .v (.int .i64 r))],
       [(0, .rows true 0 9 [eg]), (4, .rows true 0 4 [zro al k r]), (5, .rows true 0 5 [zac (nth al k)])], 6⟩)
      (fun d r => r + d = 4) ?_ 4 0 ?_) ?_ ?_
     ·rintro d2 r r1 hrec2
      repeat first|refine wV fun _=>?_|simp [go_sem, hegl]
      refine zAE (fun hr => ?_) (fun hr => ?_) <;> simp at hr
      ·have hr4' : r < 4 := by omega
       have hcr : cel (zro al k r) r = .v (.int .i64 (zqZ al k r : Int)) := by rw [zmO al k r hr4', if_neg (Nat.lt_irrefl r)]
       obtain ⟨n1, n2, n3⟩ := hnum k r hk hr4'
       have hs := hset k r hr4'
       have hc1 := hcl k r
       rw [n1] at hs
       generalize hbn : zgi .i64 ((nth al k).rights.fdiv (2 ^ r)) 1 = bn at *
       repeat first|refine wV fun _=>?_|simp [go_sem, hegl, hrl, hcr, hs, hbn]
       refine zAC (hrec2 (d2 - 1) (by omega) (r + 1) (by omega)) ?_ (by simp)
       simp [go_sem, zaf, hegb, hrb, hs]
      ·obtain rfl : r = 4 := by omega
       repeat first|refine wV fun _=>?_|simp [go_sem, hegl]
       refine zAC (hrec (d - 1) (by omega) (k + 1) (by omega)) ?_ (by simp)
       simp [go_sem, zaf, hegb, hrb, hre]
     ·rfl
     ·simp [go_sem, zaf, hegb, hrb]
     ·simp
    ·obtain rfl : k = al.length := by omega
     have hcf : ∀ r, r < 4 → cel (zro al al.length 0) r = .v (.int .i64 ((al.countP (zuG · r) : Nat) : Int)) := fun r hr => by
      rw [zmO al _ 0 hr, if_neg (Nat.not_lt_zero r)]
      unfold zqZ
      rw [List.take_length]
     have hol := zyg al R
     have hoz := zvT al R
     have hos := zyh al R
     have hok := fun r h => zvS al R (r := r) h
     have hoa := zye al R
     have hob := fun n => zyf (n := n) al R
     obtain ⟨O, hO⟩ : ∃ O, O = zql al R := ⟨_, rfl⟩
     rw [← hO] at hol hoz hos hok hoa hob
     clear hO
     obtain ⟨Rw, hRw⟩ : ∃ Rw, Rw = zro al al.length 0 := ⟨_, rfl⟩
     have hRl : Rw.length = 4 := by rw [hRw]; exact hrl _ _
     have hRb : ∀ n, (∀ c ∈ Rw, Bel n c) = True := fun n => by rw [hRw]; exact hrb n _ _
     rw [← hRw] at hcf ⊢
     clear hRw
     repeat first|refine wV fun _=>?_|simp [go_sem, hegl, hegr]
     refine zAC (zAG (α := Nat) (fun r => ⟨[(12, zaI al), (13, .ref 4 0 4 0 0), (17, .sl 5 0 1 0 R), (60, .v (.int .i64 R)), (61, .v (.int .i64 r))],
       [(4, .rows true 0 4 [Rw]), (5, .rows true 0 1 (O r))], 6⟩)
      (fun d r => r + d = R) ?_ R 0 ?_) ?_ ?_
     ·rintro d2 r r1 hrec2
      have holr := hol r
      repeat first|refine wV fun _=>?_|simp [go_sem, holr]
      refine zAE (fun hr => ?_) (fun hr => ?_) <;> simp at hr
      ·have hc := hcf r (by omega)
       have hosr := hos r
       have hokr := hok r
       have hcl2 : al.countP (zuG · r) ≤ al.length := List.countP_le_length
       have hrv : zhP al r = if al.countP (zuG · r) = 0 then 0 else if al.countP (zuG · r) = al.length then 1 else 2 := rfl
       generalize al.countP (zuG · r) = c at *
       generalize zhP al r = v at *
       by_cases h0 : c = 0
       ·rw [if_pos h0] at hrv
        have hkr := hokr hrv
        subst h0
        repeat first|refine wV fun _=>?_|simp [go_sem, holr, hc, hRl]
        refine zAC (hrec2 (d2 - 1) (by omega) (r + 1) (by omega)) ?_ (by simp)
        simp [go_sem, zaf, hRb, hob, hkr]
       ·rw [if_neg h0] at hrv
        by_cases h1 : c = al.length
        ·rw [if_pos h1] at hrv
         subst hrv
         subst h1
         have hosr2 : (O r).set r [.v (.int .i64 1)] = O (r + 1) := hosr
         repeat first|refine wV fun _=>?_|simp [go_sem, holr, hc, hRl, hz2]
         refine zAC (hrec2 (d2 - 1) (by omega) (r + 1) (by omega)) ?_ (by simp)
         simp [go_sem, zaf, hRb, hob, hosr2]
        ·rw [if_neg h1] at hrv
         subst hrv
         have hosr2 : (O r).set r [.v (.int .i64 2)] = O (r + 1) := hosr
         have h1i : ((c : Int) = al.length) = False := eq_false (by omega)
         repeat first|refine wV fun _=>?_|simp [go_sem, holr, hc, hRl, h0, h1, h1i]
         refine zAC (hrec2 (d2 - 1) (by omega) (r + 1) (by omega)) ?_ (by simp)
         simp [go_sem, zaf, hRb, hob, hosr2]
      ·obtain rfl : r = R := by omega
       repeat first|refine wV fun _=>?_|simp [go_sem, holr]
       have hfin : (((O r).drop 0).take r) = ((List.range r).map (zhP al)).map zbB := by
        rw [List.drop_zero, hoa]
        exact List.take_of_length_le (by rw [List.length_map, List.length_map, List.length_range]; exact Nat.le_refl r)
       exact zaB rfl (by simp [holr]) (by simp [upd, noH]) (by rw [hfin, List.map_map])
     ·omega
     ·simp [go_sem, zaf, hRb, hob, hoz]
     ·simp
   ·simp
   ·simp [go_sem, zaf, hegb, hrb]
    rw [show zro al 0 0 = [.v (.int .i64 0), .v (.int .i64 0), .v (.int .i64 0), .v (.int .i64 0)] from rfl]
    exact .refl _ _ _ _
   ·simp
def zdn (x : zlV) : zlV := { x with picks := [] }
theorem zhh {x : zlV} (hx : zeM x) : zeM (zdn x) := ⟨hx.g, hx.p, fun n hn => by simp [zdn] at hn, by simp [zdn], hx.l0, hx.l1, hx.lc⟩
def zc6 (x : zlV) : zag := allR (zbD x) (zyZ (zdn x))
def zv2 (x : zlV) (a b : Int) : zag := endR (zbD x) (zc6 x) (x.picks.take 6) a b
theorem zhs {x : zlV} (hx : zeM x) : POk (zbD x) (zc6 x) := zzt (zeD hx) (zv3 (zhh hx))
theorem zyj {x : zlV} (hx : zeM x) (a : Int) {b : Int} (hb : 0 ≤ b) : POk (zbD x) (zv2 x a b) := zzX (zeD hx) (zhs hx) _ a hb
def zmn (g : zad) (s p : zag) : List AV := zae g ++ (zac s ++ zac p)
def zwF : List AV := [.v (.int .i64 0), zAI, zAI, zAI, .v (.int .i64 0), .v (.bool false), zAI, .v (.int .i64 0), .v (.int .i64 0), zAI, zAI, zAI, .v (.int .i64 0), .v (.int .i64 0), zAI, zAI, zAI, .v (.int .i64 0), .v (.int .i64 0)]
attribute [go_sem] zmn zwF
theorem zqu {a b : List AV} {n m : Nat} (ha : a.length = n) (hb : b.length = m) (z : List AV) (hz : n + m ≤ z.length) : setMany (setMany z 0 a) n b = a ++ (b ++ z.drop (n + m)) := by
  rw [zem a z 0 (by omega), zem b _ n (by simp; omega)]
  rw [List.take_zero, List.nil_append, Nat.zero_add, ← ha, List.take_left, hb, ← List.drop_drop, List.drop_left, List.drop_drop, List.append_assoc]
theorem zoV (x : zlV) (hx : zeM x) (a b : Int) (ha : U8 a) (hb : U8 b) : zaP Tryz.prog 44 [.agg (zdD x), .agg [.v (.int .u8 a), .v (.int .u8 b)]] (.agg (zmn (zbD x) (zc6 x) (zv2 x a b))) := by
  refine pF Tryz.func44 ?_
  have hg := zeD hx
  have hM := zpg (zdn x) (zhh hx)
  have hs := zhs hx
  have hp0 := zv3 (zhh hx)
  rw [show zbD (zdn x) = zbD x from rfl] at hM hp0
  have hlk := hx.lk
  have hW := ziA (zbD x) hg (zc6 x) hs (x.picks.take 6) (by simp; omega) (fun k hk => by have := hx.k k (List.mem_of_mem_take hk); have h0 := this.1; have h1 := this.2; omega)
  have hwl := zj7 (zbD x) (x.picks.take 6) (zc6 x)
  have hwp := List.length_pos_iff.2 (ziq (zbD x) (zc6 x) (x.picks.take 6))
  have hend : zv2 x a b = if a.tmod 4 = 3 then { nth (zdu (zbD x) (zc6 x) (x.picks.take 6)) ((zdu (zbD x) (zc6 x) (x.picks.take 6)).length - 1) with rights := b.tmod (2 ^ (zbD x).rights.toNat) } else nth (zdu (zbD x) (zc6 x) (x.picks.take 6)) ((zdu (zbD x) (zc6 x) (x.picks.take 6)).length - 1) := rfl
  have hst : zc6 x = { zyZ (zdn x) with rights := orR (zyZ (zdn x)).rights (zbD x).rights.toNat } := rfl
  have hr0 := hg.r0
  have hr4 := hg.r4
  obtain ⟨R, hR⟩ : ∃ R : Nat, (zbD x).rights = R := ⟨(zbD x).rights.toNat, by omega⟩
  rw [hR, Int.toNat_natCast] at hend hst
  have hR4 : R ≤ 4 := by omega
  have hegl : (zae (zbD x)).length = 9 := rfl
  have hegb : ∀ n, (∀ c ∈ zae (zbD x), Bel n c) = True := fun n => by simp [go_sem]
  have hegr : cel (zae (zbD x)) 4 = .v (.int .i64 R) := by rw [← hR]; rfl
  obtain ⟨hb0, hb1⟩ := hb
  obtain ⟨ha0, ha1⟩ := ha
  unfold zdD at hM ⊢
  unfold zmn
  rw [show (zdn x).g = x.g from rfl, show (zdn x).p = x.p from rfl, show (zdn x).picks = [] from rfl] at hM
  have hrow := zoB hx.p
  obtain ⟨er, her⟩ : ∃ er, er = zcM x.p := ⟨_, rfl⟩
  rw [← her] at hrow hM ⊢
  obtain ⟨rl, _, _, _, _, _, rb⟩ := hrow
  obtain ⟨er1, her1⟩ : ∃ er1, er1 = zcL x.g := ⟨_, rfl⟩
  have er1l : er1.length = 12 := by rw [her1]; rfl
  have er1b : ∀ n, (∀ c ∈ er1, Bel n c) = True := fun n => by rw [her1]; simp [go_sem]
  rw [← her1] at hM ⊢
  have hc30 : cel (er1 ++ (er ++ [AV.lst 1 (x.picks.map zi0)])) 30 = .lst 1 (x.picks.map zi0) := by
    unfold cel
    rw [List.getD_eq_getElem?_getD, List.getElem?_append_right (by omega), List.getElem?_append_right (by omega)]
    simp [er1l, rl]
  have hd0 : List.take 12 (er1 ++ (er ++ [AV.lst 1 (x.picks.map zi0)])) = er1 := by rw [← er1l, List.take_left]
  have hd12 : List.take 18 (List.drop 12 (er1 ++ (er ++ [AV.lst 1 (x.picks.map zi0)]))) = er := by
    rw [← er1l, List.drop_left, ← rl, List.take_left]
  have hsm : ∀ z : List AV, z.length = 31 → setMany (setMany z 0 er1) 12 er = er1 ++ (er ++ z.drop 30) := fun z hz => zqu er1l rl z (by omega)
  generalize hgg : zbD x = g at *
  generalize hpp : zyZ (zdn x) = p at *
  generalize zc6 x = st at *
  generalize zv2 x a b = en at *
  generalize zdu g st (x.picks.take 6) = w at *
  generalize zae g = eg at *
  repeat first|refine wV fun _=>?_|simp [go_sem, rl, rb, er1l, er1b, hegl, hegb, hd0, hd12, hsm, zd8]
  refine zAL [] hM ?_ (by simp [go_sem, rb, er1b]) ?_
  · exact .cons (.agg (zan.append (.refl _ _ _ _) (zan.append (.refl _ _ _ _) (.cons (.nil _) .nil)))) .nil
  repeat first|refine wV fun _=>?_|simp [go_sem, rl, rb, er1l, er1b, hegl, hegb]
  have hra : ∀ r, orR p.rights (r + 1) = orN .i64 (orR p.rights r) (2 ^ r) := fun _ => rfl
  refine zAC (zAG (α := Nat) (fun r => ⟨[(2, .ref 0 0 31 0 0), (3, .ref 1 0 2 0 0), (4, .ref 2 0 19 0 0), (5, .ref 3 0 9 0 0), (6, .ref 4 0 5 0 0), (7, .v (.int .i64 r))],
      [(0, .rows true 0 31 [er1 ++ (er ++ [AV.lst 1 (x.picks.map zi0)])]), (1, .rows true 0 2 [[.v (.int .u8 a), .v (.int .u8 b)]]), (2, .rows true 0 19 [zwF]), (3, .rows true 0 9 [eg]),
       (4, .rows true 0 5 [zac { p with rights := orR p.rights r }])], 5⟩)
    (fun d r => r + d = R) ?_ R 0 ?_) ?_ ?_
  · rintro d r r1 hrec
    repeat first|refine wV fun _=>?_|simp [go_sem, hegl, hegr]
    refine zAE (fun hr => ?_) (fun hr => ?_) <;> simp at hr
    · have hra := hra r
      have hpw : (2 : Int) ^ r ≤ 8 ∧ (1 : Int) ≤ 2 ^ r := by
        rcases (show r = 0 ∨ r = 1 ∨ r = 2 ∨ r = 3 by omega) with h | h | h | h <;> subst h <;> decide
      repeat first|refine wV fun _=>?_|simp [go_sem, hegl, hegr]
      refine zAC (hrec (d - 1) (by omega) (r + 1) (by omega)) ?_ (by simp)
      simp [go_sem, zaf, rb, er1b, hegb, hra]
    · obtain rfl : r = R := by omega
      obtain ⟨pk, hpk⟩ : ∃ pk : Nat → List Int, ∀ i, pk i = x.picks.take i := ⟨_, fun _ => rfl⟩
      have htl : ∀ i, i ≤ x.picks.length → (pk i).length = i := fun i hi => by rw [hpk]; simp; omega
      have hts : ∀ i, i < x.picks.length → pk (i + 1) = pk i ++ [nth x.picks i] := fun i hi => by rw [hpk, hpk, List.take_add_one, List.getElem?_eq_getElem hi, zau _ _ hi]; rfl
      have hpz : pk 0 = [] := by rw [hpk]; rfl
      rw [← hpk] at hW
      obtain ⟨s1, s2, s3, s4, s5⟩ : st.at_ = p.at_ ∧ st.h0 = p.h0 ∧ st.h1 = p.h1 ∧ st.rights = orR p.rights r ∧ st.side = p.side := by rw [hst]; exact ⟨rfl, rfl, rfl, rfl, rfl⟩
      repeat first|refine wV fun _=>?_|simp [go_sem, hegl, hegr]
      refine zAC (zAG (α := Nat) (fun i => ⟨[(2, .ref 0 0 31 0 0), (3, .ref 1 0 2 0 0), (4, .ref 2 0 19 0 0), (5, .ref 3 0 9 0 0), (6, .ref 4 0 5 0 0), (8, .sl 5 i 1 0 i), (9, .v (.int .i64 i))],
          [(0, .rows true 0 31 [er1 ++ (er ++ [AV.lst 1 (x.picks.map zi0)])]), (1, .rows true 0 2 [[.v (.int .u8 a), .v (.int .u8 b)]]), (2, .rows true 0 19 [zwF]), (3, .rows true 0 9 [eg]),
           (4, .rows true 0 5 [zac st]), (5, .rows true i 1 ((pk i).map zbB))], 6⟩)
        (fun d i => i + d = min x.picks.length 6) ?_ (min x.picks.length 6) 0 ?_) ?_ ?_
      · rintro d i i1 hrec2
        repeat first|refine wV fun _=>?_|simp [go_sem, rl, rb, er1l, er1b, hegl, hegb, hc30]
        refine zAE (fun hi => ?_) (fun hi => ?_) <;> simp at hi
        · have hil : i < x.picks.length := by omega
          have hki := hx.k _ (zaj hil)
          have hk0 := hki.1
          have hk1 := hki.2
          have e1 := htl i (by omega)
          have e2 := hts i hil
          repeat first|refine wV fun _=>?_|simp [go_sem, rl, er1l, hc30, hil, e1]
          refine zAC (hrec2 (d - 1) (by omega) (i + 1) (by omega)) ?_ (by simp)
          simp [go_sem, zaf, e2, rb, er1b, hegb]
        · have hil : i = min x.picks.length 6 := by omega
          have e1 := htl i (by omega)
          have e2 : pk i = pk 6 := by rw [hpk, hpk, hil, List.take_eq_take_iff]; omega
          rw [← e2] at hW
          have h6 : (x.picks.take 6).length ≤ 6 := by simp; omega
          have hw7 : w.length ≤ 7 := by omega
          have hwi : ((w.length : Int) - 1).toNat = w.length - 1 := by omega
          have hwn : w.length - 1 < w.length := by omega
          have hpw : (2 : Int) ^ r ≤ 16 ∧ (1 : Int) ≤ 2 ^ r := by
            rcases (show r = 0 ∨ r = 1 ∨ r = 2 ∨ r = 3 ∨ r = 4 by omega) with h | h | h | h | h <;> subst h <;> decide
          repeat first|refine wV fun _=>?_|simp [go_sem, rl, rb, er1l, er1b, hegl, hegb]
          refine zAL [5] hW ?_ (by simp [go_sem, hegb]) ?_
          · ((try simp only [zax, zaO, zbf, zcp, zaH, zcB, zaF, zal, zac, zcS, zbb, zaI, zap, zae, List.map_cons, List.map_nil, List.nil_append, List.append_nil, List.cons_append]); (repeat (first | (with_reducible first|exact zan.nil|exact zam.nil|exact LeV.refl _|exact zan.refl _ _ _ _|exact zam.refl _|refine zan.cons ?_ ?_|refine zam.cons ?_ ?_|refine LeV.agg ?_|refine LeV.tup ?_|refine LeV.fn ?_ ?_|exact LeV.nil _|refine zar (zam.refl _) ?_) | ((refine zaB rfl (by simp [e1]) (by simp [zbt, zbV, upd, noH]) ?_); (first | (simp [go_sem, e1]; done) | (simp [go_sem, e1]; exact List.take_of_length_le (by simp [e1])))) | ((refine LeV.frz rfl (by simp [e1]) (by simp [zbt, zbV, upd, noH]) ?_); (simp only [List.drop_zero, List.take_succ_cons, List.take_zero, List.map_cons, List.map_nil])) | ((refine LeV.frzP rfl (by simp [e1]) (by simp) (by simp [zbt, zbV, upd, noH]) ?_); (simp only [zbg, List.drop_zero])))))
          have hs0 : ∀ z : List AV, z.length = 19 → setMany z 0 eg = eg ++ z.drop 9 := fun z hz => by
            rw [zem eg z 0 (by omega), List.take_zero, List.nil_append, Nat.zero_add, hegl]
          have hsE : ∀ (t : List AV) (v : AV) (i : Nat), 9 ≤ i → (eg ++ t).set i v = eg ++ t.set (i - 9) v := fun t v i hi => by
            rw [List.set_append_right _ _ (by omega), hegl]
          repeat first|refine wV fun _=>?_|simp [go_sem, rl, rb, er1l, er1b, hegl, hegb, hwi, hwn, hs0, hsE]
          refine zAE (fun hA => ?_) (fun hA => ?_)
          · have hA3 : a.tmod 4 = 3 := by simpa using hA
            rw [if_pos hA3] at hend
            subst hend
            have hcnd : (r : Int) ≤ 64 ∧ -9223372036854775808 ≤ (2 : Int) ^ r ∧ (2 : Int) ^ r ≤ 9223372036854775807 := ⟨by omega, Int.le_trans (by decide) hpw.2, Int.le_trans hpw.1 (by decide)⟩
            have hne : ((2 : Int) ^ r = 0) = False := eq_false (by intro h; rw [h] at hpw; omega)
            repeat first|refine wV fun _=>?_|simp [go_sem, rl, rb, er1l, er1b, hegl, hegr, hegb, hsE, hcnd.1, hcnd.2.1, hcnd.2.2, hne]
            try exact zan.refl _ _ _ _
          · have hA3 : ¬ a.tmod 4 = 3 := by simpa using hA
            rw [if_neg hA3] at hend
            subst hend
            repeat first|refine wV fun _=>?_|simp [go_sem, rl, rb, er1l, er1b, hegl, hegb, hsE]
      · omega
      · simp [go_sem, zaf, rb, er1b, hegb, hpz, s1, s2, s3, s4, s5]
      · simp
  · show 0 + R = R
    omega
  · simp [go_sem, zaf, rb, er1b, hegb, orR]
  · simp
end Go.Av
end
