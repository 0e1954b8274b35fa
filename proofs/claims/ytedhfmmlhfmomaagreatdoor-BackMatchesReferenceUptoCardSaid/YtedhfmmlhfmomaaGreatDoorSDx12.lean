/- Texts of ours, part 12: contracts and facts for this claim. -/
import Derived.Test.YtedhfmmlhfmomaaGreatDoorB12
import Derived.Test.YtedhfmmlhfmomaaGreatDoorSDx11
set_option linter.unusedSimpArgs false
set_option linter.unusedVariables false
set_option maxRecDepth 100000
set_option maxHeartbeats 40000000
section
open Go Go.Proofs
namespace Go.Av
theorem zkW (g : zae) (hg : GOk g) (hs : zbm g) (p : zah) (hp : POk g p) : zaL Tryz.prog 32 [.agg (zac g), .agg (zad p)] (zb7 (zbQ g p)) := by
 refine pF Tryz.func32 ?_
 have hC := zin g hg hs p hp
 have hcl := zsJ hg hs hp
 have hsz := (zre hg hp).2
 have hSo := zeC (zc1 g p) (by omega) (fun q hq => (hsz q hq).fits hg)
 have hsl : (zbh zbx (zc1 g p)).length ≤ 35831817 := Nat.le_trans (zdw _ _) hcl
 have hszS : ∀ q ∈ zbh zbx (zc1 g p), zaU q := fun q hq => (hsz q (za9.1 hq)).fits hg
 have hall := zuC hg p
 have hbs := fun i h => znI (g := g) (p := p) (l := zbh zbx (zc1 g p)) (i := i) h
 have hb0 := znJ g p (zbh zbx (zc1 g p))
 have hbl := zq8 g p (zbh zbx (zc1 g p))
 have hV := fun q hq => zeE g (by have := hg.k6; unfold zfY; omega) ⟨hg.r0, by have := hg.r4; omega⟩ q (hszS q hq)
 have hL := fun q (hq : zer g q = true) => zni g hg q (zfy.1 hq) p (hp.fits hg)
 have hBe : zbQ g p = if 4000 < (zaM g p).length then ([], 2) else (zaM g p, 0) := rfl
 rw [← hall] at hBe
 obtain ⟨R, hR⟩ : ∃ R, R = zbQ g p := ⟨_, rfl⟩
 rw [← hR] at hBe ⊢
 clear hall hR hsz
 generalize zq7 g p (zbh zbx (zc1 g p)) = bI at *
 generalize zbh zbx (zc1 g p) = S at *
 generalize zc1 g p = C at *
 repeat first|refine wV fun _=>?_|simp [go_sem]
 refine zAs hC (by simp [go_sem]) ?_
 repeat first|refine wV fun _=>?_|simp [go_sem]
 refine zAs hSo (by simp [go_sem]) ?_
 repeat first|refine wV fun _=>?_|simp [go_sem]
 refine zAr (zAv (α := Nat) (fun i => ⟨[(2, .ref 0 0 9 0 0), (3, .ref 1 0 5 0 0), (4, .ref 2 0 2 0 0), (5, zaN S), (6, .sl 3 (bI i).length 5 0 (bI i).length), (7, .v (.int .i64 i))], [(0, .rows true 0 9 [zac g]), (1, .rows true 0 5 [zad p]), (2, .rows true 0 2 [[zAz, .v (.int .i64 0)]]), (3, .rows true (bI i).length 5 ((bI i).map zad))], 4⟩)
  (fun d i => i + d = S.length) ?_ S.length 0 ?_) ?_ ?_
 ·rintro d i i1 hrec
  have hbli := hbl i
  repeat first|refine wV fun _=>?_|simp [go_sem]
  refine zAt (fun hi => ?_) (fun hi => ?_) <;> simp at hi
  ·have hVi := hV _ (zaj hi)
   have hLi := hL (nth S i)
   have hbs := hbs i hi
   have hgi := zbl zad S i hi
   generalize nth S i = q at *
   generalize hok : zer g q = ok at *
   repeat first|refine wV fun _=>?_|simp [go_sem, hi, hgi]
   refine zAu hVi (by simp [go_sem]) ?_
   repeat first|refine wV fun _=>?_|simp [go_sem, hi, hgi]
   refine zAD (.v (.bool (decide (p ∈ zaK g q)))) (fun h => hLi h) (by simp [go_sem]) ?_
   by_cases hm : p ∈ zaK g q
   ·cases ok
    ·rw [if_neg (by simp)] at hbs
     repeat first|refine wV fun _=>?_|simp [go_sem, hm]
     refine zAr (hrec (d - 1) (by omega) (i + 1) (by omega)) ?_ (by simp)
     simp [go_sem, zaf, hbs]
    ·rw [if_pos ⟨rfl, hm⟩] at hbs
     repeat first|refine wV fun _=>?_|simp [go_sem, hm, hi, hgi]
     refine zAr (hrec (d - 1) (by omega) (i + 1) (by omega)) ?_ (by simp)
     simp [go_sem, zaf, hbs]
   ·rw [if_neg (fun h => hm h.2)] at hbs
    cases ok
    ·repeat first|refine wV fun _=>?_|simp [go_sem, hm]
     refine zAr (hrec (d - 1) (by omega) (i + 1) (by omega)) ?_ (by simp)
     simp [go_sem, zaf, hbs]
    ·repeat first|refine wV fun _=>?_|simp [go_sem, hm]
     refine zAr (hrec (d - 1) (by omega) (i + 1) (by omega)) ?_ (by simp)
     simp [go_sem, zaf, hbs]
  ·obtain rfl : i = S.length := by omega
   generalize bI S.length = bl at *
   rw [hBe]
   repeat first|refine wV fun _=>?_|simp [go_sem]
   refine zAt (fun hbig => ?_) (fun hbig => ?_) <;> simp at hbig
   ·rw [if_pos (by omega)]
    repeat first|refine wV fun _=>?_|simp [go_sem, zb7]
   ·rw [if_neg (by omega)]
    repeat first|refine wV fun _=>?_|simp [go_sem, zb7]
    exact frX
 ·omega
 ·simp [go_sem, zaf, hb0]
 ·simp
theorem zo3 (g : zae) (hg : GOk g) (hs : zbm g) (p : zah) (hp : POk g p) (n : Int) : zaL Tryz.prog 34 [.agg (zac g), .agg (zad p), .v (.int .i64 n)] (zb7 (zcL g p n)) := by
 refine pF Tryz.func34 ?_
 have hB := fun q hq => zkW g hg hs q hq
 have hBs := fun q => zq6 (g := g) (p := q)
 have hBb := fun q => znF (g := g) (p := q)
 have hfit := fun r (h : POk g r) => h.fits hg
 have hgb : ∀ n, (∀ c ∈ zac g, Bel n c) = True := fun n => by simp [go_sem]
 have hgl : (zac g).length = 9 := rfl
 obtain ⟨eg, heg⟩ : ∃ eg, eg = zac g := ⟨_, rfl⟩
 rw [← heg] at hgb hgl
 simp only [← heg] at hB
 rw [← heg]
 clear heg
 have hcv : zcL g p n = if n < 0 ∨ 6 < n then ([], 1) else zb0 g n.toNat [p] := rfl
 obtain ⟨R, hR⟩ : ∃ R, R = zcL g p n := ⟨_, rfl⟩
 rw [← hR] at hcv ⊢
 repeat first|refine wV fun _=>?_|simp [go_sem, hgl]
 by_cases hn : n < 0
 ·rw [if_pos (.inl hn)] at hcv
  rw [hcv]
  repeat first|refine wV fun _=>?_|simp [go_sem, hn, zb7]
 ·by_cases hn6 : 6 < n
  ·rw [if_pos (.inr hn6)] at hcv
   rw [hcv]
   repeat first|refine wV fun _=>?_|simp [go_sem, hn, hn6, zb7]
  ·rw [if_neg (by omega)] at hcv
   obtain ⟨m, rfl⟩ : ∃ m : Nat, n = m := ⟨n.toNat, by omega⟩
   rw [Int.toNat_natCast] at hcv
   clear hR
   repeat first|refine wV fun _=>?_|simp [go_sem, hn, hn6, hgl]
   refine zAr (zAv (α := Nat × List zah) (fun a => ⟨[(2, .v (.int .i64 m)), (3, .ref 0 0 9 0 0), (6, .ref 2 0 2 0 0), (7, zaN a.2), (8, .v (.int .i64 a.1))], [(0, .rows true 0 9 [eg]), (2, .rows true 0 2 [[zAz, .v (.int .i64 0)]])], 3⟩)
    (fun d a => a.1 + d = m ∧ R = zb0 g d a.2 ∧ (∀ q ∈ a.2, POk g q) ∧ a.2.length ≤ 4000) ?_ m (0, [p]) ?_) ?_ ?_
   ·rintro d ⟨i, L⟩ ⟨i1, i2, i3, i4⟩ hrec
    simp only at i1 i2 i3 i4
    repeat first|refine wV fun _=>?_|simp [go_sem, hgl]
    refine zAt (fun hi => ?_) (fun hi => ?_) <;> simp at hi
    ·obtain ⟨d, rfl⟩ : ∃ d', d = d' + 1 := ⟨d - 1, by omega⟩
     have hns := fun k hk => zoE g (l := L) (k := k) hk
     have hn0 := zoF g L
     have hna := zrr g L
     have hnl := fun k h => zrs (g := g) (l := L) (k := k) h
     have hno := fun k => zvZ (k := k) hg (l := L)
     have hbad := fun q hq h => znO (g := g) (n := d) (l := L) (q := q) hq h
     have hgo := fun h => zrf (g := g) (n := d) (l := L) h
     generalize zvY g L = nx at *
     have hb4 : L.length * 4000 ≤ 4000 * 4000 := Nat.mul_le_mul_right _ i4
     repeat first|refine wV fun _=>?_|simp [go_sem, hgl]
     refine zAr (zAv (α := Nat) (fun k => ⟨[(2, .v (.int .i64 m)), (3, .ref 0 0 9 0 0), (6, .ref 2 0 2 0 0), (7, zaN L), (8, .v (.int .i64 i)), (9, .sl 3 k 5 0 (nx k).length), (10, .v (.int .i64 k))], [(0, .rows true 0 9 [eg]), (2, .rows true 0 2 [[zAz, .v (.int .i64 0)]]), (3, .rows true k 5 ((nx k).map zad))], 4⟩)
      (fun d k => k + d = L.length ∧ ∀ j, j < k → j < L.length → (zaM g (nth L j)).length ≤ 4000) ?_ L.length 0 ?_) ?_ ?_
     ·rintro d2 k ⟨k1, k2⟩ hrec2
      have hnk := hnl k k2
      repeat first|refine wV fun _=>?_|simp [go_sem, hgl]
      refine zAt (fun hk => ?_) (fun hk => ?_) <;> simp at hk
      ·have hq := i3 _ (zaj hk)
       have hBq := hB _ hq
       have hns := hns k hk
       have hgk := zbl zad L k hk
       have hmq := zaj hk
       have hxs := hBs (nth L k)
       have hxb := hBb (nth L k)
       have hlk : ∀ j, j < k + 1 → j < L.length → (zaM g (nth L k)).length ≤ 4000 → (zaM g (nth L j)).length ≤ 4000 := fun j hj hj2 h => by
        rcases Nat.lt_or_ge j k with h1 | h1
        ·exact k2 j h1 hj2
        ·obtain rfl : j = k := by omega
         exact h
       generalize nth L k = q at *
       generalize hbq : zaM g q = bq at *
       by_cases hbig : 4000 < bq.length
       ·have hx := hxb hbig
        have hR2 := hbad q hmq (by rw [hbq]; exact hbig)
        rw [hx] at hBq
        unfold zb7 at hBq
        rw [hR2] at i2
        repeat first|refine wV fun _=>?_|simp [go_sem, hgl, hk, hgk]
        refine zAu hBq (by simp [go_sem, hgb]) ?_
        repeat first|refine wV fun _=>?_|simp [go_sem, hgl]
        rw [i2]
        repeat first|refine wV fun _=>?_|simp [go_sem, zb7]
       ·have hx := hxs (by omega)
        rw [hx] at hBq
        unfold zb7 at hBq
        repeat first|refine wV fun _=>?_|simp [go_sem, hgl, hk, hgk]
        refine zAu hBq (by simp [go_sem, hgb]) ?_
        repeat first|refine wV fun _=>?_|simp [go_sem, hgl]
        refine zAr (hrec2 (d2 - 1) (by omega) (k + 1) ⟨by omega, fun j hj hj2 => hlk j hj hj2 (by omega)⟩) ?_ (by simp)
        simp [go_sem, zaf, hgb, hns]
      ·obtain rfl : k = L.length := by omega
       have hR2 := hgo fun q hq => by
        obtain ⟨j, hj, rfl⟩ := zjQ hq
        exact k2 j hj hj
       rw [← hna] at hR2
       have hnok := hno L.length
       have hSo := zeC (nx L.length) (by omega) (fun q hq => hfit q (hnok q hq))
       have hsl := zdw zbx (nx L.length)
       have hsm : ∀ q ∈ zbh zbx (nx L.length), POk g q := fun q hq => hnok q (za9.1 hq)
       generalize nx L.length = nl at *
       generalize zbh zbx nl = sl at *
       rw [hR2] at i2
       repeat first|refine wV fun _=>?_|simp [go_sem, hgl]
       refine zAy [3] hSo ?_ (by simp [go_sem]) ?_
       ·(first|done|exact agX)
       repeat first|refine wV fun _=>?_|simp [go_sem, hgl]
       refine zAt (fun hb => ?_) (fun hb => ?_) <;> simp at hb
       ·rw [if_pos (by omega)] at i2
        rw [i2]
        repeat first|refine wV fun _=>?_|simp [go_sem, zb7]
       ·rw [if_neg (by omega)] at i2
        repeat first|refine wV fun _=>?_|simp [go_sem, hgl]
        refine zAr (hrec d (by omega) (i + 1, sl) ⟨by simp only; omega, i2, hsm, by simp only; omega⟩) ?_ (by simp)
        simp [go_sem, zaf, hgb]
     ·exact ⟨by omega, fun j hj => by omega⟩
     ·simp [go_sem, zaf, hgb, hn0]
     ·simp
    ·obtain rfl : d = 0 := by omega
     rw [show zb0 g 0 L = (L, 0) from rfl] at i2
     rw [i2]
     repeat first|refine wV fun _=>?_|simp [go_sem, zb7]
   ·exact ⟨by omega, hcv, by simpa using hp, by simp⟩
   ·simp [go_sem, zaf, hgb]
    exact frX
   ·simp
theorem zuJ {n : Nat} {v : List zah × Int} : Bel n (zb7 v) = True := by
 refine eq_true ?_
 unfold zb7
 simp [go_sem]
theorem znG (g : zae) (p : zah) : (zbQ g p).1.length ≤ 4000 := by
 unfold zbQ
 split
 ·simp
 ·simp only; omega
theorem znH {g : zae} {p q : zah} (h : q ∈ (zbQ g p).1) : q ∈ zaM g p := by
 unfold zbQ at h
 split at h
 ·cases h
 ·exact h
theorem zlb {g : zae} (hg : GOk g) : ∀ (n : Nat) {l : List zah}, l.length ≤ 4000 → (∀ q ∈ l, POk g q) → (zb0 g n l).1.length ≤ 4000 ∧ ∀ q ∈ (zb0 g n l).1, POk g q
 | 0, l, h1, h2 => ⟨h1, h2⟩
 | n + 1, l, h1, h2 => by
  rw [zb0]
  split
  ·split
   ·exact ⟨by simp, fun q hq => by cases hq⟩
   ·refine zlb hg n (by omega) fun q hq => ?_
    rw [za9, List.mem_flatMap] at hq
    obtain ⟨r, _, hq⟩ := hq
    exact zei hg hq
  ·exact ⟨by simp, fun q hq => by cases hq⟩
theorem zlc {g : zae} (hg : GOk g) {p : zah} (hp : POk g p) (n : Int) : (zcL g p n).1.length ≤ 4000 ∧ ∀ q ∈ (zcL g p n).1, POk g q := by
 unfold zcL
 split
 ·exact ⟨by simp, fun q hq => by cases hq⟩
 ·exact zlb hg _ (by simp) (by simpa using hp)
theorem zfU (v : List zah × Int) (h1 : v.1.length ≤ 4000) (h2 : ∀ q ∈ v.1, zaU q) : zaL Tryz.prog 30 [zb7 v, zb7 v] (.v (.bool true)) := by
 have := zfK v v (by omega) (by omega) h2 h2
 rwa [show decide (v = v) = true from decide_eq_true rfl] at this
theorem zeZ (x : zqW) (hx : zf8 x) (n : Int) (hn : -9223372036854775808 ≤ n ∧ n ≤ 9223372036854775807) : zaL Tryz.prog 6 [.agg (zcI x), .v (.int .i64 n)] (.v (.bool true)) := by
 refine pF Tryz.func6 ?_
 have hM := zeD x hx
 have hg := zeM hx
 have hp := zmU hx
 have hos : zbm (zc9 x) := zeQ x.g
 obtain ⟨er, her⟩ : ∃ er, er = zcI x := ⟨_, rfl⟩
 have herl : er.length = 31 := by rw [her]; exact ziV hx
 have herb : ∀ n, (∀ c ∈ er, Bel n c) = True := fun n => by rw [her]; exact ziU hx n
 rw [← her] at hM ⊢
 generalize zc9 x = g at *
 generalize zyO x = p at *
 have hS := zd1
 have hLi := zeO g hg hos
 generalize decide (zek (zbE g) ≤ 300) = li at *
 obtain ⟨k, hk⟩ : ∃ k, k = if 2 ≤ n ∧ n ≤ 6 then n.tmod 2 else n := ⟨_, rfl⟩
 have b1 := zcK g hg hos p hp
 have b2 := zkW g hg hos p hp
 have c1 := zdE g hg hos p hp k
 have c2 := zo3 g hg hos p hp k
 have s1 := zfU (zbQ g p) (znG g p) fun q hq => (zei hg (znH hq)).fits hg
 have s2 := zfU (zcL g p k) (zlc hg hp k).1 fun q hq => ((zlc hg hp k).2 q hq).fits hg
 generalize zbQ g p = v at *
 generalize zcL g p k = w at *
 have hegl : (zac g).length = 9 := rfl
 have hegb : ∀ n, (∀ c ∈ zac g, Bel n c) = True := fun n => by simp [go_sem]
 generalize zac g = eg at *
 have hbk := fun n v => zuJ (n := n) (v := v)
 repeat first|refine wV fun _=>?_|simp [go_sem, herl]
 refine zAs hS (by simp [go_sem]) ?_
 repeat first|refine wV fun _=>?_|simp [go_sem, herl]
 refine zAs hM (by simp [go_sem, herb]) ?_
 repeat first|refine wV fun _=>?_|simp [go_sem, herl, hegl]
 refine zAs hLi (by simp [go_sem, hegb]) ?_
 cases li
 ·repeat first|refine wV fun _=>?_|simp [go_sem, hegl]
 ·repeat first|refine wV fun _=>?_|simp [go_sem, hegl]
  refine zAu b1 (by simp [go_sem, hegb]) ?_
  repeat first|refine wV fun _=>?_|simp [go_sem, hegl]
  refine zAu b2 (by simp [go_sem, hegb]) ?_
  repeat first|refine wV fun _=>?_|simp [go_sem, hegl]
  refine zAu s1 (by simp [go_sem, hbk]) ?_
  repeat first|refine wV fun _=>?_|simp [go_sem, hegl]
  by_cases h2 : 2 ≤ n
  ·by_cases h6 : n ≤ 6
   ·rw [if_pos ⟨h2, h6⟩] at hk
    subst hk
    repeat first|refine wV fun _=>?_|simp [go_sem, hegl, h2, h6]
    refine zAu c1 (by simp [go_sem, hegb]) ?_
    repeat first|refine wV fun _=>?_|simp [go_sem, hegl]
    refine zAu c2 (by simp [go_sem, hegb]) ?_
    repeat first|refine wV fun _=>?_|simp [go_sem, hegl]
    refine zAu s2 (by simp [go_sem, hbk]) ?_
    repeat first|refine wV fun _=>?_|simp [go_sem, hegl]
   ·rw [if_neg (fun h => h6 h.2)] at hk
    subst hk
    repeat first|refine wV fun _=>?_|simp [go_sem, hegl, h2, h6]
    refine zAu c1 (by simp [go_sem, hegb]) ?_
    repeat first|refine wV fun _=>?_|simp [go_sem, hegl]
    refine zAu c2 (by simp [go_sem, hegb]) ?_
    repeat first|refine wV fun _=>?_|simp [go_sem, hegl]
    refine zAu s2 (by simp [go_sem, hbk]) ?_
    repeat first|refine wV fun _=>?_|simp [go_sem, hegl]
  ·rw [if_neg (fun h => h2 h.1)] at hk
   subst hk
   repeat first|refine wV fun _=>?_|simp [go_sem, hegl, h2]
   refine zAu c1 (by simp [go_sem, hegb]) ?_
   repeat first|refine wV fun _=>?_|simp [go_sem, hegl]
   refine zAu c2 (by simp [go_sem, hegb]) ?_
   repeat first|refine wV fun _=>?_|simp [go_sem, hegl]
   refine zAu s2 (by simp [go_sem, hbk]) ?_
   repeat first|refine wV fun _=>?_|simp [go_sem, hegl]
end Go.Av
end
