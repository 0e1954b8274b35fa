/- Texts of ours, part 12: our library and contracts of functions. -/
import Derived.Test.YtedhfmmlhfmomaaGreatDoorB11
import GoSem.ClaimJoined
import Derived.Test.YtedhfmmlhfmomaaGreatDoorCards
import Derived.Test.YtedhfmmlhfmomaaGreatDoorTie
import Derived.Deep.DeepHandedRow
import Derived.LaidHandle
import Derived.LaidMore
import Derived.OpenShut
import Derived.Test.YtedhfmmlhfmomaaGreatDoorRows
set_option linter.unusedSimpArgs false
set_option linter.unusedVariables false
set_option maxRecDepth 100000
set_option maxHeartbeats 40000000
section
open Go Go.Proofs
namespace Go.Av
theorem ztO {α : Type} [Inhabited α] {l : List α} {i : Nat} (h : i < l.length) : l.take (i + 1) = l.take i ++ [nth l i] := by
 rw [List.take_add_one, List.getElem?_eq_getElem h, zaC _ _ h]; rfl
theorem zku (l : List zah) (hl : l.length ≤ 17179869184) (f : FuncId) (caps : List AV) (C : znb Tryz.prog f caps 0 (l.map zcu)) (hb' : ∀ c ∈ caps, Bel 0 c) :
  zaL Tryz.prog 201 [zAz, .fn (.func f) [] caps] (zaN l) := by
 refine pF Tryz.func201 ?_
 have hbn : ∀ n, (∀ c ∈ caps, Bel n c) = True := fun n => eq_true fun c hc => (hb' c hc).mono (Nat.zero_le n)
 obtain ⟨tk, htk⟩ : ∃ tk : Nat → List zah, ∀ k, tk k = l.take k := ⟨_, fun _ => rfl⟩
 have htl : ∀ k, k ≤ l.length → (tk k).length = k := fun k hk => by rw [htk]; simp; omega
 have hts : ∀ k, k < l.length → tk (k + 1) = tk k ++ [nth l k] := fun k hk => by rw [htk, htk]; exact ztO hk
 have ht0 : tk 0 = [] := by rw [htk]; rfl
 have hta : tk l.length = l := by rw [htk, List.take_length]
 clear htk
 repeat first|refine wV fun _=>?_|simp [go_sem, GH]
 refine zeh.mk caps _ C (.refl _) (.refl _ _ _ _) hb' (fun xs hx => by obtain ⟨y, _, rfl⟩ := List.mem_map.1 hx; rfl) ?_
 refine Fgt.to (zAK (α := Nat) (fun k => ([(2, .ref 0 0 1 0 0)], [(0, .rows true 0 1 [[.sl 1 k 5 0 k]]), (1, .rows true k 5 ((tk k).map zad))], 2))
  (fun rows k => rows = (l.drop k).map zcu ∧ k ≤ l.length) ?_ ?_ _ 0 ?_) ?_ ?_
 ·rintro k ⟨i1, i2⟩
  have hk : k = l.length := by
   have := congrArg List.length i1
   simp at this
   omega
  subst hk
  refine ⟨rfl, ?_⟩
  rw [hta]
  repeat first|refine wV fun _=>?_|simp [go_sem, GH]
  exact frX
 ·rintro xs rs k ⟨i1, i2⟩ hrec
  have hk : k < l.length := by
   have := congrArg List.length i1
   simp at this
   omega
  rw [zaH hk, List.map_cons, List.cons.injEq] at i1
  obtain ⟨rfl, rfl⟩ := i1
  have hts := hts k hk
  have hkl := htl k i2
  generalize hrs : (l.drop (k + 1)).map zcu = rs at *
  refine zAN (Nat.zero_le _) ?_
  repeat first|refine wV fun _=>?_|simp [go_sem, GH, zcu, hkl]
  refine Fgt.to (hrec (k + 1) ⟨hrs.symm, by omega⟩) ?_ (by simp)
  simp [go_sem, zaf, GH, hts, hkl]
 ·exact ⟨by simp, by omega⟩
 ·simp [go_sem, zaf, GH, ht0]
 ·simp
theorem zm5 (l : List zah) (hl : l.length ≤ 17179869184) (f : FuncId) (caps : List AV) (C : znb Tryz.prog f caps 0 (l.map zcu)) (hb' : ∀ c ∈ caps, Bel 0 c) :
  zaL Tryz.prog 151 [.fn (.func f) [] caps] (zaN l) := by
 refine pF Tryz.func151 ?_
 have hA := zku l hl f caps C hb'
 have hbn : ∀ n, (∀ c ∈ caps, Bel n c) = True := fun n => eq_true fun c hc => (hb' c hc).mono (Nat.zero_le n)
 repeat first|refine wV fun _=>?_|simp [go_sem]
 refine zAs hA (by simp [go_sem, hbn]) ?_
 repeat first|refine wV fun _=>?_|simp [go_sem]
theorem SzP.fits {g : zae} (hg : GOk g) {q : zah} (h : SzP g q) : zaU q := by
 have := hg.c9
 have := hg.k6
 obtain ⟨h1, h2, h3⟩ := h
 refine ⟨?_, ?_, ?_⟩ <;> unfold ze5 <;> omega
theorem zjf (g : zae) (hg : GOk g) (hs : zbm g) (p : zah) (hp : POk g p) : zaL Tryz.prog 100 [.agg (zac g), .agg (zbg (zbE g)), .agg (zad p)] (.tup [zaN (zbQ g p).1, .v (.int .i64 (zbQ g p).2)]) := by
 refine pF Tryz.func100 ?_
 have hO : zgi Tryz.prog 152 [.agg (zac g), .agg (zbg (zbE g)), .agg (zad p)] (fun n => znM n) (fun n => [(n, .rows true 0 9 [zac g]), (n + 1, .rows true 0 2 [zbg (zbE g)]), (n + 2, .rows true 0 5 [zad p]), (n + 3, .rows true 0 1 [[.v (.int .i64 (1 - p.side))]])]) 4 := zsK g (zbE g) p hp.s
 simp only [znM] at hO
 have hQ := zuU g hg p hp (1 - p.side) (by have := hp.s; omega)
 change znb _ _ _ _ ((zc0 g p).map zcu) at hQ
 have hcl := zhr hg hs hp
 have hsz := (zre hg hp).1
 have hCo := zm5 (zc0 g p) (by omega) _ _ hQ (by simp [go_sem])
 have hSo := zdA (zc0 g p) (by omega) (fun q hq => (hsz q hq).fits hg)
 have hsl : (zbh zbx (zc0 g p)).length ≤ 35831817 := Nat.le_trans (zdw _ _) hcl
 have hszS : ∀ q ∈ zbh zbx (zc0 g p), zaU q := fun q hq => (hsz q (za9.1 hq)).fits hg
 have hall := zxg g p
 have hbs := fun i h => znI (g := g) (p := p) (l := zbh zbx (zc0 g p)) (i := i) h
 have hb0 := znJ g p (zbh zbx (zc0 g p))
 have hbl := zq8 g p (zbh zbx (zc0 g p))
 have hV := fun q hq => zk2 g (by have := hg.k6; unfold zfY; omega) ⟨hg.r0, by have := hg.r4; omega⟩ q (hszS q hq)
 have hL := fun q (hq : zer g q = true) => zkZ g hg q (zfy.1 hq) p (hp.fits hg)
 have hBe : zbQ g p = if 4000 < (zaM g p).length then ([], 2) else (zaM g p, 0) := rfl
 rw [← hall] at hBe
 rw [hBe]
 clear hall hBe hsz
 generalize zq7 g p (zbh zbx (zc0 g p)) = bI at *
 generalize zbh zbx (zc0 g p) = S at *
 repeat first|refine wV fun _=>?_|simp [go_sem]
 refine zAx hO (by simp [go_sem]) ?_
 repeat first|refine wV fun _=>?_|simp [go_sem]
 refine zAy [3, 4, 5, 6] hCo ?_ (by simp [go_sem]) ?_
 ·refine zam.cons (.fn .nil (zam.cons (.frzP rfl ?_ ?_ ?_ ?_) (zam.cons (.frzP rfl ?_ ?_ ?_ ?_) (zam.cons (.frzP rfl ?_ ?_ ?_ ?_) (zam.cons (.frzP rfl ?_ ?_ ?_ ?_) .nil))))) .nil <;> first | exact zam.refl _ _ _ _ | (simp [za5, zbb, upd]; done)
 repeat first|refine wV fun _=>?_|simp [go_sem]
 refine zAs hSo (by simp [go_sem]) ?_
 repeat first|refine wV fun _=>?_|simp [go_sem]
 refine zAr (zAv (α := Nat) (fun i => ⟨[(3, .ref 0 0 9 0 0), (5, .ref 2 0 5 0 0), (8, .sl 7 (bI i).length 5 0 (bI i).length), (16, zaN S), (17, .v (.int .i64 S.length)), (18, .v (.int .i64 i))], [(0, .rows true 0 9 [zac g]), (2, .rows true 0 5 [zad p]), (7, .rows true (bI i).length 5 ((bI i).map zad))], 8⟩)
  (fun d i => i + d = S.length) ?_ S.length 0 ?_) ?_ ?_
 ·rintro d i i1 hrec
  have hbli := hbl i
  repeat first|refine wV fun _=>?_|simp [go_sem]
  refine zAt (fun hi => ?_) (fun hi => ?_) <;> simp at hi
  ·have hVi := hV _ (zaj hi)
   have hLi := hL (nth S i)
   have hbs := hbs i hi
   have hbls := hbl (i + 1)
   have hgi := zbl zad S i hi
   generalize nth S i = q at *
   generalize hok : zer g q = ok at *
   repeat first|refine wV fun _=>?_|simp [go_sem, hi, hgi]
   refine zAs hVi (by simp [go_sem]) ?_
   repeat first|refine wV fun _=>?_|simp [go_sem]
   refine zAV (.v (.bool (decide (p ∈ zaK g q)))) (fun h => hLi h) (by simp [go_sem]) ?_
   by_cases hm : p ∈ zaK g q
   ·cases ok
    ·rw [if_neg (by simp)] at hbs
     repeat first|refine wV fun _=>?_|simp [go_sem, hm]
     refine zAr (hrec (d - 1) (by omega) (i + 1) (by omega)) ?_ (by simp)
     simp [go_sem, zaf, hbs]
    ·rw [if_pos ⟨rfl, hm⟩] at hbs
     repeat first|refine wV fun _=>?_|simp [go_sem, hm]
     refine zAr (hrec (d - 1) (by omega) (i + 1) (by omega)) ?_ (by simp)
     simp [go_sem, zaf, hbs]
   ·rw [if_neg (fun h => hm h.2)] at hbs
    cases ok
    ·repeat first|refine wV fun _=>?_|simp [go_sem, hm]
     refine zAr (hrec (d - 1) (by omega) (i + 1) (by omega)) ?_ (by simp)
     simp [go_sem, zaf, hbs]
    ·repeat first|refine wV fun _=>?_|simp [go_sem, hm]
     refine zAr (hrec (d - 1) (by omega) (i + 1) (by omega)) ?_ (by simp)
     simp [go_sem, zaf, hbs]
  ·obtain rfl : i = S.length := by omega
   generalize bI S.length = bl at *
   repeat first|refine wV fun _=>?_|simp [go_sem]
   refine zAt (fun hbig => ?_) (fun hbig => ?_) <;> simp at hbig
   ·rw [if_pos (by omega)]
    repeat first|refine wV fun _=>?_|simp [go_sem]
   ·rw [if_neg (by omega)]
    repeat first|refine wV fun _=>?_|simp [go_sem]
    exact frX
 ·omega
 ·simp [go_sem, zaf, hb0]
 ·simp
theorem ztY (g : zae) (hg : GOk g) (hs : zbm g) (p : zah) (hp : POk g p) : zaL Tryz.prog 47 [.agg (zac g), .agg (zad p)] (.tup [zaN (zbQ g p).1, .v (.int .i64 (zbQ g p).2)]) := by
 refine pF Tryz.func47 ?_
 have hC := zhW g hg
 have hB := zjf g hg hs p hp
 generalize zbQ g p = v at *
 generalize zbE g = cd at *
 repeat first|refine wV fun _=>?_|simp [go_sem]
 refine zAu hC (by simp [go_sem]) ?_
 repeat first|refine wV fun _=>?_|simp [go_sem]
 refine zAu hB (by simp [go_sem]) ?_
 repeat first|refine wV fun _=>?_|simp [go_sem]
theorem zrR (g : zae) (hg : GOk g) (hs : zbm g) (p : zah) (hp : POk g p) (n : Int) : zaL Tryz.prog 86 [.agg (zac g), .agg (zad p), .v (.int .i64 n)] (.tup [zaN (zcL g p n).1, .v (.int .i64 (zcL g p n).2)]) := by
 refine pF Tryz.func86 ?_
 have hC := zhW g hg
 have hB := fun q hq => zjf g hg hs q hq
 have hBs := fun q => zq6 (g := g) (p := q)
 have hBb := fun q => znF (g := g) (p := q)
 have hbo := fun q r (h : r ∈ zaM g q) => zei hg h
 have hfit := fun r (h : POk g r) => h.fits hg
 have hcb : ∀ n, (∀ c ∈ zbg (zbE g), Bel n c) = True := fun n => by simp [go_sem]
 have hcl : (zbg (zbE g)).length = 2 := rfl
 have hgb : ∀ n, (∀ c ∈ zac g, Bel n c) = True := fun n => by simp [go_sem]
 have hgl : (zac g).length = 9 := rfl
 generalize zbg (zbE g) = ec at *
 obtain ⟨eg, heg⟩ : ∃ eg, eg = zac g := ⟨_, rfl⟩
 rw [← heg] at hC hgb hgl
 simp only [← heg] at hB
 rw [← heg]
 clear heg
 have hcv : zcL g p n = if n < 0 ∨ 6 < n then ([], 1) else zb0 g n.toNat [p] := rfl
 repeat first|refine wV fun _=>?_|simp [go_sem, hgl]
 by_cases hn : n < 0
 ·rw [if_pos (.inl hn)] at hcv
  rw [hcv]
  have hn2 : ¬ 0 ≤ n := by omega
  repeat first|refine wV fun _=>?_|simp [go_sem, hn]
 ·by_cases hn6 : 6 < n
  ·rw [if_pos (.inr hn6)] at hcv
   rw [hcv]
   repeat first|refine wV fun _=>?_|simp [go_sem, hn, hn6]
  ·rw [if_neg (by omega)] at hcv
   obtain ⟨m, rfl⟩ : ∃ m : Nat, n = m := ⟨n.toNat, by omega⟩
   rw [Int.toNat_natCast] at hcv
   rw [hcv]
   obtain ⟨R, hR⟩ : ∃ R, R = zb0 g m [p] := ⟨_, rfl⟩
   rw [← hR]
   repeat first|refine wV fun _=>?_|simp [go_sem, hn, hn6, hgl]
   refine zAu hC (by simp [go_sem, hgb]) ?_
   repeat first|refine wV fun _=>?_|simp [go_sem, hgl, hcl]
   refine zAr (zAv (α := Nat × List zah) (fun a => ⟨[(3, .ref 0 0 9 0 0), (8, .ref 6 0 2 0 0), (9, zaN a.2), (25, .v (.int .i64 m)), (26, .v (.int .i64 a.1))], [(0, .rows true 0 9 [eg]), (6, .rows true 0 2 [ec])], 7⟩)
    (fun d a => a.1 + d = m ∧ R = zb0 g d a.2 ∧ (∀ q ∈ a.2, POk g q) ∧ a.2.length ≤ 4000) ?_ m (0, [p]) ?_) ?_ ?_
   ·rintro d ⟨i, L⟩ ⟨i1, i2, i3, i4⟩ hrec
    simp only at i1 i2 i3 i4
    repeat first|refine wV fun _=>?_|simp [go_sem, hgl, hcl]
    refine zAt (fun hi => ?_) (fun hi => ?_) <;> simp at hi
    ·obtain ⟨d, rfl⟩ : ∃ d', d = d' + 1 := ⟨d - 1, by omega⟩
     have hns := fun k hk => zoE g (l := L) (k := k) hk
     have hn0 := zoF g L
     have hna := zrr g L
     have hnl := fun k h => zrs (g := g) (l := L) (k := k) h
     have hno := fun k => zvZ (k := k) hg (l := L)
     have hbad := fun q hq h => znO (g := g) (n := d) (l := L) (q := q) hq h
     have hgo := fun h => zrf (g := g) (n := d) (l := L) h
     generalize zvY g L = nx at *
     have hb4 : L.length * 4000 ≤ 4000 * 4000 := Nat.mul_le_mul_right _ i4
     repeat first|refine wV fun _=>?_|simp [go_sem, hgl, hcl]
     refine zAr (zAv (α := Nat) (fun k => ⟨[(3, .ref 0 0 9 0 0), (8, .ref 6 0 2 0 0), (10, .sl 7 k 5 0 (nx k).length), (25, .v (.int .i64 m)), (26, .v (.int .i64 i)), (28, zaN L), (29, .v (.int .i64 L.length)), (30, .v (.int .i64 k))], [(0, .rows true 0 9 [eg]), (6, .rows true 0 2 [ec]), (7, .rows true k 5 ((nx k).map zad))], 8⟩)
      (fun d k => k + d = L.length ∧ ∀ j, j < k → j < L.length → (zaM g (nth L j)).length ≤ 4000) ?_ L.length 0 ?_) ?_ ?_
     ·rintro d2 k ⟨k1, k2⟩ hrec2
      have hnk := hnl k k2
      repeat first|refine wV fun _=>?_|simp [go_sem, hgl, hcl]
      refine zAt (fun hk => ?_) (fun hk => ?_) <;> simp at hk
      ·have hq := i3 _ (zaj hk)
       have hBq := hB _ hq
       have hns := hns k hk
       have hgk := zbl zad L k hk
       have hmq := zaj hk
       have hxs := hBs (nth L k)
       have hxb := hBb (nth L k)
       have hlk : ∀ j, j < k + 1 → j < L.length → (zaM g (nth L k)).length ≤ 4000 → (zaM g (nth L j)).length ≤ 4000 := fun j hj hj2 h => by
        rcases Nat.lt_or_ge j k with h1 | h1
        ·exact k2 j h1 hj2
        ·obtain rfl : j = k := by omega
         exact h
       generalize nth L k = q at *
       generalize hbq : zaM g q = bq at *
       by_cases hbig : 4000 < bq.length
       ·have hx := hxb hbig
        have hR2 := hbad q hmq (by rw [hbq]; exact hbig)
        rw [hx] at hBq
        rw [hR2] at i2
        repeat first|refine wV fun _=>?_|simp [go_sem, hgl, hcl, hk, hgk]
        refine zAs hBq (by simp [go_sem, hgb, hcb]) ?_
        repeat first|refine wV fun _=>?_|simp [go_sem, hgl, hcl]
        rw [i2]
        repeat first|refine wV fun _=>?_|simp [go_sem]
       ·have hx := hxs (by omega)
        rw [hx] at hBq
        repeat first|refine wV fun _=>?_|simp [go_sem, hgl, hcl, hk, hgk]
        refine zAs hBq (by simp [go_sem, hgb, hcb]) ?_
        repeat first|refine wV fun _=>?_|simp [go_sem, hgl, hcl]
        refine zAr (hrec2 (d2 - 1) (by omega) (k + 1) ⟨by omega, fun j hj hj2 => hlk j hj hj2 (by omega)⟩) ?_ (by simp)
        simp [go_sem, zaf, hgb, hcb, hns]
      ·obtain rfl : k = L.length := by omega
       have hR2 := hgo fun q hq => by
        obtain ⟨j, hj, rfl⟩ := zjQ hq
        exact k2 j hj hj
       rw [← hna] at hR2
       have hnok := hno L.length
       have hSo := zdA (nx L.length) (by omega) (fun q hq => hfit q (hnok q hq))
       have hsl := zdw zbx (nx L.length)
       have hsm : ∀ q ∈ zbh zbx (nx L.length), POk g q := fun q hq => hnok q (za9.1 hq)
       generalize nx L.length = nl at *
       generalize zbh zbx nl = sl at *
       rw [hR2] at i2
       repeat first|refine wV fun _=>?_|simp [go_sem, hgl, hcl]
       refine zAy [7] hSo ?_ (by simp [go_sem]) ?_
       ·(first|done|exact agX)
       repeat first|refine wV fun _=>?_|simp [go_sem, hgl, hcl]
       refine zAt (fun hb => ?_) (fun hb => ?_) <;> simp at hb
       ·rw [if_pos (by omega)] at i2
        rw [i2]
        repeat first|refine wV fun _=>?_|simp [go_sem]
       ·rw [if_neg (by omega)] at i2
        repeat first|refine wV fun _=>?_|simp [go_sem, hgl, hcl]
        refine zAr (hrec d (by omega) (i + 1, sl) ⟨by simp only; omega, i2, hsm, by simp only; omega⟩) ?_ (by simp)
        simp [go_sem, zaf, hgb, hcb]
     ·exact ⟨by omega, fun j hj => by omega⟩
     ·simp [go_sem, zaf, hgb, hcb, hn0]
     ·simp
    ·obtain rfl : d = 0 := by omega
     rw [show zb0 g 0 L = (L, 0) from rfl] at i2
     rw [i2]
     repeat first|refine wV fun _=>?_|simp [go_sem]
   ·exact ⟨by omega, hR, by simpa using hp, by simp⟩
   ·simp [go_sem, zaf, hgb, hcb]
    exact frX
   ·simp
def zb7 (b : List zah × Int) : AV := .agg [zaN b.1, .v (.int .i64 b.2)]
theorem zfK (a b : List zah × Int) (ha : a.1.length ≤ 17179869184) (hb : b.1.length ≤ 17179869184) (hfa : ∀ p ∈ a.1, zaU p) (hfb : ∀ p ∈ b.1, zaU p) : zaL Tryz.prog 30 [zb7 a, zb7 b] (.v (.bool (decide (a = b)))) := by
 refine pF Tryz.func30 ?_
 obtain ⟨al, ae⟩ := a
 obtain ⟨bl, be⟩ := b
 have hS := zky al bl ha hb hfa hfb
 have e : decide ((al, ae) = (bl, be)) = (decide (al = bl) && decide (ae = be)) := by
  rw [← Bool.decide_and]
  exact decide_eq_decide.2 (by simp)
 rw [e]
 generalize decide (al = bl) = t at *
 repeat first|refine wV fun _=>?_|simp [go_sem, zb7]
 refine zAs hS (by simp [go_sem]) ?_
 cases t
 ·repeat first|refine wV fun _=>?_|simp [go_sem]
 ·repeat first|refine wV fun _=>?_|simp [go_sem]
theorem zpi (x : zis) (hx : zr5 x) (hl : x.c.length ≤ 1099511627776) (hl0 : x.k0.length ≤ 1099511627776) (hl1 : x.k1.length ≤ 1099511627776) : zaL Tryz.prog 15 [.agg (zc2 x)] (.agg (zac (zhF x))) := by
 refine pF Tryz.func15 ?_
 obtain ⟨eg, heg⟩ : ∃ eg, eg = zac (zhF x) := ⟨_, rfl⟩
 rw [← heg]
 have hB := zph x.w x.h x.cut hx.w hx.h hx.cut
 have hok := zh0 hx.w.1 hx.h.1 x.cut
 have hb : ze6 x.w x.h x.cut = x.board := rfl
 rw [hb] at hB hok
 have r0 := Int.tmod_nonneg 3 hx.f0.1
 have r1 := Int.tmod_lt_of_pos x.f0 (show (0 : Int) < 3 by decide)
 have f0 : 0 ≤ x.f0 ∧ x.f0 ≤ 255 := hx.f0
 have f1 : 0 ≤ x.f1 ∧ x.f1 ≤ 255 := hx.f1
 have f2 : 0 ≤ x.f2 ∧ x.f2 ≤ 255 := hx.f2
 have f3 : 0 ≤ x.f3 ∧ x.f3 ≤ 255 := hx.f3
 have f4 : 0 ≤ x.f4 ∧ x.f4 ≤ 255 := hx.f4
 have m1 := Int.tmod_nonneg 4 hx.f1.1
 have m3 := Int.tmod_nonneg 4 hx.f3.1
 have m4 := Int.tmod_nonneg 4 hx.f4.1
 have qq : ∀ n : Int, U8 n → (0 ≤ n.tdiv 4 ∧ n.tdiv 4 ≤ 63) ∧ 0 ≤ (n.tdiv 4).tmod 3 ∧ (n.tdiv 4).tmod 3 < 3 := fun n hn => by
  have h : n.tdiv 4 = n / 4 := Int.tdiv_eq_ediv_of_nonneg hn.1
  have h1 := hn.1
  have h2 := hn.2
  have h3 := Int.tmod_nonneg 3 (show 0 ≤ n.tdiv 4 by omega)
  have h4 := Int.tmod_lt_of_pos (n.tdiv 4) (show (0 : Int) < 3 by decide)
  omega
 obtain ⟨q3, q3'⟩ := qq _ hx.f3
 obtain ⟨q4, q4'⟩ := qq _ hx.f4
 obtain ⟨bl, hbl⟩ : ∃ bl, bl = if x.f3.tmod 4 = 3 then 1 + (x.f3.tdiv 4).tmod 3 else 3 := ⟨_, rfl⟩
 obtain ⟨en, hen⟩ : ∃ en, en = if x.f4.tmod 4 = 3 then 1 + (x.f4.tdiv 4).tmod 3 else 2 := ⟨_, rfl⟩
 obtain ⟨R, hR⟩ : ∃ R, R = x.rights := ⟨_, rfl⟩
 have hR' : x.f0.tmod 3 = R := by rw [hR]; rfl
 obtain ⟨b, hbb⟩ : ∃ b, b = x.board := ⟨_, rfl⟩
 rw [← hbb] at hB hok
 repeat first|refine wV fun _=>?_|simp [go_sem]
 refine zAu hB (by simp [go_sem]) ?_
 repeat first|refine wV fun _=>?_|simp [go_sem, hR']
 have hd8 : b.next.length = 8 := by rw [hbb]; exact zlD _ _ _
 have hcell : 1 ≤ b.cells ∧ b.cells ≤ 9 := by rw [hbb]; exact zjL hx.w.1 hx.h.1 _
 obtain ⟨K, hK⟩ : ∃ K : Nat, K = zdl x := ⟨_, rfl⟩
 have hKn : zdl x = if x.k1.length = 0 then 1 else 2 := by unfold zdl; simp only [List.length_eq_zero_iff]
 have hKl : ∀ i, (x.ks i).length ≤ 1099511627776 := fun i => by unfold zis.ks; split <;> assumption
 have hKv : ∀ i, ∀ n ∈ x.ks i, U8 n := fun i => by unfold zis.ks; split; exact hx.k0; exact hx.k1
 refine zAt (fun hk1 => ?_) (fun hk1 => ?_) <;> simp at hk1
 ·have hK2 : zdl x = 2 := by rw [hKn, if_neg (by omega)]
  rw [hK2] at hK
  repeat first|refine wV fun _=>?_|simp [go_sem]
  refine zAr (zAv (α := Nat) (fun a => ⟨[(1, .ref 0 0 12 0 0), (2, .ref 1 0 9 0 0), (3, .ref 20 0 9 0 0), (4, .v (.int .i64 K)), (5, .v (.int .i64 a))],
   [(0, .rows true 0 12 [zc2 x]), (1, .rows true 0 9 [[.v (.int .i64 0), zAz, zAz, zAz, .v (.int .i64 0), .v (.bool false), zAz, .v (.int .i64 0), .v (.int .i64 0)]]), (20, .rows true 0 9 [[.v (.int .i64 b.cells), zcg b.next, zap b.turn, .sl 22 a 3 0 a, .v (.int .i64 R), .v (.bool (decide (x.f1.tmod 4 = 3))), zAz, .v (.int .i64 3), .v (.int .i64 2)]]), (22, .rows true a 3 (ksR x a))], 23⟩)
   (fun d a => a + d = K) ?_ K 0 ?_) ?_ ?_
  ·rintro d0 i i1 hrec
   repeat first|refine wV fun _=>?_|simp [go_sem]
   refine zAt (fun hi => ?_) (fun hi => ?_) <;> simp at hi
   ·have hi2 : i = 0 ∨ i = 1 := by omega
    have hkl := hKl i
    have hkv := hKv i
    have hks : ze4 x i = ⟨if i = 0 then zqo else zqp, ((x.ks i).take 4).map (fun n => zkR n b.next.length K x.rights), zuP x.f2 i⟩ := by rw [hbb, hK, ← hK2]; rfl
    rcases hi2 with rfl | rfl
    ·obtain ⟨kk, hkk⟩ : ∃ kk, kk = x.ks 0 := ⟨_, rfl⟩
     have hk0 : x.k0 = kk := hkk.symm
     rw [← hkk] at hkl hkv hks
     have hbit : zuP x.f2 0 = decide (zit .u8 x.f2 1 = 1) := by simp [zuP]
     obtain ⟨f, hf⟩ : ∃ f, f = (fun n => zkR n b.next.length K x.rights) := ⟨_, rfl⟩
     have hfp : ∀ n, U8 n → zaL Tryz.prog 67 [.v (.int .u8 n), .v (.int .i64 b.next.length), .v (.int .i64 K), .v (.int .i64 R)] (zau (f n)) := fun n hn => by
      rw [hf, ← hR]; exact zeB n _ _ _ hn (by omega) (by omega) (by omega)
     rw [← hf, hbit] at hks
     repeat first|refine wV fun _=>?_|simp [go_sem, hk0]
     refine zAr (zAv (α := Nat) (fun n => ⟨[(1, .ref 0 0 12 0 0), (2, .ref 1 0 9 0 0), (3, .ref 20 0 9 0 0), (4, .v (.int .i64 K)), (5, .v (.int .i64 0)), (6, .ref 35 0 3 0 0), (7, .v (.int .i64 n))],
      [(0, .rows true 0 12 [zc2 x]), (1, .rows true 0 9 [[.v (.int .i64 0), zAz, zAz, zAz, .v (.int .i64 0), .v (.bool false), zAz, .v (.int .i64 0), .v (.int .i64 0)]]), (20, .rows true 0 9 [[.v (.int .i64 b.cells), zcg b.next, zap b.turn, .sl 22 0 3 0 0, .v (.int .i64 R), .v (.bool (decide (x.f1.tmod 4 = 3))), zAz, .v (.int .i64 3), .v (.int .i64 2)]]), (22, .rows true 0 3 (ksR x 0)), (35, .rows true 0 3 [[.v (.string ⟨#[97]⟩), .sl 37 n 1 0 n, .v (.bool (decide (zit .u8 x.f2 1 = 1)))]]), (37, .rows true n 1 (psR f kk n))], 38⟩)
      (fun d n => n + d = min kk.length 4) ?_ (min kk.length 4) 0 ?_) ?_ ?_
     ·rintro d n n1 hrec1
      repeat first|refine wV fun _=>?_|simp [go_sem, hk0]
      refine zAt (fun hn => ?_) (fun hn => ?_) <;> simp at hn
      ·have hn1 : n < kk.length := by omega
       have hn2 := hkv _ (zaj hn1)
       have hpl := zfz f kk (n := n) (by omega)
       repeat first|refine wV fun _=>?_|simp [go_sem, hk0, hn1]
       refine zAu (hfp _ hn2) (by simp [go_sem]) ?_
       repeat first|refine wV fun _=>?_|simp [go_sem, hk0, hn1, hpl]
       refine zAr (hrec1 (d - 1) (by omega) (n + 1) (by omega)) ?_ (by simp)
       simp [go_sem, zaf, hk0, ziS f kk hn1]
      ·have hne : n = min kk.length 4 := by omega
       repeat first|refine wV fun _=>?_|simp [go_sem]
       refine zAr (hrec (d0 - 1) (by omega) (0 + 1) (by omega)) ?_ (by simp)
       have hkx : zwG (ze4 x 0) = [.v (.string ⟨#[97]⟩), .lst 1 (psR f kk n), .v (.bool (decide (zit .u8 x.f2 1 = 1)))] := by rw [hks, show psR f kk n = psR f kk (min kk.length 4) by rw [← hne]]; simp [zwG, zaS, psR, zqo, zqp, zau]; omega
       have hpl := zfz f kk (n := n) (by omega)
       simp [go_sem, zaf, hk0, ziM x 0, hkx]
       (try refine zak (.refl _) (.cons (.cons (.refl _) (.cons ?_ (.cons (.refl _) .nil))) .nil))
       refine LeV.frz rfl ?_ ?_ (zAB ?_) <;> simp [mkH, upd, hpl, List.take_of_length_le]
     ·omega
     ·simp [go_sem, zaf, hk0]
     ·simp
    ·obtain ⟨kk, hkk⟩ : ∃ kk, kk = x.ks 1 := ⟨_, rfl⟩
     have hk0 : x.k1 = kk := hkk.symm
     rw [← hkk] at hkl hkv hks
     have hbit : zuP x.f2 1 = decide (zit .u8 (x.f2.fdiv 2) 1 = 1) := by simp [zuP]
     obtain ⟨f, hf⟩ : ∃ f, f = (fun n => zkR n b.next.length K x.rights) := ⟨_, rfl⟩
     have hfp : ∀ n, U8 n → zaL Tryz.prog 67 [.v (.int .u8 n), .v (.int .i64 b.next.length), .v (.int .i64 K), .v (.int .i64 R)] (zau (f n)) := fun n hn => by
      rw [hf, ← hR]; exact zeB n _ _ _ hn (by omega) (by omega) (by omega)
     rw [← hf, hbit] at hks
     repeat first|refine wV fun _=>?_|simp [go_sem, hk0]
     refine zAr (zAv (α := Nat) (fun n => ⟨[(1, .ref 0 0 12 0 0), (2, .ref 1 0 9 0 0), (3, .ref 20 0 9 0 0), (4, .v (.int .i64 K)), (5, .v (.int .i64 1)), (6, .ref 35 0 3 0 0), (7, .v (.int .i64 n))],
      [(0, .rows true 0 12 [zc2 x]), (1, .rows true 0 9 [[.v (.int .i64 0), zAz, zAz, zAz, .v (.int .i64 0), .v (.bool false), zAz, .v (.int .i64 0), .v (.int .i64 0)]]), (20, .rows true 0 9 [[.v (.int .i64 b.cells), zcg b.next, zap b.turn, .sl 22 1 3 0 1, .v (.int .i64 R), .v (.bool (decide (x.f1.tmod 4 = 3))), zAz, .v (.int .i64 3), .v (.int .i64 2)]]), (22, .rows true 1 3 (ksR x 1)), (35, .rows true 0 3 [[.v (.string ⟨#[98, 101, 101]⟩), .sl 37 n 1 0 n, .v (.bool (decide (zit .u8 (x.f2.fdiv 2) 1 = 1)))]]), (37, .rows true n 1 (psR f kk n))], 38⟩)
      (fun d n => n + d = min kk.length 4) ?_ (min kk.length 4) 0 ?_) ?_ ?_
     ·rintro d n n1 hrec1
      repeat first|refine wV fun _=>?_|simp [go_sem, hk0]
      refine zAt (fun hn => ?_) (fun hn => ?_) <;> simp at hn
      ·have hn1 : n < kk.length := by omega
       have hn2 := hkv _ (zaj hn1)
       have hpl := zfz f kk (n := n) (by omega)
       repeat first|refine wV fun _=>?_|simp [go_sem, hk0, hn1]
       refine zAu (hfp _ hn2) (by simp [go_sem]) ?_
       repeat first|refine wV fun _=>?_|simp [go_sem, hk0, hn1, hpl]
       refine zAr (hrec1 (d - 1) (by omega) (n + 1) (by omega)) ?_ (by simp)
       simp [go_sem, zaf, hk0, ziS f kk hn1]
      ·have hne : n = min kk.length 4 := by omega
       repeat first|refine wV fun _=>?_|simp [go_sem]
       refine zAr (hrec (d0 - 1) (by omega) (1 + 1) (by omega)) ?_ (by simp)
       have hkx : zwG (ze4 x 1) = [.v (.string ⟨#[98, 101, 101]⟩), .lst 1 (psR f kk n), .v (.bool (decide (zit .u8 (x.f2.fdiv 2) 1 = 1)))] := by rw [hks, show psR f kk n = psR f kk (min kk.length 4) by rw [← hne]]; simp [zwG, zaS, psR, zqo, zqp, zau]; omega
       have hpl := zfz f kk (n := n) (by omega)
       simp [go_sem, zaf, hk0, ziM x 1, hkx]
       (try refine zak (.refl _) (.cons (.cons (.refl _) (.cons ?_ (.cons (.refl _) .nil))) .nil))
       refine LeV.frz rfl ?_ ?_ (zAB ?_) <;> simp [mkH, upd, hpl, List.take_of_length_le]
     ·omega
     ·simp [go_sem, zaf, hk0]
     ·simp
   ·have hiK : i = K := by omega
    subst hiK
    repeat first|refine wV fun _=>?_|simp [go_sem]
    refine zAt (fun hb3 => ?_) (fun hb3 => ?_) <;> simp at hb3 <;> (repeat (first|refine wV fun _=>?_|simp [go_sem]))
    all_goals refine zAt (fun hb4 => ?_) (fun hb4 => ?_) <;> simp at hb4 <;> (repeat (first|refine wV fun _=>?_|simp [go_sem]))
    all_goals (
     refine zAr (zAv (α := Nat) (fun a => ⟨[(1, .ref 0 0 12 0 0), (2, .ref 1 0 9 0 0), (3, .ref 20 0 9 0 0), (4, .v (.int .i64 i)), (8, .v (.int .i64 a))],
      [(0, .rows true 0 12 [zc2 x]), (1, .rows true 0 9 [[.v (.int .i64 0), zAz, zAz, zAz, .v (.int .i64 0), .v (.bool false), zAz, .v (.int .i64 0), .v (.int .i64 0)]]), (20, .rows true 0 9 [[.v (.int .i64 b.cells), zcg b.next, zap b.turn, .sl 22 i 3 0 i, .v (.int .i64 R), .v (.bool (decide (x.f1.tmod 4 = 3))), .sl 23 a 4 0 a, .v (.int .i64 bl), .v (.int .i64 en)]]), (22, .rows true i 3 (ksR x i)), (23, .rows true a 4 (clR b.cells i x.c a))], 24⟩)
      (fun d a => a + d = min x.c.length 3) ?_ (min x.c.length 3) 0 ?_) ?_ ?_
     ·rintro d j j1 hrec2
      repeat first|refine wV fun _=>?_|simp [go_sem]
      refine zAt (fun hj => ?_) (fun hj => ?_) <;> simp at hj
      ·have hj1 : j < x.c.length := by omega
       have hjc := hx.c _ (zaj hj1)
       have hpl := zmq b.cells i x.c (n := j) (by omega)
       have hsu := zrg b.cells i x.c hj1
       generalize hcx : nth x.c j = c at *
       obtain ⟨c0, c1, c2⟩ := c
       obtain ⟨u0, u1, u2⟩ := hjc
       obtain ⟨w0, w0'⟩ := qq _ u0
       obtain ⟨v0, v0'⟩ := u0
       obtain ⟨v1, v1'⟩ := u1
       obtain ⟨v2, v2'⟩ := u2
       simp only at v0 v0' v1 v1' v2 v2' w0 w0'
       have t0 := Int.tmod_nonneg 3 v0
       have t1 := Int.tmod_lt_of_pos c0 (show (0 : Int) < 3 by decide)
       have hip : (0 : Int) < i := by omega
       have k0 := Int.tmod_nonneg i v1
       have n0 := Int.tmod_nonneg b.cells v2
       have n1 := Int.tmod_nonneg 3 v2
       rcases (show c0.tmod 3 = 0 ∨ c0.tmod 3 = 1 ∨ c0.tmod 3 = 2 by omega) with ht | ht | ht
       ·have hr : zsI (zbn b.cells i (c0, c1, c2)) = [.v (.int .i64 1), .v (.int .i64 (c1.tmod i)), .v (.int .i64 0), .v (.int .i64 (1 + (c0.tdiv 4).tmod 3))] := by simp [zsI, zbn, zaZ, ht]
        repeat first|refine wV fun _=>?_|simp [go_sem, hj1, hcx, ht, hpl]
        refine zAr (hrec2 (d - 1) (by omega) (j + 1) (by omega)) ?_ (by simp)
        simp [go_sem, zaf, hsu, hr]
       ·have hr : zsI (zbn b.cells i (c0, c1, c2)) = [.v (.int .i64 2), .v (.int .i64 (c1.tmod i)), .v (.int .i64 (c2.tmod b.cells)), .v (.int .i64 (1 + (c0.tdiv 4).tmod 3))] := by simp [zsI, zbn, zaZ, ht]
        repeat first|refine wV fun _=>?_|simp [go_sem, hj1, hcx, ht, hpl]
        refine zAr (hrec2 (d - 1) (by omega) (j + 1) (by omega)) ?_ (by simp)
        simp [go_sem, zaf, hsu, hr]
       ·have hr : zsI (zbn b.cells i (c0, c1, c2)) = [.v (.int .i64 3), .v (.int .i64 0), .v (.int .i64 (c2.tmod 3)), .v (.int .i64 (1 + (c0.tdiv 4).tmod 3))] := by simp [zsI, zbn, zaZ, ht]
        repeat first|refine wV fun _=>?_|simp [go_sem, hj1, hcx, ht, hpl]
        refine zAr (hrec2 (d - 1) (by omega) (j + 1) (by omega)) ?_ (by simp)
        simp [go_sem, zaf, hsu, hr]
      ·have hki : zdl x = i := by rw [hK2, hK]
       have hjm : j = min x.c.length 3 := by omega
       have htk : x.c.take (min x.c.length 3) = x.c.take 3 := by rw [List.take_eq_take_iff]; omega
       have hpl := zmq b.cells i x.c (n := j) (by omega)
       have hkl : (ksR x i).length = i := zvy x i
       have hcl : clR b.cells i x.c j = ((x.c.take 3).map (zbn b.cells i)).map zaZ := by unfold clR; rw [hjm, htk]
       have hG : zhF x = { cells := b.cells, next := b.next, turn := b.turn, kinds := (List.range i).map (ze4 x), rights := R, must := decide (x.f1.tmod 4 = 3), clauses := (x.c.take 3).map (zbn b.cells i), blocked := bl, endless := en } := by
        unfold zhF; rw [hki, ← hbb, ← hR, ← hbl, ← hen]
       have hEnc : eg = [.v (.int .i64 b.cells), zcg b.next, zap b.turn, .lst 3 (ksR x i), .v (.int .i64 R), .v (.bool (decide (x.f1.tmod 4 = 3))), .lst 4 (clR b.cells i x.c j), .v (.int .i64 bl), .v (.int .i64 en)] := by
        rw [heg, hG, hcl]; rfl
       repeat first|refine wV fun _=>?_|simp [go_sem]
       rw [hEnc]
       refine ⟨.cons (.refl _) (.cons (.refl _) (.cons (.refl _) (.cons (zas rfl (by omega) (by simp [noH]) (by rw [List.drop_zero, List.take_of_length_le (by omega)])) (.cons (.refl _) (.cons (.refl _) (.cons (zas rfl (by omega) (by simp [noH]) (by rw [List.drop_zero, List.take_of_length_le (by omega)])) (.cons (.refl _) (.cons (.refl _) .nil)))))))), ?_⟩
       intro c hc
       simp only [List.mem_cons, List.not_mem_nil, or_false] at hc
       rcases hc with rfl | rfl | rfl | rfl | rfl | rfl | rfl | rfl | rfl
       all_goals first | exact .v _ | simp [go_sem]
     ·omega
     ·simp [go_sem, zaf, hbl, hen, hb3, hb4]
     ·simp)
  ·omega
  ·simp [go_sem, zaf, hK]
  ·simp
 ·have hK2 : zdl x = 1 := by rw [hKn, if_pos (by simp [hk1])]
  rw [hK2] at hK
  repeat first|refine wV fun _=>?_|simp [go_sem]
  refine zAr (zAv (α := Nat) (fun a => ⟨[(1, .ref 0 0 12 0 0), (2, .ref 1 0 9 0 0), (3, .ref 20 0 9 0 0), (4, .v (.int .i64 K)), (5, .v (.int .i64 a))],
   [(0, .rows true 0 12 [zc2 x]), (1, .rows true 0 9 [[.v (.int .i64 0), zAz, zAz, zAz, .v (.int .i64 0), .v (.bool false), zAz, .v (.int .i64 0), .v (.int .i64 0)]]), (20, .rows true 0 9 [[.v (.int .i64 b.cells), zcg b.next, zap b.turn, .sl 22 a 3 0 a, .v (.int .i64 R), .v (.bool (decide (x.f1.tmod 4 = 3))), zAz, .v (.int .i64 3), .v (.int .i64 2)]]), (22, .rows true a 3 (ksR x a))], 23⟩)
   (fun d a => a + d = K) ?_ K 0 ?_) ?_ ?_
  ·rintro d0 i i1 hrec
   repeat first|refine wV fun _=>?_|simp [go_sem]
   refine zAt (fun hi => ?_) (fun hi => ?_) <;> simp at hi
   ·have hi2 : i = 0 ∨ i = 1 := by omega
    have hkl := hKl i
    have hkv := hKv i
    have hks : ze4 x i = ⟨if i = 0 then zqo else zqp, ((x.ks i).take 4).map (fun n => zkR n b.next.length K x.rights), zuP x.f2 i⟩ := by rw [hbb, hK, ← hK2]; rfl
    rcases hi2 with rfl | rfl
    ·obtain ⟨kk, hkk⟩ : ∃ kk, kk = x.ks 0 := ⟨_, rfl⟩
     have hk0 : x.k0 = kk := hkk.symm
     rw [← hkk] at hkl hkv hks
     have hbit : zuP x.f2 0 = decide (zit .u8 x.f2 1 = 1) := by simp [zuP]
     obtain ⟨f, hf⟩ : ∃ f, f = (fun n => zkR n b.next.length K x.rights) := ⟨_, rfl⟩
     have hfp : ∀ n, U8 n → zaL Tryz.prog 67 [.v (.int .u8 n), .v (.int .i64 b.next.length), .v (.int .i64 K), .v (.int .i64 R)] (zau (f n)) := fun n hn => by
      rw [hf, ← hR]; exact zeB n _ _ _ hn (by omega) (by omega) (by omega)
     rw [← hf, hbit] at hks
     repeat first|refine wV fun _=>?_|simp [go_sem, hk0]
     refine zAr (zAv (α := Nat) (fun n => ⟨[(1, .ref 0 0 12 0 0), (2, .ref 1 0 9 0 0), (3, .ref 20 0 9 0 0), (4, .v (.int .i64 K)), (5, .v (.int .i64 0)), (6, .ref 35 0 3 0 0), (7, .v (.int .i64 n))],
      [(0, .rows true 0 12 [zc2 x]), (1, .rows true 0 9 [[.v (.int .i64 0), zAz, zAz, zAz, .v (.int .i64 0), .v (.bool false), zAz, .v (.int .i64 0), .v (.int .i64 0)]]), (20, .rows true 0 9 [[.v (.int .i64 b.cells), zcg b.next, zap b.turn, .sl 22 0 3 0 0, .v (.int .i64 R), .v (.bool (decide (x.f1.tmod 4 = 3))), zAz, .v (.int .i64 3), .v (.int .i64 2)]]), (22, .rows true 0 3 (ksR x 0)), (35, .rows true 0 3 [[.v (.string ⟨#[97]⟩), .sl 37 n 1 0 n, .v (.bool (decide (zit .u8 x.f2 1 = 1)))]]), (37, .rows true n 1 (psR f kk n))], 38⟩)
      (fun d n => n + d = min kk.length 4) ?_ (min kk.length 4) 0 ?_) ?_ ?_
     ·rintro d n n1 hrec1
      repeat first|refine wV fun _=>?_|simp [go_sem, hk0]
      refine zAt (fun hn => ?_) (fun hn => ?_) <;> simp at hn
      ·have hn1 : n < kk.length := by omega
       have hn2 := hkv _ (zaj hn1)
       have hpl := zfz f kk (n := n) (by omega)
       repeat first|refine wV fun _=>?_|simp [go_sem, hk0, hn1]
       refine zAu (hfp _ hn2) (by simp [go_sem]) ?_
       repeat first|refine wV fun _=>?_|simp [go_sem, hk0, hn1, hpl]
       refine zAr (hrec1 (d - 1) (by omega) (n + 1) (by omega)) ?_ (by simp)
       simp [go_sem, zaf, hk0, ziS f kk hn1]
      ·have hne : n = min kk.length 4 := by omega
       repeat first|refine wV fun _=>?_|simp [go_sem]
       refine zAr (hrec (d0 - 1) (by omega) (0 + 1) (by omega)) ?_ (by simp)
       have hkx : zwG (ze4 x 0) = [.v (.string ⟨#[97]⟩), .lst 1 (psR f kk n), .v (.bool (decide (zit .u8 x.f2 1 = 1)))] := by rw [hks, show psR f kk n = psR f kk (min kk.length 4) by rw [← hne]]; simp [zwG, zaS, psR, zqo, zqp, zau]; omega
       have hpl := zfz f kk (n := n) (by omega)
       simp [go_sem, zaf, hk0, ziM x 0, hkx]
       (try refine zak (.refl _) (.cons (.cons (.refl _) (.cons ?_ (.cons (.refl _) .nil))) .nil))
       refine LeV.frz rfl ?_ ?_ (zAB ?_) <;> simp [mkH, upd, hpl, List.take_of_length_le]
     ·omega
     ·simp [go_sem, zaf, hk0]
     ·simp
    ·obtain ⟨kk, hkk⟩ : ∃ kk, kk = x.ks 1 := ⟨_, rfl⟩
     have hk0 : x.k1 = kk := hkk.symm
     rw [← hkk] at hkl hkv hks
     have hbit : zuP x.f2 1 = decide (zit .u8 (x.f2.fdiv 2) 1 = 1) := by simp [zuP]
     obtain ⟨f, hf⟩ : ∃ f, f = (fun n => zkR n b.next.length K x.rights) := ⟨_, rfl⟩
     have hfp : ∀ n, U8 n → zaL Tryz.prog 67 [.v (.int .u8 n), .v (.int .i64 b.next.length), .v (.int .i64 K), .v (.int .i64 R)] (zau (f n)) := fun n hn => by
      rw [hf, ← hR]; exact zeB n _ _ _ hn (by omega) (by omega) (by omega)
     rw [← hf, hbit] at hks
     repeat first|refine wV fun _=>?_|simp [go_sem, hk0]
     refine zAr (zAv (α := Nat) (fun n => ⟨[(1, .ref 0 0 12 0 0), (2, .ref 1 0 9 0 0), (3, .ref 20 0 9 0 0), (4, .v (.int .i64 K)), (5, .v (.int .i64 1)), (6, .ref 35 0 3 0 0), (7, .v (.int .i64 n))],
      [(0, .rows true 0 12 [zc2 x]), (1, .rows true 0 9 [[.v (.int .i64 0), zAz, zAz, zAz, .v (.int .i64 0), .v (.bool false), zAz, .v (.int .i64 0), .v (.int .i64 0)]]), (20, .rows true 0 9 [[.v (.int .i64 b.cells), zcg b.next, zap b.turn, .sl 22 1 3 0 1, .v (.int .i64 R), .v (.bool (decide (x.f1.tmod 4 = 3))), zAz, .v (.int .i64 3), .v (.int .i64 2)]]), (22, .rows true 1 3 (ksR x 1)), (35, .rows true 0 3 [[.v (.string ⟨#[98, 101, 101]⟩), .sl 37 n 1 0 n, .v (.bool (decide (zit .u8 (x.f2.fdiv 2) 1 = 1)))]]), (37, .rows true n 1 (psR f kk n))], 38⟩)
      (fun d n => n + d = min kk.length 4) ?_ (min kk.length 4) 0 ?_) ?_ ?_
     ·rintro d n n1 hrec1
      repeat first|refine wV fun _=>?_|simp [go_sem, hk0]
      refine zAt (fun hn => ?_) (fun hn => ?_) <;> simp at hn
      ·have hn1 : n < kk.length := by omega
       have hn2 := hkv _ (zaj hn1)
       have hpl := zfz f kk (n := n) (by omega)
       repeat first|refine wV fun _=>?_|simp [go_sem, hk0, hn1]
       refine zAu (hfp _ hn2) (by simp [go_sem]) ?_
       repeat first|refine wV fun _=>?_|simp [go_sem, hk0, hn1, hpl]
       refine zAr (hrec1 (d - 1) (by omega) (n + 1) (by omega)) ?_ (by simp)
       simp [go_sem, zaf, hk0, ziS f kk hn1]
      ·have hne : n = min kk.length 4 := by omega
       repeat first|refine wV fun _=>?_|simp [go_sem]
       refine zAr (hrec (d0 - 1) (by omega) (1 + 1) (by omega)) ?_ (by simp)
       have hkx : zwG (ze4 x 1) = [.v (.string ⟨#[98, 101, 101]⟩), .lst 1 (psR f kk n), .v (.bool (decide (zit .u8 (x.f2.fdiv 2) 1 = 1)))] := by rw [hks, show psR f kk n = psR f kk (min kk.length 4) by rw [← hne]]; simp [zwG, zaS, psR, zqo, zqp, zau]; omega
       have hpl := zfz f kk (n := n) (by omega)
       simp [go_sem, zaf, hk0, ziM x 1, hkx]
       (try refine zak (.refl _) (.cons (.cons (.refl _) (.cons ?_ (.cons (.refl _) .nil))) .nil))
       refine LeV.frz rfl ?_ ?_ (zAB ?_) <;> simp [mkH, upd, hpl, List.take_of_length_le]
     ·omega
     ·simp [go_sem, zaf, hk0]
     ·simp
   ·have hiK : i = K := by omega
    subst hiK
    repeat first|refine wV fun _=>?_|simp [go_sem]
    refine zAt (fun hb3 => ?_) (fun hb3 => ?_) <;> simp at hb3 <;> (repeat (first|refine wV fun _=>?_|simp [go_sem]))
    all_goals refine zAt (fun hb4 => ?_) (fun hb4 => ?_) <;> simp at hb4 <;> (repeat (first|refine wV fun _=>?_|simp [go_sem]))
    all_goals (
     refine zAr (zAv (α := Nat) (fun a => ⟨[(1, .ref 0 0 12 0 0), (2, .ref 1 0 9 0 0), (3, .ref 20 0 9 0 0), (4, .v (.int .i64 i)), (8, .v (.int .i64 a))],
      [(0, .rows true 0 12 [zc2 x]), (1, .rows true 0 9 [[.v (.int .i64 0), zAz, zAz, zAz, .v (.int .i64 0), .v (.bool false), zAz, .v (.int .i64 0), .v (.int .i64 0)]]), (20, .rows true 0 9 [[.v (.int .i64 b.cells), zcg b.next, zap b.turn, .sl 22 i 3 0 i, .v (.int .i64 R), .v (.bool (decide (x.f1.tmod 4 = 3))), .sl 23 a 4 0 a, .v (.int .i64 bl), .v (.int .i64 en)]]), (22, .rows true i 3 (ksR x i)), (23, .rows true a 4 (clR b.cells i x.c a))], 24⟩)
      (fun d a => a + d = min x.c.length 3) ?_ (min x.c.length 3) 0 ?_) ?_ ?_
     ·rintro d j j1 hrec2
      repeat first|refine wV fun _=>?_|simp [go_sem]
      refine zAt (fun hj => ?_) (fun hj => ?_) <;> simp at hj
      ·have hj1 : j < x.c.length := by omega
       have hjc := hx.c _ (zaj hj1)
       have hpl := zmq b.cells i x.c (n := j) (by omega)
       have hsu := zrg b.cells i x.c hj1
       generalize hcx : nth x.c j = c at *
       obtain ⟨c0, c1, c2⟩ := c
       obtain ⟨u0, u1, u2⟩ := hjc
       obtain ⟨w0, w0'⟩ := qq _ u0
       obtain ⟨v0, v0'⟩ := u0
       obtain ⟨v1, v1'⟩ := u1
       obtain ⟨v2, v2'⟩ := u2
       simp only at v0 v0' v1 v1' v2 v2' w0 w0'
       have t0 := Int.tmod_nonneg 3 v0
       have t1 := Int.tmod_lt_of_pos c0 (show (0 : Int) < 3 by decide)
       have hip : (0 : Int) < i := by omega
       have k0 := Int.tmod_nonneg i v1
       have n0 := Int.tmod_nonneg b.cells v2
       have n1 := Int.tmod_nonneg 3 v2
       rcases (show c0.tmod 3 = 0 ∨ c0.tmod 3 = 1 ∨ c0.tmod 3 = 2 by omega) with ht | ht | ht
       ·have hr : zsI (zbn b.cells i (c0, c1, c2)) = [.v (.int .i64 1), .v (.int .i64 (c1.tmod i)), .v (.int .i64 0), .v (.int .i64 (1 + (c0.tdiv 4).tmod 3))] := by simp [zsI, zbn, zaZ, ht]
        repeat first|refine wV fun _=>?_|simp [go_sem, hj1, hcx, ht, hpl]
        refine zAr (hrec2 (d - 1) (by omega) (j + 1) (by omega)) ?_ (by simp)
        simp [go_sem, zaf, hsu, hr]
       ·have hr : zsI (zbn b.cells i (c0, c1, c2)) = [.v (.int .i64 2), .v (.int .i64 (c1.tmod i)), .v (.int .i64 (c2.tmod b.cells)), .v (.int .i64 (1 + (c0.tdiv 4).tmod 3))] := by simp [zsI, zbn, zaZ, ht]
        repeat first|refine wV fun _=>?_|simp [go_sem, hj1, hcx, ht, hpl]
        refine zAr (hrec2 (d - 1) (by omega) (j + 1) (by omega)) ?_ (by simp)
        simp [go_sem, zaf, hsu, hr]
       ·have hr : zsI (zbn b.cells i (c0, c1, c2)) = [.v (.int .i64 3), .v (.int .i64 0), .v (.int .i64 (c2.tmod 3)), .v (.int .i64 (1 + (c0.tdiv 4).tmod 3))] := by simp [zsI, zbn, zaZ, ht]
        repeat first|refine wV fun _=>?_|simp [go_sem, hj1, hcx, ht, hpl]
        refine zAr (hrec2 (d - 1) (by omega) (j + 1) (by omega)) ?_ (by simp)
        simp [go_sem, zaf, hsu, hr]
      ·have hki : zdl x = i := by rw [hK2, hK]
       have hjm : j = min x.c.length 3 := by omega
       have htk : x.c.take (min x.c.length 3) = x.c.take 3 := by rw [List.take_eq_take_iff]; omega
       have hpl := zmq b.cells i x.c (n := j) (by omega)
       have hkl : (ksR x i).length = i := zvy x i
       have hcl : clR b.cells i x.c j = ((x.c.take 3).map (zbn b.cells i)).map zaZ := by unfold clR; rw [hjm, htk]
       have hG : zhF x = { cells := b.cells, next := b.next, turn := b.turn, kinds := (List.range i).map (ze4 x), rights := R, must := decide (x.f1.tmod 4 = 3), clauses := (x.c.take 3).map (zbn b.cells i), blocked := bl, endless := en } := by
        unfold zhF; rw [hki, ← hbb, ← hR, ← hbl, ← hen]
       have hEnc : eg = [.v (.int .i64 b.cells), zcg b.next, zap b.turn, .lst 3 (ksR x i), .v (.int .i64 R), .v (.bool (decide (x.f1.tmod 4 = 3))), .lst 4 (clR b.cells i x.c j), .v (.int .i64 bl), .v (.int .i64 en)] := by
        rw [heg, hG, hcl]; rfl
       repeat first|refine wV fun _=>?_|simp [go_sem]
       rw [hEnc]
       refine ⟨.cons (.refl _) (.cons (.refl _) (.cons (.refl _) (.cons (zas rfl (by omega) (by simp [noH]) (by rw [List.drop_zero, List.take_of_length_le (by omega)])) (.cons (.refl _) (.cons (.refl _) (.cons (zas rfl (by omega) (by simp [noH]) (by rw [List.drop_zero, List.take_of_length_le (by omega)])) (.cons (.refl _) (.cons (.refl _) .nil)))))))), ?_⟩
       intro c hc
       simp only [List.mem_cons, List.not_mem_nil, or_false] at hc
       rcases hc with rfl | rfl | rfl | rfl | rfl | rfl | rfl | rfl | rfl
       all_goals first | exact .v _ | simp [go_sem]
     ·omega
     ·simp [go_sem, zaf, hbl, hen, hb3, hb4]
     ·simp)
  ·omega
  ·simp [go_sem, zaf, hK]
  ·simp
def addK (known nx : List zah) (q : zah) : List zah := if q ∈ known ++ nx then nx else nx ++ [q]
def zqr (g : zae) (known now : List zah) : List zah := (now.flatMap (zaK g)).foldl (addK known) []
theorem zgM (known : List zah) : ∀ (l nx : List zah) (q : zah), q ∈ l.foldl (addK known) nx ↔ q ∈ nx ∨ q ∈ l ∧ q ∉ known
 | [], nx, q => by simp
 | r :: l, nx, q => by
  rw [List.foldl_cons, zgM known l]
  unfold addK
  by_cases hr : r ∈ known ++ nx
  ·rw [if_pos hr]
   rw [List.mem_append] at hr
   constructor
   ·rintro (h | ⟨h1, h2⟩)
    ·exact .inl h
    ·exact .inr ⟨List.mem_cons_of_mem _ h1, h2⟩
   ·rintro (h | ⟨h1, h2⟩)
    ·exact .inl h
    ·rcases List.mem_cons.1 h1 with rfl | h1
     ·rcases hr with hr | hr
      ·exact absurd hr h2
      ·exact .inl hr
     ·exact .inr ⟨h1, h2⟩
  ·rw [if_neg hr]
   rw [List.mem_append, not_or] at hr
   constructor
   ·rintro (h | ⟨h1, h2⟩)
    ·rcases List.mem_append.1 h with h | h
     ·exact .inl h
     ·simp only [List.mem_singleton] at h
      subst h
      exact .inr ⟨by simp, hr.1⟩
    ·exact .inr ⟨List.mem_cons_of_mem _ h1, h2⟩
   ·rintro (h | ⟨h1, h2⟩)
    ·exact .inl (List.mem_append.2 (.inl h))
    ·rcases List.mem_cons.1 h1 with rfl | h1
     ·exact .inl (by simp)
     ·exact .inr ⟨h1, h2⟩
theorem zfc (known : List zah) : ∀ (l nx : List zah), nx.Nodup → (l.foldl (addK known) nx).Nodup
 | [], nx, h => h
 | r :: l, nx, h => by
  rw [List.foldl_cons]
  refine zfc known l _ ?_
  unfold addK
  split
  ·exact h
  ·rename_i hr
   rw [List.mem_append, not_or] at hr
   refine List.nodup_append.2 ⟨h, by simp, ?_⟩
   intro a ha b hb e
   simp only [List.mem_singleton] at hb
   subst hb; subst e
   exact hr.2 ha
theorem zoB {g : zae} {known now : List zah} {q : zah} : q ∈ zqr g known now ↔ (∃ r ∈ now, q ∈ zaK g r) ∧ q ∉ known := by
 unfold zqr
 rw [zgM, List.mem_flatMap]
 simp
theorem zqs (g : zae) (known now : List zah) : (zqr g known now).Nodup := zfc known _ [] (by simp)
theorem zqf {g : zae} {known now : List zah} (h : known.Nodup) : (known ++ zqr g known now).Nodup :=
 List.nodup_append.2 ⟨h, zqs g known now, fun a ha b hb e => (zoB.1 hb).2 (e ▸ ha)⟩
theorem zx5 {g : zae} (hg : GOk g) {known now : List zah} (hn : ∀ p ∈ now, POk g p) : ∀ q ∈ zqr g known now, POk g q := fun q hq => by
 obtain ⟨⟨r, hr, hm⟩, _⟩ := zoB.1 hq
 exact (zdn hg (hn r hr) q hm).1
structure zgL (g : zae) (known now : List zah) : Prop where
 nd : known.Nodup
 sub : ∀ q ∈ now, q ∈ known
 inc : Inc now
 ok : ∀ q ∈ known, POk g q
theorem zA9 {g : zae} {p : zah} (hp : POk g p) : zgL g [p] [p] :=
 ⟨by simp, fun q hq => hq, by simp [Inc], fun q hq => by simp only [List.mem_singleton] at hq; subst hq; exact hp⟩
theorem zgL.next {g : zae} (hg : GOk g) {known now : List zah} (h : zgL g known now) : zgL g (known ++ zqr g known now) (zbh zbx (zqr g known now)) :=
 ⟨zqf h.nd, fun q hq => List.mem_append.2 (.inr (za9.1 hq)), zhf za7 _, fun q hq => by
  rcases List.mem_append.1 hq with hq | hq
  ·exact h.ok q hq
  ·exact zx5 hg (fun r hr => h.ok r (h.sub r hr)) q hq⟩
def kRowP (q : zah) : List AV := [.v (.string (zyM q)), .v (.bool true)]
theorem zuM {n : Nat} {l : List zah} : (∀ r ∈ l.map kRowP, ∀ c ∈ r, Bel n c) = True := by
 refine eq_true ?_
 intro r hr c hc
 obtain ⟨x, _, rfl⟩ := List.mem_map.1 hr
 simp only [kRowP, List.mem_cons, List.not_mem_nil, or_false] at hc
 rcases hc with rfl | rfl <;> exact .v _
attribute [go_sem ↓] zuM
def rowL (x : List zah × Bool) : List AV := [zaN x.1, .v (.bool x.2)]
theorem zxk {n : Nat} {L : List (List zah × Bool)} : (∀ r ∈ L.map rowL, ∀ c ∈ r, Bel n c) = True := by
 refine eq_true ?_
 intro r hr c hc
 obtain ⟨x, _, rfl⟩ := List.mem_map.1 hr
 simp only [rowL, List.mem_cons, List.not_mem_nil, or_false] at hc
 rcases hc with rfl | rfl
 ·exact of_eq_true zuG
 ·exact .v _
attribute [go_sem ↓] zxk
theorem zpj (g : zae) (hg : GOk g) (x : zkx) (hx : zi4 x) : zaL Tryz.prog 17 [.agg (zac g), .agg (zc7 x)] (.agg (zad (zea g x))) := by
 refine pF Tryz.func17 ?_
 obtain ⟨q, hq⟩ : ∃ q, q = zea g x := ⟨_, rfl⟩
 have hrow := zrE hx
 obtain ⟨er, her⟩ : ∃ er, er = zc7 x := ⟨_, rfl⟩
 rw [← hq, ← her]
 rw [← her] at hrow
 obtain ⟨rl, rc, rk, rh, rr, rs, rb⟩ := hrow
 have c1 := hg.c1
 have c9 := hg.c9
 have k1 := hg.k1
 have k6 := hg.k6
 have hr0 := hg.r0
 have hr4 := hg.r4
 obtain ⟨gc, hgc⟩ : ∃ gc : Nat, g.cells = gc := ⟨g.cells.toNat, by omega⟩
 have hpow : (1 : Int) ≤ 2 ^ g.rights.toNat ∧ (2 : Int) ^ g.rights.toNat ≤ 16 := by
  rcases (show g.rights.toNat = 0 ∨ g.rights.toNat = 1 ∨ g.rights.toNat = 2 ∨ g.rights.toNat = 3 ∨ g.rights.toNat = 4 by omega) with h | h | h | h | h <;> rw [h] <;> decide
 have hrt := hx.r
 have hsd := hx.s
 obtain ⟨rt, hrt'⟩ : ∃ rt, x.rights = rt := ⟨_, rfl⟩
 obtain ⟨pw, hpw⟩ : ∃ pw : Int, (2 : Int) ^ g.rights.toNat = pw := ⟨_, rfl⟩
 have r1 : 0 ≤ x.rights ∧ x.rights ≤ 255 := hx.r
 have s1 : 0 ≤ x.side ∧ x.side ≤ 255 := hx.s
 have s0 := Int.tmod_nonneg 2 s1.1
 have s2 := Int.tmod_lt_of_pos x.side (show (0 : Int) < 2 by decide)
 rw [hpw] at hpow
 generalize heg : zac g = eg at *
 have hel : eg.length = 9 := by rw [← heg]; rfl
 have hbl : ∀ n, (∀ c' ∈ eg, Bel n c') = True := fun n => by rw [← heg]; simp [go_sem]
 have e0 : cel eg 0 = .v (.int .i64 g.cells) := by rw [← heg]; rfl
 have e3 : cel eg 3 = .lst 3 (g.kinds.map zaS) := by rw [← heg]; rfl
 have e4 : cel eg 4 = .v (.int .i64 g.rights) := by rw [← heg]; rfl
 repeat first|refine wV fun _=>?_|simp [go_sem, hel, e0, e3, e4, rl, rr, rs, rb, hbl, hpw]
 have hcz : g.cells.toNat = gc := by omega
 have hkne : g.kinds ≠ [] := by intro h; rw [h] at k1; simp at k1
 have hz : List.replicate gc [AV.v (.int .i64 0)] = (zdK g x 0).map zb5 := by simp [zdK, hcz, zb5]
 refine zAr (zAv (α := Nat) (fun i => ⟨[(2, .ref 0 0 9 0 0), (3, .ref 1 0 18 0 0), (4, .ref 2 0 5 0 0), (5, .ref 19 0 5 0 0), (6, .v (.int .i64 i))], [(0, .rows true 0 9 [eg]), (1, .rows true 0 18 [er]), (2, .rows true 0 5 [[zAz, zAz, zAz, .v (.int .i64 0), .v (.int .i64 0)]]), (6, .rows true 0 1 ((zdK g x i).map zb5)), (19, .rows true 0 5 [[.sl 6 0 1 0 gc, zAz, zAz, .v (.int .i64 (x.rights.tmod pw)), .v (.int .i64 (x.side.tmod 2))]])], 21⟩)
  (fun d i => i + d = 6) ?_ 6 0 ?_) ?_ ?_
 ·rintro d i i1 hrec
  repeat first|refine wV fun _=>?_|simp [go_sem]
  refine zAt (fun hi => ?_) (fun hi => ?_) <;> simp at hi
  ·have hci := hx.cv _ (zaj (l := x.cell) (i := i) (by rw [hx.c6]; omega))
   have hki := hx.kv _ (zaj (l := x.kind) (i := i) (by rw [hx.k6]; omega))
   have hci' : 0 ≤ nth x.cell i ∧ nth x.cell i ≤ 255 := hci
   have hki' : 0 ≤ nth x.kind i ∧ nth x.kind i ≤ 255 := hki
   have m0 := Int.tmod_nonneg (g.cells + 1) hci'.1
   have m1 := Int.tmod_nonneg (g.kinds.length : Int) hki'.1
   have m2 := Int.tmod_lt_of_pos (nth x.kind i) (show (0 : Int) < g.kinds.length by omega)
   have m3 := Int.tmod_nonneg 2 (show (0 : Int) ≤ i by omega)
   have m4 := Int.tmod_lt_of_pos (i : Int) (show (0 : Int) < 2 by decide)
   have hrc := rc i (by omega)
   have hrk := rk i (by omega)
   have hsu := zgu g x i
   have hal := zhE g x i
   rw [hcz] at hal
   unfold zk7 at hsu
   repeat first|refine wV fun _=>?_|simp [go_sem, hel, e0, e3, e4, hrc, hrk]
   refine zAt (fun hc => ?_) (fun hc => ?_) <;> simp at hc
   ·have hc1 := hc.1
    rw [if_pos hc1] at hsu
    repeat first|refine wV fun _=>?_|simp [go_sem, hel, e0, e3, e4, hrc, hrk, hal]
    refine zAr (hrec (d - 1) (by omega) (i + 1) (by omega)) ?_ (by simp)
    simp [go_sem, zaf, hsu, rb, hbl]
   ·have hc1 : ¬ (nth x.cell i).tmod (g.cells + 1) < g.cells := fun h => hkne (hc h)
    rw [if_neg hc1] at hsu
    repeat first|refine wV fun _=>?_|simp [go_sem, hel, e0, e3, e4, hrc, hrk]
    refine zAr (hrec (d - 1) (by omega) (i + 1) (by omega)) ?_ (by simp)
    simp [go_sem, zaf, hsu, rb, hbl]
  ·obtain rfl : i = 6 := by omega
   have hal := zhE g x 6
   rw [hcz] at hal
   have hqe : q = ⟨zdK g x 6, zd8 g x 0 (min g.kinds.length 2), zd8 g x 1 (min g.kinds.length 2), x.rights.tmod pw, x.side.tmod 2⟩ := by rw [hq, ← hpw]; rfl
   clear hq
   have hq := hqe
   repeat first|refine wV fun _=>?_|simp [go_sem, hel, e0, e3, e4]
   refine zAA ?_
   repeat first|refine wV fun _=>?_|simp [go_sem, hel, e0, e3, e4]
   have hz0 := zlp g x 0
   refine zAr (zAv (α := Nat) (fun k => ⟨[(2, .ref 0 0 9 0 0), (3, .ref 1 0 18 0 0), (4, .ref 2 0 5 0 0), (5, .ref 19 0 5 0 0), (8, .v (.int .i64 0)), (9, .v (.int .i64 k))], [(0, .rows true 0 9 [eg]), (1, .rows true 0 18 [er]), (2, .rows true 0 5 [[zAz, zAz, zAz, .v (.int .i64 0), .v (.int .i64 0)]]), (6, .rows true 0 1 ((zdK g x 6).map zb5)), (19, .rows true 0 5 [[.sl 6 0 1 0 gc, .sl 21 0 1 0 g.kinds.length, zAz, .v (.int .i64 (x.rights.tmod pw)), .v (.int .i64 (x.side.tmod 2))]]), (21, .rows true 0 1 ((zd8 g x 0 k).map zb5))], 22⟩)
    (fun d k => k + d = min g.kinds.length 2) ?_ (min g.kinds.length 2) 0 ?_) ?_ ?_
   ·rintro d k j1 hrec0
    repeat first|refine wV fun _=>?_|simp [go_sem, hel, e0, e3, e4]
    refine zAt (fun hj => ?_) (fun hj => ?_) <;> simp at hj
    ·have hk2 : k < 2 := by omega
     have hkk : k < g.kinds.length := by omega
     have hhv := hx.hv _ (zaj (l := x.hand) (i := 2 * 0 + k) (by rw [hx.h4]; omega))
     have hh1 : 0 ≤ nth x.hand (2 * 0 + k) ∧ nth x.hand (2 * 0 + k) ≤ 255 := hhv
     have hrh := rh (2 * 0 + k) (by omega)
     have m0 := Int.tmod_nonneg 3 hh1.1
     have hsu := zlo g x 0 k
     have hsk := zln g x 0 k
     have hhl := zdk g x 0 k
     have hV : zp9 g x 0 k = if (nth g.kinds k).keep = true then (if 250 < nth x.hand (2 * 0 + k) then 8 else (nth x.hand (2 * 0 + k)).tmod 3) else 0 := rfl
     simp only [Nat.mul_zero, Nat.zero_add, Nat.mul_one] at hrh hh1 m0 hV
     repeat first|refine wV fun _=>?_|simp [go_sem, hel, e0, e3, e4, hkk]
     refine zAt (fun hkeep => ?_) (fun hkeep => ?_)
     ·rw [if_pos hkeep] at hV
      have eI : ((k : Int)).toNat = k := by omega
      have eI2 : (k : Int) < 4 := by omega
      repeat first|refine wV fun _=>?_|simp [go_sem, hel, e0, e3, e4, hkk, hrh, hhl, eI, eI2]
      refine zAt (fun hbig => ?_) (fun hbig => ?_) <;> simp at hbig
      ·rw [if_pos hbig] at hV
       rw [hV] at hsu
       repeat first|refine wV fun _=>?_|simp [go_sem, hel, e0, e3, e4, hkk, hrh, hhl]
       refine zAr (hrec0 (d - 1) (by omega) (k + 1) (by omega)) ?_ (by simp)
       simp [go_sem, zaf, hsu, rb, hbl]
      ·rw [if_neg (by omega)] at hV
       rw [hV] at hsu
       repeat first|refine wV fun _=>?_|simp [go_sem, hel, e0, e3, e4, hkk, hrh, hhl]
       refine zAr (hrec0 (d - 1) (by omega) (k + 1) (by omega)) ?_ (by simp)
       simp [go_sem, zaf, hsu, rb, hbl]
     ·rw [if_neg (by simpa using hkeep)] at hV
      have hsk' := hsk hV
      repeat first|refine wV fun _=>?_|simp [go_sem, hel, e0, e3, e4]
      refine zAr (hrec0 (d - 1) (by omega) (k + 1) (by omega)) ?_ (by simp)
      simp [go_sem, zaf, hsk', rb, hbl]
    ·have hkm : k = min g.kinds.length 2 := by omega
     subst hkm
     repeat first|refine wV fun _=>?_|simp [go_sem, hel, e0, e3, e4]
     refine zAA ?_
     repeat first|refine wV fun _=>?_|simp [go_sem, hel, e0, e3, e4]
     have hz1 := zlp g x 1
     refine zAr (zAv (α := Nat) (fun k => ⟨[(2, .ref 0 0 9 0 0), (3, .ref 1 0 18 0 0), (4, .ref 2 0 5 0 0), (5, .ref 19 0 5 0 0), (8, .v (.int .i64 1)), (9, .v (.int .i64 k))], [(0, .rows true 0 9 [eg]), (1, .rows true 0 18 [er]), (2, .rows true 0 5 [[zAz, zAz, zAz, .v (.int .i64 0), .v (.int .i64 0)]]), (6, .rows true 0 1 ((zdK g x 6).map zb5)), (19, .rows true 0 5 [[.sl 6 0 1 0 gc, .sl 21 0 1 0 g.kinds.length, .sl 22 0 1 0 g.kinds.length, .v (.int .i64 (x.rights.tmod pw)), .v (.int .i64 (x.side.tmod 2))]]), (21, .rows true 0 1 ((zd8 g x 0 (min g.kinds.length 2)).map zb5)), (22, .rows true 0 1 ((zd8 g x 1 k).map zb5))], 23⟩)
      (fun d k => k + d = min g.kinds.length 2) ?_ (min g.kinds.length 2) 0 ?_) ?_ ?_
     ·rintro d k j1 hrec1
      repeat first|refine wV fun _=>?_|simp [go_sem, hel, e0, e3, e4]
      refine zAt (fun hj => ?_) (fun hj => ?_) <;> simp at hj
      ·have hk2 : k < 2 := by omega
       have hkk : k < g.kinds.length := by omega
       have hhv := hx.hv _ (zaj (l := x.hand) (i := 2 * 1 + k) (by rw [hx.h4]; omega))
       have hh1 : 0 ≤ nth x.hand (2 * 1 + k) ∧ nth x.hand (2 * 1 + k) ≤ 255 := hhv
       have hrh := rh (2 * 1 + k) (by omega)
       have m0 := Int.tmod_nonneg 3 hh1.1
       have hsu := zlo g x 1 k
       have hsk := zln g x 1 k
       have hhl := zdk g x 1 k
       have hV : zp9 g x 1 k = if (nth g.kinds k).keep = true then (if 250 < nth x.hand (2 * 1 + k) then 8 else (nth x.hand (2 * 1 + k)).tmod 3) else 0 := rfl
       simp only [Nat.mul_zero, Nat.zero_add, Nat.mul_one] at hrh hh1 m0 hV
       repeat first|refine wV fun _=>?_|simp [go_sem, hel, e0, e3, e4, hkk]
       refine zAt (fun hkeep => ?_) (fun hkeep => ?_)
       ·rw [if_pos hkeep] at hV
        have eI : (2 + (k : Int)).toNat = 2 + k := by omega
        have eI2 : 2 + (k : Int) < 4 := by omega
        repeat first|refine wV fun _=>?_|simp [go_sem, hel, e0, e3, e4, hkk, hrh, hhl, eI, eI2]
        refine zAt (fun hbig => ?_) (fun hbig => ?_) <;> simp at hbig
        ·rw [if_pos hbig] at hV
         rw [hV] at hsu
         repeat first|refine wV fun _=>?_|simp [go_sem, hel, e0, e3, e4, hkk, hrh, hhl]
         refine zAr (hrec1 (d - 1) (by omega) (k + 1) (by omega)) ?_ (by simp)
         simp [go_sem, zaf, hsu, rb, hbl]
        ·rw [if_neg (by omega)] at hV
         rw [hV] at hsu
         repeat first|refine wV fun _=>?_|simp [go_sem, hel, e0, e3, e4, hkk, hrh, hhl]
         refine zAr (hrec1 (d - 1) (by omega) (k + 1) (by omega)) ?_ (by simp)
         simp [go_sem, zaf, hsu, rb, hbl]
       ·rw [if_neg (by simpa using hkeep)] at hV
        have hsk' := hsk hV
        repeat first|refine wV fun _=>?_|simp [go_sem, hel, e0, e3, e4]
        refine zAr (hrec1 (d - 1) (by omega) (k + 1) (by omega)) ?_ (by simp)
        simp [go_sem, zaf, hsk', rb, hbl]
      ·have hkm : k = min g.kinds.length 2 := by omega
       subst hkm
       repeat first|refine wV fun _=>?_|simp [go_sem, hel, e0, e3, e4]
       repeat first|refine wV fun _=>?_|simp [go_sem, hel, e0, e3, e4]
       refine zAA ?_
       repeat first|refine wV fun _=>?_|simp [go_sem, hel, e0, e3, e4]
       rw [hq]
       exact ⟨zas rfl (by simp [hal]) (by simp [noH]) (by simp [List.take_of_length_le, hal]), zas rfl (by simp [zdk]) (by simp [noH]) (by simp [List.take_of_length_le, zdk]), zas rfl (by simp [zdk]) (by simp [noH]) (by simp [List.take_of_length_le, zdk]), .refl _, .refl _⟩
     ·omega
     ·simp [go_sem, zaf, rb, hbl, hz1]
     ·simp
   ·omega
   ·simp [go_sem, zaf, rb, hbl, hz0]
   ·simp
 ·rfl
 ·simp [go_sem, zaf, rb, hbl, hz, hcz]
 ·simp
theorem zpq (g : zae) (hg : GOk g) (p : zah) (hp : POk g p) (picks : List Int) (hl : picks.length ≤ 4294967296) (hk : ∀ k ∈ picks, 0 ≤ k ∧ k ≤ 9223372036854775807) :
    zaL Tryz.prog 83 [.agg (zac g), .agg (zad p), zap picks] (zaN (zfG g p picks)) := by
  refine pF Tryz.func83 ?_
  generalize hR : zfG g p picks = R
  repeat first|refine wV fun _=>?_|simp [go_sem]
  refine zAr (zAv (α := Nat × List zah × zah) (fun a => ⟨[(2, zap picks), (3, .ref 0 0 9 0 0), (4, .ref 1 0 5 0 0), (7, .sl 2 a.2.1.length 5 0 (a.2.1.length + 1)), (8, .v (.int .i64 a.1))], [(0, .rows true 0 9 [zac g]), (1, .rows true 0 5 [zad a.2.2]), (2, .rows true a.2.1.length 5 ((a.2.1 ++ [a.2.2]).map zad))], 3⟩)
    (fun d a => a.1 + d = picks.length ∧ a.2.1.length = a.1 ∧ POk g a.2.2 ∧ R = a.2.1 ++ zfG g a.2.2 (picks.drop a.1)) ?_ picks.length (0, [], p) ?_) ?_ ?_
  · rintro d ⟨i, pre, cur⟩ ⟨i1, i2, i3, i4⟩ hrec
    simp only at i1 i2 i3 i4
    repeat first|refine wV fun _=>?_|simp [go_sem]
    refine zAt (fun hi => ?_) (fun hi => ?_) <;> simp at hi
    · have hM := zhY g hg cur i3
      have hki := hk _ (zaj hi)
      have hml := zhG hg i3
      have hmo := zdn hg i3
      rw [zaH hi, zfG] at i4
      generalize zaK g cur = l at *
      repeat first|refine wV fun _=>?_|simp [go_sem]
      refine zAs hM (by simp [go_sem]) ?_
      repeat first|refine wV fun _=>?_|simp [go_sem]
      by_cases hz : l = []
      · rw [if_pos hz] at i4
        subst hz
        repeat first|refine wV fun _=>?_|simp [go_sem]
        rw [i4]
        exact frX
      · rw [if_neg hz] at i4
        have hlp : 0 < l.length := List.length_pos_iff.2 hz
        have e1 : (nth picks i).tmod l.length = (nth picks i).emod l.length := Int.tmod_eq_emod_of_nonneg hki.1
        have e2 : 0 ≤ (nth picks i).emod l.length := Int.emod_nonneg _ (by omega)
        have e3 : (nth picks i).emod l.length < l.length := Int.emod_lt_of_pos _ (by omega)
        generalize (nth picks i).emod l.length = j at *
        have hjl : j.toNat < l.length := by omega
        repeat first|refine wV fun _=>?_|simp [go_sem, hi, hz, e1, hjl]
        (refine zAt (fun hF => by first | omega | (simp at hF; omega)) (fun hF => ?_); clear hF)
        repeat first|refine wV fun _=>?_|simp [go_sem, hjl]
        refine zAr (hrec (d - 1) (by omega) (i + 1, pre ++ [cur], nth l j.toNat) ⟨by simp only; omega, by simp; omega, (hmo _ (zaj hjl)).1, by simpa using i4⟩) ?_ (by simp)
        simp [go_sem, zaf]
    · rw [List.drop_eq_nil_of_le hi, zfG] at i4
      repeat first|refine wV fun _=>?_|simp [go_sem]
      rw [i4]
      exact frX
  · exact ⟨by simp, rfl, hp, by simp [hR]⟩
  · simp [go_sem, zaf]
  · simp
structure zqW where
  g : zis
  p : zkx
  picks : List Int
structure zf8 (x : zqW) : Prop where
  g : zr5 x.g
  p : zi4 x.p
  k : ∀ n ∈ x.picks, U8 n
  lk : x.picks.length ≤ 1099511627776
  l0 : x.g.k0.length ≤ 1099511627776
  l1 : x.g.k1.length ≤ 1099511627776
  lc : x.g.c.length ≤ 1099511627776
def zcI (x : zqW) : List AV := zc2 x.g ++ (zc7 x.p ++ [zsU x.picks])
def zc9 (x : zqW) : zae := zhF x.g
def zqQ (x : zqW) : List zah := zfG (zc9 x) (zea (zc9 x) x.p) (x.picks.take 6)
def zyO (x : zqW) : zah := nth (zqQ x) ((zqQ x).length - 1)
theorem zeM {x : zqW} (hx : zf8 x) : GOk (zc9 x) := zx2 hx.g
theorem zmU {x : zqW} (hx : zf8 x) : POk (zc9 x) (zyO x) := by
  have hne := List.length_pos_iff.2 (zrN (zc9 x) (zea (zc9 x) x.p) (x.picks.take 6))
  exact zrO (zeM hx) _ (zlE (zeM hx) hx.p) _ (zaj (by unfold zqQ; omega))
theorem zeD (x : zqW) (hx : zf8 x) : zaL Tryz.prog 28 [.agg (zcI x)] (.tup [.agg (zac (zc9 x)), .agg (zad (zyO x))]) := by
  refine pF Tryz.func28 ?_
  have hg := zeM hx
  have hG := zpi x.g hx.g hx.lc hx.l0 hx.l1
  have hP := zpj (zc9 x) hg x.p hx.p
  have hlk := hx.lk
  have hW := zpq (zc9 x) hg (zea (zc9 x) x.p) (zlE hg hx.p) (x.picks.take 6) (by simp; omega) (fun k hk => by have := hx.k k (List.mem_of_mem_take hk); have h0 := this.1; have h1 := this.2; omega)
  have hwl := zo0 (zc9 x) (x.picks.take 6) (zea (zc9 x) x.p)
  have hwp := List.length_pos_iff.2 (zrN (zc9 x) (zea (zc9 x) x.p) (x.picks.take 6))
  rw [show zfG (zc9 x) (zea (zc9 x) x.p) (x.picks.take 6) = zqQ x from rfl] at hW hwl hwp
  have hq : zyO x = nth (zqQ x) ((zqQ x).length - 1) := rfl
  rw [show zhF x.g = zc9 x from rfl] at hG
  obtain ⟨eg, heg⟩ : ∃ eg, eg = zac (zc9 x) := ⟨_, rfl⟩
  have hegl : eg.length = 9 := by rw [heg]; rfl
  have hegb : ∀ n, (∀ c ∈ eg, Bel n c) = True := fun n => by rw [heg]; simp [go_sem]
  rw [← heg] at hG hP hW ⊢
  generalize zqQ x = w at *
  generalize zyO x = q at *
  unfold zcI
  have hrow := zrE hx.p
  obtain ⟨er, her⟩ : ∃ er, er = zc7 x.p := ⟨_, rfl⟩
  rw [← her] at hrow hP ⊢
  obtain ⟨rl, _, _, _, _, _, rb⟩ := hrow
  obtain ⟨er1, her1⟩ : ∃ er1, er1 = zc2 x.g := ⟨_, rfl⟩
  have er1l : er1.length = 12 := by rw [her1]; rfl
  have er1b : ∀ n, (∀ c ∈ er1, Bel n c) = True := fun n => by rw [her1]; simp [go_sem]
  rw [← her1] at hG ⊢
  have hc30 : cel (er1 ++ (er ++ [AV.lst 1 (x.picks.map znY)])) 30 = .lst 1 (x.picks.map znY) := by
    unfold cel
    rw [List.getD_eq_getElem?_getD, List.getElem?_append_right (by omega), List.getElem?_append_right (by omega)]
    simp [er1l, rl]
  have hd12 : List.take 18 (List.drop 12 (er1 ++ (er ++ [AV.lst 1 (x.picks.map znY)]))) = er := by
    rw [← er1l, List.drop_left, ← rl, List.take_left]
  repeat first|refine wV fun _=>?_|simp [go_sem, rl, rb, er1l, er1b, hegl, hegb]
  refine zAs hG (by simp [go_sem, er1b]) ?_
  repeat first|refine wV fun _=>?_|simp [go_sem, rl, rb, er1l, er1b, hegl, hegb, hc30]
  obtain ⟨pk, hpk⟩ : ∃ pk : Nat → List Int, ∀ i, pk i = x.picks.take i := ⟨_, fun _ => rfl⟩
  have htl : ∀ i, i ≤ x.picks.length → (pk i).length = i := fun i hi => by rw [hpk]; simp; omega
  have hts : ∀ i, i < x.picks.length → pk (i + 1) = pk i ++ [nth x.picks i] := fun i hi => by rw [hpk, hpk, List.take_add_one, List.getElem?_eq_getElem hi, zaC _ _ hi]; rfl
  have hp0 : pk 0 = [] := by rw [hpk]; rfl
  rw [← hpk] at hW
  refine zAr (zAv (α := Nat) (fun i => ⟨[(1, .ref 0 0 31 0 0), (2, .ref 1 0 9 0 0), (3, .ref 2 0 5 0 0), (4, .ref 3 0 9 0 0), (5, .sl 4 i 1 0 i), (6, .v (.int .i64 i))],
      [(0, .rows true 0 31 [er1 ++ (er ++ [AV.lst 1 (x.picks.map znY)])]), (1, .rows true 0 9 [[.v (.int .i64 0), zAz, zAz, zAz, .v (.int .i64 0), .v (.bool false), zAz, .v (.int .i64 0), .v (.int .i64 0)]]),
       (2, .rows true 0 5 [[zAz, zAz, zAz, .v (.int .i64 0), .v (.int .i64 0)]]), (3, .rows true 0 9 [eg]), (4, .rows true i 1 ((pk i).map zb5))], 5⟩)
    (fun d i => i + d = min x.picks.length 6) ?_ (min x.picks.length 6) 0 ?_) ?_ ?_
  · rintro d i i1 hrec
    repeat first|refine wV fun _=>?_|simp [go_sem, rl, rb, er1l, er1b, hegl, hegb, hc30]
    refine zAt (fun hi => ?_) (fun hi => ?_) <;> simp at hi
    · have hil : i < x.picks.length := by omega
      have hki := hx.k _ (zaj hil)
      have hk0 := hki.1
      have hk1 := hki.2
      have e1 := htl i (by omega)
      have e2 := hts i hil
      repeat first|refine wV fun _=>?_|simp [go_sem, rl, er1l, hc30, hil, e1]
      refine zAr (hrec (d - 1) (by omega) (i + 1) (by omega)) ?_ (by simp)
      simp [go_sem, zaf, e2, rb, er1b, hegb]
    · have hil : i = min x.picks.length 6 := by omega
      have e1 := htl i (by omega)
      have e2 : pk i = pk 6 := by rw [hpk, hpk, hil, List.take_eq_take_iff]; omega
      rw [← e2] at hW
      repeat first|refine wV fun _=>?_|simp [go_sem, rl, rb, er1l, er1b, hegl, hegb, hd12]
      refine zAu hP (by simp [go_sem, hegb, rb]) ?_
      repeat first|refine wV fun _=>?_|simp [go_sem, rl, rb, er1l, er1b, hegl, hegb]
      refine zav.frz [.agg eg, .agg (zad (zea (zc9 x) x.p)), zap (pk i)] _ [4] [(4, some (.rows false i 1 ((pk i).map zb5)))] hW ?_ ?_ (by simp [go_sem, hegb]) ?_
      · intro p hp
        simp only [List.mem_singleton] at hp
        subst hp
        exact ⟨by simp, i, 1, _, rfl, by simp [upd]⟩
      · intro h₁ hS
        have h7 := hS 4 (by simp)
        simp [upd] at h7
        exact .cons (.refl _) (.cons (.refl _) (.cons (zas h7.symm (by simp [e1]) (by simp [zal, upd]) (by rw [List.drop_zero, List.take_of_length_le (by simp [e1])])) .nil))
      · have h6 : (x.picks.take 6).length ≤ 6 := by simp; omega
        have hw7 : w.length ≤ 7 := by omega
        have hwi : ((w.length : Int) - 1).toNat = w.length - 1 := by omega
        have hwn : w.length - 1 < w.length := by omega
        rw [hq]
        repeat first|refine wV fun _=>?_|simp [go_sem, rl, rb, er1l, er1b, hegl, hegb, hwi, hwn]
  · omega
  · simp [go_sem, zaf, rb, er1b, hegb, hp0]
  · simp
theorem ziV {x : zqW} (hx : zf8 x) : (zcI x).length = 31 := by
  obtain ⟨rl, _, _, _, _, _, rb⟩ := zrE hx.p
  simp [zcI, zc2, rl]
theorem ziU {x : zqW} (hx : zf8 x) (n : Nat) : (∀ c ∈ zcI x, Bel n c) = True := by
  obtain ⟨rl, _, _, _, _, _, rb⟩ := zrE hx.p
  refine eq_true ?_
  intro c hc
  unfold zcI at hc
  rcases List.mem_append.1 hc with h | h
  · have : (∀ c ∈ zc2 x.g, Bel n c) = True := by simp [go_sem]
    exact of_eq_true this c h
  · rcases List.mem_append.1 h with h | h
    · exact of_eq_true (rb n) c h
    · simp only [List.mem_singleton] at h
      subst h
      simp [go_sem]
def encD (D : List (List zah)) : List (List AV) := D.map fun l => [zaN l]
theorem zxi {n : Nat} {D : List (List zah)} : (∀ r ∈ encD D, ∀ c ∈ r, Bel n c) = True := by
 refine eq_true ?_
 intro r hr c hc
 obtain ⟨x, _, rfl⟩ := List.mem_map.1 hr
 simp only [List.mem_cons, List.not_mem_nil, or_false] at hc
 subst hc
 exact zb6 _
attribute [go_sem ↓] zxi
@[go_sem] theorem encD_len (D : List (List zah)) : (encD D).length = D.length := by simp [encD]
def zzp (N : Nat) (G : List (List zah)) (m : Nat) : List (List AV) := (List.range N).map fun j => if m ≤ j then [zaN (nth G j)] else [zAz]
@[go_sem] theorem backR_len (N : Nat) (G : List (List zah)) (m : Nat) : (zzp N G m).length = N := by simp [zzp]
theorem zuI {n N : Nat} {G : List (List zah)} {m : Nat} : (∀ r ∈ zzp N G m, ∀ c ∈ r, Bel n c) = True := by
 refine eq_true ?_
 intro r hr c hc
 obtain ⟨j, _, rfl⟩ := List.mem_map.1 hr
 split at hc
 ·simp only [List.mem_cons, List.not_mem_nil, or_false] at hc
  subst hc
  exact zb6 _
 ·simp only [List.mem_cons, List.not_mem_nil, or_false] at hc
  subst hc
  exact .v _
attribute [go_sem ↓] zuI
end Go.Av
end
section
open Go Go.Proofs
namespace Go.Av
section Ways
variable {g : zae} (hg : GOk g) {p : zah} (hp : POk g p)
end Ways
end Go.Av
end
section
open Go Go.Proofs
namespace Go.Av
def zbd : zae := ⟨3, [[1, 2, -1], [-1, 0, 1]], [1, 0], [⟨⟨⟨[97]⟩⟩, [[(1, 0), (3, 0)], [(1, 0), (4, 0), (6, 0)]], false⟩], 0, false, [], 3, 2⟩
def at9 (a b c side : Int) : zah := ⟨[a, b, c], [0], [0], 0, side⟩
theorem zvs : zef zbd [0] := ⟨rfl, fun i hi => by
 obtain rfl : i = 0 := by simpa using hi
 exact ⟨by decide, by decide, by decide⟩⟩
theorem zk6 (a b c side : Int) (ha : 0 ≤ a ∧ a ≤ 2) (hb : 0 ≤ b ∧ b ≤ 2) (hc : 0 ≤ c ∧ c ≤ 2) (hs : side = 0 ∨ side = 1) : POk zbd (at9 a b c side) :=
 ⟨rfl, by
  intro x hx
  simp only [at9, List.mem_cons, List.not_mem_nil, or_false] at hx
  have : (zbd.kinds.length : Int) = 1 := rfl
  rcases hx with rfl | rfl | rfl <;> omega, zvs, zvs, by simp [at9], by simp [at9, zbd], hs⟩
theorem zcB : GOk zbd := by
 refine ⟨?_, by decide, by decide, by decide, by decide, ?_, by decide, by decide, ?_, ?_, by decide, by decide, ?_, by decide, by decide, by decide⟩
 ·refine ⟨?_, ?_, ?_, ?_, ?_, ?_, ?_⟩ <;> first | decide | skip
 ·intro d hd
  have : d = 0 ∨ d = 1 := by
   have : zbd.turn.length = 2 := rfl
   omega
  rcases this with rfl | rfl <;> decide
 ·intro k hk
  simp only [zbd, List.mem_singleton] at hk
  subst hk
  decide
 ·intro k hk q hq
  simp only [zbd, List.mem_singleton] at hk
  subst hk
  simp only [List.mem_cons, List.not_mem_nil, or_false] at hq
  rcases hq with rfl | rfl
  ·refine ⟨by decide, by decide, fun x hx => ?_, by decide, by decide, by decide⟩
   simp only [List.mem_cons, List.not_mem_nil, or_false] at hx
   rcases hx with rfl | rfl <;> exact ⟨by decide, by decide, by decide, by decide, by decide⟩
  ·refine ⟨by decide, by decide, fun x hx => ?_, by decide, by decide, by decide⟩
   simp only [List.mem_cons, List.not_mem_nil, or_false] at hx
   rcases hx with rfl | rfl | rfl <;> exact ⟨by decide, by decide, by decide, by decide, by decide⟩
 ·intro c hc
  simp [zbd] at hc
theorem zqI : TinyG zbd := ⟨zcB, by decide, rfl, fun k hk => by
 simp only [zbd, List.mem_singleton] at hk
 subst hk
 rfl, by decide⟩
theorem zzN {l m : List zah} (hl : Inc l) (hm : Inc m) (h : ∀ q, q ∈ l ↔ q ∈ m) : l = m := by
 rw [← zlW hl]
 exact zd3 za7 hm h
def zmo (p : zah) (l : List zah) : Bool := (zvg zbd).all fun q => decide (p ∈ zaK zbd q) == decide (q ∈ l)
theorem zk9 {p : zah} {l : List zah} (hl : Inc l) (hok : ∀ q ∈ l, POk zbd q) (h : zmo p l = true) : zaM zbd p = l := by
 refine zzN (zc6 _ _) hl fun q => ?_
 rw [zdb zcB]
 have key : ∀ q, POk zbd q → (p ∈ zaK zbd q ↔ q ∈ l) := fun q hq => by
  have := List.all_eq_true.1 h q ((ztf zqI).2 hq)
  rw [beq_iff_eq] at this
  exact ⟨fun h => by rw [decide_eq_true h] at this; exact of_decide_eq_true this.symm, fun h => by rw [decide_eq_true h] at this; exact of_decide_eq_true this⟩
 exact ⟨fun ⟨h1, h2⟩ => (key q h1).1 h2, fun h => ⟨hok q h, (key q (hok q h)).2 h⟩⟩
theorem zzn : zmo (at9 0 2 0 0) [at9 0 0 2 1, at9 0 1 2 1] = true := by kernel_rfl
theorem zzo : zmo (at9 1 0 0 1) [] = true := by kernel_rfl
theorem zzl : zbQ zbd (at9 0 2 0 0) = ([at9 0 0 2 1, at9 0 1 2 1], 0) := by
 have : zaM zbd (at9 0 2 0 0) = [at9 0 0 2 1, at9 0 1 2 1] := zk9 (by
  refine List.Pairwise.cons (fun q hq => ?_) (List.pairwise_singleton _ _)
  simp only [List.mem_singleton] at hq
  subst hq
  decide) (fun q hq => by
  simp only [List.mem_cons, List.not_mem_nil, or_false] at hq
  rcases hq with rfl | rfl
  ·exact zk6 _ _ _ _ (by omega) (by omega) (by omega) (.inr rfl)
  ·exact zk6 _ _ _ _ (by omega) (by omega) (by omega) (.inr rfl)) zzn
 unfold zbQ
 rw [this]
 rfl
theorem zzm : zbQ zbd (at9 1 0 0 1) = ([], 0) := by
 have : zaM zbd (at9 1 0 0 1) = [] := zk9 List.Pairwise.nil (fun q hq => by cases hq) zzo
 unfold zbQ
 rw [this]
 rfl
theorem zxt : zcL zbd (at9 0 2 0 0) 0 = ([at9 0 2 0 0], 0) := zpW _ _
theorem zcK (g : zae) (hg : GOk g) (hs : zbm g) (p : zah) (hp : POk g p) : zaL Tryz.prog 31 [.agg (zac g), .agg (zad p)] (zb7 (zbQ g p)) := by
 refine pF Tryz.func31 ?_
 have hB := ztY g hg hs p hp
 generalize zbQ g p = v at *
 unfold zb7
 repeat first|refine wV fun _=>?_|simp [go_sem]
 refine zAs hB (by simp [go_sem]) ?_
 repeat first|refine wV fun _=>?_|simp [go_sem]
theorem zdE (g : zae) (hg : GOk g) (hs : zbm g) (p : zah) (hp : POk g p) (n : Int) : zaL Tryz.prog 33 [.agg (zac g), .agg (zad p), .v (.int .i64 n)] (zb7 (zcL g p n)) := by
 refine pF Tryz.func33 ?_
 have hB := zrR g hg hs p hp n
 generalize zcL g p n = v at *
 unfold zb7
 repeat first|refine wV fun _=>?_|simp [go_sem]
 refine zAs hB (by simp [go_sem]) ?_
 repeat first|refine wV fun _=>?_|simp [go_sem]
theorem zw9 (a b c s : Int) : zaL Tryz.prog 82 [.v (.int .i64 a), .v (.int .i64 b), .v (.int .i64 c), .v (.int .i64 s)] (.agg (zad (at9 a b c s))) := by
 refine pF Tryz.func82 ?_
 unfold at9
 repeat first|refine wV fun _=>?_|simp [go_sem]
 refine ⟨?_, ?_, ?_⟩ <;> refine LeV.frz rfl (by simp) (by simp [noH, upd]) ?_ <;> exact .refl _
theorem zeO (g : zae) (hg : GOk g) (hs : zbm g) : zaL Tryz.prog 29 [.agg (zac g)] (.v (.bool (decide (zek (zbE g) ≤ 300)))) := by
 refine pF Tryz.func29 ?_
 have hC := zgG g hg
 have hF := zjB hg
 have hcnt := zu0 hg hs
 have hk6 := hg.k6
 have hc9 := hg.c9
 have hc1 := hg.c1
 have hN := zo6 (zbE g) (by omega) (by rw [hF.sh.l1]; omega) (by rw [hF.sh.l2]; omega) (fun y hy => by
  rcases List.mem_append.1 hy with h | h
  ·have := hF.sh.c1 y h; omega
  ·have := hF.sh.c2 y h; omega)
 have hgb : ∀ n, (∀ c ∈ zac g, Bel n c) = True := fun n => by simp [go_sem]
 obtain ⟨eg, heg⟩ : ∃ eg, eg = zac g := ⟨_, rfl⟩
 have hel : eg.length = 9 := by rw [heg]; rfl
 rw [← heg] at hC hgb ⊢
 clear heg
 have hecl : (zbg (zbE g)).length = 2 := rfl
 have hecb : ∀ n, (∀ c ∈ zbg (zbE g), Bel n c) = True := fun n => by simp [go_sem]
 generalize zbg (zbE g) = ec at *
 repeat first|refine wV fun _=>?_|simp [go_sem, hel]
 refine zAs hC (by simp [go_sem, hgb]) ?_
 repeat first|refine wV fun _=>?_|simp [go_sem, hel, hecl]
 refine zAs hN (by simp [go_sem, hecb]) ?_
 have e : decide ((zek (zbE g) : Int) ≤ 300) = decide (zek (zbE g) ≤ 300) := by
  refine decide_eq_decide.2 ?_; omega
 repeat first|refine wV fun _=>?_|simp [go_sem, e]
theorem zd2 : zbm zbd := by
 intro k hk p hp
 simp only [zbd, List.mem_singleton] at hk
 subst hk
 simp only [List.mem_cons, List.not_mem_nil, or_false] at hp
 rcases hp with rfl | rfl <;> decide
theorem zd1 : zaL Tryz.prog 27 [] (.v (.bool true)) := by
 refine pF Tryz.func27 ?_
 have hA := fun a b c s => zw9 a b c s
 have k1 := zk6 0 2 0 0 (by decide) (by decide) (by decide) (by decide)
 have k2 := zk6 1 0 0 1 (by decide) (by decide) (by decide) (by decide)
 have hB1 := zcK zbd zcB zd2 _ k1
 rw [zzl] at hB1
 have hB2 := zcK zbd zcB zd2 _ k2
 rw [zzm] at hB2
 have hC0 := zdE zbd zcB zd2 _ k1 0
 rw [zxt] at hC0
 have hCm := zdE zbd zcB zd2 _ k1 (-1)
 have em : zcL zbd (at9 0 2 0 0) (-1) = ([], 1) := rfl
 rw [em] at hCm
 have f1 := (zk6 0 0 2 1 (by decide) (by decide) (by decide) (by decide)).fits zcB
 have f2 := (zk6 0 1 2 1 (by decide) (by decide) (by decide) (by decide)).fits zcB
 have hS1 := zfK ([at9 0 0 2 1, at9 0 1 2 1], 0) ([at9 0 0 2 1, at9 0 1 2 1], 0) (by simp) (by simp) (by simp; exact ⟨f1, f2⟩) (by simp; exact ⟨f1, f2⟩)
 have hS2 := zfK ([], 0) ([], 0) (by simp) (by simp) (by simp) (by simp)
 have hS3 := zfK ([at9 0 2 0 0], 0) ([at9 0 2 0 0], 0) (by simp) (by simp) (by simp; exact k1.fits zcB) (by simp; exact k1.fits zcB)
 rw [show ∀ z : List zah × Int, decide (z = z) = true from fun z => decide_eq_true rfl] at hS1 hS2 hS3
 have hgs : ∀ n, (∀ c ∈ zac zbd, Bel n c) = True := fun n => by simp [go_sem]
 obtain ⟨pa, hpa⟩ : ∃ pa, pa = at9 0 2 0 0 := ⟨_, rfl⟩
 obtain ⟨pb, hpb⟩ : ∃ pb, pb = at9 1 0 0 1 := ⟨_, rfl⟩
 obtain ⟨pc, hpc⟩ : ∃ pc, pc = at9 0 0 2 1 := ⟨_, rfl⟩
 obtain ⟨pd, hpd⟩ : ∃ pd, pd = at9 0 1 2 1 := ⟨_, rfl⟩
 have a1 := hA 0 2 0 0
 have a2 := hA 1 0 0 1
 have a3 := hA 0 0 2 1
 have a4 := hA 0 1 2 1
 rw [← hpa] at a1 hB1 hC0 hCm hS3
 rw [← hpb] at a2 hB2
 rw [← hpc] at a3 hB1 hS1
 rw [← hpd] at a4 hB1 hS1
 simp only [zb7] at hB1 hB2 hC0 hCm
 clear hA hpa hpb hpc hpd
 (repeat (first|with_reducible (first|refine wL fun _=>?_|refine wD fun _=>?_|refine wE ?_)|simp [go_sem]))
 refine znq.frz (za5 _ [0, 1, 2, 3, 4, 5, 6, 7]) (zcU _ _) ?_
 repeat first|refine wV fun _=>?_|simp [go_sem]
 refine zAu a1 (by simp [go_sem]) ?_
 repeat first|refine wV fun _=>?_|simp [go_sem]
 refine zav.frz [.agg (zac zbd), .agg (zad pa)] _ [0, 1, 2, 3, 4, 5, 6, 7] [] hB1 (by simp) ?_ (by simp [go_sem, hgs]) ?_
 ·intro h₁ hS
  have h0 := (hS 0 (by simp)).symm
  have h1 := (hS 1 (by simp)).symm
  have h2 := (hS 2 (by simp)).symm
  have h3 := (hS 3 (by simp)).symm
  have h4 := (hS 4 (by simp)).symm
  have h5 := (hS 5 (by simp)).symm
  have h6 := (hS 6 (by simp)).symm
  have h7 := (hS 7 (by simp)).symm
  clear hS
  simp [upd, za5, zbb] at h0 h1 h2 h3 h4 h5 h6 h7
  simp only [zbd, zac, zcg, zap, zaS, zau, zaA, zb5, List.map_cons, List.map_nil]
  ((try simp only [zau, zaA, zaQ, zbj, zaq, zbe, zay, zan, zad, zbI, za0, zaN, zap, zac, List.map_cons, List.map_nil, List.nil_append, List.append_nil, List.cons_append]); (repeat (first | (with_reducible first|exact zam.nil|exact zai.nil|exact LeV.refl _|exact zam.refl _ _ _ _|exact zai.refl _|refine zam.cons ?_ ?_|refine zai.cons ?_ ?_|refine LeV.agg ?_|refine LeV.tup ?_|refine LeV.fn ?_ ?_|exact LeV.nil _|refine zak (zai.refl _) ?_) | ((refine zas (by first | rfl | assumption) (by simp [h0, h1, h2, h3, h4, h5, h6, h7]) (by simp [za5, zbb, upd, noH, zal, h0, h1, h2, h3, h4, h5, h6, h7]) ?_); (first | (simp [go_sem, h0, h1, h2, h3, h4, h5, h6, h7]; done) | (simp [go_sem, h0, h1, h2, h3, h4, h5, h6, h7]; exact List.take_of_length_le (by simp [h0, h1, h2, h3, h4, h5, h6, h7])))) | ((refine LeV.frz (by first | rfl | assumption) (by simp [h0, h1, h2, h3, h4, h5, h6, h7]) (by simp [za5, zbb, upd, noH, zal, h0, h1, h2, h3, h4, h5, h6, h7]) ?_); (simp only [List.drop_zero, List.take_succ_cons, List.take_zero, List.map_cons, List.map_nil])) | ((refine LeV.frzP (by first | rfl | assumption) (by simp [h0, h1, h2, h3, h4, h5, h6, h7]) (by simp) (by simp [za5, zbb, upd, noH, zal, h0, h1, h2, h3, h4, h5, h6, h7]) ?_); (simp only [zaP, List.drop_zero])))))
 repeat first|refine wV fun _=>?_|simp [go_sem]
 refine zAu a2 (by simp [go_sem]) ?_
 repeat first|refine wV fun _=>?_|simp [go_sem]
 refine zav.frz [.agg (zac zbd), .agg (zad pb)] _ [0, 1, 2, 3, 4, 5, 6, 7] [] hB2 (by simp) ?_ (by simp [go_sem, hgs]) ?_
 ·intro h₁ hS
  have h0 := (hS 0 (by simp)).symm
  have h1 := (hS 1 (by simp)).symm
  have h2 := (hS 2 (by simp)).symm
  have h3 := (hS 3 (by simp)).symm
  have h4 := (hS 4 (by simp)).symm
  have h5 := (hS 5 (by simp)).symm
  have h6 := (hS 6 (by simp)).symm
  have h7 := (hS 7 (by simp)).symm
  clear hS
  simp [upd, za5, zbb] at h0 h1 h2 h3 h4 h5 h6 h7
  simp only [zbd, zac, zcg, zap, zaS, zau, zaA, zb5, List.map_cons, List.map_nil]
  ((try simp only [zau, zaA, zaQ, zbj, zaq, zbe, zay, zan, zad, zbI, za0, zaN, zap, zac, List.map_cons, List.map_nil, List.nil_append, List.append_nil, List.cons_append]); (repeat (first | (with_reducible first|exact zam.nil|exact zai.nil|exact LeV.refl _|exact zam.refl _ _ _ _|exact zai.refl _|refine zam.cons ?_ ?_|refine zai.cons ?_ ?_|refine LeV.agg ?_|refine LeV.tup ?_|refine LeV.fn ?_ ?_|exact LeV.nil _|refine zak (zai.refl _) ?_) | ((refine zas (by first | rfl | assumption) (by simp [h0, h1, h2, h3, h4, h5, h6, h7]) (by simp [za5, zbb, upd, noH, zal, h0, h1, h2, h3, h4, h5, h6, h7]) ?_); (first | (simp [go_sem, h0, h1, h2, h3, h4, h5, h6, h7]; done) | (simp [go_sem, h0, h1, h2, h3, h4, h5, h6, h7]; exact List.take_of_length_le (by simp [h0, h1, h2, h3, h4, h5, h6, h7])))) | ((refine LeV.frz (by first | rfl | assumption) (by simp [h0, h1, h2, h3, h4, h5, h6, h7]) (by simp [za5, zbb, upd, noH, zal, h0, h1, h2, h3, h4, h5, h6, h7]) ?_); (simp only [List.drop_zero, List.take_succ_cons, List.take_zero, List.map_cons, List.map_nil])) | ((refine LeV.frzP (by first | rfl | assumption) (by simp [h0, h1, h2, h3, h4, h5, h6, h7]) (by simp) (by simp [za5, zbb, upd, noH, zal, h0, h1, h2, h3, h4, h5, h6, h7]) ?_); (simp only [zaP, List.drop_zero])))))
 repeat first|refine wV fun _=>?_|simp [go_sem]
 refine zAu a1 (by simp [go_sem]) ?_
 repeat first|refine wV fun _=>?_|simp [go_sem]
 refine zav.frz [.agg (zac zbd), .agg (zad pa), .v (.int .i64 0)] _ [0, 1, 2, 3, 4, 5, 6, 7] [] hC0 (by simp) ?_ (by simp [go_sem, hgs]) ?_
 ·intro h₁ hS
  have h0 := (hS 0 (by simp)).symm
  have h1 := (hS 1 (by simp)).symm
  have h2 := (hS 2 (by simp)).symm
  have h3 := (hS 3 (by simp)).symm
  have h4 := (hS 4 (by simp)).symm
  have h5 := (hS 5 (by simp)).symm
  have h6 := (hS 6 (by simp)).symm
  have h7 := (hS 7 (by simp)).symm
  clear hS
  simp [upd, za5, zbb] at h0 h1 h2 h3 h4 h5 h6 h7
  simp only [zbd, zac, zcg, zap, zaS, zau, zaA, zb5, List.map_cons, List.map_nil]
  ((try simp only [zau, zaA, zaQ, zbj, zaq, zbe, zay, zan, zad, zbI, za0, zaN, zap, zac, List.map_cons, List.map_nil, List.nil_append, List.append_nil, List.cons_append]); (repeat (first | (with_reducible first|exact zam.nil|exact zai.nil|exact LeV.refl _|exact zam.refl _ _ _ _|exact zai.refl _|refine zam.cons ?_ ?_|refine zai.cons ?_ ?_|refine LeV.agg ?_|refine LeV.tup ?_|refine LeV.fn ?_ ?_|exact LeV.nil _|refine zak (zai.refl _) ?_) | ((refine zas (by first | rfl | assumption) (by simp [h0, h1, h2, h3, h4, h5, h6, h7]) (by simp [za5, zbb, upd, noH, zal, h0, h1, h2, h3, h4, h5, h6, h7]) ?_); (first | (simp [go_sem, h0, h1, h2, h3, h4, h5, h6, h7]; done) | (simp [go_sem, h0, h1, h2, h3, h4, h5, h6, h7]; exact List.take_of_length_le (by simp [h0, h1, h2, h3, h4, h5, h6, h7])))) | ((refine LeV.frz (by first | rfl | assumption) (by simp [h0, h1, h2, h3, h4, h5, h6, h7]) (by simp [za5, zbb, upd, noH, zal, h0, h1, h2, h3, h4, h5, h6, h7]) ?_); (simp only [List.drop_zero, List.take_succ_cons, List.take_zero, List.map_cons, List.map_nil])) | ((refine LeV.frzP (by first | rfl | assumption) (by simp [h0, h1, h2, h3, h4, h5, h6, h7]) (by simp) (by simp [za5, zbb, upd, noH, zal, h0, h1, h2, h3, h4, h5, h6, h7]) ?_); (simp only [zaP, List.drop_zero])))))
 repeat first|refine wV fun _=>?_|simp [go_sem]
 refine zAu a3 (by simp [go_sem]) ?_
 repeat first|refine wV fun _=>?_|simp [go_sem]
 refine zAu a4 (by simp [go_sem]) ?_
 repeat first|refine wV fun _=>?_|simp [go_sem]
 refine zA5 [zb7 ([pc, pd], 0), zb7 ([pc, pd], 0)] (.v (.bool true)) [27] hS1 (.v _) ?_ (by simp [go_sem, zb7]) ?_
 ·intro h₁ hS
  have h27 := (hS 27 (by simp)).symm
  simp [upd, za5, zbb] at h27
  simp only [zb7]
  ((try simp only [zau, zaA, zaQ, zbj, zaq, zbe, zay, zan, zad, zbI, za0, zaN, zap, zac, List.map_cons, List.map_nil, List.nil_append, List.append_nil, List.cons_append]); (repeat (first | (with_reducible first|exact zam.nil|exact zai.nil|exact LeV.refl _|exact zam.refl _ _ _ _|exact zai.refl _|refine zam.cons ?_ ?_|refine zai.cons ?_ ?_|refine LeV.agg ?_|refine LeV.tup ?_|refine LeV.fn ?_ ?_|exact LeV.nil _|refine zak (zai.refl _) ?_) | ((refine zas (by first | rfl | assumption) (by simp [h27]) (by simp [za5, zbb, upd, noH, zal, h27]) ?_); (first | (simp [go_sem, h27]; done) | (simp [go_sem, h27]; exact List.take_of_length_le (by simp [h27])))) | ((refine LeV.frz (by first | rfl | assumption) (by simp [h27]) (by simp [za5, zbb, upd, noH, zal, h27]) ?_); (simp only [List.drop_zero, List.take_succ_cons, List.take_zero, List.map_cons, List.map_nil])) | ((refine LeV.frzP (by first | rfl | assumption) (by simp [h27]) (by simp) (by simp [za5, zbb, upd, noH, zal, h27]) ?_); (simp only [zaP, List.drop_zero])))))
 repeat first|refine wV fun _=>?_|simp [go_sem]
 refine zAY [zb7 ([], 0), zb7 ([], 0)] (.v (.bool true)) [] (fun _ => hS2) (.v _) ?_ (by simp [go_sem, zb7]) ?_
 ·intro h₁ hS
  simp only [zb7]
  (first|done|exact leX)
 repeat first|refine wV fun _=>?_|simp [go_sem]
 refine zAD _ (fun _ => a1) (by simp [go_sem]) ?_
 repeat first|refine wV fun _=>?_|simp [go_sem]
 refine zAY [zb7 ([pa], 0), zb7 ([pa], 0)] (.v (.bool true)) [38] (fun _ => hS3) (.v _) ?_ (by simp [go_sem, zb7]) ?_
 ·intro h₁ hS
  have h38 := (hS 38 (by simp)).symm
  simp [upd, za5, zbb] at h38
  simp only [zb7]
  ((try simp only [zau, zaA, zaQ, zbj, zaq, zbe, zay, zan, zad, zbI, za0, zaN, zap, zac, List.map_cons, List.map_nil, List.nil_append, List.append_nil, List.cons_append]); (repeat (first | (with_reducible first|exact zam.nil|exact zai.nil|exact LeV.refl _|exact zam.refl _ _ _ _|exact zai.refl _|refine zam.cons ?_ ?_|refine zai.cons ?_ ?_|refine LeV.agg ?_|refine LeV.tup ?_|refine LeV.fn ?_ ?_|exact LeV.nil _|refine zak (zai.refl _) ?_) | ((refine zas (by first | rfl | assumption) (by simp [h38]) (by simp [za5, zbb, upd, noH, zal, h38]) ?_); (first | (simp [go_sem, h38]; done) | (simp [go_sem, h38]; exact List.take_of_length_le (by simp [h38])))) | ((refine LeV.frz (by first | rfl | assumption) (by simp [h38]) (by simp [za5, zbb, upd, noH, zal, h38]) ?_); (simp only [List.drop_zero, List.take_succ_cons, List.take_zero, List.map_cons, List.map_nil])) | ((refine LeV.frzP (by first | rfl | assumption) (by simp [h38]) (by simp) (by simp [za5, zbb, upd, noH, zal, h38]) ?_); (simp only [zaP, List.drop_zero])))))
 repeat first|refine wV fun _=>?_|simp [go_sem]
 refine zAD _ (fun _ => a1) (by simp [go_sem]) ?_
 repeat first|refine wV fun _=>?_|simp [go_sem]
 refine dGC.frz [.agg (zac zbd), .agg (zad pa), .v (.int .i64 (-1))] _ [0, 1, 2, 3, 4, 5, 6, 7] [] hCm (by simp) ?_ (by simp [go_sem, hgs]) ?_
 ·intro h₁ hS
  have h0 := (hS 0 (by simp)).symm
  have h1 := (hS 1 (by simp)).symm
  have h2 := (hS 2 (by simp)).symm
  have h3 := (hS 3 (by simp)).symm
  have h4 := (hS 4 (by simp)).symm
  have h5 := (hS 5 (by simp)).symm
  have h6 := (hS 6 (by simp)).symm
  have h7 := (hS 7 (by simp)).symm
  clear hS
  simp [upd, za5, zbb] at h0 h1 h2 h3 h4 h5 h6 h7
  simp only [zbd, zac, zcg, zap, zaS, zau, zaA, zb5, List.map_cons, List.map_nil]
  ((try simp only [zau, zaA, zaQ, zbj, zaq, zbe, zay, zan, zad, zbI, za0, zaN, zap, zac, List.map_cons, List.map_nil, List.nil_append, List.append_nil, List.cons_append]); (repeat (first | (with_reducible first|exact zam.nil|exact zai.nil|exact LeV.refl _|exact zam.refl _ _ _ _|exact zai.refl _|refine zam.cons ?_ ?_|refine zai.cons ?_ ?_|refine LeV.agg ?_|refine LeV.tup ?_|refine LeV.fn ?_ ?_|exact LeV.nil _|refine zak (zai.refl _) ?_) | ((refine zas (by first | rfl | assumption) (by simp [h0, h1, h2, h3, h4, h5, h6, h7]) (by simp [za5, zbb, upd, noH, zal, h0, h1, h2, h3, h4, h5, h6, h7]) ?_); (first | (simp [go_sem, h0, h1, h2, h3, h4, h5, h6, h7]; done) | (simp [go_sem, h0, h1, h2, h3, h4, h5, h6, h7]; exact List.take_of_length_le (by simp [h0, h1, h2, h3, h4, h5, h6, h7])))) | ((refine LeV.frz (by first | rfl | assumption) (by simp [h0, h1, h2, h3, h4, h5, h6, h7]) (by simp [za5, zbb, upd, noH, zal, h0, h1, h2, h3, h4, h5, h6, h7]) ?_); (simp only [List.drop_zero, List.take_succ_cons, List.take_zero, List.map_cons, List.map_nil])) | ((refine LeV.frzP (by first | rfl | assumption) (by simp [h0, h1, h2, h3, h4, h5, h6, h7]) (by simp) (by simp [za5, zbb, upd, noH, zal, h0, h1, h2, h3, h4, h5, h6, h7]) ?_); (simp only [zaP, List.drop_zero])))))
 repeat first|refine wV fun _=>?_|simp [go_sem]
theorem zyo {P : Program} {t : TypeId} {fn : Fn} {first caps : Array Value} {l : List UInt8} (hl : l ≠ []) (h : funcToken P (t, .func fn first caps) = l) :
  ∃ f F, fn = .func f ∧ first = #[] ∧ caps = #[] ∧ P.funcs[f]? = some F ∧ P.funcNamed F.name = some f ∧ F.name.toUTF8.data.toList = l := by
 unfold funcToken at h
 cases fn with
 | func f =>
  simp only at h
  split at h
  ·rename_i hc
   simp only [Bool.and_eq_true, Array.isEmpty_iff] at hc
   split at h
   ·rename_i F hF
    split at h
    ·rename_i hn
     exact ⟨f, F, rfl, hc.1, hc.2, hF, by simpa using hn, h⟩
    ·exact absurd h.symm hl
   ·exact absurd h.symm hl
  ·exact absurd h.symm hl
 | _ => exact absurd h.symm hl
theorem zqM {P : Program} {w : World} {sp : Nat → Bool} {fuel : Nat} {e : TypeId} {d : TypeDesc} {v : Value} {l : List UInt8} {q : List MemPlace} (hd : P.underlying e = some d) (hf : ∃ a b c, d = .func a b c) (h : DataW.trod (funcToken P) P w 0 sp true fuel e [v] = some (.held l, q)) :
  ∃ fn first caps, v = .func fn first caps ∧ funcToken P (e, .func fn first caps) = l := by
 obtain ⟨a, b, c, rfl⟩ := hf
 cases fuel with
 | zero => simp [DataW.trod] at h
 | succ fuel =>
  simp only [DataW.trod, hd] at h
  cases v <;> simp at h
  exact ⟨_, _, _, rfl, h.1⟩
theorem zwt {P : Program} {w : World} {sp : Nat → Bool} {fuel : Nat} {e : TypeId} {d : TypeDesc} {v : Value} {q : List MemPlace} (hd : P.underlying e = some d) (hf : ∃ a b c, d = .func a b c) (h : DataW.trod (funcToken P) P w 0 sp true fuel e [v] = some (.nil, q)) : v = .nilFunc := by
 obtain ⟨a, b, c, rfl⟩ := hf
 cases fuel with
 | zero => simp [DataW.trod] at h
 | succ fuel =>
  simp only [DataW.trod, hd] at h
  cases v <;> simp at h
  rfl
theorem zsH {a b : String} (h : a.toUTF8.data.toList = b.toUTF8.data.toList) : a = b := by
 have h1 : a.toUTF8 = b.toUTF8 := ByteArray.ext (Array.toList_inj.1 h)
 exact String.toByteArray_inj.1 h1
theorem zmG {n : String} {k : FuncId} {l : List UInt8} {t : TypeId} {fn : Fn} {first caps : Array Value} (hk : Tryz.prog.funcNamed n = some k) (hl : n.toUTF8.data.toList = l) (hne : l ≠ []) (h : funcToken Tryz.prog (t, .func fn first caps) = l) : fn = .func k ∧ first = #[] ∧ caps = #[] := by
 obtain ⟨f, F, h1, h2, h3, h4, h5, h6⟩ := zyo hne h
 have e : F.name = n := zsH (h6.trans hl.symm)
 rw [e, hk] at h5
 cases h5
 exact ⟨h1, h2, h3⟩
def zfh : DataW Unit := .agg [.nil, .iface "func" (.lit (.string [115, 107, 101, 119, 101, 114, 47, 112, 108, 97, 121, 46, 99, 111, 110, 100, 105, 116, 105, 111, 110, 115, 36, 49])), .iface "func" (.lit (.string [115, 107, 101, 119, 101, 114, 47, 112, 108, 97, 121, 46, 99, 111, 110, 100, 105, 116, 105, 111, 110, 115, 36, 50])), .iface "func" (.lit (.string [115, 107, 101, 119, 101, 114, 47, 112, 108, 97, 121, 46, 99, 111, 110, 100, 105, 116, 105, 111, 110, 115, 36, 51]))]
theorem zpY {W : World} (h : funcsAt Tryz.prog W "skewer/play.conditions" zfh) :
  ∃ cs T fz, W.heap[0]? = some (.cells cs T fz) ∧ cs.toList = [.nilFunc, .func (.func 359) #[] #[], .func (.func 361) #[] #[], .func (.func 362) #[] #[]] := by
 obtain ⟨g, t, cs, fuel, p, hg, ht, hcs, htr⟩ := h
 obtain rfl : g = 0 := (Option.some.inj ((show Tryz.prog.globalNamed "skewer/play.conditions" = some 0 by kernel_rfl).symm.trans hg)).symm
 obtain rfl : t = 198 := (Option.some.inj ((show (Tryz.prog.globals[0]?).map (·.type) = some 198 by kernel_rfl).symm.trans ht)).symm
 have hu : Tryz.prog.underlying 198 = some (.array 4 197) := by kernel_rfl
 have hc1 : Tryz.prog.cellsOf 197 = 1 := by kernel_rfl
 have hc4 : Tryz.prog.cellsOf 198 = 4 := by kernel_rfl
 have hheap : ∃ T fz, W.heap[0]? = some (.cells cs T fz) := by
  unfold World.var? at hcs
  rw [show Tryz.prog.globalNamed "skewer/play.conditions" = some 0 by kernel_rfl] at hcs
  simp only [Option.bind_some] at hcs
  split at hcs
  ·rename_i c T fz hb
   cases hcs
   exact ⟨T, fz, hb⟩
  ·cases hcs
 obtain ⟨T, fz, hb⟩ := hheap
 refine ⟨cs, T, fz, hb, ?_⟩
 cases fuel with
 | zero => simp [DataW.trod] at htr
 | succ fuel =>
  simp only [DataW.trod, hu, hc1, hc4, Nat.mul_one] at htr
  split at htr
  ·rename_i hl
   match hcl : cs.toList, hl with
   | [a, b, c, d], _ =>
    rw [hcl] at htr
    obtain ⟨xs, hm, hx⟩ := Option.map_eq_some_iff.1 htr
    simp only [show List.range 4 = [0, 1, 2, 3] from rfl, List.mapM_cons, List.mapM_nil, List.drop_zero, List.drop_succ_cons, List.take_succ_cons, List.take_zero, Option.bind_eq_bind, Option.bind_eq_some_iff, Option.pure_def, Option.some.injEq] at hm
    obtain ⟨⟨y0, q0⟩, h0, l1, ⟨⟨y1, q1⟩, h1, l2, ⟨⟨y2, q2⟩, h2, l3, ⟨⟨y3, q3⟩, h3, l4, rfl, rfl⟩, rfl⟩, rfl⟩, rfl⟩ := hm
    have hx1 := congrArg Prod.fst hx
    simp only [zfh, DataW.funcsOut, DataW.funcsOutAll, List.map_cons, List.map_nil, DataW.agg.injEq, List.cons.injEq, and_true] at hx1
    simp at hx1
    obtain ⟨rfl, rfl, rfl, rfl⟩ := hx1
    have hd : Tryz.prog.underlying 197 = some (.func #[39, 45, 75] #[4] false) := by kernel_rfl
    have hf : ∃ a b c, TypeDesc.func #[39, 45, 75] #[4] false = .func a b c := ⟨_, _, _, rfl⟩
    obtain rfl := zwt hd hf h0
    obtain ⟨f1, i1, c1, rfl, t1⟩ := zqM hd hf h1
    obtain ⟨f2, i2, c2, rfl, t2⟩ := zqM hd hf h2
    obtain ⟨f3, i3, c3, rfl, t3⟩ := zqM hd hf h3
    obtain ⟨rfl, rfl, rfl⟩ := zmG (n := "skewer/play.conditions$1") (k := 359) (by kernel_rfl) (by decide +kernel) (by simp) t1
    obtain ⟨rfl, rfl, rfl⟩ := zmG (n := "skewer/play.conditions$2") (k := 361) (by kernel_rfl) (by decide +kernel) (by simp) t2
    obtain ⟨rfl, rfl, rfl⟩ := zmG (n := "skewer/play.conditions$3") (k := 362) (by kernel_rfl) (by decide +kernel) (by simp) t3
    rfl
  ·cases htr
theorem zbY {W : World} (h : funcsAt Tryz.prog W "skewer/play.conditions" zfh) : zhl W (fun _ => False) := by
 obtain ⟨cs, T, fz, hb, hcs⟩ := zpY h
 have hsz : cs.size = 4 := by rw [← Array.length_toList, hcs]; rfl
 intro q hq
 have e : q = (0, [AV.v .nilFunc, .fn (.func 359) [] [], .fn (.func 361) [] [], .fn (.func 362) [] []]) := by simpa [glbs] using hq
 subst e
 refine Rel.fp (C := cs) (T := T) (fz := fz) rfl (fun h => h) hb (by simp [hsz]) ?_ ?_
 ·intro u hu
  simp only [hcs, List.drop_zero] at hu
  simp at hu
  rcases hu with rfl | rfl | rfl | rfl <;> rfl
 ·simp only [hcs, List.drop_zero]
  exact .cons (.v _) (.cons (.fn .nil .nil) (.cons (.fn .nil .nil) (.cons (.fn .nil .nil) .nil)))
end Go.Av
end
section
open Go Go.Proofs Go.Av Go.ChangeShapes Go.RowKit
namespace Go.Proofs.YtedhfmmlhfmomaaGreatDoor
theorem zdT : ownKnob Tryz.prog.godebug = none := by kernel_rfl
theorem zfi : laidOutB Tryz.prog = true := by kernel_rfl
abbrev zxD : List (String × DataW Unit) := [("math/bits.deBruijn32tab", Rows.laid_math_bits_deBruijn32tab), ("math/bits.deBruijn64tab", Rows.laid_math_bits_deBruijn64tab), ("internal/strconv.uint64pow10", Rows.laid_internal_strconv_uint64pow10), ("skewer/play.conditions", Rows.laid_skewer_play_conditions)]
theorem zdS (os : Os) (args : Array Value) : laidMetH Tryz.prog zxD ((World.doorLaid Tryz.prog 29 os).forCall (fun _ _ => 0) ⟨#[], args, []⟩).memory :=
 laidMetH_of_parts3 (fuel := 8) (laidMet_of_run' 8 (by kernel_rfl) (by kernel_rfl)) (by kernel_rfl) (by kernel_rfl)
theorem zdg (os : Os) (args : Array Value) : ((World.doorLaid Tryz.prog 29 os).forCall (fun _ _ => 0) ⟨#[], args, []⟩).variablesB Tryz.prog = true := by kernel_rfl
theorem zdf (os : Os) (args : Array Value) : (((World.doorLaid Tryz.prog 29 os).forCall (fun _ _ => 0) ⟨#[], args, []⟩).heap.toList.drop Tryz.prog.globals.size).take ((begin Tryz.prog (fun _ _ => 0) default).world.heap.size - Tryz.prog.globals.size) =
  (begin Tryz.prog (fun _ _ => 0) default).world.heap.toList.drop Tryz.prog.globals.size := by kernel_rfl
end Go.Proofs.YtedhfmmlhfmomaaGreatDoor
end
section
/- Our library, part 14: arguments, as the statements read them, are values of the abstract domain. -/
namespace Go.Av
open Go

abbrev NoM : Nat → Prop := fun _ => False

structure zlZ (B : Nat) (bk : ∀ {H : Type}, DataW H → Nat) : Prop where
 len : ∀ {H : Type} (l r : List (DataW H)), bk (.slice l r) ≤ B → l.length ≤ maxLen → l.length ≤ B
 elem : ∀ {H : Type} (l r : List (DataW H)) d, d ∈ l → bk (.slice l r) ≤ B → bk d ≤ B
 part : ∀ {H : Type} (l : List (DataW H)) d, d ∈ l → bk (.agg l) ≤ B → bk d ≤ B
 str : ∀ {H : Type} (l : List UInt8), bk (DataW.lit (H := H) (.string l)) ≤ B → l.length ≤ maxLen → l.length ≤ B

theorem zlZ.any : zlZ maxLen (fun _ => 0) := ⟨fun _ _ _ h => h, fun _ _ _ _ _ => Nat.zero_le _, fun _ _ _ _ => Nat.zero_le _, fun _ _ h => h⟩

def Opn (P : Program) (B : Nat) (bk : ∀ {H : Type}, DataW H → Nat) {α : Type} (t : TypeId) (en : α → List AV) (Q : α → Prop) : Prop :=
 ∀ {H : Type} (enc : TypeId × Value → H) (w : World) (fuel : Nat) (cs : List Value) (d : DataW H) (ps : List MemPlace),
  DataW.trod enc P w 0 (fun _ => true) true fuel t cs = some (d, ps) → bk d ≤ B → ∃ x, zaI noP w NoM (en x) cs ∧ (∀ c ∈ cs, zcd c = true) ∧ cs.length = P.cellsOf t ∧ Q x

section
variable {P : Program} {B : Nat} {bk : ∀ {H : Type}, DataW H → Nat}
theorem Opn.int {t : TypeId} {k : IntKind} (ht : P.underlying t = some (.int k)) (hc : P.cellsOf t = 1) : Opn P B bk t (fun n : Int => [.v (.int k n)]) (fun n => (Lit.int k n).wf = true) := by
 intro H enc w fuel cs d ps h _
 obtain ⟨n, rfl, _, hw⟩ := DataW.trod_int ht h
 exact ⟨n, .cons (.v _) .nil, by simp [zcd, Value.oneCell'], by simp [hc], hw⟩
theorem Opn.bool {t : TypeId} (ht : P.underlying t = some .bool) (hc : P.cellsOf t = 1) : Opn P B bk t (fun b : Bool => [.v (.bool b)]) (fun _ => True) := by
 intro H enc w fuel cs d ps h _
 obtain ⟨n, rfl, _⟩ := DataW.trod_bool ht h
 exact ⟨n, .cons (.v _) .nil, by simp [zcd, Value.oneCell'], by simp [hc], trivial⟩
theorem Opn.string {t : TypeId} (hB : zlZ B bk) (ht : P.underlying t = some .string) (hc : P.cellsOf t = 1) : Opn P B bk t (fun s : ByteArray => [.v (.string s)]) (fun s => s.size ≤ B) := by
 intro H enc w fuel cs d ps h hb
 obtain ⟨n, rfl, hx, hm⟩ := DataW.trod_string ht h
 simp only [Prod.mk.injEq] at hx
 obtain ⟨rfl, _⟩ := hx
 refine ⟨n, .cons (.v _) .nil, by simp [zcd, Value.oneCell'], by simp [hc], ?_⟩
 have := hB.str _ hb (by simpa using hm)
 simpa using this
theorem Opn.imp {α : Type} {t : TypeId} {en : α → List AV} {Q Q' : α → Prop} (h : Opn P B bk t en Q) (hq : ∀ x, Q x → Q' x) : Opn P B bk t en Q' := by
 intro H enc w fuel cs d ps h1 h2
 obtain ⟨x, a, b, c, e⟩ := h enc w fuel cs d ps h1 h2
 exact ⟨x, a, b, c, hq x e⟩
theorem Opn.map {α β : Type} {t : TypeId} {en : α → List AV} {en' : β → List AV} {Q : α → Prop} {Q' : β → Prop} (h : Opn P B bk t en Q) (f : α → β) (hq : ∀ x, Q x → Q' (f x)) (he : ∀ x, Q x → en' (f x) = en x) : Opn P B bk t en' Q' := by
 intro H enc w fuel cs d ps h1 h2
 obtain ⟨x, a, b, c, e⟩ := h enc w fuel cs d ps h1 h2
 exact ⟨f x, by rw [he x e]; exact a, b, c, hq x e⟩
theorem zhs {w : World} {a : Addr} {n : Nat} {cs : List Value} (h : w.cells? 0 a n = some cs) : cs.length = n ∧ ∀ i, i < n → w.cell? (a.add i) = cs[i]? := by
 unfold World.cells? at h
 rw [if_pos (Nat.zero_le _)] at h
 exact ⟨by simpa using mapM_some_length h, fun i hi => mapM_some_get h i i (by simp [hi])⟩
theorem zjk {w : World} {a : Addr} {v : Value} (h : w.cell? a = some v) : ∃ C T fz, w.heap[a.block]? = some (.cells C T fz) ∧ a.spot = none ∧ C[a.off]? = some v := by
 unfold World.cell? at h
 split at h
 ·rename_i C T fz hb
  split at h
  ·cases h
  ·rename_i hs
   refine ⟨C, T, fz, hb, ?_, h⟩
   cases hsp : a.spot with
   | none => rfl
   | some x => simp [hsp] at hs
 ·cases h
theorem zi5 (a : Addr) (n : Nat) : (a.add n).block = a.block := by unfold Addr.add; split <;> rfl
theorem zpw (a : Addr) (n : Nat) : (a.add n).off = a.off + n := by
 unfold Addr.add
 split
 ·rename_i h; subst h; rfl
 ·rfl
theorem zif {φ : zaw} {w : World} {M : Nat → Prop} {rows : List (List AV)} {L : List Value} {sz : Nat} (hl : L.length = rows.length * sz)
  (h : ∀ i (hi : i < rows.length), zaI φ w M rows[i] ((L.drop (i * sz)).take sz)) : zaI φ w M rows.flatten L := by
 induction rows generalizing L with
 | nil => simp at hl; subst hl; exact .nil
 | cons r rows ih =>
  have h0 := h 0 (by simp)
  simp only [List.getElem_cons_zero, Nat.zero_mul, List.drop_zero] at h0
  rw [List.flatten_cons, ← List.take_append_drop sz L]
  refine zaI.append h0 (ih (by simp at hl ⊢; rw [hl, Nat.add_mul]; omega) fun i hi => ?_)
  have := h (i + 1) (by simpa using hi)
  simp only [List.getElem_cons_succ] at this
  rw [List.drop_drop, show sz + i * sz = (i + 1) * sz by rw [Nat.add_mul]; omega]
  exact this
theorem zjz {α : Type} (n : Nat) (p : Nat → α → Prop) (h : ∀ i, i < n → ∃ x, p i x) : ∃ l : List α, l.length = n ∧ ∀ i (hi : i < l.length), p i l[i] := by
 induction n with
 | zero => exact ⟨[], rfl, fun i hi => by simp at hi⟩
 | succ n ih =>
  obtain ⟨l, hl, hp⟩ := ih fun i hi => h i (by omega)
  obtain ⟨x, hx⟩ := h n (by omega)
  refine ⟨l ++ [x], by simp [hl], fun i hi => ?_⟩
  rcases Nat.lt_or_ge i l.length with h1 | h1
  ·rw [List.getElem_append_left h1]; exact hp i h1
  ·have : i = n := by simp at hi; omega
   subst this
   simp [List.getElem_append_right, hl, hx]
theorem Opn.slice {α : Type} {t e : TypeId} {en : α → List AV} {Q : α → Prop} {sz : Nat} (hB : zlZ B bk) (ht : P.underlying t = some (.slice e)) (hc : P.cellsOf t = 1) (hz : P.cellsOf e = sz) (hp : 0 < sz)
  (he : Opn P B bk e en Q) : Opn P B bk t (fun l : List α => [.lst sz (l.map en)]) (fun l => l.length ≤ B ∧ ∀ x ∈ l, Q x) := by
 intro H enc w fuel cs d ps h hb
 rcases DataW.trod_slice ht h with ⟨rfl, _⟩ | ⟨a, len, cap, zsS, rest, n, rfl, rfl, hx, _, hlen, hmax, hel, hget, _, _⟩
 ·exact ⟨[], .cons (.nil _ _ _) .nil, by simp [zcd, Value.oneCell'], by simp [hc], by simp, by simp⟩
 ·simp only [Prod.mk.injEq] at hx
  obtain ⟨rfl, _⟩ := hx
  rw [hz] at hget
  have key : ∀ i (hi : i < len), ∃ x ci, w.cells? 0 (a.add (i * sz)) sz = some ci ∧ zaI noP w NoM (en x) ci ∧ (∀ c ∈ ci, zcd c = true) ∧ Q x := by
   intro i hi
   have h1 := hget i hi
   rw [List.getElem?_eq_getElem (by omega), Option.bind_eq_some_iff] at h1
   obtain ⟨ci, h2, h3⟩ := h1
   obtain ⟨x, a1, a2, _, a4⟩ := he enc w n ci zsS[i].1 zsS[i].2 h3 (hB.elem _ _ _ (List.mem_map.2 ⟨zsS[i], List.getElem_mem _, rfl⟩) hb)
   exact ⟨x, ci, h2, a1, a2, a4⟩
  have hlb : len ≤ B := by have := hB.len _ _ hb (by simp; omega); simp at this; omega
  obtain ⟨l, hl, hx⟩ := zjz len _ key
  refine ⟨l, ?_, by simp [zcd, Value.oneCell'], by simp [hc], by omega, fun x hxm => ?_⟩
  ·rcases Nat.eq_zero_or_pos len with h0 | h0
   ·have : l = [] := List.eq_nil_of_length_eq_zero (by omega)
    subst this
    rw [h0]
    exact .cons (.nil _ _ _) .nil
   ·have cellI : ∀ i, i < len → ∀ j, j < sz → ∃ v, w.cell? (a.add (i * sz + j)) = some v ∧ zcd v = true := by
     intro i hi j hj
     obtain ⟨x, ci, h2, a1, a2, a3⟩ := key i hi
     obtain ⟨hcl, hcg⟩ := zhs h2
     refine ⟨ci[j], ?_, a2 _ (List.getElem_mem (by omega))⟩
     have := hcg j hj
     rw [List.getElem?_eq_getElem (by omega)] at this
     rw [← this]
     simp only [World.cell?, zi5, zpw, Nat.add_assoc]
     by_cases hj0 : j = 0
     ·subst hj0; simp [Addr.add]
     ·simp [Addr.add, hj0]
    obtain ⟨v0, hv0, _⟩ := cellI 0 h0 0 hp
    obtain ⟨C, T, fz, hC, hs, _⟩ := zjk hv0
    simp only [Nat.zero_mul, Nat.zero_add, Addr.add, if_true] at hC hs
    have cellC : ∀ k, k < len * sz → ∃ v, C[a.off + k]? = some v ∧ w.cell? (a.add k) = some v ∧ zcd v = true := by
     intro k hk
     have hi : k / sz < len := Nat.div_lt_of_lt_mul (by rw [Nat.mul_comm]; exact hk)
     have hj : k % sz < sz := Nat.mod_lt _ hp
     obtain ⟨v, h1, h2⟩ := cellI _ hi _ hj
     rw [show k / sz * sz + k % sz = k by rw [Nat.mul_comm]; exact Nat.div_add_mod k sz] at h1
     obtain ⟨C', T', fz', hC', hs', hv'⟩ := zjk h1
     rw [zi5, hC] at hC'
     simp only [Option.some.injEq, Obj.cells.injEq] at hC'
     obtain ⟨rfl, _, _⟩ := hC'
     rw [zpw] at hv'
     exact ⟨v, hv', h1, h2⟩
    have hsz : a.off + len * sz ≤ C.size := by
     have hpos : 0 < len * sz := Nat.mul_pos h0 hp
     obtain ⟨v, h1, _⟩ := cellC (len * sz - 1) (by omega)
     have := (Array.getElem?_eq_some_iff.1 h1).1
     omega
    have hL : ((C.toList.drop a.off).take (len * sz)).length = len * sz := by simp; omega
    have hget : ∀ k, k < len * sz → ((C.toList.drop a.off).take (len * sz))[k]? = C[a.off + k]? := by
     intro k hk
     rw [List.getElem?_take, if_pos hk, List.getElem?_drop]; simp
    have hrl : ∀ i (hi : i < l.length), ∃ ci, w.cells? 0 (a.add (i * sz)) sz = some ci ∧ zaI noP w NoM (en l[i]) ci := fun i hi => by
     obtain ⟨ci, h2, a1, _⟩ := hx i hi
     exact ⟨ci, h2, a1⟩
    refine .cons (.lst (C := C) (T := T) (fz := fz) hs (fun h => h) hC (fun r hr => ?_) (by simp; omega) (by rw [List.length_map, hl]; exact hsz) (by omega) (fun u hu => ?_) ?_) .nil
    ·obtain ⟨x, hxm, rfl⟩ := List.mem_map.1 hr
     obtain ⟨i, hi, rfl⟩ := List.getElem_of_mem hxm
     obtain ⟨ci, h2, a1⟩ := hrl i hi
     rw [a1.length, (zhs h2).1]
    ·rw [List.length_map, hl] at hu
     obtain ⟨k, hk, rfl⟩ := List.getElem_of_mem hu
     rw [hL] at hk
     obtain ⟨v, h1, _, h3⟩ := cellC k hk
     have := hget k hk
     rw [List.getElem?_eq_getElem (by omega), h1] at this
     simp only [Option.some.injEq] at this
     rw [this]; exact h3
    ·rw [List.length_map, hl]
     refine zif (sz := sz) (by rw [hL, List.length_map, hl]) fun i hi => ?_
     rw [List.length_map] at hi
     obtain ⟨ci, h2, a1⟩ := hrl i hi
     rw [List.getElem_map]
     obtain ⟨hcl, hcg⟩ := zhs h2
     have hle : (i + 1) * sz ≤ len * sz := Nat.mul_le_mul_right _ (by omega)
     rw [Nat.add_mul] at hle
     have : ci = (((C.toList.drop a.off).take (len * sz)).drop (i * sz)).take sz := by
      refine List.ext_getElem? fun j => ?_
      rcases Nat.lt_or_ge j sz with hj | hj
      ·rw [← hcg j hj, List.getElem?_take, if_pos hj, List.getElem?_drop, hget _ (by omega)]
       obtain ⟨v, h1, h3, _⟩ := cellC (i * sz + j) (by omega)
       rw [h1, ← h3]
       simp only [World.cell?, zi5, zpw, Nat.add_assoc]
       by_cases hj0 : j = 0
       ·subst hj0; simp [Addr.add]
       ·simp [Addr.add, hj0]
      ·rw [List.getElem?_eq_none (by omega), List.getElem?_eq_none (by simp; omega)]
     rw [← this]; exact a1
  ·obtain ⟨i, hi, rfl⟩ := List.getElem_of_mem hxm
   obtain ⟨ci, _, _, _, a4⟩ := hx i hi
   exact a4
theorem Opn.array {α : Type} {t e : TypeId} {en : α → List AV} {Q : α → Prop} {n sz : Nat} (hB : zlZ B bk) (ht : P.underlying t = some (.array n e)) (hz : P.cellsOf e = sz) (hc : P.cellsOf t = n * sz)
  (he : Opn P B bk e en Q) : Opn P B bk t (fun l : List α => (l.map en).flatten) (fun l => l.length = n ∧ ∀ x ∈ l, Q x) := by
 intro H enc w fuel cs d ps h hb
 obtain ⟨xs, m, _, hx, hl, hxl, hget⟩ := DataW.trod_array ht h
 simp only [Prod.mk.injEq] at hx
 obtain ⟨rfl, _⟩ := hx
 rw [hz] at hget
 have key : ∀ i, i < n → ∃ x, zaI noP w NoM (en x) ((cs.drop (i * sz)).take sz) ∧ (∀ c ∈ (cs.drop (i * sz)).take sz, zcd c = true) ∧ Q x := by
  intro i hi
  have h1 := hget i hi
  rw [List.getElem?_eq_getElem (by omega)] at h1
  obtain ⟨x, a1, a2, _, a4⟩ := he enc w m _ xs[i].1 xs[i].2 h1 (hB.part _ _ (List.mem_map.2 ⟨xs[i], List.getElem_mem _, rfl⟩) hb)
  exact ⟨x, a1, a2, a4⟩
 obtain ⟨l, hll, hx⟩ := zjz n _ key
 rw [hc] at hl
 refine ⟨l, zif (sz := sz) (by rw [List.length_map, hll]; exact hl) (fun i hi => ?_), fun c hcm => ?_, by rw [hc]; exact hl, hll, fun x hxm => ?_⟩
 ·rw [List.length_map] at hi
  rw [List.getElem_map]; exact (hx i hi).1
 ·obtain ⟨k, hk, rfl⟩ := List.getElem_of_mem hcm
  have hp : 0 < sz := Nat.pos_of_ne_zero fun h0 => by subst h0; simp at hl; subst hl; simp at hk
  have hi : k / sz < n := Nat.div_lt_of_lt_mul (by rw [Nat.mul_comm, ← hl]; exact hk)
  have hj : k % sz < sz := Nat.mod_lt _ hp
  have e : k / sz * sz + k % sz = k := by rw [Nat.mul_comm]; exact Nat.div_add_mod k sz
  refine (hx (k / sz) (by omega)).2.1 _ (List.mem_iff_getElem?.2 ⟨k % sz, ?_⟩)
  rw [List.getElem?_take, if_pos hj, List.getElem?_drop, e]
  exact List.getElem?_eq_getElem hk
 ·obtain ⟨i, hi, rfl⟩ := List.getElem_of_mem hxm
  exact (hx i hi).2.2
def zhX (P : Program) (B : Nat) (bk : ∀ {H : Type}, DataW H → Nat) {α : Type} (ts : List TypeId) (en : α → List AV) (Q : α → Prop) : Prop :=
 ∀ {H : Type} (enc : TypeId × Value → H) (w : World) (fuel : Nat) (cs : List Value), cs.length = (ts.map P.cellsOf).sum →
  (∀ i (hi : i < ts.length), ∃ d ps, DataW.trod enc P w 0 (fun _ => true) true fuel ts[i] ((cs.drop ((ts.take i).map P.cellsOf).sum).take (P.cellsOf ts[i])) = some (d, ps) ∧ bk d ≤ B) →
  ∃ x, zaI noP w NoM (en x) cs ∧ (∀ c ∈ cs, zcd c = true) ∧ Q x
theorem zhX.nil : zhX P B bk [] (fun _ : Unit => []) (fun _ => True) := by
 intro H enc w fuel cs hl _
 have : cs = [] := List.eq_nil_of_length_eq_zero (by simpa using hl)
 subst this
 exact ⟨(), .nil, by simp, trivial⟩
theorem zhX.cons {α β : Type} {t : TypeId} {ts : List TypeId} {en : α → List AV} {Q : α → Prop} {en' : β → List AV} {Q' : β → Prop} (h : Opn P B bk t en Q) (h' : zhX P B bk ts en' Q') :
  zhX P B bk (t :: ts) (fun x : α × β => en x.1 ++ en' x.2) (fun x => Q x.1 ∧ Q' x.2) := by
 intro H enc w fuel cs hl hd
 obtain ⟨d, ps, h1, h2⟩ := hd 0 (by simp)
 simp only [List.getElem_cons_zero, List.take_zero, List.map_nil, List.sum_nil, List.drop_zero] at h1
 obtain ⟨x, a1, a2, a3, a4⟩ := h enc w fuel _ d ps h1 h2
 obtain ⟨y, b1, b2, b3⟩ := h' enc w fuel (cs.drop (P.cellsOf t)) (by simp at hl ⊢; omega) (fun i hi => by
  obtain ⟨d, ps, k1, k2⟩ := hd (i + 1) (by simpa using hi)
  simp only [List.getElem_cons_succ, List.take_succ_cons, List.map_cons, List.sum_cons] at k1
  exact ⟨d, ps, by rw [List.drop_drop]; exact k1, k2⟩)
 refine ⟨(x, y), ?_, fun c hc => ?_, a4, b3⟩
 ·rw [← List.take_append_drop (P.cellsOf t) cs]
  exact zaI.append a1 b1
 ·rw [← List.take_append_drop (P.cellsOf t) cs] at hc
  rcases List.mem_append.1 hc with hc | hc
  ·exact a2 c hc
  ·exact b2 c hc
def zri (P : Program) (t : TypeId) (ts : List TypeId) : Bool := match P.underlying t with
 | some (.struct fs) => decide (fs.toList.map (·.type) = ts) && decide (fs.toList.map (·.offset) = (List.range ts.length).map fun i => ((ts.take i).map P.cellsOf).sum) && decide (P.cellsOf t = (ts.map P.cellsOf).sum)
 | _ => false
theorem Opn.struct {α : Type} {t : TypeId} {ts : List TypeId} {en : α → List AV} {Q : α → Prop} (hB : zlZ B bk) (ht : zri P t ts = true) (h : zhX P B bk ts en Q) : Opn P B bk t en Q := by
 unfold zri at ht
 split at ht
 ·rename_i fs hfs
  simp only [Bool.and_eq_true, decide_eq_true_eq] at ht
  obtain ⟨⟨h1, h2⟩, h3⟩ := ht
  intro H enc w fuel cs d ps hd hb
  obtain ⟨xs, n, _, hx, hl, hxl, hget⟩ := DataW.trod_struct hfs hd
  simp only [Prod.mk.injEq] at hx
  obtain ⟨rfl, _⟩ := hx
  have hlen : fs.size = ts.length := by rw [← h1]; simp
  obtain ⟨x, a1, a2, a3⟩ := h enc w n cs (by rw [hl, h3]) (fun i hi => by
   have hi' : i < fs.size := by omega
   have e1 : fs[i].type = ts[i] := by
    have := congrArg (fun l => l[i]?) h1
    simp [hi', List.getElem?_eq_getElem hi] at this
    exact this
   have e2 : fs[i].offset = ((ts.take i).map P.cellsOf).sum := by
    have := congrArg (fun l => l[i]?) h2
    simp [hi', hi] at this
    rw [this, List.map_take]
   have := hget i fs[i] (Array.getElem?_eq_getElem hi')
   rw [e1, e2, List.getElem?_eq_getElem (by omega)] at this
   exact ⟨xs[i].1, xs[i].2, this, hB.part _ _ (List.mem_map.2 ⟨xs[i], List.getElem_mem _, rfl⟩) hb⟩)
  exact ⟨x, a1, a2, hl, a3⟩
 ·cases ht
def outer (P : Program) (t : TypeId) : Bool := match P.underlying t with
 | some (.struct _) | some (.array _ _) => true
 | _ => false
def wrapAV (agg : Bool) (cs : List AV) : AV := if agg then .agg cs else cel cs 0
theorem zAJ {α : Type} {t : TypeId} {en : α → List AV} {Q : α → Prop} (h : Opn P B bk t en Q) {ag : Bool} (ho : outer P t = ag) (h1 : ag = false → P.cellsOf t = 1) {H : Type} {enc : TypeId × Value → H} {W : World} {base : Nat} {r : Reach} {v : Value} {d : DataW H} {ps : List MemPlace}
  (hval : Value.okWide P W r base t v) (hd : DataW.Trod enc P W 0 (fun _ => true) true t v d ps) (hb : bk d ≤ B) : ∃ x, Rel noP W NoM (wrapAV ag (en x)) v ∧ Q x := by
 obtain ⟨fuel, hd⟩ := hd
 obtain ⟨x, a1, a2, a3, a4⟩ := h enc W fuel _ d ps hd hb
 refine ⟨x, ?_, a4⟩
 unfold outer at ho
 unfold Value.okWide at hval
 split at ho
 ·rename_i hu
  subst ho
  rw [hu] at hval
  obtain ⟨cs, rfl, _, _⟩ := hval
  exact .agg (vs := cs.toList) a2 a1
 ·rename_i hu
  subst ho
  rw [hu] at hval
  obtain ⟨cs, rfl, _, _⟩ := hval
  exact .agg (vs := cs.toList) a2 a1
 ·subst ho
  rw [h1 rfl] at a3
  have hv : v.cells.toList = [v] := by
   unfold Value.cells at a3 a2 ⊢
   split
   ·rename_i cs
    exfalso
    split at hval
    ·simp_all
    ·simp_all
    ·unfold Cell.okWide at hval
     split at hval <;> simp_all [Cell.ok]
   ·rfl
  rw [hv] at a1
  cases he : en x with
  | nil => rw [he] at a1; cases a1
  | cons y ys =>
   rw [he] at a1
   cases a1 with
   | cons a1 _ => exact a1

theorem ztw {f : Func} {s : ChangeSpec} {apart fresh handsOn again : Bool} {H : Type} {enc : TypeId × Value → H} {W W' : World} {args : Array Value} {v : Value} {ds gs : List (DataW H)} {before : List MemPlace}
  (hlo : laidOutB P = true) (hts : f.params.toList.all (fun t => P.readableRec t && decide (t < P.types.size)) = true) (hv : s.vars = [])
  (hW : DataW.Whole enc P f.params.toList s.vars apart W args.toList ds gs before)
  (hres : ∀ (b : Nat) (sp : Nat → Bool) (hd : Bool), DataW.TrodAll enc P W' b sp hd f.resultTypes.toList (v.resultList f.resultTypes.size) (s.fn H (ds ++ gs)).results [])
  (hargs : (s.fn H (ds ++ gs)).args = ds) (hvars : (s.fn H (ds ++ gs)).vars = [])
  (hfr : Fr W (fun _ => False) W')
  (hok : ∀ (j : Nat) (t : TypeId) (r : Value), f.resultTypes[j]? = some t → (v.resultList f.resultTypes.size)[j]? = some r → Value.okWide P W' .any 0 t r) :
  s.post enc P f apart fresh handsOn again W args v W' := by
 have hlt : ∀ p ∈ before, p.block < W.heap.size := fun p hp => hW.lt p hp
 have hsame : ∀ p : MemPlace, p.block < W.heap.size → W.sameAt W' p := fun p hp => (Go.RowKit.Below.same ⟨hfr.os, hfr.tape, hfr.output, hfr.size, fun k hk => hfr.block k hk (fun h => h)⟩ hp)
 obtain ⟨p, q, hA, hV, hpq, hz, hn⟩ := id hW
 rw [hv] at hV
 have hq : q = [] ∧ gs = [] := by
  cases gs with
  | nil => exact ⟨hV, rfl⟩
  | cons g gs => exact hV.elim
 obtain ⟨rfl, rfl⟩ := hq
 rw [List.append_nil] at hpq
 subst hpq
 have key : ∀ (sp : Nat → Bool) (ts : List TypeId) (vs : List Value) (ds : List (DataW H)) (ps : List MemPlace), ts.all (fun t => P.readableRec t && decide (t < P.types.size)) = true → (∀ x ∈ ps, x.block < W.heap.size) → (∀ x ∈ ps, sp x.block = true) →
   DataW.TrodAll enc P W 0 (fun _ => true) true ts vs ds ps → DataW.TrodAll enc P W' 0 sp true ts vs ds ps := by
  intro sp ts
  induction ts with
  | nil =>
   intro vs ds ps _ _ _ h
   cases vs <;> cases ds <;> simp [DataW.TrodAll] at h ⊢
   exact h
  | cons t ts ih =>
   intro vs ds ps ht hlt hsp h
   obtain ⟨v, vs', d, ds', a, b, rfl, rfl, rfl, h1, h2⟩ := ChangeShapes.trodAll_cons h
   simp only [List.all_cons, Bool.and_eq_true, decide_eq_true_eq] at ht
   obtain ⟨⟨hr, hs⟩, hts⟩ := ht
   exact ⟨a, b, WideElems.Trod_stays hlo hr hs h1 (fun x hx => hsame x (hlt x (List.mem_append_left _ hx))) (fun x hx => hsp x (List.mem_append_left _ hx)),
    ih _ _ _ (by simpa using hts) (fun x hx => hlt x (List.mem_append_right _ hx)) (fun x hx => hsp x (List.mem_append_right _ hx)) h2, rfl⟩
 have key' : ∀ sp : Nat → Bool, (∀ x ∈ before, sp x.block = true) → DataW.TrodAll enc P W' 0 sp true f.params.toList args.toList (s.fn H (ds ++ [])).args before := fun sp hsp => by
  rw [hargs]; exact key sp _ _ _ _ hts hlt hsp hA
 have kv : ∀ sp : Nat → Bool, DataW.TrodVars enc P W' sp s.vars (s.fn H (ds ++ [])).vars [] := fun sp => by rw [hv, hvars]; rfl
 refine ⟨ds, [], before, [], before, [], hW, hres _ _ _, key' _ (fun x hx => by simpa using hlt x hx), kv _, ?_, fun _ => ⟨hok, _, _, ([] ++ before) ++ [], ⟨[] ++ before, [], ChangeShapes.trodAll_append (key' _ fun _ _ => rfl) (hres _ _ _), kv _, rfl, ?_, ?_⟩, ?_⟩⟩
 ·refine ⟨hfr.os, hfr.output, fun i hi => ?_⟩
  rw [hfr.block i hi (fun h => h)]
  cases h : W.heap[i]? with
  | none => simp
  | some o => cases o <;> simp
 ·intro b off hp
  have hp' : MemPlace.cell b off ∈ before := by simpa using hp
  have hb := hlt _ hp'
  have := hz b off hp'
  unfold World.frozen? at this ⊢
  simp only [MemPlace.block] at hb
  rw [show W'.heap[b]? = W.heap[b]? from hfr.block b hb (fun h => h)]
  exact this
 ·intro ha
  simpa using hn ha
 ·intro x hx _
  simpa using hx
theorem zbc {f : FuncId} {fn : Func} {tb : TypeId} {s : ChangeSpec} {apart fresh handsOn again : Bool} {H : Type} {enc : TypeId × Value → H} {W : World} {args : Array Value} {ds gs : List (DataW H)} {before : List MemPlace}
  (hlo : laidOutB P = true) (hts : fn.params.toList.all (fun t => P.readableRec t && decide (t < P.types.size)) = true) (hv : s.vars = []) (hrt : fn.resultTypes = #[tb]) (hb : P.underlying tb = some .bool)
  (hW : DataW.Whole enc P fn.params.toList s.vars apart W args.toList ds gs before)
  (hfn : gs = [] → s.fn H (ds ++ gs) = { results := [.lit (.bool true)], args := ds }) {avs : List AV} (hp : zaL P f avs (.v (.bool true))) (hr : zaI noP W NoM avs args.toList) (hg : zhl W NoM := by intro p hp; simp [glbs] at hp) :
  Calls P f args W fun e W' => ∃ v, e = .returned v ∧ s.post enc P fn apart fresh handsOn again W args v W' := by
 have hgs : gs = [] := by
  obtain ⟨p, q, hA, hV, _⟩ := hW
  rw [hv] at hV
  cases gs with
  | nil => rfl
  | cons g gs => exact hV.elim
 have := hp.2 NoM W args.toList (fun k hk => hk.elim) hg hr
 rw [show (⟨args.toList⟩ : Array Value) = args from rfl] at this
 refine this.mono ?_
 rintro e W' ⟨v, rfl, hv', hfr⟩
 cases hv'
 refine ⟨_, rfl, ztw hlo hts hv hW (fun b sp hd => ?_) (by rw [hfn hgs]) (by rw [hfn hgs]) hfr ?_⟩
 ·rw [hfn hgs, hrt]
  exact trodAll_cons_mk (RowKit.shut_bool hb _) ChangeShapes.trodAll_mk0
 ·exact RowKit.ok_one hrt rfl (RowKit.okWide_bool_mk hb true)
end
end Go.Av
end
section
open Go Go.Proofs
namespace Go.Av
open Go.Proofs.YtedhfmmlhfmomaaGreatDoor
theorem zyr {H : Type} (d : DataW H) : 1 ≤ Rows.uptoBulk d := by
 cases d with
 | lit l => cases l <;> simp [Rows.uptoBulk]
 | _ => simp [Rows.uptoBulk]
theorem zkq {H : Type} {d : DataW H} {l : List (DataW H)} (h : d ∈ l) : Rows.uptoBulk d ≤ Rows.uptoBulkAll l := by
 induction l with
 | nil => cases h
 | cons x r ih =>
  simp only [Rows.uptoBulkAll]
  rcases List.mem_cons.1 h with e | e
  ·subst e; omega
  ·have := ih e; omega
theorem zqP {H : Type} (l : List (DataW H)) : l.length ≤ Rows.uptoBulkAll l := by
 induction l with
 | nil => simp [Rows.uptoBulkAll]
 | cons x r ih => have := zyr x; simp only [Rows.uptoBulkAll, List.length_cons]; omega
theorem zlZ.upto {B : Nat} : zlZ B (fun d => Rows.uptoBulk d) where
 len := fun l r h _ => by
  have := zqP l
  simp only [Rows.uptoBulk] at h; omega
 elem := fun l r d hd h => by
  have := zkq hd
  simp only [Rows.uptoBulk] at h; omega
 part := fun l d hd h => by
  have := zkq hd
  simp only [Rows.uptoBulk] at h; omega
 str := fun l h _ => by
  simp only [Rows.uptoBulk] at h; omega
theorem zbo {H : Type} {l : List (DataW H)} (hk : Rows.uptoSmall H l = true) {d : DataW H} (hd : d ∈ l) : Rows.uptoBulk d ≤ 1048576 := by
 have := zkq hd
 have h := of_decide_eq_true hk
 omega
end Go.Av
end
