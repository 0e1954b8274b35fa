/- Texts of ours, part 8: contracts and facts for this claim. -/
import Derived.Test.YtkahkcakggflaaaGreatDoorB08
import Derived.Test.YtkahkcakggflaaaGreatDoorSFx07
set_option linter.unusedSimpArgs false
set_option linter.unusedVariables false
set_option maxRecDepth 100000
set_option maxHeartbeats 40000000
section
open Go Go.Proofs
namespace Go.Av
theorem zsK (l more : List StD) (hl : l.length + more.length ≤ 17179869184) (h1 : ∀ s ∈ l, za0 s.p) (h2 : ∀ s ∈ more, za0 s.p) :
  ziQ Tryz.prog 293 [.sl 0 l.length 8 0 l.length, zaQ more] [(0, .rows true l.length 8 (l.map zal))] 1 (.sl 0 (zev l more).length 8 0 (zev l more).length) [(0, .rows true (zev l more).length 8 ((zev l more).map zal))] 1 := by
 unfold ziQ
 refine zBp (by kernel_rfl) Tryz.func293 rfl rfl (Nat.le_of_ble_eq_true rfl) (by kernel_rfl) ?_
 repeat first|with_reducible refine wV fun _=>?_|simp [go_sem]
 refine zBm (zBr (α := Nat × List StD) (fun a => ⟨[(0, .sl 0 a.2.length 8 0 a.2.length), (1, zaQ more), (5, .v (.int .i64 a.1))], [(0, .rows true a.2.length 8 (a.2.map zal))], 1⟩)
  (fun d a => a.1 + d = more.length ∧ a.2 = zev l (more.take a.1)) ?_ more.length (0, l) ?_) ?_ ?_
 ·rintro d ⟨i, out⟩ ⟨i1, i2⟩ hrec
  simp only at i1 i2
  have hol := zg6 (more.take i) l
  rw [← i2] at hol
  have hof : ∀ s ∈ out, za0 s.p := by rw [i2]; exact zi1 h1 (fun s hs => h2 s (List.mem_of_mem_take hs))
  repeat first|with_reducible refine wV fun _=>?_|simp [go_sem]
  refine zBo (fun hi => ?_) (fun hi => ?_) <;> simp at hi
  ·have htl : (more.take i).length = i := by simp; omega
   have hfi := h2 _ (zan hi)
   have hsu := znW l more hi
   rw [← i2] at hsu
   repeat first|with_reducible refine wV fun _=>?_|simp [go_sem]
   refine zBm (zBr (α := Nat) (fun k => ⟨[(0, .sl 0 out.length 8 0 out.length), (1, zaQ more), (5, .v (.int .i64 i)), (6, .v (.bool (decide (nth more i ∈ out.take k)))), (7, .v (.int .i64 k))], [(0, .rows true out.length 8 (out.map zal))], 1⟩)
    (fun d k => k + d = out.length) ?_ out.length 0 ?_) ?_ ?_
   ·rintro d2 k k1 hrec2
    repeat first|with_reducible refine wV fun _=>?_|simp [go_sem]
    refine zBo (fun hk => ?_) (fun hk => ?_) <;> simp at hk
    ·have hfk := hof _ (zan hk)
     have htk : out.take (k + 1) = out.take k ++ [nth out k] := by rw [List.take_add_one, List.getElem?_eq_getElem hk, zaJ _ _ hk]; rfl
     repeat first|with_reducible refine wV fun _=>?_|simp [go_sem, hi, hk]
     refine zBz _ (fun _ => zp1 _ _ hfk hfi) (by simp [go_sem]) ?_
     repeat first|with_reducible refine wV fun _=>?_|simp [go_sem, hi, hk]
     refine zBm (hrec2 (d2 - 1) (by omega) (k + 1) (by omega)) ?_ (by simp)
     simp [go_sem, zah, htk, eq_comm (a := nth more i) (b := nth out k)]
    ·have hkl : k = out.length := by omega
     subst hkl
     repeat first|with_reducible refine wV fun _=>?_|simp [go_sem]
     by_cases hm : nth more i ∈ out
     ·rw [if_pos hm] at hsu
      repeat first|with_reducible refine wV fun _=>?_|simp [go_sem, hm]
      refine zBm (hrec (d - 1) (by omega) (i + 1, out) ⟨by simp only; omega, hsu.symm⟩) ?_ (by simp)
      simp [go_sem, zah]
     ·rw [if_neg hm] at hsu
      repeat first|with_reducible refine wV fun _=>?_|simp [go_sem, hm, hi]
      refine zBm (hrec (d - 1) (by omega) (i + 1, out ++ [nth more i]) ⟨by simp only; omega, hsu.symm⟩) ?_ (by simp)
      simp [go_sem, zah]
   ·omega
   ·simp [go_sem, zah]
   ·simp
  ·have hil : i = more.length := by omega
   subst hil
   rw [List.take_length] at i2
   rw [← i2]
   repeat first|with_reducible refine wV fun _=>?_|simp [go_sem]
   simp [go_sem, zah]
 ·simp [zrB]
 ·simp [go_sem, zah]
 ·simp
theorem zpY (g : zaf) (hg : GOk g) (s : StD) (hs : zfn g s) (x : Int × Int) (hx : zex g.next.length g.kinds.length g.rights x) :
  zaC Tryz.prog 294 [.agg (zab g), .agg (zal s), .agg (zau x)] (zaQ (zbY g s x)) := by
 refine pF Tryz.func294 ?_
 have hal := hs.p.al
 have hc0 := hs.c0
 have hc1 := hs.c1
 have hcur : s.cursor.toNat < s.p.at_.length := by omega
 have hat := hs.p.at (i := s.cursor.toNat) (by omega)
 have hO := zdS (nth s.p.at_ s.cursor.toNat)
 have hTo := fun n => zg3 g.board hg.board s.p.side n s.cursor
 have hOn := fun u b => zpZ u b
 have hSl := fun n => znR g hg s hs n
 have hTk := zp2 g hg s hs
 have hPu := fun n => zp0 g hg s hs n
 have r0 := hg.r0
 have r4 := hg.r4
 obtain ⟨op, n⟩ := x
 obtain ⟨xo, xd, xz, xk, xr⟩ := hx
 simp only at xo xd xz xk xr
 unfold zbY
 generalize hm : zaq (nth s.p.at_ s.cursor.toNat) = m at *
 obtain ⟨mk, ms⟩ := m
 repeat first|with_reducible refine wV fun _=>?_|simp [go_sem, hcur]
 refine zBn hO (by simp [go_sem]) ?_
 rcases (show op = 1 ∨ op = 2 ∨ op = 3 ∨ op = 4 ∨ op = 5 ∨ op = 6 ∨ op = 7 ∨ op = 8 ∨ op = 9 ∨ op = 10 by omega) with rfl | rfl | rfl | rfl | rfl | rfl | rfl | rfl | rfl | rfl
 ·repeat first|with_reducible refine wV fun _=>?_|simp [go_sem]
  refine zBn (hTo n) (by simp [go_sem]) ?_
  repeat first|with_reducible refine wV fun _=>?_|simp [go_sem]
  refine zBn (hOn { s with cursor := toB g.board s.p.side n s.cursor } _) (by simp [go_sem]) ?_
  repeat first|with_reducible refine wV fun _=>?_|simp [go_sem]
 ·repeat first|with_reducible refine wV fun _=>?_|simp [go_sem]
  refine zBn (hSl n) (by simp [go_sem]) ?_
  repeat first|with_reducible refine wV fun _=>?_|simp [go_sem]
 ·repeat first|with_reducible refine wV fun _=>?_|simp [go_sem]
  refine zBn (hOn s _) (by simp [go_sem]) ?_
  repeat first|with_reducible refine wV fun _=>?_|simp [go_sem]
 ·repeat first|with_reducible refine wV fun _=>?_|simp [go_sem]
  refine zBn (hOn s _) (by simp [go_sem]) ?_
  repeat first|with_reducible refine wV fun _=>?_|simp [go_sem]
 ·repeat first|with_reducible refine wV fun _=>?_|simp [go_sem]
  refine zBn (hOn s _) (by simp [go_sem]) ?_
  repeat first|with_reducible refine wV fun _=>?_|simp [go_sem]
 ·repeat first|with_reducible refine wV fun _=>?_|simp [go_sem]
  refine zBn hTk (by simp [go_sem]) ?_
  repeat first|with_reducible refine wV fun _=>?_|simp [go_sem]
 ·repeat first|with_reducible refine wV fun _=>?_|simp [go_sem]
  refine zBn (hPu n) (by simp [go_sem]) ?_
  repeat first|with_reducible refine wV fun _=>?_|simp [go_sem]
 ·repeat first|with_reducible refine wV fun _=>?_|simp [go_sem]
  exact frX
 ·have hn := xr (by omega)
  repeat first|with_reducible refine wV fun _=>?_|simp [go_sem]
  refine zBq (hOn s _) (by simp [go_sem]) ?_
  repeat first|with_reducible refine wV fun _=>?_|simp [go_sem]
 ·have hn := xr (by omega)
  have hpn := zjg hn.1 (show n ≤ 4 by omega)
  repeat first|with_reducible refine wV fun _=>?_|simp [go_sem]
  exact frX
theorem zzc (g : zaf) (p : zaj) (cell : Int) (prog : List (Int × Int)) (n : Nat) : stR g p cell prog (n + 1) = stR g p cell prog n ++ [[zaQ (zbR g p cell prog n)]] := by simp [stR, List.range_succ]
theorem zAW (g : zaf) (p : zaj) (cell : Int) (prog : List (Int × Int)) {n j : Nat} (h : j < n) : nth (stR g p cell prog n) j = [zaQ (zbR g p cell prog j)] := by
 unfold stR; rw [zbg _ _ _ (by simpa using h)]; simp [nth, h]
theorem zvt {n : Nat} (l : List StD) : Bel n (zaQ l) := of_eq_true zqw
theorem zsJ (g : zaf) (hg : GOk g) (p : zaj) (hp : POk g p) (cell i : Int) (hc : zcn g p cell i) :
  zaC Tryz.prog 285 [.agg (zab g), .agg (zad p), .v (.int .i64 cell), .v (.int .i64 i)]
   (.agg [.lst 1 (stR g p cell (zbb g p cell i) ((zbb g p cell i).length + 1)), .v (.int .i64 0)]) := by
 refine pF Tryz.func285 ?_
 have hal := hp.al
 obtain ⟨c0, c1, cm, cs, i0, i1⟩ := hc
 have hcur : cell.toNat < p.at_.length := by omega
 have hat := hp.at (i := cell.toNat) (by omega)
 have hO := zdS (nth p.at_ cell.toNat)
 have hman := zaU hat.1 hat.2 hg.k6
 have hcp := zdX p (hp.fits hg)
 have hV := zdU g (by have := hg.k6; unfold zfp; omega) ⟨hg.r0, by have := hg.r4; omega⟩ p (hp.fits hg)
 rw [ze8.2 hp] at hV
 have hkl : (zaq (nth p.at_ cell.toNat)).1.toNat < g.kinds.length := by
  rcases hman with ⟨_, e⟩ | ⟨_, a, b, _⟩
  ·rw [e] at cm; simp at cm
  ·omega
 have hil : i.toNat < (nth g.kinds (zaq (nth p.at_ cell.toNat)).1.toNat).progs.length := by omega
 have hpg := hg.pr _ (zan hkl) _ (zan hil)
 have hst := fun n hn => zhD hg hp c0 c1 cm (prog := zbb g p cell i) hpg.st n hn
 have hz := zgW g p cell (zbb g p cell i)
 have hsu := fun n hn => zgV g p cell (zbb g p cell i) (n := n) hn
 have hR := fun n => zzc g p cell (zbb g p cell i) n
 have hp8 := hpg.len
 have hpst := hpg.st
 have hpe : zbb g p cell i = nth (nth g.kinds (zaq (nth p.at_ cell.toNat)).1.toNat).progs i.toNat := rfl
 rw [← hpe] at hp8 hpst
 obtain ⟨prog, hprog⟩ : ∃ q, q = zbb g p cell i := ⟨_, rfl⟩
 rw [← hprog] at hst hz hsu hR hp8 hpst hpe ⊢
 generalize hm : zaq (nth p.at_ cell.toNat) = m at *
 obtain ⟨mk, ms⟩ := m
 simp only at cm cs i1 hkl hil hpe
 repeat first|with_reducible refine wV fun _=>?_|simp [go_sem]
 refine zBn hV (by simp [go_sem]) ?_
 repeat first|with_reducible refine wV fun _=>?_|simp [go_sem]
 (refine zBo (fun hF => by first | omega | (simp at hF; omega)) (fun hF => ?_); clear hF)
 repeat first|with_reducible refine wV fun _=>?_|simp [go_sem, hcur]
 refine zBn hO (by simp [go_sem]) ?_
 repeat first|with_reducible refine wV fun _=>?_|simp [go_sem, hkl, hil]
 refine zBo (fun hF => by simp at hF; omega) (fun hF => ?_)
 clear hF
 repeat first|with_reducible refine wV fun _=>?_|simp [go_sem]
 refine zBN 28 (by rfl) (hcp) (by decide) (by simp [go_sem]) (by simp [go_sem]) (fun _ => zai.refl _ _ _ _) (by simp [go_sem]) (by simp [go_sem]) ?_
 ((repeat (first|with_reducible (first|refine wL fun _=>?_|refine wD fun _=>?_|refine wZ ?_)|simp [go_sem])); refine zBP (by kernel_rfl) ?_)
 repeat first|with_reducible refine wV fun _=>?_|simp [go_sem, hcur, hkl, hil]
 rw [← hpe]
 have hsz : ∀ n, n ≤ prog.length → (zbR g p cell prog n).length ≤ 100000000 := fun n hn => Nat.le_trans (hst n hn).2 (zjf (by omega))
 have hst0 : zaQ (zbR g p cell prog 0) = .lst 8 [[.lst 1 ((p.at_.map zb6).set cell.toNat [.v (.int .i64 0)]), zas p.h0, zas p.h1, .v (.int .i64 p.rights), .v (.int .i64 p.side), .v (.int .i64 mk), .v (.int .i64 cell), .v (.bool false)]] := by
  rw [hz]; simp [zaQ, zeM, zal, clr, hm, zas, zb6, List.map_set]
 have hR0 : stR g p cell prog 1 = [[zaQ (zbR g p cell prog 0)]] := rfl
 refine zBm (zBr (α := Nat) (fun k => ⟨[(4, .ref 0 0 9 0 0), (8, .ref 2 0 2 0 0), (11, .ref 146 0 2 0 0), (12, zaQ (zbR g p cell prog k)), (13, zar prog), (14, .v (.int .i64 k))],
   [(0, .rows true 0 9 [zab g]), (2, .rows true 0 2 [[zBu, .v (.int .i64 0)]]), (142, .rows true k 1 (stR g p cell prog (k + 1))), (146, .rows true 0 2 [[.sl 142 k 1 0 (k + 1), .v (.int .i64 0)]])], 148⟩)
  (fun d k => k + d = prog.length) ?_ prog.length 0 ?_) ?_ ?_
 ·rintro d k k1 hrec
  repeat first|with_reducible refine wV fun _=>?_|simp [go_sem]
  refine zBo (fun hk => ?_) (fun hk => ?_) <;> simp at hk
  ·have hkk := hst k (by omega)
   have hks := hsz k (by omega)
   have hks' := hsz (k + 1) (by omega)
   have hsk := hsu k hk
   have hxs := hpst _ (zan hk)
   have hpo := fun n hn => zns hg hxs hkk.1 n hn
   have hpa := zkt g (zbR g p cell prog k) (nth prog k)
   have hpz := zmj g (zbR g p cell prog k) (nth prog k)
   have hps := fun n hn => zh9 g (zbR g p cell prog k) (nth prog k) (n := n) hn
   rw [← hsk] at hpa
   obtain ⟨now, hnow⟩ : ∃ now, now = zbR g p cell prog k := ⟨_, rfl⟩
   rw [← hnow] at hkk hks hpo hpa hpz hps ⊢
   obtain ⟨x, hx⟩ : ∃ x, x = nth prog k := ⟨_, rfl⟩
   rw [← hx] at hxs hpo hpa hpz hps
   repeat first|with_reducible refine wV fun _=>?_|simp [go_sem]
   refine zBm (zBr (α := Nat) (fun n => ⟨[(4, .ref 0 0 9 0 0), (8, .ref 2 0 2 0 0), (11, .ref 146 0 2 0 0), (12, zaQ now), (13, zar prog), (14, .v (.int .i64 k)), (15, .sl 148 (zdb g now x n).length 8 0 (zdb g now x n).length), (16, .v (.int .i64 n))],
     [(0, .rows true 0 9 [zab g]), (2, .rows true 0 2 [[zBu, .v (.int .i64 0)]]), (142, .rows true k 1 (stR g p cell prog (k + 1))), (146, .rows true 0 2 [[.sl 142 k 1 0 (k + 1), .v (.int .i64 0)]]), (148, .rows true (zdb g now x n).length 8 ((zdb g now x n).map zal))], 149⟩)
    (fun d n => n + d = now.length) ?_ now.length 0 ?_) ?_ ?_
   ·rintro d2 n n1 hrec2
    repeat first|with_reducible refine wV fun _=>?_|simp [go_sem]
    refine zBo (fun hn => ?_) (fun hn => ?_) <;> simp at hn
    ·have hsn := hkk.1 _ (zan hn)
     have hpn := hps n hn
     have hpoN := hpo n (by omega)
     have hpoS := hpo (n + 1) (by omega)
     have hSt := zpY g hg (nth now n) hsn.1 x hxs
     have hsl := zkM hg (nth now n) x
     have hso := zhE hg hsn.1 hxs
     have hAd := zsK (zdb g now x n) (zbY g (nth now n) x) (by omega) (fun s hs => (hpoN.1 s hs).1.p.fits hg) (fun s hs => (hso s hs).1.p.fits hg)
     rw [← hpn] at hAd
     repeat first|with_reducible refine wV fun _=>?_|simp [go_sem, hn, hk, ← hx]
     refine zBq hSt (by simp [go_sem]) ?_
     repeat first|with_reducible refine wV fun _=>?_|simp [go_sem]
     refine zB1 (o := 148) hAd rfl (of_eq_true zrM) (of_eq_true zrM) (fun _ => .cons (.sl rfl) (.cons (.same (zvt _)) .nil)) (by simp [go_sem]) (fun n₁ hn₁ => by simp [go_sem, hn₁]) (fun _ => .sl rfl) (.inr ⟨_, _, _, _, rfl⟩) ?_
     repeat first|with_reducible refine wV fun _=>?_|simp [go_sem]
     refine zBm (hrec2 (d2 - 1) (by omega) (n + 1) (by omega)) ?_ (by simp)
     simp [go_sem, zah]
    ·have hnl : n = now.length := by omega
     subst hnl
     rw [hpa]
     repeat first|with_reducible refine wV fun _=>?_|simp [go_sem]
     have hRk := hR (k + 1)
     refine zBm (hrec (d - 1) (by omega) (k + 1) (by omega)) ?_ (by simp)
     simp [go_sem, zah, hRk]
     refine ⟨?_, zag (.refl _) (.cons (.cons ?_ .nil) .nil)⟩ <;> exact frX
   ·omega
   ·simp [go_sem, zah, hpz]
   ·simp
  ·have hkl' : k = prog.length := by omega
   subst hkl'
   repeat first|with_reducible refine wV fun _=>?_|simp [go_sem]
   exact zam rfl (by rw [zrn]; omega) (by simp [noH, upd]) (by rw [List.drop_zero, List.take_of_length_le (by rw [zrn]; omega)])
 ·omega
 ·simp [go_sem, zah, hR0]
  rw [show AV.lst 8 (List.map zal (zbR g p cell prog 0)) = _ from hst0]
  refine ⟨?_, ?_⟩
  ·(first|done|exact dpX)
  ·(first|done|exact dpX)
 ·simp
theorem zjq (a b : zcu) (ha : za0 a.pos) (hb : za0 b.pos) : zaC Tryz.prog 295 [.agg (zat a), .agg (zat b)] (.v (.bool (zo1 a b))) := by
 refine pF Tryz.func295 ?_
 have hC := zd8 _ _ ha hb
 unfold zo1
 obtain ⟨pa, ta⟩ := a
 obtain ⟨pb, tb⟩ := b
 simp only at hC ⊢
 generalize zbB pa pb = c at *
 repeat first|with_reducible refine wV fun _=>?_|simp [go_sem]
 refine zBn hC (by simp [go_sem]) ?_
 by_cases c1 : c < 0
 ·repeat first|with_reducible refine wV fun _=>?_|simp [go_sem, c1]
 ·by_cases c2 : c = 0
  ·subst c2
   cases ta <;> cases tb <;> (repeat (first|with_reducible refine wV fun _=>?_|simp [go_sem]))
  ·cases ta <;> cases tb <;> (repeat (first|with_reducible refine wV fun _=>?_|simp [go_sem, c1, c2]))
def zll (x : zcu) (l : List zcu) (dn : Bool) : List zcu := if dn then l else zbO x l
theorem zmE (l : List zcu) (x : zcu) (hl : l.length ≤ 17179869184) (h1 : ∀ o ∈ l, za0 o.pos) (h2 : za0 x.pos) : zaC Tryz.prog 286 [za9 l, .agg (zat x)] (za9 (zbO x l)) := by
 refine pF Tryz.func286 ?_
 obtain ⟨R, hR⟩ : ∃ R, R = zbO x l := ⟨_, rfl⟩
 rw [← hR]
 repeat first|with_reducible refine wV fun _=>?_|simp [go_sem]
 refine zBm (zBr (α := Nat × List zcu × Bool) (fun a => ⟨[(0, za9 l), (3, .ref 0 0 6 0 0), (5, .sl 1 a.2.1.length 6 0 a.2.1.length), (6, .v (.bool a.2.2)), (7, .v (.int .i64 a.1))], [(0, .rows true 0 6 [zat x]), (1, .rows true a.2.1.length 6 (a.2.1.map zat))], 2⟩)
  (fun d a => a.1 + d = l.length ∧ a.2.1.length ≤ a.1 + a.2.2.toNat ∧ R = a.2.1 ++ zll x (l.drop a.1) a.2.2) ?_ l.length (0, [], false) ?_) ?_ ?_
 ·rintro d ⟨i, out, dn⟩ ⟨i1, i2, i3⟩ hrec
  simp only at i1 i2 i3
  repeat first|with_reducible refine wV fun _=>?_|simp [go_sem]
  refine zBo (fun hi => ?_) (fun hi => ?_) <;> simp at hi
  ·have f1 := h1 _ (zan hi)
   have hL1 := zjq (nth l i) x f1 h2
   have hL2 := zjq x (nth l i) h2 f1
   rw [zaO hi] at i3
   cases dn
   ·simp only [zll, zbO] at i3
    simp only [Bool.toNat_false] at i2
    repeat first|with_reducible refine wV fun _=>?_|simp [go_sem, hi]
    refine zBz _ (fun _ => hL1) (by simp [go_sem]) ?_
    repeat first|with_reducible refine wV fun _=>?_|simp [go_sem, hi]
    by_cases l1 : zo1 (nth l i) x = true
    ·rw [if_pos l1] at i3
     repeat first|with_reducible refine wV fun _=>?_|simp [go_sem, hi, l1]
     refine zBm (hrec (d - 1) (by omega) (i + 1, out ++ [nth l i], false) ⟨by simp only; omega, by simp; omega, by simpa [zll] using i3⟩) ?_ (by simp)
     simp [go_sem, zah]
    ·rw [if_neg l1] at i3
     repeat first|with_reducible refine wV fun _=>?_|simp [go_sem, hi, l1]
     refine zBq hL2 (by simp [go_sem]) ?_
     repeat first|with_reducible refine wV fun _=>?_|simp [go_sem, hi]
     by_cases l2 : zo1 x (nth l i) = true
     ·rw [if_pos l2] at i3
      repeat first|with_reducible refine wV fun _=>?_|simp [go_sem, hi, l2]
      refine zBm (hrec (d - 1) (by omega) (i + 1, out ++ [x] ++ [nth l i], true) ⟨by simp only; omega, by simp; omega, by simpa [zll] using i3⟩) ?_ (by simp)
      simp [go_sem, zah]
     ·rw [if_neg l2] at i3
      repeat first|with_reducible refine wV fun _=>?_|simp [go_sem, hi, l2]
      refine zBm (hrec (d - 1) (by omega) (i + 1, out ++ [nth l i], true) ⟨by simp only; omega, by simp; omega, by simpa [zll] using i3⟩) ?_ (by simp)
      simp [go_sem, zah]
   ·simp only [zll, if_true] at i3
    simp only [Bool.toNat_true] at i2
    repeat first|with_reducible refine wV fun _=>?_|simp [go_sem, hi]
    refine dGC.skip (.v (.bool true)) ?_
    repeat first|with_reducible refine wV fun _=>?_|simp [go_sem, hi]
    refine zBm (hrec (d - 1) (by omega) (i + 1, out ++ [nth l i], true) ⟨by simp only; omega, by simp; omega, by simpa [zll] using i3⟩) ?_ (by simp)
    simp [go_sem, zah]
  ·rw [List.drop_eq_nil_of_le hi] at i3
   cases dn
   ·simp [zll, zbO] at i3
    simp only [Bool.toNat_false] at i2
    repeat first|with_reducible refine wV fun _=>?_|simp [go_sem]
    rw [i3]
    exact frX
   ·simp [zll] at i3
    simp only [Bool.toNat_true] at i2
    repeat first|with_reducible refine wV fun _=>?_|simp [go_sem]
    rw [i3]
    exact frX
 ·simp [zll, hR]
 ·simp [go_sem, zah]
 ·simp
theorem zv8 : ∀ (f : Nat) (l : List zaj), l.length ≤ f + 1 → l.length ≤ 68719476736 → (∀ p ∈ l, za0 p) → zaC Tryz.prog 79 [zaz l] (zaz (zcN zbB l)) := by
 intro f
 induction f with
 | zero =>
  intro l h1 h2 h3
  rw [zkG (by omega)]
  refine pF Tryz.func79 ?_
  repeat first|with_reducible refine wV fun _=>?_|simp [go_sem]
  (refine zBo (fun hT => ?_) (fun hT => by first | omega | (simp at hT; omega)); clear hT)
  repeat first|with_reducible refine wV fun _=>?_|simp [go_sem]
 | succ f ih =>
  intro l h1 h2 h3
  by_cases hs : l.length < 2
  ·rw [zkG hs]
   refine pF Tryz.func79 ?_
   repeat first|with_reducible refine wV fun _=>?_|simp [go_sem]
   (refine zBo (fun hT => ?_) (fun hT => by first | omega | (simp at hT; omega)); clear hT)
   repeat first|with_reducible refine wV fun _=>?_|simp [go_sem]
  ·have hm := zrl zbd (l.take (l.length / 2)) (l.drop (l.length / 2))
   rw [List.take_append_drop] at hm
   have hA := ih (l.take (l.length / 2)) (by simp; omega) (by simp; omega) (fun p hp => h3 p (List.mem_of_mem_take hp))
   have hB := ih (l.drop (l.length / 2)) (by simp; omega) (by simp; omega) (fun p hp => h3 p (List.mem_of_mem_drop hp))
   have fA : ∀ p ∈ zcN zbB (l.take (l.length / 2)), za0 p := fun p hp => h3 p (List.mem_of_mem_take (zeL.1 hp))
   have fB : ∀ p ∈ zcN zbB (l.drop (l.length / 2)), za0 p := fun p hp => h3 p (List.mem_of_mem_drop (zeL.1 hp))
   have lA : (zcN zbB (l.take (l.length / 2))).length = l.length / 2 := by rw [zeK]; simp; omega
   have lB : (zcN zbB (l.drop (l.length / 2))).length = l.length - l.length / 2 := by rw [zeK]; simp
   rw [← hm]
   generalize zcN zbB (l.take (l.length / 2)) = xs at *
   generalize zcN zbB (l.drop (l.length / 2)) = ys at *
   have hq : ((l.length : Int) / 2).toNat = l.length / 2 := by omega
   have eA : AV.lst 5 (List.take (l.length / 2) (l.map zad)) = zaz (l.take (l.length / 2)) := by simp [zaz, List.map_take]
   have eB : AV.lst 5 (List.take (l.length - l.length / 2) (List.drop (l.length / 2) (l.map zad))) = zaz (l.drop (l.length / 2)) := by rw [List.take_of_length_le (by simp)]; simp [zaz, List.map_drop]
   generalize hR : List.merge xs ys (leC zbB) = R
   refine pF Tryz.func79 ?_
   repeat first|with_reducible refine wV fun _=>?_|simp [go_sem]
   (refine zBo (fun hF => by first | omega | (simp at hF; omega)) (fun hF => ?_); clear hF)
   repeat first|with_reducible refine wV fun _=>?_|simp [go_sem, hq]
   rw [eA]
   refine zBn hA (zxq (zce _)) ?_
   repeat first|with_reducible refine wV fun _=>?_|simp [go_sem, hq]
   rw [eB]
   refine zBn hB (zxq (zce _)) ?_
   repeat first|with_reducible refine wV fun _=>?_|simp [go_sem, hq]
   refine zBm (zBr (α := Nat × Nat × List zaj) (fun a => ⟨[(3, zaz xs), (4, zaz ys), (5, .sl 0 a.2.2.length 5 0 a.2.2.length), (6, .v (.int .i64 a.1)), (7, .v (.int .i64 a.2.1))], [(0, .rows true a.2.2.length 5 (a.2.2.map zad))], 1⟩)
    (fun d a => a.1 + a.2.1 + d = xs.length + ys.length ∧ a.1 ≤ xs.length ∧ a.2.1 ≤ ys.length ∧ a.2.2.length = a.1 + a.2.1 ∧ R = a.2.2 ++ List.merge (xs.drop a.1) (ys.drop a.2.1) (leC zbB)) ?_ (xs.length + ys.length) (0, 0, []) ?_) ?_ ?_
   ·rintro d ⟨i, k, out⟩ ⟨i1, i2, i3, i4, i5⟩ hrec
    simp only at i1 i2 i3 i4 i5
    repeat first|with_reducible refine wV fun _=>?_|simp [go_sem]
    refine zBo (fun hj => ?_) (fun hj => ?_) <;> simp at hj
    ·by_cases hk : k < ys.length
     ·by_cases hi : i < xs.length
      ·have fa := fA _ (zan hi)
       have fb := fB _ (zan hk)
       rw [zaO hi, zaO hk, List.cons_merge_cons, ← zaO hi, ← zaO hk] at i5
       have hk' := Nat.not_le.2 hk
       repeat first|with_reducible refine wV fun _=>?_|simp [go_sem, hk, hk', hi]
       refine zBz _ (fun _ => zd8 _ _ fa fb) (by simp [go_sem]) ?_
       repeat first|with_reducible refine wV fun _=>?_|simp [go_sem, hk, hk', hi]
       refine zBo (fun hc => ?_) (fun hc => ?_) <;> simp at hc
       ·rw [if_pos (by simpa [leC] using hc)] at i5
        repeat first|with_reducible refine wV fun _=>?_|simp [go_sem, hk, hi]
        refine zBm (hrec (d - 1) (by omega) (i + 1, k, out ++ [nth xs i]) ⟨by simp only; omega, by simp only; omega, i3, by simp; omega, by simpa using i5⟩) ?_ (by simp)
        simp [go_sem, zah]
       ·rw [if_neg (by simpa [leC] using hc)] at i5
        repeat first|with_reducible refine wV fun _=>?_|simp [go_sem, hk, hi]
        refine zBm (hrec (d - 1) (by omega) (i, k + 1, out ++ [nth ys k]) ⟨by simp only; omega, i2, by simp only; omega, by simp; omega, by simpa using i5⟩) ?_ (by simp)
        simp [go_sem, zah]
      ·rw [List.drop_eq_nil_of_le (show xs.length ≤ i by omega), List.nil_merge, zaO hk] at i5
       have hk' := Nat.not_le.2 hk
       repeat first|with_reducible refine wV fun _=>?_|simp [go_sem, hk, hk', hi]
       refine dGC.skip (.v (.int .i64 0)) ?_
       repeat first|with_reducible refine wV fun _=>?_|simp [go_sem, hk, hk', hi]
       refine zBm (hrec (d - 1) (by omega) (i, k + 1, out ++ [nth ys k]) ⟨by simp only; omega, i2, by simp only; omega, by simp; omega, by simp [List.drop_eq_nil_of_le (show xs.length ≤ i by omega), i5]⟩) ?_ (by simp)
       simp [go_sem, zah]
     ·have hi : i < xs.length := by omega
      rw [List.drop_eq_nil_of_le (show ys.length ≤ k by omega), List.merge_right, zaO hi] at i5
      have hk' := Nat.not_lt.1 hk
      repeat first|with_reducible refine wV fun _=>?_|simp [go_sem, hk, hk', hi]
      refine dGC.skip (.v (.int .i64 0)) ?_
      repeat first|with_reducible refine wV fun _=>?_|simp [go_sem, hk, hk', hi]
      refine zBm (hrec (d - 1) (by omega) (i + 1, k, out ++ [nth xs i]) ⟨by simp only; omega, by simp only; omega, i3, by simp; omega, by simp [List.drop_eq_nil_of_le (show ys.length ≤ k by omega), i5]⟩) ?_ (by simp)
      simp [go_sem, zah]
    ·rw [List.drop_eq_nil_of_le (show xs.length ≤ i by omega), List.drop_eq_nil_of_le (show ys.length ≤ k by omega)] at i5
     repeat first|with_reducible refine wV fun _=>?_|simp [go_sem]
     rw [i5]
     exact frX
   ·simp [hR]
   ·simp [go_sem, zah]
   ·simp
def zxs (all : List zaj) (i : Nat) : List zaj := if i = 0 then zbw all else zbn (nth all (i - 1)) (all.drop i)
theorem zvM (all : List zaj) : zxs all 0 = zbw all := rfl
theorem zyp {all : List zaj} {i : Nat} (h : all.length ≤ i) : zxs all i = [] := by
 unfold zxs
 split
 ·cases all with
  | nil => rfl
  | cons a l => simp at h; omega
 ·rw [List.drop_eq_nil_of_le h]; rfl
theorem zot {all : List zaj} {i : Nat} (h : i < all.length) (hk : i = 0 ∨ nth all i ≠ nth all (i - 1)) : zxs all i = nth all i :: zxs all (i + 1) := by
 unfold zxs
 rw [if_neg (show ¬ i + 1 = 0 by omega), Nat.add_sub_cancel]
 split
 ·rename_i h0
  subst h0
  cases all with
  | nil => simp at h
  | cons a l => rfl
 ·rw [zaO h, zbn, if_neg (by rcases hk with h | h; omega; exact h)]
theorem zvL {all : List zaj} {i : Nat} (h : i < all.length) (hi : i ≠ 0) (hk : nth all i = nth all (i - 1)) : zxs all i = zxs all (i + 1) := by
 unfold zxs
 rw [if_neg (show ¬ i + 1 = 0 by omega), Nat.add_sub_cancel, if_neg hi, zaO h, zbn, if_pos hk, hk]
theorem zeU (l : List zaj) (hl : l.length ≤ 68719476736) (hf : ∀ p ∈ l, za0 p) : zaC Tryz.prog 27 [zaz l] (zaz (zbp zbB l)) := by
 have hH := zv8 l.length l (by omega) hl hf
 unfold zbp
 have fA : ∀ p ∈ zcN zbB l, za0 p := fun p hp => hf p (zeL.1 hp)
 have lA : (zcN zbB l).length = l.length := zeK l
 generalize zcN zbB l = all at *
 generalize hR : zbw all = R
 refine pF Tryz.func27 ?_
 repeat first|with_reducible refine wV fun _=>?_|simp [go_sem]
 refine zBn hH (zxq (zce _)) ?_
 repeat first|with_reducible refine wV fun _=>?_|simp [go_sem]
 refine zBm (zBr (α := Nat × List zaj) (fun a => ⟨[(3, zaz all), (4, .sl 0 a.2.length 5 0 a.2.length), (5, .v (.int .i64 a.1))], [(0, .rows true a.2.length 5 (a.2.map zad))], 1⟩)
  (fun d a => a.1 + d = all.length ∧ a.2.length ≤ a.1 ∧ R = a.2 ++ zxs all a.1) ?_ all.length (0, []) ?_) ?_ ?_
 ·rintro d ⟨i, out⟩ ⟨i1, i2, i3⟩ hrec
  simp only at i1 i2 i3
  repeat first|with_reducible refine wV fun _=>?_|simp [go_sem]
  refine zBo (fun hi => ?_) (fun hi => ?_) <;> simp at hi
  ·by_cases h0 : i = 0
   ·rw [zot hi (.inl h0)] at i3
    subst h0
    repeat first|with_reducible refine wV fun _=>?_|simp [go_sem, hi]
    refine dGC.skip (.v (.bool true)) ?_
    repeat first|with_reducible refine wV fun _=>?_|simp [go_sem, hi]
    refine zBm (hrec (d - 1) (by omega) (0 + 1, out ++ [nth all 0]) ⟨by simp only; omega, by simp only [List.length_append, List.length_singleton]; omega, by simpa using i3⟩) ?_ (by simp)
    simp [go_sem, zah]
   ·have fa := fA _ (zan hi)
    have hi' : i - 1 < all.length := by omega
    have e1 : ((i : Int) - 1).toNat = i - 1 := by omega
    have fb := fA _ (zan hi')
    repeat first|with_reducible refine wV fun _=>?_|simp [go_sem, hi, h0, e1, hi']
    refine zBz _ (fun _ => zgz _ _ fa fb) (by simp [go_sem]) ?_
    repeat first|with_reducible refine wV fun _=>?_|simp [go_sem, hi, h0]
    refine zBo (fun hc => ?_) (fun hc => ?_) <;> simp at hc
    ·rw [zqB] at hc
     rw [zot hi (.inr hc)] at i3
     repeat first|with_reducible refine wV fun _=>?_|simp [go_sem, hi]
     refine zBm (hrec (d - 1) (by omega) (i + 1, out ++ [nth all i]) ⟨by simp only; omega, by simp; omega, by simpa using i3⟩) ?_ (by simp)
     simp [go_sem, zah]
    ·rw [zqB] at hc
     rw [zvL hi h0 hc] at i3
     repeat first|with_reducible refine wV fun _=>?_|simp [go_sem, hi]
     refine zBm (hrec (d - 1) (by omega) (i + 1, out) ⟨by simp only; omega, by simp only; omega, i3⟩) ?_ (by simp)
     simp [go_sem, zah]
  ·rw [zyp hi] at i3
   repeat first|with_reducible refine wV fun _=>?_|simp [go_sem]
   rw [i3]
   exact frX
 ·simp [hR, zvM]
 ·simp [go_sem, zah]
 ·simp
theorem zh8 (side : Int) (l : List StD) {n : Nat} (h : n < l.length) : zhs side l (n + 1) = match zgm side (nth l n) with | some o => zbO o (zhs side l n) | none => zhs side l n := by
 unfold zhs
 rw [zv3 _ _ _ h, List.foldl_append]
 cases zgm side (nth l n) <;> rfl
theorem zlX (x : zcu) : ∀ l : List zcu, (zbO x l).length ≤ l.length + 1
 | [] => by simp [zbO]
 | y :: l => by
  rw [zbO]
  split
  ·have := zlX x l; simp; omega
  ·split <;> simp
theorem zwL (side : Int) (l : List StD) : ∀ n, n ≤ l.length → (zhs side l n).length ≤ n := by
 intro n
 induction n with
 | zero => intro _; simp [zhs]
 | succ n ih =>
  intro h
  have := ih (by omega)
  rw [zh8 side l (by omega)]
  split
  ·rename_i o _
   have := zlX o (zhs side l n)
   omega
  ·omega
theorem zpr {g : zaf} (hg : GOk g) {s : StD} (hs : zfn g s) {side : Int} {o : zcu} (h : zgm side s = some o) : za0 o.pos := by
 have hf := hs.p.fits hg
 unfold zgm at h
 split at h
 ·simp only [Option.some.injEq] at h
  subst h
  obtain ⟨a, b, c⟩ := hf
  exact ⟨by unfold zeS at *; simpa using a, b, c⟩
 ·cases h
theorem zt4 {g : zaf} (hg : GOk g) {side : Int} {l : List StD} (hl : ∀ s ∈ l, zfn g s) : ∀ n, n ≤ l.length → ∀ o ∈ zhs side l n, za0 o.pos := by
 intro n
 induction n with
 | zero => intro _ o ho; simp [zhs] at ho
 | succ n ih =>
  intro h o ho
  rw [zh8 side l (by omega)] at ho
  cases hp : zgm side (nth l n) with
  | none => rw [hp] at ho; exact ih (by omega) o ho
  | some q =>
   rw [hp] at ho
   rcases ze3.1 ho with rfl | ho
   ·exact zpr hg (hl _ (zan (by omega))) hp
   ·exact ih (by omega) o ho
theorem zwK (g : zaf) (p : zaj) (cell i : Int) : zhs p.side (zeq g p cell (zbb g p cell i)) (zeq g p cell (zbb g p cell i)).length = zds g p cell i := by
 unfold zhs zds
 rw [List.take_length, zqR]
theorem zpX (g : zaf) (hg : GOk g) (p : zaj) (hp : POk g p) (cell i : Int) (hc : zcn g p cell i) :
  zaC Tryz.prog 257 [.agg (zab g), .agg (zad p), .v (.int .i64 cell), .v (.int .i64 i)] (.tup [za9 (zds g p cell i), .v (.int .i64 0)]) := by
 refine pF Tryz.func257 ?_
 have hRun := zsJ g hg p hp cell i hc
 have hal := hp.al
 have hat := hp.at (i := cell.toNat) (by have := hc.c0; have := hc.c1; omega)
 have hkl : (zaq (nth p.at_ cell.toNat)).1.toNat < g.kinds.length := by
  have cm := hc.man
  rcases zaU hat.1 hat.2 hg.k6 with ⟨_, e⟩ | ⟨_, a, b, _⟩
  ·rw [e] at cm; simp at cm
  ·omega
 have hil : i.toNat < (nth g.kinds (zaq (nth p.at_ cell.toNat)).1.toNat).progs.length := by have := hc.i0; have := hc.i1; omega
 have hpg := hg.pr _ (zan hkl) _ (zan hil)
 have hpe : zbb g p cell i = nth (nth g.kinds (zaq (nth p.at_ cell.toNat)).1.toNat).progs i.toNat := rfl
 rw [← hpe] at hpg
 have hst := zhD hg hp hc.c0 hc.c1 hc.man hpg.st _ (Nat.le_refl _)
 have hlen := Nat.le_trans hst.2 (zjf hpg.len)
 have hstR := zrn g p cell (zbb g p cell i) ((zbb g p cell i).length + 1)
 have hnS := zAW g p cell (zbb g p cell i) (n := (zbb g p cell i).length + 1) (j := (zbb g p cell i).length) (by omega)
 have hal' := zwK g p cell i
 rw [zgU] at hnS hlen hst
 have hps := hp.s
 obtain ⟨m, hm⟩ : ∃ m, m = (zbb g p cell i).length := ⟨_, rfl⟩
 have hm8 := hpg.len
 rw [← hm] at hRun hstR hnS hm8
 generalize stR g p cell (zbb g p cell i) (m + 1) = sr at *
 generalize zeq g p cell (zbb g p cell i) = last at *
 obtain ⟨R, hR⟩ : ∃ R, R = zds g p cell i := ⟨_, rfl⟩
 rw [← hR] at hal' ⊢
 repeat first|with_reducible refine wV fun _=>?_|simp [go_sem]
 refine zBn hRun (by simp [go_sem]) ?_
 repeat first|with_reducible refine wV fun _=>?_|simp [go_sem, hstR, hnS]
 refine zBm (zBr (α := Nat) (fun k => ⟨[(5, .ref 1 0 5 0 0), (11, za9 (zhs p.side last k)), (12, zaQ last), (13, .v (.int .i64 k))], [(1, .rows true 0 5 [zad p])], 2⟩)
  (fun d k => k + d = last.length) ?_ last.length 0 ?_) ?_ ?_
 ·rintro d k k1 hrec
  repeat first|with_reducible refine wV fun _=>?_|simp [go_sem]
  refine zBo (fun hk => ?_) (fun hk => ?_) <;> simp at hk
  ·have hsk := hst.1 _ (zan hk)
   have hsu := zh8 p.side last hk
   have hol := zwL p.side last k (by omega)
   have hof := zt4 hg (fun s hs => (hst.1 s hs).1) (side := p.side) k (by omega)
   have hpf := fun o => zpr hg hsk.1 (side := p.side) (o := o)
   have hps' : zgm p.side (nth last k) = if nth (nth last k).p.at_ (nth last k).cursor.toNat = 0 then some ⟨{ (nth last k).p with at_ := (nth last k).p.at_.set (nth last k).cursor.toNat (zaD (nth last k).kind p.side), side := 1 - p.side }, (nth last k).took⟩ else none := rfl
   have hcp := zdX (nth last k).p (hsk.1.p.fits hg)
   have hal2 := hsk.1.p.al
   have hc0 := hsk.1.c0
   have hc1 := hsk.1.c1
   have hcc := zdl (nth last k).kind p.side
   have hcur : (nth last k).cursor.toNat < (nth last k).p.at_.length := by omega
   by_cases hz : nth (nth last k).p.at_ (nth last k).cursor.toNat = 0
   ·rw [if_pos hz] at hps'
    simp only [hps'] at hsu
    have hfo := hpf _ hps'
    have hIns := zmE (zhs p.side last k) _ (by omega) hof hfo
    repeat first|with_reducible refine wV fun _=>?_|simp [go_sem, hk, hcur, hz]
    refine zBs hcp (by simp [go_sem]) ?_
    repeat first|with_reducible refine wV fun _=>?_|simp [go_sem, hcur]
    refine zBq hcc (by simp [go_sem]) ?_
    repeat first|with_reducible refine wV fun _=>?_|simp [go_sem, hcur]
    refine zBt [5, 6, 11] hIns ?_ (by simp [go_sem]) ?_
    ·(first|done|exact agX)
    ·rw [← hsu]
     repeat first|with_reducible refine wV fun _=>?_|simp [go_sem]
     refine zBm (hrec (d - 1) (by omega) (k + 1) (by omega)) ?_ (by simp)
     simp [go_sem, zah, zaL, zaS, upd]
   ·rw [if_neg hz] at hps'
    simp only [hps'] at hsu
    repeat first|with_reducible refine wV fun _=>?_|simp [go_sem, hk, hcur, hz]
    refine zBm (hrec (d - 1) (by omega) (k + 1) (by omega)) ?_ (by simp)
    simp [go_sem, zah, hsu]
  ·have hkl : k = last.length := by omega
   subst hkl
   rw [hal']
   repeat first|with_reducible refine wV fun _=>?_|simp [go_sem]
 ·omega
 ·simp [go_sem, zah]
  exact frX
 ·simp
theorem znQ (g : zaf) (hg : GOk g) (p : zaj) (hp : POk g p) : zaC Tryz.prog 195 [.agg (zab g), .agg (zad p)] (zaz (zcK g p)) := by
 refine pF Tryz.func195 ?_
 have hal := hp.al
 have c9 := hg.c9
 have k6 := hg.k6
 have hcp := zdX p (hp.fits hg)
 obtain ⟨gk, hgk⟩ : ∃ gk, gk = g.kinds.length := ⟨_, rfl⟩
 have hl0 := hp.h0.len
 have hl1 := hp.h1.len
 repeat first|with_reducible refine wV fun _=>?_|simp [go_sem]
 refine zBm (zBr (α := Nat) (fun k => ⟨[(2, .ref 0 0 9 0 0), (3, .ref 1 0 5 0 0), (5, .sl 2 (zbE g p k).length 5 0 (zbE g p k).length), (6, .v (.int .i64 k))], [(0, .rows true 0 9 [zab g]), (1, .rows true 0 5 [zad p]), (2, .rows true (zbE g p k).length 5 ((zbE g p k).map zad))], 3⟩)
  (fun d k => k + d = g.kinds.length) ?_ g.kinds.length 0 ?_) ?_ ?_
 ·rintro d k k1 hrec
  repeat first|with_reducible refine wV fun _=>?_|simp [go_sem]
  refine zBo (fun hk => ?_) (fun hk => ?_) <;> simp at hk
  ·have hz := zgI g p k
   have ha := zhV g p k
   repeat first|with_reducible refine wV fun _=>?_|simp [go_sem]
   refine zBm (zBr (α := Nat) (fun c => ⟨[(2, .ref 0 0 9 0 0), (3, .ref 1 0 5 0 0), (5, .sl 2 (zcJ g p k c).length 5 0 (zcJ g p k c).length), (6, .v (.int .i64 k)), (7, .v (.int .i64 c))], [(0, .rows true 0 9 [zab g]), (1, .rows true 0 5 [zad p]), (2, .rows true (zcJ g p k c).length 5 ((zcJ g p k c).map zad))], 3⟩)
    (fun d c => c + d = p.at_.length) ?_ p.at_.length 0 ?_) ?_ ?_
   ·rintro d2 c c1 hrec2
    repeat first|with_reducible refine wV fun _=>?_|simp [go_sem]
    refine zBo (fun hci => ?_) (fun hci => ?_) <;> simp at hci
    ·have hD : zfA g p k c = if nth (p.hand p.side) k = 0 ∨ nth p.at_ c ≠ 0 then none
      else some { ({ p with at_ := p.at_.set c (zaD k p.side) }.withHand p.side ((p.hand p.side).set k (nth (p.hand p.side) k - 1))) with side := 1 - p.side } := rfl
     rcases hp.s with hsd | hsd
     ·have hsn : p.side.toNat = 0 := by omega
      have hkh : k < p.h0.length := by omega
      have hhv := hp.h0.v k hkh
      have hD' : zfA g p k c = if nth p.h0 k = 0 ∨ nth p.at_ c ≠ 0 then none else some { p with at_ := p.at_.set c (zaD k p.side), h0 := p.h0.set k (nth p.h0 k - 1), side := 1 - p.side } := by
       rw [hD]; simp [zaj.hand, zaj.withHand, hsd]
      repeat first|with_reducible refine wV fun _=>?_|simp [go_sem, hsn, hkh, hci]
      refine zBo (fun hcc => ?_) (fun hcc => ?_) <;> simp at hcc
      ·rw [if_pos (by omega)] at hD'
       have hsu := zcw g p k c
       rw [hD'] at hsu
       simp only [Option.toList_none, List.append_nil] at hsu
       repeat first|with_reducible refine wV fun _=>?_|simp [go_sem]
       refine zBm (hrec2 (d2 - 1) (by omega) (c + 1) (by omega)) ?_ (by simp)
       simp [go_sem, zah, hsu]
      ·rw [if_neg (by omega)] at hD'
       have hsu := zcw g p k c
       rw [hD'] at hsu
       simp only [Option.toList_some] at hsu
       have hcl := zf3 g p k c
       have hkm : k * p.at_.length ≤ 6 * 9 := Nat.mul_le_mul (by omega) (by omega)
       repeat first|with_reducible refine wV fun _=>?_|simp [go_sem, hci]
       refine zBs hcp (by simp [go_sem]) ?_
       repeat first|with_reducible refine wV fun _=>?_|simp [go_sem, hci]
       refine zBq (zdl (k : Int) p.side) (by simp [go_sem]) ?_
       repeat first|with_reducible refine wV fun _=>?_|simp [go_sem, hsn, hci, hkh]
       refine zBm (hrec2 (d2 - 1) (by omega) (c + 1) (by omega)) ?_ (by simp)
       simp [go_sem, zah, hsu]
       (first|done|exact rwX)
     ·have hsn : p.side.toNat = 1 := by omega
      have hkh : k < p.h1.length := by omega
      have hhv := hp.h1.v k hkh
      have hD' : zfA g p k c = if nth p.h1 k = 0 ∨ nth p.at_ c ≠ 0 then none else some { p with at_ := p.at_.set c (zaD k p.side), h1 := p.h1.set k (nth p.h1 k - 1), side := 1 - p.side } := by
       rw [hD]; simp [zaj.hand, zaj.withHand, hsd]
      repeat first|with_reducible refine wV fun _=>?_|simp [go_sem, hsn, hkh, hci]
      refine zBo (fun hcc => ?_) (fun hcc => ?_) <;> simp at hcc
      ·rw [if_pos (by omega)] at hD'
       have hsu := zcw g p k c
       rw [hD'] at hsu
       simp only [Option.toList_none, List.append_nil] at hsu
       repeat first|with_reducible refine wV fun _=>?_|simp [go_sem]
       refine zBm (hrec2 (d2 - 1) (by omega) (c + 1) (by omega)) ?_ (by simp)
       simp [go_sem, zah, hsu]
      ·rw [if_neg (by omega)] at hD'
       have hsu := zcw g p k c
       rw [hD'] at hsu
       simp only [Option.toList_some] at hsu
       have hcl := zf3 g p k c
       have hkm : k * p.at_.length ≤ 6 * 9 := Nat.mul_le_mul (by omega) (by omega)
       repeat first|with_reducible refine wV fun _=>?_|simp [go_sem, hci]
       refine zBs hcp (by simp [go_sem]) ?_
       repeat first|with_reducible refine wV fun _=>?_|simp [go_sem, hci]
       refine zBq (zdl (k : Int) p.side) (by simp [go_sem]) ?_
       repeat first|with_reducible refine wV fun _=>?_|simp [go_sem, hsn, hci, hkh]
       refine zBm (hrec2 (d2 - 1) (by omega) (c + 1) (by omega)) ?_ (by simp)
       simp [go_sem, zah, hsu]
       (first|done|exact rwX)
    ·have hcl : c = p.at_.length := by omega
     subst hcl
     rw [ha]
     repeat first|with_reducible refine wV fun _=>?_|simp [go_sem]
     refine zBm (hrec (d - 1) (by omega) (k + 1) (by omega)) ?_ (by simp)
     simp [go_sem, zah]
   ·omega
   ·simp [go_sem, zah, hz]
   ·simp
  ·have hkl : k = g.kinds.length := by omega
   subst hkl
   have hdl := zeB g p g.kinds.length
   have hkm : g.kinds.length * p.at_.length ≤ 6 * 9 := Nat.mul_le_mul k6 (by omega)
   have hS := zeU (zbE g p g.kinds.length) (by omega) (fun q hq => by
    rw [zf4] at hq
    obtain ⟨k, hk, hq⟩ := List.mem_flatMap.1 hq
    obtain ⟨c, hc, hq⟩ := List.mem_filterMap.1 hq
    exact (zi6 hg hp (by simpa using hk) hq).1.fits hg)
   rw [show zbp zbB (zbE g p g.kinds.length) = zcK g p from rfl] at hS
   generalize zbE g p g.kinds.length = l at *
   generalize zcK g p = r at *
   repeat first|with_reducible refine wV fun _=>?_|simp [go_sem]
   refine zBt [2] hS ?_ (zxq (zce _)) ?_
   ·(first|done|exact agX)
   ·repeat first|with_reducible refine wV fun _=>?_|simp [go_sem]
 ·omega
 ·simp [go_sem, zah, show zbE g p 0 = [] from rfl]
 ·simp
theorem zsu {g : zaf} (hg : GOk g) : ∀ (l : List Int) {p : zaj}, POk g p → ∀ q ∈ zfX g p l, POk g q
 | [], p, hp, q, hq => by simp [zfX] at hq; subst hq; exact hp
 | k :: l, p, hp, q, hq => by
  rw [zfX] at hq
  split at hq
  ·simp at hq; subst hq; exact hp
  ·rename_i hne
   rcases List.mem_cons.1 hq with rfl | hq
   ·exact hp
   ·refine zsu hg l ((zc8 hg hp) _ (zan ?_)).1 q hq
    have hpos : 0 < (zaH g p).length := List.length_pos_iff.2 hne
    have h1 : 0 ≤ k.emod (zaH g p).length := Int.emod_nonneg k (show ((zaH g p).length : Int) ≠ 0 by omega)
    have h2 : k.emod (zaH g p).length < (zaH g p).length := Int.emod_lt_of_pos k (show (0 : Int) < (zaH g p).length by omega)
    omega
theorem zst (g : zaf) (p : zaj) (l : List Int) : zfX g p l ≠ [] := by
 cases l with
 | nil => simp [zfX]
 | cons k l => rw [zfX]; split <;> simp
theorem zpE (g : zaf) : ∀ (l : List Int) (p : zaj), (zfX g p l).length ≤ l.length + 1
 | [], p => by simp [zfX]
 | k :: l, p => by
  rw [zfX]
  split
  ·simp
  ·have := zpE g l (nth (zaH g p) (k.emod (zaH g p).length).toNat)
   simp; omega
def zcD (l : List Int) : Int := ((l.countP fun c => decide (c ≠ 0) : Nat) : Int)
def ziX : List Int → Int
 | [] => 0
 | x :: l => x + ziX l
def zfl (p : zaj) : Int := zcD p.at_ + (ziX p.h0 + ziX p.h1)
theorem zhr (x : Int) (l : List Int) : nth (x :: l) 0 = x := rfl
theorem zhq (x : Int) (l : List Int) (i : Nat) : nth (x :: l) (i + 1) = nth l i := rfl
theorem zdo : ∀ (l : List Int) (i : Nat) (v : Int), i < l.length → zcD (l.set i v) + (if nth l i = 0 then 0 else 1) = zcD l + (if v = 0 then 0 else 1)
 | [], i, v, h => by simp at h
 | x :: l, 0, v, h => by
  rw [List.set_cons_zero, zhr]
  unfold zcD
  rw [List.countP_cons, List.countP_cons]
  by_cases hx : x = 0 <;> by_cases hv : v = 0 <;> simp [hx, hv] <;> omega
 | x :: l, i + 1, v, h => by
  have ih := zdo l i v (by simpa using h)
  rw [List.set_cons_succ, zhq]
  unfold zcD at ih ⊢
  rw [List.countP_cons, List.countP_cons]
  by_cases hx : x = 0 <;> simp [hx] at ih ⊢ <;> omega
theorem znx : ∀ (l : List Int) (i : Nat) (v : Int), i < l.length → ziX (l.set i v) + nth l i = ziX l + v
 | [], i, v, h => by simp at h
 | x :: l, 0, v, h => by
  rw [List.set_cons_zero, zhr, ziX, ziX]
  omega
 | x :: l, i + 1, v, h => by
  have ih := znx l i v (by simpa using h)
  rw [List.set_cons_succ, zhq, ziX, ziX]
  omega
theorem zpc (p : zaj) (side : Int) (l : List Int) : zfl (p.withHand side l) + ziX (p.hand side) = zfl p + ziX l := by
 unfold zfl zaj.withHand zaj.hand
 split <;> simp only <;> omega
theorem zki (p : zaj) (l : List Int) : zfl { p with at_ := l } + zcD p.at_ = zfl p + zcD l := by
 unfold zfl
 simp only
 omega
theorem zyW {g : zaf} (hg : GOk g) {side : Int} (hs : side = 0 ∨ side = 1) {t : TkD} (ht : POk g t.p) {x : zct} (hx : zdg g.cells g.kinds.length g.rights x) (h : (doA g side t x).2 = true) :
  zfl (doA g side t x).1.p ≤ zfl t.p ∧ zfl t.p ≤ zfl (doA g side t x).1.p + (if x.1 = 6 then 1 else 0) := by
 obtain ⟨op, a, b⟩ := x
 unfold zdg at hx
 simp only at hx
 have hal := ht.al
 rcases (show op = 3 ∨ op = 4 ∨ op = 5 ∨ op = 6 ∨ op = 7 ∨ op = 8 ∨ op = 9 ∨ op = 10 by omega) with rfl | rfl | rfl | rfl | rfl | rfl | rfl | rfl
 ·exact ⟨Int.le_refl _, by simp; exact Int.le_refl _⟩
 ·exact ⟨Int.le_refl _, by simp; exact Int.le_refl _⟩
 ·exact ⟨Int.le_refl _, by simp; exact Int.le_refl _⟩
 ·have hat := ht.at (i := a.toNat) (by omega)
  have hman := zaU hat.1 hat.2 hg.k6
  have hdo : doA g side t (6, a, b) = zgY g side t a := rfl
  rw [hdo] at h ⊢
  unfold zgY at h ⊢
  simp only at h ⊢
  split
  ·rename_i hm
   rw [if_pos hm] at h
   simp at h
  ·rename_i hm
   rcases hman with ⟨_, e⟩ | ⟨hne, e1, e2, e3, e4⟩
   ·rw [e] at hm
    simp at hm
    omega
   ·have hbo := zdo t.p.at_ a.toNat 0 (by omega)
    rw [if_neg hne, if_pos rfl] at hbo
    have hcl := zki t.p (t.p.at_.set a.toNat 0)
    have hce : clr t.p a = { t.p with at_ := t.p.at_.set a.toNat 0 } := rfl
    rw [← hce] at hcl
    simp only [if_true]
    split
    ·have hh := ht.hand side
     have hkh : (zaq (nth t.p.at_ a.toNat)).1.toNat < (t.p.hand side).length := by rw [hh.len]; omega
     have h1 := zpc (clr t.p a) side ((t.p.hand side).set (zaq (nth t.p.at_ a.toNat)).1.toNat (nth (t.p.hand side) (zaq (nth t.p.at_ a.toNat)).1.toNat + 1))
     have h2 := znx (t.p.hand side) _ (nth (t.p.hand side) (zaq (nth t.p.at_ a.toNat)).1.toNat + 1) hkh
     have h3 : (clr t.p a).hand side = t.p.hand side := rfl
     rw [h3] at h1
     dsimp only
     constructor <;> omega
    ·dsimp only
     constructor <;> omega
 ·have hdo : doA g side t (7, a, b) = zgR t a b := rfl
  rw [hdo] at h ⊢
  unfold zgR at h ⊢
  split
  ·rename_i hm
   rw [if_pos hm] at h
   simp at h
  ·rename_i hm
   have hm1 : nth t.p.at_ a.toNat ≠ 0 := fun e => hm (.inl e)
   have hm2 : nth t.p.at_ b.toNat = 0 := Classical.byContradiction fun e => hm (.inr e)
   have hab : b.toNat ≠ a.toNat := fun e => hm1 (by rw [← e]; exact hm2)
   have b1 := zdo t.p.at_ b.toNat (nth t.p.at_ a.toNat) (by omega)
   have b2 := zdo (t.p.at_.set b.toNat (nth t.p.at_ a.toNat)) a.toNat 0 (by rw [List.length_set]; omega)
   have hn2 : nth (t.p.at_.set b.toNat (nth t.p.at_ a.toNat)) a.toNat = nth t.p.at_ a.toNat := by rw [zcr, if_neg (fun h => hab h.1)]
   rw [hn2] at b2
   have b3 := zki t.p ((t.p.at_.set b.toNat (nth t.p.at_ a.toNat)).set a.toNat 0)
   simp only [hm1, hm2, if_true, if_false] at b1 b2
   dsimp only
   rw [if_neg (by decide)]
   constructor <;> omega
 ·exact ⟨Int.le_refl _, by simp; exact Int.le_refl _⟩
 ·exact ⟨Int.le_refl _, by simp; exact Int.le_refl _⟩
 ·exact ⟨Int.le_refl _, by simp; exact Int.le_refl _⟩
theorem zpb {g : zaf} (hg : GOk g) {side : Int} (hs : side = 0 ∨ side = 1) : ∀ {l : List zct} {t u : TkD}, POk g t.p → (∀ a ∈ l, zdg g.cells g.kinds.length g.rights a) → zdY g side t l = some u →
  zfl u.p ≤ zfl t.p ∧ zfl t.p ≤ zfl u.p + za3 l 6
 | [], t, u, ht, _, h => by
  simp only [zdY, Option.some.injEq] at h
  subst h
  exact ⟨Int.le_refl _, by simp [za3]⟩
 | x :: l, t, u, ht, hl, h => by
  simp only [zdY] at h
  split at h
  ·rename_i hd
   have h1 := zrS hg hs ht (hl x (by simp)) hd
   obtain ⟨i1, i2⟩ := zpb hg hs h1 (fun a ha => hl a (by simp [ha])) h
   obtain ⟨m1, m2⟩ := zyW hg hs ht (hl x (by simp)) hd
   have hc : za3 (x :: l) 6 = za3 l 6 + if x.1 = 6 then 1 else 0 := by
    unfold za3
    rw [List.countP_cons]
    by_cases h6 : x.1 = 6 <;> simp [h6]
   rw [hc]
   refine ⟨by omega, ?_⟩
   by_cases h6 : x.1 = 6
   ·rw [if_pos h6] at m2 ⊢; omega
   ·rw [if_neg h6] at m2 ⊢; omega
  ·cases h
def zsp (b a : Int) : Bool := decide (zhO .i64 a b = b)
def zw7 : Bool := (List.range 16).all fun (a : Nat) => zsp (a : Int) (a : Int) && ((List.range 4).all fun (n : Nat) => zsp (zbz .i64 (a : Int) (2 ^ n)) (a : Int) && decide (0 ≤ zbz .i64 (a : Int) (2 ^ n) ∧ zbz .i64 (a : Int) (2 ^ n) ≤ a))
def subTr : Bool := (List.range 16).all fun (a : Nat) => (List.range 16).all fun (b : Nat) => !zsp (b : Int) (a : Int) || (List.range 16).all fun (c : Nat) => !zsp (c : Int) (b : Int) || zsp (c : Int) (a : Int)
theorem zkN : zw7 = true := by kernel_rfl
theorem zuw : subTr = true := by kernel_rfl
theorem zkO {a : Int} (h0 : 0 ≤ a) (h1 : a < 16) : zsp a a = true := by
 have key := zkN
 unfold zw7 at key
 have k1 := List.all_eq_true.1 key a.toNat (List.mem_range.2 (by omega))
 rw [Int.toNat_of_nonneg h0, Bool.and_eq_true] at k1
 exact k1.1
theorem zw8 {a : Int} (h0 : 0 ≤ a) (h1 : a < 16) {n : Nat} (hn : n < 4) : zsp (zbz .i64 a (2 ^ n)) a = true := by
 have key := zkN
 unfold zw7 at key
 have k1 := List.all_eq_true.1 key a.toNat (List.mem_range.2 (by omega))
 rw [Int.toNat_of_nonneg h0, Bool.and_eq_true] at k1
 have k2 := List.all_eq_true.1 k1.2 n (List.mem_range.2 hn)
 rw [Bool.and_eq_true] at k2
 exact k2.1
theorem zuv {a b c : Int} (a0 : 0 ≤ a) (a1 : a < 16) (b0 : 0 ≤ b) (b1 : b < 16) (c0 : 0 ≤ c) (c1 : c < 16) (h1 : zsp b a = true) (h2 : zsp c b = true) : zsp c a = true := by
 have key := zuw
 unfold subTr at key
 have k1 := List.all_eq_true.1 key a.toNat (List.mem_range.2 (by omega))
 have k2 := List.all_eq_true.1 k1 b.toNat (List.mem_range.2 (by omega))
 rw [Int.toNat_of_nonneg a0, Int.toNat_of_nonneg b0, h1] at k2
 simp only [Bool.not_true, Bool.false_or] at k2
 have k3 := List.all_eq_true.1 k2 c.toNat (List.mem_range.2 (by omega))
 rw [Int.toNat_of_nonneg c0, h2] at k3
 simpa using k3
theorem zzd {g : zaf} (hg : GOk g) {side : Int} {t : TkD} (ht : POk g t.p) {x : zct} (hx : zdg g.cells g.kinds.length g.rights x) : zsp (doA g side t x).1.p.rights t.p.rights = true := by
 have hself := zkO ht.r0 (zdc hg ht)
 have r4 := hg.r4
 obtain ⟨op, a, b⟩ := x
 unfold zdg at hx
 simp only at hx
 rcases (show op = 3 ∨ op = 4 ∨ op = 5 ∨ op = 6 ∨ op = 7 ∨ op = 8 ∨ op = 9 ∨ op = 10 by omega) with rfl | rfl | rfl | rfl | rfl | rfl | rfl | rfl
 ·exact hself
 ·exact hself
 ·exact hself
 ·have hdo : doA g side t (6, a, b) = zgY g side t a := rfl
  rw [hdo]
  have hw : ∀ (P : zaj) (L : List Int), (P.withHand side L).rights = P.rights := fun P L => by unfold zaj.withHand; split <;> rfl
  unfold zgY
  simp only
  repeat' split
  ·exact hself
  ·rw [hw]; exact hself
  ·exact hself
 ·have hdo : doA g side t (7, a, b) = zgR t a b := rfl
  rw [hdo]
  unfold zgR
  split <;> exact hself
 ·exact hself
 ·exact hself
 ·exact zw8 ht.r0 (zdc hg ht) (n := a.toNat) (by omega)
theorem zpz {g : zaf} (hg : GOk g) {side : Int} (hs : side = 0 ∨ side = 1) : ∀ {l : List zct} {t u : TkD}, POk g t.p → (∀ a ∈ l, zdg g.cells g.kinds.length g.rights a) → zdY g side t l = some u → zsp u.p.rights t.p.rights = true
 | [], t, u, ht, _, h => by
  simp only [zdY, Option.some.injEq] at h
  subst h
  exact zkO ht.r0 (zdc hg ht)
 | x :: l, t, u, ht, hl, h => by
  simp only [zdY] at h
  split at h
  ·rename_i hd
   have h1 := zrS hg hs ht (hl x (by simp)) hd
   have h2 := zm6 hg hs h1 (fun a ha => hl a (by simp [ha])) h
   have ih := zpz hg hs h1 (fun a ha => hl a (by simp [ha])) h
   exact zuv ht.r0 (zdc hg ht) h1.r0 (zdc hg h1) h2.r0 (zdc hg h2) (zzd hg ht (hl x (by simp))) ih
  ·cases h
theorem zwB {g : zaf} (hg : GOk g) {q p : zaj} (hq : POk g q) (hp : p ∈ zaH g q) : (zfl p ≤ zfl q ∧ zfl q ≤ zfl p + 2) ∧ zsp p.rights q.rights = true := by
 have hal := hq.al
 rcases (zmc.1 hp).2 with ⟨o, ho, _, rfl⟩ | ⟨_, hd⟩
 ·obtain ⟨c, c1, h0, hside, ho⟩ := (zo9 hg hq).1 ho
  have hat := hq.at (i := c) (by omega)
  unfold runO at ho
  simp only [Int.toNat_natCast] at ho
  rw [if_neg h0, zbc] at ho
  unfold zwO at ho
  obtain ⟨w, hw, hwo⟩ := List.mem_filterMap.1 ho
  simp only [Int.toNat_natCast] at hwo
  rw [hside] at hwo
  unfold znt at hw
  simp only [Int.toNat_natCast] at hw
  rw [hside] at hw
  rcases zaU hat.1 hat.2 hg.k6 with ⟨hz, _⟩ | ⟨_, e1, e2, e3, _⟩
  ·exact absurd hz h0
  have hkl : (zaq (nth q.at_ c)).1.toNat < g.kinds.length := by omega
  have hpo := zf7 hg (side := q.side) (zan hkl) (cell := (c : Int)) ⟨by omega, c1⟩ w hw
  unfold zt2 stW at hwo
  cases hd : zdY g q.side (zde q c) w.acts with
  | none => rw [hd] at hwo; simp at hwo
  | some u =>
   rw [hd] at hwo
   simp only [Option.map_some, Option.bind_some] at hwo
   have hst : POk g (zde q c).p := hq.clr c
   have hu := zm6 hg hq.s hst hpo.acts hd
   have hual := hu.al
   have hto := hpo.to
   have hta := hpo.take
   obtain ⟨m1, m2⟩ := zpb hg hq.s hst hpo.acts hd
   have hr := zpz hg hq.s hst hpo.acts hd
   have hkind : 0 ≤ u.kind ∧ u.kind < g.kinds.length := zjT hpo.acts hd (by show 0 ≤ (zaq (nth q.at_ (c : Int).toNat)).1 ∧ (zaq (nth q.at_ (c : Int).toNat)).1 < g.kinds.length; rw [Int.toNat_natCast]; omega)
   have hk6 := hg.k6
   have hcode : zaD u.kind q.side ≠ 0 := by
    rcases hq.s with h | h <;> rw [h] <;> unfold zaD <;> rw [if_pos ⟨⟨by omega, by omega⟩, by omega, by omega⟩] <;> omega
   unfold zgm at hwo
   split at hwo
   ·rename_i hz
    simp only [stT] at hz hwo
    simp only [Option.some.injEq] at hwo
    subst hwo
    simp only
    have b1 := zdo q.at_ c 0 (by omega)
    rw [if_neg h0, if_pos rfl] at b1
    have b2 := zki q (q.at_.set c 0)
    have b3 : (zde q c).p = { q with at_ := q.at_.set c 0 } := rfl
    rw [b3] at m1 m2
    have b4 := zdo u.p.at_ w.to.toNat (zaD u.kind q.side) (by omega)
    rw [if_pos hz, if_neg hcode] at b4
    have b5 : zfl ⟨u.p.at_.set w.to.toNat (zaD u.kind q.side), u.p.h0, u.p.h1, u.p.rights, 1 - q.side⟩ + zcD u.p.at_ = zfl u.p + zcD (u.p.at_.set w.to.toNat (zaD u.kind q.side)) := zki u.p (u.p.at_.set w.to.toNat (zaD u.kind q.side))
    have b7 : zfl { q with at_ := q.at_.set c 0 } = zfl (zde q c).p := rfl
    generalize zfl ⟨u.p.at_.set w.to.toNat (zaD u.kind q.side), u.p.h0, u.p.h1, u.p.rights, 1 - q.side⟩ = G at *
    exact ⟨⟨by omega, by omega⟩, hr⟩
   ·cases hwo
 ·unfold zcK at hd
  rw [zbc] at hd
  obtain ⟨k, hk, hd⟩ := List.mem_flatMap.1 hd
  obtain ⟨c, hc, hd⟩ := List.mem_filterMap.1 hd
  have hk := List.mem_range.1 hk
  have hc := List.mem_range.1 hc
  have hh := hq.hand q.side
  have hkh : k < (q.hand q.side).length := by rw [hh.len]; exact hk
  have hk6 := hg.k6
  unfold zfA at hd
  split at hd
  ·cases hd
  rename_i hn
  have hn2 : nth q.at_ c = 0 := Classical.byContradiction fun h => hn (.inr h)
  simp only [Option.some.injEq] at hd
  have hcode : zaD k q.side ≠ 0 := by
   rcases hq.s with h | h <;> rw [h] <;> unfold zaD <;> rw [if_pos ⟨⟨by omega, by omega⟩, by omega, by omega⟩] <;> omega
  have b1 := zdo q.at_ c (zaD k q.side) hc
  rw [if_pos hn2, if_neg hcode] at b1
  have b2 := zki q (q.at_.set c (zaD k q.side))
  have b3 := zpc { q with at_ := q.at_.set c (zaD k q.side) } q.side ((q.hand q.side).set k (nth (q.hand q.side) k - 1))
  have b4 := znx (q.hand q.side) k (nth (q.hand q.side) k - 1) hkh
  have b5 : ({ q with at_ := q.at_.set c (zaD k q.side) } : zaj).hand q.side = q.hand q.side := rfl
  rw [b5] at b3
  have b6 : ∀ (P : zaj) (s : Int), zfl { P with side := s } = zfl P := fun _ _ => rfl
  have b7 : ∀ (P : zaj) (L : List Int) (s : Int), ({ (P.withHand q.side L) with side := s } : zaj).rights = P.rights := fun P L s => by unfold zaj.withHand; split <;> rfl
  rw [← hd, b6, b7]
  exact ⟨⟨by omega, by omega⟩, (zkO hq.r0 (zdc hg hq) : zsp q.rights q.rights = true)⟩
end Go.Av
end
