/- Contracts: Walk of the reference, for any picks. -/
import Derived.Test.YtjajfalomchohaaGreatDoorGR
import Derived.Test.YtjajfalomchohaaGreatDoorDB
import Derived.Test.YtjajfalomchohaaGreatDoorDX
set_option linter.unusedSimpArgs false
set_option linter.unusedVariables false
section
open Go Go.Proofs
set_option maxRecDepth 20000
set_option maxHeartbeats 4000000
namespace Go.Av
theorem tmod_or (k : Int) {n : Int} (hn : 0 < n) : k.tmod n = k.emod n ∨ k.tmod n = k.emod n - n := by
 show k.tmod n = k % n ∨ k.tmod n = k % n - n
 rw [Int.tmod_eq_emod]
 split
 ·left; omega
 ·right; omega
theorem R6WalkA_pure (g : GameD) (hg : GOk g) (p : PosD) (hp : POk g p) (picks : List Int) (hl : picks.length ≤ 4294967296) :
  Pure Tryz.prog 20 [.agg (encGame g), .agg (encPos p), encIs picks] (encPs (walkP g p picks)) := by
 refine pF Tryz.func20 ?_
 generalize hR : walkP g p picks = R
 (repeat (first|with_reducible (first|refine wL fun _=>?_|refine wD fun _=>?_|refine wE ?_|refine wZ ?_)|simp [go_sem]))
 refine ALoop.start (ALoop.ind (α := Nat × List PosD × PosD) (fun a => ⟨[(2, encIs picks), (3, .ref 0 0 9 0 0), (4, .ref 1 0 5 0 0), (7, .sl 2 a.2.1.length 5 0 (a.2.1.length + 1)), (8, .v (.int .i64 a.1))], [(0, .rows true 0 9 [encGame g]), (1, .rows true 0 5 [encPos a.2.2]), (2, .rows true a.2.1.length 5 ((a.2.1 ++ [a.2.2]).map encPos))], 3⟩)
  (fun d a => a.1 + d = picks.length ∧ a.2.1.length = a.1 ∧ POk g a.2.2 ∧ R = a.2.1 ++ walkP g a.2.2 (picks.drop a.1)) ?_ picks.length (0, [], p) ?_) ?_ ?_
 ·rintro d ⟨i, pre, cur⟩ ⟨i1, i2, i3, i4⟩ hrec
  simp only at i1 i2 i3 i4
  (repeat (first|with_reducible (first|refine wL fun _=>?_|refine wD fun _=>?_|refine wE ?_|refine wZ ?_)|simp [go_sem]))
  refine aIf.mkL (fun hi => ?_) (fun hi => ?_) <;> simp at hi
  ·have hM := R6Moves_pure g hg cur i3
   have hml := movesP_len hg i3
   have hmo := movesP_ok hg i3
   rw [dropG_cons hi, walkP] at i4
   generalize movesP g cur = l at *
   (repeat (first|with_reducible (first|refine wL fun _=>?_|refine wD fun _=>?_|refine wE ?_|refine wZ ?_)|simp [go_sem]))
   refine ACallP.plain hM (by simp [go_sem]) ?_
   (repeat (first|with_reducible (first|refine wL fun _=>?_|refine wD fun _=>?_|refine wE ?_|refine wZ ?_)|simp [go_sem]))
   by_cases hz : l = []
   ·rw [if_pos hz] at i4
    subst hz
    (repeat (first|with_reducible (first|refine wL fun _=>?_|refine wD fun _=>?_|refine wE ?_|refine wZ ?_)|simp [go_sem]))
    rw [i4]
    (refine leV_frz rfl (by simp) (by simp [noH, upd]) ?_; first | (simp [go_sem]; done) | (simp [go_sem]; exact List.take_of_length_le (by simp)))
   ·rw [if_neg hz] at i4
    have hlp : 0 < l.length := List.length_pos_iff.2 hz
    have e2 : 0 ≤ (nth picks i).emod l.length := Int.emod_nonneg _ (by omega)
    have e3 : (nth picks i).emod l.length < l.length := Int.emod_lt_of_pos _ (by omega)
    have h3 : (nth picks i).tmod l.length = (nth picks i).emod l.length ∨ (nth picks i).tmod l.length = (nth picks i).emod l.length - l.length := tmod_or (nth picks i) (by omega)
    generalize (nth picks i).emod l.length = j at *
    have hjl : j.toNat < l.length := by omega
    rcases h3 with e1 | e1
    ·(repeat (first|with_reducible (first|refine wL fun _=>?_|refine wD fun _=>?_|refine wE ?_|refine wZ ?_)|simp [go_sem, hi, hz, e1, hjl]))
     (refine aIf.mkL (fun hF => by first | omega | (simp at hF; omega)) (fun hF => ?_); clear hF)
     (repeat (first|with_reducible (first|refine wL fun _=>?_|refine wD fun _=>?_|refine wE ?_|refine wZ ?_)|simp [go_sem, hjl]))
     refine ALoop.start (hrec (d - 1) (by omega) (i + 1, pre ++ [cur], nth l j.toNat) ⟨by simp only; omega, by simp; omega, (hmo _ (nth_mem hjl)).1, by simpa using i4⟩) ?_ (by simp)
     simp [go_sem, Wk_eq]
    ·have e4 : j - (l.length : Int) + l.length = j := by omega
     (repeat (first|with_reducible (first|refine wL fun _=>?_|refine wD fun _=>?_|refine wE ?_|refine wZ ?_)|simp [go_sem, hi, hz, e1, hjl, e4]))
     (refine aIf.mkL (fun hT => ?_) (fun hT => by first | omega | (simp at hT; omega)); clear hT)
     (repeat (first|with_reducible (first|refine wL fun _=>?_|refine wD fun _=>?_|refine wE ?_|refine wZ ?_)|simp [go_sem, hjl, e4]))
     refine ALoop.start (hrec (d - 1) (by omega) (i + 1, pre ++ [cur], nth l j.toNat) ⟨by simp only; omega, by simp; omega, (hmo _ (nth_mem hjl)).1, by simpa using i4⟩) ?_ (by simp)
     simp [go_sem, Wk_eq]
  ·rw [List.drop_eq_nil_of_le hi, walkP] at i4
   (repeat (first|with_reducible (first|refine wL fun _=>?_|refine wD fun _=>?_|refine wE ?_|refine wZ ?_)|simp [go_sem]))
   rw [i4]
   (refine leV_frz rfl (by simp) (by simp [noH, upd]) ?_; first | (simp [go_sem]; done) | (simp [go_sem]; exact List.take_of_length_le (by simp)))
 ·exact ⟨by simp, rfl, hp, by simp [hR]⟩
 ·simp [go_sem, Wk_eq]
 ·simp
end Go.Av
end
section
open Go Go.Proofs
set_option maxRecDepth 20000
set_option maxHeartbeats 4000000
namespace Go.Av
theorem R3Made_pure (x : RawG) (hx : RawOk x) (hl : x.c.length ≤ 1099511627776) (hl0 : x.k0.length ≤ 1099511627776) (hl1 : x.k1.length ≤ 1099511627776) : Pure Tryz.prog 62 [.agg (encRaw x)] (.agg (encGame (madeG x))) := by
 refine pF Tryz.func62 ?_
 obtain ⟨eg, heg⟩ : ∃ eg, eg = encGame (madeG x) := ⟨_, rfl⟩
 rw [← heg]
 have hB := R1Made_pure x.w x.h x.cut hx.w hx.h hx.cut
 have hok := boardOk_made hx.w.1 hx.h.1 x.cut
 have hb : madeB x.w x.h x.cut = x.board := rfl
 rw [hb] at hB hok
 have r0 := Int.tmod_nonneg 3 hx.f0.1
 have r1 := Int.tmod_lt_of_pos x.f0 (show (0 : Int) < 3 by decide)
 have f0 : 0 ≤ x.f0 ∧ x.f0 ≤ 255 := hx.f0
 have f1 : 0 ≤ x.f1 ∧ x.f1 ≤ 255 := hx.f1
 have f2 : 0 ≤ x.f2 ∧ x.f2 ≤ 255 := hx.f2
 have f3 : 0 ≤ x.f3 ∧ x.f3 ≤ 255 := hx.f3
 have f4 : 0 ≤ x.f4 ∧ x.f4 ≤ 255 := hx.f4
 have m1 := Int.tmod_nonneg 4 hx.f1.1
 have m3 := Int.tmod_nonneg 4 hx.f3.1
 have m4 := Int.tmod_nonneg 4 hx.f4.1
 have qq : ∀ n : Int, U8 n → (0 ≤ n.tdiv 4 ∧ n.tdiv 4 ≤ 63) ∧ 0 ≤ (n.tdiv 4).tmod 3 ∧ (n.tdiv 4).tmod 3 < 3 := fun n hn => by
  have h : n.tdiv 4 = n / 4 := Int.tdiv_eq_ediv_of_nonneg hn.1
  have h1 := hn.1
  have h2 := hn.2
  have h3 := Int.tmod_nonneg 3 (show 0 ≤ n.tdiv 4 by omega)
  have h4 := Int.tmod_lt_of_pos (n.tdiv 4) (show (0 : Int) < 3 by decide)
  omega
 obtain ⟨q3, q3'⟩ := qq _ hx.f3
 obtain ⟨q4, q4'⟩ := qq _ hx.f4
 obtain ⟨bl, hbl⟩ : ∃ bl, bl = if x.f3.tmod 4 = 3 then 1 + (x.f3.tdiv 4).tmod 3 else 3 := ⟨_, rfl⟩
 obtain ⟨en, hen⟩ : ∃ en, en = if x.f4.tmod 4 = 3 then 1 + (x.f4.tdiv 4).tmod 3 else 2 := ⟨_, rfl⟩
 obtain ⟨R, hR⟩ : ∃ R, R = x.rights := ⟨_, rfl⟩
 have hR' : x.f0.tmod 3 = R := by rw [hR]; rfl
 obtain ⟨b, hbb⟩ : ∃ b, b = x.board := ⟨_, rfl⟩
 rw [← hbb] at hB hok
 (repeat (first|with_reducible (first|refine wL fun _=>?_|refine wD fun _=>?_|refine wE ?_|refine wZ ?_)|simp [go_sem]))
 refine dCall.plain hB (by simp [go_sem]) ?_
 (repeat (first|with_reducible (first|refine wL fun _=>?_|refine wD fun _=>?_|refine wE ?_|refine wZ ?_)|simp [go_sem, hR']))
 have hd8 : b.next.length = 8 := by rw [hbb]; exact madeB_dirs _ _ _
 have hcell : 1 ≤ b.cells ∧ b.cells ≤ 9 := by rw [hbb]; exact madeB_cells hx.w.1 hx.h.1 _
 obtain ⟨K, hK⟩ : ∃ K : Nat, K = kindsN x := ⟨_, rfl⟩
 have hKn : kindsN x = if x.k1.length = 0 then 1 else 2 := by unfold kindsN; simp only [List.length_eq_zero_iff]
 have hKl : ∀ i, (x.ks i).length ≤ 1099511627776 := fun i => by unfold RawG.ks; split <;> assumption
 have hKv : ∀ i, ∀ n ∈ x.ks i, U8 n := fun i => by unfold RawG.ks; split; exact hx.k0; exact hx.k1
 refine aIf.mkL (fun hk1 => ?_) (fun hk1 => ?_) <;> simp at hk1
 ·have hK2 : kindsN x = 2 := by rw [hKn, if_neg (by omega)]
  rw [hK2] at hK
  (repeat (first|with_reducible (first|refine wL fun _=>?_|refine wD fun _=>?_|refine wE ?_|refine wZ ?_)|simp [go_sem]))
  refine ALoop.start (ALoop.ind (α := Nat) (fun a => ⟨[(1, .ref 0 0 12 0 0), (2, .ref 1 0 9 0 0), (3, .ref 20 0 9 0 0), (4, .v (.int .i64 K)), (5, .v (.int .i64 a))],
   [(0, .rows true 0 12 [encRaw x]), (1, .rows true 0 9 [[.v (.int .i64 0), AV.nils, AV.nils, AV.nils, .v (.int .i64 0), .v (.bool false), AV.nils, .v (.int .i64 0), .v (.int .i64 0)]]), (20, .rows true 0 9 [[.v (.int .i64 b.cells), encIss b.next, encIs b.turn, .sl 22 a 3 0 a, .v (.int .i64 R), .v (.bool (decide (x.f1.tmod 4 = 3))), AV.nils, .v (.int .i64 3), .v (.int .i64 2)]]), (22, .rows true a 3 (ksR x a))], 23⟩)
   (fun d a => a + d = K) ?_ K 0 ?_) ?_ ?_
  ·rintro d0 i i1 hrec
   (repeat (first|with_reducible (first|refine wL fun _=>?_|refine wD fun _=>?_|refine wE ?_|refine wZ ?_)|simp [go_sem]))
   refine aIf.mkL (fun hi => ?_) (fun hi => ?_) <;> simp at hi
   ·have hi2 : i = 0 ∨ i = 1 := by omega
    have hkl := hKl i
    have hkv := hKv i
    have hks : kindOf x i = ⟨if i = 0 then nameA else nameB, ((x.ks i).take 4).map (fun n => madeP n b.next.length K x.rights), bitU x.f2 i⟩ := by rw [hbb, hK, ← hK2]; rfl
    rcases hi2 with rfl | rfl
    ·obtain ⟨kk, hkk⟩ : ∃ kk, kk = x.ks 0 := ⟨_, rfl⟩
     have hk0 : x.k0 = kk := hkk.symm
     rw [← hkk] at hkl hkv hks
     have hbit : bitU x.f2 0 = decide (andN .u8 x.f2 1 = 1) := by simp [bitU]
     obtain ⟨f, hf⟩ : ∃ f, f = (fun n => madeP n b.next.length K x.rights) := ⟨_, rfl⟩
     have hfp : ∀ n, U8 n → Pure Tryz.prog 136 [.v (.int .u8 n), .v (.int .i64 b.next.length), .v (.int .i64 K), .v (.int .i64 R)] (encProg (f n)) := fun n hn => by
      rw [hf, ← hR]; exact R2Made_pure n _ _ _ hn (by omega) (by omega) (by omega)
     rw [← hf, hbit] at hks
     (repeat (first|with_reducible (first|refine wL fun _=>?_|refine wD fun _=>?_|refine wE ?_|refine wZ ?_)|simp [go_sem, hk0]))
     refine ALoop.start (ALoop.ind (α := Nat) (fun n => ⟨[(1, .ref 0 0 12 0 0), (2, .ref 1 0 9 0 0), (3, .ref 20 0 9 0 0), (4, .v (.int .i64 K)), (5, .v (.int .i64 0)), (6, .ref 35 0 3 0 0), (7, .v (.int .i64 n))],
      [(0, .rows true 0 12 [encRaw x]), (1, .rows true 0 9 [[.v (.int .i64 0), AV.nils, AV.nils, AV.nils, .v (.int .i64 0), .v (.bool false), AV.nils, .v (.int .i64 0), .v (.int .i64 0)]]), (20, .rows true 0 9 [[.v (.int .i64 b.cells), encIss b.next, encIs b.turn, .sl 22 0 3 0 0, .v (.int .i64 R), .v (.bool (decide (x.f1.tmod 4 = 3))), AV.nils, .v (.int .i64 3), .v (.int .i64 2)]]), (22, .rows true 0 3 (ksR x 0)), (35, .rows true 0 3 [[.v (.string ⟨#[97]⟩), .sl 37 n 1 0 n, .v (.bool (decide (andN .u8 x.f2 1 = 1)))]]), (37, .rows true n 1 (psR f kk n))], 38⟩)
      (fun d n => n + d = min kk.length 4) ?_ (min kk.length 4) 0 ?_) ?_ ?_
     ·rintro d n n1 hrec1
      (repeat (first|with_reducible (first|refine wL fun _=>?_|refine wD fun _=>?_|refine wE ?_|refine wZ ?_)|simp [go_sem, hk0]))
      refine aIf.mkL (fun hn => ?_) (fun hn => ?_) <;> simp at hn
      ·have hn1 : n < kk.length := by omega
       have hn2 := hkv _ (nth_mem hn1)
       have hpl := psR_len f kk (n := n) (by omega)
       (repeat (first|with_reducible (first|refine wL fun _=>?_|refine wD fun _=>?_|refine wE ?_|refine wZ ?_)|simp [go_sem, hk0, hn1]))
       refine dCall.plain (hfp _ hn2) (by simp [go_sem]) ?_
       (repeat (first|with_reducible (first|refine wL fun _=>?_|refine wD fun _=>?_|refine wE ?_|refine wZ ?_)|simp [go_sem, hk0, hn1, hpl]))
       refine ALoop.start (hrec1 (d - 1) (by omega) (n + 1) (by omega)) ?_ (by simp)
       simp [go_sem, Wk_eq, hk0, psR_succ f kk hn1]
      ·have hne : n = min kk.length 4 := by omega
       (repeat (first|with_reducible (first|refine wL fun _=>?_|refine wD fun _=>?_|refine wE ?_|refine wZ ?_)|simp [go_sem]))
       refine ALoop.start (hrec (d0 - 1) (by omega) (0 + 1) (by omega)) ?_ (by simp)
       have hkx : kRow (kindOf x 0) = [.v (.string ⟨#[97]⟩), .lst 1 (psR f kk n), .v (.bool (decide (andN .u8 x.f2 1 = 1)))] := by rw [hks, show psR f kk n = psR f kk (min kk.length 4) by rw [← hne]]; simp [kRow, encKind, psR, nameA, nameB, encProg]; omega
       have hpl := psR_len f kk (n := n) (by omega)
       simp [go_sem, Wk_eq, hk0, ksR_succ x 0, hkx]
       (try refine leRows_append (.refl _) (.cons (.cons (.refl _) (.cons ?_ (.cons (.refl _) .nil))) .nil))
       refine LeV.frz rfl ?_ ?_ (LeRows.of_eq ?_) <;> simp [mkH, upd, hpl, List.take_of_length_le]
     ·omega
     ·simp [go_sem, Wk_eq, hk0]
     ·simp
    ·obtain ⟨kk, hkk⟩ : ∃ kk, kk = x.ks 1 := ⟨_, rfl⟩
     have hk0 : x.k1 = kk := hkk.symm
     rw [← hkk] at hkl hkv hks
     have hbit : bitU x.f2 1 = decide (andN .u8 (x.f2.fdiv 2) 1 = 1) := by simp [bitU]
     obtain ⟨f, hf⟩ : ∃ f, f = (fun n => madeP n b.next.length K x.rights) := ⟨_, rfl⟩
     have hfp : ∀ n, U8 n → Pure Tryz.prog 136 [.v (.int .u8 n), .v (.int .i64 b.next.length), .v (.int .i64 K), .v (.int .i64 R)] (encProg (f n)) := fun n hn => by
      rw [hf, ← hR]; exact R2Made_pure n _ _ _ hn (by omega) (by omega) (by omega)
     rw [← hf, hbit] at hks
     (repeat (first|with_reducible (first|refine wL fun _=>?_|refine wD fun _=>?_|refine wE ?_|refine wZ ?_)|simp [go_sem, hk0]))
     refine ALoop.start (ALoop.ind (α := Nat) (fun n => ⟨[(1, .ref 0 0 12 0 0), (2, .ref 1 0 9 0 0), (3, .ref 20 0 9 0 0), (4, .v (.int .i64 K)), (5, .v (.int .i64 1)), (6, .ref 35 0 3 0 0), (7, .v (.int .i64 n))],
      [(0, .rows true 0 12 [encRaw x]), (1, .rows true 0 9 [[.v (.int .i64 0), AV.nils, AV.nils, AV.nils, .v (.int .i64 0), .v (.bool false), AV.nils, .v (.int .i64 0), .v (.int .i64 0)]]), (20, .rows true 0 9 [[.v (.int .i64 b.cells), encIss b.next, encIs b.turn, .sl 22 1 3 0 1, .v (.int .i64 R), .v (.bool (decide (x.f1.tmod 4 = 3))), AV.nils, .v (.int .i64 3), .v (.int .i64 2)]]), (22, .rows true 1 3 (ksR x 1)), (35, .rows true 0 3 [[.v (.string ⟨#[98, 101, 101]⟩), .sl 37 n 1 0 n, .v (.bool (decide (andN .u8 (x.f2.fdiv 2) 1 = 1)))]]), (37, .rows true n 1 (psR f kk n))], 38⟩)
      (fun d n => n + d = min kk.length 4) ?_ (min kk.length 4) 0 ?_) ?_ ?_
     ·rintro d n n1 hrec1
      (repeat (first|with_reducible (first|refine wL fun _=>?_|refine wD fun _=>?_|refine wE ?_|refine wZ ?_)|simp [go_sem, hk0]))
      refine aIf.mkL (fun hn => ?_) (fun hn => ?_) <;> simp at hn
      ·have hn1 : n < kk.length := by omega
       have hn2 := hkv _ (nth_mem hn1)
       have hpl := psR_len f kk (n := n) (by omega)
       (repeat (first|with_reducible (first|refine wL fun _=>?_|refine wD fun _=>?_|refine wE ?_|refine wZ ?_)|simp [go_sem, hk0, hn1]))
       refine dCall.plain (hfp _ hn2) (by simp [go_sem]) ?_
       (repeat (first|with_reducible (first|refine wL fun _=>?_|refine wD fun _=>?_|refine wE ?_|refine wZ ?_)|simp [go_sem, hk0, hn1, hpl]))
       refine ALoop.start (hrec1 (d - 1) (by omega) (n + 1) (by omega)) ?_ (by simp)
       simp [go_sem, Wk_eq, hk0, psR_succ f kk hn1]
      ·have hne : n = min kk.length 4 := by omega
       (repeat (first|with_reducible (first|refine wL fun _=>?_|refine wD fun _=>?_|refine wE ?_|refine wZ ?_)|simp [go_sem]))
       refine ALoop.start (hrec (d0 - 1) (by omega) (1 + 1) (by omega)) ?_ (by simp)
       have hkx : kRow (kindOf x 1) = [.v (.string ⟨#[98, 101, 101]⟩), .lst 1 (psR f kk n), .v (.bool (decide (andN .u8 (x.f2.fdiv 2) 1 = 1)))] := by rw [hks, show psR f kk n = psR f kk (min kk.length 4) by rw [← hne]]; simp [kRow, encKind, psR, nameA, nameB, encProg]; omega
       have hpl := psR_len f kk (n := n) (by omega)
       simp [go_sem, Wk_eq, hk0, ksR_succ x 1, hkx]
       (try refine leRows_append (.refl _) (.cons (.cons (.refl _) (.cons ?_ (.cons (.refl _) .nil))) .nil))
       refine LeV.frz rfl ?_ ?_ (LeRows.of_eq ?_) <;> simp [mkH, upd, hpl, List.take_of_length_le]
     ·omega
     ·simp [go_sem, Wk_eq, hk0]
     ·simp
   ·have hiK : i = K := by omega
    subst hiK
    (repeat (first|with_reducible (first|refine wL fun _=>?_|refine wD fun _=>?_|refine wE ?_|refine wZ ?_)|simp [go_sem]))
    refine aIf.mkL (fun hb3 => ?_) (fun hb3 => ?_) <;> simp at hb3 <;> (repeat (first|with_reducible (first|refine wL fun _=>?_|refine wD fun _=>?_|refine wE ?_|refine wZ ?_)|simp [go_sem]))
    all_goals refine aIf.mkL (fun hb4 => ?_) (fun hb4 => ?_) <;> simp at hb4 <;> (repeat (first|with_reducible (first|refine wL fun _=>?_|refine wD fun _=>?_|refine wE ?_|refine wZ ?_)|simp [go_sem]))
    all_goals (
     refine ALoop.start (ALoop.ind (α := Nat) (fun a => ⟨[(1, .ref 0 0 12 0 0), (2, .ref 1 0 9 0 0), (3, .ref 20 0 9 0 0), (4, .v (.int .i64 i)), (8, .v (.int .i64 a))],
      [(0, .rows true 0 12 [encRaw x]), (1, .rows true 0 9 [[.v (.int .i64 0), AV.nils, AV.nils, AV.nils, .v (.int .i64 0), .v (.bool false), AV.nils, .v (.int .i64 0), .v (.int .i64 0)]]), (20, .rows true 0 9 [[.v (.int .i64 b.cells), encIss b.next, encIs b.turn, .sl 22 i 3 0 i, .v (.int .i64 R), .v (.bool (decide (x.f1.tmod 4 = 3))), .sl 23 a 4 0 a, .v (.int .i64 bl), .v (.int .i64 en)]]), (22, .rows true i 3 (ksR x i)), (23, .rows true a 4 (clR b.cells i x.c a))], 24⟩)
      (fun d a => a + d = min x.c.length 3) ?_ (min x.c.length 3) 0 ?_) ?_ ?_
     ·rintro d j j1 hrec2
      (repeat (first|with_reducible (first|refine wL fun _=>?_|refine wD fun _=>?_|refine wE ?_|refine wZ ?_)|simp [go_sem]))
      refine aIf.mkL (fun hj => ?_) (fun hj => ?_) <;> simp at hj
      ·have hj1 : j < x.c.length := by omega
       have hjc := hx.c _ (nth_mem hj1)
       have hpl := clR_len b.cells i x.c (n := j) (by omega)
       have hsu := clR_succ b.cells i x.c hj1
       generalize hcx : nth x.c j = c at *
       obtain ⟨c0, c1, c2⟩ := c
       obtain ⟨u0, u1, u2⟩ := hjc
       obtain ⟨w0, w0'⟩ := qq _ u0
       obtain ⟨v0, v0'⟩ := u0
       obtain ⟨v1, v1'⟩ := u1
       obtain ⟨v2, v2'⟩ := u2
       simp only at v0 v0' v1 v1' v2 v2' w0 w0'
       have t0 := Int.tmod_nonneg 3 v0
       have t1 := Int.tmod_lt_of_pos c0 (show (0 : Int) < 3 by decide)
       have hip : (0 : Int) < i := by omega
       have k0 := Int.tmod_nonneg i v1
       have n0 := Int.tmod_nonneg b.cells v2
       have n1 := Int.tmod_nonneg 3 v2
       rcases (show c0.tmod 3 = 0 ∨ c0.tmod 3 = 1 ∨ c0.tmod 3 = 2 by omega) with ht | ht | ht
       ·have hr : cRow (clauseOf b.cells i (c0, c1, c2)) = [.v (.int .i64 1), .v (.int .i64 (c1.tmod i)), .v (.int .i64 0), .v (.int .i64 (1 + (c0.tdiv 4).tmod 3))] := by simp [cRow, clauseOf, encClause, ht]
        (repeat (first|with_reducible (first|refine wL fun _=>?_|refine wD fun _=>?_|refine wE ?_|refine wZ ?_)|simp [go_sem, hj1, hcx, ht, hpl]))
        refine ALoop.start (hrec2 (d - 1) (by omega) (j + 1) (by omega)) ?_ (by simp)
        simp [go_sem, Wk_eq, hsu, hr]
       ·have hr : cRow (clauseOf b.cells i (c0, c1, c2)) = [.v (.int .i64 2), .v (.int .i64 (c1.tmod i)), .v (.int .i64 (c2.tmod b.cells)), .v (.int .i64 (1 + (c0.tdiv 4).tmod 3))] := by simp [cRow, clauseOf, encClause, ht]
        (repeat (first|with_reducible (first|refine wL fun _=>?_|refine wD fun _=>?_|refine wE ?_|refine wZ ?_)|simp [go_sem, hj1, hcx, ht, hpl]))
        refine ALoop.start (hrec2 (d - 1) (by omega) (j + 1) (by omega)) ?_ (by simp)
        simp [go_sem, Wk_eq, hsu, hr]
       ·have hr : cRow (clauseOf b.cells i (c0, c1, c2)) = [.v (.int .i64 3), .v (.int .i64 0), .v (.int .i64 (c2.tmod 3)), .v (.int .i64 (1 + (c0.tdiv 4).tmod 3))] := by simp [cRow, clauseOf, encClause, ht]
        (repeat (first|with_reducible (first|refine wL fun _=>?_|refine wD fun _=>?_|refine wE ?_|refine wZ ?_)|simp [go_sem, hj1, hcx, ht, hpl]))
        refine ALoop.start (hrec2 (d - 1) (by omega) (j + 1) (by omega)) ?_ (by simp)
        simp [go_sem, Wk_eq, hsu, hr]
      ·have hki : kindsN x = i := by rw [hK2, hK]
       have hjm : j = min x.c.length 3 := by omega
       have htk : x.c.take (min x.c.length 3) = x.c.take 3 := by rw [List.take_eq_take_iff]; omega
       have hpl := clR_len b.cells i x.c (n := j) (by omega)
       have hkl : (ksR x i).length = i := ksR_len x i
       have hcl : clR b.cells i x.c j = ((x.c.take 3).map (clauseOf b.cells i)).map encClause := by unfold clR; rw [hjm, htk]
       have hG : madeG x = { cells := b.cells, next := b.next, turn := b.turn, kinds := (List.range i).map (kindOf x), rights := R, must := decide (x.f1.tmod 4 = 3), clauses := (x.c.take 3).map (clauseOf b.cells i), blocked := bl, endless := en } := by
        unfold madeG; rw [hki, ← hbb, ← hR, ← hbl, ← hen]
       have hEnc : eg = [.v (.int .i64 b.cells), encIss b.next, encIs b.turn, .lst 3 (ksR x i), .v (.int .i64 R), .v (.bool (decide (x.f1.tmod 4 = 3))), .lst 4 (clR b.cells i x.c j), .v (.int .i64 bl), .v (.int .i64 en)] := by
        rw [heg, hG, hcl]; rfl
       (repeat (first|with_reducible (first|refine wL fun _=>?_|refine wD fun _=>?_|refine wE ?_|refine wZ ?_)|simp [go_sem]))
       rw [hEnc]
       refine ⟨.cons (.refl _) (.cons (.refl _) (.cons (.refl _) (.cons (leV_frz rfl (by omega) (by simp [noH]) (by rw [List.drop_zero, List.take_of_length_le (by omega)])) (.cons (.refl _) (.cons (.refl _) (.cons (leV_frz rfl (by omega) (by simp [noH]) (by rw [List.drop_zero, List.take_of_length_le (by omega)])) (.cons (.refl _) (.cons (.refl _) .nil)))))))), ?_⟩
       intro c hc
       simp only [List.mem_cons, List.not_mem_nil, or_false] at hc
       rcases hc with rfl | rfl | rfl | rfl | rfl | rfl | rfl | rfl | rfl
       all_goals first | exact .v _ | simp [go_sem]
     ·omega
     ·simp [go_sem, Wk_eq, hbl, hen, hb3, hb4]
     ·simp)
  ·omega
  ·simp [go_sem, Wk_eq, hK]
  ·simp
 ·have hK2 : kindsN x = 1 := by rw [hKn, if_pos (by simp [hk1])]
  rw [hK2] at hK
  (repeat (first|with_reducible (first|refine wL fun _=>?_|refine wD fun _=>?_|refine wE ?_|refine wZ ?_)|simp [go_sem]))
  refine ALoop.start (ALoop.ind (α := Nat) (fun a => ⟨[(1, .ref 0 0 12 0 0), (2, .ref 1 0 9 0 0), (3, .ref 20 0 9 0 0), (4, .v (.int .i64 K)), (5, .v (.int .i64 a))],
   [(0, .rows true 0 12 [encRaw x]), (1, .rows true 0 9 [[.v (.int .i64 0), AV.nils, AV.nils, AV.nils, .v (.int .i64 0), .v (.bool false), AV.nils, .v (.int .i64 0), .v (.int .i64 0)]]), (20, .rows true 0 9 [[.v (.int .i64 b.cells), encIss b.next, encIs b.turn, .sl 22 a 3 0 a, .v (.int .i64 R), .v (.bool (decide (x.f1.tmod 4 = 3))), AV.nils, .v (.int .i64 3), .v (.int .i64 2)]]), (22, .rows true a 3 (ksR x a))], 23⟩)
   (fun d a => a + d = K) ?_ K 0 ?_) ?_ ?_
  ·rintro d0 i i1 hrec
   (repeat (first|with_reducible (first|refine wL fun _=>?_|refine wD fun _=>?_|refine wE ?_|refine wZ ?_)|simp [go_sem]))
   refine aIf.mkL (fun hi => ?_) (fun hi => ?_) <;> simp at hi
   ·have hi2 : i = 0 ∨ i = 1 := by omega
    have hkl := hKl i
    have hkv := hKv i
    have hks : kindOf x i = ⟨if i = 0 then nameA else nameB, ((x.ks i).take 4).map (fun n => madeP n b.next.length K x.rights), bitU x.f2 i⟩ := by rw [hbb, hK, ← hK2]; rfl
    rcases hi2 with rfl | rfl
    ·obtain ⟨kk, hkk⟩ : ∃ kk, kk = x.ks 0 := ⟨_, rfl⟩
     have hk0 : x.k0 = kk := hkk.symm
     rw [← hkk] at hkl hkv hks
     have hbit : bitU x.f2 0 = decide (andN .u8 x.f2 1 = 1) := by simp [bitU]
     obtain ⟨f, hf⟩ : ∃ f, f = (fun n => madeP n b.next.length K x.rights) := ⟨_, rfl⟩
     have hfp : ∀ n, U8 n → Pure Tryz.prog 136 [.v (.int .u8 n), .v (.int .i64 b.next.length), .v (.int .i64 K), .v (.int .i64 R)] (encProg (f n)) := fun n hn => by
      rw [hf, ← hR]; exact R2Made_pure n _ _ _ hn (by omega) (by omega) (by omega)
     rw [← hf, hbit] at hks
     (repeat (first|with_reducible (first|refine wL fun _=>?_|refine wD fun _=>?_|refine wE ?_|refine wZ ?_)|simp [go_sem, hk0]))
     refine ALoop.start (ALoop.ind (α := Nat) (fun n => ⟨[(1, .ref 0 0 12 0 0), (2, .ref 1 0 9 0 0), (3, .ref 20 0 9 0 0), (4, .v (.int .i64 K)), (5, .v (.int .i64 0)), (6, .ref 35 0 3 0 0), (7, .v (.int .i64 n))],
      [(0, .rows true 0 12 [encRaw x]), (1, .rows true 0 9 [[.v (.int .i64 0), AV.nils, AV.nils, AV.nils, .v (.int .i64 0), .v (.bool false), AV.nils, .v (.int .i64 0), .v (.int .i64 0)]]), (20, .rows true 0 9 [[.v (.int .i64 b.cells), encIss b.next, encIs b.turn, .sl 22 0 3 0 0, .v (.int .i64 R), .v (.bool (decide (x.f1.tmod 4 = 3))), AV.nils, .v (.int .i64 3), .v (.int .i64 2)]]), (22, .rows true 0 3 (ksR x 0)), (35, .rows true 0 3 [[.v (.string ⟨#[97]⟩), .sl 37 n 1 0 n, .v (.bool (decide (andN .u8 x.f2 1 = 1)))]]), (37, .rows true n 1 (psR f kk n))], 38⟩)
      (fun d n => n + d = min kk.length 4) ?_ (min kk.length 4) 0 ?_) ?_ ?_
     ·rintro d n n1 hrec1
      (repeat (first|with_reducible (first|refine wL fun _=>?_|refine wD fun _=>?_|refine wE ?_|refine wZ ?_)|simp [go_sem, hk0]))
      refine aIf.mkL (fun hn => ?_) (fun hn => ?_) <;> simp at hn
      ·have hn1 : n < kk.length := by omega
       have hn2 := hkv _ (nth_mem hn1)
       have hpl := psR_len f kk (n := n) (by omega)
       (repeat (first|with_reducible (first|refine wL fun _=>?_|refine wD fun _=>?_|refine wE ?_|refine wZ ?_)|simp [go_sem, hk0, hn1]))
       refine dCall.plain (hfp _ hn2) (by simp [go_sem]) ?_
       (repeat (first|with_reducible (first|refine wL fun _=>?_|refine wD fun _=>?_|refine wE ?_|refine wZ ?_)|simp [go_sem, hk0, hn1, hpl]))
       refine ALoop.start (hrec1 (d - 1) (by omega) (n + 1) (by omega)) ?_ (by simp)
       simp [go_sem, Wk_eq, hk0, psR_succ f kk hn1]
      ·have hne : n = min kk.length 4 := by omega
       (repeat (first|with_reducible (first|refine wL fun _=>?_|refine wD fun _=>?_|refine wE ?_|refine wZ ?_)|simp [go_sem]))
       refine ALoop.start (hrec (d0 - 1) (by omega) (0 + 1) (by omega)) ?_ (by simp)
       have hkx : kRow (kindOf x 0) = [.v (.string ⟨#[97]⟩), .lst 1 (psR f kk n), .v (.bool (decide (andN .u8 x.f2 1 = 1)))] := by rw [hks, show psR f kk n = psR f kk (min kk.length 4) by rw [← hne]]; simp [kRow, encKind, psR, nameA, nameB, encProg]; omega
       have hpl := psR_len f kk (n := n) (by omega)
       simp [go_sem, Wk_eq, hk0, ksR_succ x 0, hkx]
       (try refine leRows_append (.refl _) (.cons (.cons (.refl _) (.cons ?_ (.cons (.refl _) .nil))) .nil))
       refine LeV.frz rfl ?_ ?_ (LeRows.of_eq ?_) <;> simp [mkH, upd, hpl, List.take_of_length_le]
     ·omega
     ·simp [go_sem, Wk_eq, hk0]
     ·simp
    ·obtain ⟨kk, hkk⟩ : ∃ kk, kk = x.ks 1 := ⟨_, rfl⟩
     have hk0 : x.k1 = kk := hkk.symm
     rw [← hkk] at hkl hkv hks
     have hbit : bitU x.f2 1 = decide (andN .u8 (x.f2.fdiv 2) 1 = 1) := by simp [bitU]
     obtain ⟨f, hf⟩ : ∃ f, f = (fun n => madeP n b.next.length K x.rights) := ⟨_, rfl⟩
     have hfp : ∀ n, U8 n → Pure Tryz.prog 136 [.v (.int .u8 n), .v (.int .i64 b.next.length), .v (.int .i64 K), .v (.int .i64 R)] (encProg (f n)) := fun n hn => by
      rw [hf, ← hR]; exact R2Made_pure n _ _ _ hn (by omega) (by omega) (by omega)
     rw [← hf, hbit] at hks
     (repeat (first|with_reducible (first|refine wL fun _=>?_|refine wD fun _=>?_|refine wE ?_|refine wZ ?_)|simp [go_sem, hk0]))
     refine ALoop.start (ALoop.ind (α := Nat) (fun n => ⟨[(1, .ref 0 0 12 0 0), (2, .ref 1 0 9 0 0), (3, .ref 20 0 9 0 0), (4, .v (.int .i64 K)), (5, .v (.int .i64 1)), (6, .ref 35 0 3 0 0), (7, .v (.int .i64 n))],
      [(0, .rows true 0 12 [encRaw x]), (1, .rows true 0 9 [[.v (.int .i64 0), AV.nils, AV.nils, AV.nils, .v (.int .i64 0), .v (.bool false), AV.nils, .v (.int .i64 0), .v (.int .i64 0)]]), (20, .rows true 0 9 [[.v (.int .i64 b.cells), encIss b.next, encIs b.turn, .sl 22 1 3 0 1, .v (.int .i64 R), .v (.bool (decide (x.f1.tmod 4 = 3))), AV.nils, .v (.int .i64 3), .v (.int .i64 2)]]), (22, .rows true 1 3 (ksR x 1)), (35, .rows true 0 3 [[.v (.string ⟨#[98, 101, 101]⟩), .sl 37 n 1 0 n, .v (.bool (decide (andN .u8 (x.f2.fdiv 2) 1 = 1)))]]), (37, .rows true n 1 (psR f kk n))], 38⟩)
      (fun d n => n + d = min kk.length 4) ?_ (min kk.length 4) 0 ?_) ?_ ?_
     ·rintro d n n1 hrec1
      (repeat (first|with_reducible (first|refine wL fun _=>?_|refine wD fun _=>?_|refine wE ?_|refine wZ ?_)|simp [go_sem, hk0]))
      refine aIf.mkL (fun hn => ?_) (fun hn => ?_) <;> simp at hn
      ·have hn1 : n < kk.length := by omega
       have hn2 := hkv _ (nth_mem hn1)
       have hpl := psR_len f kk (n := n) (by omega)
       (repeat (first|with_reducible (first|refine wL fun _=>?_|refine wD fun _=>?_|refine wE ?_|refine wZ ?_)|simp [go_sem, hk0, hn1]))
       refine dCall.plain (hfp _ hn2) (by simp [go_sem]) ?_
       (repeat (first|with_reducible (first|refine wL fun _=>?_|refine wD fun _=>?_|refine wE ?_|refine wZ ?_)|simp [go_sem, hk0, hn1, hpl]))
       refine ALoop.start (hrec1 (d - 1) (by omega) (n + 1) (by omega)) ?_ (by simp)
       simp [go_sem, Wk_eq, hk0, psR_succ f kk hn1]
      ·have hne : n = min kk.length 4 := by omega
       (repeat (first|with_reducible (first|refine wL fun _=>?_|refine wD fun _=>?_|refine wE ?_|refine wZ ?_)|simp [go_sem]))
       refine ALoop.start (hrec (d0 - 1) (by omega) (1 + 1) (by omega)) ?_ (by simp)
       have hkx : kRow (kindOf x 1) = [.v (.string ⟨#[98, 101, 101]⟩), .lst 1 (psR f kk n), .v (.bool (decide (andN .u8 (x.f2.fdiv 2) 1 = 1)))] := by rw [hks, show psR f kk n = psR f kk (min kk.length 4) by rw [← hne]]; simp [kRow, encKind, psR, nameA, nameB, encProg]; omega
       have hpl := psR_len f kk (n := n) (by omega)
       simp [go_sem, Wk_eq, hk0, ksR_succ x 1, hkx]
       (try refine leRows_append (.refl _) (.cons (.cons (.refl _) (.cons ?_ (.cons (.refl _) .nil))) .nil))
       refine LeV.frz rfl ?_ ?_ (LeRows.of_eq ?_) <;> simp [mkH, upd, hpl, List.take_of_length_le]
     ·omega
     ·simp [go_sem, Wk_eq, hk0]
     ·simp
   ·have hiK : i = K := by omega
    subst hiK
    (repeat (first|with_reducible (first|refine wL fun _=>?_|refine wD fun _=>?_|refine wE ?_|refine wZ ?_)|simp [go_sem]))
    refine aIf.mkL (fun hb3 => ?_) (fun hb3 => ?_) <;> simp at hb3 <;> (repeat (first|with_reducible (first|refine wL fun _=>?_|refine wD fun _=>?_|refine wE ?_|refine wZ ?_)|simp [go_sem]))
    all_goals refine aIf.mkL (fun hb4 => ?_) (fun hb4 => ?_) <;> simp at hb4 <;> (repeat (first|with_reducible (first|refine wL fun _=>?_|refine wD fun _=>?_|refine wE ?_|refine wZ ?_)|simp [go_sem]))
    all_goals (
     refine ALoop.start (ALoop.ind (α := Nat) (fun a => ⟨[(1, .ref 0 0 12 0 0), (2, .ref 1 0 9 0 0), (3, .ref 20 0 9 0 0), (4, .v (.int .i64 i)), (8, .v (.int .i64 a))],
      [(0, .rows true 0 12 [encRaw x]), (1, .rows true 0 9 [[.v (.int .i64 0), AV.nils, AV.nils, AV.nils, .v (.int .i64 0), .v (.bool false), AV.nils, .v (.int .i64 0), .v (.int .i64 0)]]), (20, .rows true 0 9 [[.v (.int .i64 b.cells), encIss b.next, encIs b.turn, .sl 22 i 3 0 i, .v (.int .i64 R), .v (.bool (decide (x.f1.tmod 4 = 3))), .sl 23 a 4 0 a, .v (.int .i64 bl), .v (.int .i64 en)]]), (22, .rows true i 3 (ksR x i)), (23, .rows true a 4 (clR b.cells i x.c a))], 24⟩)
      (fun d a => a + d = min x.c.length 3) ?_ (min x.c.length 3) 0 ?_) ?_ ?_
     ·rintro d j j1 hrec2
      (repeat (first|with_reducible (first|refine wL fun _=>?_|refine wD fun _=>?_|refine wE ?_|refine wZ ?_)|simp [go_sem]))
      refine aIf.mkL (fun hj => ?_) (fun hj => ?_) <;> simp at hj
      ·have hj1 : j < x.c.length := by omega
       have hjc := hx.c _ (nth_mem hj1)
       have hpl := clR_len b.cells i x.c (n := j) (by omega)
       have hsu := clR_succ b.cells i x.c hj1
       generalize hcx : nth x.c j = c at *
       obtain ⟨c0, c1, c2⟩ := c
       obtain ⟨u0, u1, u2⟩ := hjc
       obtain ⟨w0, w0'⟩ := qq _ u0
       obtain ⟨v0, v0'⟩ := u0
       obtain ⟨v1, v1'⟩ := u1
       obtain ⟨v2, v2'⟩ := u2
       simp only at v0 v0' v1 v1' v2 v2' w0 w0'
       have t0 := Int.tmod_nonneg 3 v0
       have t1 := Int.tmod_lt_of_pos c0 (show (0 : Int) < 3 by decide)
       have hip : (0 : Int) < i := by omega
       have k0 := Int.tmod_nonneg i v1
       have n0 := Int.tmod_nonneg b.cells v2
       have n1 := Int.tmod_nonneg 3 v2
       rcases (show c0.tmod 3 = 0 ∨ c0.tmod 3 = 1 ∨ c0.tmod 3 = 2 by omega) with ht | ht | ht
       ·have hr : cRow (clauseOf b.cells i (c0, c1, c2)) = [.v (.int .i64 1), .v (.int .i64 (c1.tmod i)), .v (.int .i64 0), .v (.int .i64 (1 + (c0.tdiv 4).tmod 3))] := by simp [cRow, clauseOf, encClause, ht]
        (repeat (first|with_reducible (first|refine wL fun _=>?_|refine wD fun _=>?_|refine wE ?_|refine wZ ?_)|simp [go_sem, hj1, hcx, ht, hpl]))
        refine ALoop.start (hrec2 (d - 1) (by omega) (j + 1) (by omega)) ?_ (by simp)
        simp [go_sem, Wk_eq, hsu, hr]
       ·have hr : cRow (clauseOf b.cells i (c0, c1, c2)) = [.v (.int .i64 2), .v (.int .i64 (c1.tmod i)), .v (.int .i64 (c2.tmod b.cells)), .v (.int .i64 (1 + (c0.tdiv 4).tmod 3))] := by simp [cRow, clauseOf, encClause, ht]
        (repeat (first|with_reducible (first|refine wL fun _=>?_|refine wD fun _=>?_|refine wE ?_|refine wZ ?_)|simp [go_sem, hj1, hcx, ht, hpl]))
        refine ALoop.start (hrec2 (d - 1) (by omega) (j + 1) (by omega)) ?_ (by simp)
        simp [go_sem, Wk_eq, hsu, hr]
       ·have hr : cRow (clauseOf b.cells i (c0, c1, c2)) = [.v (.int .i64 3), .v (.int .i64 0), .v (.int .i64 (c2.tmod 3)), .v (.int .i64 (1 + (c0.tdiv 4).tmod 3))] := by simp [cRow, clauseOf, encClause, ht]
        (repeat (first|with_reducible (first|refine wL fun _=>?_|refine wD fun _=>?_|refine wE ?_|refine wZ ?_)|simp [go_sem, hj1, hcx, ht, hpl]))
        refine ALoop.start (hrec2 (d - 1) (by omega) (j + 1) (by omega)) ?_ (by simp)
        simp [go_sem, Wk_eq, hsu, hr]
      ·have hki : kindsN x = i := by rw [hK2, hK]
       have hjm : j = min x.c.length 3 := by omega
       have htk : x.c.take (min x.c.length 3) = x.c.take 3 := by rw [List.take_eq_take_iff]; omega
       have hpl := clR_len b.cells i x.c (n := j) (by omega)
       have hkl : (ksR x i).length = i := ksR_len x i
       have hcl : clR b.cells i x.c j = ((x.c.take 3).map (clauseOf b.cells i)).map encClause := by unfold clR; rw [hjm, htk]
       have hG : madeG x = { cells := b.cells, next := b.next, turn := b.turn, kinds := (List.range i).map (kindOf x), rights := R, must := decide (x.f1.tmod 4 = 3), clauses := (x.c.take 3).map (clauseOf b.cells i), blocked := bl, endless := en } := by
        unfold madeG; rw [hki, ← hbb, ← hR, ← hbl, ← hen]
       have hEnc : eg = [.v (.int .i64 b.cells), encIss b.next, encIs b.turn, .lst 3 (ksR x i), .v (.int .i64 R), .v (.bool (decide (x.f1.tmod 4 = 3))), .lst 4 (clR b.cells i x.c j), .v (.int .i64 bl), .v (.int .i64 en)] := by
        rw [heg, hG, hcl]; rfl
       (repeat (first|with_reducible (first|refine wL fun _=>?_|refine wD fun _=>?_|refine wE ?_|refine wZ ?_)|simp [go_sem]))
       rw [hEnc]
       refine ⟨.cons (.refl _) (.cons (.refl _) (.cons (.refl _) (.cons (leV_frz rfl (by omega) (by simp [noH]) (by rw [List.drop_zero, List.take_of_length_le (by omega)])) (.cons (.refl _) (.cons (.refl _) (.cons (leV_frz rfl (by omega) (by simp [noH]) (by rw [List.drop_zero, List.take_of_length_le (by omega)])) (.cons (.refl _) (.cons (.refl _) .nil)))))))), ?_⟩
       intro c hc
       simp only [List.mem_cons, List.not_mem_nil, or_false] at hc
       rcases hc with rfl | rfl | rfl | rfl | rfl | rfl | rfl | rfl | rfl
       all_goals first | exact .v _ | simp [go_sem]
     ·omega
     ·simp [go_sem, Wk_eq, hbl, hen, hb3, hb4]
     ·simp)
  ·omega
  ·simp [go_sem, Wk_eq, hK]
  ·simp
end Go.Av
end
section
open Go Go.Proofs
set_option maxRecDepth 20000
set_option maxHeartbeats 4000000
namespace Go.Av
theorem R4Made_pure (g : GameD) (hg : GOk g) (x : RawP) (hx : RawPOk x) : Pure Tryz.prog 21 [.agg (encGame g), .agg (encRawP x)] (.agg (encPos (madePos g x))) := by
 refine pF Tryz.func21 ?_
 obtain ⟨q, hq⟩ : ∃ q, q = madePos g x := ⟨_, rfl⟩
 have hrow := rawRow hx
 obtain ⟨er, her⟩ : ∃ er, er = encRawP x := ⟨_, rfl⟩
 rw [← hq, ← her]
 rw [← her] at hrow
 obtain ⟨rl, rc, rk, rh, rr, rs, rb⟩ := hrow
 have c1 := hg.c1
 have c9 := hg.c9
 have k1 := hg.k1
 have k6 := hg.k6
 have hr0 := hg.r0
 have hr4 := hg.r4
 obtain ⟨gc, hgc⟩ : ∃ gc : Nat, g.cells = gc := ⟨g.cells.toNat, by omega⟩
 have hpow : (1 : Int) ≤ 2 ^ g.rights.toNat ∧ (2 : Int) ^ g.rights.toNat ≤ 16 := by
  rcases (show g.rights.toNat = 0 ∨ g.rights.toNat = 1 ∨ g.rights.toNat = 2 ∨ g.rights.toNat = 3 ∨ g.rights.toNat = 4 by omega) with h | h | h | h | h <;> rw [h] <;> decide
 have hrt := hx.r
 have hsd := hx.s
 obtain ⟨rt, hrt'⟩ : ∃ rt, x.rights = rt := ⟨_, rfl⟩
 obtain ⟨pw, hpw⟩ : ∃ pw : Int, (2 : Int) ^ g.rights.toNat = pw := ⟨_, rfl⟩
 have r1 : 0 ≤ x.rights ∧ x.rights ≤ 255 := hx.r
 have s1 : 0 ≤ x.side ∧ x.side ≤ 255 := hx.s
 have s0 := Int.tmod_nonneg 2 s1.1
 have s2 := Int.tmod_lt_of_pos x.side (show (0 : Int) < 2 by decide)
 rw [hpw] at hpow
 generalize heg : encGame g = eg at *
 have hel : eg.length = 9 := by rw [← heg]; rfl
 have hbl : ∀ n, (∀ c' ∈ eg, Bel n c') = True := fun n => by rw [← heg]; simp [go_sem]
 have e0 : cel eg 0 = .v (.int .i64 g.cells) := by rw [← heg]; rfl
 have e3 : cel eg 3 = .lst 3 (g.kinds.map encKind) := by rw [← heg]; rfl
 have e4 : cel eg 4 = .v (.int .i64 g.rights) := by rw [← heg]; rfl
 (repeat (first|with_reducible (first|refine wL fun _=>?_|refine wD fun _=>?_|refine wE ?_|refine wZ ?_)|simp [go_sem, hel, e0, e3, e4, rl, rr, rs, rb, hbl, hpw]))
 have hcz : g.cells.toNat = gc := by omega
 have hkne : g.kinds ≠ [] := by intro h; rw [h] at k1; simp at k1
 have hz : List.replicate gc [AV.v (.int .i64 0)] = (madeAt g x 0).map encI := by simp [madeAt, hcz, encI]
 refine ALoop.start (ALoop.ind (α := Nat) (fun i => ⟨[(2, .ref 0 0 9 0 0), (3, .ref 1 0 18 0 0), (4, .ref 2 0 5 0 0), (5, .ref 19 0 5 0 0), (6, .v (.int .i64 i))], [(0, .rows true 0 9 [eg]), (1, .rows true 0 18 [er]), (2, .rows true 0 5 [[AV.nils, AV.nils, AV.nils, .v (.int .i64 0), .v (.int .i64 0)]]), (6, .rows true 0 1 ((madeAt g x i).map encI)), (19, .rows true 0 5 [[.sl 6 0 1 0 gc, AV.nils, AV.nils, .v (.int .i64 (x.rights.tmod pw)), .v (.int .i64 (x.side.tmod 2))]])], 21⟩)
  (fun d i => i + d = 6) ?_ 6 0 ?_) ?_ ?_
 ·rintro d i i1 hrec
  (repeat (first|with_reducible (first|refine wL fun _=>?_|refine wD fun _=>?_|refine wE ?_|refine wZ ?_)|simp [go_sem]))
  refine aIf.mkL (fun hi => ?_) (fun hi => ?_) <;> simp at hi
  ·have hci := hx.cv _ (nth_mem (l := x.cell) (i := i) (by rw [hx.c6]; omega))
   have hki := hx.kv _ (nth_mem (l := x.kind) (i := i) (by rw [hx.k6]; omega))
   have hci' : 0 ≤ nth x.cell i ∧ nth x.cell i ≤ 255 := hci
   have hki' : 0 ≤ nth x.kind i ∧ nth x.kind i ≤ 255 := hki
   have m0 := Int.tmod_nonneg (g.cells + 1) hci'.1
   have m1 := Int.tmod_nonneg (g.kinds.length : Int) hki'.1
   have m2 := Int.tmod_lt_of_pos (nth x.kind i) (show (0 : Int) < g.kinds.length by omega)
   have m3 := Int.tmod_nonneg 2 (show (0 : Int) ≤ i by omega)
   have m4 := Int.tmod_lt_of_pos (i : Int) (show (0 : Int) < 2 by decide)
   have hrc := rc i (by omega)
   have hrk := rk i (by omega)
   have hsu := madeAt_succ g x i
   have hal := madeAt_len g x i
   rw [hcz] at hal
   unfold atStep at hsu
   (repeat (first|with_reducible (first|refine wL fun _=>?_|refine wD fun _=>?_|refine wE ?_|refine wZ ?_)|simp [go_sem, hel, e0, e3, e4, hrc, hrk]))
   refine aIf.mkL (fun hc => ?_) (fun hc => ?_) <;> simp at hc
   ·have hc1 := hc.1
    rw [if_pos hc1] at hsu
    (repeat (first|with_reducible (first|refine wL fun _=>?_|refine wD fun _=>?_|refine wE ?_|refine wZ ?_)|simp [go_sem, hel, e0, e3, e4, hrc, hrk, hal]))
    refine ALoop.start (hrec (d - 1) (by omega) (i + 1) (by omega)) ?_ (by simp)
    simp [go_sem, Wk_eq, hsu, rb, hbl]
   ·have hc1 : ¬ (nth x.cell i).tmod (g.cells + 1) < g.cells := fun h => hkne (hc h)
    rw [if_neg hc1] at hsu
    (repeat (first|with_reducible (first|refine wL fun _=>?_|refine wD fun _=>?_|refine wE ?_|refine wZ ?_)|simp [go_sem, hel, e0, e3, e4, hrc, hrk]))
    refine ALoop.start (hrec (d - 1) (by omega) (i + 1) (by omega)) ?_ (by simp)
    simp [go_sem, Wk_eq, hsu, rb, hbl]
  ·obtain rfl : i = 6 := by omega
   have hal := madeAt_len g x 6
   rw [hcz] at hal
   have hqe : q = ⟨madeAt g x 6, handL g x 0 (min g.kinds.length 2), handL g x 1 (min g.kinds.length 2), x.rights.tmod pw, x.side.tmod 2⟩ := by rw [hq, ← hpw]; rfl
   clear hq
   have hq := hqe
   (repeat (first|with_reducible (first|refine wL fun _=>?_|refine wD fun _=>?_|refine wE ?_|refine wZ ?_)|simp [go_sem, hel, e0, e3, e4]))
   refine ALoop.unroll ?_
   (repeat (first|with_reducible (first|refine wL fun _=>?_|refine wD fun _=>?_|refine wE ?_|refine wZ ?_)|simp [go_sem, hel, e0, e3, e4]))
   have hz0 := handL_zero g x 0
   refine ALoop.start (ALoop.ind (α := Nat) (fun k => ⟨[(2, .ref 0 0 9 0 0), (3, .ref 1 0 18 0 0), (4, .ref 2 0 5 0 0), (5, .ref 19 0 5 0 0), (8, .v (.int .i64 0)), (9, .v (.int .i64 k))], [(0, .rows true 0 9 [eg]), (1, .rows true 0 18 [er]), (2, .rows true 0 5 [[AV.nils, AV.nils, AV.nils, .v (.int .i64 0), .v (.int .i64 0)]]), (6, .rows true 0 1 ((madeAt g x 6).map encI)), (19, .rows true 0 5 [[.sl 6 0 1 0 gc, .sl 21 0 1 0 g.kinds.length, AV.nils, .v (.int .i64 (x.rights.tmod pw)), .v (.int .i64 (x.side.tmod 2))]]), (21, .rows true 0 1 ((handL g x 0 k).map encI))], 22⟩)
    (fun d k => k + d = min g.kinds.length 2) ?_ (min g.kinds.length 2) 0 ?_) ?_ ?_
   ·rintro d k j1 hrec0
    (repeat (first|with_reducible (first|refine wL fun _=>?_|refine wD fun _=>?_|refine wE ?_|refine wZ ?_)|simp [go_sem, hel, e0, e3, e4]))
    refine aIf.mkL (fun hj => ?_) (fun hj => ?_) <;> simp at hj
    ·have hk2 : k < 2 := by omega
     have hkk : k < g.kinds.length := by omega
     have hhv := hx.hv _ (nth_mem (l := x.hand) (i := 2 * 0 + k) (by rw [hx.h4]; omega))
     have hh1 : 0 ≤ nth x.hand (2 * 0 + k) ∧ nth x.hand (2 * 0 + k) ≤ 255 := hhv
     have hrh := rh (2 * 0 + k) (by omega)
     have m0 := Int.tmod_nonneg 3 hh1.1
     have hsu := handL_succ g x 0 k
     have hsk := handL_skip g x 0 k
     have hhl := handL_len g x 0 k
     have hV : handV g x 0 k = if (nth g.kinds k).keep = true then (if 250 < nth x.hand (2 * 0 + k) then 8 else (nth x.hand (2 * 0 + k)).tmod 3) else 0 := rfl
     simp only [Nat.mul_zero, Nat.zero_add, Nat.mul_one] at hrh hh1 m0 hV
     (repeat (first|with_reducible (first|refine wL fun _=>?_|refine wD fun _=>?_|refine wE ?_|refine wZ ?_)|simp [go_sem, hel, e0, e3, e4, hkk]))
     refine aIf.mkL (fun hkeep => ?_) (fun hkeep => ?_)
     ·rw [if_pos hkeep] at hV
      have eI : ((k : Int)).toNat = k := by omega
      have eI2 : (k : Int) < 4 := by omega
      (repeat (first|with_reducible (first|refine wL fun _=>?_|refine wD fun _=>?_|refine wE ?_|refine wZ ?_)|simp [go_sem, hel, e0, e3, e4, hkk, hrh, hhl, eI, eI2]))
      refine aIf.mkL (fun hbig => ?_) (fun hbig => ?_) <;> simp at hbig
      ·rw [if_pos hbig] at hV
       rw [hV] at hsu
       (repeat (first|with_reducible (first|refine wL fun _=>?_|refine wD fun _=>?_|refine wE ?_|refine wZ ?_)|simp [go_sem, hel, e0, e3, e4, hkk, hrh, hhl]))
       refine ALoop.start (hrec0 (d - 1) (by omega) (k + 1) (by omega)) ?_ (by simp)
       simp [go_sem, Wk_eq, hsu, rb, hbl]
      ·rw [if_neg (by omega)] at hV
       rw [hV] at hsu
       (repeat (first|with_reducible (first|refine wL fun _=>?_|refine wD fun _=>?_|refine wE ?_|refine wZ ?_)|simp [go_sem, hel, e0, e3, e4, hkk, hrh, hhl]))
       refine ALoop.start (hrec0 (d - 1) (by omega) (k + 1) (by omega)) ?_ (by simp)
       simp [go_sem, Wk_eq, hsu, rb, hbl]
     ·rw [if_neg (by simpa using hkeep)] at hV
      have hsk' := hsk hV
      (repeat (first|with_reducible (first|refine wL fun _=>?_|refine wD fun _=>?_|refine wE ?_|refine wZ ?_)|simp [go_sem, hel, e0, e3, e4]))
      refine ALoop.start (hrec0 (d - 1) (by omega) (k + 1) (by omega)) ?_ (by simp)
      simp [go_sem, Wk_eq, hsk', rb, hbl]
    ·have hkm : k = min g.kinds.length 2 := by omega
     subst hkm
     (repeat (first|with_reducible (first|refine wL fun _=>?_|refine wD fun _=>?_|refine wE ?_|refine wZ ?_)|simp [go_sem, hel, e0, e3, e4]))
     refine ALoop.unroll ?_
     (repeat (first|with_reducible (first|refine wL fun _=>?_|refine wD fun _=>?_|refine wE ?_|refine wZ ?_)|simp [go_sem, hel, e0, e3, e4]))
     have hz1 := handL_zero g x 1
     refine ALoop.start (ALoop.ind (α := Nat) (fun k => ⟨[(2, .ref 0 0 9 0 0), (3, .ref 1 0 18 0 0), (4, .ref 2 0 5 0 0), (5, .ref 19 0 5 0 0), (8, .v (.int .i64 1)), (9, .v (.int .i64 k))], [(0, .rows true 0 9 [eg]), (1, .rows true 0 18 [er]), (2, .rows true 0 5 [[AV.nils, AV.nils, AV.nils, .v (.int .i64 0), .v (.int .i64 0)]]), (6, .rows true 0 1 ((madeAt g x 6).map encI)), (19, .rows true 0 5 [[.sl 6 0 1 0 gc, .sl 21 0 1 0 g.kinds.length, .sl 22 0 1 0 g.kinds.length, .v (.int .i64 (x.rights.tmod pw)), .v (.int .i64 (x.side.tmod 2))]]), (21, .rows true 0 1 ((handL g x 0 (min g.kinds.length 2)).map encI)), (22, .rows true 0 1 ((handL g x 1 k).map encI))], 23⟩)
      (fun d k => k + d = min g.kinds.length 2) ?_ (min g.kinds.length 2) 0 ?_) ?_ ?_
     ·rintro d k j1 hrec1
      (repeat (first|with_reducible (first|refine wL fun _=>?_|refine wD fun _=>?_|refine wE ?_|refine wZ ?_)|simp [go_sem, hel, e0, e3, e4]))
      refine aIf.mkL (fun hj => ?_) (fun hj => ?_) <;> simp at hj
      ·have hk2 : k < 2 := by omega
       have hkk : k < g.kinds.length := by omega
       have hhv := hx.hv _ (nth_mem (l := x.hand) (i := 2 * 1 + k) (by rw [hx.h4]; omega))
       have hh1 : 0 ≤ nth x.hand (2 * 1 + k) ∧ nth x.hand (2 * 1 + k) ≤ 255 := hhv
       have hrh := rh (2 * 1 + k) (by omega)
       have m0 := Int.tmod_nonneg 3 hh1.1
       have hsu := handL_succ g x 1 k
       have hsk := handL_skip g x 1 k
       have hhl := handL_len g x 1 k
       have hV : handV g x 1 k = if (nth g.kinds k).keep = true then (if 250 < nth x.hand (2 * 1 + k) then 8 else (nth x.hand (2 * 1 + k)).tmod 3) else 0 := rfl
       simp only [Nat.mul_zero, Nat.zero_add, Nat.mul_one] at hrh hh1 m0 hV
       (repeat (first|with_reducible (first|refine wL fun _=>?_|refine wD fun _=>?_|refine wE ?_|refine wZ ?_)|simp [go_sem, hel, e0, e3, e4, hkk]))
       refine aIf.mkL (fun hkeep => ?_) (fun hkeep => ?_)
       ·rw [if_pos hkeep] at hV
        have eI : (2 + (k : Int)).toNat = 2 + k := by omega
        have eI2 : 2 + (k : Int) < 4 := by omega
        (repeat (first|with_reducible (first|refine wL fun _=>?_|refine wD fun _=>?_|refine wE ?_|refine wZ ?_)|simp [go_sem, hel, e0, e3, e4, hkk, hrh, hhl, eI, eI2]))
        refine aIf.mkL (fun hbig => ?_) (fun hbig => ?_) <;> simp at hbig
        ·rw [if_pos hbig] at hV
         rw [hV] at hsu
         (repeat (first|with_reducible (first|refine wL fun _=>?_|refine wD fun _=>?_|refine wE ?_|refine wZ ?_)|simp [go_sem, hel, e0, e3, e4, hkk, hrh, hhl]))
         refine ALoop.start (hrec1 (d - 1) (by omega) (k + 1) (by omega)) ?_ (by simp)
         simp [go_sem, Wk_eq, hsu, rb, hbl]
        ·rw [if_neg (by omega)] at hV
         rw [hV] at hsu
         (repeat (first|with_reducible (first|refine wL fun _=>?_|refine wD fun _=>?_|refine wE ?_|refine wZ ?_)|simp [go_sem, hel, e0, e3, e4, hkk, hrh, hhl]))
         refine ALoop.start (hrec1 (d - 1) (by omega) (k + 1) (by omega)) ?_ (by simp)
         simp [go_sem, Wk_eq, hsu, rb, hbl]
       ·rw [if_neg (by simpa using hkeep)] at hV
        have hsk' := hsk hV
        (repeat (first|with_reducible (first|refine wL fun _=>?_|refine wD fun _=>?_|refine wE ?_|refine wZ ?_)|simp [go_sem, hel, e0, e3, e4]))
        refine ALoop.start (hrec1 (d - 1) (by omega) (k + 1) (by omega)) ?_ (by simp)
        simp [go_sem, Wk_eq, hsk', rb, hbl]
      ·have hkm : k = min g.kinds.length 2 := by omega
       subst hkm
       (repeat (first|with_reducible (first|refine wL fun _=>?_|refine wD fun _=>?_|refine wE ?_|refine wZ ?_)|simp [go_sem, hel, e0, e3, e4]))
       (repeat (first|with_reducible (first|refine wL fun _=>?_|refine wD fun _=>?_|refine wE ?_|refine wZ ?_)|simp [go_sem, hel, e0, e3, e4]))
       refine ALoop.unroll ?_
       (repeat (first|with_reducible (first|refine wL fun _=>?_|refine wD fun _=>?_|refine wE ?_|refine wZ ?_)|simp [go_sem, hel, e0, e3, e4]))
       rw [hq]
       exact ⟨leV_frz rfl (by simp [hal]) (by simp [noH]) (by simp [List.take_of_length_le, hal]), leV_frz rfl (by simp [handL_len]) (by simp [noH]) (by simp [List.take_of_length_le, handL_len]), leV_frz rfl (by simp [handL_len]) (by simp [noH]) (by simp [List.take_of_length_le, handL_len]), .refl _, .refl _⟩
     ·omega
     ·simp [go_sem, Wk_eq, rb, hbl, hz1]
     ·simp
   ·omega
   ·simp [go_sem, Wk_eq, rb, hbl, hz0]
   ·simp
 ·rfl
 ·simp [go_sem, Wk_eq, rb, hbl, hz, hcz]
 ·simp
end Go.Av
end
section
open Go Go.Proofs
set_option maxRecDepth 20000
set_option maxHeartbeats 4000000
namespace Go.Av
theorem R6Walk_pure (g : GameD) (hg : GOk g) (p : PosD) (hp : POk g p) (picks : List Int) (hl : picks.length ≤ 4294967296) (hk : ∀ k ∈ picks, 0 ≤ k ∧ k ≤ 9223372036854775807) :
    Pure Tryz.prog 20 [.agg (encGame g), .agg (encPos p), encIs picks] (encPs (walkP g p picks)) := by
  refine pF Tryz.func20 ?_
  generalize hR : walkP g p picks = R
  (repeat (first|with_reducible (first|refine wL fun _=>?_|refine wD fun _=>?_|refine wE ?_|refine wZ ?_)|simp [go_sem]))
  refine ALoop.start (ALoop.ind (α := Nat × List PosD × PosD) (fun a => ⟨[(2, encIs picks), (3, .ref 0 0 9 0 0), (4, .ref 1 0 5 0 0), (7, .sl 2 a.2.1.length 5 0 (a.2.1.length + 1)), (8, .v (.int .i64 a.1))], [(0, .rows true 0 9 [encGame g]), (1, .rows true 0 5 [encPos a.2.2]), (2, .rows true a.2.1.length 5 ((a.2.1 ++ [a.2.2]).map encPos))], 3⟩)
    (fun d a => a.1 + d = picks.length ∧ a.2.1.length = a.1 ∧ POk g a.2.2 ∧ R = a.2.1 ++ walkP g a.2.2 (picks.drop a.1)) ?_ picks.length (0, [], p) ?_) ?_ ?_
  · rintro d ⟨i, pre, cur⟩ ⟨i1, i2, i3, i4⟩ hrec
    simp only at i1 i2 i3 i4
    (repeat (first|with_reducible (first|refine wL fun _=>?_|refine wD fun _=>?_|refine wE ?_|refine wZ ?_)|simp [go_sem]))
    refine aIf.mkL (fun hi => ?_) (fun hi => ?_) <;> simp at hi
    · have hM := R6Moves_pure g hg cur i3
      have hki := hk _ (nth_mem hi)
      have hml := movesP_len hg i3
      have hmo := movesP_ok hg i3
      rw [dropG_cons hi, walkP] at i4
      generalize movesP g cur = l at *
      (repeat (first|with_reducible (first|refine wL fun _=>?_|refine wD fun _=>?_|refine wE ?_|refine wZ ?_)|simp [go_sem]))
      refine ACallP.plain hM (by simp [go_sem]) ?_
      (repeat (first|with_reducible (first|refine wL fun _=>?_|refine wD fun _=>?_|refine wE ?_|refine wZ ?_)|simp [go_sem]))
      by_cases hz : l = []
      · rw [if_pos hz] at i4
        subst hz
        (repeat (first|with_reducible (first|refine wL fun _=>?_|refine wD fun _=>?_|refine wE ?_|refine wZ ?_)|simp [go_sem]))
        rw [i4]
        (refine leV_frz rfl (by simp) (by simp [noH, upd]) ?_; first | (simp [go_sem]; done) | (simp [go_sem]; exact List.take_of_length_le (by simp)))
      · rw [if_neg hz] at i4
        have hlp : 0 < l.length := List.length_pos_iff.2 hz
        have e1 : (nth picks i).tmod l.length = (nth picks i).emod l.length := Int.tmod_eq_emod_of_nonneg hki.1
        have e2 : 0 ≤ (nth picks i).emod l.length := Int.emod_nonneg _ (by omega)
        have e3 : (nth picks i).emod l.length < l.length := Int.emod_lt_of_pos _ (by omega)
        generalize (nth picks i).emod l.length = j at *
        have hjl : j.toNat < l.length := by omega
        (repeat (first|with_reducible (first|refine wL fun _=>?_|refine wD fun _=>?_|refine wE ?_|refine wZ ?_)|simp [go_sem, hi, hz, e1, hjl]))
        (refine aIf.mkL (fun hF => by first | omega | (simp at hF; omega)) (fun hF => ?_); clear hF)
        (repeat (first|with_reducible (first|refine wL fun _=>?_|refine wD fun _=>?_|refine wE ?_|refine wZ ?_)|simp [go_sem, hjl]))
        refine ALoop.start (hrec (d - 1) (by omega) (i + 1, pre ++ [cur], nth l j.toNat) ⟨by simp only; omega, by simp; omega, (hmo _ (nth_mem hjl)).1, by simpa using i4⟩) ?_ (by simp)
        simp [go_sem, Wk_eq]
    · rw [List.drop_eq_nil_of_le hi, walkP] at i4
      (repeat (first|with_reducible (first|refine wL fun _=>?_|refine wD fun _=>?_|refine wE ?_|refine wZ ?_)|simp [go_sem]))
      rw [i4]
      (refine leV_frz rfl (by simp) (by simp [noH, upd]) ?_; first | (simp [go_sem]; done) | (simp [go_sem]; exact List.take_of_length_le (by simp)))
  · exact ⟨by simp, rfl, hp, by simp [hR]⟩
  · simp [go_sem, Wk_eq]
  · simp
structure Raw6 where
  g : RawG
  p : RawP
  picks : List Int
structure Raw6Ok (x : Raw6) : Prop where
  g : RawOk x.g
  p : RawPOk x.p
  k : ∀ n ∈ x.picks, U8 n
  lk : x.picks.length ≤ 1099511627776
  l0 : x.g.k0.length ≤ 1099511627776
  l1 : x.g.k1.length ≤ 1099511627776
  lc : x.g.c.length ≤ 1099511627776
def encRaw6 (x : Raw6) : List AV := encRaw x.g ++ (encRawP x.p ++ [encUs x.picks])
def game6 (x : Raw6) : GameD := madeG x.g
def walk6 (x : Raw6) : List PosD := walkP (game6 x) (madePos (game6 x) x.p) (x.picks.take 6)
def pos6 (x : Raw6) : PosD := nth (walk6 x) ((walk6 x).length - 1)
theorem game6_ok {x : Raw6} (hx : Raw6Ok x) : GOk (game6 x) := madeG_ok hx.g
theorem pos6_ok {x : Raw6} (hx : Raw6Ok x) : POk (game6 x) (pos6 x) := by
  have hne := List.length_pos_iff.2 (walkP_ne (game6 x) (madePos (game6 x) x.p) (x.picks.take 6))
  exact walkP_ok (game6_ok hx) _ (madePos_ok (game6_ok hx) hx.p) _ (nth_mem (by unfold walk6; omega))
theorem R6Made_pure (x : Raw6) (hx : Raw6Ok x) : Pure Tryz.prog 15 [.agg (encRaw6 x)] (.tup [.agg (encGame (game6 x)), .agg (encPos (pos6 x))]) := by
  refine pF Tryz.func15 ?_
  have hg := game6_ok hx
  have hG := R3Made_pure x.g hx.g hx.lc hx.l0 hx.l1
  have hP := R4Made_pure (game6 x) hg x.p hx.p
  have hlk := hx.lk
  have hW := R6Walk_pure (game6 x) hg (madePos (game6 x) x.p) (madePos_ok hg hx.p) (x.picks.take 6) (by simp; omega) (fun k hk => by have := hx.k k (List.mem_of_mem_take hk); have h0 := this.1; have h1 := this.2; omega)
  have hwl := walkP_len (game6 x) (x.picks.take 6) (madePos (game6 x) x.p)
  have hwp := List.length_pos_iff.2 (walkP_ne (game6 x) (madePos (game6 x) x.p) (x.picks.take 6))
  rw [show walkP (game6 x) (madePos (game6 x) x.p) (x.picks.take 6) = walk6 x from rfl] at hW hwl hwp
  have hq : pos6 x = nth (walk6 x) ((walk6 x).length - 1) := rfl
  rw [show madeG x.g = game6 x from rfl] at hG
  obtain ⟨eg, heg⟩ : ∃ eg, eg = encGame (game6 x) := ⟨_, rfl⟩
  have hegl : eg.length = 9 := by rw [heg]; rfl
  have hegb : ∀ n, (∀ c ∈ eg, Bel n c) = True := fun n => by rw [heg]; simp [go_sem]
  rw [← heg] at hG hP hW ⊢
  generalize walk6 x = w at *
  generalize pos6 x = q at *
  unfold encRaw6
  have hrow := rawRow hx.p
  obtain ⟨er, her⟩ : ∃ er, er = encRawP x.p := ⟨_, rfl⟩
  rw [← her] at hrow hP ⊢
  obtain ⟨rl, _, _, _, _, _, rb⟩ := hrow
  obtain ⟨er1, her1⟩ : ∃ er1, er1 = encRaw x.g := ⟨_, rfl⟩
  have er1l : er1.length = 12 := by rw [her1]; rfl
  have er1b : ∀ n, (∀ c ∈ er1, Bel n c) = True := fun n => by rw [her1]; simp [go_sem]
  rw [← her1] at hG ⊢
  have hc30 : cel (er1 ++ (er ++ [AV.lst 1 (x.picks.map encU)])) 30 = .lst 1 (x.picks.map encU) := by
    unfold cel
    rw [List.getD_eq_getElem?_getD, List.getElem?_append_right (by omega), List.getElem?_append_right (by omega)]
    simp [er1l, rl]
  have hd12 : List.take 18 (List.drop 12 (er1 ++ (er ++ [AV.lst 1 (x.picks.map encU)]))) = er := by
    rw [← er1l, List.drop_left, ← rl, List.take_left]
  (repeat (first|with_reducible (first|refine wL fun _=>?_|refine wD fun _=>?_|refine wE ?_|refine wZ ?_)|simp [go_sem, rl, rb, er1l, er1b, hegl, hegb]))
  refine ACallP.plain hG (by simp [go_sem, er1b]) ?_
  (repeat (first|with_reducible (first|refine wL fun _=>?_|refine wD fun _=>?_|refine wE ?_|refine wZ ?_)|simp [go_sem, rl, rb, er1l, er1b, hegl, hegb, hc30]))
  obtain ⟨pk, hpk⟩ : ∃ pk : Nat → List Int, ∀ i, pk i = x.picks.take i := ⟨_, fun _ => rfl⟩
  have htl : ∀ i, i ≤ x.picks.length → (pk i).length = i := fun i hi => by rw [hpk]; simp; omega
  have hts : ∀ i, i < x.picks.length → pk (i + 1) = pk i ++ [nth x.picks i] := fun i hi => by rw [hpk, hpk, List.take_add_one, List.getElem?_eq_getElem hi, nth_eq _ _ hi]; rfl
  have hp0 : pk 0 = [] := by rw [hpk]; rfl
  rw [← hpk] at hW
  refine ALoop.start (ALoop.ind (α := Nat) (fun i => ⟨[(1, .ref 0 0 31 0 0), (2, .ref 1 0 9 0 0), (3, .ref 2 0 5 0 0), (4, .ref 3 0 9 0 0), (5, .sl 4 i 1 0 i), (6, .v (.int .i64 i))],
      [(0, .rows true 0 31 [er1 ++ (er ++ [AV.lst 1 (x.picks.map encU)])]), (1, .rows true 0 9 [[.v (.int .i64 0), AV.nils, AV.nils, AV.nils, .v (.int .i64 0), .v (.bool false), AV.nils, .v (.int .i64 0), .v (.int .i64 0)]]),
       (2, .rows true 0 5 [[AV.nils, AV.nils, AV.nils, .v (.int .i64 0), .v (.int .i64 0)]]), (3, .rows true 0 9 [eg]), (4, .rows true i 1 ((pk i).map encI))], 5⟩)
    (fun d i => i + d = min x.picks.length 6) ?_ (min x.picks.length 6) 0 ?_) ?_ ?_
  · rintro d i i1 hrec
    (repeat (first|with_reducible (first|refine wL fun _=>?_|refine wD fun _=>?_|refine wE ?_|refine wZ ?_)|simp [go_sem, rl, rb, er1l, er1b, hegl, hegb, hc30]))
    refine aIf.mkL (fun hi => ?_) (fun hi => ?_) <;> simp at hi
    · have hil : i < x.picks.length := by omega
      have hki := hx.k _ (nth_mem hil)
      have hk0 := hki.1
      have hk1 := hki.2
      have e1 := htl i (by omega)
      have e2 := hts i hil
      (repeat (first|with_reducible (first|refine wL fun _=>?_|refine wD fun _=>?_|refine wE ?_|refine wZ ?_)|simp [go_sem, rl, er1l, hc30, hil, e1]))
      refine ALoop.start (hrec (d - 1) (by omega) (i + 1) (by omega)) ?_ (by simp)
      simp [go_sem, Wk_eq, e2, rb, er1b, hegb]
    · have hil : i = min x.picks.length 6 := by omega
      have e1 := htl i (by omega)
      have e2 : pk i = pk 6 := by rw [hpk, hpk, hil, List.take_eq_take_iff]; omega
      rw [← e2] at hW
      (repeat (first|with_reducible (first|refine wL fun _=>?_|refine wD fun _=>?_|refine wE ?_|refine wZ ?_)|simp [go_sem, rl, rb, er1l, er1b, hegl, hegb, hd12]))
      refine dCall.plain hP (by simp [go_sem, hegb, rb]) ?_
      (repeat (first|with_reducible (first|refine wL fun _=>?_|refine wD fun _=>?_|refine wE ?_|refine wZ ?_)|simp [go_sem, rl, rb, er1l, er1b, hegl, hegb]))
      refine dCall.frz [.agg eg, .agg (encPos (madePos (game6 x) x.p)), encIs (pk i)] _ [4] [(4, some (.rows false i 1 ((pk i).map encI)))] hW ?_ ?_ (by simp [go_sem, hegb]) ?_
      · intro p hp
        simp only [List.mem_singleton] at hp
        subst hp
        exact ⟨by simp, i, 1, _, rfl, by simp [upd]⟩
      · intro h₁ hS
        have h7 := hS 4 (by simp)
        simp [upd] at h7
        exact .cons (.refl _) (.cons (.refl _) (.cons (leV_frz h7.symm (by simp [e1]) (by simp [applyW, upd]) (by rw [List.drop_zero, List.take_of_length_le (by simp [e1])])) .nil))
      · have h6 : (x.picks.take 6).length ≤ 6 := by simp; omega
        have hw7 : w.length ≤ 7 := by omega
        have hwi : ((w.length : Int) - 1).toNat = w.length - 1 := by omega
        have hwn : w.length - 1 < w.length := by omega
        rw [hq]
        (repeat (first|with_reducible (first|refine wL fun _=>?_|refine wD fun _=>?_|refine wE ?_|refine wZ ?_)|simp [go_sem, rl, rb, er1l, er1b, hegl, hegb, hwi, hwn]))
  · omega
  · simp [go_sem, Wk_eq, rb, er1b, hegb, hp0]
  · simp
theorem raw6_len {x : Raw6} (hx : Raw6Ok x) : (encRaw6 x).length = 31 := by
  obtain ⟨rl, _, _, _, _, _, rb⟩ := rawRow hx.p
  simp [encRaw6, encRaw, rl]
theorem raw6_bel {x : Raw6} (hx : Raw6Ok x) (n : Nat) : (∀ c ∈ encRaw6 x, Bel n c) = True := by
  obtain ⟨rl, _, _, _, _, _, rb⟩ := rawRow hx.p
  refine eq_true ?_
  intro c hc
  unfold encRaw6 at hc
  rcases List.mem_append.1 hc with h | h
  · have : (∀ c ∈ encRaw x.g, Bel n c) = True := by simp [go_sem]
    exact of_eq_true this c h
  · rcases List.mem_append.1 h with h | h
    · exact of_eq_true (rb n) c h
    · simp only [List.mem_singleton] at h
      subst h
      simp [go_sem]
end Go.Av
end
section
open Go Go.Proofs
set_option maxRecDepth 20000
set_option maxHeartbeats 4000000
namespace Go.Av
def encD (D : List (List PosD)) : List (List AV) := D.map fun l => [encPs l]
theorem bel_encD {n : Nat} {D : List (List PosD)} : (∀ r ∈ encD D, ∀ c ∈ r, Bel n c) = True := by
 refine eq_true ?_
 intro r hr c hc
 obtain ⟨x, _, rfl⟩ := List.mem_map.1 hr
 simp only [List.mem_cons, List.not_mem_nil, or_false] at hc
 subst hc
 exact bel_encPs _
attribute [go_sem ↓] bel_encD
@[go_sem] theorem encD_len (D : List (List PosD)) : (encD D).length = D.length := by simp [encD]
theorem encD_append (D E : List (List PosD)) : encD (D ++ E) = encD D ++ encD E := by simp [encD]
theorem nth_encD {D : List (List PosD)} {i : Nat} (h : i < D.length) : nth (encD D) i = [encPs (nth D i)] := nth_map _ _ _ h
end Go.Av
end
section
open Go Go.Proofs
set_option maxRecDepth 20000
set_option maxHeartbeats 4000000
namespace Go.Av
theorem trace11_pure (q : PosD) (hq : FitsP q) (mv : List PosD) (hi : Inc mv) (hl : mv.length ≤ 17179869184) (hf : ∀ r ∈ mv, FitsP r) :
  Pure Tryz.prog 189 [.agg (encPos q), .fp [encPs mv]] (.v (.bool (decide (q ∈ mv)))) := by
 refine pF Tryz.func189 ?_
 have hF := pFind_pure mv hi hl hf q hq
 have e : decide (q ∈ mv) = decide (0 ≤ fndP mv q) := by rw [decide_eq_decide]; exact (fndP_mem hi).symm
 rw [e]
 generalize fndP mv q = fi at *
 (repeat (first|with_reducible (first|refine wL fun _=>?_|refine wD fun _=>?_|refine wE ?_|refine wZ ?_)|simp [go_sem]))
 refine ACallP.plain hF (by simp [go_sem]) ?_
 (repeat (first|with_reducible (first|refine wL fun _=>?_|refine wD fun _=>?_|refine wE ?_|refine wZ ?_)|simp [go_sem]))
theorem trace1_pure (g : GameD) (hg : GOk g) (p : PosD) (hp : POk g p) (l : List PosD) (hl : l.length ≤ 17179869184) (hf : ∀ q ∈ l, FitsP q) :
  Pure Tryz.prog 188 [.agg (encPos p), encPs l, .fp (encGame g)] (.v (.int .i64 (frstP g p l))) := by
 refine pF Tryz.func188 ?_
 have hM := Moves_pure g hg p hp
 have hml := movesP_len2 hg hp
 have hmf := fun m hm => ((movesP_ok hg hp) m hm).1.fits hg
 have hinc := movesP_inc g p
 unfold frstP
 generalize movesP g p = mv at *
 have hC := IndexFuncP_pure l hl 189 [] [.fp [encPs mv]] (fun q => decide (q ∈ mv)) (fun q hq => trace11_pure q (hf q hq) mv hinc (by omega) hmf) (by simp) (by simp [go_sem])
 (repeat (first|with_reducible (first|refine wL fun _=>?_|refine wD fun _=>?_|refine wE ?_|refine wZ ?_)|simp [go_sem]))
 refine ACallP.plain hM (by simp [go_sem]) ?_
 (repeat (first|with_reducible (first|refine wL fun _=>?_|refine wD fun _=>?_|refine wE ?_|refine wZ ?_)|simp [go_sem]))
 refine ACallP.pureF [1] hC ?_ (by simp [go_sem]) ?_
 ·((try simp only [encProg, encStep, encAct, encAs, encPath, encPt, encOut, encState, encPos, encOs, encSs, encPs, encIs, encGame, List.map_cons, List.map_nil, List.nil_append, List.append_nil, List.cons_append]); (repeat (first | (with_reducible exact LeRow.nil) | (with_reducible exact LeRows.nil) | (with_reducible exact LeV.refl _) | (with_reducible exact LeRow.refl _ _ _ _) | (with_reducible exact LeRows.refl _) | (with_reducible refine LeRow.cons ?_ ?_) | (with_reducible refine LeRows.cons ?_ ?_) | (with_reducible refine LeV.agg ?_) | (with_reducible refine LeV.tup ?_) | (with_reducible refine LeV.fn ?_ ?_) | (with_reducible exact LeV.nil _) | (with_reducible refine leRows_append (LeRows.refl _) ?_) | ((refine leV_frz rfl (by simp) (by simp [frzO, frz1, upd, noH]) ?_); (first | (simp [go_sem]; done) | (simp [go_sem]; exact List.take_of_length_le (by simp)))) | ((refine LeV.frz rfl (by simp) (by simp [frzO, frz1, upd, noH]) ?_); (simp only [List.drop_zero, List.take_succ_cons, List.take_zero, List.map_cons, List.map_nil])) | ((refine LeV.frzP rfl (by simp) (by simp) (by simp [frzO, frz1, upd, noH]) ?_); (simp only [nth_zero, List.drop_zero])))))
 ·(repeat (first|with_reducible (first|refine wL fun _=>?_|refine wD fun _=>?_|refine wE ?_|refine wZ ?_)|simp [go_sem]))
theorem leRows_setK {h h' : Heap} {n : Nat} {x y : List AV} (hx : LeRow h h' n x y) : ∀ (l : List (List AV)) (k : Nat), LeRows h h' n (l.set k x) (l.set k y)
 | [], _ => .nil
 | _ :: l, 0 => .cons hx (.refl _)
 | z :: l, k + 1 => .cons (.refl _ _ _ _) (leRows_setK hx l k)
theorem bel_setK {n : Nat} {l : List (List AV)} {k : Nat} {x : List AV} (h1 : ∀ r ∈ l, ∀ c ∈ r, Bel n c) (h2 : ∀ c ∈ x, Bel n c) : ∀ r ∈ l.set k x, ∀ c ∈ r, Bel n c := by
 intro r hr
 rcases List.mem_or_eq_of_mem_set hr with hr | rfl
 ·exact h1 r hr
 ·exact h2
theorem set_nth_self {α : Type} [Inhabited α] {l : List α} {k : Nat} (h : k < l.length) : l.set k (nth l k) = l := by
 rw [nth_eq _ _ h]
 exact List.set_getElem_self h
theorem leRows_ownK {h h' : Heap} {n o : Nat} {l : List (List AV)} {k : Nat} (hk : k < l.length) (e : nth l k = [AV.nils]) (hn : n ≤ o) (ho : h' o = some (.rows true 0 5 [])) : LeRows h h' n l (l.set k [.sl o 0 5 0 0]) := by
 have h1 : LeRow h h' n [AV.nils] [.sl o 0 5 0 0] := .cons (.own hn ho) .nil
 have := leRows_setK h1 l k
 rwa [← e, set_nth_self hk] at this
def backR (N : Nat) (G : List (List PosD)) (m : Nat) : List (List AV) := (List.range N).map fun j => if m ≤ j then [encPs (nth G j)] else [AV.nils]
@[go_sem] theorem backR_len (N : Nat) (G : List (List PosD)) (m : Nat) : (backR N G m).length = N := by simp [backR]
theorem nth_backR (N : Nat) (G : List (List PosD)) (m : Nat) {j : Nat} (hj : j < N) : nth (backR N G m) j = if m ≤ j then [encPs (nth G j)] else [AV.nils] := by
 rw [nth_eq _ _ (by rw [backR_len]; exact hj)]
 simp [backR]
theorem bel_backR {n N : Nat} {G : List (List PosD)} {m : Nat} : (∀ r ∈ backR N G m, ∀ c ∈ r, Bel n c) = True := by
 refine eq_true ?_
 intro r hr c hc
 obtain ⟨j, _, rfl⟩ := List.mem_map.1 hr
 split at hc
 ·simp only [List.mem_cons, List.not_mem_nil, or_false] at hc
  subst hc
  exact bel_encPs _
 ·simp only [List.mem_cons, List.not_mem_nil, or_false] at hc
  subst hc
  exact .v _
attribute [go_sem ↓] bel_backR
theorem backR_set {N : Nat} {G : List (List PosD)} {m : Nat} (hm : m < N) : (backR N G (m + 1)).set m [encPs (nth G m)] = backR N G m := by
 refine List.ext_getElem (by simp [backR]) fun j h1 h2 => ?_
 rw [List.getElem_set]
 simp only [backR, List.getElem_map, List.getElem_range]
 by_cases h : m = j
 ·subst h
  simp
 ·rw [if_neg h]
  by_cases h' : m ≤ j
  ·rw [if_pos h', if_pos (by omega)]
  ·rw [if_neg h', if_neg (by omega)]
theorem backR_last {N : Nat} {G : List (List PosD)} {goal : PosD} (hN : 1 ≤ N) (hG : nth G (N - 1) = [goal]) : (List.replicate N [AV.nils]).set (N - 1) [encPs [goal]] = backR N G (N - 1) := by
 refine List.ext_getElem (by simp [backR]) fun j h1 h2 => ?_
 rw [List.getElem_set]
 simp only [backR, List.getElem_map, List.getElem_range, List.getElem_replicate]
 simp only [backR_len] at h2
 by_cases h : N - 1 = j
 ·subst h
  rw [if_pos rfl, if_pos (by omega), hG]
 ·rw [if_neg h, if_neg (by omega)]
theorem trace_pure (g : GameD) (hg : GOk g) (past : List (List PosD)) (goal : PosD) (hN4 : past.length ≤ 4002) (hc : ChainOk g past) (hgo : goal ∈ nth past (past.length - 1)) (hok : ∀ l ∈ past, ∀ q ∈ l, POk g q) (hll : ∀ l ∈ past, l.length ≤ 1889788001) :
  Pure Tryz.prog 144 [.agg (encGame g), .lst 1 (encD past), .agg (encPos goal)] (encPs (traceP g past goal)) := by
 refine pF Tryz.func144 ?_
 have hN1 := List.length_pos_iff.2 hc.ne
 have hlast := goodP_last g goal past hc.ne
 have hsub := fun i (hi : i < past.length) => goodP_sub (g := g) (goal := goal) hi hgo
 have hat := goodP_at g goal past
 have hway := fun i (hi : i < past.length) => wayP_mem hc hgo i hi
 have hfst := fun i (hi : i + 1 < past.length) => wayP_first hc hgo hi
 have hw0 : wayP g past goal 0 = nth (nth past 0) 0 := rfl
 have hws : ∀ i, wayP g past goal (i + 1) = nth (nth (goodP g past goal) (i + 1)) (frstP g (wayP g past goal i) (nth (goodP g past goal) (i + 1))).toNat := fun i => rfl
 unfold traceP
 generalize goodP g past goal = G at *
 generalize wayP g past goal = way at *
 have hnth : ∀ j, j < past.length → nth (encD past) j = [encPs (nth past j)] := fun j hj => nth_encD hj
 have hNn : ((past.length : Int) - 1).toNat = past.length - 1 := by omega
 have hbl := backR_last (G := G) (goal := goal) hN1 hlast
 have hGo : ∀ i, i < past.length → ∀ q ∈ nth G i, POk g q := fun i hi q hq => hok _ (nth_mem hi) q (hsub i hi q hq)
 have hGf : ∀ i, i < past.length → ∀ q ∈ nth G i, FitsP q := fun i hi q hq => (hGo i hi q hq).fits hg
 have hGl : ∀ i, i < past.length → (nth G i).length ≤ 1889788001 := fun i hi => by
  by_cases h : i + 1 < past.length
  ·rw [hat i h]
   exact Nat.le_trans (List.length_filter_le _ _) (hll _ (nth_mem hi))
  ·obtain rfl : i = past.length - 1 := by omega
   rw [hlast]; simp
 obtain ⟨out, hout⟩ : ∃ out : Nat → List PosD, ∀ i, out i = (List.range i).map way := ⟨_, fun _ => rfl⟩
 have houtl : ∀ i, (out i).length = i := fun i => by rw [hout]; simp
 have houts : ∀ i, out (i + 1) = out i ++ [way i] := fun i => by rw [hout, hout, List.range_succ, List.map_append]; rfl
 have houtn : ∀ i j, j < i → nth (out i) j = way j := fun i j hj => by rw [hout, nth_map _ _ _ (by simpa using hj), nth_eq _ _ (by simpa using hj)]; simp
 have hout0 : out 0 = [] := by rw [hout]; rfl
 rw [← hout]
 clear hout
 have hegl : (encGame g).length = 9 := rfl
 have hegb : ∀ n, (∀ c ∈ encGame g, Bel n c) = True := fun n => by simp [go_sem]
 have hFi := fun p (hp : POk g p) i (hi : i < past.length) => trace1_pure g hg p hp (nth G i) (by have := hGl i hi; omega) (hGf i hi)
 generalize encGame g = eg at *
 (repeat (first|with_reducible (first|refine wL fun _=>?_|refine wD fun _=>?_|refine wE ?_|refine wZ ?_)|simp [go_sem, hNn, hegl]))
 refine ALoop.start (ALoop.ind (α := Nat) (fun m => ⟨[(1, .lst 1 (encD past)), (7, .v (.int .i64 ((past.length : Int) - 1))), (8, .sl 2 0 1 0 past.length), (9, .fn (.func 188) [] [.ref 0 0 9 0 0]), (10, .v (.int .i64 ((m : Int) - 1)))], [(0, .rows false 0 9 [eg]), (2, .rows true 0 1 (backR past.length G m))], 4⟩)
  (fun d m => d = m ∧ m ≤ past.length - 1) ?_ (past.length - 1) (past.length - 1) ?_) ?_ ?_
 ·rintro d m ⟨rfl, i1⟩ hrec
  (repeat (first|with_reducible (first|refine wL fun _=>?_|refine wD fun _=>?_|refine wE ?_|refine wZ ?_)|simp [go_sem]))
  refine aIf.mkL (fun hm => ?_) (fun hm => ?_) <;> simp at hm
  ·have e1 : ((d : Int) - 1).toNat = d - 1 := by omega
   have e2 : ((d : Int) - 1 + 1).toNat = d := by omega
   have hn := hnth (d - 1) (by omega)
   have hat := hat (d - 1) (by omega)
   rw [show d - 1 + 1 = d by omega] at hat
   have hly := hok _ (nth_mem (show d - 1 < past.length by omega))
   have hlyl := hll _ (nth_mem (show d - 1 < past.length by omega))
   generalize nth past (d - 1) = ly at *
   have hFd := fun p hp => hFi p hp d (by omega)
   obtain ⟨fl, hfl⟩ : ∃ fl : Nat → List PosD, ∀ k, fl k = (ly.take k).filter (fun p => decide (0 ≤ frstP g p (nth G d))) := ⟨_, fun _ => rfl⟩
   have hfll : ∀ k, (fl k).length ≤ 1889788001 := fun k => by
    have h1 : (fl k).length ≤ (ly.take k).length := by rw [hfl]; exact List.length_filter_le _ _
    have h2 : (ly.take k).length ≤ ly.length := by simp; omega
    omega
   have hfl0 : fl 0 = [] := by rw [hfl]; rfl
   have hfls : ∀ k, k < ly.length → fl (k + 1) = if 0 ≤ frstP g (nth ly k) (nth G d) then fl k ++ [nth ly k] else fl k := fun k hk => by
    rw [hfl, hfl, List.take_add_one, List.getElem?_eq_getElem hk, nth_eq _ _ hk, Option.toList_some, List.filter_append]
    by_cases h : 0 ≤ frstP g ly[k] (nth G d) <;> simp [h]
   have hflE : fl ly.length = nth G (d - 1) := by rw [hfl, List.take_length, hat]
   have hb1 : nth (backR past.length G d) d = [encPs (nth G d)] := by rw [nth_backR _ _ _ (by omega), if_pos (Nat.le_refl _)]
   have hb2 : nth (backR past.length G d) (d - 1) = [AV.nils] := by rw [nth_backR _ _ _ (by omega), if_neg (by omega)]
   have hb3 : ∀ r : List AV, nth ((backR past.length G d).set (d - 1) r) d = [encPs (nth G d)] := fun r => by
    rw [nth_setE, if_neg (by omega), hb1]
   have hdl : d - 1 < past.length := by omega
   have hdl2 : d < past.length := by omega
   clear hfl hat
   (repeat (first|with_reducible (first|refine wL fun _=>?_|refine wD fun _=>?_|refine wE ?_|refine wZ ?_)|simp [go_sem, hn, e1]))
   refine ALoop.start (ALoop.ind (α := Nat) (fun j => ⟨[(1, .lst 1 (encD past)), (7, .v (.int .i64 ((past.length : Int) - 1))), (8, .sl 2 0 1 0 past.length), (9, .fn (.func 188) [] [.ref 0 0 9 0 0]), (10, .v (.int .i64 ((d : Int) - 1))), (36, encPs ly), (37, .v (.int .i64 ly.length)), (38, .v (.int .i64 j))],
     [(0, .rows false 0 9 [eg]), (2, .rows true 0 1 ((backR past.length G d).set (d - 1) [.sl 4 (fl j).length 5 0 (fl j).length])), (4, .rows true (fl j).length 5 ((fl j).map encPos))], 5⟩)
    (fun d j => j + d = ly.length) ?_ ly.length 0 ?_) ?_ ?_
   ·rintro d2 j j1 hrec2
    (repeat (first|with_reducible (first|refine wL fun _=>?_|refine wD fun _=>?_|refine wE ?_|refine wZ ?_)|simp [go_sem]))
    refine aIf.mkL (fun hj => ?_) (fun hj => ?_) <;> simp at hj
    ·have hpo := hly _ (nth_mem hj)
     have hF := hFd _ hpo
     have hfls := hfls j hj
     have h1 := hfll j
     have h2 := hfll (j + 1)
     generalize hq : nth ly j = q at *
     generalize frstP g q (nth G d) = fi at *
     (repeat (first|with_reducible (first|refine wL fun _=>?_|refine wD fun _=>?_|refine wE ?_|refine wZ ?_)|simp [go_sem, hj, hq, e2, hb3, hdl2]))
     refine dCall.frz [.agg (encPos q), encPs (nth G d), .fp eg] _ [0] [] hF (by simp) ?_ (by simp [go_sem, hegb]) ?_
     ·intro h₁ hS
      have h0 := hS 0 (by simp)
      simp [upd] at h0
      exact .cons (.refl _) (.cons (.refl _) (.cons (.frzP h0.symm (by simp) (by simp) (by simp [applyW, upd, ← h0]) (.refl _ _ _ _)) .nil))
     ·(repeat (first|with_reducible (first|refine wL fun _=>?_|refine wD fun _=>?_|refine wE ?_|refine wZ ?_)|simp [go_sem]))
      refine aIf.mkL (fun hz => ?_) (fun hz => ?_) <;> simp at hz
      ·rw [if_pos hz] at hfls
       (repeat (first|with_reducible (first|refine wL fun _=>?_|refine wD fun _=>?_|refine wE ?_|refine wZ ?_)|simp [go_sem, hdl, e1]))
       refine ALoop.start (hrec2 (d2 - 1) (by omega) (j + 1) (by omega)) ?_ (by simp)
       simp [go_sem, Wk_eq, hfls, hegb]
       exact bel_setK (of_eq_true bel_backR) (by simp [go_sem])
      ·rw [if_neg (by omega)] at hfls
       (repeat (first|with_reducible (first|refine wL fun _=>?_|refine wD fun _=>?_|refine wE ?_|refine wZ ?_)|simp [go_sem]))
       refine ALoop.start (hrec2 (d2 - 1) (by omega) (j + 1) (by omega)) ?_ (by simp)
       simp [go_sem, Wk_eq, hfls, hegb]
       exact bel_setK (of_eq_true bel_backR) (by simp [go_sem])
    ·obtain rfl : j = ly.length := by omega
     rw [hflE]
     have hbs := backR_set (G := G) (N := past.length) (m := d - 1) (by omega)
     rw [show d - 1 + 1 = d by omega] at hbs
     have ec : ((d - 1 : Nat) : Int) = (d : Int) - 1 := by omega
     (repeat (first|with_reducible (first|refine wL fun _=>?_|refine wD fun _=>?_|refine wE ?_|refine wZ ?_)|simp [go_sem]))
     refine ALoop.start (hrec (d - 1) (by omega) (d - 1) ⟨rfl, by omega⟩) ?_ (by simp)
     simp [go_sem, Wk_eq, hegb, ec]
     rw [← hbs]
     exact leRows_setK (.cons (leV_frz rfl (by simp) (by simp [upd, noH]) (by simp; exact List.take_of_length_le (by simp))) .nil) _ _
   ·simp
   ·simp [go_sem, Wk_eq, hfl0, hegb]
    refine ⟨?_, bel_setK (of_eq_true bel_backR) (by simp [go_sem])⟩
    exact leRows_ownK (by rw [backR_len]; omega) hb2 (by simp) (by simp [mkH, upd])
   ·simp
  ·obtain rfl : d = 0 := by omega
   have hn0 := hnth 0 (by omega)
   obtain ⟨st, hst⟩ := hc.one
   have hz1 : nth (nth past 0) 0 = st := by rw [hst]; rfl
   rw [hst] at hn0
   rw [hz1] at hw0
   have hg0 := fun j (hj : j < past.length) => nth_backR past.length G 0 hj
   simp only [Nat.zero_le, if_true] at hg0
   have hout1 : out 1 = [st] := by rw [houts 0, hout0, hw0]; rfl
   (repeat (first|with_reducible (first|refine wL fun _=>?_|refine wD fun _=>?_|refine wE ?_|refine wZ ?_)|simp [go_sem, hn0]))
   refine ALoop.start (ALoop.ind (α := Nat) (fun i => ⟨[(7, .v (.int .i64 ((past.length : Int) - 1))), (8, .sl 2 0 1 0 past.length), (9, .fn (.func 188) [] [.ref 0 0 9 0 0]), (13, .sl 4 i 5 0 (i + 1)), (14, .v (.int .i64 ((i : Int) + 1)))], [(0, .rows false 0 9 [eg]), (2, .rows true 0 1 (backR past.length G 0)), (4, .rows true i 5 ((out (i + 1)).map encPos))], 5⟩)
    (fun d i => i + 1 + d = past.length) ?_ (past.length - 1) 0 ?_) ?_ ?_
   ·rintro d2 i i2 hrec2
    have hol := houtl (i + 1)
    (repeat (first|with_reducible (first|refine wL fun _=>?_|refine wD fun _=>?_|refine wE ?_|refine wZ ?_)|simp [go_sem, hol]))
    refine aIf.mkL (fun hi => ?_) (fun hi => ?_) <;> simp at hi
    ·have e5 : ((i : Int) + 1).toNat = i + 1 := by omega
     have e6 : ((i : Int) + 1 - 1).toNat = i := by omega
     have hgi := hg0 (i + 1) (by omega)
     have hoi := houtn (i + 1) i (by omega)
     have hwi := hGo i (by omega) _ (hway i (by omega))
     have hF := hFi (way i) hwi (i + 1) (by omega)
     have hf1 := hfst i (by omega)
     have hf2 := (frstP_some hf1).1
     have hos := houts (i + 1)
     rw [hws i] at hos
     have hil : i + 1 < past.length := by omega
     generalize frstP g (way i) (nth G (i + 1)) = fi at *
     (repeat (first|with_reducible (first|refine wL fun _=>?_|refine wD fun _=>?_|refine wE ?_|refine wZ ?_)|simp [go_sem, hol, e5, e6, hgi, hoi, hil]))
     refine dCall.frz [.agg (encPos (way i)), encPs (nth G (i + 1)), .fp eg] _ [0] [] hF (by simp) ?_ (by simp [go_sem, hegb]) ?_
     ·intro h₁ hS
      have h0 := hS 0 (by simp)
      simp [upd] at h0
      exact .cons (.refl _) (.cons (.refl _) (.cons (.frzP h0.symm (by simp) (by simp) (by simp [applyW, upd, ← h0]) (.refl _ _ _ _)) .nil))
     ·(repeat (first|with_reducible (first|refine wL fun _=>?_|refine wD fun _=>?_|refine wE ?_|refine wZ ?_)|simp [go_sem, hol, hf2]))
      refine ALoop.start (hrec2 (d2 - 1) (by omega) (i + 1) (by omega)) ?_ (by simp)
      simp [go_sem, Wk_eq, hos, hegb]
    ·have e : out past.length = out (i + 1) := by rw [show past.length = i + 1 by omega]
     (repeat (first|with_reducible (first|refine wL fun _=>?_|refine wD fun _=>?_|refine wE ?_|refine wZ ?_)|simp [go_sem]))
     rw [e]
     exact leV_frz rfl (by simp [hol]) (by simp [upd, noH]) (by simp; exact List.take_of_length_le (by simp [hol]))
   ·simp; omega
   ·simp [go_sem, Wk_eq, hegb, hout1]
   ·simp
 ·exact ⟨rfl, Nat.le_refl _⟩
 ·simp [go_sem, Wk_eq, hegb]
  refine ⟨?_, ?_⟩
  ·rw [show ((past.length - 1 : Nat) : Int) = (past.length : Int) - 1 by omega]
   exact .refl _
  ·rw [← hbl]
   exact leRows_setK (.cons (leV_frz rfl (by simp) (by simp [upd, noH]) (by simp [go_sem])) .nil) _ _
 ·simp
end Go.Av
end
section
open Go Go.Proofs
set_option maxRecDepth 20000
set_option maxHeartbeats 4000000
namespace Go.Av
theorem gameP_at {g : GameD} {p goal : PosD} {n : Int} {d : Nat} (hd : d < (searchP g p n).length) (h : goal ∈ (nth (searchP g p n) d).1) (hb : ∀ j, j < d → goal ∉ (nth (searchP g p n) j).1) :
  gameP g p goal n = (traceP g (((searchP g p n).take (d + 1)).map (·.1)) goal, 0) := by
 have : (searchP g p n).findIdx? (fun x => decide (goal ∈ x.1)) = some d := by
  rw [List.findIdx?_eq_some_iff_getElem]
  refine ⟨hd, by rw [← nth_eq _ _ hd]; simpa using h, fun j hj => ?_⟩
  have := hb j hj
  rw [nth_eq _ _ (by omega)] at this
  simpa using this
 unfold gameP
 rw [this]
theorem gameP_no {g : GameD} {p goal : PosD} {n : Int} (hb : ∀ j, j < (searchP g p n).length → goal ∉ (nth (searchP g p n) j).1) :
  gameP g p goal n = ([], if fullP (searchP g p n) then 270 else 2) := by
 have : (searchP g p n).findIdx? (fun x => decide (goal ∈ x.1)) = none := by
  rw [List.findIdx?_eq_none_iff]
  intro x hx
  obtain ⟨j, hj, rfl⟩ := List.getElem_of_mem hx
  have := hb j hj
  rw [nth_eq _ _ hj] at this
  simpa using this
 unfold gameP
 rw [this]
theorem layersP_last (g : GameD) (b : Int) : ∀ (f : Nat) (known now : List PosD) (i : Nat), (nth (layersP g b f known now) i).2 = true → i < (layersP g b f known now).length → i + 1 = (layersP g b f known now).length
 | 0, known, now, i, h, hl => by simp [layersP] at hl
 | f + 1, known, now, i, h, hl => by
  rw [layersP] at h hl ⊢
  split at h
  ·rename_i hk
   rw [if_pos hk] at hl ⊢
   simp at hl ⊢
   omega
  ·rename_i hk
   rw [if_neg hk] at hl ⊢
   split at h
   ·rename_i hz
    rw [if_pos hz] at hl ⊢
    simp at hl ⊢
    omega
   ·rename_i hz
    rw [if_neg hz] at hl ⊢
    cases i with
    | zero => simp [nth_zero] at h
    | succ i =>
     rw [nth_succ] at h
     have := layersP_last g b f _ _ i h (by simpa using hl)
     simp only [List.length_cons]
     omega
theorem searchP_past {g : GameD} (hg : GOk g) {p : PosD} (hp : POk g p) (n : Int) (d : Nat) :
  (((searchP g p n).take (d + 1)).map (·.1)).length ≤ 4002 ∧ (∀ l ∈ ((searchP g p n).take (d + 1)).map (·.1), ∀ q ∈ l, POk g q) ∧ ∀ l ∈ ((searchP g p n).take (d + 1)).map (·.1), l.length ≤ 1889788001 := by
 have hcnt := searchP_count g p n
 have hok := searchP_ok hg hp n
 have hlen := searchP_len hg hp n
 generalize searchP g p n = L at *
 refine ⟨by simp; omega, fun l hl => ?_, fun l hl => ?_⟩
 ·obtain ⟨x, hx, rfl⟩ := List.mem_map.1 hl
  exact (hok x (List.mem_of_mem_take hx)).2
 ·obtain ⟨x, hx, rfl⟩ := List.mem_map.1 hl
  have hx := List.mem_of_mem_take hx
  obtain ⟨i, hi, rfl⟩ := List.getElem_of_mem hx
  have e : allOf L = allOf (L.take i) ++ (L[i].1 ++ allOf (L.drop (i + 1))) := by
   unfold allOf
   rw [← List.flatMap_cons, ← List.drop_eq_getElem_cons hi, ← List.flatMap_append, List.take_append_drop]
  have := congrArg List.length e
  simp only [List.length_append] at this
  omega
theorem Game_pure (g : GameD) (hg : GOk g) (p : PosD) (hp : POk g p) (goal : PosD) (hq : FitsP goal) (n : Int) :
  Pure Tryz.prog 70 [.agg (encGame g), .agg (encPos p), .agg (encPos goal), .v (.int .i64 n)] (.tup [encPs (gameP g p goal n).1, .v (.int .i64 (gameP g p goal n).2)]) := by
 refine pF Tryz.func70 ?_
 have hS : Owns Tryz.prog 142 [.agg (encGame g), .agg (encPos p), .v (.int .i64 n)] (fun k => layR k) (fun k => layH g p n k) 3 := layers_owns g p n
 have hQ := layersF_seq g hg p hp (budP n) (budP_range n)
 simp only [layR, layH] at hS
 rw [show layersP g (budP n) ((budP n).toNat + 2) [p] [p] = searchP g p n from rfl] at hQ
 have hA := fun d => gameP_at (g := g) (p := p) (goal := goal) (n := n) (d := d)
 have hN := gameP_no (g := g) (p := p) (goal := goal) (n := n)
 have hpast := searchP_past hg hp n
 have hchain := searchP_chain g p n
 have hok := searchP_ok hg hp n
 have hne := searchP_ne g p n
 have hfull := fullP_nth hne
 have hcnt := searchP_count g p n
 have hlst : ∀ i, (nth (searchP g p n) i).2 = true → i < (searchP g p n).length → i + 1 = (searchP g p n).length := layersP_last g (budP n) ((budP n).toNat + 2) [p] [p]
 have hlen := searchP_len hg hp n
 generalize gameP g p goal n = gm at *
 generalize searchP g p n = L at *
 (repeat (first|with_reducible (first|refine wL fun _=>?_|refine wD fun _=>?_|refine wE ?_|refine wZ ?_)|simp [go_sem, GH]))
 refine ACallP.ownsPlain hS (by simp [go_sem]) ?_
 (repeat (first|with_reducible (first|refine wL fun _=>?_|refine wD fun _=>?_|refine wE ?_|refine wZ ?_)|simp [go_sem, GH]))
 refine aRange.mk [.fp (encPos p), .fp [.v (.int .i64 (budP n))], .fp (encGame g)] (frzO _ [6, 7, 8]) hQ (frz_frzO _ _) ?_ (by simp [go_sem]) (fun xs hx => by obtain ⟨y, _, rfl⟩ := List.mem_map.1 hx; rfl) ?_
 ·refine LeRow.cons (.frzP rfl ?_ ?_ ?_ ?_) (LeRow.cons (.frzP rfl ?_ ?_ ?_ ?_) (LeRow.cons (.frzP rfl ?_ ?_ ?_ ?_) .nil)) <;> first | exact LeRow.refl _ _ _ _ | simp [frzO, frz1, upd]
 obtain ⟨D, hD⟩ : ∃ D : Nat → List (List PosD), ∀ k, D k = (L.take k).map (·.1) := ⟨_, fun _ => rfl⟩
 have hDl : ∀ k, k ≤ L.length → (D k).length = k := fun k hk => by rw [hD]; simp; omega
 have hDs : ∀ k, k < L.length → D (k + 1) = D k ++ [(nth L k).1] := fun k hk => by rw [hD, hD, List.take_add_one, List.getElem?_eq_getElem hk, nth_eq _ _ hk, Option.toList_some, List.map_append]; rfl
 have hD0 : D 0 = [] := by rw [hD]; rfl
 simp only [← hD] at hA hpast hchain
 refine Fgt.to (ARange.ind (α := Nat) (fun k => ([(4, .ref 0 0 9 0 0), (6, .ref 2 0 5 0 0), (8, .ref 3 0 1 0 0), (9, .ref 4 0 1 0 0), (10, .ref 5 0 1 0 0)], [(0, .rows true 0 9 [encGame g]), (2, .rows true 0 5 [encPos goal]), (3, .rows true 0 1 [[AV.nils]]), (4, .rows true 0 1 [[.v (.int .i64 0)]]), (5, .rows true 0 1 [[.sl 9 k 1 0 k]]), (9, .rows true k 1 (encD (D k)))], 10))
  (fun rows k => rows = (L.drop k).map rowL ∧ k ≤ L.length ∧ (∀ j, j < k → goal ∉ (nth L j).1 ∧ (nth L j).2 = false)) ?_ ?_ _ 0 ?_) ?_ ?_
 ·rintro k ⟨i1, i2, i3⟩
  have hk : k = L.length := by
   have := congrArg List.length i1
   simp at this
   omega
  subst hk
  refine ⟨rfl, ?_⟩
  have hl := List.length_pos_iff.2 hne
  have hff : fullP L = false := by rw [hfull]; exact (i3 _ (by omega)).2
  have hgm := hN (fun j hj => (i3 j hj).1)
  rw [hff] at hgm
  subst hgm
  (repeat (first|with_reducible (first|refine wL fun _=>?_|refine wD fun _=>?_|refine wE ?_|refine wZ ?_)|simp [go_sem, GH]))
 ·rintro xs rs k ⟨i1, i2, i3⟩ hrec
  have hk : k < L.length := by
   have := congrArg List.length i1
   simp at this
   omega
  rw [dropG_cons hk, List.map_cons, List.cons.injEq] at i1
  obtain ⟨rfl, rfl⟩ := i1
  generalize hrs : (L.drop (k + 1)).map rowL = rs at *
  have hDk := hDl k i2
  have hDs := hDs k hk
  have hokk := hok _ (nth_mem hk)
  have hF := pFind_pure (nth L k).1 hokk.1 (by
   have := (hpast k).2.2 (nth L k).1 (by rw [hDs]; simp)
   omega) (fun q h => (hokk.2 q h).fits hg) goal hq
  have hFm := fndP_mem hokk.1 (p := goal)
  refine ARange.go (Nat.zero_le _) ?_
  generalize fndP (nth L k).1 goal = fi at *
  generalize hnx : nth L k = x at *
  obtain ⟨now, full⟩ := x
  simp only at hF hFm hDs
  (repeat (first|with_reducible (first|refine wL fun _=>?_|refine wD fun _=>?_|refine wE ?_|refine wZ ?_)|simp [go_sem, GH, rowL, hDk]))
  refine ACallP.plain hF (by simp [go_sem]) ?_
  (repeat (first|with_reducible (first|refine wL fun _=>?_|refine wD fun _=>?_|refine wE ?_|refine wZ ?_)|simp [go_sem, GH]))
  refine aIf.mkL (fun hz => ?_) (fun hz => ?_) <;> simp at hz
  ·have hin := hFm.1 hz
   have hgm := hA k hk (by rw [hnx]; exact hin) (fun j hj => (i3 j hj).1)
   have hp1 := hpast k
   have hDl1 := hDl (k + 1) (by omega)
   have hT := trace_pure g hg (D (k + 1)) goal hp1.1 (hchain k) (by rw [hDl1, hDs, nth_eq _ _ (by simp; omega)]; simp [hDk, hin]) hp1.2.1 hp1.2.2
   rw [hgm]
   generalize traceP g (D (k + 1)) goal = tr at *
   (repeat (first|with_reducible (first|refine wL fun _=>?_|refine wD fun _=>?_|refine wE ?_|refine wZ ?_)|simp [go_sem, GH]))
   refine ACallP.pureF [9] hT ?_ (by simp [go_sem]) ?_
   ·refine .cons (.refl _) (.cons (leV_frz rfl (by simp [hDk, encD]) (by simp [frzO, frz1, upd, noH]) ?_) (.cons (.refl _) .nil))
    rw [hDs, encD_append]
    simp only [List.drop_zero]
    exact List.take_of_length_le (by simp [hDk, encD])
   ·(repeat (first|with_reducible (first|refine wL fun _=>?_|refine wD fun _=>?_|refine wE ?_|refine wZ ?_)|simp [go_sem, GH]))
  ·have hnin : goal ∉ now := fun h => by have := hFm.2 h; omega
   cases full
   ·(repeat (first|with_reducible (first|refine wL fun _=>?_|refine wD fun _=>?_|refine wE ?_|refine wZ ?_)|simp [go_sem, GH]))
    refine Fgt.to (hrec (k + 1) ⟨hrs.symm, by omega, fun j hj => ?_⟩) ?_ (by simp)
    ·rcases Nat.lt_or_ge j k with h | h
     ·exact i3 j h
     ·obtain rfl : j = k := by omega
      rw [hnx]
      exact ⟨hnin, rfl⟩
    ·simp [go_sem, Wk_eq, GH, hDs, encD]
   ·have hkl := hlst k (by rw [hnx]) hk
    have hff : fullP L = true := by rw [hfull, show L.length - 1 = k by omega, hnx]
    have hgm := hN (fun j hj => by
     rcases Nat.lt_or_ge j k with h | h
     ·exact (i3 j h).1
     ·obtain rfl : j = k := by omega
      rw [hnx]; exact hnin)
    rw [hff] at hgm
    subst hgm
    (repeat (first|with_reducible (first|refine wL fun _=>?_|refine wD fun _=>?_|refine wE ?_|refine wZ ?_)|simp [go_sem, GH]))
 ·exact ⟨rfl, Nat.zero_le _, fun j hj => by omega⟩
 ·simp [go_sem, Wk_eq, hD0, encD]
 ·simp
end Go.Av
end
