/- Texts of ours, part 13: contracts and facts for this claim. -/
import Derived.Test.YtedhfmmlhfmomaaGreatDoorB13
import Derived.Test.YtedhfmmlhfmomaaGreatDoorSHx12
set_option linter.unusedSimpArgs false
set_option linter.unusedVariables false
set_option maxRecDepth 100000
set_option maxHeartbeats 40000000
section
open Go Go.Proofs Go.Av
namespace Go.Av
open Go.Proofs.YtedhfmmlhfmomaaGreatDoor
theorem zru : Opn Tryz.prog 1048576 UpB 80 (fun y : Int × Int × Int => [AV.v (.int .u8 y.1), AV.v (.int .u8 y.2.1), AV.v (.int .u8 y.2.2)]) (fun y => U8 y.1 ∧ U8 y.2.1 ∧ U8 y.2.2) := by
 have hA : Opn Tryz.prog 1048576 UpB 80 (fun l : List Int => (l.map fun n => [AV.v (.int .u8 n)]).flatten) (fun l => l.length = 3 ∧ ∀ x ∈ l, U8W x) :=
  Opn.array (sz := 1) (n := 3) zlZ.upto Tryz.underlying80 (by kernel_rfl) (by kernel_rfl) zfw
 intro H enc w fuel cs d ps k1 k2
 obtain ⟨x, r1, r2, r3, h1, h2⟩ := hA enc w fuel cs d ps k1 k2
 match x, h1 with
 | [a, b, c], _ => exact ⟨(a, b, c), r1, r2, r3, bounds_u8 (h2 a (by simp)), bounds_u8 (h2 b (by simp)), bounds_u8 (h2 c (by simp))⟩
end Go.Av
end
section
open Go Go.Proofs
namespace Go.Av
theorem zf5 (x : zqW) (hx : zf8 x) (w0 w1 w2 : Int) (hw0 : U8 w0) (hw1 : U8 w1) (hw2 : U8 w2) :
  zaL Tryz.prog 9 [.agg (zcI x), .agg [.v (.int .u8 w0), .v (.int .u8 w1), .v (.int .u8 w2)]] (.v (.bool true)) := by
 refine pF Tryz.func9 ?_
 have hM := zeD x hx
 have hg := zeM hx
 have hp := zmU hx
 have hos : zbm (zc9 x) := zeQ x.g
 obtain ⟨er, her⟩ : ∃ er, er = zcI x := ⟨_, rfl⟩
 have herl : er.length = 31 := by rw [her]; exact ziV hx
 have herb : ∀ n, (∀ c ∈ er, Bel n c) = True := fun n => by rw [her]; exact ziU hx n
 rw [← her] at hM ⊢
 generalize zc9 x = g at *
 generalize zyO x = p at *
 have hS := zd1
 have hLi := zeO g hg hos
 generalize decide (zek (zbE g) ≤ 300) = li at *
 have hMv := zhm g hg p hp
 have hml := zqn hg hp
 have hmk := fun q hq => (zdn hg hp q hq).1
 have hV : ∀ q, POk g q → zaL Tryz.prog 35 [.agg (zac g), .agg (zad q)] (.v (.bool true)) := fun q hq => by
  have := zeE g (by have := hg.k6; unfold zfY; omega) ⟨hg.r0, by have := hg.r4; omega⟩ q (hq.fits hg)
  rwa [zfy.2 hq] at this
 have hB := fun q hq => zcK g hg hos q hq
 have hF : ∀ q, q ∈ zaK g p → (zbQ g q).2 = 2 ∨ (zbQ g q).2 = 0 ∧ ∃ k : Int, 0 ≤ k ∧ zaL Tryz.prog 38 [zaN (zbQ g q).1, .agg (zad p)] (.v (.int .i64 k)) := fun q hq => by
  unfold zbQ
  split
  ·exact .inl rfl
  ·refine .inr ⟨rfl, zyJ (zaM g q) p, (zxJ (zc6 g q)).2 ((zdb hg).2 ⟨hp, hq⟩), ?_⟩
   exact ztt _ (zc6 g q) (by omega) (fun r hr => (zei hg hr).fits hg) p (hp.fits hg)
 have hW : ∀ w : Int, U8 w → zaK g p ≠ [] → 0 ≤ w.tmod (zaK g p).length ∧ (w.tmod (zaK g p).length).toNat < (zaK g p).length := fun w hw hn => by
  have h1 : 0 < (zaK g p).length := List.length_pos_iff.2 hn
  have h2 := Int.tmod_nonneg ((zaK g p).length : Int) hw.1
  have h3 := Int.tmod_lt_of_pos w (show (0 : Int) < ((zaK g p).length : Int) by omega)
  omega
 generalize zaK g p = L at *
 have hegl : (zac g).length = 9 := rfl
 have hegb : ∀ n, (∀ c ∈ zac g, Bel n c) = True := fun n => by simp [go_sem]
 generalize zac g = eg at *
 unfold zb7 at hB
 repeat first|refine wV fun _=>?_|simp [go_sem, herl]
 refine zAs hS (by simp [go_sem]) ?_
 repeat first|refine wV fun _=>?_|simp [go_sem, herl]
 refine zAs hM (by simp [go_sem, herb]) ?_
 repeat first|refine wV fun _=>?_|simp [go_sem, herl, hegl]
 refine zAs hMv (by simp [go_sem, hegb]) ?_
 repeat first|refine wV fun _=>?_|simp [go_sem, herl, hegl]
 refine zAs hLi (by simp [go_sem, hegb]) ?_
 repeat first|refine wV fun _=>?_|simp [go_sem, hegl]
 cases li
 ·repeat first|refine wV fun _=>?_|simp [go_sem, hegl]
 ·by_cases hn : L = []
  ·repeat first|refine wV fun _=>?_|simp [go_sem, hegl, hn]
  ·have hW0 := hW w0 hw0 hn
   have hW1 := hW w1 hw1 hn
   have hW2 := hW w2 hw2 hn
   have hln : 0 < L.length := List.length_pos_iff.2 hn
   repeat first|refine wV fun _=>?_|simp [go_sem, hegl, hn]
   refine zAr (zAv (α := Nat) (fun i => ⟨[(3, .ref 1 0 3 0 0), (5, .v (.bool true)), (6, .ref 2 0 9 0 0), (7, .ref 3 0 5 0 0), (8, zaN L), (9, .v (.int .i64 i))], [(1, .rows true 0 3 [[.v (.int .u8 w0), .v (.int .u8 w1), .v (.int .u8 w2)]]), (2, .rows true 0 9 [eg]), (3, .rows true 0 5 [zad p])], 4⟩)
    (fun d i => i + d = 3) ?_ 3 0 ?_) ?_ ?_
   ·rintro d i i1 hrec
    repeat first|refine wV fun _=>?_|simp [go_sem, hegl]
    by_cases hi : (i : Int) < 3
    ·have hi3 : i < 3 := by omega
     obtain ⟨w, hwc, hw⟩ : ∃ w, cel [AV.v (.int .u8 w0), .v (.int .u8 w1), .v (.int .u8 w2)] i = .v (.int .u8 w) ∧ (0 ≤ w ∧ w ≤ 255) ∧ 0 ≤ w.tmod L.length ∧ (w.tmod L.length).toNat < L.length := by
      obtain rfl | rfl | rfl : i = 0 ∨ i = 1 ∨ i = 2 := by omega
      ·exact ⟨w0, rfl, hw0, hW0⟩
      ·exact ⟨w1, rfl, hw1, hW1⟩
      ·exact ⟨w2, rfl, hw2, hW2⟩
     obtain ⟨⟨hwa, hwb⟩, hj0, hj⟩ := hw
     have hw64 : -9223372036854775808 ≤ w ∧ w ≤ 9223372036854775807 := by omega
     have hgj := zbl zad L _ hj
     have hm := zaj hj
     have hVq := hV _ (hmk _ hm)
     have hBq := hB _ (hmk _ hm)
     have hFq := hF _ hm
     generalize nth L (w.tmod L.length).toNat = q at *
     repeat first|refine wV fun _=>?_|simp [go_sem, hegl, hi, hi3, hwc, hj0, hj, hgj]
     refine zAs hVq (by simp [go_sem, hegb]) ?_
     repeat first|refine wV fun _=>?_|simp [go_sem, hegl]
     refine zAs hBq (by simp [go_sem, hegb]) ?_
     generalize zbQ g q = v at *
     obtain ⟨M, e⟩ := v
     simp only at hFq
     rcases hFq with rfl | ⟨rfl, k, hk0, hFq⟩
     ·repeat first|refine wV fun _=>?_|simp [go_sem, hegl]
      refine aGC.skip (.v (.int .i64 0)) ?_
      repeat first|refine wV fun _=>?_|simp [go_sem, hegl]
      refine zAr (hrec (d - 1) (by omega) (i + 1) (by omega)) ?_ (by simp)
      simp [go_sem, zaf, hegb]
     ·have hk1 : ¬ k < 0 := by omega
      repeat first|refine wV fun _=>?_|simp [go_sem, hegl]
      refine zAO ?_
      refine zAs hFq (by simp [go_sem]) ?_
      repeat first|refine wV fun _=>?_|simp [go_sem, hegl, hk1]
      refine zAr (hrec (d - 1) (by omega) (i + 1) (by omega)) ?_ (by simp)
      simp [go_sem, zaf, hegb]
    ·repeat first|refine wV fun _=>?_|simp [go_sem, hegl, hi]
   ·omega
   ·simp [go_sem, zaf, hegb]
   ·simp
end Go.Av
end
