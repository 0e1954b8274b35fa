/- Texts of ours, part 13: contracts and facts for this claim. -/
import Derived.Test.YtedhfmmlhfmomaaGreatDoorB13
import Derived.Test.YtedhfmmlhfmomaaGreatDoorSGx12
set_option linter.unusedSimpArgs false
set_option linter.unusedVariables false
set_option maxRecDepth 100000
set_option maxHeartbeats 40000000
section
open Go Go.Proofs
namespace Go.Av
theorem zwl {g : zae} {q p : zah} (h : p ∈ zaK g q) : zkg g q = (0, false) := by
 have h1 : ¬ 0 ≤ zch g q := fun h2 => by rw [zgw h2] at h; cases h
 have h3 : ¬ zaK g q = [] := fun h2 => by rw [h2] at h; cases h
 unfold zkg
 rw [if_neg h1, if_neg h3]
theorem zf6 (x : zqW) (hx : zf8 x) : zaL Tryz.prog 8 [.agg (zcI x)] (.v (.bool true)) := by
 refine pF Tryz.func8 ?_
 have hM := zeD x hx
 have hg := zeM hx
 have hp := zmU hx
 have hos : zbm (zc9 x) := zeQ x.g
 obtain ⟨er, her⟩ : ∃ er, er = zcI x := ⟨_, rfl⟩
 have herl : er.length = 31 := by rw [her]; exact ziV hx
 have herb : ∀ n, (∀ c ∈ er, Bel n c) = True := fun n => by rw [her]; exact ziU hx n
 rw [← her] at hM ⊢
 generalize zc9 x = g at *
 generalize zyO x = p at *
 have hS := zd1
 have hLi := zeO g hg hos
 generalize decide (zek (zbE g) ≤ 300) = li at *
 have b1 := zcK g hg hos p hp
 have hmem : ∀ q ∈ (zbQ g p).1, POk g q ∧ p ∈ zaK g q := fun q hq => (zdb hg).1 (znH hq)
 have hinc : Inc (zbQ g p).1 := by
  unfold zbQ
  split
  ·exact List.Pairwise.nil
  ·exact zc6 g p
 have he : (zbQ g p).2 = 0 ∨ zbQ g p = ([], 2) := by
  unfold zbQ
  split
  ·exact .inr rfl
  ·exact .inl rfl
 have hV : ∀ q, POk g q → zaL Tryz.prog 35 [.agg (zac g), .agg (zad q)] (.v (.bool true)) := fun q hq => by
  have := zeE g (by have := hg.k6; unfold zfY; omega) ⟨hg.r0, by have := hg.r4; omega⟩ q (hq.fits hg)
  rwa [zfy.2 hq] at this
 have hLg := fun q hq => zkZ g hg q hq p (hp.fits hg)
 have hSt := fun q hq => zpt g hg q hq
 have hCm := fun a b ha hb => zbG a b ((hmem a ha).1.fits hg) ((hmem b hb).1.fits hg)
 have hsd : ∀ q, POk g q → p ∈ zaK g q → p.side = 1 - q.side := fun q h1 h2 => ((zdn hg h1) p h2).2
 have hbl := znG g p
 have hps := hp.s
 generalize zbQ g p = v at *
 obtain ⟨L, e⟩ := v
 simp only at hmem hbl hinc he hCm
 have hegl : (zac g).length = 9 := rfl
 have hegb : ∀ n, (∀ c ∈ zac g, Bel n c) = True := fun n => by simp [go_sem]
 generalize zac g = eg at *
 unfold zb7 at b1
 repeat first|refine wV fun _=>?_|simp [go_sem, herl]
 refine zAs hS (by simp [go_sem]) ?_
 repeat first|refine wV fun _=>?_|simp [go_sem, herl]
 refine zAs hM (by simp [go_sem, herb]) ?_
 repeat first|refine wV fun _=>?_|simp [go_sem, herl, hegl]
 refine zAs hLi (by simp [go_sem, hegb]) ?_
 cases li
 ·repeat first|refine wV fun _=>?_|simp [go_sem, hegl]
 ·repeat first|refine wV fun _=>?_|simp [go_sem, hegl]
  refine zAs b1 (by simp [go_sem, hegb]) ?_
  rcases he with rfl | he
  ·repeat first|refine wV fun _=>?_|simp [go_sem, hegl]
   refine zAr (zAv (α := Nat) (fun i => ⟨[(3, .v (.bool true)), (4, .ref 1 0 9 0 0), (5, .ref 2 0 5 0 0), (6, .ref 3 0 2 0 0), (7, .v (.int .i64 i))], [(1, .rows true 0 9 [eg]), (2, .rows true 0 5 [zad p]), (3, .rows true 0 2 [[zaN L, .v (.int .i64 0)]])], 4⟩)
    (fun d i => i + d = L.length) ?_ L.length 0 ?_) ?_ ?_
   ·rintro d i i1 hrec
    repeat first|refine wV fun _=>?_|simp [go_sem, hegl]
    refine zAt (fun hi => ?_) (fun hi => ?_) <;> simp at hi
    ·have hmi := zaj hi
     obtain ⟨hq, hm⟩ := hmem _ hmi
     have hVq := hV _ hq
     have hLq := hLg _ hq
     rw [decide_eq_true hm] at hLq
     have hSq := hSt _ hq
     rw [zwl hm] at hSq
     have hs1 := hsd _ hq hm
     have hgi := zbl zad L i hi
     have e4 : ((i : Int) - 1).toNat = i - 1 := by omega
     have he2 : i - 1 < L.length := by omega
     have hgj := zbl zad L (i - 1) he2
     have hCi := hCm (nth L (i - 1)) (nth L i) (zaj he2) hmi
     have hcmp := fun h : 0 < i => hinc.lt (show i - 1 < i by omega) hi
     generalize zbx (nth L (i - 1)) (nth L i) = cc at *
     generalize nth L (i - 1) = q0 at *
     generalize nth L i = q at *
     have hss : ¬ q.side = p.side := by omega
     repeat first|refine wV fun _=>?_|simp [go_sem, hegl, hi, hgi]
     refine zAu hVq (by simp [go_sem, hegb]) ?_
     repeat first|refine wV fun _=>?_|simp [go_sem, hegl, hi, hgi, hss]
     refine zAD _ (fun _ => hLq) (by simp [go_sem, hegb]) ?_
     repeat first|refine wV fun _=>?_|simp [go_sem, hegl, hi, hgi, hss, e4, he2, hgj]
     refine zAD _ (fun _ => hCi) (by simp [go_sem]) ?_
     repeat first|refine wV fun _=>?_|simp [go_sem, hegl, hi, hgi, hss]
     refine zAt (fun hF => ?_) (fun _ => ?_)
     ·exfalso
      simp at hF
      have := hcmp hF.1
      omega
     ·repeat first|refine wV fun _=>?_|simp [go_sem, hegl, hi, hgi]
      refine zAs hSq (by simp [go_sem, hegb]) ?_
      repeat first|refine wV fun _=>?_|simp [go_sem, hegl]
      refine zAr (hrec (d - 1) (by omega) (i + 1) (by omega)) ?_ (by simp)
      simp [go_sem, zaf, hegb]
    ·repeat first|refine wV fun _=>?_|simp [go_sem, hegl]
   ·omega
   ·simp [go_sem, zaf, hegb]
   ·simp
  ·obtain ⟨rfl, rfl⟩ := Prod.mk.inj he
   repeat first|refine wV fun _=>?_|simp [go_sem, hegl]
end Go.Av
end
