/- Texts of ours, part 12: contracts and facts for this claim. -/
import Derived.Test.YtkahkcakggflaaaGreatDoorB12
import Derived.Test.YtkahkcakggflaaaGreatDoorSIx11
set_option linter.unusedSimpArgs false
set_option linter.unusedVariables false
set_option maxRecDepth 100000
set_option maxHeartbeats 40000000
section
open Go Go.Proofs
namespace Go.Av
theorem ztE (g : zaf) : 0 < (zb4 g).length := by
 have h1 : 0 < (zaT g.cells.toNat).length := by rw [zeW]; exact Nat.pow_pos (by decide)
 obtain ⟨l, hl⟩ := List.exists_mem_of_length_pos h1
 have h2 : (⟨l, [0], [0], 0, 0⟩ : zaj) ∈ zb4 g := by
  unfold zb4 zei
  refine List.mem_flatMap.2 ⟨l, hl, List.mem_flatMap.2 ⟨0, List.mem_range.2 (Nat.pow_pos (by decide)), by simp⟩⟩
 exact List.length_pos_of_mem h2
theorem zxc {g : zaf} (h : znU g) (p : zaj) : zbG g p = (zaG g p, 0) := by
 unfold zbG
 rw [if_neg (by have := zkP h p; omega)]
theorem zxn {α : Type} [Inhabited α] {l : List α} (h : 0 < l.length) {w : Int} (hw : 0 ≤ w) : 0 ≤ w.tmod l.length ∧ (w.tmod l.length).toNat < l.length := by
 have h2 := Int.tmod_nonneg (l.length : Int) hw
 have h3 := Int.tmod_lt_of_pos w (show (0 : Int) < (l.length : Int) by omega)
 omega
theorem zil (x : zgA) (hx : zjs x) (hl : x.c.length ≤ 1099511627776) (hl0 : x.k0.length ≤ 1099511627776) (hl1 : x.k1.length ≤ 1099511627776) (w : Int) (hw : 0 ≤ w ∧ w ≤ 65535) :
  zaC Tryz.prog 10 [.agg (zcE x), .v (.int .u16 w)] (.v (.bool true)) := by
 refine pF Tryz.func10 ?_
 have hT := zuQ x hx hl hl0 hl1
 have ht := zxd hx
 have hos : zbm (zfm (zhF x)) := zdr (zhF x)
 obtain ⟨er, her⟩ : ∃ er, er = zcE x := ⟨_, rfl⟩
 have herl : er.length = 12 := by rw [her]; rfl
 have herb : ∀ n, (∀ c ∈ er, Bel n c) = True := fun n => by rw [her]; simp [go_sem]
 rw [← her] at hT ⊢
 generalize zfm (zhF x) = g at *
 have hg := ht.ok
 have hS := zc0
 have hE := zsy g ht
 have hln := ztE g
 have hl3 := zlO ht
 have hmk := fun q (hq : q ∈ zb4 g) => (zf8 ht).1 hq
 obtain ⟨hj0, hj⟩ := zxn hln hw.1
 obtain ⟨hw0, hw1⟩ := hw
 have hw64 : -9223372036854775808 ≤ w ∧ w ≤ 9223372036854775807 := by omega
 have hgj := zbg zad (zb4 g) _ hj
 have hp := hmk _ (zan hj)
 generalize nth (zb4 g) (w.tmod (zb4 g).length).toNat = p at *
 have hB := zb3 g hg hos p hp
 rw [zxc ht] at hB
 unfold zb1 at hB
 have hLg := fun q hq => zhK g hg q hq p (hp.fits hg)
 have hF : ∀ q, POk g q → p ∈ zaH g q → ∃ k : Int, 0 ≤ k ∧ zaC Tryz.prog 45 [zaz (zaG g p), .agg (zad q)] (.v (.int .i64 k)) := fun q hq hm =>
  ⟨zyB (zaG g p) q, (zrW (zbN g p)).2 ((zb9 hg).2 ⟨hq, hm⟩), zmi _ (zbN g p) (by have := zkP ht p; omega) (fun r hr => (zdn hg hr).fits hg) q (hq.fits hg)⟩
 obtain ⟨N, hN⟩ : ∃ N : Nat → Nat, ∀ i, N i = (((zb4 g).take i).filter fun q => !decide (q.side = p.side) && decide (p ∈ zaH g q)).length := ⟨_, fun _ => rfl⟩
 have hN0 : N 0 = 0 := by rw [hN]; rfl
 have hNs : ∀ i, i < (zb4 g).length → N (i + 1) = N i + if (!decide ((nth (zb4 g) i).side = p.side) && decide (p ∈ zaH g (nth (zb4 g) i))) = true then 1 else 0 := fun i hi => by
  rw [hN, hN, zdu hi, List.filter_append, List.length_append, List.filter_cons, List.filter_nil]
  split <;> rfl
 have hNa : N (zb4 g).length = (zaG g p).length := by rw [hN, List.take_length, zuy ht hp]
 have hNb : ∀ i, N i ≤ 324 := fun i => by
  rw [hN]
  refine Nat.le_trans (List.length_filter_le _ _) ?_
  rw [List.length_take]; omega
 clear hN
 generalize zaG g p = M at *
 generalize zb4 g = L at *
 have hegl : (zab g).length = 9 := rfl
 have hegb : ∀ n, (∀ c ∈ zab g, Bel n c) = True := fun n => by simp [go_sem]
 generalize zab g = eg at *
 repeat first|with_reducible refine wV fun _=>?_|simp [go_sem, herl]
 refine zBn hS (by simp [go_sem]) ?_
 repeat first|with_reducible refine wV fun _=>?_|simp [go_sem, herl]
 refine zBn hT (by simp [go_sem, herb]) ?_
 repeat first|with_reducible refine wV fun _=>?_|simp [go_sem, herl, hegl]
 refine zBn hE (by simp [go_sem, hegb]) ?_
 have hln2 : ¬ L = [] := fun h => by rw [h] at hln; exact absurd hln (by simp)
 repeat first|with_reducible refine wV fun _=>?_|simp [go_sem, hegl, hj0, hj, hgj, hln2]
 refine zBn hB (by simp [go_sem, hegb]) ?_
 repeat first|with_reducible refine wV fun _=>?_|simp [go_sem, hegl]
 refine zBm (zBr (α := Nat) (fun i => ⟨[(5, .v (.bool true)), (6, .ref 1 0 9 0 0), (7, zaz L), (8, .ref 2 0 5 0 0), (9, .ref 3 0 2 0 0), (10, .v (.int .i64 (N i))), (11, .v (.int .i64 i))], [(1, .rows true 0 9 [eg]), (2, .rows true 0 5 [zad p]), (3, .rows true 0 2 [[zaz M, .v (.int .i64 0)]])], 4⟩)
  (fun d i => i + d = L.length) ?_ L.length 0 ?_) ?_ ?_
 ·rintro d i i1 hrec
  repeat first|with_reducible refine wV fun _=>?_|simp [go_sem, hegl]
  refine zBo (fun hi => ?_) (fun hi => ?_) <;> simp at hi
  ·have hq := hmk _ (zan hi)
   have hgi := zbg zad L i hi
   have hLq := hLg _ hq
   have hFq := hF _ hq
   have hNs := hNs i hi
   have hNb := hNb i
   generalize nth L i = q at *
   by_cases hs : q.side = p.side
   ·rw [decide_eq_true hs] at hNs
    have hNs : N (i + 1) = N i := by simpa using hNs
    repeat first|with_reducible refine wV fun _=>?_|simp [go_sem, hegl, hi, hgi, hs]
    refine dGC.skip (.v (.bool true)) ?_
    repeat first|with_reducible refine wV fun _=>?_|simp [go_sem, hegl, hi, hgi, hs]
    refine zBm (hrec (d - 1) (by omega) (i + 1) (by omega)) ?_ (by simp)
    simp [go_sem, zah, hegb, hNs]
   ·rw [decide_eq_false hs] at hNs
    by_cases hm : p ∈ zaH g q
    ·rw [decide_eq_true hm] at hNs hLq
     obtain ⟨k, hk0, hFq⟩ := hFq hm
     have hk1 : ¬ k < 0 := by omega
     have hNs : N (i + 1) = N i + 1 := by simpa using hNs
     repeat first|with_reducible refine wV fun _=>?_|simp [go_sem, hegl, hi, hgi, hs]
     refine zBz _ (fun _ => hLq) (by simp [go_sem, hegb]) ?_
     repeat first|with_reducible refine wV fun _=>?_|simp [go_sem, hegl, hi, hgi, hs]
     refine zBq hFq (by simp [go_sem]) ?_
     repeat first|with_reducible refine wV fun _=>?_|simp [go_sem, hegl, hi, hgi, hs, hk1]
     refine zBm (hrec (d - 1) (by omega) (i + 1) (by omega)) ?_ (by simp)
     simp [go_sem, zah, hegb, hNs]
    ·rw [decide_eq_false hm] at hNs hLq
     have hNs : N (i + 1) = N i := by simpa using hNs
     repeat first|with_reducible refine wV fun _=>?_|simp [go_sem, hegl, hi, hgi, hs]
     refine zBz _ (fun _ => hLq) (by simp [go_sem, hegb]) ?_
     repeat first|with_reducible refine wV fun _=>?_|simp [go_sem, hegl, hi, hgi, hs]
     refine zBm (hrec (d - 1) (by omega) (i + 1) (by omega)) ?_ (by simp)
     simp [go_sem, zah, hegb, hNs]
  ·obtain rfl : i = L.length := by omega
   repeat first|with_reducible refine wV fun _=>?_|simp [go_sem, hegl, hNa]
 ·omega
 ·simp [go_sem, zah, hegb, hN0]
 ·simp
end Go.Av
end
