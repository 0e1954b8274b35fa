/- Texts of ours, part 8: contracts and facts for this claim. -/
import Derived.Test.YtedhfmmlhfmomaaGreatDoorB08
set_option linter.unusedSimpArgs false
set_option linter.unusedVariables false
set_option maxRecDepth 100000
set_option maxHeartbeats 40000000
section
open Go Go.Proofs
namespace Go.Av
theorem zv8 : ∀ (f : Nat) (l : List zal), l.length ≤ f + 1 → l.length ≤ 68719476736 → (∀ p ∈ l, zbw p) → zaJ Tryz.prog 75 [zaV l] (zaV (zcs zcK l)) := by
 intro f
 induction f with
 | zero =>
  intro l h1 h2 h3
  rw [zkJ (by omega)]
  refine pF Tryz.func75 ?_
  repeat first|refine wV fun _=>?_|simp [go_sem]
  (refine zBj (fun hT => ?_) (fun hT => by first | omega | (simp at hT; omega)); clear hT)
  repeat first|refine wV fun _=>?_|simp [go_sem]
 | succ f ih =>
  intro l h1 h2 h3
  by_cases hs : l.length < 2
  ·rw [zkJ hs]
   refine pF Tryz.func75 ?_
   repeat first|refine wV fun _=>?_|simp [go_sem]
   (refine zBj (fun hT => ?_) (fun hT => by first | omega | (simp at hT; omega)); clear hT)
   repeat first|refine wV fun _=>?_|simp [go_sem]
  ·have hm := zrr zbo (l.take (l.length / 2)) (l.drop (l.length / 2))
   rw [List.take_append_drop] at hm
   have hA := ih (l.take (l.length / 2)) (by simp; omega) (by simp; omega) (fun p hp => h3 p (List.mem_of_mem_take hp))
   have hB := ih (l.drop (l.length / 2)) (by simp; omega) (by simp; omega) (fun p hp => h3 p (List.mem_of_mem_drop hp))
   have fA : ∀ p ∈ zcs zcK (l.take (l.length / 2)), zbw p := fun p hp => h3 p (List.mem_of_mem_take (zey.1 hp))
   have fB : ∀ p ∈ zcs zcK (l.drop (l.length / 2)), zbw p := fun p hp => h3 p (List.mem_of_mem_drop (zey.1 hp))
   have lA : (zcs zcK (l.take (l.length / 2))).length = l.length / 2 := by rw [zex]; simp; omega
   have lB : (zcs zcK (l.drop (l.length / 2))).length = l.length - l.length / 2 := by rw [zex]; simp
   rw [← hm]
   generalize zcs zcK (l.take (l.length / 2)) = xs at *
   generalize zcs zcK (l.drop (l.length / 2)) = ys at *
   have hq : ((l.length : Int) / 2).toNat = l.length / 2 := by omega
   have eA : AV.lst 5 (List.take (l.length / 2) (l.map zag)) = zaV (l.take (l.length / 2)) := by simp [zaV, List.map_take]
   have eB : AV.lst 5 (List.take (l.length - l.length / 2) (List.drop (l.length / 2) (l.map zag))) = zaV (l.drop (l.length / 2)) := by rw [List.take_of_length_le (by simp)]; simp [zaV, List.map_drop]
   generalize hR : List.merge xs ys (leC zcK) = R
   refine pF Tryz.func75 ?_
   repeat first|refine wV fun _=>?_|simp [go_sem]
   (refine zBj (fun hF => by first | omega | (simp at hF; omega)) (fun hF => ?_); clear hF)
   repeat first|refine wV fun _=>?_|simp [go_sem, hq]
   rw [eA]
   refine zBi hA (zAb (zdA _)) ?_
   repeat first|refine wV fun _=>?_|simp [go_sem, hq]
   rw [eB]
   refine zBi hB (zAb (zdA _)) ?_
   repeat first|refine wV fun _=>?_|simp [go_sem, hq]
   refine zBh (zBk (α := Nat × Nat × List zal) (fun a => ⟨[(3, zaV xs), (4, zaV ys), (5, .sl 0 a.2.2.length 5 0 a.2.2.length), (6, .v (.int .i64 a.1)), (7, .v (.int .i64 a.2.1))], [(0, .rows true a.2.2.length 5 (a.2.2.map zag))], 1⟩)
    (fun d a => a.1 + a.2.1 + d = xs.length + ys.length ∧ a.1 ≤ xs.length ∧ a.2.1 ≤ ys.length ∧ a.2.2.length = a.1 + a.2.1 ∧ R = a.2.2 ++ List.merge (xs.drop a.1) (ys.drop a.2.1) (leC zcK)) ?_ (xs.length + ys.length) (0, 0, []) ?_) ?_ ?_
   ·rintro d ⟨i, k, out⟩ ⟨i1, i2, i3, i4, i5⟩ hrec
    simp only at i1 i2 i3 i4 i5
    repeat first|refine wV fun _=>?_|simp [go_sem]
    refine zBj (fun hj => ?_) (fun hj => ?_) <;> simp at hj
    ·by_cases hk : k < ys.length
     ·by_cases hi : i < xs.length
      ·have fa := fA _ (zah hi)
       have fb := fB _ (zah hk)
       rw [zaG hi, zaG hk, List.cons_merge_cons, ← zaG hi, ← zaG hk] at i5
       have hk' := Nat.not_le.2 hk
       repeat first|refine wV fun _=>?_|simp [go_sem, hk, hk', hi]
       refine zBt _ (fun _ => ziq _ _ fa fb) (by simp [go_sem]) ?_
       repeat first|refine wV fun _=>?_|simp [go_sem, hk, hk', hi]
       refine zBj (fun hc => ?_) (fun hc => ?_) <;> simp at hc
       ·rw [if_pos (by simpa [leC] using hc)] at i5
        repeat first|refine wV fun _=>?_|simp [go_sem, hk, hi]
        refine zBh (hrec (d - 1) (by omega) (i + 1, k, out ++ [nth xs i]) ⟨by simp only; omega, by simp only; omega, i3, by simp; omega, by simpa using i5⟩) ?_ (by simp)
        simp [go_sem, zaf]
       ·rw [if_neg (by simpa [leC] using hc)] at i5
        repeat first|refine wV fun _=>?_|simp [go_sem, hk, hi]
        refine zBh (hrec (d - 1) (by omega) (i, k + 1, out ++ [nth ys k]) ⟨by simp only; omega, i2, by simp only; omega, by simp; omega, by simpa using i5⟩) ?_ (by simp)
        simp [go_sem, zaf]
      ·rw [List.drop_eq_nil_of_le (show xs.length ≤ i by omega), List.nil_merge, zaG hk] at i5
       have hk' := Nat.not_le.2 hk
       repeat first|refine wV fun _=>?_|simp [go_sem, hk, hk', hi]
       refine dGC.skip (.v (.int .i64 0)) ?_
       repeat first|refine wV fun _=>?_|simp [go_sem, hk, hk', hi]
       refine zBh (hrec (d - 1) (by omega) (i, k + 1, out ++ [nth ys k]) ⟨by simp only; omega, i2, by simp only; omega, by simp; omega, by simp [List.drop_eq_nil_of_le (show xs.length ≤ i by omega), i5]⟩) ?_ (by simp)
       simp [go_sem, zaf]
     ·have hi : i < xs.length := by omega
      rw [List.drop_eq_nil_of_le (show ys.length ≤ k by omega), List.merge_right, zaG hi] at i5
      have hk' := Nat.not_lt.1 hk
      repeat first|refine wV fun _=>?_|simp [go_sem, hk, hk', hi]
      refine dGC.skip (.v (.int .i64 0)) ?_
      repeat first|refine wV fun _=>?_|simp [go_sem, hk, hk', hi]
      refine zBh (hrec (d - 1) (by omega) (i + 1, k, out ++ [nth xs i]) ⟨by simp only; omega, by simp only; omega, i3, by simp; omega, by simp [List.drop_eq_nil_of_le (show ys.length ≤ k by omega), i5]⟩) ?_ (by simp)
      simp [go_sem, zaf]
    ·rw [List.drop_eq_nil_of_le (show xs.length ≤ i by omega), List.drop_eq_nil_of_le (show ys.length ≤ k by omega)] at i5
     repeat first|refine wV fun _=>?_|simp [go_sem]
     rw [i5]
     exact frX
   ·simp [hR]
   ·simp [go_sem, zaf]
   ·simp
def zxy (all : List zal) (i : Nat) : List zal := if i = 0 then zbj all else za6 (nth all (i - 1)) (all.drop i)
theorem zvJ (all : List zal) : zxy all 0 = zbj all := rfl
theorem zyk {all : List zal} {i : Nat} (h : all.length ≤ i) : zxy all i = [] := by
 unfold zxy
 split
 ·cases all with
  | nil => rfl
  | cons a l => simp at h; omega
 ·rw [List.drop_eq_nil_of_le h]; rfl
theorem zop {all : List zal} {i : Nat} (h : i < all.length) (hk : i = 0 ∨ nth all i ≠ nth all (i - 1)) : zxy all i = nth all i :: zxy all (i + 1) := by
 unfold zxy
 rw [if_neg (show ¬ i + 1 = 0 by omega), Nat.add_sub_cancel]
 split
 ·rename_i h0
  subst h0
  cases all with
  | nil => simp at h
  | cons a l => rfl
 ·rw [zaG h, za6, if_neg (by rcases hk with h | h; omega; exact h)]
theorem zvI {all : List zal} {i : Nat} (h : i < all.length) (hi : i ≠ 0) (hk : nth all i = nth all (i - 1)) : zxy all i = zxy all (i + 1) := by
 unfold zxy
 rw [if_neg (show ¬ i + 1 = 0 by omega), Nat.add_sub_cancel, if_neg hi, zaG h, za6, if_pos hk, hk]
theorem zgA (l : List zal) (hl : l.length ≤ 68719476736) (hf : ∀ p ∈ l, zbw p) : zaJ Tryz.prog 23 [zaV l] (zaV (zcI zcK l)) := by
 have hH := zv8 l.length l (by omega) hl hf
 unfold zcI
 have fA : ∀ p ∈ zcs zcK l, zbw p := fun p hp => hf p (zey.1 hp)
 have lA : (zcs zcK l).length = l.length := zex l
 generalize zcs zcK l = all at *
 generalize hR : zbj all = R
 refine pF Tryz.func23 ?_
 repeat first|refine wV fun _=>?_|simp [go_sem]
 refine zBi hH (zAb (zdA _)) ?_
 repeat first|refine wV fun _=>?_|simp [go_sem]
 refine zBh (zBk (α := Nat × List zal) (fun a => ⟨[(3, zaV all), (4, .sl 0 a.2.length 5 0 a.2.length), (5, .v (.int .i64 a.1))], [(0, .rows true a.2.length 5 (a.2.map zag))], 1⟩)
  (fun d a => a.1 + d = all.length ∧ a.2.length ≤ a.1 ∧ R = a.2 ++ zxy all a.1) ?_ all.length (0, []) ?_) ?_ ?_
 ·rintro d ⟨i, out⟩ ⟨i1, i2, i3⟩ hrec
  simp only at i1 i2 i3
  repeat first|refine wV fun _=>?_|simp [go_sem]
  refine zBj (fun hi => ?_) (fun hi => ?_) <;> simp at hi
  ·by_cases h0 : i = 0
   ·rw [zop hi (.inl h0)] at i3
    subst h0
    repeat first|refine wV fun _=>?_|simp [go_sem, hi]
    refine dGC.skip (.v (.bool true)) ?_
    repeat first|refine wV fun _=>?_|simp [go_sem, hi]
    refine zBh (hrec (d - 1) (by omega) (0 + 1, out ++ [nth all 0]) ⟨by simp only; omega, by simp only [List.length_append, List.length_singleton]; omega, by simpa using i3⟩) ?_ (by simp)
    simp [go_sem, zaf]
   ·have fa := fA _ (zah hi)
    have hi' : i - 1 < all.length := by omega
    have e1 : ((i : Int) - 1).toNat = i - 1 := by omega
    have fb := fA _ (zah hi')
    repeat first|refine wV fun _=>?_|simp [go_sem, hi, h0, e1, hi']
    refine zBt _ (fun _ => zeG _ _ fa fb) (by simp [go_sem]) ?_
    repeat first|refine wV fun _=>?_|simp [go_sem, hi, h0]
    refine zBj (fun hc => ?_) (fun hc => ?_) <;> simp at hc
    ·rw [zhQ] at hc
     rw [zop hi (.inr hc)] at i3
     repeat first|refine wV fun _=>?_|simp [go_sem, hi]
     refine zBh (hrec (d - 1) (by omega) (i + 1, out ++ [nth all i]) ⟨by simp only; omega, by simp; omega, by simpa using i3⟩) ?_ (by simp)
     simp [go_sem, zaf]
    ·rw [zhQ] at hc
     rw [zvI hi h0 hc] at i3
     repeat first|refine wV fun _=>?_|simp [go_sem, hi]
     refine zBh (hrec (d - 1) (by omega) (i + 1, out) ⟨by simp only; omega, by simp only; omega, i3⟩) ?_ (by simp)
     simp [go_sem, zaf]
  ·rw [zyk hi] at i3
   repeat first|refine wV fun _=>?_|simp [go_sem]
   rw [i3]
   exact frX
 ·simp [hR, zvJ]
 ·simp [go_sem, zaf]
 ·simp
end Go.Av
end
