/- Ranks of positions: what the program computes, as plain numbers. -/
import Derived.Test.YtmmboiafelbgbaaC8
import Derived.Test.YtmmboiafelbgbaaIdxM
set_option linter.unusedSimpArgs false
set_option linter.unusedVariables false
open Go
namespace Go.Av
def toN (l : List Int) : List Nat := l.map Int.toNat
theorem map_toN {l : List Int} (h : ∀ x ∈ l, 0 ≤ x) : (toN l).map Int.ofNat = l := by
  unfold toN
  rw [List.map_map]
  conv => rhs; rw [← List.map_id l]
  refine List.map_congr_left fun x hx => ?_
  have := h x hx
  simp; omega
theorem toN_length (l : List Int) : (toN l).length = l.length := by simp [toN]
theorem toN_getD (l : List Int) (x : Nat) : (toN l).getD x 0 = (nth l x).toNat := by
  simp only [toN, nth, List.getD_eq_getElem?_getD, List.getElem?_map]
  cases l[x]? <;> rfl
theorem ways_toN {l : List Int} (h : ∀ x ∈ l, 0 ≤ x) (hs : (toN l).sum ≤ 1048576) : ways l = (capped (toN l) : Nat) := by
  have := ways_eq (toN l) hs
  rwa [map_toN h] at this
theorem waysR_toN {l : List Int} (h : ∀ x ∈ l, 0 ≤ x) : waysR l = (capped (toN l) : Nat) := by
  have := waysR_eq (toN l)
  rwa [map_toN h] at this
theorem toN_set (m : List Int) (x : Nat) : toN (m.set x (nth m x - 1)) = dec (toN m) x := by
  unfold dec
  rw [toN_getD]
  simp only [toN, List.map_set]
  congr 1
  omega
theorem set_nonneg {m : List Int} (h : ∀ x ∈ m, 0 ≤ x) {x : Nat} (hp : 1 ≤ nth m x) : ∀ y ∈ m.set x (nth m x - 1), 0 ≤ y := by
  intro y hy
  rcases List.mem_or_eq_of_mem_set hy with h1 | rfl
  · exact h y h1
  · omega
theorem arrAt_le {m : List Nat} {x : Nat} (hx : x < m.length) : arrAt 0 m x ≤ arr 0 m := by
  rcases Nat.eq_zero_or_pos (m.getD x 0) with h | h
  · simp only [arrAt]
    rw [if_pos h]; exact Nat.zero_le _
  · have hs : 0 < m.sum := by have := dec_sum m x h; omega
    rw [arr_sum m hs]
    have h1 : sumTo (arrAt 0 m) (x + 1) ≤ sumTo (arrAt 0 m) m.length := sumTo_mono hx
    rw [sumTo] at h1
    omega
theorem takeN_eq {m : List Int} (h : ∀ x ∈ m, 0 ≤ x) (hs : (toN m).sum ≤ 1048576) (hb : arr 0 (toN m) ≤ 1099511627776) {x : Nat} (hx : x < m.length) : takeN m x = (arrAt 0 (toN m) x : Nat) := by
  have hl := arrAt_le (m := toN m) (x := x) (by rw [toN_length]; exact hx)
  unfold takeN arrAt at *
  rw [toN_getD] at *
  have h0 := h _ (nth_mem hx)
  by_cases hz : nth m x - 1 < 0
  · rw [if_pos hz, if_pos (by omega)]; rfl
  · rw [if_neg hz, if_neg (by omega)]
    rw [if_neg (by omega)] at hl
    have hd := dec_sum (toN m) x (by rw [toN_getD]; omega)
    rw [ways_toN (set_nonneg h (by omega)) (by rw [toN_set]; omega), toN_set]
    unfold capped
    omega
theorem lessN_eq {m : List Int} (h : ∀ x ∈ m, 0 ≤ x) (hs : (toN m).sum ≤ 1048576) (hb : arr 0 (toN m) ≤ 1099511627776) : ∀ c : Nat, c ≤ m.length → lessN m c = (sumTo (arrAt 0 (toN m)) c : Nat)
  | 0, _ => rfl
  | c + 1, hc => by
    rw [lessN, sumTo, lessN_eq h hs hb c (by omega), takeN_eq h hs hb (by omega)]
    simp
theorem menOf_nonneg {K : Nat} {l : List Int} (h : ∀ c ∈ l, c.toNat < K) : ∀ x ∈ menOf K l, 0 ≤ x := fun x hx => (menOf_mem h x hx).1
theorem dec_menOf {K : Nat} {c : Int} {l : List Int} (h : c.toNat < K) : dec (toN (menOf K (c :: l))) c.toNat = toN (menOf K l) := by
  rw [← toN_set]
  have := set_bump (m := menOf K l) (c := c) (by rw [menOf_length]; exact h)
  rw [← menOf_cons] at this
  rw [this]
theorem isArr_menOf {K : Nat} : ∀ {l : List Int}, (∀ c ∈ l, c.toNat < K) → isArr (toN (menOf K l)) (toN l)
  | [], _ => by simp [toN, isArr, menOf]
  | c :: l, h => by
    have hc := h c (by simp)
    have ht := isArr_menOf (l := l) fun x hx => h x (by simp [hx])
    refine ⟨by rw [toN_length, menOf_length]; exact hc, ?_, by rw [dec_menOf hc]; exact ht⟩
    rw [toN_getD, menOf_cons]
    have h0 := menOf_nonneg (K := K) (l := l) (fun x hx => h x (by simp [hx]))
    have hlt : c.toNat < (menOf K l).length := by rw [menOf_length]; exact hc
    have := h0 _ (nth_mem hlt)
    rw [bump, nth_set_self hlt]
    omega
theorem sum_menOf {K : Nat} {l : List Int} (h : ∀ c ∈ l, c.toNat < K) : (toN (menOf K l)).sum = l.length := by
  have := isArr_sum (isArr_menOf h)
  rwa [toN_length] at this
theorem arr_dec_le {m : List Nat} {c : Nat} (hc : c < m.length) (hp : 0 < m.getD c 0) : arr 0 (dec m c) ≤ arr 0 m := by
  have := arrAt_le hc
  rwa [arrAt_pos hp] at this
theorem rankN_eq {K : Nat} : ∀ {l : List Int}, (∀ c ∈ l, c.toNat < K) → l.length ≤ 1048576 → arr 0 (toN (menOf K l)) ≤ 1099511627776 → rankN (menOf K l) l = (rk (toN (menOf K l)) (toN l) : Nat)
  | [], _, _, _ => rfl
  | c :: l, h, hl, hb => by
    have hc := h c (by simp)
    have hA := isArr_menOf h
    have hd := dec_menOf (l := l) hc
    have hb2 : arr 0 (toN (menOf K l)) ≤ 1099511627776 := by
      have := arr_dec_le hA.1 hA.2.1
      change arr 0 (dec (toN (menOf K (c :: l))) c.toNat) ≤ _ at this
      rw [hd] at this
      omega
    have ih := rankN_eq (l := l) (fun x hx => h x (by simp [hx])) (by simp at hl; omega) hb2
    have hsb := set_bump (m := menOf K l) (c := c) (by rw [menOf_length]; exact hc)
    rw [← menOf_cons] at hsb
    rw [rankN, hsb, ih, lessN_eq (menOf_nonneg h) (by rw [sum_menOf h]; exact hl) hb _ (by rw [menOf_length]; omega)]
    show _ = ((rk (toN (menOf K (c :: l))) (c.toNat :: toN l) : Nat) : Int)
    rw [rk, hd]
    simp
theorem findA_eq {m : List Int} (h : ∀ x ∈ m, 0 ≤ x) (hs : (toN m).sum ≤ 1048576) (hb : arr 0 (toN m) ≤ 1099511627776) : ∀ (f x : Nat) (i : Nat) (c j : Nat), x + f ≤ m.length → findC (toN m) f x i = some (c, j) → findA m f x (i : Int) = (some c, (j : Int))
  | 0, x, i, c, j, _, hf => by simp [findC] at hf
  | f + 1, x, i, c, j, hx, hf => by
    rw [findC] at hf
    rw [findA, takeN_eq h hs hb (by omega)]
    by_cases hi : i < arrAt 0 (toN m) x
    · rw [if_pos hi] at hf
      rw [if_pos (by omega)]
      simp only [Option.some.injEq, Prod.mk.injEq] at hf
      obtain ⟨rfl, rfl⟩ := hf
      rfl
    · rw [if_neg hi] at hf
      rw [if_neg (by omega)]
      have := findA_eq h hs hb f (x + 1) (i - arrAt 0 (toN m) x) c j (by omega) hf
      rw [show ((i : Int) - (arrAt 0 (toN m) x : Nat)) = ((i - arrAt 0 (toN m) x : Nat) : Int) by omega]
      exact this
theorem atL_eq : ∀ (n : Nat) (m : List Int) (i : Nat), (∀ x ∈ m, 0 ≤ x) → (toN m).sum = n → n ≤ 1048576 → arr 0 (toN m) ≤ 1099511627776 → i < arr 0 (toN m) → atL n m i = (unrk n (toN m) i).map Int.ofNat
  | 0, _, _, _, _, _, _, _ => rfl
  | n + 1, m, i, h, hs, hn, hb, hi => by
    rw [arr_sum (toN m) (by omega)] at hi
    obtain ⟨c, j, h1, h2, h3, h4, h5⟩ := findC_some (toN m) (toN m).length 0 i (by simpa [sumTo] using hi)
    have hp := arrAt_ne h4
    have hd := dec_sum (toN m) c hp
    have hc : c < m.length := by rw [toN_length] at h3; omega
    have hle := arr_dec_le (m := toN m) (c := c) (by rw [toN_length]; exact hc) hp
    have hfa := findA_eq h (by omega) hb m.length 0 i c j (by omega) (by rw [← toN_length m]; exact h1)
    rw [toN_getD] at hp
    have ih := atL_eq n (m.set c (nth m c - 1)) j (set_nonneg h (by omega)) (by rw [toN_set]; omega) (by omega) (by rw [toN_set]; omega) (by rw [toN_set]; rwa [arrAt_pos (by rw [toN_getD]; exact hp)] at h4)
    rw [atL, hfa, unrk, h1]
    simp only
    rw [ih, toN_set]
    rfl
/-- THE POSITION WITH THE RANK IS THE POSITION; THE RANK IS LESS THAN THE NUMBER OF WAYS. -/
theorem at_rank {K : Nat} {l : List Int} (h0 : ∀ c ∈ l, 0 ≤ c) (h : ∀ c ∈ l, c.toNat < K) (hl : l.length ≤ 1048576) (hb : ways (menOf K l) ≤ 1099511627776) :
    0 ≤ rankN (menOf K l) l ∧ rankN (menOf K l) l < ways (menOf K l) ∧ atL l.length (menOf K l) (rankN (menOf K l) l) = l := by
  have hA := isArr_menOf h
  have hs := sum_menOf h
  have hn := menOf_nonneg h
  have hw := ways_toN hn (by omega)
  have hcap : capped (toN (menOf K l)) = arr 0 (toN (menOf K l)) ∧ arr 0 (toN (menOf K l)) ≤ 1099511627776 := by unfold capped at *; omega
  have hr := rankN_eq h hl hcap.2
  have hlt := rk_lt hA
  rw [hr, hw, hcap.1]
  refine ⟨by omega, by omega, ?_⟩
  rw [atL_eq _ _ _ hn hs hl hcap.2 hlt]
  have := unrk_rk hA
  rw [toN_length] at this
  rw [this, map_toN h0]
end Go.Av
