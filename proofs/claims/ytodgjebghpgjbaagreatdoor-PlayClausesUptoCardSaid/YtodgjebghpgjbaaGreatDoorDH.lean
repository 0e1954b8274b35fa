/- Contracts: slices.CompactFunc and slices.SortFunc of positions, as pos.Sort asks for them (printed by genGH.py). -/
import Derived.Test.YtodgjebghpgjbaaGreatDoorSP
import Derived.Test.YtodgjebghpgjbaaGreatDoorD3
section
set_option linter.unusedSimpArgs false
set_option linter.unusedVariables false
open Go Go.Proofs
set_option maxRecDepth 20000
set_option maxHeartbeats 4000000
namespace Go.Av
def zeroQ : List AV := [.v (.slice none 0 0), .v (.slice none 0 0), .v (.slice none 0 0), .v (.int .i64 0), .v (.int .i64 0)]
theorem CompactP_owns (l : List PosD) (gn : Nat) (hl : l.length ≤ 17179869184) (hf : ∀ o ∈ l, FitsP o) :
  OwnsA Tryz.prog 95 [.sl 0 gn 5 0 l.length, .fn (.func 96) [] []] [(0, .rows true gn 5 (l.map encPos))] 1
   (.sl 0 gn 5 0 (dedup l).length) [(0, .rows true gn 5 ((dedup l).map encPos ++ List.replicate (l.length - (dedup l).length) zeroQ))] 1 := by
 unfold OwnsA
 by_cases h2 : l.length < 2
 ·rw [dedup_short h2]
  refine ACallP.of_awp (by kernel_rfl) Tryz.func95 rfl rfl (Nat.le_of_ble_eq_true rfl) (by kernel_rfl) ?_
  (repeat (first | with_reducible (first | refine wL fun _ => ?_ | refine wD fun _ => ?_ | refine wE ?_ | refine adrZ.go ?_) | simp [go_sem]))
  (refine aIf.mkL (fun hT => ?_) (fun hT => by first | omega | (simp at hT; omega)); clear hT)
  (repeat (first | with_reducible (first | refine wL fun _ => ?_ | refine wD fun _ => ?_ | refine wE ?_ | refine adrZ.go ?_) | simp [go_sem]))
  simp [go_sem, Wk_eq]
 obtain ⟨D, hD⟩ : ∃ D, D = dedup l := ⟨_, rfl⟩
 rw [← hD]
 have hE : ∀ i j, i < l.length → j < l.length → Pure Tryz.prog 96 [.agg (encPos (nth l i)), .agg (encPos (nth l j))] (.v (.bool (decide (nth l i = nth l j)))) :=
  fun i j hi hj => psort1_pure _ _ (hf _ (nth_mem hi)) (hf _ (nth_mem hj))
 refine ACallP.of_awp (by kernel_rfl) Tryz.func95 rfl rfl (Nat.le_of_ble_eq_true rfl) (by kernel_rfl) ?_
 (repeat (first | with_reducible (first | refine wL fun _ => ?_ | refine wD fun _ => ?_ | refine wE ?_ | refine adrZ.go ?_) | simp [go_sem]))
 (refine aIf.mkL (fun hF => by first | omega | (simp at hF; omega)) (fun hF => ?_); clear hF)
 (repeat (first | with_reducible (first | refine wL fun _ => ?_ | refine wD fun _ => ?_ | refine wE ?_ | refine adrZ.go ?_) | simp [go_sem]))
 refine ALoop.start (ALoop.ind (α := Nat) (fun j => ⟨[(0, .sl 0 gn 5 0 l.length), (1, .fn (.func 96) [] []), (5, .v (.int .i64 j))], [(0, .rows true gn 5 (l.map encPos))], 1⟩)
  (fun d j => 1 ≤ j ∧ j + d = l.length ∧ D = l.take j ++ dedupGo (nth l (j - 1)) (l.drop j)) ?_ (l.length - 1) 1 ?_) ?_ ?_
 ·rintro d j ⟨i1, i2, i3⟩ hrec
  have e1 : ((j : Int) - 1).toNat = j - 1 := by omega
  (repeat (first | with_reducible (first | refine wL fun _ => ?_ | refine wD fun _ => ?_ | refine wE ?_ | refine adrZ.go ?_) | simp [go_sem]))
  refine aIf.mkL (fun hj => ?_) (fun hj => ?_) <;> simp at hj
  ·have hj' : j - 1 < l.length := by omega
   rw [dropG_cons hj, dedupGo] at i3
   (repeat (first | with_reducible (first | refine wL fun _ => ?_ | refine wD fun _ => ?_ | refine wE ?_ | refine adrZ.go ?_) | simp [go_sem, hj, hj', e1]))
   try ((with_reducible refine adrZ.go ?_); (try simp [go_sem]))
   refine dCall.plain (hE j (j - 1) hj hj') (by simp [go_sem]) ?_
   (repeat (first | with_reducible (first | refine wL fun _ => ?_ | refine wD fun _ => ?_ | refine wE ?_ | refine adrZ.go ?_) | simp [go_sem, hj, hj', e1]))
   by_cases he : nth l j = nth l (j - 1)
   ·rw [if_pos he] at i3
    (repeat (first | with_reducible (first | refine wL fun _ => ?_ | refine wD fun _ => ?_ | refine wE ?_ | refine adrZ.go ?_) | simp [go_sem, he, hj, hj', e1]))
    refine ALoop.start (ALoop.ind (α := Nat × List PosD × Nat) (fun a => ⟨[(0, .sl 0 gn 5 0 l.length), (1, .fn (.func 96) [] []), (5, .v (.int .i64 a.2.2)), (6, .sl 0 gn 5 j (l.length - j)), (7, .v (.int .i64 a.1))], [(0, .rows true gn 5 (a.2.1.map encPos))], 1⟩)
     (fun d a => 1 ≤ a.1 ∧ j + a.1 + d = l.length ∧ a.2.1.length = l.length ∧ a.2.2 ≤ j + a.1 - 1 ∧ a.2.1.drop (j + a.1 - 1) = l.drop (j + a.1 - 1) ∧ D = a.2.1.take a.2.2 ++ dedupGo (nth l (j + a.1 - 1)) (l.drop (j + a.1))) ?_ (l.length - j - 1) (1, l, j) ?_) ?_ ?_
    ·rintro d2 ⟨k2, R, k⟩ ⟨j1, j2, j3, j4, j5, j6⟩ hrec2
     simp only at j1 j2 j3 j4 j5 j6
     have e2 : ((k2 : Int) - 1).toNat = k2 - 1 := by omega
     have e3 : j + (k2 - 1) = j + k2 - 1 := by omega
     have hRn : ∀ m, j + k2 - 1 ≤ m → m < l.length → nth R m = nth l m := fun m h1 h2 => by
      have h3 : (R.drop (j + k2 - 1))[m - (j + k2 - 1)]? = (l.drop (j + k2 - 1))[m - (j + k2 - 1)]? := by rw [j5]
      rw [List.getElem?_drop, List.getElem?_drop, show j + k2 - 1 + (m - (j + k2 - 1)) = m by omega, List.getElem?_eq_getElem (by omega), List.getElem?_eq_getElem h2] at h3
      rw [nth_eq _ _ (by omega), nth_eq _ _ h2]
      exact Option.some.inj h3
     (repeat (first | with_reducible (first | refine wL fun _ => ?_ | refine wD fun _ => ?_ | refine wE ?_ | refine adrZ.go ?_) | simp [go_sem, j3]))
     refine aIf.mkL (fun hk => ?_) (fun hk => ?_) <;> simp at hk
     ·have hk1 : j + k2 < l.length := by omega
      have hk0 : j + k2 - 1 < l.length := by omega
      have hr1 := hRn (j + k2) (by omega) hk1
      have hr0 := hRn (j + k2 - 1) (by omega) hk0
      rw [dropG_cons hk1, dedupGo] at j6
      have hk2 : k2 - 1 < l.length - j := by omega
      have hk3 : k < l.length := by omega
      (repeat (first | with_reducible (first | refine wL fun _ => ?_ | refine wD fun _ => ?_ | refine wE ?_ | refine adrZ.go ?_) | simp [go_sem, j3, hk, hk1, hk0, hr1, hr0, e2, e3, hk2]))
      try ((with_reducible refine adrZ.go ?_); (try simp [go_sem]))
      refine dCall.plain (hE (j + k2) (j + k2 - 1) hk1 hk0) (by simp [go_sem]) ?_
      (repeat (first | with_reducible (first | refine wL fun _ => ?_ | refine wD fun _ => ?_ | refine wE ?_ | refine adrZ.go ?_) | simp [go_sem, j3, hk, hk1, hk0, hr1, hr0, e2, e3, hk2]))
      by_cases hc : nth l (j + k2) = nth l (j + k2 - 1)
      ·rw [if_pos hc] at j6
       (repeat (first | with_reducible (first | refine wL fun _ => ?_ | refine wD fun _ => ?_ | refine wE ?_ | refine adrZ.go ?_) | simp [go_sem, hc]))
       refine ALoop.start (hrec2 (d2 - 1) (by omega) (k2 + 1, R, k) ⟨by simp only; omega, by simp only; omega, j3, by simp only; omega, ?_, ?_⟩) ?_ (by simp)
       ·have := congrArg (List.drop 1) j5
        rw [List.drop_drop, List.drop_drop] at this
        rw [show j + (k2 + 1) - 1 = j + k2 - 1 + 1 by omega]
        exact this
       ·simp only
        rw [show j + (k2 + 1) - 1 = j + k2 by omega, hc]
        exact j6
       ·simp [go_sem, Wk_eq]
      ·rw [if_neg hc] at j6
       (repeat (first | with_reducible (first | refine wL fun _ => ?_ | refine wD fun _ => ?_ | refine wE ?_ | refine adrZ.go ?_) | simp [go_sem, hc, j3, hk, hk1, hk0, hr1, hr0, e2, e3, hk2, hk3]))
       refine ALoop.start (hrec2 (d2 - 1) (by omega) (k2 + 1, R.set k (nth l (j + k2)), k + 1) ⟨by simp only; omega, by simp only; omega, by simpa using j3, by simp only; omega, ?_, ?_⟩) ?_ (by simp)
       ·have := congrArg (List.drop 1) j5
        rw [List.drop_drop, List.drop_drop] at this
        simp only
        rw [show j + (k2 + 1) - 1 = j + k2 - 1 + 1 by omega, List.drop_set, if_pos (by omega)]
        exact this
       ·simp only
        rw [show j + (k2 + 1) - 1 = j + k2 by omega, List.take_add_one, List.take_set_of_le (by omega), List.getElem?_set_self (by omega), Option.toList_some, List.append_assoc]
        exact j6
       ·have hb : ∀ n, ∀ r ∈ ((R.set k (nth l (j + k2))).map encPos), ∀ c ∈ r, Bel n c := fun n => of_eq_true bel_P
        rw [List.map_set] at hb
        simp [go_sem, Wk_eq, List.map_set]
        exact hb 1
     ·rw [List.drop_eq_nil_of_le (by omega), dedupGo, List.append_nil] at j6
      have hDl : D.length = k := by rw [j6, List.length_take]; omega
      have hd0 : List.drop (k + (l.length - k)) (R.map encPos) = [] := List.drop_eq_nil_of_le (by simp; omega)
      have hDm : D.map encPos = List.take k (R.map encPos) := by rw [j6, List.map_take]
      (repeat (first | with_reducible (first | refine wL fun _ => ?_ | refine wD fun _ => ?_ | refine wE ?_ | refine adrZ.go ?_) | simp [go_sem]))
      simp [go_sem, Wk_eq, hd0, hDl, hDm, zeroQ]
      exact fun x hx => of_eq_true (bel_P (n := 1) (l := R)) x (List.mem_of_mem_take hx)
    ·refine ⟨Nat.le_refl _, by simp only; omega, rfl, by simp only; omega, rfl, ?_⟩
     simp only
     rw [Nat.add_sub_cancel, he]
     exact i3
    ·simp [go_sem, Wk_eq]
    ·simp
   ·rw [if_neg he] at i3
    (repeat (first | with_reducible (first | refine wL fun _ => ?_ | refine wD fun _ => ?_ | refine wE ?_ | refine adrZ.go ?_) | simp [go_sem, he, hj, hj', e1]))
    refine ALoop.start (hrec (d - 1) (by omega) (j + 1) ⟨by omega, by omega, ?_⟩) ?_ (by simp)
    ·rw [i3, Nat.add_sub_cancel, List.take_add_one, List.getElem?_eq_getElem hj, nth_eq _ _ hj, Option.toList_some, List.append_assoc]; rfl
    ·simp [go_sem, Wk_eq]
  ·rw [List.drop_eq_nil_of_le hj, List.take_of_length_le hj, dedupGo, List.append_nil] at i3
   rw [i3]
   (repeat (first | with_reducible (first | refine wL fun _ => ?_ | refine wD fun _ => ?_ | refine wE ?_ | refine adrZ.go ?_) | simp [go_sem]))
   simp [go_sem, Wk_eq]
 ·refine ⟨Nat.le_refl _, by omega, ?_⟩
  cases l with
  | nil => simp at h2
  | cons a l => rw [hD]; rfl
 ·simp [go_sem, Wk_eq]
 ·simp
theorem bel_map_pos {n : Nat} (l : List PosD) : ∀ r ∈ l.map encPos, ∀ c ∈ r, Bel n c := of_eq_true bel_P
theorem compactP_call (l : List PosD) (gn : Nat) (hl : l.length ≤ 17179869184) (hf : ∀ o ∈ l, FitsP o) {h : Heap} {n o : Nat} (ho : h o = some (.rows true gn 5 (l.map encPos))) (hon : o < n) {K : CallK}
  (hK : K (.sl o gn 5 0 (dedup l).length) (upd h o (some (.rows true gn 5 ((dedup l).map encPos ++ List.replicate (l.length - (dedup l).length) zeroQ)))) n) :
  ACallP Tryz.prog 95 [.sl o gn 5 0 l.length, .fn (.func 96) [] []] h n K := by
 have hz : ∀ m, ∀ r ∈ (dedup l).map encPos ++ List.replicate (l.length - (dedup l).length) zeroQ, ∀ c ∈ r, Bel m c := by
  intro m r hr c hc
  rcases List.mem_append.1 hr with hr | hr
  ·exact bel_map_pos _ r hr c hc
  ·rw [List.eq_of_mem_replicate hr] at hc
   simp only [zeroQ, List.mem_cons, List.not_mem_nil, or_false] at hc
   rcases hc with rfl | rfl | rfl | rfl | rfl <;> exact .v _
 refine ACallP.ownsA (args' := [.sl o gn 5 0 l.length, .fn (.func 96) [] []]) (HH := [(o, .rows true gn 5 ((dedup l).map encPos ++ List.replicate (l.length - (dedup l).length) zeroQ))])
  [o] h (CompactP_owns l gn hl hf) (by simp) (by simpa using hon) rfl (Nat.le_refl _) (.refl _) ?_ ?_ (.refl _ _ _ _) ?_ ?_ ?_ (.sl rfl) ?_ ?_
 ·intro j hj
  obtain rfl : j = 0 := by omega
  exact ⟨_, _, rfl, ho, .rows (.same (bel_map_pos _))⟩
 ·intro p hp
  simp only [List.mem_singleton] at hp
  subst hp
  exact ⟨Nat.le_of_ble_eq_true rfl, bel_map_pos _⟩
 ·intro y hy
  simp only [List.mem_cons, List.not_mem_nil, or_false] at hy
  rcases hy with rfl | rfl
  ·exact .sl hon
  ·simp [go_sem]
 ·exact .cons (.sl rfl) (.cons (.same (by simp [go_sem])) .nil)
 ·intro y hy
  simp only [List.mem_cons, List.not_mem_nil, or_false] at hy
  rcases hy with rfl | rfl
  ·exact .sl (by decide)
  ·simp [go_sem]
 ·exact .cons rfl (.rows (.same (hz 0))) .nil
 ·have e : over [(o, .rows true gn 5 ((dedup l).map encPos ++ List.replicate (l.length - (dedup l).length) zeroQ))] (remH [o] h) = upd h o (some (.rows true gn 5 ((dedup l).map encPos ++ List.replicate (l.length - (dedup l).length) zeroQ))) := by
   funext j
   simp only [over, remH, upd]
   by_cases j1 : j = o
   ·simp [j1]
   ·simp [j1]
  rw [e, Nat.sub_self, Nat.add_zero]
  exact hK
theorem compactP_call2 (l : List PosD) (gn m : Nat) (hm : l.length = m) (hl : m ≤ 17179869184) (hf : ∀ o ∈ l, FitsP o) {h : Heap} {n o : Nat} (ho : h o = some (.rows true gn 5 (l.map encPos))) (hon : o < n) {K : CallK}
  (hK : K (.sl o gn 5 0 (dedup l).length) (upd h o (some (.rows true gn 5 ((dedup l).map encPos ++ List.replicate (l.length - (dedup l).length) zeroQ)))) n) :
  ACallP Tryz.prog 95 [.sl o gn 5 0 m, .fn (.func 96) [] []] h n K := by
 subst hm
 exact compactP_call l gn hl hf ho hon hK
theorem swo_pos : Go.Sort.SWO (fun a b : PosD => decide (cmpP a b < 0)) := by
 refine ⟨fun x => ?_, fun x y z h1 h2 => ?_, fun x y z h1 h2 => ?_⟩
 ·have := cmp_pos.swap x x
  simp; omega
 ·simp only [decide_eq_true_eq] at h1 h2 ⊢
  have t := cmp_pos.tr x y z (by omega) (by omega)
  rcases Int.lt_or_eq_of_le t with h | h
  ·exact h
  ·have e := (cmp_pos.eq _ _).1 h
   subst e
   have := cmp_pos.swap x y
   omega
 ·simp only [decide_eq_false_iff_not] at h1 h2 ⊢
  have s1 := cmp_pos.swap x y
  have s2 := cmp_pos.swap y z
  have s3 := cmp_pos.swap x z
  have t := cmp_pos.tr z y x (by omega) (by omega)
  omega
theorem sortP_call (l : List PosD) (hf : ∀ o ∈ l, FitsP o) (hl : l.length < 4611686018427387904) {h : Heap} {n o gn : Nat} (ho : h o = some (.rows true gn 5 (l.map encPos))) {K : CallK}
  (hK : K (.tup []) (upd h o (some (.rows true gn 5 ((sortC cmpP l).map encPos)))) n) :
  ACallP Tryz.prog 94 [.sl o gn 5 0 l.length, .fn (.func 32) [] []] h n K := by
 refine ACallP.sortFunc zsortP (k := 5) (by omega) Tryz.isAgg44 Tryz.sizeOf44 encPos (fun _ => rfl) ?_ (fun o => FitsP o) cmpP swo_pos _ (fun x y hx hy => pCompare_pure x y hx hy) ?_ l hf hl ho ?_
 ·intro x
  simp [go_sem]
 ·exact (pCompare_pure default default (by unfold FitsP Fits; decide) (by unfold FitsP Fits; decide)).1
 ·intro l' hp hs
  have : sortC cmpP l = l' := sortC_unique cmp_pos hp (hs.imp fun {a b} hab => by
   have := cmp_pos.swap a b
   simp only [leC, decide_eq_true_eq]
   omega)
  rw [← this]
  exact hK
end Go.Av
end
section
set_option linter.unusedSimpArgs false
set_option linter.unusedVariables false
open Go Go.Proofs
set_option maxRecDepth 20000
set_option maxHeartbeats 4000000
namespace Go.Av
theorem R4Same_pure (a b : PosD) (ha : FitsP a) (hb : FitsP b) : Pure Tryz.prog 57 [.agg (encPos a), .agg (encPos b)] (.v (.bool (decide (cmpP a b = 0)))) := by
 refine Pure.of (ACallP.of_awp (by kernel_rfl) Tryz.func57 rfl rfl (Nat.le_of_ble_eq_true rfl) (by kernel_rfl) ?_)
 (repeat (first | with_reducible (first | refine wL fun _ => ?_ | refine wD fun _ => ?_ | refine wE ?_ | refine adrZ.go ?_) | simp [go_sem]))
 refine ACallP.plain (Compare_pure a b ha hb) (by simp [go_sem]) ?_
 (repeat (first | with_reducible (first | refine wL fun _ => ?_ | refine wD fun _ => ?_ | refine wE ?_ | refine adrZ.go ?_) | simp [go_sem]))
attribute [go_sem ↓] bel_P bel_I List.forall_mem_append
theorem bel1 {x : AV} (h : Bel 0 x) : ∀ c ∈ [x], Bel 0 c := by simpa using h
theorem bel_encPs {n : Nat} (l : List PosD) : Bel n (encPs l) := of_eq_true bel_Ps
theorem half_pure : ∀ (f : Nat) (l : List PosD), l.length ≤ f + 1 → l.length ≤ 68719476736 → (∀ p ∈ l, FitsP p) → Pure Tryz.prog 89 [encPs l] (encPs (sortC cmpP l)) := by
 intro f
 induction f with
 | zero =>
  intro l h1 h2 h3
  rw [sortC_short (by omega)]
  refine Pure.of (ACallP.of_awp (by kernel_rfl) Tryz.func89 rfl rfl (Nat.le_of_ble_eq_true rfl) (by kernel_rfl) ?_)
  (repeat (first | with_reducible (first | refine wL fun _ => ?_ | refine wD fun _ => ?_ | refine wE ?_ | refine adrZ.go ?_) | simp [go_sem]))
  (refine aIf.mkL (fun hT => ?_) (fun hT => by first | omega | (simp at hT; omega)); clear hT)
  (repeat (first | with_reducible (first | refine wL fun _ => ?_ | refine wD fun _ => ?_ | refine wE ?_ | refine adrZ.go ?_) | simp [go_sem]))
 | succ f ih =>
  intro l h1 h2 h3
  by_cases hs : l.length < 2
  ·rw [sortC_short hs]
   refine Pure.of (ACallP.of_awp (by kernel_rfl) Tryz.func89 rfl rfl (Nat.le_of_ble_eq_true rfl) (by kernel_rfl) ?_)
   (repeat (first | with_reducible (first | refine wL fun _ => ?_ | refine wD fun _ => ?_ | refine wE ?_ | refine adrZ.go ?_) | simp [go_sem]))
   (refine aIf.mkL (fun hT => ?_) (fun hT => by first | omega | (simp at hT; omega)); clear hT)
   (repeat (first | with_reducible (first | refine wL fun _ => ?_ | refine wD fun _ => ?_ | refine wE ?_ | refine adrZ.go ?_) | simp [go_sem]))
  ·have hm := sortC_merge cmp_pos (l.take (l.length / 2)) (l.drop (l.length / 2))
   rw [List.take_append_drop] at hm
   have hA := ih (l.take (l.length / 2)) (by simp; omega) (by simp; omega) (fun p hp => h3 p (List.mem_of_mem_take hp))
   have hB := ih (l.drop (l.length / 2)) (by simp; omega) (by simp; omega) (fun p hp => h3 p (List.mem_of_mem_drop hp))
   have fA : ∀ p ∈ sortC cmpP (l.take (l.length / 2)), FitsP p := fun p hp => h3 p (List.mem_of_mem_take (sortC_mem.1 hp))
   have fB : ∀ p ∈ sortC cmpP (l.drop (l.length / 2)), FitsP p := fun p hp => h3 p (List.mem_of_mem_drop (sortC_mem.1 hp))
   have lA : (sortC cmpP (l.take (l.length / 2))).length = l.length / 2 := by rw [sortC_len]; simp; omega
   have lB : (sortC cmpP (l.drop (l.length / 2))).length = l.length - l.length / 2 := by rw [sortC_len]; simp
   rw [← hm]
   generalize sortC cmpP (l.take (l.length / 2)) = xs at *
   generalize sortC cmpP (l.drop (l.length / 2)) = ys at *
   have hq : ((l.length : Int) / 2).toNat = l.length / 2 := by omega
   have eA : AV.lst 5 (List.take (l.length / 2) (l.map encPos)) = encPs (l.take (l.length / 2)) := by simp [encPs, List.map_take]
   have eB : AV.lst 5 (List.take (l.length - l.length / 2) (List.drop (l.length / 2) (l.map encPos))) = encPs (l.drop (l.length / 2)) := by rw [List.take_of_length_le (by simp)]; simp [encPs, List.map_drop]
   generalize hR : List.merge xs ys (leC cmpP) = R
   refine Pure.of (ACallP.of_awp (by kernel_rfl) Tryz.func89 rfl rfl (Nat.le_of_ble_eq_true rfl) (by kernel_rfl) ?_)
   (repeat (first | with_reducible (first | refine wL fun _ => ?_ | refine wD fun _ => ?_ | refine wE ?_ | refine adrZ.go ?_) | simp [go_sem]))
   (refine aIf.mkL (fun hF => by first | omega | (simp at hF; omega)) (fun hF => ?_); clear hF)
   (repeat (first | with_reducible (first | refine wL fun _ => ?_ | refine wD fun _ => ?_ | refine wE ?_ | refine adrZ.go ?_) | simp [go_sem, hq]))
   rw [eA]
   refine ACallP.plain hA (bel1 (bel_encPs _)) ?_
   (repeat (first | with_reducible (first | refine wL fun _ => ?_ | refine wD fun _ => ?_ | refine wE ?_ | refine adrZ.go ?_) | simp [go_sem, hq]))
   rw [eB]
   refine ACallP.plain hB (bel1 (bel_encPs _)) ?_
   (repeat (first | with_reducible (first | refine wL fun _ => ?_ | refine wD fun _ => ?_ | refine wE ?_ | refine adrZ.go ?_) | simp [go_sem, hq]))
   refine ALoop.start (ALoop.ind (α := Nat × Nat × List PosD) (fun a => ⟨[(3, encPs xs), (4, encPs ys), (5, .sl 0 a.2.2.length 5 0 a.2.2.length), (6, .v (.int .i64 a.1)), (7, .v (.int .i64 a.2.1))], [(0, .rows true a.2.2.length 5 (a.2.2.map encPos))], 1⟩)
    (fun d a => a.1 + a.2.1 + d = xs.length + ys.length ∧ a.1 ≤ xs.length ∧ a.2.1 ≤ ys.length ∧ a.2.2.length = a.1 + a.2.1 ∧ R = a.2.2 ++ List.merge (xs.drop a.1) (ys.drop a.2.1) (leC cmpP)) ?_ (xs.length + ys.length) (0, 0, []) ?_) ?_ ?_
   ·rintro d ⟨i, k, out⟩ ⟨i1, i2, i3, i4, i5⟩ hrec
    simp only at i1 i2 i3 i4 i5
    (repeat (first | with_reducible (first | refine wL fun _ => ?_ | refine wD fun _ => ?_ | refine wE ?_ | refine adrZ.go ?_) | simp [go_sem]))
    refine aIf.mkL (fun hj => ?_) (fun hj => ?_) <;> simp at hj
    ·by_cases hk : k < ys.length
     ·by_cases hi : i < xs.length
      ·have fa := fA _ (nth_mem hi)
       have fb := fB _ (nth_mem hk)
       rw [dropG_cons hi, dropG_cons hk, List.cons_merge_cons, ← dropG_cons hi, ← dropG_cons hk] at i5
       have hk' := Nat.not_le.2 hk
       (repeat (first | with_reducible (first | refine wL fun _ => ?_ | refine wD fun _ => ?_ | refine wE ?_ | refine adrZ.go ?_) | simp [go_sem, hk, hk', hi]))
       try ((with_reducible refine adrZ.go ?_); (try simp [go_sem]))
       refine dGC.plain _ (fun _ => Compare_pure _ _ fa fb) (by simp [go_sem]) ?_
       (repeat (first | with_reducible (first | refine wL fun _ => ?_ | refine wD fun _ => ?_ | refine wE ?_ | refine adrZ.go ?_) | simp [go_sem, hk, hk', hi]))
       refine aIf.mkL (fun hc => ?_) (fun hc => ?_) <;> simp at hc
       ·rw [if_pos (by simpa [leC] using hc)] at i5
        (repeat (first | with_reducible (first | refine wL fun _ => ?_ | refine wD fun _ => ?_ | refine wE ?_ | refine adrZ.go ?_) | simp [go_sem, hk, hi]))
        refine ALoop.start (hrec (d - 1) (by omega) (i + 1, k, out ++ [nth xs i]) ⟨by simp only; omega, by simp only; omega, i3, by simp; omega, by simpa using i5⟩) ?_ (by simp)
        simp [go_sem, Wk_eq]
       ·rw [if_neg (by simpa [leC] using hc)] at i5
        (repeat (first | with_reducible (first | refine wL fun _ => ?_ | refine wD fun _ => ?_ | refine wE ?_ | refine adrZ.go ?_) | simp [go_sem, hk, hi]))
        refine ALoop.start (hrec (d - 1) (by omega) (i, k + 1, out ++ [nth ys k]) ⟨by simp only; omega, i2, by simp only; omega, by simp; omega, by simpa using i5⟩) ?_ (by simp)
        simp [go_sem, Wk_eq]
      ·rw [List.drop_eq_nil_of_le (show xs.length ≤ i by omega), List.nil_merge, dropG_cons hk] at i5
       have hk' := Nat.not_le.2 hk
       (repeat (first | with_reducible (first | refine wL fun _ => ?_ | refine wD fun _ => ?_ | refine wE ?_ | refine adrZ.go ?_) | simp [go_sem, hk, hk', hi]))
       try ((with_reducible refine adrZ.go ?_); (try simp [go_sem]))
       refine dGC.skip (.v (.int .i64 0)) ?_
       (repeat (first | with_reducible (first | refine wL fun _ => ?_ | refine wD fun _ => ?_ | refine wE ?_ | refine adrZ.go ?_) | simp [go_sem, hk, hk', hi]))
       refine ALoop.start (hrec (d - 1) (by omega) (i, k + 1, out ++ [nth ys k]) ⟨by simp only; omega, i2, by simp only; omega, by simp; omega, by simp [List.drop_eq_nil_of_le (show xs.length ≤ i by omega), i5]⟩) ?_ (by simp)
       simp [go_sem, Wk_eq]
     ·have hi : i < xs.length := by omega
      rw [List.drop_eq_nil_of_le (show ys.length ≤ k by omega), List.merge_right, dropG_cons hi] at i5
      have hk' := Nat.not_lt.1 hk
      (repeat (first | with_reducible (first | refine wL fun _ => ?_ | refine wD fun _ => ?_ | refine wE ?_ | refine adrZ.go ?_) | simp [go_sem, hk, hk', hi]))
      try ((with_reducible refine adrZ.go ?_); (try simp [go_sem]))
      refine dGC.skip (.v (.int .i64 0)) ?_
      (repeat (first | with_reducible (first | refine wL fun _ => ?_ | refine wD fun _ => ?_ | refine wE ?_ | refine adrZ.go ?_) | simp [go_sem, hk, hk', hi]))
      refine ALoop.start (hrec (d - 1) (by omega) (i + 1, k, out ++ [nth xs i]) ⟨by simp only; omega, by simp only; omega, i3, by simp; omega, by simp [List.drop_eq_nil_of_le (show ys.length ≤ k by omega), i5]⟩) ?_ (by simp)
      simp [go_sem, Wk_eq]
    ·rw [List.drop_eq_nil_of_le (show xs.length ≤ i by omega), List.drop_eq_nil_of_le (show ys.length ≤ k by omega)] at i5
     (repeat (first | with_reducible (first | refine wL fun _ => ?_ | refine wD fun _ => ?_ | refine wE ?_ | refine adrZ.go ?_) | simp [go_sem]))
     rw [i5]
     (refine leV_frz rfl (by simp) (by simp [noH, upd]) ?_; first | (simp [go_sem]; done) | (simp [go_sem]; exact List.take_of_length_le (by simp)))
   ·simp [hR]
   ·simp [go_sem, Wk_eq]
   ·simp
end Go.Av
end
section
set_option linter.unusedSimpArgs false
set_option linter.unusedVariables false
open Go Go.Proofs
set_option maxRecDepth 20000
set_option maxHeartbeats 4000000
namespace Go.Av
def ddAt (all : List PosD) (i : Nat) : List PosD := if i = 0 then dedup all else dedupGo (nth all (i - 1)) (all.drop i)
theorem ddAt_zero (all : List PosD) : ddAt all 0 = dedup all := rfl
theorem ddAt_end {all : List PosD} {i : Nat} (h : all.length ≤ i) : ddAt all i = [] := by
 unfold ddAt
 split
 ·cases all with
  | nil => rfl
  | cons a l => simp at h; omega
 ·rw [List.drop_eq_nil_of_le h]; rfl
theorem ddAt_keep {all : List PosD} {i : Nat} (h : i < all.length) (hk : i = 0 ∨ nth all i ≠ nth all (i - 1)) : ddAt all i = nth all i :: ddAt all (i + 1) := by
 unfold ddAt
 rw [if_neg (show ¬ i + 1 = 0 by omega), Nat.add_sub_cancel]
 split
 ·rename_i h0
  subst h0
  cases all with
  | nil => simp at h
  | cons a l => rfl
 ·rw [dropG_cons h, dedupGo, if_neg (by rcases hk with h | h; omega; exact h)]
theorem ddAt_skip {all : List PosD} {i : Nat} (h : i < all.length) (hi : i ≠ 0) (hk : nth all i = nth all (i - 1)) : ddAt all i = ddAt all (i + 1) := by
 unfold ddAt
 rw [if_neg (show ¬ i + 1 = 0 by omega), Nat.add_sub_cancel, if_neg hi, dropG_cons h, dedupGo, if_pos hk, hk]
theorem R4Sort_pure (l : List PosD) (hl : l.length ≤ 68719476736) (hf : ∀ p ∈ l, FitsP p) : Pure Tryz.prog 54 [encPs l] (encPs (sortU cmpP l)) := by
 have hH := half_pure l.length l (by omega) hl hf
 unfold sortU
 have fA : ∀ p ∈ sortC cmpP l, FitsP p := fun p hp => hf p (sortC_mem.1 hp)
 have lA : (sortC cmpP l).length = l.length := sortC_len l
 generalize sortC cmpP l = all at *
 generalize hR : dedup all = R
 refine Pure.of (ACallP.of_awp (by kernel_rfl) Tryz.func54 rfl rfl (Nat.le_of_ble_eq_true rfl) (by kernel_rfl) ?_)
 (repeat (first | with_reducible (first | refine wL fun _ => ?_ | refine wD fun _ => ?_ | refine wE ?_ | refine adrZ.go ?_) | simp [go_sem]))
 refine ACallP.plain hH (bel1 (bel_encPs _)) ?_
 (repeat (first | with_reducible (first | refine wL fun _ => ?_ | refine wD fun _ => ?_ | refine wE ?_ | refine adrZ.go ?_) | simp [go_sem]))
 refine ALoop.start (ALoop.ind (α := Nat × List PosD) (fun a => ⟨[(3, encPs all), (4, .sl 0 a.2.length 5 0 a.2.length), (5, .v (.int .i64 a.1))], [(0, .rows true a.2.length 5 (a.2.map encPos))], 1⟩)
  (fun d a => a.1 + d = all.length ∧ a.2.length ≤ a.1 ∧ R = a.2 ++ ddAt all a.1) ?_ all.length (0, []) ?_) ?_ ?_
 ·rintro d ⟨i, out⟩ ⟨i1, i2, i3⟩ hrec
  simp only at i1 i2 i3
  (repeat (first | with_reducible (first | refine wL fun _ => ?_ | refine wD fun _ => ?_ | refine wE ?_ | refine adrZ.go ?_) | simp [go_sem]))
  refine aIf.mkL (fun hi => ?_) (fun hi => ?_) <;> simp at hi
  ·by_cases h0 : i = 0
   ·rw [ddAt_keep hi (.inl h0)] at i3
    subst h0
    (repeat (first | with_reducible (first | refine wL fun _ => ?_ | refine wD fun _ => ?_ | refine wE ?_ | refine adrZ.go ?_) | simp [go_sem, hi]))
    try ((with_reducible refine adrZ.go ?_); (try simp [go_sem]))
    refine dGC.skip (.v (.bool true)) ?_
    (repeat (first | with_reducible (first | refine wL fun _ => ?_ | refine wD fun _ => ?_ | refine wE ?_ | refine adrZ.go ?_) | simp [go_sem, hi]))
    refine ALoop.start (hrec (d - 1) (by omega) (0 + 1, out ++ [nth all 0]) ⟨by simp only; omega, by simp only [List.length_append, List.length_singleton]; omega, by simpa using i3⟩) ?_ (by simp)
    simp [go_sem, Wk_eq]
   ·have fa := fA _ (nth_mem hi)
    have hi' : i - 1 < all.length := by omega
    have e1 : ((i : Int) - 1).toNat = i - 1 := by omega
    have fb := fA _ (nth_mem hi')
    (repeat (first | with_reducible (first | refine wL fun _ => ?_ | refine wD fun _ => ?_ | refine wE ?_ | refine adrZ.go ?_) | simp [go_sem, hi, h0, e1, hi']))
    try ((with_reducible refine adrZ.go ?_); (try simp [go_sem]))
    refine dGC.plain _ (fun _ => R4Same_pure _ _ fa fb) (by simp [go_sem]) ?_
    (repeat (first | with_reducible (first | refine wL fun _ => ?_ | refine wD fun _ => ?_ | refine wE ?_ | refine adrZ.go ?_) | simp [go_sem, hi, h0]))
    refine aIf.mkL (fun hc => ?_) (fun hc => ?_) <;> simp at hc
    ·rw [cmpP_eq] at hc
     rw [ddAt_keep hi (.inr hc)] at i3
     (repeat (first | with_reducible (first | refine wL fun _ => ?_ | refine wD fun _ => ?_ | refine wE ?_ | refine adrZ.go ?_) | simp [go_sem, hi]))
     refine ALoop.start (hrec (d - 1) (by omega) (i + 1, out ++ [nth all i]) ⟨by simp only; omega, by simp; omega, by simpa using i3⟩) ?_ (by simp)
     simp [go_sem, Wk_eq]
    ·rw [cmpP_eq] at hc
     rw [ddAt_skip hi h0 hc] at i3
     (repeat (first | with_reducible (first | refine wL fun _ => ?_ | refine wD fun _ => ?_ | refine wE ?_ | refine adrZ.go ?_) | simp [go_sem, hi]))
     refine ALoop.start (hrec (d - 1) (by omega) (i + 1, out) ⟨by simp only; omega, by simp only; omega, i3⟩) ?_ (by simp)
     simp [go_sem, Wk_eq]
  ·rw [ddAt_end hi] at i3
   (repeat (first | with_reducible (first | refine wL fun _ => ?_ | refine wD fun _ => ?_ | refine wE ?_ | refine adrZ.go ?_) | simp [go_sem]))
   rw [i3]
   (refine leV_frz rfl (by simp) (by simp [noH, upd]) ?_; first | (simp [go_sem]; done) | (simp [go_sem]; exact List.take_of_length_le (by simp)))
 ·simp [hR, ddAt_zero]
 ·simp [go_sem, Wk_eq]
 ·simp
end Go.Av
end
section
set_option linter.unusedSimpArgs false
set_option linter.unusedVariables false
open Go Go.Proofs
set_option maxRecDepth 20000
set_option maxHeartbeats 4000000
namespace Go.Av
def outsF (side : Int) (l : List StD) (n : Nat) : List OutD := ((l.take n).filterMap (putS side)).foldl (fun a x => insertO x a) []
@[go_sem] theorem outsF_zero (side : Int) (l : List StD) : outsF side l 0 = [] := rfl
theorem outsF_succ (side : Int) (l : List StD) {n : Nat} (h : n < l.length) : outsF side l (n + 1) = match putS side (nth l n) with | some o => insertO o (outsF side l n) | none => outsF side l n := by
 unfold outsF
 rw [fm_take _ _ _ h, List.foldl_append]
 cases putS side (nth l n) <;> rfl
theorem insertO_le (x : OutD) : ∀ l : List OutD, (insertO x l).length ≤ l.length + 1
 | [] => by simp [insertO]
 | y :: l => by
  rw [insertO]
  split
  ·have := insertO_le x l; simp; omega
  ·split <;> simp
theorem outsF_len (side : Int) (l : List StD) : ∀ n, n ≤ l.length → (outsF side l n).length ≤ n := by
 intro n
 induction n with
 | zero => intro _; simp [outsF]
 | succ n ih =>
  intro h
  have := ih (by omega)
  rw [outsF_succ side l (by omega)]
  split
  ·rename_i o _
   have := insertO_le o (outsF side l n)
   omega
  ·omega
theorem putS_fits {g : GameD} (hg : GOk g) {s : StD} (hs : StOk g s) {side : Int} {o : OutD} (h : putS side s = some o) : FitsP o.pos := by
 have hf := hs.p.fits hg
 unfold putS at h
 split at h
 ·simp only [Option.some.injEq] at h
  subst h
  obtain ⟨a, b, c⟩ := hf
  exact ⟨by unfold Fits at *; simpa using a, b, c⟩
 ·cases h
theorem outsF_fits {g : GameD} (hg : GOk g) {side : Int} {l : List StD} (hl : ∀ s ∈ l, StOk g s) : ∀ n, n ≤ l.length → ∀ o ∈ outsF side l n, FitsP o.pos := by
 intro n
 induction n with
 | zero => intro _ o ho; simp [outsF] at ho
 | succ n ih =>
  intro h o ho
  rw [outsF_succ side l (by omega)] at ho
  cases hp : putS side (nth l n) with
  | none => rw [hp] at ho; exact ih (by omega) o ho
  | some q =>
   rw [hp] at ho
   rcases insertO_mem.1 ho with rfl | ho
   ·exact putS_fits hg (hl _ (nth_mem (by omega))) hp
   ·exact ih (by omega) o ho
theorem outsF_all (g : GameD) (p : PosD) (cell i : Int) : outsF p.side (lastS g p cell (progOf g p cell i)) (lastS g p cell (progOf g p cell i)).length = runsP g p cell i := by
 unfold outsF runsP
 rw [List.take_length, insertO_all]
theorem R5Runs_pure (g : GameD) (hg : GOk g) (p : PosD) (hp : POk g p) (cell i : Int) (hc : ChoiceOk g p cell i) :
  Pure Tryz.prog 87 [.agg (encGame g), .agg (encPos p), .v (.int .i64 cell), .v (.int .i64 i)] (.tup [encOs (runsP g p cell i), .v (.int .i64 0)]) := by
 refine Pure.of (ACallP.of_awp (by kernel_rfl) Tryz.func87 rfl rfl (Nat.le_of_ble_eq_true rfl) (by kernel_rfl) ?_)
 have hRun := R5Run_pure g hg p hp cell i hc
 have hal := hp.al
 have hat := hp.at (i := cell.toNat) (by have := hc.c0; have := hc.c1; omega)
 have hkl : (manOf (nth p.at_ cell.toNat)).1.toNat < g.kinds.length := by
  have cm := hc.man
  rcases manOf_cases hat.1 hat.2 hg.k6 with ⟨_, e⟩ | ⟨_, a, b, _⟩
  ·rw [e] at cm; simp at cm
  ·omega
 have hil : i.toNat < (nth g.kinds (manOf (nth p.at_ cell.toNat)).1.toNat).progs.length := by have := hc.i0; have := hc.i1; omega
 have hpg := hg.pr _ (nth_mem hkl) _ (nth_mem hil)
 have hpe : progOf g p cell i = nth (nth g.kinds (manOf (nth p.at_ cell.toNat)).1.toNat).progs i.toNat := rfl
 rw [← hpe] at hpg
 have hst := stageS_ok hg hp hc.c0 hc.c1 hc.man hpg.st _ (Nat.le_refl _)
 have hlen := Nat.le_trans hst.2 (pow10_le hpg.len)
 have hstR := stR_len g p cell (progOf g p cell i) ((progOf g p cell i).length + 1)
 have hnS := nth_stR g p cell (progOf g p cell i) (n := (progOf g p cell i).length + 1) (j := (progOf g p cell i).length) (by omega)
 have hal' := outsF_all g p cell i
 rw [stageS_last] at hnS hlen hst
 have hps := hp.s
 obtain ⟨m, hm⟩ : ∃ m, m = (progOf g p cell i).length := ⟨_, rfl⟩
 have hm8 := hpg.len
 rw [← hm] at hRun hstR hnS hm8
 generalize stR g p cell (progOf g p cell i) (m + 1) = sr at *
 generalize lastS g p cell (progOf g p cell i) = last at *
 obtain ⟨R, hR⟩ : ∃ R, R = runsP g p cell i := ⟨_, rfl⟩
 rw [← hR] at hal' ⊢
 (repeat (first | with_reducible (first | refine wL fun _ => ?_ | refine wD fun _ => ?_ | refine wE ?_ | refine adrZ.go ?_) | simp [go_sem]))
 refine ACallP.plain hRun (by simp [go_sem]) ?_
 (repeat (first | with_reducible (first | refine wL fun _ => ?_ | refine wD fun _ => ?_ | refine wE ?_ | refine adrZ.go ?_) | simp [go_sem, hstR, hnS]))
 refine ALoop.start (ALoop.ind (α := Nat) (fun k => ⟨[(5, .ref 1 0 5 0 0), (11, encOs (outsF p.side last k)), (12, encSs last), (13, .v (.int .i64 k))], [(1, .rows true 0 5 [encPos p])], 2⟩)
  (fun d k => k + d = last.length) ?_ last.length 0 ?_) ?_ ?_
 ·rintro d k k1 hrec
  (repeat (first | with_reducible (first | refine wL fun _ => ?_ | refine wD fun _ => ?_ | refine wE ?_ | refine adrZ.go ?_) | simp [go_sem]))
  refine aIf.mkL (fun hk => ?_) (fun hk => ?_) <;> simp at hk
  ·have hsk := hst.1 _ (nth_mem hk)
   have hsu := outsF_succ p.side last hk
   have hol := outsF_len p.side last k (by omega)
   have hof := outsF_fits hg (fun s hs => (hst.1 s hs).1) (side := p.side) k (by omega)
   have hpf := fun o => putS_fits hg hsk.1 (side := p.side) (o := o)
   have hps' : putS p.side (nth last k) = if nth (nth last k).p.at_ (nth last k).cursor.toNat = 0 then some ⟨{ (nth last k).p with at_ := (nth last k).p.at_.set (nth last k).cursor.toNat (codeOf (nth last k).kind p.side), side := 1 - p.side }, (nth last k).took⟩ else none := rfl
   have hcp := copied_owns (nth last k).p (hsk.1.p.fits hg)
   have hal2 := hsk.1.p.al
   have hc0 := hsk.1.c0
   have hc1 := hsk.1.c1
   have hcc := R3Code_pure (nth last k).kind p.side
   have hcur : (nth last k).cursor.toNat < (nth last k).p.at_.length := by omega
   by_cases hz : nth (nth last k).p.at_ (nth last k).cursor.toNat = 0
   ·rw [if_pos hz] at hps'
    simp only [hps'] at hsu
    have hfo := hpf _ hps'
    have hIns := R5Insert_pure (outsF p.side last k) _ (by omega) hof hfo
    (repeat (first | with_reducible (first | refine wL fun _ => ?_ | refine wD fun _ => ?_ | refine wE ?_ | refine adrZ.go ?_) | simp [go_sem, hk, hcur, hz]))
    refine ACallP.ownsPlain hcp (by simp [go_sem]) ?_
    (repeat (first | with_reducible (first | refine wL fun _ => ?_ | refine wD fun _ => ?_ | refine wE ?_ | refine adrZ.go ?_) | simp [go_sem, hcur]))
    try ((with_reducible refine adrZ.go ?_); (try simp [go_sem]))
    refine dCall.plain hcc (by simp [go_sem]) ?_
    (repeat (first | with_reducible (first | refine wL fun _ => ?_ | refine wD fun _ => ?_ | refine wE ?_ | refine adrZ.go ?_) | simp [go_sem, hcur]))
    refine ACallP.pureF [5, 6, 11] hIns ?_ (by simp [go_sem]) ?_
    ·((try simp only [encOut, encState, encPos, encOs, encSs, encPs, encIs, List.nil_append, List.append_nil, List.cons_append]); (repeat (first | (with_reducible exact LeRow.nil) | (with_reducible refine LeRow.cons ?_ ?_) | (with_reducible exact LeV.refl _) | (with_reducible refine LeV.agg ?_) | ((refine leV_frz rfl (by simp) (by simp [frzO, frz1, upd, noH]) ?_); (first | (simp [go_sem]; done) | (simp [go_sem]; exact List.take_of_length_le (by simp)))))))
    ·rw [← hsu]
     (repeat (first | with_reducible (first | refine wL fun _ => ?_ | refine wD fun _ => ?_ | refine wE ?_ | refine adrZ.go ?_) | simp [go_sem]))
     refine ALoop.start (hrec (d - 1) (by omega) (k + 1) (by omega)) ?_ (by simp)
     simp [go_sem, Wk_eq, frzO, frz1, upd]
   ·rw [if_neg hz] at hps'
    simp only [hps'] at hsu
    (repeat (first | with_reducible (first | refine wL fun _ => ?_ | refine wD fun _ => ?_ | refine wE ?_ | refine adrZ.go ?_) | simp [go_sem, hk, hcur, hz]))
    refine ALoop.start (hrec (d - 1) (by omega) (k + 1) (by omega)) ?_ (by simp)
    simp [go_sem, Wk_eq, hsu]
  ·have hkl : k = last.length := by omega
   subst hkl
   rw [hal']
   (repeat (first | with_reducible (first | refine wL fun _ => ?_ | refine wD fun _ => ?_ | refine wE ?_ | refine adrZ.go ?_) | simp [go_sem]))
 ·omega
 ·simp [go_sem, Wk_eq]
  (refine leV_frz rfl (by simp) (by simp [noH, upd]) ?_; first | (simp [go_sem]; done) | (simp [go_sem]; exact List.take_of_length_le (by simp)))
 ·simp
end Go.Av
end
section
set_option linter.unusedSimpArgs false
set_option linter.unusedVariables false
open Go Go.Proofs
set_option maxRecDepth 20000
set_option maxHeartbeats 4000000
namespace Go.Av
def dropsK (g : GameD) (p : PosD) (k : Nat) : List PosD := (List.range k).flatMap fun k => (List.range p.at_.length).filterMap fun c => dropP g p k c
def dropsC (g : GameD) (p : PosD) (k c : Nat) : List PosD := dropsK g p k ++ (List.range c).filterMap fun c => dropP g p k c
theorem dropsC_all (g : GameD) (p : PosD) (k : Nat) : dropsC g p k p.at_.length = dropsK g p (k + 1) := by simp [dropsC, dropsK, List.range_succ, List.flatMap_append]
theorem dropsC_zero (g : GameD) (p : PosD) (k : Nat) : dropsC g p k 0 = dropsK g p k := by simp [dropsC]
theorem dropsC_succ (g : GameD) (p : PosD) (k c : Nat) : dropsC g p k (c + 1) = dropsC g p k c ++ (dropP g p k c).toList := by
 simp only [dropsC, List.range_succ, List.filterMap_append, List.append_assoc]
 cases h : dropP g p k c <;> simp [h]
theorem dropsK_all (g : GameD) (p : PosD) : dropsK g p g.kinds.length = dropsL g p := rfl
theorem flatMap_range_len {α : Type} (f : Nat → List α) (m : Nat) (hf : ∀ k, (f k).length ≤ m) : ∀ n, ((List.range n).flatMap f).length ≤ n * m
 | 0 => by simp
 | n + 1 => by
  have := flatMap_range_len f m hf n
  have := hf n
  simp only [List.range_succ, List.flatMap_append, List.length_append, List.flatMap_cons, List.flatMap_nil, List.append_nil, Nat.add_mul, Nat.one_mul]
  omega
theorem dropsK_len (g : GameD) (p : PosD) (k : Nat) : (dropsK g p k).length ≤ k * p.at_.length :=
 flatMap_range_len _ _ (fun k => Nat.le_trans (List.length_filterMap_le _ _) (by simp)) k
theorem dropsC_len (g : GameD) (p : PosD) (k c : Nat) : (dropsC g p k c).length ≤ k * p.at_.length + c := by
 have h1 := dropsK_len g p k
 have h2 : ((List.range c).filterMap fun c => dropP g p k c).length ≤ c := Nat.le_trans (List.length_filterMap_le _ _) (by simp)
 simp only [dropsC, List.length_append]
 omega
theorem dropP_ok {g : GameD} (hg : GOk g) {p : PosD} (hp : POk g p) {k c : Nat} (hk : k < g.kinds.length) {q : PosD} (h : dropP g p k c = some q) : POk g q ∧ q.side = 1 - p.side := by
 unfold dropP at h
 split at h
 ·cases h
 ·rename_i hc
  simp only [Option.some.injEq] at h
  subst h
  have k6 := hg.k6
  have hcode : codeOf k p.side = 1 + 2 * k + p.side := codeOf_ok (K := g.kinds.length) ⟨by omega, by omega⟩ k6 hp.s
  have hs := hp.s
  have hh := hp.hand p.side
  have hl := hh.len
  have hv := hh.v k (by omega)
  refine ⟨POk.side (POk.withHand (hp.setAt c (by rw [hcode]; omega)) _ (hh.set k ?_ ?_)) (by omega), rfl⟩
  ·simp only [not_or] at hc; omega
  ·intro _; exact hv.2.2 (by simp only [not_or] at hc; omega)
theorem R5Drops_pure (g : GameD) (hg : GOk g) (p : PosD) (hp : POk g p) : Pure Tryz.prog 53 [.agg (encGame g), .agg (encPos p)] (encPs (dropsP g p)) := by
 refine Pure.of (ACallP.of_awp (by kernel_rfl) Tryz.func53 rfl rfl (Nat.le_of_ble_eq_true rfl) (by kernel_rfl) ?_)
 have hal := hp.al
 have c9 := hg.c9
 have k6 := hg.k6
 have hcp := copied_owns p (hp.fits hg)
 obtain ⟨gk, hgk⟩ : ∃ gk, gk = g.kinds.length := ⟨_, rfl⟩
 have hl0 := hp.h0.len
 have hl1 := hp.h1.len
 (repeat (first | with_reducible (first | refine wL fun _ => ?_ | refine wD fun _ => ?_ | refine wE ?_ | refine adrZ.go ?_) | simp [go_sem]))
 refine ALoop.start (ALoop.ind (α := Nat) (fun k => ⟨[(2, .ref 0 0 9 0 0), (3, .ref 1 0 5 0 0), (5, .sl 2 (dropsK g p k).length 5 0 (dropsK g p k).length), (6, .v (.int .i64 k))], [(0, .rows true 0 9 [encGame g]), (1, .rows true 0 5 [encPos p]), (2, .rows true (dropsK g p k).length 5 ((dropsK g p k).map encPos))], 3⟩)
  (fun d k => k + d = g.kinds.length) ?_ g.kinds.length 0 ?_) ?_ ?_
 ·rintro d k k1 hrec
  (repeat (first | with_reducible (first | refine wL fun _ => ?_ | refine wD fun _ => ?_ | refine wE ?_ | refine adrZ.go ?_) | simp [go_sem]))
  refine aIf.mkL (fun hk => ?_) (fun hk => ?_) <;> simp at hk
  ·have hz := dropsC_zero g p k
   have ha := dropsC_all g p k
   (repeat (first | with_reducible (first | refine wL fun _ => ?_ | refine wD fun _ => ?_ | refine wE ?_ | refine adrZ.go ?_) | simp [go_sem]))
   refine ALoop.start (ALoop.ind (α := Nat) (fun c => ⟨[(2, .ref 0 0 9 0 0), (3, .ref 1 0 5 0 0), (5, .sl 2 (dropsC g p k c).length 5 0 (dropsC g p k c).length), (6, .v (.int .i64 k)), (7, .v (.int .i64 c))], [(0, .rows true 0 9 [encGame g]), (1, .rows true 0 5 [encPos p]), (2, .rows true (dropsC g p k c).length 5 ((dropsC g p k c).map encPos))], 3⟩)
    (fun d c => c + d = p.at_.length) ?_ p.at_.length 0 ?_) ?_ ?_
   ·rintro d2 c c1 hrec2
    (repeat (first | with_reducible (first | refine wL fun _ => ?_ | refine wD fun _ => ?_ | refine wE ?_ | refine adrZ.go ?_) | simp [go_sem]))
    refine aIf.mkL (fun hci => ?_) (fun hci => ?_) <;> simp at hci
    ·have hD : dropP g p k c = if nth (p.hand p.side) k = 0 ∨ nth p.at_ c ≠ 0 then none
      else some { ({ p with at_ := p.at_.set c (codeOf k p.side) }.withHand p.side ((p.hand p.side).set k (nth (p.hand p.side) k - 1))) with side := 1 - p.side } := rfl
     rcases hp.s with hsd | hsd
     ·have hsn : p.side.toNat = 0 := by omega
      have hkh : k < p.h0.length := by omega
      have hhv := hp.h0.v k hkh
      have hD' : dropP g p k c = if nth p.h0 k = 0 ∨ nth p.at_ c ≠ 0 then none else some { p with at_ := p.at_.set c (codeOf k p.side), h0 := p.h0.set k (nth p.h0 k - 1), side := 1 - p.side } := by
       rw [hD]; simp [PosD.hand, PosD.withHand, hsd]
      (repeat (first | with_reducible (first | refine wL fun _ => ?_ | refine wD fun _ => ?_ | refine wE ?_ | refine adrZ.go ?_) | simp [go_sem, hsn, hkh, hci]))
      refine aIf.mkL (fun hcc => ?_) (fun hcc => ?_) <;> simp at hcc
      ·rw [if_pos (by omega)] at hD'
       have hsu := dropsC_succ g p k c
       rw [hD'] at hsu
       simp only [Option.toList_none, List.append_nil] at hsu
       (repeat (first | with_reducible (first | refine wL fun _ => ?_ | refine wD fun _ => ?_ | refine wE ?_ | refine adrZ.go ?_) | simp [go_sem]))
       refine ALoop.start (hrec2 (d2 - 1) (by omega) (c + 1) (by omega)) ?_ (by simp)
       simp [go_sem, Wk_eq, hsu]
      ·rw [if_neg (by omega)] at hD'
       have hsu := dropsC_succ g p k c
       rw [hD'] at hsu
       simp only [Option.toList_some] at hsu
       have hcl := dropsC_len g p k c
       have hkm : k * p.at_.length ≤ 6 * 9 := Nat.mul_le_mul (by omega) (by omega)
       (repeat (first | with_reducible (first | refine wL fun _ => ?_ | refine wD fun _ => ?_ | refine wE ?_ | refine adrZ.go ?_) | simp [go_sem, hci]))
       refine ACallP.ownsPlain hcp (by simp [go_sem]) ?_
       (repeat (first | with_reducible (first | refine wL fun _ => ?_ | refine wD fun _ => ?_ | refine wE ?_ | refine adrZ.go ?_) | simp [go_sem, hci]))
       try ((with_reducible refine adrZ.go ?_); (try simp [go_sem]))
       refine dCall.plain (R3Code_pure (k : Int) p.side) (by simp [go_sem]) ?_
       (repeat (first | with_reducible (first | refine wL fun _ => ?_ | refine wD fun _ => ?_ | refine wE ?_ | refine adrZ.go ?_) | simp [go_sem, hsn, hci, hkh]))
       refine ALoop.start (hrec2 (d2 - 1) (by omega) (c + 1) (by omega)) ?_ (by simp)
       simp [go_sem, Wk_eq, hsu]
       ((refine leRows_append (.refl _) ?_); (repeat (first | (with_reducible exact LeRows.nil) | (with_reducible refine LeRows.cons ?_ ?_) | (with_reducible exact LeRow.nil) | (with_reducible refine LeRow.cons ?_ ?_) | (with_reducible exact LeV.refl _) | (refine leV_frz rfl (by simp) (by simp [noH, upd]) ?_; first | (simp [go_sem]; done) | (simp [go_sem]; exact List.take_of_length_le (by simp))))))
     ·have hsn : p.side.toNat = 1 := by omega
      have hkh : k < p.h1.length := by omega
      have hhv := hp.h1.v k hkh
      have hD' : dropP g p k c = if nth p.h1 k = 0 ∨ nth p.at_ c ≠ 0 then none else some { p with at_ := p.at_.set c (codeOf k p.side), h1 := p.h1.set k (nth p.h1 k - 1), side := 1 - p.side } := by
       rw [hD]; simp [PosD.hand, PosD.withHand, hsd]
      (repeat (first | with_reducible (first | refine wL fun _ => ?_ | refine wD fun _ => ?_ | refine wE ?_ | refine adrZ.go ?_) | simp [go_sem, hsn, hkh, hci]))
      refine aIf.mkL (fun hcc => ?_) (fun hcc => ?_) <;> simp at hcc
      ·rw [if_pos (by omega)] at hD'
       have hsu := dropsC_succ g p k c
       rw [hD'] at hsu
       simp only [Option.toList_none, List.append_nil] at hsu
       (repeat (first | with_reducible (first | refine wL fun _ => ?_ | refine wD fun _ => ?_ | refine wE ?_ | refine adrZ.go ?_) | simp [go_sem]))
       refine ALoop.start (hrec2 (d2 - 1) (by omega) (c + 1) (by omega)) ?_ (by simp)
       simp [go_sem, Wk_eq, hsu]
      ·rw [if_neg (by omega)] at hD'
       have hsu := dropsC_succ g p k c
       rw [hD'] at hsu
       simp only [Option.toList_some] at hsu
       have hcl := dropsC_len g p k c
       have hkm : k * p.at_.length ≤ 6 * 9 := Nat.mul_le_mul (by omega) (by omega)
       (repeat (first | with_reducible (first | refine wL fun _ => ?_ | refine wD fun _ => ?_ | refine wE ?_ | refine adrZ.go ?_) | simp [go_sem, hci]))
       refine ACallP.ownsPlain hcp (by simp [go_sem]) ?_
       (repeat (first | with_reducible (first | refine wL fun _ => ?_ | refine wD fun _ => ?_ | refine wE ?_ | refine adrZ.go ?_) | simp [go_sem, hci]))
       try ((with_reducible refine adrZ.go ?_); (try simp [go_sem]))
       refine dCall.plain (R3Code_pure (k : Int) p.side) (by simp [go_sem]) ?_
       (repeat (first | with_reducible (first | refine wL fun _ => ?_ | refine wD fun _ => ?_ | refine wE ?_ | refine adrZ.go ?_) | simp [go_sem, hsn, hci, hkh]))
       refine ALoop.start (hrec2 (d2 - 1) (by omega) (c + 1) (by omega)) ?_ (by simp)
       simp [go_sem, Wk_eq, hsu]
       ((refine leRows_append (.refl _) ?_); (repeat (first | (with_reducible exact LeRows.nil) | (with_reducible refine LeRows.cons ?_ ?_) | (with_reducible exact LeRow.nil) | (with_reducible refine LeRow.cons ?_ ?_) | (with_reducible exact LeV.refl _) | (refine leV_frz rfl (by simp) (by simp [noH, upd]) ?_; first | (simp [go_sem]; done) | (simp [go_sem]; exact List.take_of_length_le (by simp))))))
    ·have hcl : c = p.at_.length := by omega
     subst hcl
     rw [ha]
     (repeat (first | with_reducible (first | refine wL fun _ => ?_ | refine wD fun _ => ?_ | refine wE ?_ | refine adrZ.go ?_) | simp [go_sem]))
     refine ALoop.start (hrec (d - 1) (by omega) (k + 1) (by omega)) ?_ (by simp)
     simp [go_sem, Wk_eq]
   ·omega
   ·simp [go_sem, Wk_eq, hz]
   ·simp
  ·have hkl : k = g.kinds.length := by omega
   subst hkl
   have hdl := dropsK_len g p g.kinds.length
   have hkm : g.kinds.length * p.at_.length ≤ 6 * 9 := Nat.mul_le_mul k6 (by omega)
   have hS := R4Sort_pure (dropsK g p g.kinds.length) (by omega) (fun q hq => by
    rw [dropsK_all] at hq
    obtain ⟨k, hk, hq⟩ := List.mem_flatMap.1 hq
    obtain ⟨c, hc, hq⟩ := List.mem_filterMap.1 hq
    exact (dropP_ok hg hp (by simpa using hk) hq).1.fits hg)
   rw [show sortU cmpP (dropsK g p g.kinds.length) = dropsP g p from rfl] at hS
   generalize dropsK g p g.kinds.length = l at *
   generalize dropsP g p = r at *
   (repeat (first | with_reducible (first | refine wL fun _ => ?_ | refine wD fun _ => ?_ | refine wE ?_ | refine adrZ.go ?_) | simp [go_sem]))
   refine ACallP.pureF [2] hS ?_ (bel1 (bel_encPs _)) ?_
   ·((try simp only [encOut, encState, encPos, encOs, encSs, encPs, encIs, List.nil_append, List.append_nil, List.cons_append]); (repeat (first | (with_reducible exact LeRow.nil) | (with_reducible refine LeRow.cons ?_ ?_) | (with_reducible exact LeV.refl _) | (with_reducible refine LeV.agg ?_) | ((refine leV_frz rfl (by simp) (by simp [frzO, frz1, upd, noH]) ?_); (first | (simp [go_sem]; done) | (simp [go_sem]; exact List.take_of_length_le (by simp)))))))
   ·(repeat (first | with_reducible (first | refine wL fun _ => ?_ | refine wD fun _ => ?_ | refine wE ?_ | refine adrZ.go ?_) | simp [go_sem]))
 ·omega
 ·simp [go_sem, Wk_eq, show dropsK g p 0 = [] from rfl]
 ·simp
end Go.Av
end
section
set_option linter.unusedSimpArgs false
set_option linter.unusedVariables false
open Go Go.Proofs
namespace Go.Av
theorem kind_lt {g : GameD} (hg : GOk g) {p : PosD} (hp : POk g p) {cell : Int} (h0 : 0 ≤ cell) (h1 : cell < g.cells) (hm : 0 ≤ (manOf (nth p.at_ cell.toNat)).1) :
  (manOf (nth p.at_ cell.toNat)).1.toNat < g.kinds.length := by
 have hat := hp.at (i := cell.toNat) (by omega)
 rcases manOf_cases hat.1 hat.2 hg.k6 with ⟨_, e⟩ | ⟨_, a, b, _⟩
 ·rw [e] at hm; simp at hm
 ·omega
theorem prog_ok {g : GameD} (hg : GOk g) {p : PosD} (hp : POk g p) {cell i : Int} (hc : ChoiceOk g p cell i) : ProgOk g.next.length g.kinds.length g.rights (progOf g p cell i) :=
 hg.pr _ (nth_mem (kind_lt hg hp hc.c0 hc.c1 hc.man)) _ (nth_mem (by have := hc.i0; have := hc.i1; omega))
theorem lastS_ok {g : GameD} (hg : GOk g) {p : PosD} (hp : POk g p) {cell i : Int} (hc : ChoiceOk g p cell i) :
  (∀ s ∈ lastS g p cell (progOf g p cell i), StOk g s ∧ s.p.side = p.side) ∧ (lastS g p cell (progOf g p cell i)).length ≤ 100000000 := by
 have hpg := prog_ok hg hp hc
 have h := stageS_ok hg hp hc.c0 hc.c1 hc.man hpg.st _ (Nat.le_refl _)
 rw [stageS_last] at h
 exact ⟨h.1, Nat.le_trans h.2 (pow10_le hpg.len)⟩
theorem putS_ok {g : GameD} (hg : GOk g) {s : StD} (hs : StOk g s) {side : Int} (hsd : side = 0 ∨ side = 1) {o : OutD} (h : putS side s = some o) : POk g o.pos ∧ o.pos.side = 1 - side := by
 unfold putS at h
 split at h
 ·simp only [Option.some.injEq] at h
  subst h
  have hc : codeOf s.kind side = 1 + 2 * s.kind + side := codeOf_ok (K := g.kinds.length) hs.k hg.k6 hsd
  have hk := hs.k
  exact ⟨POk.side (hs.p.setAt _ (by rw [hc]; omega)) (by omega), rfl⟩
 ·cases h
theorem runsP_ok {g : GameD} (hg : GOk g) {p : PosD} (hp : POk g p) {cell i : Int} (hc : ChoiceOk g p cell i) : ∀ o ∈ runsP g p cell i, POk g o.pos ∧ o.pos.side = 1 - p.side := by
 intro o ho
 unfold runsP at ho
 rw [sortU_mem] at ho
 obtain ⟨s, hs, h⟩ := List.mem_filterMap.1 ho
 exact putS_ok hg ((lastS_ok hg hp hc).1 s hs).1 hp.s h
theorem runsP_len {g : GameD} (hg : GOk g) {p : PosD} (hp : POk g p) {cell i : Int} (hc : ChoiceOk g p cell i) : (runsP g p cell i).length ≤ 100000000 := by
 unfold runsP
 have h1 := sortU_le cmpO ((lastS g p cell (progOf g p cell i)).filterMap (putS p.side))
 have h2 : ((lastS g p cell (progOf g p cell i)).filterMap (putS p.side)).length ≤ (lastS g p cell (progOf g p cell i)).length := List.length_filterMap_le _ _
 have h3 := (lastS_ok hg hp hc).2
 omega
theorem choice_of {g : GameD} {p : PosD} {c i : Nat} (hp : POk g p) (hc : c < p.at_.length) (hm : 0 ≤ (manOf (nth p.at_ c)).1 ∧ (manOf (nth p.at_ c)).2 = p.side)
  (hi : i < (nth g.kinds (manOf (nth p.at_ c)).1.toNat).progs.length) : ChoiceOk g p c i := by
 have := hp.al
 exact ⟨by omega, by omega, hm.1, hm.2, by omega, by simp only [Int.toNat_natCast]; omega⟩
theorem mem_outsP {g : GameD} {p : PosD} (hp : POk g p) {o : OutD} : o ∈ outsP g p ↔ ∃ c i : Nat, ChoiceOk g p c i ∧ o ∈ runsP g p c i := by
 have hal := hp.al
 unfold outsP
 rw [List.mem_flatMap]
 constructor
 ·rintro ⟨c, hc, ho⟩
  rw [List.mem_range] at hc
  unfold outsAt at ho
  split at ho
  ·rename_i hm
   obtain ⟨i, hi, ho⟩ := List.mem_flatMap.1 ho
   rw [List.mem_range] at hi
   exact ⟨c, i, choice_of hp hc hm hi, ho⟩
  ·simp at ho
 ·rintro ⟨c, i, hc, ho⟩
  refine ⟨c, ?_, ?_⟩
  ·have := hc.c1; rw [List.mem_range]; omega
  ·have h1 := hc.man
   have h2 := hc.side
   have h3 := hc.i1
   simp only [Int.toNat_natCast] at h1 h2 h3
   unfold outsAt
   rw [if_pos ⟨h1, h2⟩]
   exact List.mem_flatMap.2 ⟨i, by rw [List.mem_range]; omega, ho⟩
theorem outsP_ok {g : GameD} (hg : GOk g) {p : PosD} (hp : POk g p) : ∀ o ∈ outsP g p, POk g o.pos ∧ o.pos.side = 1 - p.side := by
 intro o ho
 obtain ⟨c, i, hc, ho⟩ := (mem_outsP hp).1 ho
 exact runsP_ok hg hp hc o ho
theorem flatMap_range_le {α : Type} (f : Nat → List α) (m : Nat) : ∀ n, (∀ k, k < n → (f k).length ≤ m) → ((List.range n).flatMap f).length ≤ n * m
 | 0, _ => by simp
 | n + 1, hf => by
  have := flatMap_range_le f m n (fun k hk => hf k (by omega))
  have := hf n (by omega)
  simp only [List.range_succ, List.flatMap_append, List.length_append, List.flatMap_cons, List.flatMap_nil, List.append_nil, Nat.add_mul, Nat.one_mul]
  omega
theorem outsAt_len {g : GameD} (hg : GOk g) {p : PosD} (hp : POk g p) {c : Nat} (hc : c < p.at_.length) : (outsAt g p c).length ≤ 800000000 := by
 unfold outsAt
 split
 ·rename_i hm
  have hal := hp.al
  have hk := kind_lt hg hp (cell := c) (by omega) (by omega) (by simpa using hm.1)
  simp only [Int.toNat_natCast] at hk
  have h8 := hg.pn _ (nth_mem hk)
  have h1 := flatMap_range_le (fun (i : Nat) => runsP g p c i) 100000000 (nth g.kinds (manOf (nth p.at_ c)).1.toNat).progs.length (fun i hi => runsP_len hg hp (choice_of hp hc hm hi))
  have h2 : (nth g.kinds (manOf (nth p.at_ c)).1.toNat).progs.length * 100000000 ≤ 8 * 100000000 := Nat.mul_le_mul_right _ h8
  omega
 ·simp
theorem outsK_len {g : GameD} (hg : GOk g) {p : PosD} (hp : POk g p) {k : Nat} (hk : k ≤ p.at_.length) : ((List.range k).flatMap (outsAt g p)).length ≤ 7200000000 := by
 have hal := hp.al
 have c9 := hg.c9
 have h1 := flatMap_range_le (outsAt g p) 800000000 k (fun c hc => outsAt_len hg hp (by omega))
 have h2 : k * 800000000 ≤ 9 * 800000000 := Nat.mul_le_mul_right _ (by omega)
 omega
theorem outsP_len {g : GameD} (hg : GOk g) {p : PosD} (hp : POk g p) : (outsP g p).length ≤ 7200000000 := outsK_len hg hp (Nat.le_refl _)
theorem dropsP_ok {g : GameD} (hg : GOk g) {p : PosD} (hp : POk g p) : ∀ q ∈ dropsP g p, POk g q ∧ q.side = 1 - p.side := by
 intro q hq
 unfold dropsP at hq
 rw [sortU_mem] at hq
 obtain ⟨k, hk, hq⟩ := List.mem_flatMap.1 hq
 obtain ⟨c, hc, hq⟩ := List.mem_filterMap.1 hq
 exact dropP_ok hg hp (by simpa using hk) hq
theorem dropsP_len {g : GameD} (hg : GOk g) {p : PosD} (hp : POk g p) : (dropsP g p).length ≤ 54 := by
 have h1 := sortU_le cmpP (dropsL g p)
 have h2 := dropsK_len g p g.kinds.length
 rw [dropsK_all] at h2
 have hal := hp.al
 have c9 := hg.c9
 have h3 : g.kinds.length * p.at_.length ≤ 6 * 9 := Nat.mul_le_mul hg.k6 (by omega)
 unfold dropsP
 omega
theorem movesL_ok {g : GameD} (hg : GOk g) {p : PosD} (hp : POk g p) : ∀ q ∈ movesL g p, POk g q ∧ q.side = 1 - p.side := by
 intro q hq
 unfold movesL at hq
 rcases List.mem_append.1 hq with hq | hq
 ·obtain ⟨o, ho, rfl⟩ := List.mem_map.1 hq
  exact outsP_ok hg hp o (List.mem_filter.1 ho).1
 ·split at hq
  ·simp at hq
  ·exact dropsP_ok hg hp q hq
theorem movesL_len {g : GameD} (hg : GOk g) {p : PosD} (hp : POk g p) : (movesL g p).length ≤ 7200000054 := by
 have h1 := outsP_len hg hp
 have h2 := dropsP_len hg hp
 have h3 : ((outsP g p).filter fun o => !mustP g p || o.took).length ≤ (outsP g p).length := List.length_filter_le _ _
 unfold movesL
 rw [List.length_append, List.length_map]
 split <;> simp <;> omega
theorem movesP_ok {g : GameD} (hg : GOk g) {p : PosD} (hp : POk g p) : ∀ q ∈ movesP g p, POk g q ∧ q.side = 1 - p.side := by
 intro q hq
 unfold movesP at hq
 split at hq
 ·simp at hq
 ·exact movesL_ok hg hp q (sortU_mem.1 hq)
theorem movesP_len {g : GameD} (hg : GOk g) {p : PosD} (hp : POk g p) : (movesP g p).length ≤ 7200000054 := by
 unfold movesP
 split
 ·simp
 ·exact Nat.le_trans (sortU_le _ _) (movesL_len hg hp)
theorem walkP_ok {g : GameD} (hg : GOk g) : ∀ (l : List Int) {p : PosD}, POk g p → ∀ q ∈ walkP g p l, POk g q
 | [], p, hp, q, hq => by simp [walkP] at hq; subst hq; exact hp
 | k :: l, p, hp, q, hq => by
  rw [walkP] at hq
  split at hq
  ·simp at hq; subst hq; exact hp
  ·rename_i hne
   rcases List.mem_cons.1 hq with rfl | hq
   ·exact hp
   ·refine walkP_ok hg l ((movesP_ok hg hp) _ (nth_mem ?_)).1 q hq
    have hpos : 0 < (movesP g p).length := List.length_pos_iff.2 hne
    have h1 : 0 ≤ k.emod (movesP g p).length := Int.emod_nonneg k (show ((movesP g p).length : Int) ≠ 0 by omega)
    have h2 : k.emod (movesP g p).length < (movesP g p).length := Int.emod_lt_of_pos k (show (0 : Int) < (movesP g p).length by omega)
    omega
theorem walkP_ne (g : GameD) (p : PosD) (l : List Int) : walkP g p l ≠ [] := by
 cases l with
 | nil => simp [walkP]
 | cons k l => rw [walkP]; split <;> simp
theorem walkP_len (g : GameD) : ∀ (l : List Int) (p : PosD), (walkP g p l).length ≤ l.length + 1
 | [], p => by simp [walkP]
 | k :: l, p => by
  rw [walkP]
  split
  ·simp
  ·have := walkP_len g l (nth (movesP g p) (k.emod (movesP g p).length).toNat)
   simp; omega
end Go.Av
end
section
set_option linter.unusedSimpArgs false
set_option linter.unusedVariables false
open Go Go.Proofs
set_option maxRecDepth 20000
set_option maxHeartbeats 4000000
namespace Go.Av
theorem CloneP_owns (l : List PosD) (hl : l.length ≤ 17179869184) : Owns Tryz.prog 93 [encPs l] (fun n => .sl n 1 5 0 l.length) (fun n => [(n, .rows true 1 5 (l.map encPos))]) 1 := by
 refine ⟨?_, fun n => ⟨by simp [go_sem], by simp [go_sem]⟩⟩
 refine ACallP.emp (fun hne => ?_) (fun he A c => ?_)
 ·obtain ⟨x, l, rfl⟩ := List.exists_cons_of_ne_nil (show l ≠ [] by intro h; subst h; exact hne rfl)
  simp only [List.length_cons] at hl
  refine ACallP.of_awp (by kernel_rfl) Tryz.func93 rfl rfl (Nat.le_of_ble_eq_true rfl) (by kernel_rfl) ?_
  (repeat (first | with_reducible (first | refine wL fun _ => ?_ | refine wD fun _ => ?_ | refine wE ?_ | refine adrZ.go ?_) | simp [go_sem]))
  simp [go_sem, Wk_eq]
 ·obtain rfl : l = [] := by simpa using he
  refine ACallP.of_awp (by kernel_rfl) Tryz.func93 rfl rfl (Nat.le_of_ble_eq_true rfl) (by kernel_rfl) ?_
  (repeat (first | with_reducible (first | refine wL fun _ => ?_ | refine wD fun _ => ?_ | refine wE ?_ | refine adrZ.go ?_) | simp [go_sem]))
  refine aIf.mkL (fun h => ?_) (fun h => ?_)
  ·simp at h
   subst h
   simp [go_sem, Wk_eq]
  ·simp [go_sem, Wk_eq]
theorem pSort_pure (l : List PosD) (hl : l.length ≤ 17179869184) (hf : ∀ p ∈ l, FitsP p) : Pure Tryz.prog 60 [encPs l] (encPs (sortU cmpP l)) := by
 refine Pure.of (ACallP.of_awp (by kernel_rfl) Tryz.func60 rfl rfl (Nat.le_of_ble_eq_true rfl) (by kernel_rfl) ?_)
 have hC := CloneP_owns l hl
 (repeat (first | with_reducible (first | refine wL fun _ => ?_ | refine wD fun _ => ?_ | refine wE ?_ | refine adrZ.go ?_) | simp [go_sem]))
 refine ACallP.ownsPlain hC (by simp [go_sem]) ?_
 (repeat (first | with_reducible (first | refine wL fun _ => ?_ | refine wD fun _ => ?_ | refine wE ?_ | refine adrZ.go ?_) | simp [go_sem]))
 refine sortP_call l hf (by omega) (o := 0) (gn := 1) (by simp [upd]) ?_
 (repeat (first | with_reducible (first | refine wL fun _ => ?_ | refine wD fun _ => ?_ | refine wE ?_ | refine adrZ.go ?_) | simp [go_sem]))
 refine compactP_call2 (sortC cmpP l) 1 l.length (sortC_len l) (by omega) (fun p hp => hf p (sortC_mem.1 hp)) (o := 0) (by simp [upd]) (by omega) ?_
 (repeat (first | with_reducible (first | refine wL fun _ => ?_ | refine wD fun _ => ?_ | refine wE ?_ | refine adrZ.go ?_) | simp [go_sem]))
 exact leV_frz rfl (by simp) (by simp [noH, upd]) (by rw [List.drop_zero]; exact List.take_left' (by simp))
theorem rRun_call (g : GameD) (hg : GOk g) (p : PosD) (hp : POk g p) (cell i : Int) (hc : ChoiceOk g p cell i) {h : Heap} {n a b : Nat} (hd : [a, b].Nodup) (hlt : ∀ j ∈ [a, b], j < n)
  (ha : h a = some (.rows true 0 5 [encPos p])) (hb : h b = some (.rows true 0 1 [[AV.nils]])) {K : CallK}
  (hK : K (.v (.int .i64 0)) (upd (upd (upd h a (some (.rows true 0 5 [encPos p]))) b (some (.rows true 0 1 [[.sl (n + 245) (lastO g p cell i).length 6 0 (lastO g p cell i).length]]))) (n + 245) (some (.rows true (lastO g p cell i).length 6 ((lastO g p cell i).map encOut)))) (n + 246)) :
  ACallP Tryz.prog 98 [.agg (encGame g), .agg (encPos p), .v (.int .i64 cell), .v (.int .i64 i), .fn (.func 99) [] [.ref a 0 5 0 0, .ref b 0 1 0 0]] h n K := by
 have hbg : ∀ m, Bel m (.agg (encGame g)) := fun m => by simp [go_sem]
 have hbp : ∀ m, ∀ c ∈ encPos p, Bel m c := fun m => by simp [go_sem]
 have hbq : ∀ m, Bel m (.agg (encPos p)) := fun m => by simp [go_sem]
 have han := hlt a (by simp)
 have hbn := hlt b (by simp)
 have hrows : ∀ m, ∀ r ∈ [encPos p], ∀ c ∈ r, Bel m c := fun m r hr => by simp only [List.mem_singleton] at hr; subst hr; exact hbp m
 refine ACallP.ownsA (args' := [.agg (encGame g), .agg (encPos p), .v (.int .i64 cell), .v (.int .i64 i), .fn (.func 99) [] [.ref a 0 5 0 0, .ref b 0 1 0 0]])
  (HH := [(a, .rows true 0 5 [encPos p]), (b, .rows true 0 1 [[.sl (n + 245) (lastO g p cell i).length 6 0 (lastO g p cell i).length]]), (n + 245, .rows true (lastO g p cell i).length 6 ((lastO g p cell i).map encOut))])
  [a, b] h (run_owns g hg p hp cell i hc) hd hlt rfl (by omega) (.refl _) ?_ ?_ (.refl _ _ _ _) ?_ ?_ ?_ (.same (.v _)) ?_ ?_
 ·intro j hj
  rcases (show j = 0 ∨ j = 1 by omega) with rfl | rfl
  ·exact ⟨_, _, rfl, ha, .rows (.same (hrows _))⟩
  ·exact ⟨_, _, rfl, hb, .rows (.same (by simp [go_sem]))⟩
 ·intro q hq
  simp only [List.mem_cons, List.not_mem_nil, or_false] at hq
  rcases hq with rfl | rfl
  ·exact ⟨Nat.le_of_ble_eq_true rfl, hrows _⟩
  ·exact ⟨Nat.le_of_ble_eq_true rfl, by simp [go_sem, BelO]⟩
 ·simp [go_sem, han, hbn]
 ·exact .cons (.same (hbg _)) (.cons (.same (hbq _)) (.cons (.same (.v _)) (.cons (.same (.v _)) (.cons (.fn .nil (.cons (.ref rfl) (.cons (.ref rfl) .nil))) .nil))))
 ·simp [go_sem]
 ·exact .cons rfl (.rows (.same (hrows _))) (.cons rfl (.rows (.cons (.cons (.sl rfl) .nil) .nil)) (.cons rfl (.rows (.same (bel_map_out _))) .nil))
 ·have e : over [(a, .rows true 0 5 [encPos p]), (b, .rows true 0 1 [[.sl (n + 245) (lastO g p cell i).length 6 0 (lastO g p cell i).length]]), (n + 245, .rows true (lastO g p cell i).length 6 ((lastO g p cell i).map encOut))] (remH [a, b] h) =
    upd (upd (upd h a (some (.rows true 0 5 [encPos p]))) b (some (.rows true 0 1 [[.sl (n + 245) (lastO g p cell i).length 6 0 (lastO g p cell i).length]]))) (n + 245) (some (.rows true (lastO g p cell i).length 6 ((lastO g p cell i).map encOut))) := by
   simp only [List.nodup_cons, List.mem_cons, List.not_mem_nil, or_false, not_or, List.nodup_nil, and_true, not_false_eq_true] at hd
   have na : a ≠ n + 245 := by omega
   have nb : b ≠ n + 245 := by omega
   funext j
   simp only [over, remH, upd]
   by_cases j1 : j = a
   ·subst j1; simp [hd, na]
   ·by_cases j2 : j = b
    ·subst j2; simp [j1, nb]
    ·by_cases j3 : j = n + 245
     ·subst j3; simp [j1, j2]
     ·simp [j1, j2, j3]
  rw [e]
  exact hK
theorem rRuns_pure (g : GameD) (hg : GOk g) (p : PosD) (hp : POk g p) (cell i : Int) (hc : ChoiceOk g p cell i) :
  Pure Tryz.prog 65 [.agg (encGame g), .agg (encPos p), .v (.int .i64 cell), .v (.int .i64 i)] (.tup [encOs (runsP g p cell i), .v (.int .i64 0)]) := by
 refine Pure.of (ACallP.of_awp (by kernel_rfl) Tryz.func65 rfl rfl (Nat.le_of_ble_eq_true rfl) (by kernel_rfl) ?_)
 have hl := (lastS_ok hg hp hc)
 have hll : (lastO g p cell i).length ≤ 100000000 := Nat.le_trans (List.length_filterMap_le _ _) hl.2
 have hf : ∀ o ∈ lastO g p cell i, FitsP o.pos := by
  intro o ho
  obtain ⟨s, hs, h⟩ := List.mem_filterMap.1 ho
  exact (putS_ok hg (hl.1 s hs).1 hp.s h).1.fits hg
 have hr : runsP g p cell i = sortU cmpO (lastO g p cell i) := rfl
 rw [hr]
 (repeat (first | with_reducible (first | refine wL fun _ => ?_ | refine wD fun _ => ?_ | refine wE ?_ | refine adrZ.go ?_) | simp [go_sem]))
 refine rRun_call g hg p hp cell i hc (a := 1) (b := 2) (by decide) (by simp) (by simp [upd, encPos, encIs]) (by simp [upd]) ?_
 generalize lastO g p cell i = l at *
 (repeat (first | with_reducible (first | refine wL fun _ => ?_ | refine wD fun _ => ?_ | refine wE ?_ | refine adrZ.go ?_) | simp [go_sem]))
 refine sortR_call l hf (by omega) (o := 248) (gn := l.length) (by simp [upd]) ?_
 (repeat (first | with_reducible (first | refine wL fun _ => ?_ | refine wD fun _ => ?_ | refine wE ?_ | refine adrZ.go ?_) | simp [go_sem]))
 refine compactR_call2 (sortC cmpO l) l.length l.length (sortC_len l) (by omega) (fun o ho => hf o (sortC_mem.1 ho)) (o := 248) (by simp [upd]) (by omega) ?_
 (repeat (first | with_reducible (first | refine wL fun _ => ?_ | refine wD fun _ => ?_ | refine wE ?_ | refine adrZ.go ?_) | simp [go_sem]))
 exact leV_frz rfl (by simp) (by simp [noH, upd]) (by rw [List.drop_zero]; exact List.take_left' (by simp))
end Go.Av
end
section
set_option linter.unusedSimpArgs false
set_option linter.unusedVariables false
open Go Go.Proofs
set_option maxRecDepth 20000
set_option maxHeartbeats 4000000
namespace Go.Av
theorem rDrops_pure (g : GameD) (hg : GOk g) (p : PosD) (hp : POk g p) : Pure Tryz.prog 31 [.agg (encGame g), .agg (encPos p)] (encPs (dropsP g p)) := by
 refine Pure.of (ACallP.of_awp (by kernel_rfl) Tryz.func31 rfl rfl (Nat.le_of_ble_eq_true rfl) (by kernel_rfl) ?_)
 have hal := hp.al
 have c9 := hg.c9
 have k6 := hg.k6
 have hcp := own_owns ⟨p, 0, 0, false⟩ (hp.fits hg)
 have hl0 := hp.h0.len
 have hl1 := hp.h1.len
 have hps := hp.s
 rcases hp.s with hsd | hsd
 ·have hsn : p.side.toNat = 0 := by omega
  (repeat (first | with_reducible (first | refine wL fun _ => ?_ | refine wD fun _ => ?_ | refine wE ?_ | refine adrZ.go ?_) | simp [go_sem, hsn, hsd]))
  refine ALoop.start (ALoop.ind (α := Nat) (fun k => ⟨[(3, .ref 1 0 5 0 0), (5, .sl 2 (dropsK g p k).length 5 0 (dropsK g p k).length), (15, encIs p.h0), (16, .v (.int .i64 p.h0.length)), (17, .v (.int .i64 k))], [(1, .rows true 0 5 [encPos p]), (2, .rows true (dropsK g p k).length 5 ((dropsK g p k).map encPos))], 3⟩)
   (fun d k => k + d = g.kinds.length) ?_ g.kinds.length 0 ?_) ?_ ?_
  ·rintro d k k1 hrec
   (repeat (first | with_reducible (first | refine wL fun _ => ?_ | refine wD fun _ => ?_ | refine wE ?_ | refine adrZ.go ?_) | simp [go_sem]))
   refine aIf.mkL (fun hk => ?_) (fun hk => ?_) <;> simp at hk
   ·have hz := dropsC_zero g p k
    have ha := dropsC_all g p k
    have hkh : k < p.h0.length := by omega
    have hhv := hp.h0.v k hkh
    (repeat (first | with_reducible (first | refine wL fun _ => ?_ | refine wD fun _ => ?_ | refine wE ?_ | refine adrZ.go ?_) | simp [go_sem, hkh]))
    refine ALoop.start (ALoop.ind (α := Nat) (fun c => ⟨[(3, .ref 1 0 5 0 0), (5, .sl 2 (dropsC g p k c).length 5 0 (dropsC g p k c).length), (6, .v (.int .i64 k)), (7, .v (.int .i64 (nth p.h0 k))), (15, encIs p.h0), (16, .v (.int .i64 p.h0.length)), (17, .v (.int .i64 k)), (23, encIs p.at_), (24, .v (.int .i64 p.at_.length)), (25, .v (.int .i64 c))], [(1, .rows true 0 5 [encPos p]), (2, .rows true (dropsC g p k c).length 5 ((dropsC g p k c).map encPos))], 3⟩)
     (fun d c => c + d = p.at_.length) ?_ p.at_.length 0 ?_) ?_ ?_
    ·rintro d2 c c1 hrec2
     (repeat (first | with_reducible (first | refine wL fun _ => ?_ | refine wD fun _ => ?_ | refine wE ?_ | refine adrZ.go ?_) | simp [go_sem]))
     refine aIf.mkL (fun hci => ?_) (fun hci => ?_) <;> simp at hci
     ·have hD : dropP g p k c = if nth (p.hand p.side) k = 0 ∨ nth p.at_ c ≠ 0 then none
       else some { ({ p with at_ := p.at_.set c (codeOf k p.side) }.withHand p.side ((p.hand p.side).set k (nth (p.hand p.side) k - 1))) with side := 1 - p.side } := rfl
      have hD' : dropP g p k c = if nth p.h0 k = 0 ∨ nth p.at_ c ≠ 0 then none else some { p with at_ := p.at_.set c (codeOf k p.side), h0 := p.h0.set k (nth p.h0 k - 1), side := 1 - p.side } := by
       rw [hD]; simp [PosD.hand, PosD.withHand, hsd]
      have hCd := gCode_pure (k : Int) p.side
      rw [hsd] at hCd hD'
      (repeat (first | with_reducible (first | refine wL fun _ => ?_ | refine wD fun _ => ?_ | refine wE ?_ | refine adrZ.go ?_) | simp [go_sem, hci]))
      refine aIf.mkL (fun hcc => ?_) (fun hcc => ?_) <;> simp at hcc
      ·rw [if_pos (by omega)] at hD'
       have hsu := dropsC_succ g p k c
       rw [hD'] at hsu
       simp only [Option.toList_none, List.append_nil] at hsu
       (repeat (first | with_reducible (first | refine wL fun _ => ?_ | refine wD fun _ => ?_ | refine wE ?_ | refine adrZ.go ?_) | simp [go_sem]))
       refine ALoop.start (hrec2 (d2 - 1) (by omega) (c + 1) (by omega)) ?_ (by simp)
       simp [go_sem, Wk_eq, hsd, hsu]
      ·rw [if_neg (by omega)] at hD'
       have hsu := dropsC_succ g p k c
       rw [hD'] at hsu
       simp only [Option.toList_some] at hsu
       have hcl := dropsC_len g p k c
       have hkm : k * p.at_.length ≤ 6 * 9 := Nat.mul_le_mul (by omega) (by omega)
       (repeat (first | with_reducible (first | refine wL fun _ => ?_ | refine wD fun _ => ?_ | refine wE ?_ | refine adrZ.go ?_) | simp [go_sem, hci]))
       refine ACallP.ownsPlain hcp (by simp [go_sem]) ?_
       (repeat (first | with_reducible (first | refine wL fun _ => ?_ | refine wD fun _ => ?_ | refine wE ?_ | refine adrZ.go ?_) | simp [go_sem, hci, hsd]))
       try ((with_reducible refine adrZ.go ?_); (try simp [go_sem]))
       refine dCall.plain hCd (by simp [go_sem]) ?_
       (repeat (first | with_reducible (first | refine wL fun _ => ?_ | refine wD fun _ => ?_ | refine wE ?_ | refine adrZ.go ?_) | simp [go_sem, hsn, hsd, hci, hkh]))
       refine ALoop.start (hrec2 (d2 - 1) (by omega) (c + 1) (by omega)) ?_ (by simp)
       simp [go_sem, Wk_eq, hsd, hsu]
       ((refine leRows_append (.refl _) ?_); (repeat (first | (with_reducible exact LeRows.nil) | (with_reducible refine LeRows.cons ?_ ?_) | (with_reducible exact LeRow.nil) | (with_reducible refine LeRow.cons ?_ ?_) | (with_reducible exact LeV.refl _) | (refine leV_frz rfl (by simp) (by simp [noH, upd]) ?_; first | (simp [go_sem]; done) | (simp [go_sem]; exact List.take_of_length_le (by simp))))))
     ·have hcl : c = p.at_.length := by omega
      subst hcl
      rw [ha]
      (repeat (first | with_reducible (first | refine wL fun _ => ?_ | refine wD fun _ => ?_ | refine wE ?_ | refine adrZ.go ?_) | simp [go_sem]))
      refine ALoop.start (hrec (d - 1) (by omega) (k + 1) (by omega)) ?_ (by simp)
      simp [go_sem, Wk_eq, hsd]
    ·omega
    ·simp [go_sem, Wk_eq, hsd, hz]
    ·simp
   ·have hkl : k = g.kinds.length := by omega
    subst hkl
    have hdl := dropsK_len g p g.kinds.length
    have hkm : g.kinds.length * p.at_.length ≤ 6 * 9 := Nat.mul_le_mul k6 (by omega)
    have hS := pSort_pure (dropsK g p g.kinds.length) (by omega) (fun q hq => by
     rw [dropsK_all] at hq
     obtain ⟨k, hk, hq⟩ := List.mem_flatMap.1 hq
     obtain ⟨c, hc, hq⟩ := List.mem_filterMap.1 hq
     exact (dropP_ok hg hp (by simpa using hk) hq).1.fits hg)
    rw [show sortU cmpP (dropsK g p g.kinds.length) = dropsP g p from rfl] at hS
    generalize dropsK g p g.kinds.length = l at *
    generalize dropsP g p = r at *
    (repeat (first | with_reducible (first | refine wL fun _ => ?_ | refine wD fun _ => ?_ | refine wE ?_ | refine adrZ.go ?_) | simp [go_sem]))
    refine ACallP.pureF [2] hS ?_ (bel1 (bel_encPs _)) ?_
    ·((try simp only [encOut, encState, encPos, encOs, encSs, encPs, encIs, List.nil_append, List.append_nil, List.cons_append]); (repeat (first | (with_reducible exact LeRow.nil) | (with_reducible refine LeRow.cons ?_ ?_) | (with_reducible exact LeV.refl _) | (with_reducible refine LeV.agg ?_) | ((refine leV_frz rfl (by simp) (by simp [frzO, frz1, upd, noH]) ?_); (first | (simp [go_sem]; done) | (simp [go_sem]; exact List.take_of_length_le (by simp)))))))
    ·(repeat (first | with_reducible (first | refine wL fun _ => ?_ | refine wD fun _ => ?_ | refine wE ?_ | refine adrZ.go ?_) | simp [go_sem]))
  ·omega
  ·simp [go_sem, Wk_eq, hsd, show dropsK g p 0 = [] from rfl]
  ·simp
 ·have hsn : p.side.toNat = 1 := by omega
  (repeat (first | with_reducible (first | refine wL fun _ => ?_ | refine wD fun _ => ?_ | refine wE ?_ | refine adrZ.go ?_) | simp [go_sem, hsn, hsd]))
  refine ALoop.start (ALoop.ind (α := Nat) (fun k => ⟨[(3, .ref 1 0 5 0 0), (5, .sl 2 (dropsK g p k).length 5 0 (dropsK g p k).length), (15, encIs p.h1), (16, .v (.int .i64 p.h1.length)), (17, .v (.int .i64 k))], [(1, .rows true 0 5 [encPos p]), (2, .rows true (dropsK g p k).length 5 ((dropsK g p k).map encPos))], 3⟩)
   (fun d k => k + d = g.kinds.length) ?_ g.kinds.length 0 ?_) ?_ ?_
  ·rintro d k k1 hrec
   (repeat (first | with_reducible (first | refine wL fun _ => ?_ | refine wD fun _ => ?_ | refine wE ?_ | refine adrZ.go ?_) | simp [go_sem]))
   refine aIf.mkL (fun hk => ?_) (fun hk => ?_) <;> simp at hk
   ·have hz := dropsC_zero g p k
    have ha := dropsC_all g p k
    have hkh : k < p.h1.length := by omega
    have hhv := hp.h1.v k hkh
    (repeat (first | with_reducible (first | refine wL fun _ => ?_ | refine wD fun _ => ?_ | refine wE ?_ | refine adrZ.go ?_) | simp [go_sem, hkh]))
    refine ALoop.start (ALoop.ind (α := Nat) (fun c => ⟨[(3, .ref 1 0 5 0 0), (5, .sl 2 (dropsC g p k c).length 5 0 (dropsC g p k c).length), (6, .v (.int .i64 k)), (7, .v (.int .i64 (nth p.h1 k))), (15, encIs p.h1), (16, .v (.int .i64 p.h1.length)), (17, .v (.int .i64 k)), (23, encIs p.at_), (24, .v (.int .i64 p.at_.length)), (25, .v (.int .i64 c))], [(1, .rows true 0 5 [encPos p]), (2, .rows true (dropsC g p k c).length 5 ((dropsC g p k c).map encPos))], 3⟩)
     (fun d c => c + d = p.at_.length) ?_ p.at_.length 0 ?_) ?_ ?_
    ·rintro d2 c c1 hrec2
     (repeat (first | with_reducible (first | refine wL fun _ => ?_ | refine wD fun _ => ?_ | refine wE ?_ | refine adrZ.go ?_) | simp [go_sem]))
     refine aIf.mkL (fun hci => ?_) (fun hci => ?_) <;> simp at hci
     ·have hD : dropP g p k c = if nth (p.hand p.side) k = 0 ∨ nth p.at_ c ≠ 0 then none
       else some { ({ p with at_ := p.at_.set c (codeOf k p.side) }.withHand p.side ((p.hand p.side).set k (nth (p.hand p.side) k - 1))) with side := 1 - p.side } := rfl
      have hD' : dropP g p k c = if nth p.h1 k = 0 ∨ nth p.at_ c ≠ 0 then none else some { p with at_ := p.at_.set c (codeOf k p.side), h1 := p.h1.set k (nth p.h1 k - 1), side := 1 - p.side } := by
       rw [hD]; simp [PosD.hand, PosD.withHand, hsd]
      have hCd := gCode_pure (k : Int) p.side
      rw [hsd] at hCd hD'
      (repeat (first | with_reducible (first | refine wL fun _ => ?_ | refine wD fun _ => ?_ | refine wE ?_ | refine adrZ.go ?_) | simp [go_sem, hci]))
      refine aIf.mkL (fun hcc => ?_) (fun hcc => ?_) <;> simp at hcc
      ·rw [if_pos (by omega)] at hD'
       have hsu := dropsC_succ g p k c
       rw [hD'] at hsu
       simp only [Option.toList_none, List.append_nil] at hsu
       (repeat (first | with_reducible (first | refine wL fun _ => ?_ | refine wD fun _ => ?_ | refine wE ?_ | refine adrZ.go ?_) | simp [go_sem]))
       refine ALoop.start (hrec2 (d2 - 1) (by omega) (c + 1) (by omega)) ?_ (by simp)
       simp [go_sem, Wk_eq, hsd, hsu]
      ·rw [if_neg (by omega)] at hD'
       have hsu := dropsC_succ g p k c
       rw [hD'] at hsu
       simp only [Option.toList_some] at hsu
       have hcl := dropsC_len g p k c
       have hkm : k * p.at_.length ≤ 6 * 9 := Nat.mul_le_mul (by omega) (by omega)
       (repeat (first | with_reducible (first | refine wL fun _ => ?_ | refine wD fun _ => ?_ | refine wE ?_ | refine adrZ.go ?_) | simp [go_sem, hci]))
       refine ACallP.ownsPlain hcp (by simp [go_sem]) ?_
       (repeat (first | with_reducible (first | refine wL fun _ => ?_ | refine wD fun _ => ?_ | refine wE ?_ | refine adrZ.go ?_) | simp [go_sem, hci, hsd]))
       try ((with_reducible refine adrZ.go ?_); (try simp [go_sem]))
       refine dCall.plain hCd (by simp [go_sem]) ?_
       (repeat (first | with_reducible (first | refine wL fun _ => ?_ | refine wD fun _ => ?_ | refine wE ?_ | refine adrZ.go ?_) | simp [go_sem, hsn, hsd, hci, hkh]))
       refine ALoop.start (hrec2 (d2 - 1) (by omega) (c + 1) (by omega)) ?_ (by simp)
       simp [go_sem, Wk_eq, hsd, hsu]
       ((refine leRows_append (.refl _) ?_); (repeat (first | (with_reducible exact LeRows.nil) | (with_reducible refine LeRows.cons ?_ ?_) | (with_reducible exact LeRow.nil) | (with_reducible refine LeRow.cons ?_ ?_) | (with_reducible exact LeV.refl _) | (refine leV_frz rfl (by simp) (by simp [noH, upd]) ?_; first | (simp [go_sem]; done) | (simp [go_sem]; exact List.take_of_length_le (by simp))))))
     ·have hcl : c = p.at_.length := by omega
      subst hcl
      rw [ha]
      (repeat (first | with_reducible (first | refine wL fun _ => ?_ | refine wD fun _ => ?_ | refine wE ?_ | refine adrZ.go ?_) | simp [go_sem]))
      refine ALoop.start (hrec (d - 1) (by omega) (k + 1) (by omega)) ?_ (by simp)
      simp [go_sem, Wk_eq, hsd]
    ·omega
    ·simp [go_sem, Wk_eq, hsd, hz]
    ·simp
   ·have hkl : k = g.kinds.length := by omega
    subst hkl
    have hdl := dropsK_len g p g.kinds.length
    have hkm : g.kinds.length * p.at_.length ≤ 6 * 9 := Nat.mul_le_mul k6 (by omega)
    have hS := pSort_pure (dropsK g p g.kinds.length) (by omega) (fun q hq => by
     rw [dropsK_all] at hq
     obtain ⟨k, hk, hq⟩ := List.mem_flatMap.1 hq
     obtain ⟨c, hc, hq⟩ := List.mem_filterMap.1 hq
     exact (dropP_ok hg hp (by simpa using hk) hq).1.fits hg)
    rw [show sortU cmpP (dropsK g p g.kinds.length) = dropsP g p from rfl] at hS
    generalize dropsK g p g.kinds.length = l at *
    generalize dropsP g p = r at *
    (repeat (first | with_reducible (first | refine wL fun _ => ?_ | refine wD fun _ => ?_ | refine wE ?_ | refine adrZ.go ?_) | simp [go_sem]))
    refine ACallP.pureF [2] hS ?_ (bel1 (bel_encPs _)) ?_
    ·((try simp only [encOut, encState, encPos, encOs, encSs, encPs, encIs, List.nil_append, List.append_nil, List.cons_append]); (repeat (first | (with_reducible exact LeRow.nil) | (with_reducible refine LeRow.cons ?_ ?_) | (with_reducible exact LeV.refl _) | (with_reducible refine LeV.agg ?_) | ((refine leV_frz rfl (by simp) (by simp [frzO, frz1, upd, noH]) ?_); (first | (simp [go_sem]; done) | (simp [go_sem]; exact List.take_of_length_le (by simp)))))))
    ·(repeat (first | with_reducible (first | refine wL fun _ => ?_ | refine wD fun _ => ?_ | refine wE ?_ | refine adrZ.go ?_) | simp [go_sem]))
  ·omega
  ·simp [go_sem, Wk_eq, hsd, show dropsK g p 0 = [] from rfl]
  ·simp
end Go.Av
end
section
set_option linter.unusedSimpArgs false
set_option linter.unusedVariables false
open Go Go.Proofs
set_option maxRecDepth 20000
set_option maxHeartbeats 4000000
namespace Go.Av
theorem countP_take (f : Int → Bool) (l : List Int) {i : Nat} (h : i < l.length) : (l.take (i + 1)).countP f = (l.take i).countP f + (if f (nth l i) then 1 else 0) := by
 rw [List.take_add_one, List.getElem?_eq_getElem h, nth_eq _ _ h, Option.toList_some, List.countP_append]
 simp [List.countP_cons]
theorem R6men_pure (p : PosD) (hp : FitsP p) (side kind : Int) : Pure Tryz.prog 62 [.agg (encPos p), .v (.int .i64 side), .v (.int .i64 kind)] (.v (.int .i64 (menP p side kind))) := by
 refine Pure.of (ACallP.of_awp (by kernel_rfl) Tryz.func62 rfl rfl (Nat.le_of_ble_eq_true rfl) (by kernel_rfl) ?_)
 obtain ⟨f1, _, _⟩ := hp
 unfold Fits at f1
 (repeat (first | with_reducible (first | refine wL fun _ => ?_ | refine wD fun _ => ?_ | refine wE ?_ | refine adrZ.go ?_) | simp [go_sem]))
 refine ALoop.start (ALoop.ind (α := Nat) (fun i => ⟨[(1, .v (.int .i64 side)), (2, .v (.int .i64 kind)), (3, .ref 0 0 5 0 0), (7, .v (.int .i64 ((p.at_.take i).countP (isMan p side kind) : Nat))), (8, .v (.int .i64 i))], [(0, .rows true 0 5 [encPos p])], 1⟩)
  (fun d i => i + d = p.at_.length) ?_ p.at_.length 0 ?_) ?_ ?_
 ·rintro d i i1 hrec
  (repeat (first | with_reducible (first | refine wL fun _ => ?_ | refine wD fun _ => ?_ | refine wE ?_ | refine adrZ.go ?_) | simp [go_sem]))
  refine aIf.mkL (fun hi => ?_) (fun hi => ?_) <;> simp at hi
  ·have hO := R3Of_pure (nth p.at_ i)
   have hcs := countP_take (isMan p side kind) p.at_ hi
   have hle : (p.at_.take i).countP (isMan p side kind) ≤ i := Nat.le_trans List.countP_le_length (by simp; omega)
   have hM : isMan p side kind (nth p.at_ i) = (decide (0 ≤ (manOf (nth p.at_ i)).1) && decide ((manOf (nth p.at_ i)).2 = side) && (decide (kind < 0) || decide ((manOf (nth p.at_ i)).1 = kind))) := rfl
   generalize manOf (nth p.at_ i) = m at *
   (repeat (first | with_reducible (first | refine wL fun _ => ?_ | refine wD fun _ => ?_ | refine wE ?_ | refine adrZ.go ?_) | simp [go_sem, hi]))
   refine ACallP.plain hO (by simp [go_sem]) ?_
   (repeat (first | with_reducible (first | refine wL fun _ => ?_ | refine wD fun _ => ?_ | refine wE ?_ | refine adrZ.go ?_) | simp [go_sem]))
   by_cases hm : isMan p side kind (nth p.at_ i) = true
   ·have hm' := hm
    rw [hM] at hm'
    rw [if_pos hm] at hcs
    simp only [hm']
    (repeat (first | with_reducible (first | refine wL fun _ => ?_ | refine wD fun _ => ?_ | refine wE ?_ | refine adrZ.go ?_) | simp [go_sem]))
    refine ALoop.start (hrec (d - 1) (by omega) (i + 1) (by omega)) ?_ (by simp)
    simp [go_sem, Wk_eq, hcs]
   ·have hm' := hm
    rw [hM] at hm'
    rw [if_neg hm] at hcs
    simp only [Bool.not_eq_true] at hm'
    simp only [hm']
    (repeat (first | with_reducible (first | refine wL fun _ => ?_ | refine wD fun _ => ?_ | refine wE ?_ | refine adrZ.go ?_) | simp [go_sem]))
    refine ALoop.start (hrec (d - 1) (by omega) (i + 1) (by omega)) ?_ (by simp)
    simp [go_sem, Wk_eq, hcs]
  ·have hil : i = p.at_.length := by omega
   subst hil
   have hM : menP p side kind = (p.at_.take p.at_.length).countP (isMan p side kind) := by rw [List.take_length]; rfl
   rw [hM]
   (repeat (first | with_reducible (first | refine wL fun _ => ?_ | refine wD fun _ => ?_ | refine wE ?_ | refine adrZ.go ?_) | simp [go_sem]))
 ·omega
 ·simp [go_sem, Wk_eq]
 ·simp
theorem R6Condition_pure (g : GameD) (hg : GOk g) (p : PosD) (hp : POk g p) (c : Int × Int × Int × Int) (hc : ClauseOk g.cells g.kinds.length c) :
  Pure Tryz.prog 28 [.agg (encClause c), .agg (encPos p)] (.v (.bool (condP c p))) := by
 refine Pure.of (ACallP.of_awp (by kernel_rfl) Tryz.func28 rfl rfl (Nat.le_of_ble_eq_true rfl) (by kernel_rfl) ?_)
 have hps := hp.s
 have hal := hp.al
 have hM := fun s k => R6men_pure p (hp.fits hg) s k
 have hml : ∀ s k, menP p s k ≤ 9 := fun s k => Nat.le_trans List.countP_le_length (by have := hg.c9; omega)
 obtain ⟨c0, c1, c2, c3⟩ := c
 obtain ⟨k1, k2, k3, k4, k5⟩ := hc
 simp only at k1 k2 k3 k4 k5
 unfold condP
 rcases k1 with rfl | rfl | rfl
 ·have h1 := hM p.side c1
  (repeat (first | with_reducible (first | refine wL fun _ => ?_ | refine wD fun _ => ?_ | refine wE ?_ | refine adrZ.go ?_) | simp [go_sem]))
  refine ACallP.plain h1 (by simp [go_sem]) ?_
  (repeat (first | with_reducible (first | refine wL fun _ => ?_ | refine wD fun _ => ?_ | refine wE ?_ | refine adrZ.go ?_) | simp [go_sem]))
 ·have hci : c2.toNat < p.at_.length := by omega
  (repeat (first | with_reducible (first | refine wL fun _ => ?_ | refine wD fun _ => ?_ | refine wE ?_ | refine adrZ.go ?_) | simp [go_sem, hci]))
  try ((with_reducible refine adrZ.go ?_); (try simp [go_sem]))
  refine dCall.plain (R3Code_pure c1 (1 - p.side)) (by simp [go_sem]) ?_
  (repeat (first | with_reducible (first | refine wL fun _ => ?_ | refine wD fun _ => ?_ | refine wE ?_ | refine adrZ.go ?_) | simp [go_sem, hci]))
 ·have h1 := hM p.side (-1)
  have := hml p.side (-1)
  (repeat (first | with_reducible (first | refine wL fun _ => ?_ | refine wD fun _ => ?_ | refine wE ?_ | refine adrZ.go ?_) | simp [go_sem]))
  try ((with_reducible refine adrZ.go ?_); (try simp [go_sem]))
  refine dCall.plain h1 (by simp [go_sem]) ?_
  (repeat (first | with_reducible (first | refine wL fun _ => ?_ | refine wD fun _ => ?_ | refine wE ?_ | refine adrZ.go ?_) | simp [go_sem]))
theorem findIdx_some {α : Type} [Inhabited α] (f : α → Bool) (l : List α) {i : Nat} (hi : i < l.length) (hb : ∀ j, j < i → f (nth l j) = false) (h : f (nth l i) = true) : l.findIdx? f = some i := by
 rw [List.findIdx?_eq_some_iff_getElem]
 refine ⟨hi, by rw [← nth_eq _ _ hi]; exact h, fun j hj => ?_⟩
 have := hb j hj
 rw [nth_eq _ _ (by omega)] at this
 simp [this]
theorem findIdx_none {α : Type} [Inhabited α] (f : α → Bool) (l : List α) (hb : ∀ j, j < l.length → f (nth l j) = false) : l.findIdx? f = none := by
 rw [List.findIdx?_eq_none_iff]
 intro x hx
 obtain ⟨j, hj, rfl⟩ := List.getElem_of_mem hx
 have := hb j hj
 rwa [nth_eq _ _ hj] at this
theorem R6Ended_pure (g : GameD) (hg : GOk g) (p : PosD) (hp : POk g p) : Pure Tryz.prog 29 [.agg (encGame g), .agg (encPos p)] (.v (.int .i64 (endedP g p))) := by
 refine Pure.of (ACallP.of_awp (by kernel_rfl) Tryz.func29 rfl rfl (Nat.le_of_ble_eq_true rfl) (by kernel_rfl) ?_)
 have hcn := hg.cn
 (repeat (first | with_reducible (first | refine wL fun _ => ?_ | refine wD fun _ => ?_ | refine wE ?_ | refine adrZ.go ?_) | simp [go_sem]))
 refine ALoop.start (ALoop.ind (α := Nat) (fun i => ⟨[(2, .ref 0 0 9 0 0), (3, .ref 1 0 5 0 0), (5, .v (.int .i64 i))], [(0, .rows true 0 9 [encGame g]), (1, .rows true 0 5 [encPos p])], 2⟩)
  (fun d i => i + d = g.clauses.length ∧ ∀ j, j < i → condP (nth g.clauses j) p = false) ?_ g.clauses.length 0 ?_) ?_ ?_
 ·rintro d i ⟨i1, i2⟩ hrec
  (repeat (first | with_reducible (first | refine wL fun _ => ?_ | refine wD fun _ => ?_ | refine wE ?_ | refine adrZ.go ?_) | simp [go_sem]))
  refine aIf.mkL (fun hi => ?_) (fun hi => ?_) <;> simp at hi
  ·have hC := R6Condition_pure g hg p hp _ (hg.cl _ (nth_mem hi))
   (repeat (first | with_reducible (first | refine wL fun _ => ?_ | refine wD fun _ => ?_ | refine wE ?_ | refine adrZ.go ?_) | simp [go_sem, hi]))
   try ((with_reducible refine adrZ.go ?_); (try simp [go_sem]))
   refine dCall.plain hC (by simp [go_sem]) ?_
   (repeat (first | with_reducible (first | refine wL fun _ => ?_ | refine wD fun _ => ?_ | refine wE ?_ | refine adrZ.go ?_) | simp [go_sem]))
   by_cases hc : condP (nth g.clauses i) p = true
   ·have he : endedP g p = i := by unfold endedP; rw [findIdx_some (fun c => condP c p) g.clauses hi i2 hc]
    (repeat (first | with_reducible (first | refine wL fun _ => ?_ | refine wD fun _ => ?_ | refine wE ?_ | refine adrZ.go ?_) | simp [go_sem, hc, he]))
   ·(repeat (first | with_reducible (first | refine wL fun _ => ?_ | refine wD fun _ => ?_ | refine wE ?_ | refine adrZ.go ?_) | simp [go_sem, hc]))
    refine ALoop.start (hrec (d - 1) (by omega) (i + 1) ⟨by omega, fun j hj => ?_⟩) ?_ (by simp)
    ·rcases Nat.lt_or_ge j i with h | h
     ·exact i2 j h
     ·obtain rfl : j = i := by omega
      simpa using hc
    ·simp [go_sem, Wk_eq]
  ·have he : endedP g p = -1 := by unfold endedP; rw [findIdx_none (fun c => condP c p) g.clauses (fun j hj => i2 j (by omega))]
   (repeat (first | with_reducible (first | refine wL fun _ => ?_ | refine wD fun _ => ?_ | refine wE ?_ | refine adrZ.go ?_) | simp [go_sem, he]))
 ·exact ⟨by simp, fun j hj => by omega⟩
 ·simp [go_sem, Wk_eq]
 ·simp
end Go.Av
end
