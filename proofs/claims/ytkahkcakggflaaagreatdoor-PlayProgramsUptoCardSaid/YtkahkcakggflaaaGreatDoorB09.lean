/- Texts of ours, part 9: our library and contracts of functions. -/
import Derived.Test.YtkahkcakggflaaaGreatDoorB08
import Derived.Test.YtkahkcakggflaaaGreatDoorProg
import Derived.Shelf.SlSortCmp.NoneTotal
set_option linter.unusedSimpArgs false
set_option linter.unusedVariables false
set_option maxRecDepth 100000
set_option maxHeartbeats 40000000
section
/- The body of slices.SortFunc here is the one that the kit knows: laid in plain words (printed by laysort.py). -/
namespace Go.Proofs
open Go.Shelf
def zsort_ren : Go.Shelf.Ren := ⟨fun | 6 => 123 | 15 => 175 | 14 => 174 | 28 => 228 | 29 => 229 | 20 => 220 | 21 => 221 | 22 => 222 | 23 => 223 | 24 => 224 | 25 => 225 | 26 => 226 | 27 => 227 | 46 => 269 | 47 => 270 | 48 => 271 | 49 => 272 | 50 => 273 | 57 => 289 | n => n, fun | 22 => 108 | 24 => 112 | 25 => 188 | 3 => 3 | 39 => 219 | 0 => 0 | 53 => 280 | 55 => 282 | 4 => 4 | 46 => 274 | 45 => 273 | 50 => 62 | 5 => 5 | 9 => 9 | 66 => 313 | 70 => 317 | 76 => 341 | 77 => 203 | n => n, fun n => n⟩
theorem zsort : Go.Proofs.SlLaysF0.n6 Tryz.prog zsort_ren := {
 mixed := by kernel_rfl
 f6 := ⟨Tryz.f123.name, by decide, Tryz.func123.trans (congrArg some (by kernel_rfl))⟩
 f14 := ⟨Tryz.f174.name, by decide, Tryz.func174.trans (congrArg some (by kernel_rfl))⟩
 f15 := Tryz.func175.trans (congrArg some (by kernel_rfl))
 f20 := ⟨Tryz.f220.name, by decide, Tryz.func220.trans (congrArg some (by kernel_rfl))⟩
 f21 := ⟨Tryz.f221.name, by decide, Tryz.func221.trans (congrArg some (by kernel_rfl))⟩
 f22 := ⟨Tryz.f222.name, by decide, Tryz.func222.trans (congrArg some (by kernel_rfl))⟩
 f23 := ⟨Tryz.f223.name, by decide, Tryz.func223.trans (congrArg some (by kernel_rfl))⟩
 f24 := ⟨Tryz.f224.name, by decide, Tryz.func224.trans (congrArg some (by kernel_rfl))⟩
 f25 := ⟨Tryz.f225.name, by decide, Tryz.func225.trans (congrArg some (by kernel_rfl))⟩
 f26 := ⟨Tryz.f226.name, by decide, Tryz.func226.trans (congrArg some (by kernel_rfl))⟩
 f27 := ⟨Tryz.f227.name, by decide, Tryz.func227.trans (congrArg some (by kernel_rfl))⟩
 f28 := Tryz.func228.trans (congrArg some (by kernel_rfl))
 f29 := Tryz.func229.trans (congrArg some (by kernel_rfl))
 f46 := ⟨Tryz.f269.name, by decide, Tryz.func269.trans (congrArg some (by kernel_rfl))⟩
 f47 := Tryz.func270.trans (congrArg some (by kernel_rfl))
 f48 := Tryz.func271.trans (congrArg some (by kernel_rfl))
 f49 := ⟨Tryz.f272.name, by decide, Tryz.func272.trans (congrArg some (by kernel_rfl))⟩
 f50 := ⟨Tryz.f273.name, by decide, Tryz.func273.trans (congrArg some (by kernel_rfl))⟩
 f57 := ⟨Tryz.f289.name, by decide, Tryz.func289.trans (congrArg some (by kernel_rfl))⟩
 t0 := Tryz.underlying0
 a0 := Tryz.isAgg0
 z0 := Tryz.sizeOf0
 v0 := Tryz.zeroValue0
 t3 := Tryz.underlying3
 a3 := Tryz.isAgg3
 z3 := Tryz.sizeOf3
 v3 := Tryz.zeroValue3
 t4 := Tryz.underlying4
 a4 := Tryz.isAgg4
 z4 := Tryz.sizeOf4
 v4 := Tryz.zeroValue4
 t5 := Tryz.underlying5
 a5 := Tryz.isAgg5
 z5 := Tryz.sizeOf5
 v5 := Tryz.zeroValue5
 t9 := Tryz.underlying9
 a9 := Tryz.isAgg9
 z9 := Tryz.sizeOf9
 v9 := Tryz.zeroValue9
 t22 := Tryz.underlying108
 a22 := Tryz.isAgg108
 z22 := Tryz.sizeOf108
 v22 := Tryz.zeroValue108
 t25 := Tryz.underlying188
 a25 := Tryz.isAgg188
 z25 := Tryz.sizeOf188
 v25 := Tryz.zeroValue188
 t39 := Tryz.underlying219
 a39 := Tryz.isAgg219
 z39 := Tryz.sizeOf219
 v39 := Tryz.zeroValue219
 t45 := Tryz.underlying273
 a45 := Tryz.isAgg273
 z45 := Tryz.sizeOf273
 v45 := Tryz.zeroValue273
 t46 := Tryz.underlying274
 a46 := Tryz.isAgg274
 z46 := Tryz.sizeOf274
 v46 := Tryz.zeroValue274
 t50 := Tryz.underlying62
 a50 := Tryz.isAgg62
 z50 := Tryz.sizeOf62
 v50 := Tryz.zeroValue62
 t53 := Tryz.underlying280
 a53 := Tryz.isAgg280
 z53 := Tryz.sizeOf280
 v53 := Tryz.zeroValue280
 t55 := Tryz.underlying282
 a55 := Tryz.isAgg282
 z55 := Tryz.sizeOf282
 v55 := Tryz.zeroValue282
 t66 := Tryz.underlying313
 a66 := Tryz.isAgg313
 z66 := Tryz.sizeOf313
 v66 := Tryz.zeroValue313
 t70 := Tryz.underlying317
 a70 := Tryz.isAgg317
 z70 := Tryz.sizeOf317
 v70 := Tryz.zeroValue317
 t76 := Tryz.underlying341
 a76 := Tryz.isAgg341
 z76 := Tryz.sizeOf341
 v76 := Tryz.zeroValue341
 t77 := Tryz.underlying203
 a77 := Tryz.isAgg203
 z77 := Tryz.sizeOf203
 v77 := Tryz.zeroValue203 }
end Go.Proofs
end
section
/- Contracts: slices.CompactFunc and slices.SortFunc of outcomes, as run asks for them (printed by genGH.py). -/
open Go Go.Proofs
namespace Go.Av
theorem CompactR_owns (l : List OutD) (gn : Nat) (hl : l.length ≤ 17179869184) (hf : ∀ o ∈ l, FitsP o.pos) :
  OwnsA Tryz.prog 125 [.sl 0 gn 6 0 l.length, .fn (.func 126) [] []] [(0, .rows true gn 6 (l.map encOut))] 1
   (.sl 0 gn 6 0 (dedup l).length) [(0, .rows true gn 6 ((dedup l).map encOut ++ List.replicate (l.length - (dedup l).length) zeroO))] 1 := by
 unfold OwnsA
 by_cases h2 : l.length < 2
 ·rw [dedup_short h2]
  refine ACallP.of_awp (by kernel_rfl) Tryz.func125 rfl rfl (Nat.le_of_ble_eq_true rfl) (by kernel_rfl) ?_
  (repeat (first|with_reducible refine wV fun _=>?_|simp [go_sem]))
  (refine aIf.mkL (fun hT => ?_) (fun hT => by first | omega | (simp at hT; omega)); clear hT)
  (repeat (first|with_reducible refine wV fun _=>?_|simp [go_sem]))
  simp [go_sem, Wk_eq]
 obtain ⟨D, hD⟩ : ∃ D, D = dedup l := ⟨_, rfl⟩
 rw [← hD]
 have hE : ∀ i j, i < l.length → j < l.length → Pure Tryz.prog 126 [.agg (encOut (nth l i)), .agg (encOut (nth l j))] (.v (.bool (decide (nth l i = nth l j)))) :=
  fun i j hi hj => runs2_pure _ _ (hf _ (nth_mem hi)) (hf _ (nth_mem hj))
 refine ACallP.of_awp (by kernel_rfl) Tryz.func125 rfl rfl (Nat.le_of_ble_eq_true rfl) (by kernel_rfl) ?_
 (repeat (first|with_reducible refine wV fun _=>?_|simp [go_sem]))
 (refine aIf.mkL (fun hF => by first | omega | (simp at hF; omega)) (fun hF => ?_); clear hF)
 (repeat (first|with_reducible refine wV fun _=>?_|simp [go_sem]))
 refine ALoop.start (ALoop.ind (α := Nat) (fun j => ⟨[(0, .sl 0 gn 6 0 l.length), (1, .fn (.func 126) [] []), (5, .v (.int .i64 j))], [(0, .rows true gn 6 (l.map encOut))], 1⟩)
  (fun d j => 1 ≤ j ∧ j + d = l.length ∧ D = l.take j ++ dedupGo (nth l (j - 1)) (l.drop j)) ?_ (l.length - 1) 1 ?_) ?_ ?_
 ·rintro d j ⟨i1, i2, i3⟩ hrec
  have e1 : ((j : Int) - 1).toNat = j - 1 := by omega
  (repeat (first|with_reducible refine wV fun _=>?_|simp [go_sem]))
  refine aIf.mkL (fun hj => ?_) (fun hj => ?_) <;> simp at hj
  ·have hj' : j - 1 < l.length := by omega
   rw [dropG_cons hj, dedupGo] at i3
   (repeat (first|with_reducible refine wV fun _=>?_|simp [go_sem, hj, hj', e1]))
   refine dCall.plain (hE j (j - 1) hj hj') (by simp [go_sem]) ?_
   (repeat (first|with_reducible refine wV fun _=>?_|simp [go_sem, hj, hj', e1]))
   by_cases he : nth l j = nth l (j - 1)
   ·rw [if_pos he] at i3
    (repeat (first|with_reducible refine wV fun _=>?_|simp [go_sem, he, hj, hj', e1]))
    refine ALoop.start (ALoop.ind (α := Nat × List OutD × Nat) (fun a => ⟨[(0, .sl 0 gn 6 0 l.length), (1, .fn (.func 126) [] []), (5, .v (.int .i64 a.2.2)), (6, .sl 0 gn 6 j (l.length - j)), (7, .v (.int .i64 a.1))], [(0, .rows true gn 6 (a.2.1.map encOut))], 1⟩)
     (fun d a => 1 ≤ a.1 ∧ j + a.1 + d = l.length ∧ a.2.1.length = l.length ∧ a.2.2 ≤ j + a.1 - 1 ∧ a.2.1.drop (j + a.1 - 1) = l.drop (j + a.1 - 1) ∧ D = a.2.1.take a.2.2 ++ dedupGo (nth l (j + a.1 - 1)) (l.drop (j + a.1))) ?_ (l.length - j - 1) (1, l, j) ?_) ?_ ?_
    ·rintro d2 ⟨k2, R, k⟩ ⟨j1, j2, j3, j4, j5, j6⟩ hrec2
     simp only at j1 j2 j3 j4 j5 j6
     have e2 : ((k2 : Int) - 1).toNat = k2 - 1 := by omega
     have e3 : j + (k2 - 1) = j + k2 - 1 := by omega
     have hRn : ∀ m, j + k2 - 1 ≤ m → m < l.length → nth R m = nth l m := fun m h1 h2 => by
      have h3 : (R.drop (j + k2 - 1))[m - (j + k2 - 1)]? = (l.drop (j + k2 - 1))[m - (j + k2 - 1)]? := by rw [j5]
      rw [List.getElem?_drop, List.getElem?_drop, show j + k2 - 1 + (m - (j + k2 - 1)) = m by omega, List.getElem?_eq_getElem (by omega), List.getElem?_eq_getElem h2] at h3
      rw [nth_eq _ _ (by omega), nth_eq _ _ h2]
      exact Option.some.inj h3
     (repeat (first|with_reducible refine wV fun _=>?_|simp [go_sem, j3]))
     refine aIf.mkL (fun hk => ?_) (fun hk => ?_) <;> simp at hk
     ·have hk1 : j + k2 < l.length := by omega
      have hk0 : j + k2 - 1 < l.length := by omega
      have hr1 := hRn (j + k2) (by omega) hk1
      have hr0 := hRn (j + k2 - 1) (by omega) hk0
      rw [dropG_cons hk1, dedupGo] at j6
      have hk2 : k2 - 1 < l.length - j := by omega
      have hk3 : k < l.length := by omega
      (repeat (first|with_reducible refine wV fun _=>?_|simp [go_sem, j3, hk, hk1, hk0, hr1, hr0, e2, e3, hk2]))
      refine dCall.plain (hE (j + k2) (j + k2 - 1) hk1 hk0) (by simp [go_sem]) ?_
      (repeat (first|with_reducible refine wV fun _=>?_|simp [go_sem, j3, hk, hk1, hk0, hr1, hr0, e2, e3, hk2]))
      by_cases hc : nth l (j + k2) = nth l (j + k2 - 1)
      ·rw [if_pos hc] at j6
       (repeat (first|with_reducible refine wV fun _=>?_|simp [go_sem, hc]))
       refine ALoop.start (hrec2 (d2 - 1) (by omega) (k2 + 1, R, k) ⟨by simp only; omega, by simp only; omega, j3, by simp only; omega, ?_, ?_⟩) ?_ (by simp)
       ·have := congrArg (List.drop 1) j5
        rw [List.drop_drop, List.drop_drop] at this
        rw [show j + (k2 + 1) - 1 = j + k2 - 1 + 1 by omega]
        exact this
       ·simp only
        rw [show j + (k2 + 1) - 1 = j + k2 by omega, hc]
        exact j6
       ·simp [go_sem, Wk_eq]
      ·rw [if_neg hc] at j6
       (repeat (first|with_reducible refine wV fun _=>?_|simp [go_sem, hc, j3, hk, hk1, hk0, hr1, hr0, e2, e3, hk2, hk3]))
       refine ALoop.start (hrec2 (d2 - 1) (by omega) (k2 + 1, R.set k (nth l (j + k2)), k + 1) ⟨by simp only; omega, by simp only; omega, by simpa using j3, by simp only; omega, ?_, ?_⟩) ?_ (by simp)
       ·have := congrArg (List.drop 1) j5
        rw [List.drop_drop, List.drop_drop] at this
        simp only
        rw [show j + (k2 + 1) - 1 = j + k2 - 1 + 1 by omega, List.drop_set, if_pos (by omega)]
        exact this
       ·simp only
        rw [show j + (k2 + 1) - 1 = j + k2 by omega, List.take_add_one, List.take_set_of_le (by omega), List.getElem?_set_self (by omega), Option.toList_some, List.append_assoc]
        exact j6
       ·have hb : ∀ n, ∀ r ∈ ((R.set k (nth l (j + k2))).map encOut), ∀ c ∈ r, Bel n c := fun n => of_eq_true bel_Ou
        rw [List.map_set] at hb
        simp [go_sem, Wk_eq, List.map_set]
        exact hb 1
     ·rw [List.drop_eq_nil_of_le (by omega), dedupGo, List.append_nil] at j6
      have hDl : D.length = k := by rw [j6, List.length_take]; omega
      have hd0 : List.drop (k + (l.length - k)) (R.map encOut) = [] := List.drop_eq_nil_of_le (by simp; omega)
      have hDm : D.map encOut = List.take k (R.map encOut) := by rw [j6, List.map_take]
      (repeat (first|with_reducible refine wV fun _=>?_|simp [go_sem]))
      simp [go_sem, Wk_eq, hd0, hDl, hDm, zeroO]
      exact fun x hx => of_eq_true (bel_Ou (n := 1) (l := R)) x (List.mem_of_mem_take hx)
    ·refine ⟨Nat.le_refl _, by simp only; omega, rfl, by simp only; omega, rfl, ?_⟩
     simp only
     rw [Nat.add_sub_cancel, he]
     exact i3
    ·simp [go_sem, Wk_eq]
    ·simp
   ·rw [if_neg he] at i3
    (repeat (first|with_reducible refine wV fun _=>?_|simp [go_sem, he, hj, hj', e1]))
    refine ALoop.start (hrec (d - 1) (by omega) (j + 1) ⟨by omega, by omega, ?_⟩) ?_ (by simp)
    ·rw [i3, Nat.add_sub_cancel, List.take_add_one, List.getElem?_eq_getElem hj, nth_eq _ _ hj, Option.toList_some, List.append_assoc]; rfl
    ·simp [go_sem, Wk_eq]
  ·rw [List.drop_eq_nil_of_le hj, List.take_of_length_le hj, dedupGo, List.append_nil] at i3
   rw [i3]
   (repeat (first|with_reducible refine wV fun _=>?_|simp [go_sem]))
   simp [go_sem, Wk_eq]
 ·refine ⟨Nat.le_refl _, by omega, ?_⟩
  cases l with
  | nil => simp at h2
  | cons a l => rw [hD]; rfl
 ·simp [go_sem, Wk_eq]
 ·simp
theorem compactR_call (l : List OutD) (gn : Nat) (hl : l.length ≤ 17179869184) (hf : ∀ o ∈ l, FitsP o.pos) {h : Heap} {n o : Nat} (ho : h o = some (.rows true gn 6 (l.map encOut))) (hon : o < n) {K : CallK}
  (hK : K (.sl o gn 6 0 (dedup l).length) (upd h o (some (.rows true gn 6 ((dedup l).map encOut ++ List.replicate (l.length - (dedup l).length) zeroO)))) n) :
  ACallP Tryz.prog 125 [.sl o gn 6 0 l.length, .fn (.func 126) [] []] h n K := by
 have hz : ∀ m, ∀ r ∈ (dedup l).map encOut ++ List.replicate (l.length - (dedup l).length) zeroO, ∀ c ∈ r, Bel m c := by
  intro m r hr c hc
  rcases List.mem_append.1 hr with hr | hr
  ·exact bel_map_out _ r hr c hc
  ·rw [List.eq_of_mem_replicate hr] at hc
   simp only [zeroO, List.mem_cons, List.not_mem_nil, or_false] at hc
   rcases hc with rfl | rfl | rfl | rfl | rfl | rfl <;> exact .v _
 refine ACallP.ownsA (args' := [.sl o gn 6 0 l.length, .fn (.func 126) [] []]) (HH := [(o, .rows true gn 6 ((dedup l).map encOut ++ List.replicate (l.length - (dedup l).length) zeroO))])
  [o] h (CompactR_owns l gn hl hf) (by simp) (by simpa using hon) rfl (Nat.le_refl _) (.refl _) ?_ ?_ (.refl _ _ _ _) ?_ ?_ ?_ (.sl rfl) ?_ ?_
 ·intro j hj
  obtain rfl : j = 0 := by omega
  exact ⟨_, _, rfl, ho, .rows (.same (bel_map_out _))⟩
 ·intro p hp
  simp only [List.mem_singleton] at hp
  subst hp
  exact ⟨Nat.le_of_ble_eq_true rfl, bel_map_out _⟩
 ·intro y hy
  simp only [List.mem_cons, List.not_mem_nil, or_false] at hy
  rcases hy with rfl | rfl
  ·exact .sl hon
  ·simp [go_sem]
 ·exact .cons (.sl rfl) (.cons (.same (by simp [go_sem])) .nil)
 ·intro y hy
  simp only [List.mem_cons, List.not_mem_nil, or_false] at hy
  rcases hy with rfl | rfl
  ·exact .sl (by decide)
  ·simp [go_sem]
 ·exact .cons rfl (.rows (.same (hz 0))) .nil
 ·have e : over [(o, .rows true gn 6 ((dedup l).map encOut ++ List.replicate (l.length - (dedup l).length) zeroO))] (remH [o] h) = upd h o (some (.rows true gn 6 ((dedup l).map encOut ++ List.replicate (l.length - (dedup l).length) zeroO))) := by
   funext j
   simp only [over, remH, upd]
   by_cases j1 : j = o
   ·simp [j1]
   ·simp [j1]
  rw [e, Nat.sub_self, Nat.add_zero]
  exact hK
theorem compactR_call2 (l : List OutD) (gn m : Nat) (hm : l.length = m) (hl : m ≤ 17179869184) (hf : ∀ o ∈ l, FitsP o.pos) {h : Heap} {n o : Nat} (ho : h o = some (.rows true gn 6 (l.map encOut))) (hon : o < n) {K : CallK}
  (hK : K (.sl o gn 6 0 (dedup l).length) (upd h o (some (.rows true gn 6 ((dedup l).map encOut ++ List.replicate (l.length - (dedup l).length) zeroO)))) n) :
  ACallP Tryz.prog 125 [.sl o gn 6 0 m, .fn (.func 126) [] []] h n K := by
 subst hm
 exact compactR_call l gn hl hf ho hon hK
theorem swo_outR : Go.Sort.SWO (fun a b : OutD => decide (cmpO a b < 0)) := by
 refine ⟨fun x => ?_, fun x y z h1 h2 => ?_, fun x y z h1 h2 => ?_⟩
 ·have := cmp_out.swap x x
  simp; omega
 ·simp only [decide_eq_true_eq] at h1 h2 ⊢
  have t := cmp_out.tr x y z (by omega) (by omega)
  rcases Int.lt_or_eq_of_le t with h | h
  ·exact h
  ·have e := (cmp_out.eq _ _).1 h
   subst e
   have := cmp_out.swap x y
   omega
 ·simp only [decide_eq_false_iff_not] at h1 h2 ⊢
  have s1 := cmp_out.swap x y
  have s2 := cmp_out.swap y z
  have s3 := cmp_out.swap x z
  have t := cmp_out.tr z y x (by omega) (by omega)
  omega
theorem sortR_call (l : List OutD) (hf : ∀ o ∈ l, FitsP o.pos) (hl : l.length < 4611686018427387904) {h : Heap} {n o gn : Nat} (ho : h o = some (.rows true gn 6 (l.map encOut))) {K : CallK}
  (hK : K (.tup []) (upd h o (some (.rows true gn 6 ((sortC cmpO l).map encOut)))) n) :
  ACallP Tryz.prog 123 [.sl o gn 6 0 l.length, .fn (.func 124) [] []] h n K := by
 refine ACallP.sortFunc zsort (k := 6) (by omega) Tryz.isAgg112 Tryz.sizeOf112 encOut (fun _ => rfl) ?_ (fun o => FitsP o.pos) cmpO swo_outR _ (fun x y hx hy => rOrder_pure x y hx hy) ?_ l hf hl ho ?_
 ·intro x
  simp [go_sem]
 ·exact (rOrder_pure default default (by unfold FitsP Fits; decide) (by unfold FitsP Fits; decide)).1
 ·intro l' hp hs
  have : sortC cmpO l = l' := sortC_unique cmp_out hp (hs.imp fun {a b} hab => by
   have := cmp_out.swap a b
   simp only [leC, decide_eq_true_eq]
   omega)
  rw [← this]
  exact hK
end Go.Av
end
section
/- The body of slices.SortFunc here is the one that the kit knows: laid in plain words (printed by laysort.py). -/
namespace Go.Proofs
open Go.Shelf
def zsortP_ren : Go.Shelf.Ren := ⟨fun | 6 => 140 | 15 => 175 | 14 => 189 | 28 => 228 | 29 => 229 | 20 => 244 | 21 => 245 | 22 => 246 | 23 => 247 | 24 => 248 | 25 => 249 | 26 => 250 | 27 => 251 | 46 => 278 | 47 => 270 | 48 => 271 | 49 => 279 | 50 => 280 | 57 => 290 | n => n, fun | 22 => 47 | 24 => 45 | 25 => 80 | 3 => 3 | 39 => 219 | 0 => 0 | 53 => 280 | 55 => 282 | 4 => 4 | 46 => 274 | 45 => 273 | 50 => 62 | 5 => 5 | 9 => 9 | 66 => 313 | 70 => 317 | 76 => 341 | 77 => 203 | n => n, fun n => n⟩
theorem zsortP : Go.Proofs.SlLaysF0.n6 Tryz.prog zsortP_ren := {
 mixed := by kernel_rfl
 f6 := ⟨Tryz.f140.name, by decide, Tryz.func140.trans (congrArg some (by kernel_rfl))⟩
 f14 := ⟨Tryz.f189.name, by decide, Tryz.func189.trans (congrArg some (by kernel_rfl))⟩
 f15 := Tryz.func175.trans (congrArg some (by kernel_rfl))
 f20 := ⟨Tryz.f244.name, by decide, Tryz.func244.trans (congrArg some (by kernel_rfl))⟩
 f21 := ⟨Tryz.f245.name, by decide, Tryz.func245.trans (congrArg some (by kernel_rfl))⟩
 f22 := ⟨Tryz.f246.name, by decide, Tryz.func246.trans (congrArg some (by kernel_rfl))⟩
 f23 := ⟨Tryz.f247.name, by decide, Tryz.func247.trans (congrArg some (by kernel_rfl))⟩
 f24 := ⟨Tryz.f248.name, by decide, Tryz.func248.trans (congrArg some (by kernel_rfl))⟩
 f25 := ⟨Tryz.f249.name, by decide, Tryz.func249.trans (congrArg some (by kernel_rfl))⟩
 f26 := ⟨Tryz.f250.name, by decide, Tryz.func250.trans (congrArg some (by kernel_rfl))⟩
 f27 := ⟨Tryz.f251.name, by decide, Tryz.func251.trans (congrArg some (by kernel_rfl))⟩
 f28 := Tryz.func228.trans (congrArg some (by kernel_rfl))
 f29 := Tryz.func229.trans (congrArg some (by kernel_rfl))
 f46 := ⟨Tryz.f278.name, by decide, Tryz.func278.trans (congrArg some (by kernel_rfl))⟩
 f47 := Tryz.func270.trans (congrArg some (by kernel_rfl))
 f48 := Tryz.func271.trans (congrArg some (by kernel_rfl))
 f49 := ⟨Tryz.f279.name, by decide, Tryz.func279.trans (congrArg some (by kernel_rfl))⟩
 f50 := ⟨Tryz.f280.name, by decide, Tryz.func280.trans (congrArg some (by kernel_rfl))⟩
 f57 := ⟨Tryz.f290.name, by decide, Tryz.func290.trans (congrArg some (by kernel_rfl))⟩
 t0 := Tryz.underlying0
 a0 := Tryz.isAgg0
 z0 := Tryz.sizeOf0
 v0 := Tryz.zeroValue0
 t3 := Tryz.underlying3
 a3 := Tryz.isAgg3
 z3 := Tryz.sizeOf3
 v3 := Tryz.zeroValue3
 t4 := Tryz.underlying4
 a4 := Tryz.isAgg4
 z4 := Tryz.sizeOf4
 v4 := Tryz.zeroValue4
 t5 := Tryz.underlying5
 a5 := Tryz.isAgg5
 z5 := Tryz.sizeOf5
 v5 := Tryz.zeroValue5
 t9 := Tryz.underlying9
 a9 := Tryz.isAgg9
 z9 := Tryz.sizeOf9
 v9 := Tryz.zeroValue9
 t22 := Tryz.underlying47
 a22 := Tryz.isAgg47
 z22 := Tryz.sizeOf47
 v22 := Tryz.zeroValue47
 t25 := Tryz.underlying80
 a25 := Tryz.isAgg80
 z25 := Tryz.sizeOf80
 v25 := Tryz.zeroValue80
 t39 := Tryz.underlying219
 a39 := Tryz.isAgg219
 z39 := Tryz.sizeOf219
 v39 := Tryz.zeroValue219
 t45 := Tryz.underlying273
 a45 := Tryz.isAgg273
 z45 := Tryz.sizeOf273
 v45 := Tryz.zeroValue273
 t46 := Tryz.underlying274
 a46 := Tryz.isAgg274
 z46 := Tryz.sizeOf274
 v46 := Tryz.zeroValue274
 t50 := Tryz.underlying62
 a50 := Tryz.isAgg62
 z50 := Tryz.sizeOf62
 v50 := Tryz.zeroValue62
 t53 := Tryz.underlying280
 a53 := Tryz.isAgg280
 z53 := Tryz.sizeOf280
 v53 := Tryz.zeroValue280
 t55 := Tryz.underlying282
 a55 := Tryz.isAgg282
 z55 := Tryz.sizeOf282
 v55 := Tryz.zeroValue282
 t66 := Tryz.underlying313
 a66 := Tryz.isAgg313
 z66 := Tryz.sizeOf313
 v66 := Tryz.zeroValue313
 t70 := Tryz.underlying317
 a70 := Tryz.isAgg317
 z70 := Tryz.sizeOf317
 v70 := Tryz.zeroValue317
 t76 := Tryz.underlying341
 a76 := Tryz.isAgg341
 z76 := Tryz.sizeOf341
 v76 := Tryz.zeroValue341
 t77 := Tryz.underlying203
 a77 := Tryz.isAgg203
 z77 := Tryz.sizeOf203
 v77 := Tryz.zeroValue203 }
end Go.Proofs
end
section
/- Contracts: slices.CompactFunc and slices.SortFunc of positions, as pos.Sort asks for them (printed by genGH.py). -/
open Go Go.Proofs
namespace Go.Av
def zeroQ : List AV := [.v (.slice none 0 0), .v (.slice none 0 0), .v (.slice none 0 0), .v (.int .i64 0), .v (.int .i64 0)]
theorem CompactP_owns (l : List PosD) (gn : Nat) (hl : l.length ≤ 17179869184) (hf : ∀ o ∈ l, FitsP o) :
  OwnsA Tryz.prog 141 [.sl 0 gn 5 0 l.length, .fn (.func 142) [] []] [(0, .rows true gn 5 (l.map encPos))] 1
   (.sl 0 gn 5 0 (dedup l).length) [(0, .rows true gn 5 ((dedup l).map encPos ++ List.replicate (l.length - (dedup l).length) zeroQ))] 1 := by
 unfold OwnsA
 by_cases h2 : l.length < 2
 ·rw [dedup_short h2]
  refine ACallP.of_awp (by kernel_rfl) Tryz.func141 rfl rfl (Nat.le_of_ble_eq_true rfl) (by kernel_rfl) ?_
  (repeat (first|with_reducible refine wV fun _=>?_|simp [go_sem]))
  (refine aIf.mkL (fun hT => ?_) (fun hT => by first | omega | (simp at hT; omega)); clear hT)
  (repeat (first|with_reducible refine wV fun _=>?_|simp [go_sem]))
  simp [go_sem, Wk_eq]
 obtain ⟨D, hD⟩ : ∃ D, D = dedup l := ⟨_, rfl⟩
 rw [← hD]
 have hE : ∀ i j, i < l.length → j < l.length → Pure Tryz.prog 142 [.agg (encPos (nth l i)), .agg (encPos (nth l j))] (.v (.bool (decide (nth l i = nth l j)))) :=
  fun i j hi hj => psort1_pure _ _ (hf _ (nth_mem hi)) (hf _ (nth_mem hj))
 refine ACallP.of_awp (by kernel_rfl) Tryz.func141 rfl rfl (Nat.le_of_ble_eq_true rfl) (by kernel_rfl) ?_
 (repeat (first|with_reducible refine wV fun _=>?_|simp [go_sem]))
 (refine aIf.mkL (fun hF => by first | omega | (simp at hF; omega)) (fun hF => ?_); clear hF)
 (repeat (first|with_reducible refine wV fun _=>?_|simp [go_sem]))
 refine ALoop.start (ALoop.ind (α := Nat) (fun j => ⟨[(0, .sl 0 gn 5 0 l.length), (1, .fn (.func 142) [] []), (5, .v (.int .i64 j))], [(0, .rows true gn 5 (l.map encPos))], 1⟩)
  (fun d j => 1 ≤ j ∧ j + d = l.length ∧ D = l.take j ++ dedupGo (nth l (j - 1)) (l.drop j)) ?_ (l.length - 1) 1 ?_) ?_ ?_
 ·rintro d j ⟨i1, i2, i3⟩ hrec
  have e1 : ((j : Int) - 1).toNat = j - 1 := by omega
  (repeat (first|with_reducible refine wV fun _=>?_|simp [go_sem]))
  refine aIf.mkL (fun hj => ?_) (fun hj => ?_) <;> simp at hj
  ·have hj' : j - 1 < l.length := by omega
   rw [dropG_cons hj, dedupGo] at i3
   (repeat (first|with_reducible refine wV fun _=>?_|simp [go_sem, hj, hj', e1]))
   refine dCall.plain (hE j (j - 1) hj hj') (by simp [go_sem]) ?_
   (repeat (first|with_reducible refine wV fun _=>?_|simp [go_sem, hj, hj', e1]))
   by_cases he : nth l j = nth l (j - 1)
   ·rw [if_pos he] at i3
    (repeat (first|with_reducible refine wV fun _=>?_|simp [go_sem, he, hj, hj', e1]))
    refine ALoop.start (ALoop.ind (α := Nat × List PosD × Nat) (fun a => ⟨[(0, .sl 0 gn 5 0 l.length), (1, .fn (.func 142) [] []), (5, .v (.int .i64 a.2.2)), (6, .sl 0 gn 5 j (l.length - j)), (7, .v (.int .i64 a.1))], [(0, .rows true gn 5 (a.2.1.map encPos))], 1⟩)
     (fun d a => 1 ≤ a.1 ∧ j + a.1 + d = l.length ∧ a.2.1.length = l.length ∧ a.2.2 ≤ j + a.1 - 1 ∧ a.2.1.drop (j + a.1 - 1) = l.drop (j + a.1 - 1) ∧ D = a.2.1.take a.2.2 ++ dedupGo (nth l (j + a.1 - 1)) (l.drop (j + a.1))) ?_ (l.length - j - 1) (1, l, j) ?_) ?_ ?_
    ·rintro d2 ⟨k2, R, k⟩ ⟨j1, j2, j3, j4, j5, j6⟩ hrec2
     simp only at j1 j2 j3 j4 j5 j6
     have e2 : ((k2 : Int) - 1).toNat = k2 - 1 := by omega
     have e3 : j + (k2 - 1) = j + k2 - 1 := by omega
     have hRn : ∀ m, j + k2 - 1 ≤ m → m < l.length → nth R m = nth l m := fun m h1 h2 => by
      have h3 : (R.drop (j + k2 - 1))[m - (j + k2 - 1)]? = (l.drop (j + k2 - 1))[m - (j + k2 - 1)]? := by rw [j5]
      rw [List.getElem?_drop, List.getElem?_drop, show j + k2 - 1 + (m - (j + k2 - 1)) = m by omega, List.getElem?_eq_getElem (by omega), List.getElem?_eq_getElem h2] at h3
      rw [nth_eq _ _ (by omega), nth_eq _ _ h2]
      exact Option.some.inj h3
     (repeat (first|with_reducible refine wV fun _=>?_|simp [go_sem, j3]))
     refine aIf.mkL (fun hk => ?_) (fun hk => ?_) <;> simp at hk
     ·have hk1 : j + k2 < l.length := by omega
      have hk0 : j + k2 - 1 < l.length := by omega
      have hr1 := hRn (j + k2) (by omega) hk1
      have hr0 := hRn (j + k2 - 1) (by omega) hk0
      rw [dropG_cons hk1, dedupGo] at j6
      have hk2 : k2 - 1 < l.length - j := by omega
      have hk3 : k < l.length := by omega
      (repeat (first|with_reducible refine wV fun _=>?_|simp [go_sem, j3, hk, hk1, hk0, hr1, hr0, e2, e3, hk2]))
      refine dCall.plain (hE (j + k2) (j + k2 - 1) hk1 hk0) (by simp [go_sem]) ?_
      (repeat (first|with_reducible refine wV fun _=>?_|simp [go_sem, j3, hk, hk1, hk0, hr1, hr0, e2, e3, hk2]))
      by_cases hc : nth l (j + k2) = nth l (j + k2 - 1)
      ·rw [if_pos hc] at j6
       (repeat (first|with_reducible refine wV fun _=>?_|simp [go_sem, hc]))
       refine ALoop.start (hrec2 (d2 - 1) (by omega) (k2 + 1, R, k) ⟨by simp only; omega, by simp only; omega, j3, by simp only; omega, ?_, ?_⟩) ?_ (by simp)
       ·have := congrArg (List.drop 1) j5
        rw [List.drop_drop, List.drop_drop] at this
        rw [show j + (k2 + 1) - 1 = j + k2 - 1 + 1 by omega]
        exact this
       ·simp only
        rw [show j + (k2 + 1) - 1 = j + k2 by omega, hc]
        exact j6
       ·simp [go_sem, Wk_eq]
      ·rw [if_neg hc] at j6
       (repeat (first|with_reducible refine wV fun _=>?_|simp [go_sem, hc, j3, hk, hk1, hk0, hr1, hr0, e2, e3, hk2, hk3]))
       refine ALoop.start (hrec2 (d2 - 1) (by omega) (k2 + 1, R.set k (nth l (j + k2)), k + 1) ⟨by simp only; omega, by simp only; omega, by simpa using j3, by simp only; omega, ?_, ?_⟩) ?_ (by simp)
       ·have := congrArg (List.drop 1) j5
        rw [List.drop_drop, List.drop_drop] at this
        simp only
        rw [show j + (k2 + 1) - 1 = j + k2 - 1 + 1 by omega, List.drop_set, if_pos (by omega)]
        exact this
       ·simp only
        rw [show j + (k2 + 1) - 1 = j + k2 by omega, List.take_add_one, List.take_set_of_le (by omega), List.getElem?_set_self (by omega), Option.toList_some, List.append_assoc]
        exact j6
       ·have hb : ∀ n, ∀ r ∈ ((R.set k (nth l (j + k2))).map encPos), ∀ c ∈ r, Bel n c := fun n => of_eq_true bel_P
        rw [List.map_set] at hb
        simp [go_sem, Wk_eq, List.map_set]
        exact hb 1
     ·rw [List.drop_eq_nil_of_le (by omega), dedupGo, List.append_nil] at j6
      have hDl : D.length = k := by rw [j6, List.length_take]; omega
      have hd0 : List.drop (k + (l.length - k)) (R.map encPos) = [] := List.drop_eq_nil_of_le (by simp; omega)
      have hDm : D.map encPos = List.take k (R.map encPos) := by rw [j6, List.map_take]
      (repeat (first|with_reducible refine wV fun _=>?_|simp [go_sem]))
      simp [go_sem, Wk_eq, hd0, hDl, hDm, zeroQ]
      exact fun x hx => of_eq_true (bel_P (n := 1) (l := R)) x (List.mem_of_mem_take hx)
    ·refine ⟨Nat.le_refl _, by simp only; omega, rfl, by simp only; omega, rfl, ?_⟩
     simp only
     rw [Nat.add_sub_cancel, he]
     exact i3
    ·simp [go_sem, Wk_eq]
    ·simp
   ·rw [if_neg he] at i3
    (repeat (first|with_reducible refine wV fun _=>?_|simp [go_sem, he, hj, hj', e1]))
    refine ALoop.start (hrec (d - 1) (by omega) (j + 1) ⟨by omega, by omega, ?_⟩) ?_ (by simp)
    ·rw [i3, Nat.add_sub_cancel, List.take_add_one, List.getElem?_eq_getElem hj, nth_eq _ _ hj, Option.toList_some, List.append_assoc]; rfl
    ·simp [go_sem, Wk_eq]
  ·rw [List.drop_eq_nil_of_le hj, List.take_of_length_le hj, dedupGo, List.append_nil] at i3
   rw [i3]
   (repeat (first|with_reducible refine wV fun _=>?_|simp [go_sem]))
   simp [go_sem, Wk_eq]
 ·refine ⟨Nat.le_refl _, by omega, ?_⟩
  cases l with
  | nil => simp at h2
  | cons a l => rw [hD]; rfl
 ·simp [go_sem, Wk_eq]
 ·simp
theorem bel_map_pos {n : Nat} (l : List PosD) : ∀ r ∈ l.map encPos, ∀ c ∈ r, Bel n c := of_eq_true bel_P
theorem compactP_call (l : List PosD) (gn : Nat) (hl : l.length ≤ 17179869184) (hf : ∀ o ∈ l, FitsP o) {h : Heap} {n o : Nat} (ho : h o = some (.rows true gn 5 (l.map encPos))) (hon : o < n) {K : CallK}
  (hK : K (.sl o gn 5 0 (dedup l).length) (upd h o (some (.rows true gn 5 ((dedup l).map encPos ++ List.replicate (l.length - (dedup l).length) zeroQ)))) n) :
  ACallP Tryz.prog 141 [.sl o gn 5 0 l.length, .fn (.func 142) [] []] h n K := by
 have hz : ∀ m, ∀ r ∈ (dedup l).map encPos ++ List.replicate (l.length - (dedup l).length) zeroQ, ∀ c ∈ r, Bel m c := by
  intro m r hr c hc
  rcases List.mem_append.1 hr with hr | hr
  ·exact bel_map_pos _ r hr c hc
  ·rw [List.eq_of_mem_replicate hr] at hc
   simp only [zeroQ, List.mem_cons, List.not_mem_nil, or_false] at hc
   rcases hc with rfl | rfl | rfl | rfl | rfl <;> exact .v _
 refine ACallP.ownsA (args' := [.sl o gn 5 0 l.length, .fn (.func 142) [] []]) (HH := [(o, .rows true gn 5 ((dedup l).map encPos ++ List.replicate (l.length - (dedup l).length) zeroQ))])
  [o] h (CompactP_owns l gn hl hf) (by simp) (by simpa using hon) rfl (Nat.le_refl _) (.refl _) ?_ ?_ (.refl _ _ _ _) ?_ ?_ ?_ (.sl rfl) ?_ ?_
 ·intro j hj
  obtain rfl : j = 0 := by omega
  exact ⟨_, _, rfl, ho, .rows (.same (bel_map_pos _))⟩
 ·intro p hp
  simp only [List.mem_singleton] at hp
  subst hp
  exact ⟨Nat.le_of_ble_eq_true rfl, bel_map_pos _⟩
 ·intro y hy
  simp only [List.mem_cons, List.not_mem_nil, or_false] at hy
  rcases hy with rfl | rfl
  ·exact .sl hon
  ·simp [go_sem]
 ·exact .cons (.sl rfl) (.cons (.same (by simp [go_sem])) .nil)
 ·intro y hy
  simp only [List.mem_cons, List.not_mem_nil, or_false] at hy
  rcases hy with rfl | rfl
  ·exact .sl (by decide)
  ·simp [go_sem]
 ·exact .cons rfl (.rows (.same (hz 0))) .nil
 ·have e : over [(o, .rows true gn 5 ((dedup l).map encPos ++ List.replicate (l.length - (dedup l).length) zeroQ))] (remH [o] h) = upd h o (some (.rows true gn 5 ((dedup l).map encPos ++ List.replicate (l.length - (dedup l).length) zeroQ))) := by
   funext j
   simp only [over, remH, upd]
   by_cases j1 : j = o
   ·simp [j1]
   ·simp [j1]
  rw [e, Nat.sub_self, Nat.add_zero]
  exact hK
theorem compactP_call2 (l : List PosD) (gn m : Nat) (hm : l.length = m) (hl : m ≤ 17179869184) (hf : ∀ o ∈ l, FitsP o) {h : Heap} {n o : Nat} (ho : h o = some (.rows true gn 5 (l.map encPos))) (hon : o < n) {K : CallK}
  (hK : K (.sl o gn 5 0 (dedup l).length) (upd h o (some (.rows true gn 5 ((dedup l).map encPos ++ List.replicate (l.length - (dedup l).length) zeroQ)))) n) :
  ACallP Tryz.prog 141 [.sl o gn 5 0 m, .fn (.func 142) [] []] h n K := by
 subst hm
 exact compactP_call l gn hl hf ho hon hK
theorem swo_pos : Go.Sort.SWO (fun a b : PosD => decide (cmpP a b < 0)) := by
 refine ⟨fun x => ?_, fun x y z h1 h2 => ?_, fun x y z h1 h2 => ?_⟩
 ·have := cmp_pos.swap x x
  simp; omega
 ·simp only [decide_eq_true_eq] at h1 h2 ⊢
  have t := cmp_pos.tr x y z (by omega) (by omega)
  rcases Int.lt_or_eq_of_le t with h | h
  ·exact h
  ·have e := (cmp_pos.eq _ _).1 h
   subst e
   have := cmp_pos.swap x y
   omega
 ·simp only [decide_eq_false_iff_not] at h1 h2 ⊢
  have s1 := cmp_pos.swap x y
  have s2 := cmp_pos.swap y z
  have s3 := cmp_pos.swap x z
  have t := cmp_pos.tr z y x (by omega) (by omega)
  omega
theorem sortP_call (l : List PosD) (hf : ∀ o ∈ l, FitsP o) (hl : l.length < 4611686018427387904) {h : Heap} {n o gn : Nat} (ho : h o = some (.rows true gn 5 (l.map encPos))) {K : CallK}
  (hK : K (.tup []) (upd h o (some (.rows true gn 5 ((sortC cmpP l).map encPos)))) n) :
  ACallP Tryz.prog 140 [.sl o gn 5 0 l.length, .fn (.func 42) [] []] h n K := by
 refine ACallP.sortFunc zsortP (k := 5) (by omega) Tryz.isAgg45 Tryz.sizeOf45 encPos (fun _ => rfl) ?_ (fun o => FitsP o) cmpP swo_pos _ (fun x y hx hy => pCompare_pure x y hx hy) ?_ l hf hl ho ?_
 ·intro x
  simp [go_sem]
 ·exact (pCompare_pure default default (by unfold FitsP Fits; decide) (by unfold FitsP Fits; decide)).1
 ·intro l' hp hs
  have : sortC cmpP l = l' := sortC_unique cmp_pos hp (hs.imp fun {a b} hab => by
   have := cmp_pos.swap a b
   simp only [leC, decide_eq_true_eq]
   omega)
  rw [← this]
  exact hK
end Go.Av
end
section
/- Contracts: slices.Clone of positions, pos.Sort, run.Runs. -/
open Go Go.Proofs
namespace Go.Av
theorem CloneP_owns (l : List PosD) (hl : l.length ≤ 17179869184) : Owns Tryz.prog 139 [encPs l] (fun n => .sl n 1 5 0 l.length) (fun n => [(n, .rows true 1 5 (l.map encPos))]) 1 := by
 refine ⟨?_, fun n => ⟨by simp [go_sem], by simp [go_sem]⟩⟩
 refine ACallP.emp (fun hne => ?_) (fun he A c => ?_)
 ·obtain ⟨x, l, rfl⟩ := List.exists_cons_of_ne_nil (show l ≠ [] by intro h; subst h; exact hne rfl)
  simp only [List.length_cons] at hl
  refine ACallP.of_awp (by kernel_rfl) Tryz.func139 rfl rfl (Nat.le_of_ble_eq_true rfl) (by kernel_rfl) ?_
  (repeat (first|with_reducible refine wV fun _=>?_|simp [go_sem]))
  simp [go_sem, Wk_eq]
 ·obtain rfl : l = [] := by simpa using he
  refine ACallP.of_awp (by kernel_rfl) Tryz.func139 rfl rfl (Nat.le_of_ble_eq_true rfl) (by kernel_rfl) ?_
  (repeat (first|with_reducible refine wV fun _=>?_|simp [go_sem]))
  refine aIf.mkL (fun h => ?_) (fun h => ?_)
  ·simp at h
   subst h
   simp [go_sem, Wk_eq]
  ·simp [go_sem, Wk_eq]
theorem pSort_pure (l : List PosD) (hl : l.length ≤ 17179869184) (hf : ∀ p ∈ l, FitsP p) : Pure Tryz.prog 76 [encPs l] (encPs (sortU cmpP l)) := by
 refine pF Tryz.func76 ?_
 have hC := CloneP_owns l hl
 (repeat (first|with_reducible refine wV fun _=>?_|simp [go_sem]))
 refine ACallP.ownsPlain hC (by simp [go_sem]) ?_
 (repeat (first|with_reducible refine wV fun _=>?_|simp [go_sem]))
 refine sortP_call l hf (by omega) (o := 0) (gn := 1) (by simp [upd]) ?_
 (repeat (first|with_reducible refine wV fun _=>?_|simp [go_sem]))
 refine compactP_call2 (sortC cmpP l) 1 l.length (sortC_len l) (by omega) (fun p hp => hf p (sortC_mem.1 hp)) (o := 0) (by simp [upd]) (by omega) ?_
 (repeat (first|with_reducible refine wV fun _=>?_|simp [go_sem]))
 exact leV_frz rfl (by simp) (by simp [noH, upd]) (by rw [List.drop_zero]; exact List.take_left' (by simp))
theorem rRun_call (g : GameD) (hg : GOk g) (p : PosD) (hp : POk g p) (cell i : Int) (hc : ChoiceOk g p cell i) {h : Heap} {n a b : Nat} (hd : [a, b].Nodup) (hlt : ∀ j ∈ [a, b], j < n)
  (ha : h a = some (.rows true 0 5 [encPos p])) (hb : h b = some (.rows true 0 1 [[AV.nils]])) {K : CallK}
  (hK : K (.v (.int .i64 0)) (upd (upd (upd h a (some (.rows true 0 5 [encPos p]))) b (some (.rows true 0 1 [[.sl (n + 245) (lastO g p cell i).length 6 0 (lastO g p cell i).length]]))) (n + 245) (some (.rows true (lastO g p cell i).length 6 ((lastO g p cell i).map encOut)))) (n + 246)) :
  ACallP Tryz.prog 119 [.agg (encGame g), .agg (encPos p), .v (.int .i64 cell), .v (.int .i64 i), .fn (.func 120) [] [.ref a 0 5 0 0, .ref b 0 1 0 0]] h n K := by
 have hbg : ∀ m, Bel m (.agg (encGame g)) := fun m => by simp [go_sem]
 have hbp : ∀ m, ∀ c ∈ encPos p, Bel m c := fun m => by simp [go_sem]
 have hbq : ∀ m, Bel m (.agg (encPos p)) := fun m => by simp [go_sem]
 have han := hlt a (by simp)
 have hbn := hlt b (by simp)
 have hrows : ∀ m, ∀ r ∈ [encPos p], ∀ c ∈ r, Bel m c := fun m r hr => by simp only [List.mem_singleton] at hr; subst hr; exact hbp m
 refine ACallP.ownsA (args' := [.agg (encGame g), .agg (encPos p), .v (.int .i64 cell), .v (.int .i64 i), .fn (.func 120) [] [.ref a 0 5 0 0, .ref b 0 1 0 0]])
  (HH := [(a, .rows true 0 5 [encPos p]), (b, .rows true 0 1 [[.sl (n + 245) (lastO g p cell i).length 6 0 (lastO g p cell i).length]]), (n + 245, .rows true (lastO g p cell i).length 6 ((lastO g p cell i).map encOut))])
  [a, b] h (run_owns g hg p hp cell i hc) hd hlt rfl (by omega) (.refl _) ?_ ?_ (.refl _ _ _ _) ?_ ?_ ?_ (.same (.v _)) ?_ ?_
 ·intro j hj
  rcases (show j = 0 ∨ j = 1 by omega) with rfl | rfl
  ·exact ⟨_, _, rfl, ha, .rows (.same (hrows _))⟩
  ·exact ⟨_, _, rfl, hb, .rows (.same (by simp [go_sem]))⟩
 ·intro q hq
  simp only [List.mem_cons, List.not_mem_nil, or_false] at hq
  rcases hq with rfl | rfl
  ·exact ⟨Nat.le_of_ble_eq_true rfl, hrows _⟩
  ·exact ⟨Nat.le_of_ble_eq_true rfl, by simp [go_sem, BelO]⟩
 ·simp [go_sem, han, hbn]
 ·exact .cons (.same (hbg _)) (.cons (.same (hbq _)) (.cons (.same (.v _)) (.cons (.same (.v _)) (.cons (.fn .nil (.cons (.ref rfl) (.cons (.ref rfl) .nil))) .nil))))
 ·simp [go_sem]
 ·exact .cons rfl (.rows (.same (hrows _))) (.cons rfl (.rows (.cons (.cons (.sl rfl) .nil) .nil)) (.cons rfl (.rows (.same (bel_map_out _))) .nil))
 ·have e : over [(a, .rows true 0 5 [encPos p]), (b, .rows true 0 1 [[.sl (n + 245) (lastO g p cell i).length 6 0 (lastO g p cell i).length]]), (n + 245, .rows true (lastO g p cell i).length 6 ((lastO g p cell i).map encOut))] (remH [a, b] h) =
    upd (upd (upd h a (some (.rows true 0 5 [encPos p]))) b (some (.rows true 0 1 [[.sl (n + 245) (lastO g p cell i).length 6 0 (lastO g p cell i).length]]))) (n + 245) (some (.rows true (lastO g p cell i).length 6 ((lastO g p cell i).map encOut))) := by
   simp only [List.nodup_cons, List.mem_cons, List.not_mem_nil, or_false, not_or, List.nodup_nil, and_true, not_false_eq_true] at hd
   have na : a ≠ n + 245 := by omega
   have nb : b ≠ n + 245 := by omega
   funext j
   simp only [over, remH, upd]
   by_cases j1 : j = a
   ·subst j1; simp [hd, na]
   ·by_cases j2 : j = b
    ·subst j2; simp [j1, nb]
    ·by_cases j3 : j = n + 245
     ·subst j3; simp [j1, j2]
     ·simp [j1, j2, j3]
  rw [e]
  exact hK
theorem rRuns_pure (g : GameD) (hg : GOk g) (p : PosD) (hp : POk g p) (cell i : Int) (hc : ChoiceOk g p cell i) :
  Pure Tryz.prog 61 [.agg (encGame g), .agg (encPos p), .v (.int .i64 cell), .v (.int .i64 i)] (.tup [encOs (runsP g p cell i), .v (.int .i64 0)]) := by
 refine pF Tryz.func61 ?_
 have hl := (lastS_ok hg hp hc)
 have hll : (lastO g p cell i).length ≤ 100000000 := Nat.le_trans (List.length_filterMap_le _ _) hl.2
 have hf : ∀ o ∈ lastO g p cell i, FitsP o.pos := by
  intro o ho
  obtain ⟨s, hs, h⟩ := List.mem_filterMap.1 ho
  exact (putS_ok hg (hl.1 s hs).1 hp.s h).1.fits hg
 have hr : runsP g p cell i = sortU cmpO (lastO g p cell i) := rfl
 rw [hr]
 (repeat (first|with_reducible refine wV fun _=>?_|simp [go_sem]))
 refine rRun_call g hg p hp cell i hc (a := 1) (b := 2) (by decide) (by simp) (by simp [upd, encPos, encIs]) (by simp [upd]) ?_
 generalize lastO g p cell i = l at *
 (repeat (first|with_reducible refine wV fun _=>?_|simp [go_sem]))
 refine sortR_call l hf (by omega) (o := 248) (gn := l.length) (by simp [upd]) ?_
 (repeat (first|with_reducible refine wV fun _=>?_|simp [go_sem]))
 refine compactR_call2 (sortC cmpO l) l.length l.length (sortC_len l) (by omega) (fun o ho => hf o (sortC_mem.1 ho)) (o := 248) (by simp [upd]) (by omega) ?_
 (repeat (first|with_reducible refine wV fun _=>?_|simp [go_sem]))
 exact leV_frz rfl (by simp) (by simp [noH, upd]) (by rw [List.drop_zero]; exact List.take_left' (by simp))
end Go.Av
end
section
/- Contracts: run.Drops. -/
open Go Go.Proofs
namespace Go.Av
theorem rDrops_pure (g : GameD) (hg : GOk g) (p : PosD) (hp : POk g p) : Pure Tryz.prog 77 [.agg (encGame g), .agg (encPos p)] (encPs (dropsP g p)) := by
 refine pF Tryz.func77 ?_
 have hal := hp.al
 have c9 := hg.c9
 have k6 := hg.k6
 have hcp := own_owns ⟨p, 0, 0, false⟩ (hp.fits hg)
 have hl0 := hp.h0.len
 have hl1 := hp.h1.len
 have hps := hp.s
 rcases hp.s with hsd | hsd
 ·have hsn : p.side.toNat = 0 := by omega
  (repeat (first|with_reducible refine wV fun _=>?_|simp [go_sem, hsn, hsd]))
  refine ALoop.start (ALoop.ind (α := Nat) (fun k => ⟨[(3, .ref 1 0 5 0 0), (5, .sl 2 (dropsK g p k).length 5 0 (dropsK g p k).length), (15, encIs p.h0), (16, .v (.int .i64 p.h0.length)), (17, .v (.int .i64 k))], [(1, .rows true 0 5 [encPos p]), (2, .rows true (dropsK g p k).length 5 ((dropsK g p k).map encPos))], 3⟩)
   (fun d k => k + d = g.kinds.length) ?_ g.kinds.length 0 ?_) ?_ ?_
  ·rintro d k k1 hrec
   (repeat (first|with_reducible refine wV fun _=>?_|simp [go_sem]))
   refine aIf.mkL (fun hk => ?_) (fun hk => ?_) <;> simp at hk
   ·have hz := dropsC_zero g p k
    have ha := dropsC_all g p k
    have hkh : k < p.h0.length := by omega
    have hhv := hp.h0.v k hkh
    (repeat (first|with_reducible refine wV fun _=>?_|simp [go_sem, hkh]))
    refine ALoop.start (ALoop.ind (α := Nat) (fun c => ⟨[(3, .ref 1 0 5 0 0), (5, .sl 2 (dropsC g p k c).length 5 0 (dropsC g p k c).length), (6, .v (.int .i64 k)), (7, .v (.int .i64 (nth p.h0 k))), (15, encIs p.h0), (16, .v (.int .i64 p.h0.length)), (17, .v (.int .i64 k)), (23, encIs p.at_), (24, .v (.int .i64 p.at_.length)), (25, .v (.int .i64 c))], [(1, .rows true 0 5 [encPos p]), (2, .rows true (dropsC g p k c).length 5 ((dropsC g p k c).map encPos))], 3⟩)
     (fun d c => c + d = p.at_.length) ?_ p.at_.length 0 ?_) ?_ ?_
    ·rintro d2 c c1 hrec2
     (repeat (first|with_reducible refine wV fun _=>?_|simp [go_sem]))
     refine aIf.mkL (fun hci => ?_) (fun hci => ?_) <;> simp at hci
     ·have hD : dropP g p k c = if nth (p.hand p.side) k = 0 ∨ nth p.at_ c ≠ 0 then none
       else some { ({ p with at_ := p.at_.set c (codeOf k p.side) }.withHand p.side ((p.hand p.side).set k (nth (p.hand p.side) k - 1))) with side := 1 - p.side } := rfl
      have hD' : dropP g p k c = if nth p.h0 k = 0 ∨ nth p.at_ c ≠ 0 then none else some { p with at_ := p.at_.set c (codeOf k p.side), h0 := p.h0.set k (nth p.h0 k - 1), side := 1 - p.side } := by
       rw [hD]; simp [PosD.hand, PosD.withHand, hsd]
      have hCd := gCode_pure (k : Int) p.side
      rw [hsd] at hCd hD'
      (repeat (first|with_reducible refine wV fun _=>?_|simp [go_sem, hci]))
      refine aIf.mkL (fun hcc => ?_) (fun hcc => ?_) <;> simp at hcc
      ·rw [if_pos (by omega)] at hD'
       have hsu := dropsC_succ g p k c
       rw [hD'] at hsu
       simp only [Option.toList_none, List.append_nil] at hsu
       (repeat (first|with_reducible refine wV fun _=>?_|simp [go_sem]))
       refine ALoop.start (hrec2 (d2 - 1) (by omega) (c + 1) (by omega)) ?_ (by simp)
       simp [go_sem, Wk_eq, hsd, hsu]
      ·rw [if_neg (by omega)] at hD'
       have hsu := dropsC_succ g p k c
       rw [hD'] at hsu
       simp only [Option.toList_some] at hsu
       have hcl := dropsC_len g p k c
       have hkm : k * p.at_.length ≤ 6 * 9 := Nat.mul_le_mul (by omega) (by omega)
       (repeat (first|with_reducible refine wV fun _=>?_|simp [go_sem, hci]))
       refine ACallP.ownsPlain hcp (by simp [go_sem]) ?_
       (repeat (first|with_reducible refine wV fun _=>?_|simp [go_sem, hci, hsd]))
       refine dCall.plain hCd (by simp [go_sem]) ?_
       (repeat (first|with_reducible refine wV fun _=>?_|simp [go_sem, hsn, hsd, hci, hkh]))
       refine ALoop.start (hrec2 (d2 - 1) (by omega) (c + 1) (by omega)) ?_ (by simp)
       simp [go_sem, Wk_eq, hsd, hsu]
       (first|done|exact rwX)
     ·have hcl : c = p.at_.length := by omega
      subst hcl
      rw [ha]
      (repeat (first|with_reducible refine wV fun _=>?_|simp [go_sem]))
      refine ALoop.start (hrec (d - 1) (by omega) (k + 1) (by omega)) ?_ (by simp)
      simp [go_sem, Wk_eq, hsd]
    ·omega
    ·simp [go_sem, Wk_eq, hsd, hz]
    ·simp
   ·have hkl : k = g.kinds.length := by omega
    subst hkl
    have hdl := dropsK_len g p g.kinds.length
    have hkm : g.kinds.length * p.at_.length ≤ 6 * 9 := Nat.mul_le_mul k6 (by omega)
    have hS := pSort_pure (dropsK g p g.kinds.length) (by omega) (fun q hq => by
     rw [dropsK_all] at hq
     obtain ⟨k, hk, hq⟩ := List.mem_flatMap.1 hq
     obtain ⟨c, hc, hq⟩ := List.mem_filterMap.1 hq
     exact (dropP_ok hg hp (by simpa using hk) hq).1.fits hg)
    rw [show sortU cmpP (dropsK g p g.kinds.length) = dropsP g p from rfl] at hS
    generalize dropsK g p g.kinds.length = l at *
    generalize dropsP g p = r at *
    (repeat (first|with_reducible refine wV fun _=>?_|simp [go_sem]))
    refine ACallP.pureF [2] hS ?_ (bel1 (bel_encPs _)) ?_
    ·(first|done|exact agX)
    ·(repeat (first|with_reducible refine wV fun _=>?_|simp [go_sem]))
  ·omega
  ·simp [go_sem, Wk_eq, hsd, show dropsK g p 0 = [] from rfl]
  ·simp
 ·have hsn : p.side.toNat = 1 := by omega
  (repeat (first|with_reducible refine wV fun _=>?_|simp [go_sem, hsn, hsd]))
  refine ALoop.start (ALoop.ind (α := Nat) (fun k => ⟨[(3, .ref 1 0 5 0 0), (5, .sl 2 (dropsK g p k).length 5 0 (dropsK g p k).length), (15, encIs p.h1), (16, .v (.int .i64 p.h1.length)), (17, .v (.int .i64 k))], [(1, .rows true 0 5 [encPos p]), (2, .rows true (dropsK g p k).length 5 ((dropsK g p k).map encPos))], 3⟩)
   (fun d k => k + d = g.kinds.length) ?_ g.kinds.length 0 ?_) ?_ ?_
  ·rintro d k k1 hrec
   (repeat (first|with_reducible refine wV fun _=>?_|simp [go_sem]))
   refine aIf.mkL (fun hk => ?_) (fun hk => ?_) <;> simp at hk
   ·have hz := dropsC_zero g p k
    have ha := dropsC_all g p k
    have hkh : k < p.h1.length := by omega
    have hhv := hp.h1.v k hkh
    (repeat (first|with_reducible refine wV fun _=>?_|simp [go_sem, hkh]))
    refine ALoop.start (ALoop.ind (α := Nat) (fun c => ⟨[(3, .ref 1 0 5 0 0), (5, .sl 2 (dropsC g p k c).length 5 0 (dropsC g p k c).length), (6, .v (.int .i64 k)), (7, .v (.int .i64 (nth p.h1 k))), (15, encIs p.h1), (16, .v (.int .i64 p.h1.length)), (17, .v (.int .i64 k)), (23, encIs p.at_), (24, .v (.int .i64 p.at_.length)), (25, .v (.int .i64 c))], [(1, .rows true 0 5 [encPos p]), (2, .rows true (dropsC g p k c).length 5 ((dropsC g p k c).map encPos))], 3⟩)
     (fun d c => c + d = p.at_.length) ?_ p.at_.length 0 ?_) ?_ ?_
    ·rintro d2 c c1 hrec2
     (repeat (first|with_reducible refine wV fun _=>?_|simp [go_sem]))
     refine aIf.mkL (fun hci => ?_) (fun hci => ?_) <;> simp at hci
     ·have hD : dropP g p k c = if nth (p.hand p.side) k = 0 ∨ nth p.at_ c ≠ 0 then none
       else some { ({ p with at_ := p.at_.set c (codeOf k p.side) }.withHand p.side ((p.hand p.side).set k (nth (p.hand p.side) k - 1))) with side := 1 - p.side } := rfl
      have hD' : dropP g p k c = if nth p.h1 k = 0 ∨ nth p.at_ c ≠ 0 then none else some { p with at_ := p.at_.set c (codeOf k p.side), h1 := p.h1.set k (nth p.h1 k - 1), side := 1 - p.side } := by
       rw [hD]; simp [PosD.hand, PosD.withHand, hsd]
      have hCd := gCode_pure (k : Int) p.side
      rw [hsd] at hCd hD'
      (repeat (first|with_reducible refine wV fun _=>?_|simp [go_sem, hci]))
      refine aIf.mkL (fun hcc => ?_) (fun hcc => ?_) <;> simp at hcc
      ·rw [if_pos (by omega)] at hD'
       have hsu := dropsC_succ g p k c
       rw [hD'] at hsu
       simp only [Option.toList_none, List.append_nil] at hsu
       (repeat (first|with_reducible refine wV fun _=>?_|simp [go_sem]))
       refine ALoop.start (hrec2 (d2 - 1) (by omega) (c + 1) (by omega)) ?_ (by simp)
       simp [go_sem, Wk_eq, hsd, hsu]
      ·rw [if_neg (by omega)] at hD'
       have hsu := dropsC_succ g p k c
       rw [hD'] at hsu
       simp only [Option.toList_some] at hsu
       have hcl := dropsC_len g p k c
       have hkm : k * p.at_.length ≤ 6 * 9 := Nat.mul_le_mul (by omega) (by omega)
       (repeat (first|with_reducible refine wV fun _=>?_|simp [go_sem, hci]))
       refine ACallP.ownsPlain hcp (by simp [go_sem]) ?_
       (repeat (first|with_reducible refine wV fun _=>?_|simp [go_sem, hci, hsd]))
       refine dCall.plain hCd (by simp [go_sem]) ?_
       (repeat (first|with_reducible refine wV fun _=>?_|simp [go_sem, hsn, hsd, hci, hkh]))
       refine ALoop.start (hrec2 (d2 - 1) (by omega) (c + 1) (by omega)) ?_ (by simp)
       simp [go_sem, Wk_eq, hsd, hsu]
       (first|done|exact rwX)
     ·have hcl : c = p.at_.length := by omega
      subst hcl
      rw [ha]
      (repeat (first|with_reducible refine wV fun _=>?_|simp [go_sem]))
      refine ALoop.start (hrec (d - 1) (by omega) (k + 1) (by omega)) ?_ (by simp)
      simp [go_sem, Wk_eq, hsd]
    ·omega
    ·simp [go_sem, Wk_eq, hsd, hz]
    ·simp
   ·have hkl : k = g.kinds.length := by omega
    subst hkl
    have hdl := dropsK_len g p g.kinds.length
    have hkm : g.kinds.length * p.at_.length ≤ 6 * 9 := Nat.mul_le_mul k6 (by omega)
    have hS := pSort_pure (dropsK g p g.kinds.length) (by omega) (fun q hq => by
     rw [dropsK_all] at hq
     obtain ⟨k, hk, hq⟩ := List.mem_flatMap.1 hq
     obtain ⟨c, hc, hq⟩ := List.mem_filterMap.1 hq
     exact (dropP_ok hg hp (by simpa using hk) hq).1.fits hg)
    rw [show sortU cmpP (dropsK g p g.kinds.length) = dropsP g p from rfl] at hS
    generalize dropsK g p g.kinds.length = l at *
    generalize dropsP g p = r at *
    (repeat (first|with_reducible refine wV fun _=>?_|simp [go_sem]))
    refine ACallP.pureF [2] hS ?_ (bel1 (bel_encPs _)) ?_
    ·(first|done|exact agX)
    ·(repeat (first|with_reducible refine wV fun _=>?_|simp [go_sem]))
  ·omega
  ·simp [go_sem, Wk_eq, hsd, show dropsK g p 0 = [] from rfl]
  ·simp
end Go.Av
end
section
/- Contracts, moves: men, Condition, Ended of the reference. -/
open Go Go.Proofs
namespace Go.Av
theorem countP_take (f : Int → Bool) (l : List Int) {i : Nat} (h : i < l.length) : (l.take (i + 1)).countP f = (l.take i).countP f + (if f (nth l i) then 1 else 0) := by
 rw [List.take_add_one, List.getElem?_eq_getElem h, nth_eq _ _ h, Option.toList_some, List.countP_append]
 simp [List.countP_cons]
theorem R6men_pure (p : PosD) (hp : FitsP p) (side kind : Int) : Pure Tryz.prog 284 [.agg (encPos p), .v (.int .i64 side), .v (.int .i64 kind)] (.v (.int .i64 (menP p side kind))) := by
 refine pF Tryz.func284 ?_
 obtain ⟨f1, _, _⟩ := hp
 unfold Fits at f1
 (repeat (first|with_reducible refine wV fun _=>?_|simp [go_sem]))
 refine ALoop.start (ALoop.ind (α := Nat) (fun i => ⟨[(1, .v (.int .i64 side)), (2, .v (.int .i64 kind)), (3, .ref 0 0 5 0 0), (7, .v (.int .i64 ((p.at_.take i).countP (isMan p side kind) : Nat))), (8, .v (.int .i64 i))], [(0, .rows true 0 5 [encPos p])], 1⟩)
  (fun d i => i + d = p.at_.length) ?_ p.at_.length 0 ?_) ?_ ?_
 ·rintro d i i1 hrec
  (repeat (first|with_reducible refine wV fun _=>?_|simp [go_sem]))
  refine aIf.mkL (fun hi => ?_) (fun hi => ?_) <;> simp at hi
  ·have hO := R3Of_pure (nth p.at_ i)
   have hcs := countP_take (isMan p side kind) p.at_ hi
   have hle : (p.at_.take i).countP (isMan p side kind) ≤ i := Nat.le_trans List.countP_le_length (by simp; omega)
   have hM : isMan p side kind (nth p.at_ i) = (decide (0 ≤ (manOf (nth p.at_ i)).1) && decide ((manOf (nth p.at_ i)).2 = side) && (decide (kind < 0) || decide ((manOf (nth p.at_ i)).1 = kind))) := rfl
   generalize manOf (nth p.at_ i) = m at *
   (repeat (first|with_reducible refine wV fun _=>?_|simp [go_sem, hi]))
   refine ACallP.plain hO (by simp [go_sem]) ?_
   (repeat (first|with_reducible refine wV fun _=>?_|simp [go_sem]))
   by_cases hm : isMan p side kind (nth p.at_ i) = true
   ·have hm' := hm
    rw [hM] at hm'
    rw [if_pos hm] at hcs
    simp only [hm']
    (repeat (first|with_reducible refine wV fun _=>?_|simp [go_sem]))
    refine ALoop.start (hrec (d - 1) (by omega) (i + 1) (by omega)) ?_ (by simp)
    simp [go_sem, Wk_eq, hcs]
   ·have hm' := hm
    rw [hM] at hm'
    rw [if_neg hm] at hcs
    simp only [Bool.not_eq_true] at hm'
    simp only [hm']
    (repeat (first|with_reducible refine wV fun _=>?_|simp [go_sem]))
    refine ALoop.start (hrec (d - 1) (by omega) (i + 1) (by omega)) ?_ (by simp)
    simp [go_sem, Wk_eq, hcs]
  ·have hil : i = p.at_.length := by omega
   subst hil
   have hM : menP p side kind = (p.at_.take p.at_.length).countP (isMan p side kind) := by rw [List.take_length]; rfl
   rw [hM]
   (repeat (first|with_reducible refine wV fun _=>?_|simp [go_sem]))
 ·omega
 ·simp [go_sem, Wk_eq]
 ·simp
theorem R6Condition_pure (g : GameD) (hg : GOk g) (p : PosD) (hp : POk g p) (c : Int × Int × Int × Int) (hc : ClauseOk g.cells g.kinds.length c) :
  Pure Tryz.prog 256 [.agg (encClause c), .agg (encPos p)] (.v (.bool (condP c p))) := by
 refine pF Tryz.func256 ?_
 have hps := hp.s
 have hal := hp.al
 have hM := fun s k => R6men_pure p (hp.fits hg) s k
 have hml : ∀ s k, menP p s k ≤ 9 := fun s k => Nat.le_trans List.countP_le_length (by have := hg.c9; omega)
 obtain ⟨c0, c1, c2, c3⟩ := c
 obtain ⟨k1, k2, k3, k4, k5⟩ := hc
 simp only at k1 k2 k3 k4 k5
 unfold condP
 rcases k1 with rfl | rfl | rfl
 ·have h1 := hM p.side c1
  (repeat (first|with_reducible refine wV fun _=>?_|simp [go_sem]))
  refine ACallP.plain h1 (by simp [go_sem]) ?_
  (repeat (first|with_reducible refine wV fun _=>?_|simp [go_sem]))
 ·have hci : c2.toNat < p.at_.length := by omega
  (repeat (first|with_reducible refine wV fun _=>?_|simp [go_sem, hci]))
  refine dCall.plain (R3Code_pure c1 (1 - p.side)) (by simp [go_sem]) ?_
  (repeat (first|with_reducible refine wV fun _=>?_|simp [go_sem, hci]))
 ·have h1 := hM p.side (-1)
  have := hml p.side (-1)
  (repeat (first|with_reducible refine wV fun _=>?_|simp [go_sem]))
  refine dCall.plain h1 (by simp [go_sem]) ?_
  (repeat (first|with_reducible refine wV fun _=>?_|simp [go_sem]))
theorem findIdx_some {α : Type} [Inhabited α] (f : α → Bool) (l : List α) {i : Nat} (hi : i < l.length) (hb : ∀ j, j < i → f (nth l j) = false) (h : f (nth l i) = true) : l.findIdx? f = some i := by
 rw [List.findIdx?_eq_some_iff_getElem]
 refine ⟨hi, by rw [← nth_eq _ _ hi]; exact h, fun j hj => ?_⟩
 have := hb j hj
 rw [nth_eq _ _ (by omega)] at this
 simp [this]
theorem findIdx_none {α : Type} [Inhabited α] (f : α → Bool) (l : List α) (hb : ∀ j, j < l.length → f (nth l j) = false) : l.findIdx? f = none := by
 rw [List.findIdx?_eq_none_iff]
 intro x hx
 obtain ⟨j, hj, rfl⟩ := List.getElem_of_mem hx
 have := hb j hj
 rwa [nth_eq _ _ hj] at this
theorem R6Ended_pure (g : GameD) (hg : GOk g) (p : PosD) (hp : POk g p) : Pure Tryz.prog 193 [.agg (encGame g), .agg (encPos p)] (.v (.int .i64 (endedP g p))) := by
 refine pF Tryz.func193 ?_
 have hcn := hg.cn
 (repeat (first|with_reducible refine wV fun _=>?_|simp [go_sem]))
 refine ALoop.start (ALoop.ind (α := Nat) (fun i => ⟨[(2, .ref 0 0 9 0 0), (3, .ref 1 0 5 0 0), (5, .v (.int .i64 i))], [(0, .rows true 0 9 [encGame g]), (1, .rows true 0 5 [encPos p])], 2⟩)
  (fun d i => i + d = g.clauses.length ∧ ∀ j, j < i → condP (nth g.clauses j) p = false) ?_ g.clauses.length 0 ?_) ?_ ?_
 ·rintro d i ⟨i1, i2⟩ hrec
  (repeat (first|with_reducible refine wV fun _=>?_|simp [go_sem]))
  refine aIf.mkL (fun hi => ?_) (fun hi => ?_) <;> simp at hi
  ·have hC := R6Condition_pure g hg p hp _ (hg.cl _ (nth_mem hi))
   (repeat (first|with_reducible refine wV fun _=>?_|simp [go_sem, hi]))
   refine dCall.plain hC (by simp [go_sem]) ?_
   (repeat (first|with_reducible refine wV fun _=>?_|simp [go_sem]))
   by_cases hc : condP (nth g.clauses i) p = true
   ·have he : endedP g p = i := by unfold endedP; rw [findIdx_some (fun c => condP c p) g.clauses hi i2 hc]
    (repeat (first|with_reducible refine wV fun _=>?_|simp [go_sem, hc, he]))
   ·(repeat (first|with_reducible refine wV fun _=>?_|simp [go_sem, hc]))
    refine ALoop.start (hrec (d - 1) (by omega) (i + 1) ⟨by omega, fun j hj => ?_⟩) ?_ (by simp)
    ·rcases Nat.lt_or_ge j i with h | h
     ·exact i2 j h
     ·obtain rfl : j = i := by omega
      simpa using hc
    ·simp [go_sem, Wk_eq]
  ·have he : endedP g p = -1 := by unfold endedP; rw [findIdx_none (fun c => condP c p) g.clauses (fun j hj => i2 j (by omega))]
   (repeat (first|with_reducible refine wV fun _=>?_|simp [go_sem, he]))
 ·exact ⟨by simp, fun j hj => by omega⟩
 ·simp [go_sem, Wk_eq]
 ·simp
end Go.Av
end
section
/- Contracts: pos.Count, play.conditions, play.ended. -/
open Go Go.Proofs
namespace Go.Av
def cntL (p : PosD) (side : Int) (K : Nat) (j : Nat) : List Int := (List.range K).map fun (k : Nat) => (((p.at_.take j).countP (isMan p side k) : Nat) : Int)
theorem cntL_len (p : PosD) (side : Int) (K j : Nat) : (cntL p side K j).length = K := by simp [cntL]
theorem nth_cntL (p : PosD) (side : Int) (K j : Nat) {k : Nat} (hk : k < K) : nth (cntL p side K j) k = (((p.at_.take j).countP (isMan p side k) : Nat) : Int) := by
 rw [nth_eq _ _ (by rw [cntL_len]; exact hk)]; simp [cntL]
theorem cntL_succ {p : PosD} {side : Int} {K j : Nat} (hj : j < p.at_.length) : cntL p side K (j + 1) = (List.range K).map fun (k : Nat) => (((p.at_.take j).countP (isMan p side k) + (if isMan p side k (nth p.at_ j) then 1 else 0) : Nat) : Int) := by
 unfold cntL
 refine List.map_congr_left fun k _ => ?_
 rw [countP_take _ _ hj]
theorem cntL_no {p : PosD} {side : Int} {K j : Nat} (hj : j < p.at_.length) (h : ∀ k : Nat, isMan p side k (nth p.at_ j) = false) : cntL p side K (j + 1) = cntL p side K j := by
 rw [cntL_succ hj]
 unfold cntL
 refine List.map_congr_left fun k _ => ?_
 rw [h k]; simp
theorem cntL_yes {p : PosD} {side : Int} {K j m : Nat} (hj : j < p.at_.length) (hm : m < K) (h : ∀ k : Nat, isMan p side k (nth p.at_ j) = decide (k = m)) :
  cntL p side K (j + 1) = (cntL p side K j).set m (nth (cntL p side K j) m + 1) := by
 rw [cntL_succ hj]
 refine List.ext_getElem (by simp [cntL]) fun k h1 h2 => ?_
 have hk : k < K := by simpa using h1
 rw [List.getElem_set]
 by_cases e : m = k
 ·subst e
  rw [if_pos rfl, nth_cntL _ _ _ _ hk]
  simp [h]
 ·rw [if_neg e]
  simp [cntL, h, Ne.symm e]
def countsP (g : GameD) (p : PosD) (side : Int) : List Int := cntL p side g.kinds.length p.at_.length
theorem nth_countsP (g : GameD) (p : PosD) (side : Int) {k : Nat} (hk : k < g.kinds.length) : nth (countsP g p side) k = menP p side k := by
 unfold countsP; rw [nth_cntL _ _ _ _ hk, List.take_length]; rfl
theorem tdiv_half {m s : Int} (h0 : 0 ≤ m) (hs : s = 0 ∨ s = 1) : (1 + 2 * m + s - 1).tmod 2 = s ∧ (1 + 2 * m + s - 1).tdiv 2 = m := by
 rw [Int.tmod_eq_emod_of_nonneg (by omega), Int.tdiv_eq_ediv_of_nonneg (by omega)]
 omega
theorem Count_pure (g : GameD) (hg : GOk g) (p : PosD) (hp : POk g p) (side : Int) (hsd : side = 0 ∨ side = 1) :
  Pure Tryz.prog 329 [.agg (encGame g), .agg (encPos p), .v (.int .i64 side)] (encIs (countsP g p side)) := by
 refine pF Tryz.func329 ?_
 have hal := hp.al
 have c9 := hg.c9
 have k6 := hg.k6
 have hall := fun j => cntL_len p side g.kinds.length j
 have hz : List.replicate g.kinds.length [AV.v (.int .i64 0)] = (cntL p side g.kinds.length 0).map encI := by
  refine List.ext_getElem (by simp [cntL]) fun k h1 h2 => ?_
  simp [cntL, encI]
 (repeat (first|with_reducible refine wV fun _=>?_|simp [go_sem]))
 refine ALoop.start (ALoop.ind (α := Nat) (fun j => ⟨[(2, .v (.int .i64 side)), (7, .sl 2 0 1 0 g.kinds.length), (15, encIs p.at_), (16, .v (.int .i64 p.at_.length)), (17, .v (.int .i64 j))], [(2, .rows true 0 1 ((cntL p side g.kinds.length j).map encI))], 3⟩)
  (fun d j => j + d = p.at_.length) ?_ p.at_.length 0 ?_) ?_ ?_
 ·rintro d j j1 hrec
  (repeat (first|with_reducible refine wV fun _=>?_|simp [go_sem]))
  refine aIf.mkL (fun hj => ?_) (fun hj => ?_) <;> simp at hj
  ·have hat := hp.at (i := j) (by omega)
   have hman := manOf_cases hat.1 hat.2 hg.k6
   have hM : ∀ k : Nat, isMan p side k (nth p.at_ j) = (decide (0 ≤ (manOf (nth p.at_ j)).1) && decide ((manOf (nth p.at_ j)).2 = side) && (decide ((k : Int) < 0) || decide ((manOf (nth p.at_ j)).1 = k))) := fun k => rfl
   have hno := cntL_no (p := p) (side := side) (K := g.kinds.length) hj
   have hyes := fun m => cntL_yes (p := p) (side := side) (K := g.kinds.length) (m := m) hj
   rcases hman with ⟨h0, hm⟩ | ⟨h0, hm0, hmk, hms, he⟩
   ·rw [hm] at hM
    have hno := hno (fun k => by rw [hM]; simp)
    (repeat (first|with_reducible refine wV fun _=>?_|simp [go_sem, hj, h0]))
    refine ALoop.start (hrec (d - 1) (by omega) (j + 1) (by omega)) ?_ (by simp)
    simp [go_sem, Wk_eq, hno]
   ·have ht := tdiv_half hm0 hms
    rw [← he] at ht
    have hpos : 0 < nth p.at_ j := by omega
    by_cases hs : (manOf (nth p.at_ j)).2 = side
    ·obtain ⟨m, hmm⟩ : ∃ m : Nat, (manOf (nth p.at_ j)).1 = m := ⟨(manOf (nth p.at_ j)).1.toNat, by omega⟩
     rw [hmm] at ht hmk
     have hmk' : m < g.kinds.length := by omega
     have hyes := hyes m hmk' (fun k => by rw [hM, hmm, decide_eq_true hs]; by_cases e : k = m <;> simp [e] <;> omega)
     have hb : 0 ≤ nth (cntL p side g.kinds.length j) m ∧ nth (cntL p side g.kinds.length j) m ≤ 9 := by
      rw [nth_cntL _ _ _ _ hmk']
      have : (p.at_.take j).countP (isMan p side m) ≤ (p.at_.take j).length := List.countP_le_length
      rw [List.length_take] at this
      omega
     have hlm : m < (cntL p side g.kinds.length j).length := by rw [hall]; exact hmk'
     rw [hs] at ht
     (repeat (first|with_reducible refine wV fun _=>?_|simp [go_sem, hj, hpos, ht.1, ht.2, hlm, hall, hmk']))
     refine ALoop.start (hrec (d - 1) (by omega) (j + 1) (by omega)) ?_ (by simp)
     simp [go_sem, Wk_eq, hyes, List.map_set, encI]
    ·have hno := hno (fun k => by rw [hM, decide_eq_false hs]; simp)
     (repeat (first|with_reducible refine wV fun _=>?_|simp [go_sem, hj, hpos, ht.1, ht.2, hs]))
     refine ALoop.start (hrec (d - 1) (by omega) (j + 1) (by omega)) ?_ (by simp)
     simp [go_sem, Wk_eq, hno]
  ·have e : j = p.at_.length := by omega
   subst e
   (repeat (first|with_reducible refine wV fun _=>?_|simp [go_sem]))
   exact leV_frz rfl (by simp [hall]) (by simp [noH, upd]) (by simp [countsP]; exact List.take_of_length_le (by simp [hall]))
 ·omega
 ·simp [go_sem, Wk_eq, hz]
 ·simp
end Go.Av
end
section
/- Contracts: play.conditions, play.ended. -/
open Go Go.Proofs
namespace Go.Av
theorem menP_le {g : GameD} (hg : GOk g) {p : PosD} (hp : POk g p) (s k : Int) : menP p s k ≤ 9 := Nat.le_trans List.countP_le_length (by have := hg.c9; have := hp.al; omega)
theorem countsP_len (g : GameD) (p : PosD) (side : Int) : (countsP g p side).length = g.kinds.length := cntL_len _ _ _ _
theorem one_kind (m : Int) (s side : Int) : ∀ K : Nat, 0 ≤ m → ((List.range K).map fun (k : Nat) => if (decide (0 ≤ m) && decide (s = side) && (decide ((k : Int) < 0) || decide (m = k))) = true then (1 : Nat) else 0).sum = if m < K ∧ s = side then 1 else 0
 | 0, h => by simp; omega
 | K + 1, h => by
  rw [List.range_succ, List.map_append, List.sum_append, one_kind m s side K h]
  have e : (if (decide (0 ≤ m) && decide (s = side) && (decide ((K : Int) < 0) || decide (m = K))) = true then (1 : Nat) else 0) = if s = side ∧ m = K then 1 else 0 := by
   have : ¬ (K : Int) < 0 := by omega
   simp [h, this]
  simp only [List.map_cons, List.map_nil, List.sum_cons, List.sum_nil, e, Nat.add_zero]
  by_cases hs : s = side
  ·by_cases h1 : m < K
   ·rw [if_pos ⟨h1, hs⟩, if_neg (by omega), if_pos ⟨by omega, hs⟩]
   ·by_cases h2 : m = K
    ·rw [if_neg (by omega), if_pos ⟨hs, h2⟩, if_pos ⟨by omega, hs⟩, Nat.zero_add]
    ·rw [if_neg (by omega), if_neg (by omega), if_neg (by omega)]
  ·rw [if_neg (by simp [hs]), if_neg (by simp [hs]), if_neg (by simp [hs])]
theorem sum_zero : ∀ l : List Nat, (l.map fun _ => 0).sum = 0
 | [] => rfl
 | _ :: l => by simp [sum_zero l]
theorem sum_add (f h : Nat → Nat) : ∀ l : List Nat, (l.map fun k => f k + h k).sum = (l.map f).sum + (l.map h).sum
 | [] => rfl
 | k :: l => by simp [sum_add f h l]; omega
theorem men_sum {K : Nat} (hK : K ≤ 6) (side : Int) : ∀ l : List Int, (∀ c ∈ l, 0 ≤ c ∧ c ≤ 2 * K) →
  ((List.range K).map fun (k : Nat) => l.countP fun c => decide (0 ≤ (manOf c).1) && decide ((manOf c).2 = side) && (decide ((k : Int) < 0) || decide ((manOf c).1 = k))).sum =
   l.countP fun c => decide (0 ≤ (manOf c).1) && decide ((manOf c).2 = side) && (decide ((-1 : Int) < 0) || decide ((manOf c).1 = -1))
 | [], _ => by simp [sum_zero]
 | c :: l, h => by
  have ih := men_sum hK side l (fun x hx => h x (by simp [hx]))
  simp only [List.countP_cons]
  rw [sum_add, ih]
  congr 1
  have hc := h c (by simp)
  rcases manOf_cases hc.1 hc.2 hK with ⟨h0, hm⟩ | ⟨h0, hm0, hmk, hms, he⟩
  ·rw [hm]; simp [sum_zero]
  ·rw [one_kind _ _ _ _ hm0]
   by_cases hs : (manOf c).2 = side
   ·simp [hs, hm0, hmk]
   ·simp [hs]
theorem men_all {g : GameD} (hg : GOk g) {p : PosD} (hp : POk g p) (side : Int) : ((List.range g.kinds.length).map fun (k : Nat) => menP p side k).sum = menP p side (-1) :=
 men_sum hg.k6 side p.at_ hp.av
section
variable (g : GameD) (hg : GOk g) (p : PosD) (hp : POk g p) (c : Int × Int × Int × Int) (hc : ClauseOk g.cells g.kinds.length c)
theorem cond1_pure (hg : GOk g) (hp : POk g p) (hc : ClauseOk g.cells g.kinds.length c) (h1 : c.1 = 1) : Pure Tryz.prog 328 [.agg (encGame g), .agg (encPos p), .agg (encClause c)] (.v (.bool (condP c p))) := by
 refine pF Tryz.func328 ?_
 have hC := Count_pure g hg p hp p.side hp.s
 have hl := countsP_len g p p.side
 have hk := hc.kind
 have hck : c.2.1.toNat < (countsP g p p.side).length := by omega
 have hn := nth_countsP g p p.side (k := c.2.1.toNat) (by omega)
 rw [show ((c.2.1.toNat : Nat) : Int) = c.2.1 by omega] at hn
 have he : condP c p = decide (nth (countsP g p p.side) c.2.1.toNat = 0) := by
  unfold condP; rw [if_pos h1, hn]; simp
 rw [he]
 generalize countsP g p p.side = l at *
 obtain ⟨c0, c1, c2, c3⟩ := c
 simp only at hk hck
 (repeat (first|with_reducible refine wV fun _=>?_|simp [go_sem]))
 refine dCall.plain hC (by simp [go_sem]) ?_
 (repeat (first|with_reducible refine wV fun _=>?_|simp [go_sem, hck]))
theorem cond2_pure (hg : GOk g) (hp : POk g p) (hc : ClauseOk g.cells g.kinds.length c) (h1 : c.1 = 2) : Pure Tryz.prog 330 [.agg (encGame g), .agg (encPos p), .agg (encClause c)] (.v (.bool (condP c p))) := by
 refine pF Tryz.func330 ?_
 have hal := hp.al
 have hps := hp.s
 have hn := hc.n
 have hcd := hn.2.1 h1
 have hci : c.2.2.1.toNat < p.at_.length := by omega
 have he : condP c p = decide (nth p.at_ c.2.2.1.toNat = codeOf c.2.1 (1 - p.side)) := by
  unfold condP; rw [if_neg (by omega), if_pos h1]
 rw [he]
 have hC := gCode_pure c.2.1 (1 - p.side)
 obtain ⟨c0, c1, c2, c3⟩ := c
 simp only at hcd hci hC hn
 generalize codeOf c1 (1 - p.side) = code at *
 (repeat (first|with_reducible refine wV fun _=>?_|simp [go_sem, hci]))
 refine dCall.plain hC (by simp [go_sem]) ?_
 (repeat (first|with_reducible refine wV fun _=>?_|simp [go_sem, hci]))
theorem cond3_pure (hg : GOk g) (hp : POk g p) (hc : ClauseOk g.cells g.kinds.length c) (h1 : c.1 = 3) : Pure Tryz.prog 331 [.agg (encGame g), .agg (encPos p), .agg (encClause c)] (.v (.bool (condP c p))) := by
 refine pF Tryz.func331 ?_
 have hC := Count_pure g hg p hp p.side hp.s
 have hl := countsP_len g p p.side
 have k6 := hg.k6
 have hnn := fun (k : Nat) hk => nth_countsP g p p.side (k := k) hk
 have hle := fun k : Nat => menP_le hg hp p.side k
 have hall := men_all hg hp p.side
 obtain ⟨S, hS⟩ : ∃ S : Nat → Nat, S = fun i => ((List.range i).map fun (k : Nat) => menP p p.side k).sum := ⟨_, rfl⟩
 have hS0 : S 0 = 0 := by rw [hS]; rfl
 have hSs : ∀ i, S (i + 1) = S i + menP p p.side i := fun i => by rw [hS]; simp [List.range_succ]
 have hSK : S g.kinds.length = menP p p.side (-1) := by rw [hS]; exact hall
 have hSb : ∀ i, S i ≤ 9 * i := fun i => by
  induction i with
  | zero => omega
  | succ i ih => rw [hSs]; have := hle i; omega
 have he : condP c p = decide ((S g.kinds.length : Int) ≤ c.2.2.1) := by
  unfold condP; rw [if_neg (by omega), if_neg (by omega), hSK]
 rw [he]
 clear hS
 generalize countsP g p p.side = l at *
 obtain ⟨c0, c1, c2, c3⟩ := c
 (repeat (first|with_reducible refine wV fun _=>?_|simp [go_sem]))
 refine ACallP.plain hC (by simp [go_sem]) ?_
 (repeat (first|with_reducible refine wV fun _=>?_|simp [go_sem]))
 refine ALoop.start (ALoop.ind (α := Nat) (fun i => ⟨[(5, .ref 2 0 4 0 0), (7, .v (.int .i64 (S i))), (14, encIs l), (15, .v (.int .i64 l.length)), (16, .v (.int .i64 i))], [(2, .rows true 0 4 [encClause (c0, c1, c2, c3)])], 3⟩)
  (fun d i => i + d = l.length) ?_ l.length 0 ?_) ?_ ?_
 ·rintro d i i1 hrec
  (repeat (first|with_reducible refine wV fun _=>?_|simp [go_sem]))
  refine aIf.mkL (fun hi => ?_) (fun hi => ?_) <;> simp at hi
  ·have h2 := hnn i (by omega)
   have h3 := hle i
   have h4 := hSb i
   have h5 := hSs i
   (repeat (first|with_reducible refine wV fun _=>?_|simp [go_sem, hi]))
   refine ALoop.start (hrec (d - 1) (by omega) (i + 1) (by omega)) ?_ (by simp)
   simp [go_sem, Wk_eq, h5, h2]
  ·have e : i = l.length := by omega
   subst e
   rw [hl]
   (repeat (first|with_reducible refine wV fun _=>?_|simp [go_sem]))
 ·omega
 ·simp [go_sem, Wk_eq, hS0]
 ·simp
end
def endedV (g : GameD) (p : PosD) : Int × Bool := if 0 ≤ endedP g p then ((nth g.clauses (endedP g p).toNat).2.2.2, true) else (0, false)
theorem glb_cond : glbs.lookup 0 = some [.v .nilFunc, .fn (.func 328) [] [], .fn (.func 330) [] [], .fn (.func 331) [] []] := rfl
theorem ended_pure (g : GameD) (hg : GOk g) (p : PosD) (hp : POk g p) : Pure Tryz.prog 74 [.agg (encGame g), .agg (encPos p)] (.tup [.v (.int .i64 (endedV g p).1), .v (.bool (endedV g p).2)]) := by
 refine pF Tryz.func74 ?_
 have hcn := hg.cn
 (repeat (first|with_reducible refine wV fun _=>?_|simp [go_sem]))
 refine ALoop.start (ALoop.ind (α := Nat) (fun i => ⟨[(2, .ref 0 0 9 0 0), (3, .ref 1 0 5 0 0), (9, .lst 4 (g.clauses.map encClause)), (10, .v (.int .i64 g.clauses.length)), (11, .v (.int .i64 i))], [(0, .rows true 0 9 [encGame g]), (1, .rows true 0 5 [encPos p])], 2⟩)
  (fun d i => i + d = g.clauses.length ∧ ∀ j, j < i → condP (nth g.clauses j) p = false) ?_ g.clauses.length 0 ?_) ?_ ?_
 ·rintro d i ⟨i1, i2⟩ hrec
  (repeat (first|with_reducible refine wV fun _=>?_|simp [go_sem]))
  refine aIf.mkL (fun hi => ?_) (fun hi => ?_) <;> simp at hi
  ·have hcl := hg.cl _ (nth_mem hi)
   have hfi : condP (nth g.clauses i) p = true → endedV g p = ((nth g.clauses i).2.2.2, true) := fun hc => by
    have he : endedP g p = i := by unfold endedP; rw [findIdx_some (fun c => condP c p) g.clauses hi i2 hc]
    unfold endedV
    rw [he, if_pos (by omega)]; simp
   have h1 := cond1_pure g p _ hg hp hcl
   have h2 := cond2_pure g p _ hg hp hcl
   have h3 := cond3_pure g p _ hg hp hcl
   have hcond := hcl.cond
   obtain ⟨c, hcc⟩ : ∃ c, c = nth g.clauses i := ⟨_, rfl⟩
   rw [← hcc] at hfi h1 h2 h3 hcond
   have fin : ∀ b, condP c p = b → b = false → ∀ j, j < i + 1 → condP (nth g.clauses j) p = false := by
    intro b hb hf j hj
    rcases Nat.lt_or_ge j i with h | h
    ·exact i2 j h
    ·obtain rfl : j = i := by omega
     rw [← hcc, hb, hf]
   obtain ⟨c0, c1, c2, c3⟩ := c
   generalize hcb : condP (c0, c1, c2, c3) p = b at *
   simp only at hcond hfi
   rcases hcond with rfl | rfl | rfl
   ·have hC := h1 rfl
    (repeat (first|with_reducible refine wV fun _=>?_|simp [go_sem, hi, ← hcc, glb_cond]))
    refine dCall.plain hC (by simp [go_sem]) ?_
    (repeat (first|with_reducible refine wV fun _=>?_|simp [go_sem]))
    cases b
    ·(repeat (first|with_reducible refine wV fun _=>?_|simp [go_sem]))
     refine ALoop.start (hrec (d - 1) (by omega) (i + 1) ⟨by omega, fin _ rfl rfl⟩) ?_ (by simp)
     simp [go_sem, Wk_eq]
    ·rw [hfi rfl]
     (repeat (first|with_reducible refine wV fun _=>?_|simp [go_sem]))
   ·have hC := h2 rfl
    (repeat (first|with_reducible refine wV fun _=>?_|simp [go_sem, hi, ← hcc, glb_cond]))
    refine dCall.plain hC (by simp [go_sem]) ?_
    (repeat (first|with_reducible refine wV fun _=>?_|simp [go_sem]))
    cases b
    ·(repeat (first|with_reducible refine wV fun _=>?_|simp [go_sem]))
     refine ALoop.start (hrec (d - 1) (by omega) (i + 1) ⟨by omega, fin _ rfl rfl⟩) ?_ (by simp)
     simp [go_sem, Wk_eq]
    ·rw [hfi rfl]
     (repeat (first|with_reducible refine wV fun _=>?_|simp [go_sem]))
   ·have hC := h3 rfl
    (repeat (first|with_reducible refine wV fun _=>?_|simp [go_sem, hi, ← hcc, glb_cond]))
    refine dCall.plain hC (by simp [go_sem]) ?_
    (repeat (first|with_reducible refine wV fun _=>?_|simp [go_sem]))
    cases b
    ·(repeat (first|with_reducible refine wV fun _=>?_|simp [go_sem]))
     refine ALoop.start (hrec (d - 1) (by omega) (i + 1) ⟨by omega, fin _ rfl rfl⟩) ?_ (by simp)
     simp [go_sem, Wk_eq]
    ·rw [hfi rfl]
     (repeat (first|with_reducible refine wV fun _=>?_|simp [go_sem]))
  ·have he : endedP g p = -1 := by unfold endedP; rw [findIdx_none (fun c => condP c p) g.clauses (fun j hj => i2 j (by omega))]
   have he' : endedV g p = (0, false) := by unfold endedV; rw [he]; rfl
   rw [he']
   (repeat (first|with_reducible refine wV fun _=>?_|simp [go_sem]))
 ·exact ⟨by simp, fun j hj => by omega⟩
 ·simp [go_sem, Wk_eq]
 ·simp
end Go.Av
end
section
/- Contracts, moves: Outcomes, Moves of the reference. -/
open Go Go.Proofs
namespace Go.Av
def outsK (g : GameD) (p : PosD) (c : Nat) : List OutD := (List.range c).flatMap (outsAt g p)
theorem outsK_succ (g : GameD) (p : PosD) (c : Nat) : outsK g p (c + 1) = outsK g p c ++ outsAt g p c := by simp [outsK, List.range_succ, List.flatMap_append]
theorem outsK_zero (g : GameD) (p : PosD) : outsK g p 0 = [] := rfl
def outsI (g : GameD) (p : PosD) (c i : Nat) : List OutD := outsK g p c ++ (List.range i).flatMap fun (i : Nat) => runsP g p c i
theorem outsI_zero (g : GameD) (p : PosD) (c : Nat) : outsI g p c 0 = outsK g p c := by simp [outsI]
theorem outsI_succ (g : GameD) (p : PosD) (c i : Nat) : outsI g p c (i + 1) = outsI g p c i ++ runsP g p c i := by simp [outsI, List.range_succ, List.flatMap_append]
theorem R6Outcomes_pure (g : GameD) (hg : GOk g) (p : PosD) (hp : POk g p) : Pure Tryz.prog 194 [.agg (encGame g), .agg (encPos p)] (encOs (outsP g p)) := by
 refine pF Tryz.func194 ?_
 have hal := hp.al
 have c9 := hg.c9
 have k6 := hg.k6
 have hU : ∀ c i, c < p.at_.length → 0 ≤ (manOf (nth p.at_ c)).1 ∧ (manOf (nth p.at_ c)).2 = p.side → i ≤ (nth g.kinds (manOf (nth p.at_ c)).1.toNat).progs.length → (outsI g p c i).length ≤ 8000000000 := fun c i hc hm hi => by
  have h1 : (outsK g p c).length ≤ 7200000000 := outsK_len hg hp (by omega)
  have hk := kind_lt hg hp (cell := c) (by omega) (by omega) (by simpa using hm.1)
  simp only [Int.toNat_natCast] at hk
  have h8 := hg.pn _ (nth_mem hk)
  have h2 := flatMap_range_le (fun (i : Nat) => runsP g p c i) 100000000 i (fun j hj => runsP_len hg hp (choice_of hp hc hm (by omega)))
  have h3 : i * 100000000 ≤ 8 * 100000000 := Nat.mul_le_mul_right _ (by omega)
  simp only [outsI, List.length_append]
  omega
 (repeat (first|with_reducible refine wV fun _=>?_|simp [go_sem]))
 refine ALoop.start (ALoop.ind (α := Nat × Nat) (fun a => ⟨[(2, .ref 0 0 9 0 0), (3, .ref 1 0 5 0 0), (5, .sl 2 a.2 6 0 (outsK g p a.1).length), (6, .v (.int .i64 a.1))], [(0, .rows true 0 9 [encGame g]), (1, .rows true 0 5 [encPos p]), (2, .rows true a.2 6 ((outsK g p a.1).map encOut))], 3⟩)
  (fun d a => a.1 + d = p.at_.length) ?_ p.at_.length (0, 0) ?_) ?_ ?_
 ·rintro d ⟨c, G⟩ c1 hrec
  simp only at c1
  (repeat (first|with_reducible refine wV fun _=>?_|simp [go_sem]))
  refine aIf.mkL (fun hc => ?_) (fun hc => ?_) <;> simp at hc
  ·have hO := R3Of_pure (nth p.at_ c)
   have hsu := outsK_succ g p c
   have hat := hp.at (i := c) (by omega)
   have hman := manOf_cases hat.1 hat.2 hg.k6
   have hAt : outsAt g p c = if 0 ≤ (manOf (nth p.at_ c)).1 ∧ (manOf (nth p.at_ c)).2 = p.side then (List.range (nth g.kinds (manOf (nth p.at_ c)).1.toNat).progs.length).flatMap fun (i : Nat) => runsP g p c i else [] := rfl
   have hU' := fun i => hU c i hc
   have hCh := fun i => choice_of (g := g) (i := i) hp hc
   generalize manOf (nth p.at_ c) = m at *
   obtain ⟨mk, ms⟩ := m
   simp only [Prod.mk.injEq] at hman hAt hU' hCh
   (repeat (first|with_reducible refine wV fun _=>?_|simp [go_sem, hc]))
   refine ACallP.plain hO (by simp [go_sem]) ?_
   (repeat (first|with_reducible refine wV fun _=>?_|simp [go_sem]))
   refine aIf.mkL (fun hm => ?_) (fun hm => ?_) <;> simp at hm
   ·rw [if_neg (by omega)] at hAt
    rw [hAt, List.append_nil] at hsu
    (repeat (first|with_reducible refine wV fun _=>?_|simp [go_sem]))
    refine ALoop.start (hrec (d - 1) (by omega) (c + 1, G) (by simp only; omega)) ?_ (by simp)
    simp [go_sem, Wk_eq, hsu]
   ·have hm' : 0 ≤ mk ∧ ms = p.side := by omega
    rw [if_pos hm'] at hAt
    have hkl : mk.toNat < g.kinds.length := by omega
    have hpn := hg.pn _ (nth_mem hkl)
    have hz := outsI_zero g p c
    (repeat (first|with_reducible refine wV fun _=>?_|simp [go_sem]))
    refine ALoop.start (ALoop.ind (α := Nat × Nat) (fun a => ⟨[(2, .ref 0 0 9 0 0), (3, .ref 1 0 5 0 0), (5, .sl 2 a.2 6 0 (outsI g p c a.1).length), (6, .v (.int .i64 c)), (7, .ref 3 0 2 0 0), (8, .v (.int .i64 a.1))],
      [(0, .rows true 0 9 [encGame g]), (1, .rows true 0 5 [encPos p]), (2, .rows true a.2 6 ((outsI g p c a.1).map encOut)), (3, .rows true 0 2 [[.v (.int .i64 mk), .v (.int .i64 ms)]])], 4⟩)
     (fun d a => a.1 + d = (nth g.kinds mk.toNat).progs.length) ?_ (nth g.kinds mk.toNat).progs.length (0, G) ?_) ?_ ?_
    ·rintro d2 ⟨i, G'⟩ i1 hrec2
     simp only at i1
     (repeat (first|with_reducible refine wV fun _=>?_|simp [go_sem, hkl]))
     refine aIf.mkL (fun hi => ?_) (fun hi => ?_) <;> simp at hi
     ·have hR := R5Runs_pure g hg p hp c i (hCh i hm' hi)
      have hsi := outsI_succ g p c i
      have hUi := hU' i hm' (by omega)
      have hUj := hU' (i + 1) hm' (by omega)
      rw [hsi, List.length_append] at hUj
      (repeat (first|with_reducible refine wV fun _=>?_|simp [go_sem]))
      refine ACallP.plain hR (by simp [go_sem]) ?_
      (repeat (first|with_reducible refine wV fun _=>?_|simp [go_sem]))
      refine ALoop.start (hrec2 (d2 - 1) (by omega) (i + 1, G' + 1) (by simp only; omega)) ?_ (by simp)
      simp [go_sem, Wk_eq, hsi]
     ·have hil : i = (nth g.kinds mk.toNat).progs.length := by omega
      subst hil
      have hfin : outsI g p c (nth g.kinds mk.toNat).progs.length = outsK g p (c + 1) := by rw [hsu, hAt]; rfl
      rw [hfin]
      (repeat (first|with_reducible refine wV fun _=>?_|simp [go_sem]))
      refine ALoop.start (hrec (d - 1) (by omega) (c + 1, G') (by simp only; omega)) ?_ (by simp)
      simp [go_sem, Wk_eq]
    ·simp
    ·simp [go_sem, Wk_eq, hz]
    ·simp
  ·have hcl : c = p.at_.length := by omega
   subst hcl
   have e : outsP g p = outsK g p p.at_.length := rfl
   rw [e]
   (repeat (first|with_reducible refine wV fun _=>?_|simp [go_sem]))
   exact frX
 ·simp
 ·simp [go_sem, Wk_eq, outsK_zero]
 ·simp
end Go.Av
end
section
/- Contracts: play.outcomes. -/
open Go Go.Proofs
namespace Go.Av
def rowO (o : OutD) : List AV := [.agg (encOut o)]
theorem drop_range {n j : Nat} (h : j < n) : (List.range n).drop j = j :: (List.range n).drop (j + 1) := by
 rw [List.drop_eq_getElem_cons (by simpa using h)]; simp
theorem outsF_seq (g : GameD) (hg : GOk g) (p : PosD) (hp : POk g p) : PSeq Tryz.prog 137 [.fp (encPos p), .fp (encGame g)] 0 ((outsP g p).map rowO) := by
 refine PSeq.of_awp (by kernel_rfl) Tryz.func137 rfl rfl (Nat.le_of_ble_eq_true rfl) (by kernel_rfl) (fun l => ?_) (hm2 := by decide)
 have hal := hp.al
 have c9 := hg.c9
 have k6 := hg.k6
 have hgb : ∀ (n : Nat) (L : List OutD), Bel n (ghost l 0 (L.map rowO)) := fun n L => by
  simp only [ghost, Bel_gd, Bel_tup, List.forall_mem_cons, Bel_v, Bel_lst]
  simp [go_sem, rowO]
 obtain ⟨oF, hoF⟩ : ∃ oF : Nat → List OutD, oF = fun j => ((List.range p.at_.length).drop j).flatMap (outsAt g p) := ⟨_, rfl⟩
 have ho0 : outsP g p = oF 0 := by rw [hoF]; rfl
 have hos : ∀ j, j < p.at_.length → oF j = outsAt g p j ++ oF (j + 1) := fun j hj => by rw [hoF]; simp only; rw [drop_range hj, List.flatMap_cons]
 have hon : oF p.at_.length = [] := by rw [hoF]; simp only; rw [List.drop_eq_nil_of_le (by simp)]; rfl
 rw [ho0]
 clear hoF ho0
 (repeat (first|with_reducible refine wV fun _=>?_|simp [go_sem, GH]))
 refine ALoop.start (ALoop.ind (α := Nat) (fun j => ⟨[(0, .fn (.yield l) [] []), (1, .fp (encPos p)), (2, .fp (encGame g)), (14, encIs p.at_), (15, .v (.int .i64 p.at_.length)), (16, .v (.int .i64 j)), (1000000007, ghost l 0 ((oF j).map rowO))], [], 0⟩)
  (fun d j => j + d = p.at_.length) ?_ p.at_.length 0 ?_) ?_ ?_
 ·rintro d j j1 hrec
  (repeat (first|with_reducible refine wV fun _=>?_|simp [go_sem, GH]))
  refine aIf.mkL (fun hj => ?_) (fun hj => ?_) <;> simp at hj
  ·have hat := hp.at (i := j) (by omega)
   have hman := manOf_cases hat.1 hat.2 hg.k6
   have hO := gMan_pure (nth p.at_ j)
   have hoj := hos j hj
   have hoa : outsAt g p j = if 0 ≤ (manOf (nth p.at_ j)).1 ∧ (manOf (nth p.at_ j)).2 = p.side then (List.range (nth g.kinds (manOf (nth p.at_ j)).1.toNat).progs.length).flatMap fun (i : Nat) => runsP g p j i else [] := rfl
   have hrp : ∀ i : Nat, i < (nth g.kinds (manOf (nth p.at_ j)).1.toNat).progs.length → 0 ≤ (manOf (nth p.at_ j)).1 → (manOf (nth p.at_ j)).2 = p.side → ChoiceOk g p j i := fun i hi h1 h2 =>
    ⟨by omega, by omega, h1, h2, by omega, by simpa using hi⟩
   have hRun : ∀ i : Nat, i < (nth g.kinds (manOf (nth p.at_ j)).1.toNat).progs.length → 0 ≤ (manOf (nth p.at_ j)).1 → (manOf (nth p.at_ j)).2 = p.side → _ := fun i hi h1 h2 => rRuns_pure g hg p hp j i (hrp i hi h1 h2)
   have hrl := fun (i : Nat) hi h1 h2 => runsP_len hg hp (hrp i hi h1 h2)
   clear hrp
   generalize manOf (nth p.at_ j) = m at *
   obtain ⟨mk, ms⟩ := m
   simp only at hoa hRun hman hO hrl
   (repeat (first|with_reducible refine wV fun _=>?_|simp [go_sem, hj, GH]))
   refine ACallP.plain hO (by simp [go_sem]) ?_
   (repeat (first|with_reducible refine wV fun _=>?_|simp [go_sem, GH]))
   refine aIf.mkL (fun hc => ?_) (fun hc => ?_) <;> simp at hc
   ·have hz : outsAt g p j = [] := by rw [hoa, if_neg (by omega)]
    rw [hz, List.nil_append] at hoj
    rw [hoj]
    (repeat (first|with_reducible refine wV fun _=>?_|simp [go_sem, GH]))
    refine ALoop.start (hrec (d - 1) (by omega) (j + 1) (by omega)) ?_ (by simp)
    simp [go_sem, Wk_eq, hgb, GH]
   ·rw [if_pos (by omega)] at hoa
    have hmk : mk.toNat < g.kinds.length := by
     simp only [Prod.mk.injEq] at hman
     omega
    have hn8 := hg.pn _ (nth_mem hmk)
    obtain ⟨np, hnp⟩ : ∃ np, np = (nth g.kinds mk.toNat).progs.length := ⟨_, rfl⟩
    rw [← hnp] at hoa hRun hn8 hrl
    obtain ⟨pF, hpF⟩ : ∃ pF : Nat → List OutD, pF = fun i => ((List.range np).drop i).flatMap (fun (i : Nat) => runsP g p j i) ++ oF (j + 1) := ⟨_, rfl⟩
    have hp0 : oF j = pF 0 := by rw [hpF, hoj, hoa]; rfl
    have hps : ∀ i, i < np → pF i = runsP g p j i ++ pF (i + 1) := fun i hi => by rw [hpF]; simp only; rw [drop_range hi, List.flatMap_cons, List.append_assoc]
    have hpn : pF np = oF (j + 1) := by rw [hpF]; simp only; rw [List.drop_eq_nil_of_le (by simp)]; rfl
    rw [hp0]
    clear hpF hp0 hoa hoj
    (repeat (first|with_reducible refine wV fun _=>?_|simp [go_sem, GH, hmk, ← hnp]))
    refine ALoop.start (ALoop.ind (α := Nat) (fun i => ⟨[(0, .fn (.yield l) [] []), (1, .fp (encPos p)), (2, .fp (encGame g)), (4, .v (.int .i64 j)), (14, encIs p.at_), (15, .v (.int .i64 p.at_.length)), (16, .v (.int .i64 j)), (40, .v (.int .i64 np)), (41, .v (.int .i64 i)), (1000000007, ghost l 0 ((pF i).map rowO))], [], 0⟩)
     (fun d i => i + d = np) ?_ np 0 ?_) ?_ ?_
    ·rintro d2 i i1 hrec2
     (repeat (first|with_reducible refine wV fun _=>?_|simp [go_sem, GH]))
     refine aIf.mkL (fun hi => ?_) (fun hi => ?_) <;> simp at hi
     ·have hR := hRun i hi (by omega) (by omega)
      have hpi := hps i hi
      obtain ⟨rs, hrs⟩ : ∃ rs, rs = runsP g p j i := ⟨_, rfl⟩
      have hrl' := hrl i hi (by omega) (by omega)
      rw [← hrs] at hR hpi hrl'
      obtain ⟨rF, hrF⟩ : ∃ rF : Nat → List OutD, rF = fun t => rs.drop t ++ pF (i + 1) := ⟨_, rfl⟩
      have hr0 : pF i = rF 0 := by rw [hrF, hpi]; rfl
      have hrt : ∀ t, t < rs.length → rF t = nth rs t :: rF (t + 1) := fun t ht => by rw [hrF]; simp only; rw [dropG_cons ht]; rfl
      have hrn : rF rs.length = pF (i + 1) := by rw [hrF]; simp
      rw [hr0]
      clear hrF hr0
      (repeat (first|with_reducible refine wV fun _=>?_|simp [go_sem, GH]))
      refine ACallP.plain hR (by simp [go_sem]) ?_
      (repeat (first|with_reducible refine wV fun _=>?_|simp [go_sem, GH]))
      refine ALoop.start (ALoop.ind (α := Nat) (fun t => ⟨[(0, .fn (.yield l) [] []), (1, .fp (encPos p)), (2, .fp (encGame g)), (4, .v (.int .i64 j)), (14, encIs p.at_), (15, .v (.int .i64 p.at_.length)), (16, .v (.int .i64 j)), (40, .v (.int .i64 np)), (41, .v (.int .i64 i)), (52, encOs rs), (53, .v (.int .i64 rs.length)), (54, .v (.int .i64 t)), (1000000007, ghost l 0 ((rF t).map rowO))], [], 0⟩)
       (fun d t => t + d = rs.length) ?_ rs.length 0 ?_) ?_ ?_
      ·rintro d3 t t1 hrec3
       (repeat (first|with_reducible refine wV fun _=>?_|simp [go_sem, GH]))
       refine aIf.mkL (fun ht => ?_) (fun ht => ?_) <;> simp at ht
       ·rw [hrt t ht]
        (repeat (first|with_reducible refine wV fun _=>?_|simp [go_sem, GH, ht]))
        refine aYld.mk (more := 0) (xs := rowO (nth rs t)) (rs := (rF (t + 1)).map rowO) _ (by simp [upd, GH]) (.refl _) (.refl _ _ _ _) (by simp [go_sem, rowO]) ?_ ?_
        ·(repeat (first|with_reducible refine wV fun _=>?_|simp [go_sem, GH]))
         refine ALoop.start (hrec3 (d3 - 1) (by omega) (t + 1) (by omega)) ?_ (by simp)
         simp [go_sem, Wk_eq, hgb, GH]
        ·(repeat (first|with_reducible refine wV fun _=>?_|simp [go_sem, GH]))
       ·have e : t = rs.length := by omega
        subst e
        rw [hrn]
        (repeat (first|with_reducible refine wV fun _=>?_|simp [go_sem, GH]))
        refine ALoop.start (hrec2 (d2 - 1) (by omega) (i + 1) (by omega)) ?_ (by simp)
        simp [go_sem, Wk_eq, hgb, GH]
      ·omega
      ·simp [go_sem, Wk_eq, hgb, GH]
      ·simp
     ·have e : i = np := by omega
      subst e
      rw [hpn]
      (repeat (first|with_reducible refine wV fun _=>?_|simp [go_sem, GH]))
      refine ALoop.start (hrec (d - 1) (by omega) (j + 1) (by omega)) ?_ (by simp)
      simp [go_sem, Wk_eq, hgb, GH]
    ·omega
    ·simp [go_sem, Wk_eq, hgb, GH]
    ·simp
  ·have e : j = p.at_.length := by omega
   subst e
   rw [hon]
   (repeat (first|with_reducible refine wV fun _=>?_|simp [go_sem, GH]))
 ·omega
 ·simp [go_sem, Wk_eq, hgb, GH]
 ·simp
end Go.Av
end
section
/- Contracts: play.Moves. -/
open Go Go.Proofs
namespace Go.Av
def outsR (n : Nat) : AV := .fn (.func 137) [] [.ref (n + 1) 0 5 0 0, .ref n 0 9 0 0]
def outsH (g : GameD) (p : PosD) (n : Nat) : List (Nat × AObj) := [(n, .rows true 0 9 [encGame g]), (n + 1, .rows true 0 5 [encPos p])]
theorem outcomes_owns (g : GameD) (p : PosD) : Owns Tryz.prog 75 [.agg (encGame g), .agg (encPos p)] outsR (outsH g p) 2 := by
 refine ⟨?_, fun n => ⟨by simp [go_sem, outsR], by simp [go_sem, outsH]⟩⟩
 refine ACallP.of_awp (by kernel_rfl) Tryz.func75 rfl rfl (Nat.le_of_ble_eq_true rfl) (by kernel_rfl) ?_
 (repeat (first|with_reducible refine wV fun _=>?_|simp [go_sem, outsR, outsH]))
 simp [go_sem, Wk_eq]
theorem endedV_2 (g : GameD) (p : PosD) : (endedV g p).2 = decide (0 ≤ endedP g p) := by
 unfold endedV; split <;> simp_all
theorem any_len {α : Type} (f : α → Bool) : ∀ l : List α, l.any f = decide (0 < (l.filter f).length)
 | [] => rfl
 | x :: l => by cases h : f x <;> simp [h, any_len f l]
theorem Moves_pure (g : GameD) (hg : GOk g) (p : PosD) (hp : POk g p) : Pure Tryz.prog 24 [.agg (encGame g), .agg (encPos p)] (encPs (movesP g p)) := by
 refine pF Tryz.func24 ?_
 have hE := ended_pure g hg p hp
 have hD := rDrops_pure g hg p hp
 have hdl := dropsP_len hg hp
 have hdo := fun q hq => ((dropsP_ok hg hp) q hq).1.fits hg
 have hol := outsP_len hg hp
 have hoo := fun o ho => ((outsP_ok hg hp) o ho).1.fits hg
 have hS : Owns Tryz.prog 75 [.agg (encGame g), .agg (encPos p)] (fun n => outsR n) (fun n => outsH g p n) 2 := outcomes_owns g p
 have hQ := outsF_seq g hg p hp
 simp only [outsR, outsH] at hS
 have e2 := endedV_2 g p
 have hMv : movesP g p = if 0 ≤ endedP g p then [] else sortU cmpP (movesL g p) := rfl
 have hML : movesL g p = ((outsP g p).filter fun o => !mustP g p || o.took).map (·.pos) ++ (if mustP g p then [] else dropsP g p) := rfl
 have hMu : mustP g p = (g.must && (outsP g p).any (·.took)) := rfl
 rw [e2] at hE
 rw [hMv]
 generalize endedP g p = ep at *
 generalize (endedV g p).1 = ev1 at *
 generalize outsP g p = outs at *
 generalize dropsP g p = drops at *
 generalize mustP g p = must at *
 generalize movesL g p = mvl at *
 clear hMv e2
 (repeat (first|with_reducible refine wV fun _=>?_|simp [go_sem]))
 refine ACallP.plain hE (by simp [go_sem]) ?_
 (repeat (first|with_reducible refine wV fun _=>?_|simp [go_sem]))
 refine aIf.mkL (fun he => ?_) (fun he => ?_) <;> simp at he
 ·rw [if_pos he]
  (repeat (first|with_reducible refine wV fun _=>?_|simp [go_sem]))
 ·rw [if_neg (by omega)]
  (repeat (first|with_reducible refine wV fun _=>?_|simp [go_sem, GH]))
  refine ACallP.ownsPlain hS (by simp [go_sem]) ?_
  (repeat (first|with_reducible refine wV fun _=>?_|simp [go_sem, GH]))
  refine aRange.mk [.fp (encPos p), .fp (encGame g)] (frzO _ [4, 5]) hQ (frz_frzO _ _) ?_ (by simp [go_sem]) (by simp [rowO]) ?_
  ·refine LeRow.cons (.frzP rfl ?_ ?_ ?_ ?_) (LeRow.cons (.frzP rfl ?_ ?_ ?_ ?_) .nil) <;> first | exact LeRow.refl _ _ _ _ | simp [frzO, frz1, upd]
  obtain ⟨al, hal⟩ : ∃ al : Nat → List PosD, al = fun k => (outs.take k).map (·.pos) := ⟨_, rfl⟩
  obtain ⟨tk, htk⟩ : ∃ tk : Nat → List PosD, tk = fun k => ((outs.take k).filter (·.took)).map (·.pos) := ⟨_, rfl⟩
  have hall : ∀ k, (al k).length ≤ 7200000000 := fun k => by rw [hal]; simp; omega
  have htkl : ∀ k, (tk k).length ≤ 7200000000 := fun k => by rw [htk]; simp only [List.length_map]; have := List.length_filter_le (·.took) (outs.take k); simp at this; omega
  have hals : ∀ k, k < outs.length → al (k + 1) = al k ++ [(nth outs k).pos] := fun k hk => by rw [hal]; simp only; rw [List.take_add_one, List.getElem?_eq_getElem hk, nth_eq _ _ hk, Option.toList_some, List.map_append]; rfl
  have htks : ∀ k, k < outs.length → tk (k + 1) = if (nth outs k).took = true then tk k ++ [(nth outs k).pos] else tk k := fun k hk => by
   rw [htk]; simp only; rw [List.take_add_one, List.getElem?_eq_getElem hk, nth_eq _ _ hk, Option.toList_some, List.filter_append]
   cases hq : outs[k].took <;> simp [hq]
  have hal0 : al 0 = [] := by rw [hal]; rfl
  have htk0 : tk 0 = [] := by rw [htk]; rfl
  have halE : al outs.length = outs.map (·.pos) := by rw [hal]; simp
  have htkE : tk outs.length = (outs.filter (·.took)).map (·.pos) := by rw [htk]; simp
  clear hal htk
  refine Fgt.to (ARange.ind (α := Nat) (fun k => ([(2, .ref 0 0 9 0 0), (3, .ref 1 0 5 0 0), (7, .ref 2 0 1 0 0), (8, .ref 3 0 1 0 0)], [(0, .rows true 0 9 [encGame g]), (1, .rows true 0 5 [encPos p]), (2, .rows true 0 1 [[.sl 6 (al k).length 5 0 (al k).length]]), (3, .rows true 0 1 [[.sl 7 (tk k).length 5 0 (tk k).length]]),
    (6, .rows true (al k).length 5 ((al k).map encPos)), (7, .rows true (tk k).length 5 ((tk k).map encPos))], 8))
   (fun rows k => rows = (outs.drop k).map rowO ∧ k ≤ outs.length) ?_ ?_ _ 0 ?_) ?_ ?_
  ·rintro k ⟨i1, i2⟩
   have hk : k = outs.length := by
    have := congrArg List.length i1
    simp at this
    omega
   subst hk
   refine ⟨rfl, ?_⟩
   have hmu : must = (g.must && decide (0 < (tk outs.length).length)) := by
    rw [hMu, htkE, any_len, List.length_map]
   have hft : ∀ q ∈ tk outs.length, FitsP q := fun q hq => by
    rw [htkE] at hq
    obtain ⟨o, ho, rfl⟩ := List.mem_map.1 hq
    exact hoo o (List.mem_filter.1 ho).1
   have hfa : ∀ q ∈ al outs.length, FitsP q := fun q hq => by
    rw [halE] at hq
    obtain ⟨o, ho, rfl⟩ := List.mem_map.1 hq
    exact hoo o ho
   have hla := hall outs.length
   have hlt := htkl outs.length
   by_cases hm : must = true
   ·rw [hm] at hmu hML
    have hgm : g.must = true := by cases h : g.must <;> simp [h] at hmu ⊢
    have hpos : 0 < (tk outs.length).length := by rw [hgm] at hmu; simpa using hmu
    have hpos' : (0 : Int) < (tk outs.length).length := by omega
    have e : mvl = tk outs.length := by rw [hML, htkE]; simp
    rw [e]
    generalize tk outs.length = tks at *
    have hS1 := pSort_pure tks (by omega) hft
    (repeat (first|with_reducible refine wV fun _=>?_|simp [go_sem, GH, ← hmu]))
    refine ACallP.pureF [7] hS1 ?_ (bel1 (bel_encPs _)) ?_
    ·(first|done|exact agX)
    ·(repeat (first|with_reducible refine wV fun _=>?_|simp [go_sem, GH]))
   ·have e : mvl = al outs.length ++ drops := by
     simp only [Bool.not_eq_true] at hm
     rw [hML, hm, halE, List.filter_eq_self.2 (by simp)]; simp
    rw [e]
    have hS1 := pSort_pure (al outs.length ++ drops) (by rw [List.length_append]; omega) (fun q hq => by
     rcases List.mem_append.1 hq with h | h
     ·exact hfa q h
     ·exact hdo q h)
    simp only [Bool.not_eq_true] at hm
    rw [hm] at hmu
    generalize al outs.length = als at *
    generalize tk outs.length = tks at *
    generalize sortU cmpP (als ++ drops) = res at *
    (repeat (first|with_reducible refine wV fun _=>?_|simp [go_sem, GH, ← hmu]))
    refine dCall.plain hD (by simp [go_sem]) ?_
    (repeat (first|with_reducible refine wV fun _=>?_|simp [go_sem, GH]))
    refine dCall.frz [encPs (als ++ drops)] _ [6] [(6, some (.rows false (als.length + 1) 5 ((als ++ drops).map encPos)))] hS1 ?_ ?_ (bel1 (bel_encPs _)) ?_
    ·intro q hq
     simp only [List.mem_singleton] at hq
     subst hq
     exact ⟨by simp, als.length + 1, 5, _, rfl, by simp [upd]⟩
    ·intro h₁ hS
     have h6 := hS 6 (by simp)
     simp [upd] at h6
     exact .cons (leV_frz h6.symm (by simp) (by simp [applyW, upd]) (by simp; exact List.take_of_length_le (by simp))) .nil
    ·(repeat (first|with_reducible refine wV fun _=>?_|simp [go_sem, GH]))
  ·rintro xs rs k ⟨i1, i2⟩ hrec
   have hk : k < outs.length := by
    have := congrArg List.length i1
    simp at this
    omega
   rw [dropG_cons hk, List.map_cons, List.cons.injEq] at i1
   obtain ⟨rfl, rfl⟩ := i1
   have hals := hals k hk
   have htks := htks k hk
   have h1 := hall k
   have h2 := htkl k
   obtain ⟨o, ho⟩ : ∃ o, o = nth outs k := ⟨_, rfl⟩
   rw [← ho] at hals htks ⊢
   obtain ⟨op, ot⟩ := o
   simp only at hals htks
   generalize hrs : (outs.drop (k + 1)).map rowO = rs at *
   refine ARange.go (Nat.zero_le _) ?_
   (repeat (first|with_reducible refine wV fun _=>?_|simp [go_sem, GH, rowO]))
   cases ot
   ·rw [if_neg (by simp)] at htks
    (repeat (first|with_reducible refine wV fun _=>?_|simp [go_sem, GH]))
    refine Fgt.to (hrec (k + 1) ⟨hrs.symm, by omega⟩) ?_ (by simp)
    simp [go_sem, Wk_eq, GH, hals, htks]
   ·rw [if_pos rfl] at htks
    (repeat (first|with_reducible refine wV fun _=>?_|simp [go_sem, GH]))
    refine Fgt.to (hrec (k + 1) ⟨hrs.symm, by omega⟩) ?_ (by simp)
    simp [go_sem, Wk_eq, GH, hals, htks]
  ·exact ⟨rfl, Nat.zero_le _⟩
  ·simp [go_sem, Wk_eq, hal0, htk0]
  ·simp
end Go.Av
end
section
/- Contracts: play.Status, play.Legal, play.Walk. -/
open Go Go.Proofs
namespace Go.Av
def statusV (g : GameD) (p : PosD) : Int × Bool := if 0 ≤ endedP g p then endedV g p else if movesP g p = [] then (g.blocked, true) else (0, false)
theorem Status_pure (g : GameD) (hg : GOk g) (p : PosD) (hp : POk g p) : Pure Tryz.prog 30 [.agg (encGame g), .agg (encPos p)] (.tup [.v (.int .i64 (statusV g p).1), .v (.bool (statusV g p).2)]) := by
 refine pF Tryz.func30 ?_
 have hE := ended_pure g hg p hp
 have hM := Moves_pure g hg p hp
 have hS : statusV g p = if 0 ≤ endedP g p then endedV g p else if movesP g p = [] then (g.blocked, true) else (0, false) := rfl
 have e2 := endedV_2 g p
 rw [hS]
 obtain ⟨ev, hev⟩ : ∃ ev, ev = endedV g p := ⟨_, rfl⟩
 rw [← hev] at hE e2 ⊢
 obtain ⟨e1, b⟩ := ev
 simp only at hE e2 ⊢
 generalize endedP g p = ep at *
 generalize movesP g p = l at *
 clear hS hev
 subst e2
 (repeat (first|with_reducible refine wV fun _=>?_|simp [go_sem]))
 refine ACallP.plain hE (by simp [go_sem]) ?_
 (repeat (first|with_reducible refine wV fun _=>?_|simp [go_sem]))
 refine aIf.mkL (fun he => ?_) (fun he => ?_) <;> simp at he
 ·rw [if_pos he]
  (repeat (first|with_reducible refine wV fun _=>?_|simp [go_sem, he]))
 ·rw [if_neg (by omega)]
  (repeat (first|with_reducible refine wV fun _=>?_|simp [go_sem]))
  refine ACallP.plain hM (by simp [go_sem]) ?_
  (repeat (first|with_reducible refine wV fun _=>?_|simp [go_sem]))
  by_cases hl : l = []
  ·subst hl
   rw [if_pos rfl]
   (repeat (first|with_reducible refine wV fun _=>?_|simp [go_sem]))
  ·rw [if_neg hl]
   have hl' : ¬ (l.length : Int) = 0 := by
    have := List.length_pos_iff.2 hl
    omega
   (repeat (first|with_reducible refine wV fun _=>?_|simp [go_sem, hl, hl']))
def idxOfP (p : PosD → Bool) (l : List PosD) : Int := match l.findIdx? p with | some i => (i : Int) | none => -1
theorem idxOfP_at {p : PosD → Bool} {l : List PosD} {j : Nat} (hj : j < l.length) (h : ∀ i, i < j → p (nth l i) = false) (hp : p (nth l j) = true) : idxOfP p l = j := by
 have : l.findIdx? p = some j := by
  rw [List.findIdx?_eq_some_iff_getElem]
  refine ⟨hj, by rw [← nth_eq _ _ hj]; exact hp, fun i hi => ?_⟩
  have := h i hi
  rw [nth_eq _ _ (by omega)] at this
  simp [this]
 simp [idxOfP, this]
theorem idxOfP_none {p : PosD → Bool} {l : List PosD} (h : ∀ i, i < l.length → p (nth l i) = false) : idxOfP p l = -1 := by
 have : l.findIdx? p = none := by
  rw [List.findIdx?_eq_none_iff]
  intro x hx
  obtain ⟨i, hi, rfl⟩ := List.getElem_of_mem hx
  have := h i hi
  rw [nth_eq _ _ hi] at this
  exact this
 simp [idxOfP, this]
theorem idxOfP_any {p : PosD → Bool} {l : List PosD} : decide (0 ≤ idxOfP p l) = l.any p := by
 unfold idxOfP
 cases h : l.findIdx? p with
 | none =>
  rw [List.findIdx?_eq_none_iff] at h
  simp
  simpa using h
 | some i =>
  have := List.findIdx?_isSome (xs := l) (p := p)
  rw [h] at this
  simp at this ⊢
  exact this
theorem IndexFuncP_pure (l : List PosD) (hl : l.length ≤ 17179869184) (f : FuncId) (first caps : List AV) (p : PosD → Bool) (hp : ∀ x ∈ l, Pure Tryz.prog f (first ++ .agg (encPos x) :: caps) (.v (.bool (p x)))) (hb : ∀ c ∈ first, Bel 0 c) (hb' : ∀ c ∈ caps, Bel 0 c) :
  Pure Tryz.prog 154 [encPs l, .fn (.func f) first caps] (.v (.int .i64 (idxOfP p l))) := by
 refine pF Tryz.func154 ?_
 simp [go_sem]
 refine ALoop.start (ALoop.ind (α := Nat) (fun j => ⟨[(0, encPs l), (1, .fn (.func f) first caps), (7, .v (.int .i64 l.length)), (8, .v (.int .i64 j))], [], 0⟩)
  (fun d j => j + d = l.length ∧ (∀ i < j, p (nth l i) = false)) ?_ l.length 0 ?_) ?_ ?_
 ·rintro d j ⟨i1, i2⟩ hrec
  simp [go_sem]
  refine aIf.mkL (fun hj => ?_) (fun hj => ?_)
  ·simp at hj
   simp [go_sem]
   refine VC.mkL hj fun _ => ?_
   simp [go_sem, hj]
   refine ACallP.plain (hp _ (nth_mem hj)) (fun c hc => by
    rcases List.mem_append.1 hc with h | h
    ·exact hb c h
    ·rcases List.mem_cons.1 h with rfl | h
     ·exact of_eq_true (by simp [go_sem])
     ·exact hb' c h) ?_
   simp [go_sem]
   refine aIf.mkL (fun h => ?_) (fun h => ?_)
   ·simp [go_sem, idxOfP_at hj i2 h]
   ·simp [go_sem]
    refine VC.mkL (by omega) fun _ => ?_
    simp [go_sem]
    refine ALoop.start (hrec (d - 1) (by omega) (j + 1) ⟨by omega, fun i hi => ?_⟩) ?_ (by simp)
    ·rcases Nat.lt_or_ge i j with h' | h'
     ·exact i2 i h'
     ·obtain rfl : i = j := by omega
      exact h
    ·simp [go_sem, Wk_eq]
     exact ⟨hb, hb'⟩
  ·simp at hj
   simp [go_sem, idxOfP_none fun i hi => i2 i (by omega)]
 ·simp
 ·simp [go_sem, Wk_eq]
  exact ⟨hb, hb'⟩
 ·simp
theorem ContainsFuncP_pure (l : List PosD) (hl : l.length ≤ 17179869184) (f : FuncId) (first caps : List AV) (p : PosD → Bool) (hp : ∀ x ∈ l, Pure Tryz.prog f (first ++ .agg (encPos x) :: caps) (.v (.bool (p x)))) (hb : ∀ c ∈ first, Bel 0 c) (hb' : ∀ c ∈ caps, Bel 0 c) :
  Pure Tryz.prog 92 [encPs l, .fn (.func f) first caps] (.v (.bool (l.any p))) := by
 refine pF Tryz.func92 ?_
 simp [go_sem]
 refine ACallP.plain (IndexFuncP_pure l hl f first caps p hp hb hb') (by simp [go_sem]; exact ⟨hb, hb'⟩) ?_
 simp [go_sem, idxOfP_any]
theorem legal1_pure (m q : PosD) (hm : FitsP m) (hq : FitsP q) : Pure Tryz.prog 93 [.agg (encPos m), .fp (encPos q)] (.v (.bool (decide (m = q)))) := by
 refine pF Tryz.func93 ?_
 have c1 := pCompare_pure m q hm hq
 have e : decide (m = q) = decide (cmpP m q = 0) := by rw [decide_eq_decide]; exact (cmp_pos.eq m q).symm
 rw [e]
 generalize cmpP m q = x at *
 (repeat (first|with_reducible refine wV fun _=>?_|simp [go_sem]))
 refine ACallP.plain c1 (by simp [go_sem]) ?_
 (repeat (first|with_reducible refine wV fun _=>?_|simp [go_sem]))
theorem Legal_pure (g : GameD) (hg : GOk g) (p : PosD) (hp : POk g p) (q : PosD) (hq : FitsP q) : Pure Tryz.prog 41 [.agg (encGame g), .agg (encPos p), .agg (encPos q)] (.v (.bool (decide (q ∈ movesP g p)))) := by
 refine pF Tryz.func41 ?_
 have hM := Moves_pure g hg p hp
 have hml := movesP_len hg hp
 have hmf := fun m hm => ((movesP_ok hg hp) m hm).1.fits hg
 generalize movesP g p = l at *
 have hC := ContainsFuncP_pure l (by omega) 93 [] [.fp (encPos q)] (fun m => decide (m = q)) (fun m hm => legal1_pure m q (hmf m hm) hq) (by simp) (by simp [go_sem])
 have e : l.any (fun m => decide (m = q)) = decide (q ∈ l) := by
  rw [Bool.eq_iff_iff]
  simp
 rw [e] at hC
 (repeat (first|with_reducible refine wV fun _=>?_|simp [go_sem]))
 refine ACallP.plain hM (by simp [go_sem]) ?_
 (repeat (first|with_reducible refine wV fun _=>?_|simp [go_sem]))
 refine ACallP.pureF [2] hC ?_ (by simp [go_sem]) ?_
 ·(first|done|exact leX)
 ·(repeat (first|with_reducible refine wV fun _=>?_|simp [go_sem]))
theorem rem_twice (k : Int) {n : Int} (hn : 0 < n) : (k.tmod n + n).tmod n = k.emod n := by
 have h1 := Int.emod_nonneg k (show n ≠ 0 by omega)
 have h2 := Int.emod_lt_of_pos k hn
 have h3 : k.tmod n = k % n ∨ k.tmod n = k % n - n := by
  rw [Int.tmod_eq_emod]
  split
  ·left; omega
  ·right; omega
 show _ = k % n
 rcases h3 with h3 | h3
 ·rw [h3, Int.tmod_eq_emod_of_nonneg (by omega), Int.add_emod_right, Int.emod_emod_of_dvd _ (Int.dvd_refl n)]
 ·rw [h3, Int.sub_add_cancel, Int.tmod_eq_emod_of_nonneg h1, Int.emod_emod_of_dvd _ (Int.dvd_refl n)]
theorem tmod_in (k : Int) {n : Int} (hn : 0 < n) : -n ≤ k.tmod n ∧ k.tmod n ≤ n := by
 have h1 := Int.emod_nonneg k (show n ≠ 0 by omega)
 have h2 := Int.emod_lt_of_pos k hn
 have h3 : k.tmod n = k % n ∨ k.tmod n = k % n - n := by
  rw [Int.tmod_eq_emod]
  split
  ·left; omega
  ·right; omega
 omega
theorem Walk_pure (g : GameD) (hg : GOk g) (p : PosD) (hp : POk g p) (picks : List Int) (hl : picks.length ≤ 1048576) : Pure Tryz.prog 47 [.agg (encGame g), .agg (encPos p), encIs picks] (encPs (walkP g p picks)) := by
 refine pF Tryz.func47 ?_
 generalize hW : walkP g p picks = W
 (repeat (first|with_reducible refine wV fun _=>?_|simp [go_sem]))
 refine ALoop.start (ALoop.ind (α := Nat × PosD × List PosD) (fun a => ⟨[(3, .ref 0 0 9 0 0), (4, .ref 1 0 5 0 0), (7, .sl 2 a.1 5 0 (a.1 + 1)), (13, encIs picks), (14, .v (.int .i64 picks.length)), (15, .v (.int .i64 a.1))], [(0, .rows true 0 9 [encGame g]), (1, .rows true 0 5 [encPos a.2.1]), (2, .rows true a.1 5 ((a.2.2 ++ [a.2.1]).map encPos))], 3⟩)
  (fun d a => a.1 + d = picks.length ∧ a.2.2.length = a.1 ∧ POk g a.2.1 ∧ W = a.2.2 ++ walkP g a.2.1 (picks.drop a.1)) ?_ picks.length (0, p, []) ?_) ?_ ?_
 ·rintro d ⟨i, q, pre⟩ ⟨i1, i2, i3, i4⟩ hrec
  simp only at i1 i2 i3 i4
  have hM := Moves_pure g hg q i3
  have hmo := fun m hm => ((movesP_ok hg i3) m hm).1
  have hml := movesP_len hg i3
  (repeat (first|with_reducible refine wV fun _=>?_|simp [go_sem]))
  refine aIf.mkL (fun hi => ?_) (fun hi => ?_) <;> simp at hi
  ·rw [dropG_cons hi, walkP] at i4
   have hrt := rem_twice (nth picks i) (n := (movesP g q).length)
   generalize movesP g q = l at *
   obtain ⟨k, hk⟩ : ∃ k, k = nth picks i := ⟨_, rfl⟩
   rw [← hk] at i4 hrt
   (repeat (first|with_reducible refine wV fun _=>?_|simp [go_sem, hi, ← hk]))
   refine ACallP.plain hM (by simp [go_sem]) ?_
   (repeat (first|with_reducible refine wV fun _=>?_|simp [go_sem]))
   by_cases hz : l = []
   ·subst hz
    rw [if_pos rfl] at i4
    rw [i4]
    (repeat (first|with_reducible refine wV fun _=>?_|simp [go_sem]))
    exact leV_frz rfl (by simp; omega) (by simp [noH, upd]) (by rw [List.drop_zero]; exact List.take_of_length_le (by simp; omega))
   ·rw [if_neg hz] at i4
    have hl0 := List.length_pos_iff.2 hz
    have hln : ¬ (l.length : Int) = 0 := by omega
    have hrt := hrt (by omega)
    have hemn := Int.emod_nonneg k hln
    have heml := Int.emod_lt_of_pos k (show (0 : Int) < l.length by omega)
    have hix : (k.emod l.length).toNat < l.length := by
     have : k.emod l.length = k % l.length := rfl
     omega
    have htm := tmod_in k (show (0 : Int) < l.length by omega)
    have hle : (l.length : Int) ≤ 7200000054 := by omega
    have hem0 : 0 ≤ k.emod l.length := hemn
    have heml' : k.emod l.length < l.length := heml
    (repeat (first|with_reducible refine wV fun _=>?_|simp [go_sem, hz, hln, hrt, hix]))
    refine ALoop.start (hrec (d - 1) (by omega) (i + 1, nth l (k.emod l.length).toNat, pre ++ [q]) ⟨by simp only; omega, by simp; omega, hmo _ (nth_mem hix), by simpa using i4⟩) ?_ (by simp)
    simp [go_sem, Wk_eq]
  ·rw [List.drop_eq_nil_of_le hi, walkP] at i4
   rw [i4]
   (repeat (first|with_reducible refine wV fun _=>?_|simp [go_sem]))
   exact leV_frz rfl (by simp; omega) (by simp [noH, upd]) (by rw [List.drop_zero]; exact List.take_of_length_le (by simp; omega))
 ·exact ⟨by simp, rfl, hp, by simp [hW]⟩
 ·simp [go_sem, Wk_eq]
 ·simp
end Go.Av
end
section
/- Contracts, moves: Moves of the reference. -/
open Go Go.Proofs
namespace Go.Av
def mustK (gm : Bool) (l : List OutD) (i : Nat) : Bool := gm && (l.take i).any (·.took)
theorem mustK_zero (gm : Bool) (l : List OutD) : mustK gm l 0 = false := by simp [mustK]
theorem mustK_succ (gm : Bool) (l : List OutD) {i : Nat} (h : i < l.length) : mustK gm l (i + 1) = (mustK gm l i || (gm && (nth l i).took)) := by
 unfold mustK
 rw [List.take_add_one, List.getElem?_eq_getElem h, nth_eq _ _ h, Option.toList_some, List.any_append]
 simp only [List.any_cons, List.any_nil, Bool.or_false, Bool.and_or_distrib_left]
def keepK (must : Bool) (l : List OutD) (i : Nat) : List PosD := ((l.take i).filter fun o => !must || o.took).map (·.pos)
theorem keepK_zero (must : Bool) (l : List OutD) : keepK must l 0 = [] := by simp [keepK]
theorem keepK_succ (must : Bool) (l : List OutD) {i : Nat} (h : i < l.length) : keepK must l (i + 1) = keepK must l i ++ (if (!must || (nth l i).took) = true then [(nth l i).pos] else []) := by
 unfold keepK
 rw [List.take_add_one, List.getElem?_eq_getElem h, nth_eq _ _ h, Option.toList_some, List.filter_append, List.map_append]
 congr 1
 by_cases hc : (!must || l[i].took) = true <;> simp [hc]
theorem keepK_len (must : Bool) (l : List OutD) (i : Nat) : (keepK must l i).length ≤ i := by
 unfold keepK
 rw [List.length_map]
 refine Nat.le_trans (List.length_filter_le _ _) ?_
 simp; omega
theorem R6Moves_pure (g : GameD) (hg : GOk g) (p : PosD) (hp : POk g p) : Pure Tryz.prog 149 [.agg (encGame g), .agg (encPos p)] (encPs (movesP g p)) := by
 refine pF Tryz.func149 ?_
 have hE := R6Ended_pure g hg p hp
 have hO := R6Outcomes_pure g hg p hp
 have hD := R5Drops_pure g hg p hp
 have hdl := dropsP_len hg hp
 have hol := outsP_len hg hp
 have hS := R4Sort_pure (movesL g p) (by have := movesL_len hg hp; omega) (fun q hq => (movesL_ok hg hp q hq).1.fits hg)
 have hml : movesL g p = keepK (mustP g p) (outsP g p) (outsP g p).length ++ (if mustP g p then [] else dropsP g p) := by unfold movesL keepK; rw [List.take_length]
 have hmu : mustP g p = mustK g.must (outsP g p) (outsP g p).length := by unfold mustP mustK; rw [List.take_length]
 have hmv : movesP g p = if 0 ≤ endedP g p then [] else sortU cmpP (movesL g p) := rfl
 obtain ⟨R, hR⟩ : ∃ R, R = movesP g p := ⟨_, rfl⟩
 rw [← hR] at hmv ⊢
 generalize outsP g p = l at *
 generalize dropsP g p = ds at *
 generalize movesL g p = ml at *
 generalize endedP g p = en at *
 (repeat (first|with_reducible refine wV fun _=>?_|simp [go_sem]))
 refine ACallP.plain hE (by simp [go_sem]) ?_
 (repeat (first|with_reducible refine wV fun _=>?_|simp [go_sem]))
 refine aIf.mkL (fun he => ?_) (fun he => ?_) <;> simp at he
 ·rw [if_pos he] at hmv
  rw [hmv]
  (repeat (first|with_reducible refine wV fun _=>?_|simp [go_sem]))
 ·rw [if_neg (by omega)] at hmv
  (repeat (first|with_reducible refine wV fun _=>?_|simp [go_sem]))
  refine ACallP.plain hO (by simp [go_sem]) ?_
  (repeat (first|with_reducible refine wV fun _=>?_|simp [go_sem]))
  refine ALoop.start (ALoop.ind (α := Nat) (fun i => ⟨[(2, .ref 0 0 9 0 0), (3, .ref 1 0 5 0 0), (5, encOs l), (6, .sl 2 0 5 0 0), (7, .v (.bool (mustK g.must l i))), (8, .v (.int .i64 i))], [(0, .rows true 0 9 [encGame g]), (1, .rows true 0 5 [encPos p]), (2, .rows true 0 5 [])], 3⟩)
   (fun d i => i + d = l.length) ?_ l.length 0 ?_) ?_ ?_
  ·rintro d i i1 hrec
   (repeat (first|with_reducible refine wV fun _=>?_|simp [go_sem]))
   refine aIf.mkL (fun hi => ?_) (fun hi => ?_) <;> simp at hi
   ·have hms := mustK_succ g.must l hi
    cases hmk : mustK g.must l i
    ·rw [hmk, Bool.false_or] at hms
     cases hgm : g.must
     ·rw [hgm, Bool.false_and] at hms
      (repeat (first|with_reducible refine wV fun _=>?_|simp [go_sem, hmk, hgm, hi]))
      refine ALoop.start (hrec (d - 1) (by omega) (i + 1) (by omega)) ?_ (by simp)
      simp [go_sem, Wk_eq, hms, hgm]
     ·rw [hgm, Bool.true_and] at hms
      (repeat (first|with_reducible refine wV fun _=>?_|simp [go_sem, hmk, hgm, hi]))
      refine ALoop.start (hrec (d - 1) (by omega) (i + 1) (by omega)) ?_ (by simp)
      simp [go_sem, Wk_eq, hms, hgm]
    ·rw [hmk, Bool.true_or] at hms
     (repeat (first|with_reducible refine wV fun _=>?_|simp [go_sem, hmk, hi]))
     refine ALoop.start (hrec (d - 1) (by omega) (i + 1) (by omega)) ?_ (by simp)
     simp [go_sem, Wk_eq, hms]
   ·have hil : i = l.length := by omega
    subst hil
    rw [← hmu]
    generalize mustP g p = must at *
    (repeat (first|with_reducible refine wV fun _=>?_|simp [go_sem]))
    refine ALoop.start (ALoop.ind (α := Nat) (fun i => ⟨[(2, .ref 0 0 9 0 0), (3, .ref 1 0 5 0 0), (5, encOs l), (6, .sl 2 (keepK must l i).length 5 0 (keepK must l i).length), (7, .v (.bool must)), (9, .v (.int .i64 i))], [(0, .rows true 0 9 [encGame g]), (1, .rows true 0 5 [encPos p]), (2, .rows true (keepK must l i).length 5 ((keepK must l i).map encPos))], 3⟩)
     (fun d i => i + d = l.length) ?_ l.length 0 ?_) ?_ ?_
    ·rintro d i i1 hrec2
     (repeat (first|with_reducible refine wV fun _=>?_|simp [go_sem]))
     refine aIf.mkL (fun hi => ?_) (fun hi => ?_) <;> simp at hi
     ·have hks := keepK_succ must l hi
      have hkl := keepK_len must l i
      cases must
      ·simp only [Bool.not_false, Bool.true_or, if_true] at hks
       (repeat (first|with_reducible refine wV fun _=>?_|simp [go_sem, hi]))
       refine ALoop.start (hrec2 (d - 1) (by omega) (i + 1) (by omega)) ?_ (by simp)
       simp [go_sem, Wk_eq, hks]
      ·cases ht : (nth l i).took
       ·simp [ht] at hks
        (repeat (first|with_reducible refine wV fun _=>?_|simp [go_sem, hi, ht]))
        refine ALoop.start (hrec2 (d - 1) (by omega) (i + 1) (by omega)) ?_ (by simp)
        simp [go_sem, Wk_eq, hks]
       ·simp [ht] at hks
        (repeat (first|with_reducible refine wV fun _=>?_|simp [go_sem, hi, ht]))
        refine ALoop.start (hrec2 (d - 1) (by omega) (i + 1) (by omega)) ?_ (by simp)
        simp [go_sem, Wk_eq, hks]
     ·have hil : i = l.length := by omega
      subst hil
      have hkl := keepK_len must l l.length
      rw [hmv]
      generalize keepK must l l.length = kk at *
      cases must
      ·simp only [Bool.false_eq_true, if_false] at hml
       (repeat (first|with_reducible refine wV fun _=>?_|simp [go_sem]))
       refine ACallP.plain hD (by simp [go_sem]) ?_
       (repeat (first|with_reducible refine wV fun _=>?_|simp [go_sem]))
       subst hml
       refine ACallP.pureF [2] hS ?_ (bel1 (bel_encPs _)) ?_
       ·(first|done|exact agX)
       ·(repeat (first|with_reducible refine wV fun _=>?_|simp [go_sem]))
      ·simp only [if_true, List.append_nil] at hml
       subst hml
       (repeat (first|with_reducible refine wV fun _=>?_|simp [go_sem]))
       refine ACallP.pureF [2] hS ?_ (bel1 (bel_encPs _)) ?_
       ·(first|done|exact agX)
       ·(repeat (first|with_reducible refine wV fun _=>?_|simp [go_sem]))
    ·omega
    ·simp [go_sem, Wk_eq, keepK_zero]
    ·simp
  ·omega
  ·simp [go_sem, Wk_eq, mustK_zero]
  ·simp
end Go.Av
end
section
/- Contracts: Status, Legal, SameLists of the reference; the law's status. -/
open Go Go.Proofs
namespace Go.Av
def encOver (v : Int × Bool) : AV := .agg [.v (.int .i64 v.1), .v (.bool v.2)]
theorem lawStatus_pure (g : GameD) (hg : GOk g) (p : PosD) (hp : POk g p) : Pure Tryz.prog 63 [.agg (encGame g), .agg (encPos p)] (encOver (statusV g p)) := by
 refine pF Tryz.func63 ?_
 have hS := Status_pure g hg p hp
 generalize statusV g p = v at *
 (repeat (first|with_reducible refine wV fun _=>?_|simp [go_sem, encOver]))
 refine ACallP.plain hS (by simp [go_sem]) ?_
 (repeat (first|with_reducible refine wV fun _=>?_|simp [go_sem, encOver]))
theorem SameLists_pure (a b : List PosD) (ha : a.length ≤ 17179869184) (hb : b.length ≤ 17179869184) (hfa : ∀ p ∈ a, FitsP p) (hfb : ∀ p ∈ b, FitsP p) : Pure Tryz.prog 46 [encPs a, encPs b] (.v (.bool (decide (a = b)))) := by
 refine pF Tryz.func46 ?_
 (repeat (first|with_reducible refine wV fun _=>?_|simp [go_sem]))
 refine aIf.mkL (fun hl => ?_) (fun hl => ?_) <;> simp at hl
 ·have e : decide (a = b) = false := decide_eq_false fun h => hl (by rw [h])
  rw [e]
  (repeat (first|with_reducible refine wV fun _=>?_|simp [go_sem]))
 ·(repeat (first|with_reducible refine wV fun _=>?_|simp [go_sem]))
  refine ALoop.start (ALoop.ind (α := Nat) (fun i => ⟨[(0, encPs a), (1, encPs b), (5, .v (.int .i64 i))], [], 0⟩)
   (fun d i => i + d = a.length ∧ ∀ j, j < i → nth a j = nth b j) ?_ a.length 0 ?_) ?_ ?_
  ·rintro d i ⟨i1, i2⟩ hrec
   (repeat (first|with_reducible refine wV fun _=>?_|simp [go_sem]))
   refine aIf.mkL (fun hi => ?_) (fun hi => ?_) <;> simp at hi
   ·have hi' : i < b.length := by omega
    have hS := R4Same_pure (nth a i) (nth b i) (hfa _ (nth_mem hi)) (hfb _ (nth_mem hi'))
    rw [show decide (cmpP (nth a i) (nth b i) = 0) = decide (nth a i = nth b i) by rw [decide_eq_decide]; exact cmp_pos.eq _ _] at hS
    (repeat (first|with_reducible refine wV fun _=>?_|simp [go_sem, hi, hi']))
    refine dCall.plain hS (by simp [go_sem]) ?_
    by_cases h : nth a i = nth b i
    ·(repeat (first|with_reducible refine wV fun _=>?_|simp [go_sem, h]))
     refine ALoop.start (hrec (d - 1) (by omega) (i + 1) ⟨by omega, fun j hj => ?_⟩) ?_ (by simp)
     ·rcases Nat.lt_or_ge j i with h' | h'
      ·exact i2 j h'
      ·obtain rfl : j = i := by omega
       exact h
     ·simp [go_sem, Wk_eq]
    ·have e : decide (a = b) = false := decide_eq_false fun h' => h (by rw [h'])
     rw [e]
     (repeat (first|with_reducible refine wV fun _=>?_|simp [go_sem, h]))
   ·have e : decide (a = b) = true := decide_eq_true (List.ext_getElem (by omega) fun j h1 h2 => by
     have := i2 j (by omega)
     rwa [nth_eq _ _ h1, nth_eq _ _ h2] at this)
    rw [e]
    (repeat (first|with_reducible refine wV fun _=>?_|simp [go_sem]))
  ·exact ⟨by simp, fun j hj => by omega⟩
  ·simp [go_sem, Wk_eq]
  ·simp
end Go.Av
end
section
/- Contracts: Walk of the reference, for any picks. -/
open Go Go.Proofs
namespace Go.Av
end Go.Av
end
section
/- Contracts, laws of play: the game and the positions of the examples. -/
open Go Go.Proofs
namespace Go.Av
def at6 (a b c side : Int) : PosD := ⟨[a, b, c], [0], [0], 0, side⟩
theorem at6_pure (a b c side : Int) : Pure Tryz.prog 128 [.v (.int .i64 a), .v (.int .i64 b), .v (.int .i64 c), .v (.int .i64 side)] (.agg (encPos (at6 a b c side))) := by
 refine pF Tryz.func128 ?_
 (repeat (first|with_reducible refine wV fun _=>?_|simp [go_sem]))
 simp only [at6, List.map_cons, List.map_nil, encI]
 (repeat' apply And.intro) <;> first | exact LeV.refl _ | exact leV_frz rfl (by simp) (by simp [noH, upd]) (by simp)
def small6 : GameD := ⟨3, [[1, 2, -1], [-1, 0, 1]], [1, 0], [⟨⟨⟨[97]⟩⟩, [[(1, 0), (3, 0)], [(1, 0), (4, 0), (6, 0)]], false⟩], 0, false, [], 3, 2⟩
theorem small6_pure : Pure Tryz.prog 127 [] (.agg (encGame small6)) := by
 refine pF Tryz.func127 ?_
 (repeat (first|with_reducible refine wV fun _=>?_|simp [go_sem]))
 simp only [small6, List.map_cons, List.map_nil, encI, encKind, encProg, encStep]
 (repeat' apply And.intro) <;> first | exact LeV.refl _ | exact LeV.nil _ | ((try simp only [encProg, encStep, encAct, encAs, encPath, encPt, encOut, encState, encPos, encOs, encSs, encPs, encIs, encGame, List.map_cons, List.map_nil, List.nil_append, List.append_nil, List.cons_append]); (repeat (first | (with_reducible exact LeRow.nil) | (with_reducible exact LeRows.nil) | (with_reducible exact LeV.refl _) | (with_reducible exact LeRow.refl _ _ _ _) | (with_reducible exact LeRows.refl _) | (with_reducible refine LeRow.cons ?_ ?_) | (with_reducible refine LeRows.cons ?_ ?_) | (with_reducible refine LeV.agg ?_) | (with_reducible refine LeV.tup ?_) | (with_reducible refine LeV.fn ?_ ?_) | (with_reducible exact LeV.nil _) | (with_reducible refine leRows_append (LeRows.refl _) ?_) | ((refine leV_frz rfl (by simp [encI, encKind, encProg, encStep]) (by simp [frzO, frz1, upd, noH]) ?_); (first | (simp [go_sem, encI, encKind, encProg, encStep]; done) | (simp [go_sem, encI, encKind, encProg, encStep]; exact List.take_of_length_le (by simp [encI, encKind, encProg, encStep])))) | ((refine LeV.frz rfl (by simp [encI, encKind, encProg, encStep]) (by simp [frzO, frz1, upd, noH]) ?_); (simp only [List.drop_zero, List.take_succ_cons, List.take_zero, List.map_cons, List.map_nil])) | ((refine LeV.frzP rfl (by simp [encI, encKind, encProg, encStep]) (by simp) (by simp [frzO, frz1, upd, noH]) ?_); (simp only [nth_zero, List.drop_zero])))))
end Go.Av
end
section
/- Laws of play: the examples are a game and positions of it. -/
open Go Go.Proofs
namespace Go.Av
theorem handOk6 : HandOk small6 [0] := ⟨rfl, fun i hi => by
 obtain rfl : i = 0 := by simpa using hi
 exact ⟨by decide, by decide, by decide⟩⟩
theorem at6_ok (a b c side : Int) (ha : 0 ≤ a ∧ a ≤ 2) (hb : 0 ≤ b ∧ b ≤ 2) (hc : 0 ≤ c ∧ c ≤ 2) (hs : side = 0 ∨ side = 1) : POk small6 (at6 a b c side) :=
 ⟨rfl, by
  intro x hx
  simp only [at6, List.mem_cons, List.not_mem_nil, or_false] at hx
  have : (small6.kinds.length : Int) = 1 := rfl
  rcases hx with rfl | rfl | rfl <;> omega, handOk6, handOk6, by simp [at6], by simp [at6, small6], hs⟩
theorem small6_ok : GOk small6 := by
 refine ⟨?_, by decide, by decide, by decide, by decide, ?_, by decide, by decide, ?_, ?_, by decide, by decide, ?_, by decide, by decide, by decide⟩
 ·refine ⟨?_, ?_, ?_, ?_, ?_, ?_, ?_⟩ <;> first | decide | skip
 ·intro d hd
  have : d = 0 ∨ d = 1 := by
   have : small6.turn.length = 2 := rfl
   omega
  rcases this with rfl | rfl <;> decide
 ·intro k hk
  simp only [small6, List.mem_singleton] at hk
  subst hk
  decide
 ·intro k hk q hq
  simp only [small6, List.mem_singleton] at hk
  subst hk
  simp only [List.mem_cons, List.not_mem_nil, or_false] at hq
  rcases hq with rfl | rfl
  ·refine ⟨by decide, by decide, fun x hx => ?_, by decide, by decide, by decide⟩
   simp only [List.mem_cons, List.not_mem_nil, or_false] at hx
   rcases hx with rfl | rfl <;> exact ⟨by decide, by decide, by decide, by decide, by decide⟩
  ·refine ⟨by decide, by decide, fun x hx => ?_, by decide, by decide, by decide⟩
   simp only [List.mem_cons, List.not_mem_nil, or_false] at hx
   rcases hx with rfl | rfl | rfl <;> exact ⟨by decide, by decide, by decide, by decide, by decide⟩
 ·intro c hc
  simp [small6] at hc
def small6c : GameD := { small6 with clauses := [(3, 0, 0, 1)] }
theorem small6c_ok : GOk small6c := by
 obtain ⟨a1, a2, a3, a4, a5, a6, a7, a8, a9, a10, a11, a12, a13, a14, a15, a16⟩ := small6_ok
 refine ⟨a1, a2, a3, a4, a5, a6, a7, a8, a9, a10, a11, a12, ?_, by decide, a15, a16⟩
 intro c hc
 simp only [small6c, List.mem_singleton] at hc
 subst hc
 exact ⟨by decide, by decide, by decide, by decide, by decide⟩
theorem at6c_ok {p : PosD} (h : POk small6 p) : POk small6c p := ⟨h.al, h.av, ⟨h.h0.len, h.h0.v⟩, ⟨h.h1.len, h.h1.v⟩, h.r0, h.r1, h.s⟩
theorem status_1 : statusV small6 (at6 1 0 2 0) = (0, false) := by kernel_rfl
theorem status_2 : statusV small6 (at6 0 2 0 0) = (3, true) := by kernel_rfl
theorem status_3 : statusV small6c (at6 0 2 0 0) = (1, true) := by kernel_rfl
theorem walk_1 : walkP small6 (at6 1 0 2 0) [7, -3, 0] = [at6 1 0 2 0, at6 0 1 2 1, at6 0 2 0 0] := by kernel_rfl
theorem moves_1 : movesP small6 (at6 1 0 2 0) = [at6 0 1 2 1] := by kernel_rfl
theorem moves_2 : movesP small6 (at6 0 1 2 1) = [at6 0 2 0 0] := by kernel_rfl
theorem moves_3 : movesP small6 (at6 0 2 0 0) = [] := by kernel_rfl
end Go.Av
end
section
/- Laws of play: the fixed examples. -/
open Go Go.Proofs
namespace Go.Av
theorem sanity6_pure : Pure Tryz.prog 62 [] (.v (.bool true)) := by
 have ka := at6_ok 1 0 2 0 (by omega) (by omega) (by omega) (.inl rfl)
 have kb := at6_ok 0 1 2 1 (by omega) (by omega) (by omega) (.inr rfl)
 have kc := at6_ok 0 2 0 0 (by omega) (by omega) (by omega) (.inl rfl)
 have fa := ka.fits small6_ok
 have fb := kb.fits small6_ok
 have fc := kc.fits small6_ok
 have hG := small6_pure
 have hA := at6_pure 1 0 2 0
 have hB := at6_pure 0 1 2 1
 have hC := at6_pure 0 2 0 0
 have mA := Moves_pure small6 small6_ok _ ka
 have mB := Moves_pure small6 small6_ok _ kb
 have mC := Moves_pure small6 small6_ok _ kc
 rw [moves_1] at mA
 rw [moves_2] at mB
 rw [moves_3] at mC
 have sA := lawStatus_pure small6 small6_ok _ ka
 have sC := lawStatus_pure small6 small6_ok _ kc
 have sD := lawStatus_pure small6c small6c_ok _ (at6c_ok kc)
 rw [status_1] at sA
 rw [status_2] at sC
 rw [status_3] at sD
 have lB := Legal_pure small6 small6_ok _ ka _ fb
 have lC := Legal_pure small6 small6_ok _ ka _ fc
 rw [moves_1, decide_eq_true (List.mem_singleton_self _)] at lB
 rw [moves_1, show decide (at6 0 2 0 0 ∈ [at6 0 1 2 1]) = false by decide] at lC
 have wA := Walk_pure small6 small6_ok _ ka [7, -3, 0] (by simp)
 rw [walk_1] at wA
 have q1 := SameLists_pure [at6 0 1 2 1] [at6 0 1 2 1] (by simp) (by simp) (by simpa using fb) (by simpa using fb)
 have q2 := SameLists_pure [at6 0 2 0 0] [at6 0 2 0 0] (by simp) (by simp) (by simpa using fc) (by simpa using fc)
 have q3 := SameLists_pure [at6 1 0 2 0, at6 0 1 2 1, at6 0 2 0 0] [at6 1 0 2 0, at6 0 1 2 1, at6 0 2 0 0] (by simp) (by simp) (by simp [fa, fb, fc]) (by simp [fa, fb, fc])
 rw [decide_eq_true rfl] at q1 q2 q3
 have e6 : encGame small6c = [.v (.int .i64 small6.cells), encIss small6.next, encIs small6.turn, .lst 3 (small6.kinds.map encKind), .v (.int .i64 small6.rights), .v (.bool small6.must), .lst 4 [encClause (3, 0, 0, 1)], .v (.int .i64 small6.blocked), .v (.int .i64 small6.endless)] := rfl
 rw [e6] at sD
 generalize at6 1 0 2 0 = a at *
 generalize at6 0 1 2 1 = b at *
 generalize at6 0 2 0 0 = c at *
 clear ka kb kc fa fb fc e6
 refine pF Tryz.func62 ?_
 (repeat (first|with_reducible refine wV fun _=>?_|simp [go_sem]))
 refine ACallP.plain hG (by simp [go_sem]) ?_
 (repeat (first|with_reducible refine wV fun _=>?_|simp [go_sem]))
 refine ACallP.plain hA (by simp [go_sem]) ?_
 (repeat (first|with_reducible refine wV fun _=>?_|simp [go_sem]))
 refine ACallP.plain hB (by simp [go_sem]) ?_
 (repeat (first|with_reducible refine wV fun _=>?_|simp [go_sem]))
 refine ACallP.plain hC (by simp [go_sem]) ?_
 (repeat (first|with_reducible refine wV fun _=>?_|simp [go_sem]))
 refine dCall.plain mA (by simp [go_sem]) ?_
 (repeat (first|with_reducible refine wV fun _=>?_|simp [go_sem]))
 refine dCall.flat [encPs [b], encPs [b]] (.v (.bool true)) [10] q1 (.v _) ?_ (by simp [go_sem]) ?_
 ·intro h₁ hS
  have h7 := hS 10 (by simp)
  simp [upd] at h7
  exact .cons (.refl _) (.cons (leV_frz h7.symm (by simp) (by simp [noH]) (by simp [go_sem])) .nil)
 (repeat (first|with_reducible refine wV fun _=>?_|simp [go_sem]))
 refine dGC.plain _ (fun _ => mB) (by simp [go_sem]) ?_
 (repeat (first|with_reducible refine wV fun _=>?_|simp [go_sem]))
 refine dGC.flat [encPs [c], encPs [c]] (.v (.bool true)) [17] (fun _ => q2) (.v _) ?_ (by simp [go_sem]) ?_
 ·intro h₁ hS
  have h7 := hS 17 (by simp)
  simp [upd] at h7
  exact .cons (.refl _) (.cons (leV_frz h7.symm (by simp) (by simp [noH]) (by simp [go_sem])) .nil)
 (repeat (first|with_reducible refine wV fun _=>?_|simp [go_sem]))
 refine dGC.plain _ (fun _ => mC) (by simp [go_sem]) ?_
 (repeat (first|with_reducible refine wV fun _=>?_|simp [go_sem]))
 refine ACallP.plain sA (by simp [go_sem]) ?_
 (repeat (first|with_reducible refine wV fun _=>?_|simp [go_sem, encOver]))
 refine aGC.plain _ (fun _ => sC) (by simp [go_sem]) ?_
 (repeat (first|with_reducible refine wV fun _=>?_|simp [go_sem, encOver]))
 refine aGC.flat [.agg [.v (.int .i64 small6.cells), encIss small6.next, encIs small6.turn, .lst 3 (small6.kinds.map encKind), .v (.int .i64 small6.rights), .v (.bool small6.must), .lst 4 [encClause (3, 0, 0, 1)], .v (.int .i64 small6.blocked), .v (.int .i64 small6.endless)], .agg (encPos c)] _ (fun _ => sD) (.agg (by simp [encOver]; exact ⟨.v _, .v _⟩)) ?_ (by simp [go_sem]) ?_
 ·exact .cons (.agg (.cons (.refl _) (.cons (.refl _) (.cons (.refl _) (.cons (.refl _) (.cons (.refl _) (.cons (.refl _) (.cons (leV_frz rfl (by simp) (by simp [noH, upd]) (by simp [go_sem])) (.cons (.refl _) (.cons (.refl _) .nil)))))))))) (.cons (.refl _) .nil)
 (repeat (first|with_reducible refine wV fun _=>?_|simp [go_sem, encOver]))
 refine dGC.plain _ (fun _ => lB) (by simp [go_sem]) ?_
 (repeat (first|with_reducible refine wV fun _=>?_|simp [go_sem]))
 refine dGC.plain _ (fun _ => lC) (by simp [go_sem]) ?_
 (repeat (first|with_reducible refine wV fun _=>?_|simp [go_sem]))
 refine dGC.frz [.agg (encGame small6), .agg (encPos a), encIs [7, -3, 0]] _ [48] [(48, some (.rows false 0 1 ([7, -3, 0].map encI)))] wA ?_ ?_ (by simp [go_sem]) ?_
 ·intro p hp
  simp only [List.mem_singleton] at hp
  subst hp
  exact ⟨by simp, 0, 1, _, rfl, by simp [upd, encI]⟩
 ·intro h₁ hS
  have h7 := hS 48 (by simp)
  simp [upd] at h7
  exact .cons (.refl _) (.cons (.refl _) (.cons (leV_frz h7.symm (by simp) (by simp [applyW, upd]) (by simp [encI])) .nil))
 (repeat (first|with_reducible refine wV fun _=>?_|simp [go_sem]))
 refine dGC.flat [encPs [a, b, c], encPs [a, b, c]] (.v (.bool true)) [53] (fun _ => q3) (.v _) ?_ (by simp [go_sem]) ?_
 ·intro h₁ hS
  have h7 := hS 53 (by simp)
  simp [upd] at h7
  exact .cons (.refl _) (.cons (leV_frz h7.symm (by simp) (by simp [noH]) (by simp [go_sem])) .nil)
 (repeat (first|with_reducible refine wV fun _=>?_|simp [go_sem]))
end Go.Av
end
