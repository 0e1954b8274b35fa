/- Texts of ours, part 10: our library and contracts of functions. -/
import Derived.Test.YtedhfmmlhfmomaaGreatDoorB09
set_option linter.unusedSimpArgs false
set_option linter.unusedVariables false
set_option maxRecDepth 100000
set_option maxHeartbeats 40000000
section
open Go Go.Proofs
namespace Go.Av
def zk9 : List AV := [.v (.slice none 0 0), .v (.slice none 0 0), .v (.slice none 0 0), .v (.int .i64 0), .v (.int .i64 0)]
theorem zj3 (l : List zag) (gn : Nat) (hl : l.length ≤ 17179869184) (hf : ∀ o ∈ l, za3 o) :
  zj6 Tryz.prog 130 [.sl 0 gn 5 0 l.length, .fn (.func 131) [] []] [(0, .rows true gn 5 (l.map zad))] 1
   (.sl 0 gn 5 0 (zbe l).length) [(0, .rows true gn 5 ((zbe l).map zad ++ List.replicate (l.length - (zbe l).length) zk9))] 1 := by
 unfold zj6
 by_cases h2 : l.length < 2
 ·rw [zhJ h2]
  refine zxR (by kernel_rfl) Tryz.func130 rfl rfl (Nat.le_of_ble_eq_true rfl) (by kernel_rfl) ?_
  repeat first|refine wV fun _=>?_|simp [go_sem]
  (refine zxN (fun hT => ?_) (fun hT => by first | omega | (simp at hT; omega)); clear hT)
  repeat first|refine wV fun _=>?_|simp [go_sem]
  simp [go_sem, zah]
 obtain ⟨D, hD⟩ : ∃ D, D = zbe l := ⟨_, rfl⟩
 rw [← hD]
 have hE : ∀ i j, i < l.length → j < l.length → zaS Tryz.prog 131 [.agg (zad (nth l i)), .agg (zad (nth l j))] (.v (.bool (decide (nth l i = nth l j)))) :=
  fun i j hi hj => zog _ _ (hf _ (zaj hi)) (hf _ (zaj hj))
 refine zxR (by kernel_rfl) Tryz.func130 rfl rfl (Nat.le_of_ble_eq_true rfl) (by kernel_rfl) ?_
 repeat first|refine wV fun _=>?_|simp [go_sem]
 (refine zxN (fun hF => by first | omega | (simp at hF; omega)) (fun hF => ?_); clear hF)
 repeat first|refine wV fun _=>?_|simp [go_sem]
 refine zxL (zxP (α := Nat) (fun j => ⟨[(0, .sl 0 gn 5 0 l.length), (1, .fn (.func 131) [] []), (5, .v (.int .i64 j))], [(0, .rows true gn 5 (l.map zad))], 1⟩)
  (fun d j => 1 ≤ j ∧ j + d = l.length ∧ D = l.take j ++ za5 (nth l (j - 1)) (l.drop j)) ?_ (l.length - 1) 1 ?_) ?_ ?_
 ·rintro d j ⟨i1, i2, i3⟩ hrec
  have e1 : ((j : Int) - 1).toNat = j - 1 := by omega
  repeat first|refine wV fun _=>?_|simp [go_sem]
  refine zxN (fun hj => ?_) (fun hj => ?_) <;> simp at hj
  ·have hj' : j - 1 < l.length := by omega
   rw [zaQ hj, za5] at i3
   repeat first|refine wV fun _=>?_|simp [go_sem, hj, hj', e1]
   refine zxO (hE j (j - 1) hj hj') (by simp [go_sem]) ?_
   repeat first|refine wV fun _=>?_|simp [go_sem, hj, hj', e1]
   by_cases he : nth l j = nth l (j - 1)
   ·rw [if_pos he] at i3
    repeat first|refine wV fun _=>?_|simp [go_sem, he, hj, hj', e1]
    refine zxL (zxP (α := Nat × List zag × Nat) (fun a => ⟨[(0, .sl 0 gn 5 0 l.length), (1, .fn (.func 131) [] []), (5, .v (.int .i64 a.2.2)), (6, .sl 0 gn 5 j (l.length - j)), (7, .v (.int .i64 a.1))], [(0, .rows true gn 5 (a.2.1.map zad))], 1⟩)
     (fun d a => 1 ≤ a.1 ∧ j + a.1 + d = l.length ∧ a.2.1.length = l.length ∧ a.2.2 ≤ j + a.1 - 1 ∧ a.2.1.drop (j + a.1 - 1) = l.drop (j + a.1 - 1) ∧ D = a.2.1.take a.2.2 ++ za5 (nth l (j + a.1 - 1)) (l.drop (j + a.1))) ?_ (l.length - j - 1) (1, l, j) ?_) ?_ ?_
    ·rintro d2 ⟨k2, R, k⟩ ⟨j1, j2, j3, j4, j5, j6⟩ hrec2
     simp only at j1 j2 j3 j4 j5 j6
     have e2 : ((k2 : Int) - 1).toNat = k2 - 1 := by omega
     have e3 : j + (k2 - 1) = j + k2 - 1 := by omega
     have hRn : ∀ m, j + k2 - 1 ≤ m → m < l.length → nth R m = nth l m := fun m h1 h2 => by
      have h3 : (R.drop (j + k2 - 1))[m - (j + k2 - 1)]? = (l.drop (j + k2 - 1))[m - (j + k2 - 1)]? := by rw [j5]
      rw [List.getElem?_drop, List.getElem?_drop, show j + k2 - 1 + (m - (j + k2 - 1)) = m by omega, List.getElem?_eq_getElem (by omega), List.getElem?_eq_getElem h2] at h3
      rw [zaB _ _ (by omega), zaB _ _ h2]
      exact Option.some.inj h3
     repeat first|refine wV fun _=>?_|simp [go_sem, j3]
     refine zxN (fun hk => ?_) (fun hk => ?_) <;> simp at hk
     ·have hk1 : j + k2 < l.length := by omega
      have hk0 : j + k2 - 1 < l.length := by omega
      have hr1 := hRn (j + k2) (by omega) hk1
      have hr0 := hRn (j + k2 - 1) (by omega) hk0
      rw [zaQ hk1, za5] at j6
      have hk2 : k2 - 1 < l.length - j := by omega
      have hk3 : k < l.length := by omega
      repeat first|refine wV fun _=>?_|simp [go_sem, j3, hk, hk1, hk0, hr1, hr0, e2, e3, hk2]
      refine zxO (hE (j + k2) (j + k2 - 1) hk1 hk0) (by simp [go_sem]) ?_
      repeat first|refine wV fun _=>?_|simp [go_sem, j3, hk, hk1, hk0, hr1, hr0, e2, e3, hk2]
      by_cases hc : nth l (j + k2) = nth l (j + k2 - 1)
      ·rw [if_pos hc] at j6
       repeat first|refine wV fun _=>?_|simp [go_sem, hc]
       refine zxL (hrec2 (d2 - 1) (by omega) (k2 + 1, R, k) ⟨by simp only; omega, by simp only; omega, j3, by simp only; omega, ?_, ?_⟩) ?_ (by simp)
       ·have := congrArg (List.drop 1) j5
        rw [List.drop_drop, List.drop_drop] at this
        rw [show j + (k2 + 1) - 1 = j + k2 - 1 + 1 by omega]
        exact this
       ·simp only
        rw [show j + (k2 + 1) - 1 = j + k2 by omega, hc]
        exact j6
       ·simp [go_sem, zah]
      ·rw [if_neg hc] at j6
       repeat first|refine wV fun _=>?_|simp [go_sem, hc, j3, hk, hk1, hk0, hr1, hr0, e2, e3, hk2, hk3]
       refine zxL (hrec2 (d2 - 1) (by omega) (k2 + 1, R.set k (nth l (j + k2)), k + 1) ⟨by simp only; omega, by simp only; omega, by simpa using j3, by simp only; omega, ?_, ?_⟩) ?_ (by simp)
       ·have := congrArg (List.drop 1) j5
        rw [List.drop_drop, List.drop_drop] at this
        simp only
        rw [show j + (k2 + 1) - 1 = j + k2 - 1 + 1 by omega, List.drop_set, if_pos (by omega)]
        exact this
       ·simp only
        rw [show j + (k2 + 1) - 1 = j + k2 by omega, List.take_add_one, List.take_set_of_le (by omega), List.getElem?_set_self (by omega), Option.toList_some, List.append_assoc]
        exact j6
       ·have hb : ∀ n, ∀ r ∈ ((R.set k (nth l (j + k2))).map zad), ∀ c ∈ r, Bel n c := fun n => of_eq_true zp2
        rw [List.map_set] at hb
        simp [go_sem, zah, List.map_set]
        exact hb 1
     ·rw [List.drop_eq_nil_of_le (by omega), za5, List.append_nil] at j6
      have hDl : D.length = k := by rw [j6, List.length_take]; omega
      have hd0 : List.drop (k + (l.length - k)) (R.map zad) = [] := List.drop_eq_nil_of_le (by simp; omega)
      have hDm : D.map zad = List.take k (R.map zad) := by rw [j6, List.map_take]
      repeat first|refine wV fun _=>?_|simp [go_sem]
      simp [go_sem, zah, hd0, hDl, hDm, zk9]
      exact fun x hx => of_eq_true (zp2 (n := 1) (l := R)) x (List.mem_of_mem_take hx)
    ·refine ⟨Nat.le_refl _, by simp only; omega, rfl, by simp only; omega, rfl, ?_⟩
     simp only
     rw [Nat.add_sub_cancel, he]
     exact i3
    ·simp [go_sem, zah]
    ·simp
   ·rw [if_neg he] at i3
    repeat first|refine wV fun _=>?_|simp [go_sem, he, hj, hj', e1]
    refine zxL (hrec (d - 1) (by omega) (j + 1) ⟨by omega, by omega, ?_⟩) ?_ (by simp)
    ·rw [i3, Nat.add_sub_cancel, List.take_add_one, List.getElem?_eq_getElem hj, zaB _ _ hj, Option.toList_some, List.append_assoc]; rfl
    ·simp [go_sem, zah]
  ·rw [List.drop_eq_nil_of_le hj, List.take_of_length_le hj, za5, List.append_nil] at i3
   rw [i3]
   repeat first|refine wV fun _=>?_|simp [go_sem]
   simp [go_sem, zah]
 ·refine ⟨Nat.le_refl _, by omega, ?_⟩
  cases l with
  | nil => simp at h2
  | cons a l => rw [hD]; rfl
 ·simp [go_sem, zah]
 ·simp
theorem zfh {n : Nat} (l : List zag) : ∀ r ∈ l.map zad, ∀ c ∈ r, Bel n c := of_eq_true zp2
theorem zkw (l : List zag) (gn : Nat) (hl : l.length ≤ 17179869184) (hf : ∀ o ∈ l, za3 o) {h : zal} {n o : Nat} (ho : h o = some (.rows true gn 5 (l.map zad))) (hon : o < n) {K : zcc}
  (hK : K (.sl o gn 5 0 (zbe l).length) (upd h o (some (.rows true gn 5 ((zbe l).map zad ++ List.replicate (l.length - (zbe l).length) zk9)))) n) :
  zaa Tryz.prog 130 [.sl o gn 5 0 l.length, .fn (.func 131) [] []] h n K := by
 have hz : ∀ m, ∀ r ∈ (zbe l).map zad ++ List.replicate (l.length - (zbe l).length) zk9, ∀ c ∈ r, Bel m c := by
  intro m r hr c hc
  rcases List.mem_append.1 hr with hr | hr
  ·exact zfh _ r hr c hc
  ·rw [List.eq_of_mem_replicate hr] at hc
   simp only [zk9, List.mem_cons, List.not_mem_nil, or_false] at hc
   rcases hc with rfl | rfl | rfl | rfl | rfl <;> exact .v _
 refine zx4 (args' := [.sl o gn 5 0 l.length, .fn (.func 131) [] []]) (HH := [(o, .rows true gn 5 ((zbe l).map zad ++ List.replicate (l.length - (zbe l).length) zk9))])
  [o] h (zj3 l gn hl hf) (by simp) (by simpa using hon) rfl (Nat.le_refl _) (.refl _) ?_ ?_ (.refl _ _ _ _) ?_ ?_ ?_ (.sl rfl) ?_ ?_
 ·intro j hj
  obtain rfl : j = 0 := by omega
  exact ⟨_, _, rfl, ho, .rows (.same (zfh _))⟩
 ·intro p hp
  simp only [List.mem_singleton] at hp
  subst hp
  exact ⟨Nat.le_of_ble_eq_true rfl, zfh _⟩
 ·intro y hy
  simp only [List.mem_cons, List.not_mem_nil, or_false] at hy
  rcases hy with rfl | rfl
  ·exact .sl hon
  ·simp [go_sem]
 ·exact .cons (.sl rfl) (.cons (.same (by simp [go_sem])) .nil)
 ·intro y hy
  simp only [List.mem_cons, List.not_mem_nil, or_false] at hy
  rcases hy with rfl | rfl
  ·exact .sl (by decide)
  ·simp [go_sem]
 ·exact .cons rfl (.rows (.same (hz 0))) .nil
 ·have e : zdx [(o, .rows true gn 5 ((zbe l).map zad ++ List.replicate (l.length - (zbe l).length) zk9))] (zkZ [o] h) = upd h o (some (.rows true gn 5 ((zbe l).map zad ++ List.replicate (l.length - (zbe l).length) zk9))) := by
   funext j
   simp only [zdx, zkZ, upd]
   by_cases j1 : j = o
   ·simp [j1]
   ·simp [j1]
  rw [e, Nat.sub_self, Nat.add_zero]
  exact hK
theorem ziU (l : List zag) (gn m : Nat) (hm : l.length = m) (hl : m ≤ 17179869184) (hf : ∀ o ∈ l, za3 o) {h : zal} {n o : Nat} (ho : h o = some (.rows true gn 5 (l.map zad))) (hon : o < n) {K : zcc}
  (hK : K (.sl o gn 5 0 (zbe l).length) (upd h o (some (.rows true gn 5 ((zbe l).map zad ++ List.replicate (l.length - (zbe l).length) zk9)))) n) :
  zaa Tryz.prog 130 [.sl o gn 5 0 m, .fn (.func 131) [] []] h n K := by
 subst hm
 exact zkw l gn hl hf ho hon hK
theorem zxx : Go.Sort.SWO (fun a b : zag => decide (zbw a b < 0)) := by
 refine ⟨fun x => ?_, fun x y z h1 h2 => ?_, fun x y z h1 h2 => ?_⟩
 ·have := zaT.swap x x
  simp; omega
 ·simp only [decide_eq_true_eq] at h1 h2 ⊢
  have t := zaT.tr x y z (by omega) (by omega)
  rcases Int.lt_or_eq_of_le t with h | h
  ·exact h
  ·have e := (zaT.eq _ _).1 h
   subst e
   have := zaT.swap x y
   omega
 ·simp only [decide_eq_false_iff_not] at h1 h2 ⊢
  have s1 := zaT.swap x y
  have s2 := zaT.swap y z
  have s3 := zaT.swap x z
  have t := zaT.tr z y x (by omega) (by omega)
  omega
theorem zq0 (l : List zag) (hf : ∀ o ∈ l, za3 o) (hl : l.length < 4611686018427387904) {h : zal} {n o gn : Nat} (ho : h o = some (.rows true gn 5 (l.map zad))) {K : zcc}
  (hK : K (.tup []) (upd h o (some (.rows true gn 5 ((zb9 zbw l).map zad)))) n) :
  zaa Tryz.prog 129 [.sl o gn 5 0 l.length, .fn (.func 37) [] []] h n K := by
 refine zx6 zsortP (k := 5) (by omega) Tryz.isAgg45 Tryz.sizeOf45 zad (fun _ => rfl) ?_ (fun o => za3 o) zbw zxx _ (fun x y hx hy => zbA x y hx hy) ?_ l hf hl ho ?_
 ·intro x
  simp [go_sem]
 ·exact (zbA default default (by unfold za3 zeh; decide) (by unfold za3 zeh; decide)).1
 ·intro l' hp hs
  have : zb9 zbw l = l' := zeF zaT hp (hs.imp fun {a b} hab => by
   have := zaT.swap a b
   simp only [leC, decide_eq_true_eq]
   omega)
  rw [← this]
  exact hK
theorem zm3 (l : List zag) (hl : l.length ≤ 17179869184) : zgB Tryz.prog 128 [zaP l] (fun n => .sl n 1 5 0 l.length) (fun n => [(n, .rows true 1 5 (l.map zad))]) 1 := by
 refine ⟨?_, fun n => ⟨by simp [go_sem], by simp [go_sem]⟩⟩
 refine zyb (fun hne => ?_) (fun he A c => ?_)
 ·obtain ⟨x, l, rfl⟩ := List.exists_cons_of_ne_nil (show l ≠ [] by intro h; subst h; exact hne rfl)
  simp only [List.length_cons] at hl
  refine zxR (by kernel_rfl) Tryz.func128 rfl rfl (Nat.le_of_ble_eq_true rfl) (by kernel_rfl) ?_
  repeat first|refine wV fun _=>?_|simp [go_sem]
  simp [go_sem, zah]
 ·obtain rfl : l = [] := by simpa using he
  refine zxR (by kernel_rfl) Tryz.func128 rfl rfl (Nat.le_of_ble_eq_true rfl) (by kernel_rfl) ?_
  repeat first|refine wV fun _=>?_|simp [go_sem]
  refine zxN (fun h => ?_) (fun h => ?_)
  ·simp at h
   subst h
   simp [go_sem, zah]
  ·simp [go_sem, zah]
theorem zc4 (l : List zag) (hl : l.length ≤ 17179869184) (hf : ∀ p ∈ l, za3 p) : zaS Tryz.prog 72 [zaP l] (zaP (zbj zbw l)) := by
 refine pF Tryz.func72 ?_
 have hC := zm3 l hl
 repeat first|refine wV fun _=>?_|simp [go_sem]
 refine zxQ hC (by simp [go_sem]) ?_
 repeat first|refine wV fun _=>?_|simp [go_sem]
 refine zq0 l hf (by omega) (o := 0) (gn := 1) (by simp [upd]) ?_
 repeat first|refine wV fun _=>?_|simp [go_sem]
 refine ziU (zb9 zbw l) 1 l.length (zdN l) (by omega) (fun p hp => hf p (zdO.1 hp)) (o := 0) (by simp [upd]) (by omega) ?_
 repeat first|refine wV fun _=>?_|simp [go_sem]
 exact zaL rfl (by simp) (by simp [noH, upd]) (by rw [List.drop_zero]; exact List.take_left' (by simp))
theorem ztq (g : zae) (hg : GOk g) (p : zag) (hp : POk g p) (cell i : Int) (hc : zcE g p cell i) {h : zal} {n a b : Nat} (hd : [a, b].Nodup) (hlt : ∀ j ∈ [a, b], j < n)
  (ha : h a = some (.rows true 0 5 [zad p])) (hb : h b = some (.rows true 0 1 [[zxT]])) {K : zcc}
  (hK : K (.v (.int .i64 0)) (upd (upd (upd h a (some (.rows true 0 5 [zad p]))) b (some (.rows true 0 1 [[.sl (n + 245) (zcQ g p cell i).length 6 0 (zcQ g p cell i).length]]))) (n + 245) (some (.rows true (zcQ g p cell i).length 6 ((zcQ g p cell i).map zaH)))) (n + 246)) :
  zaa Tryz.prog 183 [.agg (zaf g), .agg (zad p), .v (.int .i64 cell), .v (.int .i64 i), .fn (.func 184) [] [.ref a 0 5 0 0, .ref b 0 1 0 0]] h n K := by
 have hbg : ∀ m, Bel m (.agg (zaf g)) := fun m => by simp [go_sem]
 have hbp : ∀ m, ∀ c ∈ zad p, Bel m c := fun m => by simp [go_sem]
 have hbq : ∀ m, Bel m (.agg (zad p)) := fun m => by simp [go_sem]
 have han := hlt a (by simp)
 have hbn := hlt b (by simp)
 have hrows : ∀ m, ∀ r ∈ [zad p], ∀ c ∈ r, Bel m c := fun m r hr => by simp only [List.mem_singleton] at hr; subst hr; exact hbp m
 refine zx4 (args' := [.agg (zaf g), .agg (zad p), .v (.int .i64 cell), .v (.int .i64 i), .fn (.func 184) [] [.ref a 0 5 0 0, .ref b 0 1 0 0]])
  (HH := [(a, .rows true 0 5 [zad p]), (b, .rows true 0 1 [[.sl (n + 245) (zcQ g p cell i).length 6 0 (zcQ g p cell i).length]]), (n + 245, .rows true (zcQ g p cell i).length 6 ((zcQ g p cell i).map zaH))])
  [a, b] h (zvA g hg p hp cell i hc) hd hlt rfl (by omega) (.refl _) ?_ ?_ (.refl _ _ _ _) ?_ ?_ ?_ (.same (.v _)) ?_ ?_
 ·intro j hj
  rcases (show j = 0 ∨ j = 1 by omega) with rfl | rfl
  ·exact ⟨_, _, rfl, ha, .rows (.same (hrows _))⟩
  ·exact ⟨_, _, rfl, hb, .rows (.same (by simp [go_sem]))⟩
 ·intro q hq
  simp only [List.mem_cons, List.not_mem_nil, or_false] at hq
  rcases hq with rfl | rfl
  ·exact ⟨Nat.le_of_ble_eq_true rfl, hrows _⟩
  ·exact ⟨Nat.le_of_ble_eq_true rfl, by simp [go_sem, zv8]⟩
 ·simp [go_sem, han, hbn]
 ·exact .cons (.same (hbg _)) (.cons (.same (hbq _)) (.cons (.same (.v _)) (.cons (.same (.v _)) (.cons (.fn .nil (.cons (.ref rfl) (.cons (.ref rfl) .nil))) .nil))))
 ·simp [go_sem]
 ·exact .cons rfl (.rows (.same (hrows _))) (.cons rfl (.rows (.cons (.cons (.sl rfl) .nil) .nil)) (.cons rfl (.rows (.same (zce _))) .nil))
 ·have e : zdx [(a, .rows true 0 5 [zad p]), (b, .rows true 0 1 [[.sl (n + 245) (zcQ g p cell i).length 6 0 (zcQ g p cell i).length]]), (n + 245, .rows true (zcQ g p cell i).length 6 ((zcQ g p cell i).map zaH))] (zkZ [a, b] h) =
    upd (upd (upd h a (some (.rows true 0 5 [zad p]))) b (some (.rows true 0 1 [[.sl (n + 245) (zcQ g p cell i).length 6 0 (zcQ g p cell i).length]]))) (n + 245) (some (.rows true (zcQ g p cell i).length 6 ((zcQ g p cell i).map zaH))) := by
   simp only [List.nodup_cons, List.mem_cons, List.not_mem_nil, or_false, not_or, List.nodup_nil, and_true, not_false_eq_true] at hd
   have na : a ≠ n + 245 := by omega
   have nb : b ≠ n + 245 := by omega
   funext j
   simp only [zdx, zkZ, upd]
   by_cases j1 : j = a
   ·subst j1; simp [hd, na]
   ·by_cases j2 : j = b
    ·subst j2; simp [j1, nb]
    ·by_cases j3 : j = n + 245
     ·subst j3; simp [j1, j2]
     ·simp [j1, j2, j3]
  rw [e]
  exact hK
theorem zqR (g : zae) (hg : GOk g) (p : zag) (hp : POk g p) (cell i : Int) (hc : zcE g p cell i) :
  zaS Tryz.prog 127 [.agg (zaf g), .agg (zad p), .v (.int .i64 cell), .v (.int .i64 i)] (.tup [zed (zeZ g p cell i), .v (.int .i64 0)]) := by
 refine pF Tryz.func127 ?_
 have hl := (zkP hg hp hc)
 have hll : (zcQ g p cell i).length ≤ 100000000 := Nat.le_trans (List.length_filterMap_le _ _) hl.2
 have hf : ∀ o ∈ zcQ g p cell i, za3 o.pos := by
  intro o ho
  obtain ⟨s, hs, h⟩ := List.mem_filterMap.1 ho
  exact (ztp hg (hl.1 s hs).1 hp.s h).1.fits hg
 have hr : zeZ g p cell i = zbj zlM (zcQ g p cell i) := rfl
 rw [hr]
 repeat first|refine wV fun _=>?_|simp [go_sem]
 refine ztq g hg p hp cell i hc (a := 1) (b := 2) (by decide) (by simp) (by simp [upd, zad, zar]) (by simp [upd]) ?_
 generalize zcQ g p cell i = l at *
 repeat first|refine wV fun _=>?_|simp [go_sem]
 refine zq1 l hf (by omega) (o := 248) (gn := l.length) (by simp [upd]) ?_
 repeat first|refine wV fun _=>?_|simp [go_sem]
 refine ziV (zb9 zlM l) l.length l.length (zdN l) (by omega) (fun o ho => hf o (zdO.1 ho)) (o := 248) (by simp [upd]) (by omega) ?_
 repeat first|refine wV fun _=>?_|simp [go_sem]
 exact zaL rfl (by simp) (by simp [noH, upd]) (by rw [List.drop_zero]; exact List.take_left' (by simp))
theorem zoh (g : zae) (hg : GOk g) (p : zag) (hp : POk g p) : zaS Tryz.prog 73 [.agg (zaf g), .agg (zad p)] (zaP (zc7 g p)) := by
 refine pF Tryz.func73 ?_
 have hal := hp.al
 have c9 := hg.c9
 have k6 := hg.k6
 have hcp := zfR ⟨p, 0, 0, false⟩ (hp.fits hg)
 have hl0 := hp.h0.len
 have hl1 := hp.h1.len
 have hps := hp.s
 rcases hp.s with hsd | hsd
 ·have hsn : p.side.toNat = 0 := by omega
  repeat first|refine wV fun _=>?_|simp [go_sem, hsn, hsd]
  refine zxL (zxP (α := Nat) (fun k => ⟨[(3, .ref 1 0 5 0 0), (5, .sl 2 (zbW g p k).length 5 0 (zbW g p k).length), (15, zar p.h0), (16, .v (.int .i64 p.h0.length)), (17, .v (.int .i64 k))], [(1, .rows true 0 5 [zad p]), (2, .rows true (zbW g p k).length 5 ((zbW g p k).map zad))], 3⟩)
   (fun d k => k + d = g.kinds.length) ?_ g.kinds.length 0 ?_) ?_ ?_
  ·rintro d k k1 hrec
   repeat first|refine wV fun _=>?_|simp [go_sem]
   refine zxN (fun hk => ?_) (fun hk => ?_) <;> simp at hk
   ·have hz := zhL g p k
    have ha := zjn g p k
    have hkh : k < p.h0.length := by omega
    have hhv := hp.h0.v k hkh
    repeat first|refine wV fun _=>?_|simp [go_sem, hkh]
    refine zxL (zxP (α := Nat) (fun c => ⟨[(3, .ref 1 0 5 0 0), (5, .sl 2 (zcH g p k c).length 5 0 (zcH g p k c).length), (6, .v (.int .i64 k)), (7, .v (.int .i64 (nth p.h0 k))), (15, zar p.h0), (16, .v (.int .i64 p.h0.length)), (17, .v (.int .i64 k)), (23, zar p.at_), (24, .v (.int .i64 p.at_.length)), (25, .v (.int .i64 c))], [(1, .rows true 0 5 [zad p]), (2, .rows true (zcH g p k c).length 5 ((zcH g p k c).map zad))], 3⟩)
     (fun d c => c + d = p.at_.length) ?_ p.at_.length 0 ?_) ?_ ?_
    ·rintro d2 c c1 hrec2
     repeat first|refine wV fun _=>?_|simp [go_sem]
     refine zxN (fun hci => ?_) (fun hci => ?_) <;> simp at hci
     ·have hD : zgb g p k c = if nth (p.hand p.side) k = 0 ∨ nth p.at_ c ≠ 0 then none
       else some { ({ p with at_ := p.at_.set c (zaK k p.side) }.withHand p.side ((p.hand p.side).set k (nth (p.hand p.side) k - 1))) with side := 1 - p.side } := rfl
      have hD' : zgb g p k c = if nth p.h0 k = 0 ∨ nth p.at_ c ≠ 0 then none else some { p with at_ := p.at_.set c (zaK k p.side), h0 := p.h0.set k (nth p.h0 k - 1), side := 1 - p.side } := by
       rw [hD]; simp [zag.hand, zag.withHand, hsd]
      have hCd := zc3 (k : Int) p.side
      rw [hsd] at hCd hD'
      repeat first|refine wV fun _=>?_|simp [go_sem, hci]
      refine zxN (fun hcc => ?_) (fun hcc => ?_) <;> simp at hcc
      ·rw [if_pos (by omega)] at hD'
       have hsu := zdZ g p k c
       rw [hD'] at hsu
       simp only [Option.toList_none, List.append_nil] at hsu
       repeat first|refine wV fun _=>?_|simp [go_sem]
       refine zxL (hrec2 (d2 - 1) (by omega) (c + 1) (by omega)) ?_ (by simp)
       simp [go_sem, zah, hsd, hsu]
      ·rw [if_neg (by omega)] at hD'
       have hsu := zdZ g p k c
       rw [hD'] at hsu
       simp only [Option.toList_some] at hsu
       have hcl := zjo g p k c
       have hkm : k * p.at_.length ≤ 6 * 9 := Nat.mul_le_mul (by omega) (by omega)
       repeat first|refine wV fun _=>?_|simp [go_sem, hci]
       refine zxQ hcp (by simp [go_sem]) ?_
       repeat first|refine wV fun _=>?_|simp [go_sem, hci, hsd]
       refine zxO hCd (by simp [go_sem]) ?_
       repeat first|refine wV fun _=>?_|simp [go_sem, hsn, hsd, hci, hkh]
       refine zxL (hrec2 (d2 - 1) (by omega) (c + 1) (by omega)) ?_ (by simp)
       simp [go_sem, zah, hsd, hsu]
       (first|done|exact rwX)
     ·have hcl : c = p.at_.length := by omega
      subst hcl
      rw [ha]
      repeat first|refine wV fun _=>?_|simp [go_sem]
      refine zxL (hrec (d - 1) (by omega) (k + 1) (by omega)) ?_ (by simp)
      simp [go_sem, zah, hsd]
    ·omega
    ·simp [go_sem, zah, hsd, hz]
    ·simp
   ·have hkl : k = g.kinds.length := by omega
    subst hkl
    have hdl := zeN g p g.kinds.length
    have hkm : g.kinds.length * p.at_.length ≤ 6 * 9 := Nat.mul_le_mul k6 (by omega)
    have hS := zc4 (zbW g p g.kinds.length) (by omega) (fun q hq => by
     rw [zgc] at hq
     obtain ⟨k, hk, hq⟩ := List.mem_flatMap.1 hq
     obtain ⟨c, hc, hq⟩ := List.mem_filterMap.1 hq
     exact (zkA hg hp (by simpa using hk) hq).1.fits hg)
    rw [show zbj zbw (zbW g p g.kinds.length) = zc7 g p from rfl] at hS
    generalize zbW g p g.kinds.length = l at *
    generalize zc7 g p = r at *
    repeat first|refine wV fun _=>?_|simp [go_sem]
    refine zxW [2] hS ?_ (zwE (zcn _)) ?_
    ·(first|done|exact agX)
    ·repeat first|refine wV fun _=>?_|simp [go_sem]
  ·omega
  ·simp [go_sem, zah, hsd, show zbW g p 0 = [] from rfl]
  ·simp
 ·have hsn : p.side.toNat = 1 := by omega
  repeat first|refine wV fun _=>?_|simp [go_sem, hsn, hsd]
  refine zxL (zxP (α := Nat) (fun k => ⟨[(3, .ref 1 0 5 0 0), (5, .sl 2 (zbW g p k).length 5 0 (zbW g p k).length), (15, zar p.h1), (16, .v (.int .i64 p.h1.length)), (17, .v (.int .i64 k))], [(1, .rows true 0 5 [zad p]), (2, .rows true (zbW g p k).length 5 ((zbW g p k).map zad))], 3⟩)
   (fun d k => k + d = g.kinds.length) ?_ g.kinds.length 0 ?_) ?_ ?_
  ·rintro d k k1 hrec
   repeat first|refine wV fun _=>?_|simp [go_sem]
   refine zxN (fun hk => ?_) (fun hk => ?_) <;> simp at hk
   ·have hz := zhL g p k
    have ha := zjn g p k
    have hkh : k < p.h1.length := by omega
    have hhv := hp.h1.v k hkh
    repeat first|refine wV fun _=>?_|simp [go_sem, hkh]
    refine zxL (zxP (α := Nat) (fun c => ⟨[(3, .ref 1 0 5 0 0), (5, .sl 2 (zcH g p k c).length 5 0 (zcH g p k c).length), (6, .v (.int .i64 k)), (7, .v (.int .i64 (nth p.h1 k))), (15, zar p.h1), (16, .v (.int .i64 p.h1.length)), (17, .v (.int .i64 k)), (23, zar p.at_), (24, .v (.int .i64 p.at_.length)), (25, .v (.int .i64 c))], [(1, .rows true 0 5 [zad p]), (2, .rows true (zcH g p k c).length 5 ((zcH g p k c).map zad))], 3⟩)
     (fun d c => c + d = p.at_.length) ?_ p.at_.length 0 ?_) ?_ ?_
    ·rintro d2 c c1 hrec2
     repeat first|refine wV fun _=>?_|simp [go_sem]
     refine zxN (fun hci => ?_) (fun hci => ?_) <;> simp at hci
     ·have hD : zgb g p k c = if nth (p.hand p.side) k = 0 ∨ nth p.at_ c ≠ 0 then none
       else some { ({ p with at_ := p.at_.set c (zaK k p.side) }.withHand p.side ((p.hand p.side).set k (nth (p.hand p.side) k - 1))) with side := 1 - p.side } := rfl
      have hD' : zgb g p k c = if nth p.h1 k = 0 ∨ nth p.at_ c ≠ 0 then none else some { p with at_ := p.at_.set c (zaK k p.side), h1 := p.h1.set k (nth p.h1 k - 1), side := 1 - p.side } := by
       rw [hD]; simp [zag.hand, zag.withHand, hsd]
      have hCd := zc3 (k : Int) p.side
      rw [hsd] at hCd hD'
      repeat first|refine wV fun _=>?_|simp [go_sem, hci]
      refine zxN (fun hcc => ?_) (fun hcc => ?_) <;> simp at hcc
      ·rw [if_pos (by omega)] at hD'
       have hsu := zdZ g p k c
       rw [hD'] at hsu
       simp only [Option.toList_none, List.append_nil] at hsu
       repeat first|refine wV fun _=>?_|simp [go_sem]
       refine zxL (hrec2 (d2 - 1) (by omega) (c + 1) (by omega)) ?_ (by simp)
       simp [go_sem, zah, hsd, hsu]
      ·rw [if_neg (by omega)] at hD'
       have hsu := zdZ g p k c
       rw [hD'] at hsu
       simp only [Option.toList_some] at hsu
       have hcl := zjo g p k c
       have hkm : k * p.at_.length ≤ 6 * 9 := Nat.mul_le_mul (by omega) (by omega)
       repeat first|refine wV fun _=>?_|simp [go_sem, hci]
       refine zxQ hcp (by simp [go_sem]) ?_
       repeat first|refine wV fun _=>?_|simp [go_sem, hci, hsd]
       refine zxO hCd (by simp [go_sem]) ?_
       repeat first|refine wV fun _=>?_|simp [go_sem, hsn, hsd, hci, hkh]
       refine zxL (hrec2 (d2 - 1) (by omega) (c + 1) (by omega)) ?_ (by simp)
       simp [go_sem, zah, hsd, hsu]
       (first|done|exact rwX)
     ·have hcl : c = p.at_.length := by omega
      subst hcl
      rw [ha]
      repeat first|refine wV fun _=>?_|simp [go_sem]
      refine zxL (hrec (d - 1) (by omega) (k + 1) (by omega)) ?_ (by simp)
      simp [go_sem, zah, hsd]
    ·omega
    ·simp [go_sem, zah, hsd, hz]
    ·simp
   ·have hkl : k = g.kinds.length := by omega
    subst hkl
    have hdl := zeN g p g.kinds.length
    have hkm : g.kinds.length * p.at_.length ≤ 6 * 9 := Nat.mul_le_mul k6 (by omega)
    have hS := zc4 (zbW g p g.kinds.length) (by omega) (fun q hq => by
     rw [zgc] at hq
     obtain ⟨k, hk, hq⟩ := List.mem_flatMap.1 hq
     obtain ⟨c, hc, hq⟩ := List.mem_filterMap.1 hq
     exact (zkA hg hp (by simpa using hk) hq).1.fits hg)
    rw [show zbj zbw (zbW g p g.kinds.length) = zc7 g p from rfl] at hS
    generalize zbW g p g.kinds.length = l at *
    generalize zc7 g p = r at *
    repeat first|refine wV fun _=>?_|simp [go_sem]
    refine zxW [2] hS ?_ (zwE (zcn _)) ?_
    ·(first|done|exact agX)
    ·repeat first|refine wV fun _=>?_|simp [go_sem]
  ·omega
  ·simp [go_sem, zah, hsd, show zbW g p 0 = [] from rfl]
  ·simp
theorem znN (f : Int → Bool) (l : List Int) {i : Nat} (h : i < l.length) : (l.take (i + 1)).countP f = (l.take i).countP f + (if f (nth l i) then 1 else 0) := by
 rw [List.take_add_one, List.getElem?_eq_getElem h, zaB _ _ h, Option.toList_some, List.countP_append]
 simp [List.countP_cons]
theorem zma {α : Type} [Inhabited α] (f : α → Bool) (l : List α) {i : Nat} (hi : i < l.length) (hb : ∀ j, j < i → f (nth l j) = false) (h : f (nth l i) = true) : l.findIdx? f = some i := by
 rw [List.findIdx?_eq_some_iff_getElem]
 refine ⟨hi, by rw [← zaB _ _ hi]; exact h, fun j hj => ?_⟩
 have := hb j hj
 rw [zaB _ _ (by omega)] at this
 simp [this]
theorem zl9 {α : Type} [Inhabited α] (f : α → Bool) (l : List α) (hb : ∀ j, j < l.length → f (nth l j) = false) : l.findIdx? f = none := by
 rw [List.findIdx?_eq_none_iff]
 intro x hx
 obtain ⟨j, hj, rfl⟩ := List.getElem_of_mem hx
 have := hb j hj
 rwa [zaB _ _ hj] at this
def ziD (p : zag) (side : Int) (K : Nat) (j : Nat) : List Int := (List.range K).map fun (k : Nat) => (((p.at_.take j).countP (zkN p side k) : Nat) : Int)
theorem zkv (p : zag) (side : Int) (K j : Nat) : (ziD p side K j).length = K := by simp [ziD]
theorem zkV (p : zag) (side : Int) (K j : Nat) {k : Nat} (hk : k < K) : nth (ziD p side K j) k = (((p.at_.take j).countP (zkN p side k) : Nat) : Int) := by
 rw [zaB _ _ (by rw [zkv]; exact hk)]; simp [ziD]
theorem zlN {p : zag} {side : Int} {K j : Nat} (hj : j < p.at_.length) : ziD p side K (j + 1) = (List.range K).map fun (k : Nat) => (((p.at_.take j).countP (zkN p side k) + (if zkN p side k (nth p.at_ j) then 1 else 0) : Nat) : Int) := by
 unfold ziD
 refine List.map_congr_left fun k _ => ?_
 rw [znN _ _ hj]
theorem zwV {p : zag} {side : Int} {K j : Nat} (hj : j < p.at_.length) (h : ∀ k : Nat, zkN p side k (nth p.at_ j) = false) : ziD p side K (j + 1) = ziD p side K j := by
 rw [zlN hj]
 unfold ziD
 refine List.map_congr_left fun k _ => ?_
 rw [h k]; simp
theorem zuS {p : zag} {side : Int} {K j m : Nat} (hj : j < p.at_.length) (hm : m < K) (h : ∀ k : Nat, zkN p side k (nth p.at_ j) = decide (k = m)) :
  ziD p side K (j + 1) = (ziD p side K j).set m (nth (ziD p side K j) m + 1) := by
 rw [zlN hj]
 refine List.ext_getElem (by simp [ziD]) fun k h1 h2 => ?_
 have hk : k < K := by simpa using h1
 rw [List.getElem_set]
 by_cases e : m = k
 ·subst e
  rw [if_pos rfl, zkV _ _ _ _ hk]
  simp [h]
 ·rw [if_neg e]
  simp [ziD, h, Ne.symm e]
def zdW (g : zae) (p : zag) (side : Int) : List Int := ziD p side g.kinds.length p.at_.length
theorem zh9 (g : zae) (p : zag) (side : Int) {k : Nat} (hk : k < g.kinds.length) : nth (zdW g p side) k = zvq p side k := by
 unfold zdW; rw [zkV _ _ _ _ hk, List.take_length]; rfl
theorem ztG {m s : Int} (h0 : 0 ≤ m) (hs : s = 0 ∨ s = 1) : (1 + 2 * m + s - 1).tmod 2 = s ∧ (1 + 2 * m + s - 1).tdiv 2 = m := by
 rw [Int.tmod_eq_emod_of_nonneg (by omega), Int.tdiv_eq_ediv_of_nonneg (by omega)]
 omega
theorem zi5 (g : zae) (hg : GOk g) (p : zag) (hp : POk g p) (side : Int) (hsd : side = 0 ∨ side = 1) :
  zaS Tryz.prog 360 [.agg (zaf g), .agg (zad p), .v (.int .i64 side)] (zar (zdW g p side)) := by
 refine pF Tryz.func360 ?_
 have hal := hp.al
 have c9 := hg.c9
 have k6 := hg.k6
 have hall := fun j => zkv p side g.kinds.length j
 have hz : List.replicate g.kinds.length [AV.v (.int .i64 0)] = (ziD p side g.kinds.length 0).map zcf := by
  refine List.ext_getElem (by simp [ziD]) fun k h1 h2 => ?_
  simp [ziD, zcf]
 repeat first|refine wV fun _=>?_|simp [go_sem]
 refine zxL (zxP (α := Nat) (fun j => ⟨[(2, .v (.int .i64 side)), (7, .sl 2 0 1 0 g.kinds.length), (15, zar p.at_), (16, .v (.int .i64 p.at_.length)), (17, .v (.int .i64 j))], [(2, .rows true 0 1 ((ziD p side g.kinds.length j).map zcf))], 3⟩)
  (fun d j => j + d = p.at_.length) ?_ p.at_.length 0 ?_) ?_ ?_
 ·rintro d j j1 hrec
  repeat first|refine wV fun _=>?_|simp [go_sem]
  refine zxN (fun hj => ?_) (fun hj => ?_) <;> simp at hj
  ·have hat := hp.at (i := j) (by omega)
   have hman := zaX hat.1 hat.2 hg.k6
   have hM : ∀ k : Nat, zkN p side k (nth p.at_ j) = (decide (0 ≤ (zan (nth p.at_ j)).1) && decide ((zan (nth p.at_ j)).2 = side) && (decide ((k : Int) < 0) || decide ((zan (nth p.at_ j)).1 = k))) := fun k => rfl
   have hno := zwV (p := p) (side := side) (K := g.kinds.length) hj
   have hyes := fun m => zuS (p := p) (side := side) (K := g.kinds.length) (m := m) hj
   rcases hman with ⟨h0, hm⟩ | ⟨h0, hm0, hmk, hms, he⟩
   ·rw [hm] at hM
    have hno := hno (fun k => by rw [hM]; simp)
    repeat first|refine wV fun _=>?_|simp [go_sem, hj, h0]
    refine zxL (hrec (d - 1) (by omega) (j + 1) (by omega)) ?_ (by simp)
    simp [go_sem, zah, hno]
   ·have ht := ztG hm0 hms
    rw [← he] at ht
    have hpos : 0 < nth p.at_ j := by omega
    by_cases hs : (zan (nth p.at_ j)).2 = side
    ·obtain ⟨m, hmm⟩ : ∃ m : Nat, (zan (nth p.at_ j)).1 = m := ⟨(zan (nth p.at_ j)).1.toNat, by omega⟩
     rw [hmm] at ht hmk
     have hmk' : m < g.kinds.length := by omega
     have hyes := hyes m hmk' (fun k => by rw [hM, hmm, decide_eq_true hs]; by_cases e : k = m <;> simp [e] <;> omega)
     have hb : 0 ≤ nth (ziD p side g.kinds.length j) m ∧ nth (ziD p side g.kinds.length j) m ≤ 9 := by
      rw [zkV _ _ _ _ hmk']
      have : (p.at_.take j).countP (zkN p side m) ≤ (p.at_.take j).length := List.countP_le_length
      rw [List.length_take] at this
      omega
     have hlm : m < (ziD p side g.kinds.length j).length := by rw [hall]; exact hmk'
     rw [hs] at ht
     repeat first|refine wV fun _=>?_|simp [go_sem, hj, hpos, ht.1, ht.2, hlm, hall, hmk']
     refine zxL (hrec (d - 1) (by omega) (j + 1) (by omega)) ?_ (by simp)
     simp [go_sem, zah, hyes, List.map_set, zcf]
    ·have hno := hno (fun k => by rw [hM, decide_eq_false hs]; simp)
     repeat first|refine wV fun _=>?_|simp [go_sem, hj, hpos, ht.1, ht.2, hs]
     refine zxL (hrec (d - 1) (by omega) (j + 1) (by omega)) ?_ (by simp)
     simp [go_sem, zah, hno]
  ·have e : j = p.at_.length := by omega
   subst e
   repeat first|refine wV fun _=>?_|simp [go_sem]
   exact zaL rfl (by simp [hall]) (by simp [noH, upd]) (by simp [zdW]; exact List.take_of_length_le (by simp [hall]))
 ·omega
 ·simp [go_sem, zah, hz]
 ·simp
end Go.Av
end
section
/- Contracts: play.conditions, play.ended. -/
open Go Go.Proofs
namespace Go.Av
theorem zxk {g : zae} (hg : GOk g) {p : zag} (hp : POk g p) (s k : Int) : zvq p s k ≤ 9 := Nat.le_trans List.countP_le_length (by have := hg.c9; have := hp.al; omega)
theorem zhH (g : zae) (p : zag) (side : Int) : (zdW g p side).length = g.kinds.length := zkv _ _ _ _
theorem zoZ (m : Int) (s side : Int) : ∀ K : Nat, 0 ≤ m → ((List.range K).map fun (k : Nat) => if (decide (0 ≤ m) && decide (s = side) && (decide ((k : Int) < 0) || decide (m = k))) = true then (1 : Nat) else 0).sum = if m < K ∧ s = side then 1 else 0
 | 0, h => by simp; omega
 | K + 1, h => by
  rw [List.range_succ, List.map_append, List.sum_append, zoZ m s side K h]
  have e : (if (decide (0 ≤ m) && decide (s = side) && (decide ((K : Int) < 0) || decide (m = K))) = true then (1 : Nat) else 0) = if s = side ∧ m = K then 1 else 0 := by
   have : ¬ (K : Int) < 0 := by omega
   simp [h, this]
  simp only [List.map_cons, List.map_nil, List.sum_cons, List.sum_nil, e, Nat.add_zero]
  by_cases hs : s = side
  ·by_cases h1 : m < K
   ·rw [if_pos ⟨h1, hs⟩, if_neg (by omega), if_pos ⟨by omega, hs⟩]
   ·by_cases h2 : m = K
    ·rw [if_neg (by omega), if_pos ⟨hs, h2⟩, if_pos ⟨by omega, hs⟩, Nat.zero_add]
    ·rw [if_neg (by omega), if_neg (by omega), if_neg (by omega)]
  ·rw [if_neg (by simp [hs]), if_neg (by simp [hs]), if_neg (by simp [hs])]
theorem zk3 : ∀ l : List Nat, (l.map fun _ => 0).sum = 0
 | [] => rfl
 | _ :: l => by simp [zk3 l]
theorem ztE (f h : Nat → Nat) : ∀ l : List Nat, (l.map fun k => f k + h k).sum = (l.map f).sum + (l.map h).sum
 | [] => rfl
 | k :: l => by simp [ztE f h l]; omega
theorem zs9 {K : Nat} (hK : K ≤ 6) (side : Int) : ∀ l : List Int, (∀ c ∈ l, 0 ≤ c ∧ c ≤ 2 * K) →
  ((List.range K).map fun (k : Nat) => l.countP fun c => decide (0 ≤ (zan c).1) && decide ((zan c).2 = side) && (decide ((k : Int) < 0) || decide ((zan c).1 = k))).sum =
   l.countP fun c => decide (0 ≤ (zan c).1) && decide ((zan c).2 = side) && (decide ((-1 : Int) < 0) || decide ((zan c).1 = -1))
 | [], _ => by simp [zk3]
 | c :: l, h => by
  have ih := zs9 hK side l (fun x hx => h x (by simp [hx]))
  simp only [List.countP_cons]
  rw [ztE, ih]
  congr 1
  have hc := h c (by simp)
  rcases zaX hc.1 hc.2 hK with ⟨h0, hm⟩ | ⟨h0, hm0, hmk, hms, he⟩
  ·rw [hm]; simp [zk3]
  ·rw [zoZ _ _ _ _ hm0]
   by_cases hs : (zan c).2 = side
   ·simp [hs, hm0, hmk]
   ·simp [hs]
theorem zxl {g : zae} (hg : GOk g) {p : zag} (hp : POk g p) (side : Int) : ((List.range g.kinds.length).map fun (k : Nat) => zvq p side k).sum = zvq p side (-1) :=
 zs9 hg.k6 side p.at_ hp.av
section
variable (g : zae) (hg : GOk g) (p : zag) (hp : POk g p) (c : Int × Int × Int × Int) (hc : zfr g.cells g.kinds.length c)
theorem zqb (hg : GOk g) (hp : POk g p) (hc : zfr g.cells g.kinds.length c) (h1 : c.1 = 1) : zaS Tryz.prog 359 [.agg (zaf g), .agg (zad p), .agg (zaR c)] (.v (.bool (zem c p))) := by
 refine pF Tryz.func359 ?_
 have hC := zi5 g hg p hp p.side hp.s
 have hl := zhH g p p.side
 have hk := hc.kind
 have hck : c.2.1.toNat < (zdW g p p.side).length := by omega
 have hn := zh9 g p p.side (k := c.2.1.toNat) (by omega)
 rw [show ((c.2.1.toNat : Nat) : Int) = c.2.1 by omega] at hn
 have he : zem c p = decide (nth (zdW g p p.side) c.2.1.toNat = 0) := by
  unfold zem; rw [if_pos h1, hn]; simp
 rw [he]
 generalize zdW g p p.side = l at *
 obtain ⟨c0, c1, c2, c3⟩ := c
 simp only at hk hck
 repeat first|refine wV fun _=>?_|simp [go_sem]
 refine zxO hC (by simp [go_sem]) ?_
 repeat first|refine wV fun _=>?_|simp [go_sem, hck]
theorem zqc (hg : GOk g) (hp : POk g p) (hc : zfr g.cells g.kinds.length c) (h1 : c.1 = 2) : zaS Tryz.prog 361 [.agg (zaf g), .agg (zad p), .agg (zaR c)] (.v (.bool (zem c p))) := by
 refine pF Tryz.func361 ?_
 have hal := hp.al
 have hps := hp.s
 have hn := hc.n
 have hcd := hn.2.1 h1
 have hci : c.2.2.1.toNat < p.at_.length := by omega
 have he : zem c p = decide (nth p.at_ c.2.2.1.toNat = zaK c.2.1 (1 - p.side)) := by
  unfold zem; rw [if_neg (by omega), if_pos h1]
 rw [he]
 have hC := zc3 c.2.1 (1 - p.side)
 obtain ⟨c0, c1, c2, c3⟩ := c
 simp only at hcd hci hC hn
 generalize zaK c1 (1 - p.side) = code at *
 repeat first|refine wV fun _=>?_|simp [go_sem, hci]
 refine zxO hC (by simp [go_sem]) ?_
 repeat first|refine wV fun _=>?_|simp [go_sem, hci]
theorem zqd (hg : GOk g) (hp : POk g p) (hc : zfr g.cells g.kinds.length c) (h1 : c.1 = 3) : zaS Tryz.prog 362 [.agg (zaf g), .agg (zad p), .agg (zaR c)] (.v (.bool (zem c p))) := by
 refine pF Tryz.func362 ?_
 have hC := zi5 g hg p hp p.side hp.s
 have hl := zhH g p p.side
 have k6 := hg.k6
 have hnn := fun (k : Nat) hk => zh9 g p p.side (k := k) hk
 have hle := fun k : Nat => zxk hg hp p.side k
 have hall := zxl hg hp p.side
 obtain ⟨S, hS⟩ : ∃ S : Nat → Nat, S = fun i => ((List.range i).map fun (k : Nat) => zvq p p.side k).sum := ⟨_, rfl⟩
 have hS0 : S 0 = 0 := by rw [hS]; rfl
 have hSs : ∀ i, S (i + 1) = S i + zvq p p.side i := fun i => by rw [hS]; simp [List.range_succ]
 have hSK : S g.kinds.length = zvq p p.side (-1) := by rw [hS]; exact hall
 have hSb : ∀ i, S i ≤ 9 * i := fun i => by
  induction i with
  | zero => omega
  | succ i ih => rw [hSs]; have := hle i; omega
 have he : zem c p = decide ((S g.kinds.length : Int) ≤ c.2.2.1) := by
  unfold zem; rw [if_neg (by omega), if_neg (by omega), hSK]
 rw [he]
 clear hS
 generalize zdW g p p.side = l at *
 obtain ⟨c0, c1, c2, c3⟩ := c
 repeat first|refine wV fun _=>?_|simp [go_sem]
 refine zxM hC (by simp [go_sem]) ?_
 repeat first|refine wV fun _=>?_|simp [go_sem]
 refine zxL (zxP (α := Nat) (fun i => ⟨[(5, .ref 2 0 4 0 0), (7, .v (.int .i64 (S i))), (14, zar l), (15, .v (.int .i64 l.length)), (16, .v (.int .i64 i))], [(2, .rows true 0 4 [zaR (c0, c1, c2, c3)])], 3⟩)
  (fun d i => i + d = l.length) ?_ l.length 0 ?_) ?_ ?_
 ·rintro d i i1 hrec
  repeat first|refine wV fun _=>?_|simp [go_sem]
  refine zxN (fun hi => ?_) (fun hi => ?_) <;> simp at hi
  ·have h2 := hnn i (by omega)
   have h3 := hle i
   have h4 := hSb i
   have h5 := hSs i
   repeat first|refine wV fun _=>?_|simp [go_sem, hi]
   refine zxL (hrec (d - 1) (by omega) (i + 1) (by omega)) ?_ (by simp)
   simp [go_sem, zah, h5, h2]
  ·have e : i = l.length := by omega
   subst e
   rw [hl]
   repeat first|refine wV fun _=>?_|simp [go_sem]
 ·omega
 ·simp [go_sem, zah, hS0]
 ·simp
end
def zfF (g : zae) (p : zag) : Int × Bool := if 0 ≤ zen g p then ((nth g.clauses (zen g p).toNat).2.2.2, true) else (0, false)
theorem zkK : glbs.lookup 0 = some [.v .nilFunc, .fn (.func 359) [] [], .fn (.func 361) [] [], .fn (.func 362) [] []] := rfl
theorem zqi (g : zae) (hg : GOk g) (p : zag) (hp : POk g p) : zaS Tryz.prog 70 [.agg (zaf g), .agg (zad p)] (.tup [.v (.int .i64 (zfF g p).1), .v (.bool (zfF g p).2)]) := by
 refine pF Tryz.func70 ?_
 have hcn := hg.cn
 repeat first|refine wV fun _=>?_|simp [go_sem]
 refine zxL (zxP (α := Nat) (fun i => ⟨[(2, .ref 0 0 9 0 0), (3, .ref 1 0 5 0 0), (9, .lst 4 (g.clauses.map zaR)), (10, .v (.int .i64 g.clauses.length)), (11, .v (.int .i64 i))], [(0, .rows true 0 9 [zaf g]), (1, .rows true 0 5 [zad p])], 2⟩)
  (fun d i => i + d = g.clauses.length ∧ ∀ j, j < i → zem (nth g.clauses j) p = false) ?_ g.clauses.length 0 ?_) ?_ ?_
 ·rintro d i ⟨i1, i2⟩ hrec
  repeat first|refine wV fun _=>?_|simp [go_sem]
  refine zxN (fun hi => ?_) (fun hi => ?_) <;> simp at hi
  ·have hcl := hg.cl _ (zaj hi)
   have hfi : zem (nth g.clauses i) p = true → zfF g p = ((nth g.clauses i).2.2.2, true) := fun hc => by
    have he : zen g p = i := by unfold zen; rw [zma (fun c => zem c p) g.clauses hi i2 hc]
    unfold zfF
    rw [he, if_pos (by omega)]; simp
   have h1 := zqb g p _ hg hp hcl
   have h2 := zqc g p _ hg hp hcl
   have h3 := zqd g p _ hg hp hcl
   have hcond := hcl.cond
   obtain ⟨c, hcc⟩ : ∃ c, c = nth g.clauses i := ⟨_, rfl⟩
   rw [← hcc] at hfi h1 h2 h3 hcond
   have fin : ∀ b, zem c p = b → b = false → ∀ j, j < i + 1 → zem (nth g.clauses j) p = false := by
    intro b hb hf j hj
    rcases Nat.lt_or_ge j i with h | h
    ·exact i2 j h
    ·obtain rfl : j = i := by omega
     rw [← hcc, hb, hf]
   obtain ⟨c0, c1, c2, c3⟩ := c
   generalize hcb : zem (c0, c1, c2, c3) p = b at *
   simp only at hcond hfi
   rcases hcond with rfl | rfl | rfl
   ·have hC := h1 rfl
    repeat first|refine wV fun _=>?_|simp [go_sem, hi, ← hcc, zkK]
    refine zxO hC (by simp [go_sem]) ?_
    repeat first|refine wV fun _=>?_|simp [go_sem]
    cases b
    ·repeat first|refine wV fun _=>?_|simp [go_sem]
     refine zxL (hrec (d - 1) (by omega) (i + 1) ⟨by omega, fin _ rfl rfl⟩) ?_ (by simp)
     simp [go_sem, zah]
    ·rw [hfi rfl]
     repeat first|refine wV fun _=>?_|simp [go_sem]
   ·have hC := h2 rfl
    repeat first|refine wV fun _=>?_|simp [go_sem, hi, ← hcc, zkK]
    refine zxO hC (by simp [go_sem]) ?_
    repeat first|refine wV fun _=>?_|simp [go_sem]
    cases b
    ·repeat first|refine wV fun _=>?_|simp [go_sem]
     refine zxL (hrec (d - 1) (by omega) (i + 1) ⟨by omega, fin _ rfl rfl⟩) ?_ (by simp)
     simp [go_sem, zah]
    ·rw [hfi rfl]
     repeat first|refine wV fun _=>?_|simp [go_sem]
   ·have hC := h3 rfl
    repeat first|refine wV fun _=>?_|simp [go_sem, hi, ← hcc, zkK]
    refine zxO hC (by simp [go_sem]) ?_
    repeat first|refine wV fun _=>?_|simp [go_sem]
    cases b
    ·repeat first|refine wV fun _=>?_|simp [go_sem]
     refine zxL (hrec (d - 1) (by omega) (i + 1) ⟨by omega, fin _ rfl rfl⟩) ?_ (by simp)
     simp [go_sem, zah]
    ·rw [hfi rfl]
     repeat first|refine wV fun _=>?_|simp [go_sem]
  ·have he : zen g p = -1 := by unfold zen; rw [zl9 (fun c => zem c p) g.clauses (fun j hj => i2 j (by omega))]
   have he' : zfF g p = (0, false) := by unfold zfF; rw [he]; rfl
   rw [he']
   repeat first|refine wV fun _=>?_|simp [go_sem]
 ·exact ⟨by simp, fun j hj => by omega⟩
 ·simp [go_sem, zah]
 ·simp
end Go.Av
end
section
open Go Go.Proofs
namespace Go.Av
def zqT (o : zdg) : List AV := [.agg (zaH o)]
theorem zjm {n j : Nat} (h : j < n) : (List.range n).drop j = j :: (List.range n).drop (j + 1) := by
 rw [List.drop_eq_getElem_cons (by simpa using h)]; simp
theorem zth (g : zae) (hg : GOk g) (p : zag) (hp : POk g p) : zlk Tryz.prog 125 [.fp (zad p), .fp (zaf g)] 0 ((zeY g p).map zqT) := by
 refine zx3 (by kernel_rfl) Tryz.func125 rfl rfl (Nat.le_of_ble_eq_true rfl) (by kernel_rfl) (fun l => ?_) (hm2 := by decide)
 have hal := hp.al
 have c9 := hg.c9
 have k6 := hg.k6
 have hgb : ∀ (n : Nat) (L : List zdg), Bel n (za2 l 0 (L.map zqT)) := fun n L => by
  simp only [za2, zow, zj2, List.forall_mem_cons, ztZ, zbG]
  simp [go_sem, zqT]
 obtain ⟨oF, hoF⟩ : ∃ oF : Nat → List zdg, oF = fun j => ((List.range p.at_.length).drop j).flatMap (zez g p) := ⟨_, rfl⟩
 have ho0 : zeY g p = oF 0 := by rw [hoF]; rfl
 have hos : ∀ j, j < p.at_.length → oF j = zez g p j ++ oF (j + 1) := fun j hj => by rw [hoF]; simp only; rw [zjm hj, List.flatMap_cons]
 have hon : oF p.at_.length = [] := by rw [hoF]; simp only; rw [List.drop_eq_nil_of_le (by simp)]; rfl
 rw [ho0]
 clear hoF ho0
 repeat first|refine wV fun _=>?_|simp [go_sem, GH]
 refine zxL (zxP (α := Nat) (fun j => ⟨[(0, .fn (.yield l) [] []), (1, .fp (zad p)), (2, .fp (zaf g)), (14, zar p.at_), (15, .v (.int .i64 p.at_.length)), (16, .v (.int .i64 j)), (1000000007, za2 l 0 ((oF j).map zqT))], [], 0⟩)
  (fun d j => j + d = p.at_.length) ?_ p.at_.length 0 ?_) ?_ ?_
 ·rintro d j j1 hrec
  repeat first|refine wV fun _=>?_|simp [go_sem, GH]
  refine zxN (fun hj => ?_) (fun hj => ?_) <;> simp at hj
  ·have hat := hp.at (i := j) (by omega)
   have hman := zaX hat.1 hat.2 hg.k6
   have hO := zeu (nth p.at_ j)
   have hoj := hos j hj
   have hoa : zez g p j = if 0 ≤ (zan (nth p.at_ j)).1 ∧ (zan (nth p.at_ j)).2 = p.side then (List.range (nth g.kinds (zan (nth p.at_ j)).1.toNat).progs.length).flatMap fun (i : Nat) => zeZ g p j i else [] := rfl
   have hrp : ∀ i : Nat, i < (nth g.kinds (zan (nth p.at_ j)).1.toNat).progs.length → 0 ≤ (zan (nth p.at_ j)).1 → (zan (nth p.at_ j)).2 = p.side → zcE g p j i := fun i hi h1 h2 =>
    ⟨by omega, by omega, h1, h2, by omega, by simpa using hi⟩
   have hRun : ∀ i : Nat, i < (nth g.kinds (zan (nth p.at_ j)).1.toNat).progs.length → 0 ≤ (zan (nth p.at_ j)).1 → (zan (nth p.at_ j)).2 = p.side → _ := fun i hi h1 h2 => zqR g hg p hp j i (hrp i hi h1 h2)
   have hrl := fun (i : Nat) hi h1 h2 => zmL hg hp (hrp i hi h1 h2)
   clear hrp
   generalize zan (nth p.at_ j) = m at *
   obtain ⟨mk, ms⟩ := m
   simp only at hoa hRun hman hO hrl
   repeat first|refine wV fun _=>?_|simp [go_sem, hj, GH]
   refine zxM hO (by simp [go_sem]) ?_
   repeat first|refine wV fun _=>?_|simp [go_sem, GH]
   refine zxN (fun hc => ?_) (fun hc => ?_) <;> simp at hc
   ·have hz : zez g p j = [] := by rw [hoa, if_neg (by omega)]
    rw [hz, List.nil_append] at hoj
    rw [hoj]
    repeat first|refine wV fun _=>?_|simp [go_sem, GH]
    refine zxL (hrec (d - 1) (by omega) (j + 1) (by omega)) ?_ (by simp)
    simp [go_sem, zah, hgb, GH]
   ·rw [if_pos (by omega)] at hoa
    have hmk : mk.toNat < g.kinds.length := by
     simp only [Prod.mk.injEq] at hman
     omega
    have hn8 := hg.pn _ (zaj hmk)
    obtain ⟨np, hnp⟩ : ∃ np, np = (nth g.kinds mk.toNat).progs.length := ⟨_, rfl⟩
    rw [← hnp] at hoa hRun hn8 hrl
    obtain ⟨pF, hpF⟩ : ∃ pF : Nat → List zdg, pF = fun i => ((List.range np).drop i).flatMap (fun (i : Nat) => zeZ g p j i) ++ oF (j + 1) := ⟨_, rfl⟩
    have hp0 : oF j = pF 0 := by rw [hpF, hoj, hoa]; rfl
    have hps : ∀ i, i < np → pF i = zeZ g p j i ++ pF (i + 1) := fun i hi => by rw [hpF]; simp only; rw [zjm hi, List.flatMap_cons, List.append_assoc]
    have hpn : pF np = oF (j + 1) := by rw [hpF]; simp only; rw [List.drop_eq_nil_of_le (by simp)]; rfl
    rw [hp0]
    clear hpF hp0 hoa hoj
    repeat first|refine wV fun _=>?_|simp [go_sem, GH, hmk, ← hnp]
    refine zxL (zxP (α := Nat) (fun i => ⟨[(0, .fn (.yield l) [] []), (1, .fp (zad p)), (2, .fp (zaf g)), (4, .v (.int .i64 j)), (14, zar p.at_), (15, .v (.int .i64 p.at_.length)), (16, .v (.int .i64 j)), (40, .v (.int .i64 np)), (41, .v (.int .i64 i)), (1000000007, za2 l 0 ((pF i).map zqT))], [], 0⟩)
     (fun d i => i + d = np) ?_ np 0 ?_) ?_ ?_
    ·rintro d2 i i1 hrec2
     repeat first|refine wV fun _=>?_|simp [go_sem, GH]
     refine zxN (fun hi => ?_) (fun hi => ?_) <;> simp at hi
     ·have hR := hRun i hi (by omega) (by omega)
      have hpi := hps i hi
      obtain ⟨rs, hrs⟩ : ∃ rs, rs = zeZ g p j i := ⟨_, rfl⟩
      have hrl' := hrl i hi (by omega) (by omega)
      rw [← hrs] at hR hpi hrl'
      obtain ⟨rF, hrF⟩ : ∃ rF : Nat → List zdg, rF = fun t => rs.drop t ++ pF (i + 1) := ⟨_, rfl⟩
      have hr0 : pF i = rF 0 := by rw [hrF, hpi]; rfl
      have hrt : ∀ t, t < rs.length → rF t = nth rs t :: rF (t + 1) := fun t ht => by rw [hrF]; simp only; rw [zaQ ht]; rfl
      have hrn : rF rs.length = pF (i + 1) := by rw [hrF]; simp
      rw [hr0]
      clear hrF hr0
      repeat first|refine wV fun _=>?_|simp [go_sem, GH]
      refine zxM hR (by simp [go_sem]) ?_
      repeat first|refine wV fun _=>?_|simp [go_sem, GH]
      refine zxL (zxP (α := Nat) (fun t => ⟨[(0, .fn (.yield l) [] []), (1, .fp (zad p)), (2, .fp (zaf g)), (4, .v (.int .i64 j)), (14, zar p.at_), (15, .v (.int .i64 p.at_.length)), (16, .v (.int .i64 j)), (40, .v (.int .i64 np)), (41, .v (.int .i64 i)), (52, zed rs), (53, .v (.int .i64 rs.length)), (54, .v (.int .i64 t)), (1000000007, za2 l 0 ((rF t).map zqT))], [], 0⟩)
       (fun d t => t + d = rs.length) ?_ rs.length 0 ?_) ?_ ?_
      ·rintro d3 t t1 hrec3
       repeat first|refine wV fun _=>?_|simp [go_sem, GH]
       refine zxN (fun ht => ?_) (fun ht => ?_) <;> simp at ht
       ·rw [hrt t ht]
        repeat first|refine wV fun _=>?_|simp [go_sem, GH, ht]
        refine zpy.mk (more := 0) (xs := zqT (nth rs t)) (rs := (rF (t + 1)).map zqT) _ (by simp [upd, GH]) (.refl _) (.refl _ _ _ _) (by simp [go_sem, zqT]) ?_ ?_
        ·repeat first|refine wV fun _=>?_|simp [go_sem, GH]
         refine zxL (hrec3 (d3 - 1) (by omega) (t + 1) (by omega)) ?_ (by simp)
         simp [go_sem, zah, hgb, GH]
        ·repeat first|refine wV fun _=>?_|simp [go_sem, GH]
       ·have e : t = rs.length := by omega
        subst e
        rw [hrn]
        repeat first|refine wV fun _=>?_|simp [go_sem, GH]
        refine zxL (hrec2 (d2 - 1) (by omega) (i + 1) (by omega)) ?_ (by simp)
        simp [go_sem, zah, hgb, GH]
      ·omega
      ·simp [go_sem, zah, hgb, GH]
      ·simp
     ·have e : i = np := by omega
      subst e
      rw [hpn]
      repeat first|refine wV fun _=>?_|simp [go_sem, GH]
      refine zxL (hrec (d - 1) (by omega) (j + 1) (by omega)) ?_ (by simp)
      simp [go_sem, zah, hgb, GH]
    ·omega
    ·simp [go_sem, zah, hgb, GH]
    ·simp
  ·have e : j = p.at_.length := by omega
   subst e
   rw [hon]
   repeat first|refine wV fun _=>?_|simp [go_sem, GH]
 ·omega
 ·simp [go_sem, zah, hgb, GH]
 ·simp
def ztk (n : Nat) : AV := .fn (.func 125) [] [.ref (n + 1) 0 5 0 0, .ref n 0 9 0 0]
def zti (g : zae) (p : zag) (n : Nat) : List (Nat × zbd) := [(n, .rows true 0 9 [zaf g]), (n + 1, .rows true 0 5 [zad p])]
theorem zkW (g : zae) (p : zag) : zgB Tryz.prog 71 [.agg (zaf g), .agg (zad p)] ztk (zti g p) 2 := by
 refine ⟨?_, fun n => ⟨by simp [go_sem, ztk], by simp [go_sem, zti]⟩⟩
 refine zxR (by kernel_rfl) Tryz.func71 rfl rfl (Nat.le_of_ble_eq_true rfl) (by kernel_rfl) ?_
 repeat first|refine wV fun _=>?_|simp [go_sem, ztk, zti]
 simp [go_sem, zah]
theorem zu3 (g : zae) (p : zag) : (zfF g p).2 = decide (0 ≤ zen g p) := by
 unfold zfF; split <;> simp_all
theorem zrL {α : Type} (f : α → Bool) : ∀ l : List α, l.any f = decide (0 < (l.filter f).length)
 | [] => rfl
 | x :: l => by cases h : f x <;> simp [h, zrL f l]
theorem zi8 (g : zae) (hg : GOk g) (p : zag) (hp : POk g p) : zaS Tryz.prog 20 [.agg (zaf g), .agg (zad p)] (zaP (zaZ g p)) := by
 refine pF Tryz.func20 ?_
 have hE := zqi g hg p hp
 have hD := zoh g hg p hp
 have hdl := zjp hg hp
 have hdo := fun q hq => ((zlU hg hp) q hq).1.fits hg
 have hol := zmD hg hp
 have hoo := fun o ho => ((zo0 hg hp) o ho).1.fits hg
 have hS : zgB Tryz.prog 71 [.agg (zaf g), .agg (zad p)] (fun n => ztk n) (fun n => zti g p n) 2 := zkW g p
 have hQ := zth g hg p hp
 simp only [ztk, zti] at hS
 have e2 := zu3 g p
 have hMv : zaZ g p = if 0 ≤ zen g p then [] else zbj zbw (zfP g p) := rfl
 have hML : zfP g p = ((zeY g p).filter fun o => !zi1 g p || o.took).map (·.pos) ++ (if zi1 g p then [] else zc7 g p) := rfl
 have hMu : zi1 g p = (g.must && (zeY g p).any (·.took)) := rfl
 rw [e2] at hE
 rw [hMv]
 generalize zen g p = ep at *
 generalize (zfF g p).1 = ev1 at *
 generalize zeY g p = outs at *
 generalize zc7 g p = drops at *
 generalize zi1 g p = must at *
 generalize zfP g p = mvl at *
 clear hMv e2
 repeat first|refine wV fun _=>?_|simp [go_sem]
 refine zxM hE (by simp [go_sem]) ?_
 repeat first|refine wV fun _=>?_|simp [go_sem]
 refine zxN (fun he => ?_) (fun he => ?_) <;> simp at he
 ·rw [if_pos he]
  repeat first|refine wV fun _=>?_|simp [go_sem]
 ·rw [if_neg (by omega)]
  repeat first|refine wV fun _=>?_|simp [go_sem, GH]
  refine zxQ hS (by simp [go_sem]) ?_
  repeat first|refine wV fun _=>?_|simp [go_sem, GH]
  refine zdz.mk [.fp (zad p), .fp (zaf g)] (zbp _ [4, 5]) hQ (zcb _ _) ?_ (by simp [go_sem]) (by simp [zqT]) ?_
  ·refine zam.cons (.frzP rfl ?_ ?_ ?_ ?_) (zam.cons (.frzP rfl ?_ ?_ ?_ ?_) .nil) <;> first | exact zam.refl _ _ _ _ | simp [zbp, zbP, upd]
  obtain ⟨al, hal⟩ : ∃ al : Nat → List zag, al = fun k => (outs.take k).map (·.pos) := ⟨_, rfl⟩
  obtain ⟨tk, htk⟩ : ∃ tk : Nat → List zag, tk = fun k => ((outs.take k).filter (·.took)).map (·.pos) := ⟨_, rfl⟩
  have hall : ∀ k, (al k).length ≤ 7200000000 := fun k => by rw [hal]; simp; omega
  have htkl : ∀ k, (tk k).length ≤ 7200000000 := fun k => by rw [htk]; simp only [List.length_map]; have := List.length_filter_le (·.took) (outs.take k); simp at this; omega
  have hals : ∀ k, k < outs.length → al (k + 1) = al k ++ [(nth outs k).pos] := fun k hk => by rw [hal]; simp only; rw [List.take_add_one, List.getElem?_eq_getElem hk, zaB _ _ hk, Option.toList_some, List.map_append]; rfl
  have htks : ∀ k, k < outs.length → tk (k + 1) = if (nth outs k).took = true then tk k ++ [(nth outs k).pos] else tk k := fun k hk => by
   rw [htk]; simp only; rw [List.take_add_one, List.getElem?_eq_getElem hk, zaB _ _ hk, Option.toList_some, List.filter_append]
   cases hq : outs[k].took <;> simp [hq]
  have hal0 : al 0 = [] := by rw [hal]; rfl
  have htk0 : tk 0 = [] := by rw [htk]; rfl
  have halE : al outs.length = outs.map (·.pos) := by rw [hal]; simp
  have htkE : tk outs.length = (outs.filter (·.took)).map (·.pos) := by rw [htk]; simp
  clear hal htk
  refine Fgt.to (zx2 (α := Nat) (fun k => ([(2, .ref 0 0 9 0 0), (3, .ref 1 0 5 0 0), (7, .ref 2 0 1 0 0), (8, .ref 3 0 1 0 0)], [(0, .rows true 0 9 [zaf g]), (1, .rows true 0 5 [zad p]), (2, .rows true 0 1 [[.sl 6 (al k).length 5 0 (al k).length]]), (3, .rows true 0 1 [[.sl 7 (tk k).length 5 0 (tk k).length]]),
    (6, .rows true (al k).length 5 ((al k).map zad)), (7, .rows true (tk k).length 5 ((tk k).map zad))], 8))
   (fun rows k => rows = (outs.drop k).map zqT ∧ k ≤ outs.length) ?_ ?_ _ 0 ?_) ?_ ?_
  ·rintro k ⟨i1, i2⟩
   have hk : k = outs.length := by
    have := congrArg List.length i1
    simp at this
    omega
   subst hk
   refine ⟨rfl, ?_⟩
   have hmu : must = (g.must && decide (0 < (tk outs.length).length)) := by
    rw [hMu, htkE, zrL, List.length_map]
   have hft : ∀ q ∈ tk outs.length, za3 q := fun q hq => by
    rw [htkE] at hq
    obtain ⟨o, ho, rfl⟩ := List.mem_map.1 hq
    exact hoo o (List.mem_filter.1 ho).1
   have hfa : ∀ q ∈ al outs.length, za3 q := fun q hq => by
    rw [halE] at hq
    obtain ⟨o, ho, rfl⟩ := List.mem_map.1 hq
    exact hoo o ho
   have hla := hall outs.length
   have hlt := htkl outs.length
   by_cases hm : must = true
   ·rw [hm] at hmu hML
    have hgm : g.must = true := by cases h : g.must <;> simp [h] at hmu ⊢
    have hpos : 0 < (tk outs.length).length := by rw [hgm] at hmu; simpa using hmu
    have hpos' : (0 : Int) < (tk outs.length).length := by omega
    have e : mvl = tk outs.length := by rw [hML, htkE]; simp
    rw [e]
    generalize tk outs.length = tks at *
    have hS1 := zc4 tks (by omega) hft
    repeat first|refine wV fun _=>?_|simp [go_sem, GH, ← hmu]
    refine zxW [7] hS1 ?_ (zwE (zcn _)) ?_
    ·(first|done|exact agX)
    ·repeat first|refine wV fun _=>?_|simp [go_sem, GH]
   ·have e : mvl = al outs.length ++ drops := by
     simp only [Bool.not_eq_true] at hm
     rw [hML, hm, halE, List.filter_eq_self.2 (by simp)]; simp
    rw [e]
    have hS1 := zc4 (al outs.length ++ drops) (by rw [List.length_append]; omega) (fun q hq => by
     rcases List.mem_append.1 hq with h | h
     ·exact hfa q h
     ·exact hdo q h)
    simp only [Bool.not_eq_true] at hm
    rw [hm] at hmu
    generalize al outs.length = als at *
    generalize tk outs.length = tks at *
    generalize zbj zbw (als ++ drops) = res at *
    repeat first|refine wV fun _=>?_|simp [go_sem, GH, ← hmu]
    refine zxO hD (by simp [go_sem]) ?_
    repeat first|refine wV fun _=>?_|simp [go_sem, GH]
    refine zaC.frz [zaP (als ++ drops)] _ [6] [(6, some (.rows false (als.length + 1) 5 ((als ++ drops).map zad)))] hS1 ?_ ?_ (zwE (zcn _)) ?_
    ·intro q hq
     simp only [List.mem_singleton] at hq
     subst hq
     exact ⟨by simp, als.length + 1, 5, _, rfl, by simp [upd]⟩
    ·intro h₁ hS
     have h6 := hS 6 (by simp)
     simp [upd] at h6
     exact .cons (zaL h6.symm (by simp) (by simp [zai, upd]) (by simp; exact List.take_of_length_le (by simp))) .nil
    ·repeat first|refine wV fun _=>?_|simp [go_sem, GH]
  ·rintro xs rs k ⟨i1, i2⟩ hrec
   have hk : k < outs.length := by
    have := congrArg List.length i1
    simp at this
    omega
   rw [zaQ hk, List.map_cons, List.cons.injEq] at i1
   obtain ⟨rfl, rfl⟩ := i1
   have hals := hals k hk
   have htks := htks k hk
   have h1 := hall k
   have h2 := htkl k
   obtain ⟨o, ho⟩ : ∃ o, o = nth outs k := ⟨_, rfl⟩
   rw [← ho] at hals htks ⊢
   obtain ⟨op, ot⟩ := o
   simp only at hals htks
   generalize hrs : (outs.drop (k + 1)).map zqT = rs at *
   refine zx5 (Nat.zero_le _) ?_
   repeat first|refine wV fun _=>?_|simp [go_sem, GH, zqT]
   cases ot
   ·rw [if_neg (by simp)] at htks
    repeat first|refine wV fun _=>?_|simp [go_sem, GH]
    refine Fgt.to (hrec (k + 1) ⟨hrs.symm, by omega⟩) ?_ (by simp)
    simp [go_sem, zah, GH, hals, htks]
   ·rw [if_pos rfl] at htks
    repeat first|refine wV fun _=>?_|simp [go_sem, GH]
    refine Fgt.to (hrec (k + 1) ⟨hrs.symm, by omega⟩) ?_ (by simp)
    simp [go_sem, zah, GH, hals, htks]
  ·exact ⟨rfl, Nat.zero_le _⟩
  ·simp [go_sem, zah, hal0, htk0]
  ·simp
def zhX (p : zag → Bool) (l : List zag) : Int := match l.findIdx? p with | some i => (i : Int) | none => -1
theorem zsO {p : zag → Bool} {l : List zag} {j : Nat} (hj : j < l.length) (h : ∀ i, i < j → p (nth l i) = false) (hp : p (nth l j) = true) : zhX p l = j := by
 have : l.findIdx? p = some j := by
  rw [List.findIdx?_eq_some_iff_getElem]
  refine ⟨hj, by rw [← zaB _ _ hj]; exact hp, fun i hi => ?_⟩
  have := h i hi
  rw [zaB _ _ (by omega)] at this
  simp [this]
 simp [zhX, this]
theorem znX {p : zag → Bool} {l : List zag} (h : ∀ i, i < l.length → p (nth l i) = false) : zhX p l = -1 := by
 have : l.findIdx? p = none := by
  rw [List.findIdx?_eq_none_iff]
  intro x hx
  obtain ⟨i, hi, rfl⟩ := List.getElem_of_mem hx
  have := h i hi
  rw [zaB _ _ hi] at this
  exact this
 simp [zhX, this]
theorem zqt {p : zag → Bool} {l : List zag} : decide (0 ≤ zhX p l) = l.any p := by
 unfold zhX
 cases h : l.findIdx? p with
 | none =>
  rw [List.findIdx?_eq_none_iff] at h
  simp
  simpa using h
 | some i =>
  have := List.findIdx?_isSome (xs := l) (p := p)
  rw [h] at this
  simp at this ⊢
  exact this
theorem zhm (l : List zag) (hl : l.length ≤ 17179869184) (f : FuncId) (first caps : List AV) (p : zag → Bool) (hp : ∀ x ∈ l, zaS Tryz.prog f (first ++ .agg (zad x) :: caps) (.v (.bool (p x)))) (hb : ∀ c ∈ first, Bel 0 c) (hb' : ∀ c ∈ caps, Bel 0 c) :
  zaS Tryz.prog 146 [zaP l, .fn (.func f) first caps] (.v (.int .i64 (zhX p l))) := by
 refine pF Tryz.func146 ?_
 simp [go_sem]
 refine zxL (zxP (α := Nat) (fun j => ⟨[(0, zaP l), (1, .fn (.func f) first caps), (7, .v (.int .i64 l.length)), (8, .v (.int .i64 j))], [], 0⟩)
  (fun d j => j + d = l.length ∧ (∀ i < j, p (nth l i) = false)) ?_ l.length 0 ?_) ?_ ?_
 ·rintro d j ⟨i1, i2⟩ hrec
  simp [go_sem]
  refine zxN (fun hj => ?_) (fun hj => ?_)
  ·simp at hj
   simp [go_sem]
   refine zx8 hj fun _ => ?_
   simp [go_sem, hj]
   refine zxM (hp _ (zaj hj)) (fun c hc => by
    rcases List.mem_append.1 hc with h | h
    ·exact hb c h
    ·rcases List.mem_cons.1 h with rfl | h
     ·exact of_eq_true (by simp [go_sem])
     ·exact hb' c h) ?_
   simp [go_sem]
   refine zxN (fun h => ?_) (fun h => ?_)
   ·simp [go_sem, zsO hj i2 h]
   ·simp [go_sem]
    refine zx8 (by omega) fun _ => ?_
    simp [go_sem]
    refine zxL (hrec (d - 1) (by omega) (j + 1) ⟨by omega, fun i hi => ?_⟩) ?_ (by simp)
    ·rcases Nat.lt_or_ge i j with h' | h'
     ·exact i2 i h'
     ·obtain rfl : i = j := by omega
      exact h
    ·simp [go_sem, zah]
     exact ⟨hb, hb'⟩
  ·simp at hj
   simp [go_sem, znX fun i hi => i2 i (by omega)]
 ·simp
 ·simp [go_sem, zah]
  exact ⟨hb, hb'⟩
 ·simp
theorem zfs (l : List zag) (hl : l.length ≤ 17179869184) (f : FuncId) (first caps : List AV) (p : zag → Bool) (hp : ∀ x ∈ l, zaS Tryz.prog f (first ++ .agg (zad x) :: caps) (.v (.bool (p x)))) (hb : ∀ c ∈ first, Bel 0 c) (hb' : ∀ c ∈ caps, Bel 0 c) :
  zaS Tryz.prog 88 [zaP l, .fn (.func f) first caps] (.v (.bool (l.any p))) := by
 refine pF Tryz.func88 ?_
 simp [go_sem]
 refine zxM (zhm l hl f first caps p hp hb hb') (by simp [go_sem]; exact ⟨hb, hb'⟩) ?_
 simp [go_sem, zqt]
theorem zn4 (m q : zag) (hm : za3 m) (hq : za3 q) : zaS Tryz.prog 89 [.agg (zad m), .fp (zad q)] (.v (.bool (decide (m = q)))) := by
 refine pF Tryz.func89 ?_
 have c1 := zbA m q hm hq
 have e : decide (m = q) = decide (zbw m q = 0) := by rw [decide_eq_decide]; exact (zaT.eq m q).symm
 rw [e]
 generalize zbw m q = x at *
 repeat first|refine wV fun _=>?_|simp [go_sem]
 refine zxM c1 (by simp [go_sem]) ?_
 repeat first|refine wV fun _=>?_|simp [go_sem]
theorem zpo (g : zae) (hg : GOk g) (p : zag) (hp : POk g p) (q : zag) (hq : za3 q) : zaS Tryz.prog 36 [.agg (zaf g), .agg (zad p), .agg (zad q)] (.v (.bool (decide (q ∈ zaZ g p)))) := by
 refine pF Tryz.func36 ?_
 have hM := zi8 g hg p hp
 have hml := zjI hg hp
 have hmf := fun m hm => ((zew hg hp) m hm).1.fits hg
 generalize zaZ g p = l at *
 have hC := zfs l (by omega) 89 [] [.fp (zad q)] (fun m => decide (m = q)) (fun m hm => zn4 m q (hmf m hm) hq) (by simp) (by simp [go_sem])
 have e : l.any (fun m => decide (m = q)) = decide (q ∈ l) := by
  rw [Bool.eq_iff_iff]
  simp
 rw [e] at hC
 repeat first|refine wV fun _=>?_|simp [go_sem]
 refine zxM hM (by simp [go_sem]) ?_
 repeat first|refine wV fun _=>?_|simp [go_sem]
 refine zxW [2] hC ?_ (by simp [go_sem]) ?_
 ·(first|done|exact leX)
 ·repeat first|refine wV fun _=>?_|simp [go_sem]
theorem zts (k : Int) {n : Int} (hn : 0 < n) : (k.tmod n + n).tmod n = k.emod n := by
 have h1 := Int.emod_nonneg k (show n ≠ 0 by omega)
 have h2 := Int.emod_lt_of_pos k hn
 have h3 : k.tmod n = k % n ∨ k.tmod n = k % n - n := by
  rw [Int.tmod_eq_emod]
  split
  ·left; omega
  ·right; omega
 show _ = k % n
 rcases h3 with h3 | h3
 ·rw [h3, Int.tmod_eq_emod_of_nonneg (by omega), Int.add_emod_right, Int.emod_emod_of_dvd _ (Int.dvd_refl n)]
 ·rw [h3, Int.sub_add_cancel, Int.tmod_eq_emod_of_nonneg h1, Int.emod_emod_of_dvd _ (Int.dvd_refl n)]
theorem zxA (k : Int) {n : Int} (hn : 0 < n) : -n ≤ k.tmod n ∧ k.tmod n ≤ n := by
 have h1 := Int.emod_nonneg k (show n ≠ 0 by omega)
 have h2 := Int.emod_lt_of_pos k hn
 have h3 : k.tmod n = k % n ∨ k.tmod n = k % n - n := by
  rw [Int.tmod_eq_emod]
  split
  ·left; omega
  ·right; omega
 omega
theorem zrr (g : zae) (hg : GOk g) (p : zag) (hp : POk g p) (picks : List Int) (hl : picks.length ≤ 1048576) : zaS Tryz.prog 42 [.agg (zaf g), .agg (zad p), zar picks] (zaP (zdf g p picks)) := by
 refine pF Tryz.func42 ?_
 generalize hW : zdf g p picks = W
 repeat first|refine wV fun _=>?_|simp [go_sem]
 refine zxL (zxP (α := Nat × zag × List zag) (fun a => ⟨[(3, .ref 0 0 9 0 0), (4, .ref 1 0 5 0 0), (7, .sl 2 a.1 5 0 (a.1 + 1)), (13, zar picks), (14, .v (.int .i64 picks.length)), (15, .v (.int .i64 a.1))], [(0, .rows true 0 9 [zaf g]), (1, .rows true 0 5 [zad a.2.1]), (2, .rows true a.1 5 ((a.2.2 ++ [a.2.1]).map zad))], 3⟩)
  (fun d a => a.1 + d = picks.length ∧ a.2.2.length = a.1 ∧ POk g a.2.1 ∧ W = a.2.2 ++ zdf g a.2.1 (picks.drop a.1)) ?_ picks.length (0, p, []) ?_) ?_ ?_
 ·rintro d ⟨i, q, pre⟩ ⟨i1, i2, i3, i4⟩ hrec
  simp only at i1 i2 i3 i4
  have hM := zi8 g hg q i3
  have hmo := fun m hm => ((zew hg i3) m hm).1
  have hml := zjI hg i3
  repeat first|refine wV fun _=>?_|simp [go_sem]
  refine zxN (fun hi => ?_) (fun hi => ?_) <;> simp at hi
  ·rw [zaQ hi, zdf] at i4
   have hrt := zts (nth picks i) (n := (zaZ g q).length)
   generalize zaZ g q = l at *
   obtain ⟨k, hk⟩ : ∃ k, k = nth picks i := ⟨_, rfl⟩
   rw [← hk] at i4 hrt
   repeat first|refine wV fun _=>?_|simp [go_sem, hi, ← hk]
   refine zxM hM (by simp [go_sem]) ?_
   repeat first|refine wV fun _=>?_|simp [go_sem]
   by_cases hz : l = []
   ·subst hz
    rw [if_pos rfl] at i4
    rw [i4]
    repeat first|refine wV fun _=>?_|simp [go_sem]
    exact zaL rfl (by simp; omega) (by simp [noH, upd]) (by rw [List.drop_zero]; exact List.take_of_length_le (by simp; omega))
   ·rw [if_neg hz] at i4
    have hl0 := List.length_pos_iff.2 hz
    have hln : ¬ (l.length : Int) = 0 := by omega
    have hrt := hrt (by omega)
    have hemn := Int.emod_nonneg k hln
    have heml := Int.emod_lt_of_pos k (show (0 : Int) < l.length by omega)
    have hix : (k.emod l.length).toNat < l.length := by
     have : k.emod l.length = k % l.length := rfl
     omega
    have htm := zxA k (show (0 : Int) < l.length by omega)
    have hle : (l.length : Int) ≤ 7200000054 := by omega
    have hem0 : 0 ≤ k.emod l.length := hemn
    have heml' : k.emod l.length < l.length := heml
    repeat first|refine wV fun _=>?_|simp [go_sem, hz, hln, hrt, hix]
    refine zxL (hrec (d - 1) (by omega) (i + 1, nth l (k.emod l.length).toNat, pre ++ [q]) ⟨by simp only; omega, by simp; omega, hmo _ (zaj hix), by simpa using i4⟩) ?_ (by simp)
    simp [go_sem, zah]
  ·rw [List.drop_eq_nil_of_le hi, zdf] at i4
   rw [i4]
   repeat first|refine wV fun _=>?_|simp [go_sem]
   exact zaL rfl (by simp; omega) (by simp [noH, upd]) (by rw [List.drop_zero]; exact List.take_of_length_le (by simp; omega))
 ·exact ⟨by simp, rfl, hp, by simp [hW]⟩
 ·simp [go_sem, zah]
 ·simp
theorem ze1 (a b : List zag) (ha : a.length ≤ 17179869184) (hb : b.length ≤ 17179869184) (hfa : ∀ p ∈ a, za3 p) (hfb : ∀ p ∈ b, za3 p) : zaS Tryz.prog 41 [zaP a, zaP b] (.v (.bool (decide (a = b)))) := by
 refine pF Tryz.func41 ?_
 repeat first|refine wV fun _=>?_|simp [go_sem]
 refine zxN (fun hl => ?_) (fun hl => ?_) <;> simp at hl
 ·have e : decide (a = b) = false := decide_eq_false fun h => hl (by rw [h])
  rw [e]
  repeat first|refine wV fun _=>?_|simp [go_sem]
 ·repeat first|refine wV fun _=>?_|simp [go_sem]
  refine zxL (zxP (α := Nat) (fun i => ⟨[(0, zaP a), (1, zaP b), (5, .v (.int .i64 i))], [], 0⟩)
   (fun d i => i + d = a.length ∧ ∀ j, j < i → nth a j = nth b j) ?_ a.length 0 ?_) ?_ ?_
  ·rintro d i ⟨i1, i2⟩ hrec
   repeat first|refine wV fun _=>?_|simp [go_sem]
   refine zxN (fun hi => ?_) (fun hi => ?_) <;> simp at hi
   ·have hi' : i < b.length := by omega
    have hS := zhp (nth a i) (nth b i) (hfa _ (zaj hi)) (hfb _ (zaj hi'))
    rw [show decide (zbw (nth a i) (nth b i) = 0) = decide (nth a i = nth b i) by rw [decide_eq_decide]; exact zaT.eq _ _] at hS
    repeat first|refine wV fun _=>?_|simp [go_sem, hi, hi']
    refine zxO hS (by simp [go_sem]) ?_
    by_cases h : nth a i = nth b i
    ·repeat first|refine wV fun _=>?_|simp [go_sem, h]
     refine zxL (hrec (d - 1) (by omega) (i + 1) ⟨by omega, fun j hj => ?_⟩) ?_ (by simp)
     ·rcases Nat.lt_or_ge j i with h' | h'
      ·exact i2 j h'
      ·obtain rfl : j = i := by omega
       exact h
     ·simp [go_sem, zah]
    ·have e : decide (a = b) = false := decide_eq_false fun h' => h (by rw [h'])
     rw [e]
     repeat first|refine wV fun _=>?_|simp [go_sem, h]
   ·have e : decide (a = b) = true := decide_eq_true (List.ext_getElem (by omega) fun j h1 h2 => by
     have := i2 j (by omega)
     rwa [zaB _ _ h1, zaB _ _ h2] at this)
    rw [e]
    repeat first|refine wV fun _=>?_|simp [go_sem]
  ·exact ⟨by simp, fun j hj => by omega⟩
  ·simp [go_sem, zah]
  ·simp
theorem zlQ (p : zag) (ha : za3 p) : zgB Tryz.prog 94 [.agg (zad p)] (fun n => zo1 n p) (fun n => zkX n p) 9 := by
 refine ⟨zxR (by kernel_rfl) Tryz.func94 rfl rfl (Nat.le_of_ble_eq_true rfl) (by kernel_rfl) ?_, fun n => ⟨by simp [go_sem], by simp [go_sem]⟩⟩
 obtain ⟨a1, a2, a3⟩ := ha
 unfold zeh at a1 a2 a3
 repeat first|refine wV fun _=>?_|simp [go_sem]
 simp [go_sem, zah]
def zbV (q : zag) : List AV := [.agg (zad q)]
theorem zuE {n : Nat} {L : List zag} : (∀ r ∈ L.map zbV, ∀ c ∈ r, Bel n c) = True := by
 refine eq_true ?_
 intro r hr c hc
 obtain ⟨x, _, rfl⟩ := List.mem_map.1 hr
 simp only [zbV, List.mem_cons, List.not_mem_nil, or_false] at hc
 subst hc
 simp [go_sem]
attribute [go_sem ↓] zuE
theorem zr7 {n l more : Nat} {L : List zag} : Bel n (za2 l more (L.map zbV)) := by
 simp only [za2, zow, zj2, List.forall_mem_cons, ztZ, zbG]
 simp [go_sem]
theorem zdQ (p : zag) (hf : za3 p) (c v : Int) (h0 : 0 ≤ c) (hc : c.toNat < p.at_.length) : zaS Tryz.prog 203 [.agg (zad p), .v (.int .i64 c), .v (.int .i64 v)] (.agg (zad { p with at_ := p.at_.set c.toNat v })) := by
 refine pF Tryz.func203 ?_
 have hC := zc0 p.at_ hf.1
 repeat first|refine wV fun _=>?_|simp [go_sem]
 refine zxQ hC (by simp [go_sem]) ?_
 repeat first|refine wV fun _=>?_|simp [go_sem, hc]
 exact frX
theorem zjl (p : zag) (hf : za3 p) (s k by_ : Int) (hs : s = 0 ∨ s = 1) (h0 : 0 ≤ k) (hk : k.toNat < (p.hand s).length) (hb : -1000 ≤ nth (p.hand s) k.toNat + by_ ∧ nth (p.hand s) k.toNat + by_ ≤ 1000) : zaS Tryz.prog 205 [.agg (zad p), .v (.int .i64 s), .v (.int .i64 k), .v (.int .i64 by_)] (.agg (zad (p.withHand s ((p.hand s).set k.toNat (nth (p.hand s) k.toNat + by_))))) := by
 refine pF Tryz.func205 ?_
 rcases hs with rfl | rfl
 ·have hC := zc0 p.h0 hf.2.1
  rw [show p.hand 0 = p.h0 from rfl] at hk hb ⊢
  repeat first|refine wV fun _=>?_|simp [go_sem]
  refine zxQ hC (by simp [go_sem]) ?_
  simp only [zag.withHand]
  repeat first|refine wV fun _=>?_|simp [go_sem, hk]
  (repeat' (first | (with_reducible apply And.intro) | ((refine LeV.frz rfl ?_ ?_ (zxV ?_)) <;> first | (simp [noH]; done) | (rw [List.drop_zero, List.take_of_length_le (by simp)]))))
 ·have hC := zc0 p.h1 hf.2.2
  rw [show p.hand 1 = p.h1 from rfl] at hk hb ⊢
  repeat first|refine wV fun _=>?_|simp [go_sem]
  refine zxQ hC (by simp [go_sem]) ?_
  simp only [zag.withHand]
  repeat first|refine wV fun _=>?_|simp [go_sem, hk]
  (repeat' (first | (with_reducible apply And.intro) | ((refine LeV.frz rfl ?_ ?_ (zxV ?_)) <;> first | (simp [noH]; done) | (rw [List.drop_zero, List.take_of_length_le (by simp)]))))
def ztK (n : Nat) : AV := .fn (.func 295) [] [.ref (n + 2) 0 3 0 0, .ref n 0 9 0 0, .ref (n + 1) 0 5 0 0]
def ztL (g : zae) (p : zag) (x : zcN) (n : Nat) : List (Nat × zbd) := [(n, .rows true 0 9 [zaf g]), (n + 1, .rows true 0 5 [zad p]), (n + 2, .rows true 0 3 [zbc x])]
theorem ztO (g : zae) (p : zag) (x : zcN) : zgB Tryz.prog 251 [.agg (zaf g), .agg (zad p), .agg (zbc x)] ztK (ztL g p x) 3 := by
 refine ⟨?_, fun n => ⟨by simp [go_sem, ztK], by simp [go_sem, ztL]⟩⟩
 refine zxR (by kernel_rfl) Tryz.func251 rfl rfl (Nat.le_of_ble_eq_true rfl) (by kernel_rfl) ?_
 repeat first|refine wV fun _=>?_|simp [go_sem, ztK, ztL]
 simp [go_sem, zah]
theorem ztP (g : zae) (hg : GOk g) (p : zag) (hp : POk g p) (x : zcN) (hx : zeg g.cells g.kinds.length g.rights x) :
  zm7 Tryz.prog 295 [.fp (zbc x), .fp (zaf g), .ref 0 0 5 0 0] [(0, .rows true 0 5 [zad p])] 1 0 ((zeH g p.side p x).map zbV) := by
 refine zyg (by kernel_rfl) Tryz.func295 rfl rfl (Nat.le_of_ble_eq_true rfl) (by kernel_rfl) (fun l => ?_) (hm2 := by decide)
 obtain ⟨op, a, b⟩ := x
 unfold zeg at hx
 simp only at hx
 have hf := hp.fits hg
 have hal := hp.al
 have hk6 := hg.k6
 have hs := hp.s
 have hgh : ∀ (n : Nat) (L : List zag), Bel n (za2 l 0 (L.map zbV)) = True := fun n (L : List zag) => eq_true zr7
 have hegl : (zaf g).length = 9 := rfl
 have hegk : cel (zaf g) 3 = .lst 3 (g.kinds.map zaU) := rfl
 have hegb : ∀ n, (∀ c ∈ zaf g, Bel n c) = True := fun n => by simp [go_sem]
 by_cases h6 : op = 6
 ·subst h6
  obtain ⟨hx1, hx2⟩ : 0 ≤ a ∧ a.toNat < p.at_.length := by omega
  rw [zgw rfl]
  have hz : (List.range g.kinds.length).flatMap (tkL g p.side p a.toNat) = tkF g p.side p a.toNat 0 := rfl
  have hts := fun i (hi : i < g.kinds.length) => zvF (g := g) p.side p a.toNat hi
  have hte := zxy g p.side p a.toNat
  have hCo := fun (k : Nat) => zc3 k (1 - p.side)
  have hW := fun (k : Nat) => zdQ p hf a (zaK k (1 - p.side)) hx1 hx2
  have hCt := fun (k : Nat) (hk : k < g.kinds.length) => zjl { p with at_ := p.at_.set a.toNat (zaK k (1 - p.side)) } ⟨by simpa [zeh] using hf.1, hf.2⟩ p.side k (-1) hs (by omega) (by have := (hp.hand p.side).len; simpa [zag.hand] using (show k < (p.hand p.side).length by omega))
  simp only at hz ⊢
  rw [hz]
  repeat first|refine wV fun _=>?_|simp [go_sem, GH, hegl]
  refine zxL (zxP (α := Nat) (fun k => ⟨[(0, .fn (.yield l) [] []), (1, .fp (zbc (6, a, b))), (2, .fp (zaf g)), (3, .ref 0 0 5 0 0), (17, .v (.int .i64 g.kinds.length)), (18, .v (.int .i64 k)), (1000000007, za2 l 0 ((tkF g p.side p a.toNat k).map zbV))], [(0, .rows true 0 5 [zad p])], 1⟩)
   (fun d k => k + d = g.kinds.length) ?_ g.kinds.length 0 ?_) ?_ ?_
  ·rintro d k k1 hrec
   repeat first|refine wV fun _=>?_|simp [go_sem, GH, hegl]
   refine zxN (fun hk => ?_) (fun hk => ?_) <;> simp at hk
   ·have hts := hts k hk
    have hCo := hCo k
    have hW := hW k
    have hkh : k < (p.hand p.side).length := by have := (hp.hand p.side).len; omega
    have hv := (hp.hand p.side).v k hkh
    have hCt := hCt k hk (by
     show -1000 ≤ nth (p.hand p.side) ((k : Int)).toNat + -1 ∧ nth (p.hand p.side) ((k : Int)).toNat + -1 ≤ 1000
     rw [Int.toNat_natCast]; omega)
    unfold tkL tkP at hts
    generalize hcd : zaK k (1 - p.side) = cd at *
    try simp only at hts
    try simp only at hW
    try simp only at hCt
    generalize hA : p.at_.set a.toNat cd = A at *
    repeat first|refine wV fun _=>?_|simp [go_sem, GH, hegl]
    refine zxO hCo (by simp [go_sem]) ?_
    repeat first|refine wV fun _=>?_|simp [go_sem, GH, hegl]
    refine zxO hW (by simp [go_sem]) ?_
    repeat first|refine wV fun _=>?_|simp [go_sem, GH, hegl]
    have hgk : nth (g.kinds.map zaU) k = zaU (nth g.kinds k) := zbK _ _ _ hk
    have hax : 0 ≤ a := hx1
    repeat first|refine wV fun _=>?_|simp [go_sem, GH, hegl, hk, hgk]
    refine zxN (fun hkp => ?_) (fun hkp => ?_)
    ·rw [if_pos hkp] at hts
     simp only [Int.toNat_natCast] at hCt
     obtain ⟨Q, hQ⟩ : ∃ Q, Q = (⟨A, p.h0, p.h1, p.rights, p.side⟩ : zag).withHand p.side ((p.hand p.side).set k (nth (p.hand p.side) k - 1)) := ⟨_, rfl⟩
     rw [← hQ] at hts
     replace hCt : zaS Tryz.prog 205 [.agg (zad ⟨A, p.h0, p.h1, p.rights, p.side⟩), .v (.int .i64 p.side), .v (.int .i64 k), .v (.int .i64 (-1))] (.agg (zad Q)) := by rw [hQ]; exact hCt
     repeat first|refine wV fun _=>?_|simp [go_sem, GH, hegl]
     refine zxM hCt (by simp [go_sem]) ?_
     rcases hs with hs | hs
     ·have hqh : Q.hand p.side = Q.h0 := by rw [hs]; rfl
      have hql : k < Q.h0.length := by rw [← hqh, hQ, zfL, List.length_set]; exact hkh
      rw [hqh] at hts
      by_cases hz0 : nth p.at_ a.toNat = 0
      ·by_cases hz1 : 0 ≤ nth Q.h0 k
       ·rw [if_pos ⟨hz0, hz1⟩] at hts
        rw [hts]
        repeat first|refine wV fun _=>?_|simp [go_sem, GH, hegl, hs, hx2, hz0, hz1, hql]
        refine aGC.yld (more := 0) (xs := zbV Q) (rs := (tkF g p.side p a.toNat (k + 1)).map zbV) _ (by simp [upd, GH, hs]) (.refl _) (.refl _ _ _ _) (by simp [go_sem, zbV]) ?_ ?_
        ·repeat first|refine wV fun _=>?_|simp [go_sem, GH, hegl]
         refine zxL (hrec (d - 1) (by omega) (k + 1) (by omega)) ?_ (by simp)
         simp [go_sem, zah, GH, hgh, hs]
        ·repeat first|refine wV fun _=>?_|simp [go_sem, GH, hegl]
       ·rw [if_neg (fun h => hz1 h.2), List.nil_append] at hts
        rw [hts]
        have hz2 : nth Q.h0 k < 0 := by omega
        repeat first|refine wV fun _=>?_|simp [go_sem, GH, hegl, hs, hx2, hz0, hz1, hql, hz2]
        refine aGC.skip (.v (.bool true)) ?_
        repeat first|refine wV fun _=>?_|simp [go_sem, GH, hegl]
        refine zxL (hrec (d - 1) (by omega) (k + 1) (by omega)) ?_ (by simp)
        simp [go_sem, zah, GH, hgh, hs]
      ·rw [if_neg (fun h => hz0 h.1), List.nil_append] at hts
       rw [hts]
       repeat first|refine wV fun _=>?_|simp [go_sem, GH, hegl, hs, hx2, hz0, hql]
       refine aGC.skip (.v (.bool true)) ?_
       repeat first|refine wV fun _=>?_|simp [go_sem, GH, hegl]
       refine zxL (hrec (d - 1) (by omega) (k + 1) (by omega)) ?_ (by simp)
       simp [go_sem, zah, GH, hgh, hs]
     ·have hqh : Q.hand p.side = Q.h1 := by rw [hs]; rfl
      have hql : k < Q.h1.length := by rw [← hqh, hQ, zfL, List.length_set]; exact hkh
      rw [hqh] at hts
      by_cases hz0 : nth p.at_ a.toNat = 0
      ·by_cases hz1 : 0 ≤ nth Q.h1 k
       ·rw [if_pos ⟨hz0, hz1⟩] at hts
        rw [hts]
        repeat first|refine wV fun _=>?_|simp [go_sem, GH, hegl, hs, hx2, hz0, hz1, hql]
        refine aGC.yld (more := 0) (xs := zbV Q) (rs := (tkF g p.side p a.toNat (k + 1)).map zbV) _ (by simp [upd, GH, hs]) (.refl _) (.refl _ _ _ _) (by simp [go_sem, zbV]) ?_ ?_
        ·repeat first|refine wV fun _=>?_|simp [go_sem, GH, hegl]
         refine zxL (hrec (d - 1) (by omega) (k + 1) (by omega)) ?_ (by simp)
         simp [go_sem, zah, GH, hgh, hs]
        ·repeat first|refine wV fun _=>?_|simp [go_sem, GH, hegl]
       ·rw [if_neg (fun h => hz1 h.2), List.nil_append] at hts
        rw [hts]
        have hz2 : nth Q.h1 k < 0 := by omega
        repeat first|refine wV fun _=>?_|simp [go_sem, GH, hegl, hs, hx2, hz0, hz1, hql, hz2]
        refine aGC.skip (.v (.bool true)) ?_
        repeat first|refine wV fun _=>?_|simp [go_sem, GH, hegl]
        refine zxL (hrec (d - 1) (by omega) (k + 1) (by omega)) ?_ (by simp)
        simp [go_sem, zah, GH, hgh, hs]
      ·rw [if_neg (fun h => hz0 h.1), List.nil_append] at hts
       rw [hts]
       repeat first|refine wV fun _=>?_|simp [go_sem, GH, hegl, hs, hx2, hz0, hql]
       refine aGC.skip (.v (.bool true)) ?_
       repeat first|refine wV fun _=>?_|simp [go_sem, GH, hegl]
       refine zxL (hrec (d - 1) (by omega) (k + 1) (by omega)) ?_ (by simp)
       simp [go_sem, zah, GH, hgh, hs]
    ·rw [if_neg (show ¬ (nth g.kinds k).keep = true by simp [hkp])] at hts
     obtain ⟨Q, hQ⟩ : ∃ Q : zag, Q = ⟨A, p.h0, p.h1, p.rights, p.side⟩ := ⟨_, rfl⟩
     have hq0 : p.h0 = Q.h0 := by rw [hQ]
     have hq1 : p.h1 = Q.h1 := by rw [hQ]
     have hqx : AV.agg [.lst 1 (A.map zcf), .lst 1 (p.h0.map zcf), .lst 1 (p.h1.map zcf), .v (.int .i64 p.rights), .v (.int .i64 p.side)] = .agg (zad Q) := by rw [hQ]; rfl
     rw [← hQ] at hts
     rcases hs with hs | hs
     ·have hqh : Q.hand p.side = Q.h0 := by rw [hs]; rfl
      have hql : k < Q.h0.length := by rw [← hqh, hQ]; exact hkh
      rw [hqh] at hts
      by_cases hz0 : nth p.at_ a.toNat = 0
      ·by_cases hz1 : 0 ≤ nth Q.h0 k
       ·rw [if_pos ⟨hz0, hz1⟩] at hts
        rw [hts]
        repeat first|refine wV fun _=>?_|simp [go_sem, GH, hegl, hs, hx2, hz0, hz1, hql, hq0, hq1]
        refine aGC.yld (more := 0) (xs := zbV Q) (rs := (tkF g p.side p a.toNat (k + 1)).map zbV) _ (by simp [upd, GH, hs]) (.refl _) (by rw [hQ]; simp only [zbV, zad, zar, hs]; exact .refl _ _ _ _) (by simp [go_sem, zbV]) ?_ ?_
        ·repeat first|refine wV fun _=>?_|simp [go_sem, GH, hegl]
         refine zxL (hrec (d - 1) (by omega) (k + 1) (by omega)) ?_ (by simp)
         simp [go_sem, zah, GH, hgh, hs, hq0, hq1]
        ·repeat first|refine wV fun _=>?_|simp [go_sem, GH, hegl]
       ·rw [if_neg (fun h => hz1 h.2), List.nil_append] at hts
        rw [hts]
        have hz2 : nth Q.h0 k < 0 := by omega
        repeat first|refine wV fun _=>?_|simp [go_sem, GH, hegl, hs, hx2, hz0, hz1, hql, hz2, hq0, hq1]
        refine aGC.skip (.v (.bool true)) ?_
        repeat first|refine wV fun _=>?_|simp [go_sem, GH, hegl]
        refine zxL (hrec (d - 1) (by omega) (k + 1) (by omega)) ?_ (by simp)
        simp [go_sem, zah, GH, hgh, hs, hq0, hq1]
      ·rw [if_neg (fun h => hz0 h.1), List.nil_append] at hts
       rw [hts]
       repeat first|refine wV fun _=>?_|simp [go_sem, GH, hegl, hs, hx2, hz0, hql, hq0, hq1]
       refine aGC.skip (.v (.bool true)) ?_
       repeat first|refine wV fun _=>?_|simp [go_sem, GH, hegl]
       refine zxL (hrec (d - 1) (by omega) (k + 1) (by omega)) ?_ (by simp)
       simp [go_sem, zah, GH, hgh, hs, hq0, hq1]
     ·have hqh : Q.hand p.side = Q.h1 := by rw [hs]; rfl
      have hql : k < Q.h1.length := by rw [← hqh, hQ]; exact hkh
      rw [hqh] at hts
      by_cases hz0 : nth p.at_ a.toNat = 0
      ·by_cases hz1 : 0 ≤ nth Q.h1 k
       ·rw [if_pos ⟨hz0, hz1⟩] at hts
        rw [hts]
        repeat first|refine wV fun _=>?_|simp [go_sem, GH, hegl, hs, hx2, hz0, hz1, hql, hq0, hq1]
        refine aGC.yld (more := 0) (xs := zbV Q) (rs := (tkF g p.side p a.toNat (k + 1)).map zbV) _ (by simp [upd, GH, hs]) (.refl _) (by rw [hQ]; simp only [zbV, zad, zar, hs]; exact .refl _ _ _ _) (by simp [go_sem, zbV]) ?_ ?_
        ·repeat first|refine wV fun _=>?_|simp [go_sem, GH, hegl]
         refine zxL (hrec (d - 1) (by omega) (k + 1) (by omega)) ?_ (by simp)
         simp [go_sem, zah, GH, hgh, hs, hq0, hq1]
        ·repeat first|refine wV fun _=>?_|simp [go_sem, GH, hegl]
       ·rw [if_neg (fun h => hz1 h.2), List.nil_append] at hts
        rw [hts]
        have hz2 : nth Q.h1 k < 0 := by omega
        repeat first|refine wV fun _=>?_|simp [go_sem, GH, hegl, hs, hx2, hz0, hz1, hql, hz2, hq0, hq1]
        refine aGC.skip (.v (.bool true)) ?_
        repeat first|refine wV fun _=>?_|simp [go_sem, GH, hegl]
        refine zxL (hrec (d - 1) (by omega) (k + 1) (by omega)) ?_ (by simp)
        simp [go_sem, zah, GH, hgh, hs, hq0, hq1]
      ·rw [if_neg (fun h => hz0 h.1), List.nil_append] at hts
       rw [hts]
       repeat first|refine wV fun _=>?_|simp [go_sem, GH, hegl, hs, hx2, hz0, hql, hq0, hq1]
       refine aGC.skip (.v (.bool true)) ?_
       repeat first|refine wV fun _=>?_|simp [go_sem, GH, hegl]
       refine zxL (hrec (d - 1) (by omega) (k + 1) (by omega)) ?_ (by simp)
       simp [go_sem, zah, GH, hgh, hs, hq0, hq1]
   ·obtain rfl : k = g.kinds.length := by omega
    rw [hte]
    repeat first|refine wV fun _=>?_|simp [go_sem, GH, hegl]
  ·omega
  ·simp [go_sem, zah, GH, hgh]
  ·simp
 have hz6 : ¬ op = 6 := h6
 unfold zeH
 rw [if_neg h6]
 by_cases h7 : op = 7
 ·subst h7
  obtain ⟨hx1, hx2, hx3, hx4⟩ : 0 ≤ a ∧ a.toNat < p.at_.length ∧ 0 ≤ b ∧ b.toNat < p.at_.length := by omega
  rw [if_pos rfl]
  have hW1 := zdQ p hf a (nth p.at_ b.toNat) hx1 hx2
  have hW2 := zdQ { p with at_ := p.at_.set a.toNat (nth p.at_ b.toNat) } ⟨by simpa [zeh] using hf.1, hf.2⟩ b 0 hx3 (by simpa using hx4)
  simp only at hW2 ⊢
  obtain ⟨A, hA⟩ : ∃ A, A = p.at_.set a.toNat (nth p.at_ b.toNat) := ⟨_, rfl⟩
  rw [← hA] at hW1 hW2 ⊢
  obtain ⟨B, hB⟩ : ∃ B, B = A.set b.toNat 0 := ⟨_, rfl⟩
  rw [← hB] at hW2 ⊢
  by_cases hz : nth p.at_ b.toNat ≠ 0 ∧ nth p.at_ a.toNat = 0
  ·rw [if_pos hz]
   obtain ⟨z1, z2⟩ := hz
   have z3 : ¬ nth p.at_ b.toNat = 0 := z1
   (repeat (first|with_reducible (first|refine wL fun _=>?_|refine wD fun _=>?_|refine wE ?_)|simp [go_sem, GH, hegl, hx2, hx4, z3, z2]))
   refine zla.split 14 ?_
   repeat first|refine wV fun _=>?_|simp [go_sem, GH, hegl, hx2, hx4, z3, z2]
   refine zxO hW1 (by simp [go_sem]) ?_
   repeat first|refine wV fun _=>?_|simp [go_sem, GH, hegl, hx2, hx4, z3, z2]
   refine zxO hW2 (by simp [go_sem]) ?_
   repeat first|refine wV fun _=>?_|simp [go_sem, GH, hegl]
   refine zpy.mk (more := 0) (xs := zbV ⟨B, p.h0, p.h1, p.rights, p.side⟩) (rs := []) _ (by simp [upd, GH]) (.refl _) (.refl _ _ _ _) (by simp [go_sem, zbV]) ?_ ?_
   ·repeat first|refine wV fun _=>?_|simp [go_sem, GH, hegl]
   ·repeat first|refine wV fun _=>?_|simp [go_sem, GH, hegl]
  ·rw [if_neg hz]
   have z4 : nth p.at_ b.toNat = 0 ∨ ¬ nth p.at_ a.toNat = 0 := by
    by_cases h : nth p.at_ b.toNat = 0
    ·exact .inl h
    ·exact .inr fun h2 => hz ⟨h, h2⟩
   rcases z4 with z4 | z4
   ·repeat first|refine wV fun _=>?_|simp [go_sem, GH, hegl, hx2, hx4, z4]
   ·repeat first|refine wV fun _=>?_|simp [go_sem, GH, hegl, hx2, hx4, z4]
 rw [if_neg h7]
 by_cases h10 : op = 10
 ·subst h10
  rw [if_pos rfl]
  have hr4 := hg.r4
  have hx1 : 0 ≤ a ∧ a < 4 := by omega
  have hpw : (1 : Int) ≤ 2 ^ a.toNat ∧ (2 : Int) ^ a.toNat ≤ 8 := by
   rcases (show a.toNat = 0 ∨ a.toNat = 1 ∨ a.toNat = 2 ∨ a.toNat = 3 by omega) with h | h | h | h <;> rw [h] <;> decide
  unfold zs4
  generalize hgp : (2 : Int) ^ a.toNat = pw at *
  by_cases hz : ziC .i64 p.rights pw = 0
  ·rw [if_pos (by simpa using hz)]
   have ha0 : 0 ≤ a := hx1.1
   have ha1 : a ≤ 64 := by omega
   repeat first|refine wV fun _=>?_|simp [go_sem, GH, hegl, hz, hgp]
   refine aGC.yld (more := 0) (xs := zbV p) (rs := [zbV { p with rights := orN .i64 p.rights pw }]) _ (by simp [upd, GH]) (.refl _) (.refl _ _ _ _) (by simp [go_sem, zbV]) ?_ ?_
   ·repeat first|refine wV fun _=>?_|simp [go_sem, GH, hegl, hgp]
    refine zpy.mk (more := 0) (xs := zbV { p with rights := orN .i64 p.rights pw }) (rs := []) _ (by simp [upd, GH]) (.refl _) (.refl _ _ _ _) (by simp [go_sem, zbV]) ?_ ?_
    ·repeat first|refine wV fun _=>?_|simp [go_sem, GH, hegl]
    ·repeat first|refine wV fun _=>?_|simp [go_sem, GH, hegl]
   ·repeat first|refine wV fun _=>?_|simp [go_sem, GH, hegl]
  ·rw [if_neg (by simpa using hz)]
   repeat first|refine wV fun _=>?_|simp [go_sem, GH, hegl, hz, hgp]
   refine aGC.skip (.v (.bool true)) ?_
   repeat first|refine wV fun _=>?_|simp [go_sem, GH, hegl]
 ·rw [if_neg h10]
  repeat first|refine wV fun _=>?_|simp [go_sem, GH, hegl, h6, h7, h10]
  refine zpy.mk (more := 0) (xs := zbV p) (rs := []) _ (by simp [upd, GH]) (.refl _) (.refl _ _ _ _) (by simp [go_sem, zbV]) ?_ ?_
  ·repeat first|refine wV fun _=>?_|simp [go_sem, GH, hegl]
  ·repeat first|refine wV fun _=>?_|simp [go_sem, GH, hegl]
def ziy (n : Nat) : AV := .fn (.func 250) [] [.ref (n + 2) 0 1 0 0, .ref (n + 1) 0 5 0 0, .ref n 0 9 0 0]
def ziz (g : zae) (p : zag) (l : List zcN) (n : Nat) : List (Nat × zbd) := [(n, .rows true 0 9 [zaf g]), (n + 1, .rows true 0 5 [zad p]), (n + 2, .rows true 0 1 [[zcl l]])]
theorem zgU (g : zae) (p : zag) (l : List zcN) : zgB Tryz.prog 204 [.agg (zaf g), .agg (zad p), zcl l] ziy (ziz g p l) 3 := by
 refine ⟨?_, fun n => ⟨by simp [go_sem, ziy], by simp [go_sem, ziz]⟩⟩
 refine zxR (by kernel_rfl) Tryz.func204 rfl rfl (Nat.le_of_ble_eq_true rfl) (by kernel_rfl) ?_
 repeat first|refine wV fun _=>?_|simp [go_sem, ziy, ziz]
 simp [go_sem, zah]
theorem zot (g : zae) (hg : GOk g) : ∀ (n : Nat) (acts : List zcN) (p : zag), acts.length = n → n ≤ 1048576 → POk g p → (∀ a ∈ acts, zeg g.cells g.kinds.length g.rights a) →
  zlk Tryz.prog 250 [.fp [zcl acts], .fp (zad p), .fp (zaf g)] 0 ((zcD g p.side p acts.reverse).map zbV) := by
 intro n
 induction n with
 | zero =>
  intro acts p hn _ hp _
  obtain rfl := List.eq_nil_of_length_eq_zero hn
  refine zx3 (by kernel_rfl) Tryz.func250 rfl rfl (Nat.le_of_ble_eq_true rfl) (by kernel_rfl) (fun l => ?_) (hm2 := by decide)
  have e : (zcD g p.side p ([] : List zcN).reverse).map zbV = [zbV p] := rfl
  rw [e]
  repeat first|refine wV fun _=>?_|simp [go_sem, GH]
  refine zpy.mk (more := 0) (xs := zbV p) (rs := []) _ (by simp [upd, GH]) (.refl _) (.refl _ _ _ _) (by simp [go_sem, zbV]) ?_ ?_
  ·repeat first|refine wV fun _=>?_|simp [go_sem, GH]
  ·repeat first|refine wV fun _=>?_|simp [go_sem, GH]
 | succ n ih =>
  intro acts p hn hn2 hp hacts
  obtain ⟨init, x, he⟩ : ∃ init x, acts = init ++ [x] := by
   rcases List.eq_nil_or_concat acts with h | ⟨i, x, h⟩
   ·rw [h] at hn; cases hn
   ·exact ⟨i, x, by rw [h, List.concat_eq_append]⟩
  have hin : init.length = n := by rw [he, List.length_append, List.length_singleton] at hn; omega
  have hx := hacts x (by rw [he]; simp)
  have hacts' : ∀ a ∈ init, zeg g.cells g.kinds.length g.rights a := fun a ha => hacts a (by rw [he]; simp [ha])
  have er : zcD g p.side p acts.reverse = (zeH g p.side p x).flatMap fun q => zcD g p.side q init.reverse := by rw [he, List.reverse_append]; rfl
  have hnt : nth (acts.map zbc) n = zbc x := by
   rw [zbK _ _ _ (by omega), zaB _ _ (by omega)]
   simp [he, ← hin]
  have htk : (acts.map zbc).take n = init.map zbc := by rw [he, List.map_append, List.take_left' (by simp [hin])]
  clear he
  have hU : zgB Tryz.prog 251 [.agg (zaf g), .agg (zad p), .agg (zbc x)] (fun n => ztK n) (fun n => ztL g p x n) 3 := ztO g p x
  simp only [ztK, ztL] at hU
  have hQ := ztP g hg p hp x hx
  have hok := zph hg hp.s hp hx
  have hAll : ∀ q, POk g q → zgB Tryz.prog 204 [.agg (zaf g), .agg (zad q), zcl init] (fun n => ziy n) (fun n => ziz g q init n) 3 := fun q _ => zgU g q init
  simp only [ziy, ziz] at hAll
  have hSeq := fun (q : zag) (hq : POk g q) => ih init q hin (by omega) hq hacts'
  refine zx3 (by kernel_rfl) Tryz.func250 rfl rfl (Nat.le_of_ble_eq_true rfl) (by kernel_rfl) (fun l => ?_) (hm2 := by decide)
  have hgh : ∀ (n : Nat) (L : List zag), Bel n (za2 l 0 (L.map zbV)) = True := fun n (L : List zag) => eq_true zr7
  have hgh2 : ∀ (n : Nat) (a b : List zag), Bel n (za2 l 0 (a.map zbV ++ b.map zbV)) = True := fun n a b => by rw [← List.map_append]; exact hgh n _
  have hegl : (zaf g).length = 9 := rfl
  have hegb : ∀ n, (∀ c ∈ zaf g, Bel n c) = True := fun n => by simp [go_sem]
  rw [er]
  generalize zeH g p.side p x = qs at *
  have hlt : n < acts.length := by omega
  have hzero : ((n : Int) + 1 = 0) = False := eq_false (by omega)
  (repeat (first|with_reducible (first|refine wL fun _=>?_|refine wD fun _=>?_|refine wE ?_)|simp [go_sem, GH, hn, hnt, hlt, hzero]))
  refine zla.split 6 ?_
  repeat first|refine wV fun _=>?_|simp [go_sem, GH, hn, hnt, hlt, hzero]
  refine zxQ hU (by simp [go_sem]) ?_
  repeat first|refine wV fun _=>?_|simp [go_sem, GH]
  have hep : zad p = [zar p.at_, zar p.h0, zar p.h1, .v (.int .i64 p.rights), .v (.int .i64 p.side)] := rfl
  refine zdz.give [.fp (zbc x), .fp (zaf g), .ref 0 0 5 0 0] (zbp _ [11, 9]) 10 [zad p] hQ (zcb _ _) (by simp [zbp, zbP, upd]; rfl) (.refl _) (by simp [go_sem]) ?_ (fun xs hx => by obtain ⟨y, _, rfl⟩ := List.mem_map.1 hx; rfl) ?_
  ·simp only [zoy, zli, zlh, and_true]
   refine ⟨.frzP rfl ?_ ?_ ?_ ?_, ?_, .frzP rfl ?_ ?_ ?_ ?_, ?_⟩ <;> first | exact zam.refl _ _ _ _ | (simp [zbp, zbP, upd]; done) | (simp [go_sem]; done)
  ·refine Fgt.to (zx2 (α := List zag) (fun qs => ([(1, .fp [zcl acts]), (3, .fp (zaf g)), (4, .ref 0 0 1 0 0), (5, .ref 1 0 1 0 0), (1000000007, za2 l 0 ((qs.flatMap fun q => zcD g p.side q init.reverse).map zbV))], [(0, .rows true 0 1 [[.fn (.yield l) [] []]]), (1, .rows true 0 1 [[.v (.int .i64 n)]])], 2))
    (fun rows qs => rows = qs.map zbV ∧ ∀ q ∈ qs, POk g q ∧ q.side = p.side) ?_ ?_ _ qs ?_) ?_ ?_
   ·rintro qs ⟨i1, i2⟩
    obtain rfl : qs = [] := by
     cases qs with
     | nil => rfl
     | cons => cases i1
    refine ⟨rfl, ?_⟩
    repeat first|refine wV fun _=>?_|simp [go_sem, GH]
   ·rintro xs rs qs ⟨i1, i2⟩ hrec
    obtain ⟨q, qs, rfl⟩ : ∃ q t, qs = q :: t := by
     cases qs with
     | nil => cases i1
     | cons q t => exact ⟨q, t, rfl⟩
    rw [List.map_cons, List.cons.injEq] at i1
    obtain ⟨rfl, rfl⟩ := i1
    obtain ⟨hq, hqs⟩ := i2 q (by simp)
    have hA := hAll q hq
    have hS := hSeq q hq
    rw [hqs] at hS
    rw [List.flatMap_cons]
    refine zx5 (Nat.zero_le _) ?_
    (repeat (first|with_reducible (first|refine wL fun _=>?_|refine wD fun _=>?_|refine wE ?_)|simp [go_sem, GH, zbV]))
    refine zla.split 5 ?_
    have hcn : ((n : Int)).toNat = n := by omega
    repeat first|refine wV fun _=>?_|simp [go_sem, GH, hn, htk, hcn]
    refine zxQ hA (by simp [go_sem]) ?_
    repeat first|refine wV fun _=>?_|simp [go_sem, GH]
    refine zdz.mk [.fp [zcl init], .fp (zad q), .fp (zaf g)] (zbp _ [9, 10, 11]) hS (zcb _ _) ?_ (by simp [go_sem]) (fun xs hx => by obtain ⟨y, _, rfl⟩ := List.mem_map.1 hx; rfl) ?_
    ·refine zam.cons (.frzP rfl ?_ ?_ ?_ ?_) (zam.cons (.frzP rfl ?_ ?_ ?_ ?_) (zam.cons (.frzP rfl ?_ ?_ ?_ ?_) .nil)) <;> first | exact zam.refl _ _ _ _ | (simp [zbp, zbP, upd]; done)
    generalize hrest : (qs.flatMap fun q => zcD g p.side q init.reverse) = rest at *
    generalize zcD g p.side q init.reverse = ys at *
    refine Fgt.to (zx2 (α := List zag) (fun ys => ([(1, .fp [zcl acts]), (3, .fp (zaf g)), (4, .ref 0 0 1 0 0), (5, .ref 1 0 1 0 0), (1000000007, za2 l 0 ((ys ++ rest).map zbV))], [(0, .rows true 0 1 [[.fn (.yield l) [] []]]), (1, .rows true 0 1 [[.v (.int .i64 n)]])], 2))
     (fun rows ys => rows = ys.map zbV) ?_ ?_ _ ys rfl) ?_ ?_
    ·rintro ys i1
     obtain rfl : ys = [] := by
      cases ys with
      | nil => rfl
      | cons => cases i1
     refine ⟨rfl, ?_⟩
     repeat first|refine wV fun _=>?_|simp [go_sem, GH]
     refine Fgt.to (hrec qs ⟨rfl, fun z hz => i2 z (by simp [hz])⟩) ?_ (by simp)
     simp [go_sem, zah, hgh, GH, hrest]
    ·rintro xs rs ys i1 hrec2
     obtain ⟨y, ys, rfl⟩ : ∃ q t, ys = q :: t := by
      cases ys with
      | nil => cases i1
      | cons q t => exact ⟨q, t, rfl⟩
     rw [List.map_cons, List.cons.injEq] at i1
     obtain ⟨rfl, rfl⟩ := i1
     rw [List.cons_append]
     refine zx5 (Nat.le_refl _) ?_
     repeat first|refine wV fun _=>?_|simp [go_sem, GH, zbV]
     refine zpy.mk (more := 0) (xs := zbV y) (rs := (ys ++ rest).map zbV) _ (by simp [upd, GH]; rfl) (.refl _) (.refl _ _ _ _) (by simp [go_sem, zbV]) ?_ ?_
     ·repeat first|refine wV fun _=>?_|simp [go_sem, GH]
      refine Fgt.to (hrec2 ys rfl) ?_ (by simp)
      simp [go_sem, zah, hgh, hgh2, GH]
     ·repeat first|refine wV fun _=>?_|simp [go_sem, GH]
    ·simp [go_sem, zah, hgh, hgh2, GH]
    ·simp
   ·exact ⟨rfl, hok⟩
   ·simp [go_sem, zah, hgh, GH]
   ·simp
theorem nofz_A {l : List zcN} : (∀ r ∈ l.map zbc, ∀ c ∈ r, zeK c) = True := by
 refine eq_true ?_
 intro r hr c hc
 obtain ⟨x, _, rfl⟩ := List.mem_map.1 hr
 revert c
 simp [go_sem]
attribute [go_sem ↓] nofz_A
theorem zrj (m : Int) (h0 : 0 ≤ m) (h1 : m ≤ 17179869184) : zgB Tryz.prog 289 [zxT, .v (.int .i64 m)] (fun n => .sl n 0 3 0 0) (fun n => [(n, .rows true 0 3 [])]) 1 := by
 refine ⟨?_, fun n => ⟨by simp [go_sem], by simp [go_sem]⟩⟩
 by_cases hm : m = 0
 ·subst hm
  refine zxR (by kernel_rfl) Tryz.func289 rfl rfl (Nat.le_of_ble_eq_true rfl) (by kernel_rfl) ?_
  repeat first|refine wV fun _=>?_|simp [go_sem]
  simp [go_sem, zah]
 ·refine zaa.clear ?_
  refine zxR (by kernel_rfl) Tryz.func289 rfl rfl (Nat.le_of_ble_eq_true rfl) (by kernel_rfl) ?_
  repeat first|refine wV fun _=>?_|simp [go_sem]
  (refine zxN (fun hF => by first | omega | (simp at hF; omega)) (fun hF => ?_); clear hF)
  repeat first|refine wV fun _=>?_|simp [go_sem]
  (refine zxN (fun hT => ?_) (fun hT => by first | omega | (simp at hT; omega)); clear hT)
  repeat first|refine wV fun _=>?_|simp [go_sem]
  refine ⟨0, 0, 3, by decide, ⟨rfl, rfl, rfl⟩, ?_⟩
  simp [go_sem, zah]
theorem zm5 (a b : List zcN) (ha : a.length ≤ 1048576) (hb : b.length ≤ 1048576) : zgB Tryz.prog 242 [.lst 1 [[zcl a], [zcl b]]]
  (fun n => .sl n 2 3 0 (a.length + b.length)) (fun n => [(n, .rows true 2 3 ((a ++ b).map zbc))]) 1 := by
 refine ⟨?_, fun n => ⟨by simp [go_sem], by simp [go_sem]⟩⟩
 refine zxR (by kernel_rfl) Tryz.func242 rfl rfl (Nat.le_of_ble_eq_true rfl) (by kernel_rfl) ?_
 repeat first|refine wV fun _=>?_|simp [go_sem]
 refine zxS ?_
 repeat first|refine wV fun _=>?_|simp [go_sem]
 (refine zxN (fun hF => by first | omega | (simp at hF; omega)) (fun hF => ?_); clear hF)
 repeat first|refine wV fun _=>?_|simp [go_sem]
 refine zxS ?_
 repeat first|refine wV fun _=>?_|simp [go_sem]
 (refine zxN (fun hF => by first | omega | (simp at hF; omega)) (fun hF => ?_); clear hF)
 repeat first|refine wV fun _=>?_|simp [go_sem]
 refine zxS ?_
 repeat first|refine wV fun _=>?_|simp [go_sem]
 refine zxQ (zrj _ (by omega) (by omega)) (by simp [go_sem]) ?_
 repeat first|refine wV fun _=>?_|simp [go_sem]
 refine zxS ?_
 repeat first|refine wV fun _=>?_|simp [go_sem]
 refine zxS ?_
 repeat first|refine wV fun _=>?_|simp [go_sem]
 refine zxS ?_
 repeat first|refine wV fun _=>?_|simp [go_sem]
 simp [go_sem, zah]
theorem zsD (p : za1) (to : Int) (more : List zcN) (ha : p.acts.length ≤ 1048576) (hb : more.length ≤ 1048576) : zgB Tryz.prog 241 [.v (.int .i64 to), zcl more, .fp (zaE p)]
  (fun n => .agg [.sl (n + 2) 2 3 0 (p.acts.length + more.length), .v (.int .i64 to)]) (fun n => [(n + 2, .rows true 2 3 ((p.acts ++ more).map zbc))]) 3 := by
 refine ⟨?_, fun n => ⟨by simp [go_sem], by simp [go_sem]⟩⟩
 refine zxR (by kernel_rfl) Tryz.func241 rfl rfl (Nat.le_of_ble_eq_true rfl) (by kernel_rfl) ?_
 repeat first|refine wV fun _=>?_|simp [go_sem]
 refine zxZ (zm5 p.acts more ha hb) (by simp [go_sem]) (by simp [go_sem]) ?_ (by simp [go_sem]) ?_
 ·simp only [zcl]
  refine zam.cons ?_ zam.nil
  refine zaL rfl (by simp) (by simp [noH, upd]) ?_
  simp [go_sem]
 ·repeat first|refine wV fun _=>?_|simp [go_sem]
  simp [go_sem, zah]
theorem zfW (p : za1) : ∀ (l : List Int) (passed : List zcN) (c : Int), zb7 p (l ++ [c]) passed = zb7 p l passed ++ [onP p c (passed ++ l.map fun c => (3, c, 0))]
 | [], passed, c => by simp [zb7, onP]
 | d :: l, passed, c => by simp [zb7, zfW p l]
def zgn (l : List Int) : List zcN := l.map fun c => (3, c, 0)
theorem zmH (l : List Int) (c : Int) : zgn (l ++ [c]) = zgn l ++ [(3, c, 0)] := by simp [zgn]
theorem ztl (l : List Int) : (zgn l).length = l.length := by simp [zgn]
theorem zon (p : za1) (l : List Int) {i : Nat} (h : i < l.length) : zb7 p (l.take (i + 1)) [] = zb7 p (l.take i) [] ++ [onP p (nth l i) (zgn (l.take i))] ∧ zgn (l.take (i + 1)) = zgn (l.take i) ++ [(3, nth l i, 0)] := by
 rw [List.take_add_one, List.getElem?_eq_getElem h, zaB _ _ h, Option.toList_some, zfW, zmH]
 exact ⟨by simp [zgn], rfl⟩
theorem znS (b : zaF) (hb : zaW b) (h9 : b.cells ≤ 9) (side : Int) (p : za1) (hp : p.acts.length ≤ 1000000) (x : Int × Int) :
  zaS Tryz.prog 194 [.agg (zdE b), .v (.int .i64 side), .agg (zaE p), .agg [.v (.int .i64 x.1), .v (.int .i64 x.2)]] (zco (zjr b side p x)) := by
 refine pF Tryz.func194 ?_
 obtain ⟨op, N⟩ := x
 have hT := zhb b hb side N p.to
 have hL := zjf b hb side N p.to
 have hll := zkQ hb (side := side) (d := N) (c := p.to)
 have hO := fun to more (h : more.length ≤ 1048576) => zsD p to more (by omega) h
 have hE : zjr b side p (op, N) = if op = 1 ∨ op = 7 then
  if toB b side N p.to < 0 then [] else if op = 1 then [onP p (toB b side N p.to) []] else [onP p p.to [(7, p.to, toB b side N p.to)]]
  else if op = 2 then zb7 p (zg2 b side N p.to) []
  else if op = 8 ∨ op = 9 ∨ op = 10 then [onP p p.to [(op, N, 0)]]
  else [onP p p.to [(op, p.to, 0)]] := rfl
 generalize toB b side N p.to = to at *
 generalize zg2 b side N p.to = line at *
 generalize zjr b side p (op, N) = R at *
 have hbl : ∀ n, (∀ c' ∈ zdE b, Bel n c') = True := fun n => by simp [go_sem]
 have hel : (zdE b).length = 3 := rfl
 have hte : (zdE b).take 3 = zdE b := rfl
 obtain ⟨eb, heb⟩ : ∃ eb, eb = zdE b := ⟨_, rfl⟩
 rw [← heb] at hbl hel hT hL hte ⊢
 repeat first|refine wV fun _=>?_|simp [go_sem, hel, hte]
 refine zxN (fun h1 => ?_) (fun h1 => ?_) <;> simp at h1
 ·subst h1
  repeat first|refine wV fun _=>?_|simp [go_sem, hel, hte]
  refine zxM hT (by simp [go_sem, hbl]) ?_
  repeat first|refine wV fun _=>?_|simp [go_sem, hel, hte]
  refine zxN (fun ht => ?_) (fun ht => ?_) <;> simp at ht
  ·rw [if_pos (by omega), if_pos ht] at hE
   rw [hE]
   repeat first|refine wV fun _=>?_|simp [go_sem, hel, hte]
  ·rw [if_pos (by omega), if_neg (by omega), if_pos rfl] at hE
   rw [hE]
   repeat first|refine wV fun _=>?_|simp [go_sem, hel, hte]
   refine zxZ (hO to [] (by simp)) (by simp [go_sem]) (by simp [go_sem]) ?_ (by simp [go_sem]) ?_
   ·(first|done|exact leX)
   ·repeat first|refine wV fun _=>?_|simp [go_sem, hel, hte, onP]
    (first|done|exact leX)
 ·repeat first|refine wV fun _=>?_|simp [go_sem, hel, hte]
  refine zxN (fun h7 => ?_) (fun h7 => ?_) <;> simp at h7
  ·subst h7
   repeat first|refine wV fun _=>?_|simp [go_sem, hel, hte]
   refine zxM hT (by simp [go_sem, hbl]) ?_
   repeat first|refine wV fun _=>?_|simp [go_sem, hel, hte]
   refine zxN (fun ht => ?_) (fun ht => ?_) <;> simp at ht
   ·rw [if_pos (by omega), if_pos ht] at hE
    rw [hE]
    repeat first|refine wV fun _=>?_|simp [go_sem, hel, hte]
   ·rw [if_pos (by omega), if_neg (by omega), if_neg (by omega)] at hE
    rw [hE]
    repeat first|refine wV fun _=>?_|simp [go_sem, hel, hte]
    refine zxZ (hO p.to [(7, p.to, to)] (by simp)) (by simp [go_sem]) (by simp [go_sem]) ?_ (by simp [go_sem]) ?_
    ·(first|done|exact leX)
    ·repeat first|refine wV fun _=>?_|simp [go_sem, hel, hte, onP]
     (first|done|exact leX)
  ·rw [if_neg (by omega)] at hE
   repeat first|refine wV fun _=>?_|simp [go_sem, hel, hte]
   refine zxN (fun h2 => ?_) (fun h2 => ?_) <;> simp at h2
   ·subst h2
    rw [if_pos rfl] at hE
    repeat first|refine wV fun _=>?_|simp [go_sem, hel, hte]
    refine zxM hL (by simp [go_sem, hbl]) ?_
    repeat first|refine wV fun _=>?_|simp [go_sem, hel, hte]
    refine zxL (zxP (α := Nat) (fun i => ⟨[(9, .fn (.func 241) [] [.ref 1 0 2 0 0]), (11, .sl 3 i 2 0 i), (12, .sl 4 i 3 0 i), (55, zar line), (56, .v (.int .i64 line.length)), (57, .v (.int .i64 i))],
      [(1, .rows true 0 2 [zaE p]), (3, .rows true i 2 ((zb7 p (line.take i) []).map zaE)), (4, .rows true i 3 ((zgn (line.take i)).map zbc))], 5⟩)
     (fun d i => i + d = line.length) ?_ line.length 0 ?_) ?_ ?_
    ·rintro d i i1 hrec
     have hsl : (zb7 p (line.take i) []).length = i := by rw [zgr]; simp; omega
     have hpl : (zgn (line.take i)).length = i := by rw [ztl]; simp; omega
     repeat first|refine wV fun _=>?_|simp [go_sem, hel, hte]
     refine zxN (fun hi => ?_) (fun hi => ?_) <;> simp at hi
     ·obtain ⟨s1, s2⟩ := zon p line hi
      repeat first|refine wV fun _=>?_|simp [go_sem, hi]
      refine zxZ (hO (nth line i) (zgn (line.take i)) (by omega)) (by simp [go_sem]) (by simp [go_sem]) ?_ (by simp [go_sem]) ?_
      ·((try simp only [zaD, zaM, zbc, zcl, zaE, zco, zaH, zas, zad, zed, zbJ, zaP, zar, zaf, List.map_cons, List.map_nil, List.nil_append, List.append_nil, List.cons_append]); (repeat (first | (with_reducible first|exact zam.nil|exact zak.nil|exact LeV.refl _|exact zam.refl _ _ _ _|exact zak.refl _|refine zam.cons ?_ ?_|refine zak.cons ?_ ?_|refine LeV.agg ?_|refine LeV.tup ?_|refine LeV.fn ?_ ?_|exact LeV.nil _|refine zat (zak.refl _) ?_) | ((refine zaL rfl (by simp [hpl]) (by simp [zbp, zbP, upd, noH]) ?_); (first | (simp [go_sem, hpl]; done) | (simp [go_sem, hpl]; exact List.take_of_length_le (by simp [hpl])))) | ((refine LeV.frz rfl (by simp [hpl]) (by simp [zbp, zbP, upd, noH]) ?_); (simp only [List.drop_zero, List.take_succ_cons, List.take_zero, List.map_cons, List.map_nil])) | ((refine LeV.frzP rfl (by simp [hpl]) (by simp) (by simp [zbp, zbP, upd, noH]) ?_); (simp only [zbi, List.drop_zero])))))
      ·repeat first|refine wV fun _=>?_|simp [go_sem, hi, hsl, hpl]
       refine zxL (hrec (d - 1) (by omega) (i + 1) (by omega)) ?_ (by simp)
       simp [go_sem, zah, s1, s2, onP, hpl]
       ((try simp only [zaD, zaM, zbc, zcl, zaE, zco, zaH, zas, zad, zed, zbJ, zaP, zar, zaf, List.map_cons, List.map_nil, List.nil_append, List.append_nil, List.cons_append]); (repeat (first | (with_reducible first|exact zam.nil|exact zak.nil|exact LeV.refl _|exact zam.refl _ _ _ _|exact zak.refl _|refine zam.cons ?_ ?_|refine zak.cons ?_ ?_|refine LeV.agg ?_|refine LeV.tup ?_|refine LeV.fn ?_ ?_|exact LeV.nil _|refine zat (zak.refl _) ?_) | ((refine zaL rfl (by simp [hpl]) (by simp [zbp, zbP, upd, noH]) ?_); (first | (simp [go_sem, hpl]; done) | (simp [go_sem, hpl]; exact List.take_of_length_le (by simp [hpl])))) | ((refine LeV.frz rfl (by simp [hpl]) (by simp [zbp, zbP, upd, noH]) ?_); (simp only [List.drop_zero, List.take_succ_cons, List.take_zero, List.map_cons, List.map_nil])) | ((refine LeV.frzP rfl (by simp [hpl]) (by simp) (by simp [zbp, zbP, upd, noH]) ?_); (simp only [zbi, List.drop_zero])))))
     ·have hil : i = line.length := by omega
      subst hil
      rw [List.take_length] at hsl ⊢
      rw [hE]
      repeat first|refine wV fun _=>?_|simp [go_sem, hsl]
      ((try simp only [zaD, zaM, zbc, zcl, zaE, zco, zaH, zas, zad, zed, zbJ, zaP, zar, zaf, List.map_cons, List.map_nil, List.nil_append, List.append_nil, List.cons_append]); (repeat (first | (with_reducible first|exact zam.nil|exact zak.nil|exact LeV.refl _|exact zam.refl _ _ _ _|exact zak.refl _|refine zam.cons ?_ ?_|refine zak.cons ?_ ?_|refine LeV.agg ?_|refine LeV.tup ?_|refine LeV.fn ?_ ?_|exact LeV.nil _|refine zat (zak.refl _) ?_) | ((refine zaL rfl (by simp [hsl]) (by simp [zbp, zbP, upd, noH]) ?_); (first | (simp [go_sem, hsl]; done) | (simp [go_sem, hsl]; exact List.take_of_length_le (by simp [hsl])))) | ((refine LeV.frz rfl (by simp [hsl]) (by simp [zbp, zbP, upd, noH]) ?_); (simp only [List.drop_zero, List.take_succ_cons, List.take_zero, List.map_cons, List.map_nil])) | ((refine LeV.frzP rfl (by simp [hsl]) (by simp) (by simp [zbp, zbP, upd, noH]) ?_); (simp only [zbi, List.drop_zero])))))
    ·simp
    ·simp [go_sem, zah, zb7, zgn]
    ·simp
   ·rw [if_neg h2] at hE
    repeat first|refine wV fun _=>?_|simp [go_sem, hel, hte]
    refine zxN (fun h8 => ?_) (fun h8 => ?_) <;> simp at h8
    ·subst h8
     rw [if_pos (by omega)] at hE
     rw [hE]
     repeat first|refine wV fun _=>?_|simp [go_sem, hel, hte]
     refine zxZ (hO p.to [(8, N, 0)] (by simp)) (by simp [go_sem]) (by simp [go_sem]) ?_ (by simp [go_sem]) ?_
     ·(first|done|exact leX)
     ·repeat first|refine wV fun _=>?_|simp [go_sem, hel, hte, onP]
      (first|done|exact leX)
    ·repeat first|refine wV fun _=>?_|simp [go_sem, hel, hte]
     refine zxN (fun h99 => ?_) (fun h99 => ?_) <;> simp at h99
     ·subst h99
      rw [if_pos (by omega)] at hE
      rw [hE]
      repeat first|refine wV fun _=>?_|simp [go_sem, hel, hte]
      refine zxZ (hO p.to [(9, N, 0)] (by simp)) (by simp [go_sem]) (by simp [go_sem]) ?_ (by simp [go_sem]) ?_
      ·(first|done|exact leX)
      ·repeat first|refine wV fun _=>?_|simp [go_sem, hel, hte, onP]
       (first|done|exact leX)
     ·repeat first|refine wV fun _=>?_|simp [go_sem, hel, hte]
      refine zxN (fun h10 => ?_) (fun h10 => ?_) <;> simp at h10
      ·subst h10
       rw [if_pos (by omega)] at hE
       rw [hE]
       repeat first|refine wV fun _=>?_|simp [go_sem, hel, hte]
       refine zxZ (hO p.to [(10, N, 0)] (by simp)) (by simp [go_sem]) (by simp [go_sem]) ?_ (by simp [go_sem]) ?_
       ·(first|done|exact leX)
       ·repeat first|refine wV fun _=>?_|simp [go_sem, hel, hte, onP]
        (first|done|exact leX)
      ·rw [if_neg (by omega)] at hE
       rw [hE]
       repeat first|refine wV fun _=>?_|simp [go_sem, hel, hte]
       refine zxZ (hO p.to [(op, p.to, 0)] (by simp)) (by simp [go_sem]) (by simp [go_sem]) ?_ (by simp [go_sem]) ?_
       ·(first|done|exact leX)
       ·repeat first|refine wV fun _=>?_|simp [go_sem, hel, hte, onP]
        (first|done|exact leX)
def znU {α β : Type} (F : α → List β) (l : List α) (i : Nat) : List β := (l.take i).flatMap F
theorem zmc {α β : Type} [Inhabited α] (F : α → List β) (l : List α) {i : Nat} (h : i < l.length) : znU F l (i + 1) = znU F l i ++ F (nth l i) := by
 unfold znU
 rw [List.take_add_one, List.getElem?_eq_getElem h, zaB _ _ h, Option.toList_some, List.flatMap_append]
 simp
theorem zmd {α β : Type} (F : α → List β) (l : List α) : znU F l 0 = [] := by simp [znU]
theorem zhe {α β : Type} (F : α → List β) (l : List α) : znU F l l.length = l.flatMap F := by simp [znU]
theorem zkI {α β : Type} (F : α → List β) (l : List α) (i : Nat) : (znU F l i).length ≤ (l.flatMap F).length := by
 unfold znU
 conv => rhs; rw [← List.take_append_drop i l]
 rw [List.flatMap_append, List.length_append]
 omega
theorem zqr (l : List (List (Int × Int))) (hl : l.length ≤ 1048576) (f : FuncId) (caps : List AV) (F : List (Int × Int) → List za1) (hF : ∀ x ∈ l, zaS Tryz.prog f (zaD x :: caps) (zco (F x))) (hb : ∀ c ∈ caps, Bel 0 c)
  (hn : (l.flatMap F).length ≤ 8589934592) : zaS Tryz.prog 138 [.lst 1 (l.map fun p => [zaD p]), .fn (.func f) [] caps] (zco (l.flatMap F)) := by
 refine pF Tryz.func138 ?_
 rw [← zhe F l] at hn ⊢
 repeat first|refine wV fun _=>?_|simp [go_sem]
 refine zxL (zxP (α := Nat) (fun i => ⟨[(1, .fn (.func f) [] caps), (5, .sl 0 i 2 0 (znU F l i).length), (8, .lst 1 (l.map fun p => [zaD p])), (9, .v (.int .i64 l.length)), (10, .v (.int .i64 i))], [(0, .rows true i 2 ((znU F l i).map zaE))], 1⟩)
  (fun d i => i + d = l.length) ?_ l.length 0 ?_) ?_ ?_
 ·rintro d i i1 hrec
  have hni := zkI F l i
  repeat first|refine wV fun _=>?_|simp [go_sem]
  refine zxN (fun hi => ?_) (fun hi => ?_) <;> simp at hi
  ·have hs := zmc F l hi
   have hns := zkI F l (i + 1)
   rw [hs, List.length_append] at hns
   rw [zhe] at hn
   repeat first|refine wV fun _=>?_|simp [go_sem, hi]
   refine zxM (hF _ (zaj hi)) (by simp [go_sem]; exact hb) ?_
   repeat first|refine wV fun _=>?_|simp [go_sem, hi]
   refine zxL (hrec (d - 1) (by omega) (i + 1) (by omega)) ?_ (by simp)
   simp [go_sem, zah, hs]
   exact fun c hc => (hb c hc).mono (Nat.zero_le _)
  ·have hil : i = l.length := by omega
   subst hil
   generalize znU F l l.length = R at *
   repeat first|refine wV fun _=>?_|simp [go_sem]
   (first|done|exact leX)
 ·simp
 ·simp [go_sem, zah, zmd]
  exact fun c hc => (hb c hc).mono (Nat.zero_le _)
 ·simp
theorem zqq (l : List za1) (hl : l.length ≤ 1073741824) (f : FuncId) (caps : List AV) (F : za1 → List za1) (hF : ∀ x ∈ l, zaS Tryz.prog f (.agg (zaE x) :: caps) (zco (F x))) (hb : ∀ c ∈ caps, Bel 0 c)
  (hn : (l.flatMap F).length ≤ 8589934592) : zaS Tryz.prog 192 [zco l, .fn (.func f) [] caps] (zco (l.flatMap F)) := by
 refine pF Tryz.func192 ?_
 rw [← zhe F l] at hn ⊢
 repeat first|refine wV fun _=>?_|simp [go_sem]
 refine zxL (zxP (α := Nat) (fun i => ⟨[(1, .fn (.func f) [] caps), (5, .sl 0 i 2 0 (znU F l i).length), (8, zco l), (9, .v (.int .i64 l.length)), (10, .v (.int .i64 i))], [(0, .rows true i 2 ((znU F l i).map zaE))], 1⟩)
  (fun d i => i + d = l.length) ?_ l.length 0 ?_) ?_ ?_
 ·rintro d i i1 hrec
  have hni := zkI F l i
  repeat first|refine wV fun _=>?_|simp [go_sem]
  refine zxN (fun hi => ?_) (fun hi => ?_) <;> simp at hi
  ·have hs := zmc F l hi
   have hns := zkI F l (i + 1)
   rw [hs, List.length_append] at hns
   rw [zhe] at hn
   repeat first|refine wV fun _=>?_|simp [go_sem, hi]
   refine zxM (hF _ (zaj hi)) (by simp [go_sem]; exact hb) ?_
   repeat first|refine wV fun _=>?_|simp [go_sem, hi]
   refine zxL (hrec (d - 1) (by omega) (i + 1) (by omega)) ?_ (by simp)
   simp [go_sem, zah, hs]
   exact fun c hc => (hb c hc).mono (Nat.zero_le _)
  ·have hil : i = l.length := by omega
   subst hil
   generalize znU F l l.length = R at *
   repeat first|refine wV fun _=>?_|simp [go_sem]
   (first|done|exact leX)
 ·simp
 ·simp [go_sem, zah, zmd]
  exact fun c hc => (hb c hc).mono (Nat.zero_le _)
 ·simp
theorem zoe (b : zaF) (hb : zaW b) (h9 : b.cells ≤ 9) (side : Int) (p : za1) (hp : p.acts.length ≤ 1000000) (x : Int × Int) :
  zaS Tryz.prog 193 [.agg (zaE p), .fp (zdE b), .fp [.v (.int .i64 side)], .fp [.v (.int .i64 x.1), .v (.int .i64 x.2)]] (zco (zjr b side p x)) := by
 refine pF Tryz.func193 ?_
 have hE := znS b hb h9 side p hp x
 generalize zjr b side p x = R at *
 repeat first|refine wV fun _=>?_|simp [go_sem]
 refine zxM hE (by simp [go_sem]) ?_
 repeat first|refine wV fun _=>?_|simp [go_sem]
def zdL (b : zaF) (side : Int) (prog : List (Int × Int)) (cell : Int) (i : Nat) : List za1 := zcx b side (prog.take i) cell
theorem zif (b : zaF) (side : Int) (prog : List (Int × Int)) (cell : Int) {i : Nat} (h : i < prog.length) : zdL b side prog cell (i + 1) = (zdL b side prog cell i).flatMap fun w => zjr b side w (nth prog i) := by
 unfold zdL zcx
 rw [List.take_add_one, List.getElem?_eq_getElem h, zaB _ _ h, Option.toList_some, List.foldl_append]
 rfl
theorem zfn {b : zaF} (hb : zaW b) (h9 : b.cells ≤ 9) (side : Int) (prog : List (Int × Int)) (cell : Int) : ∀ i, i ≤ prog.length → zgy (10 * i) (zdL b side prog cell i)
 | 0, _ => by
  intro w hw
  simp [zdL, zcx] at hw
  subst hw
  simp
 | i + 1, h => by
  rw [zif b side prog cell (by omega)]
  exact zq3 hb h9 side (zfn hb h9 side prog cell i (by omega)) _
theorem zjN {b : zaF} (hb : zaW b) (h1 : 1 ≤ b.cells) (h9 : b.cells ≤ 9) (side : Int) (prog : List (Int × Int)) (hp : prog.length ≤ 8) (cell : Int) (i : Nat) : (zdL b side prog cell i).length ≤ 43046721 := by
 have h := zjO hb h1 side (prog.take i) cell
 have hc : zaA (prog.take i) 2 ≤ 8 := by
  unfold zaA
  have := List.countP_le_length (p := fun x : Int × Int => x.1 == 2) (l := prog.take i)
  simp at this
  omega
 have h2 : b.cells.toNat ^ zaA (prog.take i) 2 ≤ 9 ^ zaA (prog.take i) 2 := Nat.pow_le_pow_left (by omega) _
 have h3 : 9 ^ zaA (prog.take i) 2 ≤ 9 ^ 8 := Nat.pow_le_pow_right (by omega) hc
 unfold zdL
 omega
theorem zqM (b : zaF) (hb : zaW b) (h1 : 1 ≤ b.cells) (h9 : b.cells ≤ 9) (side : Int) (prog : List (Int × Int)) (hp : prog.length ≤ 8) (cell : Int) :
  zaS Tryz.prog 140 [.agg (zdE b), .v (.int .i64 side), zaD prog, .v (.int .i64 cell)] (zco (zcx b side prog cell)) := by
 refine pF Tryz.func140 ?_
 have hR : zcx b side prog cell = zdL b side prog cell prog.length := by unfold zdL; rw [List.take_length]
 have hl := zjN hb h1 h9 side prog hp cell
 have ha := zfn hb h9 side prog cell
 have hs := fun (i : Nat) (h : i < prog.length) => zif b side prog cell h
 have h0 : zdL b side prog cell 0 = [⟨[], cell⟩] := rfl
 rw [hR]
 have hP := fun w hw x => zoe b hb h9 side w hw x
 generalize zdL b side prog cell = K at *
 generalize hXb : zjr b side = E at *
 have hbl : ∀ n, (∀ c' ∈ zdE b, Bel n c') = True := fun n => by simp [go_sem]
 have hel : (zdE b).length = 3 := rfl
 have hte : (zdE b).take 3 = zdE b := rfl
 obtain ⟨eb, heb⟩ : ∃ eb, eb = zdE b := ⟨_, rfl⟩
 rw [← heb] at hbl hel hte ⊢
 have hP' : ∀ w : za1, w.acts.length ≤ 1000000 → ∀ x : Int × Int, zaS Tryz.prog 193 [.agg (zaE w), .fp eb, .fp [.v (.int .i64 side)], .fp [.v (.int .i64 x.1), .v (.int .i64 x.2)]] (zco (E w x)) := fun w hw x => by rw [heb]; exact hP w hw x
 clear hP
 repeat first|refine wV fun _=>?_|simp [go_sem, hel, hte]
 refine zxL (zxP (α := Nat) (fun i => ⟨[(4, .ref 0 0 3 0 0), (5, .ref 1 0 1 0 0), (9, zco (K i)), (15, zaD prog), (16, .v (.int .i64 prog.length)), (17, .v (.int .i64 i))], [(0, .rows false 0 3 [eb]), (1, .rows false 0 1 [[.v (.int .i64 side)]])], 2⟩)
  (fun d i => i + d = prog.length) ?_ prog.length 0 ?_) ?_ ?_
 ·rintro d i i1 hrec
  have hli := hl i
  repeat first|refine wV fun _=>?_|simp [go_sem, hel, hte]
  refine zxN (fun hi => ?_) (fun hi => ?_) <;> simp at hi
  ·have hsi := hs i hi
   have hls := hl (i + 1)
   have hai := ha i (by omega)
   repeat first|refine wV fun _=>?_|simp [go_sem, hel, hte, hi]
   refine zxW [2] (zqq (K i) (by omega) 193 [.fp eb, .fp [.v (.int .i64 side)], .fp [.v (.int .i64 (nth prog i).1), .v (.int .i64 (nth prog i).2)]] (fun w => E w (nth prog i)) (fun w hw => hP' w (by have := hai w hw; omega) _) (by simp [go_sem, hbl]) (by rw [← hsi]; omega)) ?_ (by simp [go_sem, hbl]) ?_
   ·(first|done|exact leX)
   ·rw [← hsi]
    repeat first|refine wV fun _=>?_|simp [go_sem, hel, hte]
    refine zxL (hrec (d - 1) (by omega) (i + 1) (by omega)) ?_ (by simp)
    simp [go_sem, zah, hbl]
  ·have hil : i = prog.length := by omega
   subst hil
   generalize K prog.length = R at *
   repeat first|refine wV fun _=>?_|simp [go_sem]
 ·simp
 ·simp [go_sem, zah, h0, hbl]
  (first|done|exact leX)
 ·simp
end Go.Av
end
