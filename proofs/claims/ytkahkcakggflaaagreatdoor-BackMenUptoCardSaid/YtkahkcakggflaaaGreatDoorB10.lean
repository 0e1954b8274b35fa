/- Texts of ours, part 10: our library and contracts of functions. -/
import Derived.Test.YtkahkcakggflaaaGreatDoorB09
set_option linter.unusedSimpArgs false
set_option linter.unusedVariables false
set_option maxRecDepth 100000
set_option maxHeartbeats 40000000
section
open Go Go.Proofs
namespace Go.Av
def znD : List AV := [.v (.slice none 0 0), .v (.slice none 0 0), .v (.slice none 0 0), .v (.int .i64 0), .v (.int .i64 0)]
theorem zmy (l : List zaj) (gn : Nat) (hl : l.length ≤ 17179869184) (hf : ∀ o ∈ l, za0 o) :
  ziQ Tryz.prog 141 [.sl 0 gn 5 0 l.length, .fn (.func 142) [] []] [(0, .rows true gn 5 (l.map zad))] 1
   (.sl 0 gn 5 0 (zbw l).length) [(0, .rows true gn 5 ((zbw l).map zad ++ List.replicate (l.length - (zbw l).length) znD))] 1 := by
 unfold ziQ
 by_cases h2 : l.length < 2
 ·rw [zjR h2]
  refine zBp (by kernel_rfl) Tryz.func141 rfl rfl (Nat.le_of_ble_eq_true rfl) (by kernel_rfl) ?_
  repeat first|with_reducible refine wV fun _=>?_|simp [go_sem]
  (refine zBo (fun hT => ?_) (fun hT => by first | omega | (simp at hT; omega)); clear hT)
  repeat first|with_reducible refine wV fun _=>?_|simp [go_sem]
  simp [go_sem, zah]
 obtain ⟨D, hD⟩ : ∃ D, D = zbw l := ⟨_, rfl⟩
 rw [← hD]
 have hE : ∀ i j, i < l.length → j < l.length → zaC Tryz.prog 142 [.agg (zad (nth l i)), .agg (zad (nth l j))] (.v (.bool (decide (nth l i = nth l j)))) :=
  fun i j hi hj => zrc _ _ (hf _ (zan hi)) (hf _ (zan hj))
 refine zBp (by kernel_rfl) Tryz.func141 rfl rfl (Nat.le_of_ble_eq_true rfl) (by kernel_rfl) ?_
 repeat first|with_reducible refine wV fun _=>?_|simp [go_sem]
 (refine zBo (fun hF => by first | omega | (simp at hF; omega)) (fun hF => ?_); clear hF)
 repeat first|with_reducible refine wV fun _=>?_|simp [go_sem]
 refine zBm (zBr (α := Nat) (fun j => ⟨[(0, .sl 0 gn 5 0 l.length), (1, .fn (.func 142) [] []), (5, .v (.int .i64 j))], [(0, .rows true gn 5 (l.map zad))], 1⟩)
  (fun d j => 1 ≤ j ∧ j + d = l.length ∧ D = l.take j ++ zbn (nth l (j - 1)) (l.drop j)) ?_ (l.length - 1) 1 ?_) ?_ ?_
 ·rintro d j ⟨i1, i2, i3⟩ hrec
  have e1 : ((j : Int) - 1).toNat = j - 1 := by omega
  repeat first|with_reducible refine wV fun _=>?_|simp [go_sem]
  refine zBo (fun hj => ?_) (fun hj => ?_) <;> simp at hj
  ·have hj' : j - 1 < l.length := by omega
   rw [zaO hj, zbn] at i3
   repeat first|with_reducible refine wV fun _=>?_|simp [go_sem, hj, hj', e1]
   refine zBq (hE j (j - 1) hj hj') (by simp [go_sem]) ?_
   repeat first|with_reducible refine wV fun _=>?_|simp [go_sem, hj, hj', e1]
   by_cases he : nth l j = nth l (j - 1)
   ·rw [if_pos he] at i3
    repeat first|with_reducible refine wV fun _=>?_|simp [go_sem, he, hj, hj', e1]
    refine zBm (zBr (α := Nat × List zaj × Nat) (fun a => ⟨[(0, .sl 0 gn 5 0 l.length), (1, .fn (.func 142) [] []), (5, .v (.int .i64 a.2.2)), (6, .sl 0 gn 5 j (l.length - j)), (7, .v (.int .i64 a.1))], [(0, .rows true gn 5 (a.2.1.map zad))], 1⟩)
     (fun d a => 1 ≤ a.1 ∧ j + a.1 + d = l.length ∧ a.2.1.length = l.length ∧ a.2.2 ≤ j + a.1 - 1 ∧ a.2.1.drop (j + a.1 - 1) = l.drop (j + a.1 - 1) ∧ D = a.2.1.take a.2.2 ++ zbn (nth l (j + a.1 - 1)) (l.drop (j + a.1))) ?_ (l.length - j - 1) (1, l, j) ?_) ?_ ?_
    ·rintro d2 ⟨k2, R, k⟩ ⟨j1, j2, j3, j4, j5, j6⟩ hrec2
     simp only at j1 j2 j3 j4 j5 j6
     have e2 : ((k2 : Int) - 1).toNat = k2 - 1 := by omega
     have e3 : j + (k2 - 1) = j + k2 - 1 := by omega
     have hRn : ∀ m, j + k2 - 1 ≤ m → m < l.length → nth R m = nth l m := fun m h1 h2 => by
      have h3 : (R.drop (j + k2 - 1))[m - (j + k2 - 1)]? = (l.drop (j + k2 - 1))[m - (j + k2 - 1)]? := by rw [j5]
      rw [List.getElem?_drop, List.getElem?_drop, show j + k2 - 1 + (m - (j + k2 - 1)) = m by omega, List.getElem?_eq_getElem (by omega), List.getElem?_eq_getElem h2] at h3
      rw [zaJ _ _ (by omega), zaJ _ _ h2]
      exact Option.some.inj h3
     repeat first|with_reducible refine wV fun _=>?_|simp [go_sem, j3]
     refine zBo (fun hk => ?_) (fun hk => ?_) <;> simp at hk
     ·have hk1 : j + k2 < l.length := by omega
      have hk0 : j + k2 - 1 < l.length := by omega
      have hr1 := hRn (j + k2) (by omega) hk1
      have hr0 := hRn (j + k2 - 1) (by omega) hk0
      rw [zaO hk1, zbn] at j6
      have hk2 : k2 - 1 < l.length - j := by omega
      have hk3 : k < l.length := by omega
      repeat first|with_reducible refine wV fun _=>?_|simp [go_sem, j3, hk, hk1, hk0, hr1, hr0, e2, e3, hk2]
      refine zBq (hE (j + k2) (j + k2 - 1) hk1 hk0) (by simp [go_sem]) ?_
      repeat first|with_reducible refine wV fun _=>?_|simp [go_sem, j3, hk, hk1, hk0, hr1, hr0, e2, e3, hk2]
      by_cases hc : nth l (j + k2) = nth l (j + k2 - 1)
      ·rw [if_pos hc] at j6
       repeat first|with_reducible refine wV fun _=>?_|simp [go_sem, hc]
       refine zBm (hrec2 (d2 - 1) (by omega) (k2 + 1, R, k) ⟨by simp only; omega, by simp only; omega, j3, by simp only; omega, ?_, ?_⟩) ?_ (by simp)
       ·have := congrArg (List.drop 1) j5
        rw [List.drop_drop, List.drop_drop] at this
        rw [show j + (k2 + 1) - 1 = j + k2 - 1 + 1 by omega]
        exact this
       ·simp only
        rw [show j + (k2 + 1) - 1 = j + k2 by omega, hc]
        exact j6
       ·simp [go_sem, zah]
      ·rw [if_neg hc] at j6
       repeat first|with_reducible refine wV fun _=>?_|simp [go_sem, hc, j3, hk, hk1, hk0, hr1, hr0, e2, e3, hk2, hk3]
       refine zBm (hrec2 (d2 - 1) (by omega) (k2 + 1, R.set k (nth l (j + k2)), k + 1) ⟨by simp only; omega, by simp only; omega, by simpa using j3, by simp only; omega, ?_, ?_⟩) ?_ (by simp)
       ·have := congrArg (List.drop 1) j5
        rw [List.drop_drop, List.drop_drop] at this
        simp only
        rw [show j + (k2 + 1) - 1 = j + k2 - 1 + 1 by omega, List.drop_set, if_pos (by omega)]
        exact this
       ·simp only
        rw [show j + (k2 + 1) - 1 = j + k2 by omega, List.take_add_one, List.take_set_of_le (by omega), List.getElem?_set_self (by omega), Option.toList_some, List.append_assoc]
        exact j6
       ·have hb : ∀ n, ∀ r ∈ ((R.set k (nth l (j + k2))).map zad), ∀ c ∈ r, Bel n c := fun n => of_eq_true ztk
        rw [List.map_set] at hb
        simp [go_sem, zah, List.map_set]
        exact hb 1
     ·rw [List.drop_eq_nil_of_le (by omega), zbn, List.append_nil] at j6
      have hDl : D.length = k := by rw [j6, List.length_take]; omega
      have hd0 : List.drop (k + (l.length - k)) (R.map zad) = [] := List.drop_eq_nil_of_le (by simp; omega)
      have hDm : D.map zad = List.take k (R.map zad) := by rw [j6, List.map_take]
      repeat first|with_reducible refine wV fun _=>?_|simp [go_sem]
      simp [go_sem, zah, hd0, hDl, hDm, znD]
      exact fun x hx => of_eq_true (ztk (n := 1) (l := R)) x (List.mem_of_mem_take hx)
    ·refine ⟨Nat.le_refl _, by simp only; omega, rfl, by simp only; omega, rfl, ?_⟩
     simp only
     rw [Nat.add_sub_cancel, he]
     exact i3
    ·simp [go_sem, zah]
    ·simp
   ·rw [if_neg he] at i3
    repeat first|with_reducible refine wV fun _=>?_|simp [go_sem, he, hj, hj', e1]
    refine zBm (hrec (d - 1) (by omega) (j + 1) ⟨by omega, by omega, ?_⟩) ?_ (by simp)
    ·rw [i3, Nat.add_sub_cancel, List.take_add_one, List.getElem?_eq_getElem hj, zaJ _ _ hj, Option.toList_some, List.append_assoc]; rfl
    ·simp [go_sem, zah]
  ·rw [List.drop_eq_nil_of_le hj, List.take_of_length_le hj, zbn, List.append_nil] at i3
   rw [i3]
   repeat first|with_reducible refine wV fun _=>?_|simp [go_sem]
   simp [go_sem, zah]
 ·refine ⟨Nat.le_refl _, by omega, ?_⟩
  cases l with
  | nil => simp at h2
  | cons a l => rw [hD]; rfl
 ·simp [go_sem, zah]
 ·simp
theorem zgE {n : Nat} (l : List zaj) : ∀ r ∈ l.map zad, ∀ c ∈ r, Bel n c := of_eq_true ztk
theorem zm2 (l : List zaj) (gn : Nat) (hl : l.length ≤ 17179869184) (hf : ∀ o ∈ l, za0 o) {h : zav} {n o : Nat} (ho : h o = some (.rows true gn 5 (l.map zad))) (hon : o < n) {K : zcS}
  (hK : K (.sl o gn 5 0 (zbw l).length) (upd h o (some (.rows true gn 5 ((zbw l).map zad ++ List.replicate (l.length - (zbw l).length) znD)))) n) :
  zaa Tryz.prog 141 [.sl o gn 5 0 l.length, .fn (.func 142) [] []] h n K := by
 have hz : ∀ m, ∀ r ∈ (zbw l).map zad ++ List.replicate (l.length - (zbw l).length) znD, ∀ c ∈ r, Bel m c := by
  intro m r hr c hc
  rcases List.mem_append.1 hr with hr | hr
  ·exact zgE _ r hr c hc
  ·rw [List.eq_of_mem_replicate hr] at hc
   simp only [znD, List.mem_cons, List.not_mem_nil, or_false] at hc
   rcases hc with rfl | rfl | rfl | rfl | rfl <;> exact .v _
 refine zBG (args' := [.sl o gn 5 0 l.length, .fn (.func 142) [] []]) (HH := [(o, .rows true gn 5 ((zbw l).map zad ++ List.replicate (l.length - (zbw l).length) znD))])
  [o] h (zmy l gn hl hf) (by simp) (by simpa using hon) rfl (Nat.le_refl _) (.refl _) ?_ ?_ (.refl _ _ _ _) ?_ ?_ ?_ (.sl rfl) ?_ ?_
 ·intro j hj
  obtain rfl : j = 0 := by omega
  exact ⟨_, _, rfl, ho, .rows (.same (zgE _))⟩
 ·intro p hp
  simp only [List.mem_singleton] at hp
  subst hp
  exact ⟨Nat.le_of_ble_eq_true rfl, zgE _⟩
 ·intro y hy
  simp only [List.mem_cons, List.not_mem_nil, or_false] at hy
  rcases hy with rfl | rfl
  ·exact .sl hon
  ·simp [go_sem]
 ·exact .cons (.sl rfl) (.cons (.same (by simp [go_sem])) .nil)
 ·intro y hy
  simp only [List.mem_cons, List.not_mem_nil, or_false] at hy
  rcases hy with rfl | rfl
  ·exact .sl (by decide)
  ·simp [go_sem]
 ·exact .cons rfl (.rows (.same (hz 0))) .nil
 ·have e : zd7 [(o, .rows true gn 5 ((zbw l).map zad ++ List.replicate (l.length - (zbw l).length) znD))] (zml [o] h) = upd h o (some (.rows true gn 5 ((zbw l).map zad ++ List.replicate (l.length - (zbw l).length) znD))) := by
   funext j
   simp only [zd7, zml, upd]
   by_cases j1 : j = o
   ·simp [j1]
   ·simp [j1]
  rw [e, Nat.sub_self, Nat.add_zero]
  exact hK
theorem zlg (l : List zaj) (gn m : Nat) (hm : l.length = m) (hl : m ≤ 17179869184) (hf : ∀ o ∈ l, za0 o) {h : zav} {n o : Nat} (ho : h o = some (.rows true gn 5 (l.map zad))) (hon : o < n) {K : zcS}
  (hK : K (.sl o gn 5 0 (zbw l).length) (upd h o (some (.rows true gn 5 ((zbw l).map zad ++ List.replicate (l.length - (zbw l).length) znD)))) n) :
  zaa Tryz.prog 141 [.sl o gn 5 0 m, .fn (.func 142) [] []] h n K := by
 subst hm
 exact zm2 l gn hl hf ho hon hK
theorem zA8 : Go.Sort.SWO (fun a b : zaj => decide (zbB a b < 0)) := by
 refine ⟨fun x => ?_, fun x y z h1 h2 => ?_, fun x y z h1 h2 => ?_⟩
 ·have := zbd.swap x x
  simp; omega
 ·simp only [decide_eq_true_eq] at h1 h2 ⊢
  have t := zbd.tr x y z (by omega) (by omega)
  rcases Int.lt_or_eq_of_le t with h | h
  ·exact h
  ·have e := (zbd.eq _ _).1 h
   subst e
   have := zbd.swap x y
   omega
 ·simp only [decide_eq_false_iff_not] at h1 h2 ⊢
  have s1 := zbd.swap x y
  have s2 := zbd.swap y z
  have s3 := zbd.swap x z
  have t := zbd.tr z y x (by omega) (by omega)
  omega
theorem zun (l : List zaj) (hf : ∀ o ∈ l, za0 o) (hl : l.length < 4611686018427387904) {h : zav} {n o gn : Nat} (ho : h o = some (.rows true gn 5 (l.map zad))) {K : zcS}
  (hK : K (.tup []) (upd h o (some (.rows true gn 5 ((zcN zbB l).map zad)))) n) :
  zaa Tryz.prog 140 [.sl o gn 5 0 l.length, .fn (.func 42) [] []] h n K := by
 refine zBL zsortP (k := 5) (by omega) Tryz.isAgg45 Tryz.sizeOf45 zad (fun _ => rfl) ?_ (fun o => za0 o) zbB zA8 _ (fun x y hx hy => zbL x y hx hy) ?_ l hf hl ho ?_
 ·intro x
  simp [go_sem]
 ·exact (zbL default default (by unfold za0 zeS; decide) (by unfold za0 zeS; decide)).1
 ·intro l' hp hs
  have : zcN zbB l = l' := zfU zbd hp (hs.imp fun {a b} hab => by
   have := zbd.swap a b
   simp only [leC, decide_eq_true_eq]
   omega)
  rw [← this]
  exact hK
theorem zpI (l : List zaj) (hl : l.length ≤ 17179869184) : zgp Tryz.prog 139 [zaz l] (fun n => .sl n 1 5 0 l.length) (fun n => [(n, .rows true 1 5 (l.map zad))]) 1 := by
 refine ⟨?_, fun n => ⟨by simp [go_sem], by simp [go_sem]⟩⟩
 refine zBR (fun hne => ?_) (fun he A c => ?_)
 ·obtain ⟨x, l, rfl⟩ := List.exists_cons_of_ne_nil (show l ≠ [] by intro h; subst h; exact hne rfl)
  simp only [List.length_cons] at hl
  refine zBp (by kernel_rfl) Tryz.func139 rfl rfl (Nat.le_of_ble_eq_true rfl) (by kernel_rfl) ?_
  repeat first|with_reducible refine wV fun _=>?_|simp [go_sem]
  simp [go_sem, zah]
 ·obtain rfl : l = [] := by simpa using he
  refine zBp (by kernel_rfl) Tryz.func139 rfl rfl (Nat.le_of_ble_eq_true rfl) (by kernel_rfl) ?_
  repeat first|with_reducible refine wV fun _=>?_|simp [go_sem]
  refine zBo (fun h => ?_) (fun h => ?_)
  ·simp at h
   subst h
   simp [go_sem, zah]
  ·simp [go_sem, zah]
theorem zdP (l : List zaj) (hl : l.length ≤ 17179869184) (hf : ∀ p ∈ l, za0 p) : zaC Tryz.prog 76 [zaz l] (zaz (zbp zbB l)) := by
 refine pF Tryz.func76 ?_
 have hC := zpI l hl
 repeat first|with_reducible refine wV fun _=>?_|simp [go_sem]
 refine zBs hC (by simp [go_sem]) ?_
 repeat first|with_reducible refine wV fun _=>?_|simp [go_sem]
 refine zun l hf (by omega) (o := 0) (gn := 1) (by simp [upd]) ?_
 repeat first|with_reducible refine wV fun _=>?_|simp [go_sem]
 refine zlg (zcN zbB l) 1 l.length (zeK l) (by omega) (fun p hp => hf p (zeL.1 hp)) (o := 0) (by simp [upd]) (by omega) ?_
 repeat first|with_reducible refine wV fun _=>?_|simp [go_sem]
 exact zam rfl (by simp) (by simp [noH, upd]) (by rw [List.drop_zero]; exact List.take_left' (by simp))
theorem zwW (g : zaf) (hg : GOk g) (p : zaj) (hp : POk g p) (cell i : Int) (hc : zcn g p cell i) {h : zav} {n a b : Nat} (hd : [a, b].Nodup) (hlt : ∀ j ∈ [a, b], j < n)
  (ha : h a = some (.rows true 0 5 [zad p])) (hb : h b = some (.rows true 0 1 [[zBu]])) {K : zcS}
  (hK : K (.v (.int .i64 0)) (upd (upd (upd h a (some (.rows true 0 5 [zad p]))) b (some (.rows true 0 1 [[.sl (n + 245) (zdG g p cell i).length 6 0 (zdG g p cell i).length]]))) (n + 245) (some (.rows true (zdG g p cell i).length 6 ((zdG g p cell i).map zat)))) (n + 246)) :
  zaa Tryz.prog 119 [.agg (zab g), .agg (zad p), .v (.int .i64 cell), .v (.int .i64 i), .fn (.func 120) [] [.ref a 0 5 0 0, .ref b 0 1 0 0]] h n K := by
 have hbg : ∀ m, Bel m (.agg (zab g)) := fun m => by simp [go_sem]
 have hbp : ∀ m, ∀ c ∈ zad p, Bel m c := fun m => by simp [go_sem]
 have hbq : ∀ m, Bel m (.agg (zad p)) := fun m => by simp [go_sem]
 have han := hlt a (by simp)
 have hbn := hlt b (by simp)
 have hrows : ∀ m, ∀ r ∈ [zad p], ∀ c ∈ r, Bel m c := fun m r hr => by simp only [List.mem_singleton] at hr; subst hr; exact hbp m
 refine zBG (args' := [.agg (zab g), .agg (zad p), .v (.int .i64 cell), .v (.int .i64 i), .fn (.func 120) [] [.ref a 0 5 0 0, .ref b 0 1 0 0]])
  (HH := [(a, .rows true 0 5 [zad p]), (b, .rows true 0 1 [[.sl (n + 245) (zdG g p cell i).length 6 0 (zdG g p cell i).length]]), (n + 245, .rows true (zdG g p cell i).length 6 ((zdG g p cell i).map zat))])
  [a, b] h (zy9 g hg p hp cell i hc) hd hlt rfl (by omega) (.refl _) ?_ ?_ (.refl _ _ _ _) ?_ ?_ ?_ (.same (.v _)) ?_ ?_
 ·intro j hj
  rcases (show j = 0 ∨ j = 1 by omega) with rfl | rfl
  ·exact ⟨_, _, rfl, ha, .rows (.same (hrows _))⟩
  ·exact ⟨_, _, rfl, hb, .rows (.same (by simp [go_sem]))⟩
 ·intro q hq
  simp only [List.mem_cons, List.not_mem_nil, or_false] at hq
  rcases hq with rfl | rfl
  ·exact ⟨Nat.le_of_ble_eq_true rfl, hrows _⟩
  ·exact ⟨Nat.le_of_ble_eq_true rfl, by simp [go_sem, zzK]⟩
 ·simp [go_sem, han, hbn]
 ·exact .cons (.same (hbg _)) (.cons (.same (hbq _)) (.cons (.same (.v _)) (.cons (.same (.v _)) (.cons (.fn .nil (.cons (.ref rfl) (.cons (.ref rfl) .nil))) .nil))))
 ·simp [go_sem]
 ·exact .cons rfl (.rows (.same (hrows _))) (.cons rfl (.rows (.cons (.cons (.sl rfl) .nil) .nil)) (.cons rfl (.rows (.same (zcU _))) .nil))
 ·have e : zd7 [(a, .rows true 0 5 [zad p]), (b, .rows true 0 1 [[.sl (n + 245) (zdG g p cell i).length 6 0 (zdG g p cell i).length]]), (n + 245, .rows true (zdG g p cell i).length 6 ((zdG g p cell i).map zat))] (zml [a, b] h) =
    upd (upd (upd h a (some (.rows true 0 5 [zad p]))) b (some (.rows true 0 1 [[.sl (n + 245) (zdG g p cell i).length 6 0 (zdG g p cell i).length]]))) (n + 245) (some (.rows true (zdG g p cell i).length 6 ((zdG g p cell i).map zat))) := by
   simp only [List.nodup_cons, List.mem_cons, List.not_mem_nil, or_false, not_or, List.nodup_nil, and_true, not_false_eq_true] at hd
   have na : a ≠ n + 245 := by omega
   have nb : b ≠ n + 245 := by omega
   funext j
   simp only [zd7, zml, upd]
   by_cases j1 : j = a
   ·subst j1; simp [hd, na]
   ·by_cases j2 : j = b
    ·subst j2; simp [j1, nb]
    ·by_cases j3 : j = n + 245
     ·subst j3; simp [j1, j2]
     ·simp [j1, j2, j3]
  rw [e]
  exact hK
theorem zuf (g : zaf) (hg : GOk g) (p : zaj) (hp : POk g p) (cell i : Int) (hc : zcn g p cell i) :
  zaC Tryz.prog 61 [.agg (zab g), .agg (zad p), .v (.int .i64 cell), .v (.int .i64 i)] (.tup [za9 (zds g p cell i), .v (.int .i64 0)]) := by
 refine pF Tryz.func61 ?_
 have hl := (zjc hg hp hc)
 have hll : (zdG g p cell i).length ≤ 100000000 := Nat.le_trans (List.length_filterMap_le _ _) hl.2
 have hf : ∀ o ∈ zdG g p cell i, za0 o.pos := by
  intro o ho
  obtain ⟨s, hs, h⟩ := List.mem_filterMap.1 ho
  exact (zwV hg (hl.1 s hs).1 hp.s h).1.fits hg
 have hr : zds g p cell i = zbp ziu (zdG g p cell i) := rfl
 rw [hr]
 repeat first|with_reducible refine wV fun _=>?_|simp [go_sem]
 refine zwW g hg p hp cell i hc (a := 1) (b := 2) (by decide) (by simp) (by simp [upd, zad, zas]) (by simp [upd]) ?_
 generalize zdG g p cell i = l at *
 repeat first|with_reducible refine wV fun _=>?_|simp [go_sem]
 refine zuo l hf (by omega) (o := 248) (gn := l.length) (by simp [upd]) ?_
 repeat first|with_reducible refine wV fun _=>?_|simp [go_sem]
 refine zlh (zcN ziu l) l.length l.length (zeK l) (by omega) (fun o ho => hf o (zeL.1 ho)) (o := 248) (by simp [upd]) (by omega) ?_
 repeat first|with_reducible refine wV fun _=>?_|simp [go_sem]
 exact zam rfl (by simp) (by simp [noH, upd]) (by rw [List.drop_zero]; exact List.take_left' (by simp))
theorem zrd (g : zaf) (hg : GOk g) (p : zaj) (hp : POk g p) : zaC Tryz.prog 77 [.agg (zab g), .agg (zad p)] (zaz (zcK g p)) := by
 refine pF Tryz.func77 ?_
 have hal := hp.al
 have c9 := hg.c9
 have k6 := hg.k6
 have hcp := zhu ⟨p, 0, 0, false⟩ (hp.fits hg)
 have hl0 := hp.h0.len
 have hl1 := hp.h1.len
 have hps := hp.s
 rcases hp.s with hsd | hsd
 ·have hsn : p.side.toNat = 0 := by omega
  repeat first|with_reducible refine wV fun _=>?_|simp [go_sem, hsn, hsd]
  refine zBm (zBr (α := Nat) (fun k => ⟨[(3, .ref 1 0 5 0 0), (5, .sl 2 (zbE g p k).length 5 0 (zbE g p k).length), (15, zas p.h0), (16, .v (.int .i64 p.h0.length)), (17, .v (.int .i64 k))], [(1, .rows true 0 5 [zad p]), (2, .rows true (zbE g p k).length 5 ((zbE g p k).map zad))], 3⟩)
   (fun d k => k + d = g.kinds.length) ?_ g.kinds.length 0 ?_) ?_ ?_
  ·rintro d k k1 hrec
   repeat first|with_reducible refine wV fun _=>?_|simp [go_sem]
   refine zBo (fun hk => ?_) (fun hk => ?_) <;> simp at hk
   ·have hz := zgI g p k
    have ha := zhV g p k
    have hkh : k < p.h0.length := by omega
    have hhv := hp.h0.v k hkh
    repeat first|with_reducible refine wV fun _=>?_|simp [go_sem, hkh]
    refine zBm (zBr (α := Nat) (fun c => ⟨[(3, .ref 1 0 5 0 0), (5, .sl 2 (zcJ g p k c).length 5 0 (zcJ g p k c).length), (6, .v (.int .i64 k)), (7, .v (.int .i64 (nth p.h0 k))), (15, zas p.h0), (16, .v (.int .i64 p.h0.length)), (17, .v (.int .i64 k)), (23, zas p.at_), (24, .v (.int .i64 p.at_.length)), (25, .v (.int .i64 c))], [(1, .rows true 0 5 [zad p]), (2, .rows true (zcJ g p k c).length 5 ((zcJ g p k c).map zad))], 3⟩)
     (fun d c => c + d = p.at_.length) ?_ p.at_.length 0 ?_) ?_ ?_
    ·rintro d2 c c1 hrec2
     repeat first|with_reducible refine wV fun _=>?_|simp [go_sem]
     refine zBo (fun hci => ?_) (fun hci => ?_) <;> simp at hci
     ·have hD : zfA g p k c = if nth (p.hand p.side) k = 0 ∨ nth p.at_ c ≠ 0 then none
       else some { ({ p with at_ := p.at_.set c (zaD k p.side) }.withHand p.side ((p.hand p.side).set k (nth (p.hand p.side) k - 1))) with side := 1 - p.side } := rfl
      have hD' : zfA g p k c = if nth p.h0 k = 0 ∨ nth p.at_ c ≠ 0 then none else some { p with at_ := p.at_.set c (zaD k p.side), h0 := p.h0.set k (nth p.h0 k - 1), side := 1 - p.side } := by
       rw [hD]; simp [zaj.hand, zaj.withHand, hsd]
      have hCd := zdO (k : Int) p.side
      rw [hsd] at hCd hD'
      repeat first|with_reducible refine wV fun _=>?_|simp [go_sem, hci]
      refine zBo (fun hcc => ?_) (fun hcc => ?_) <;> simp at hcc
      ·rw [if_pos (by omega)] at hD'
       have hsu := zcw g p k c
       rw [hD'] at hsu
       simp only [Option.toList_none, List.append_nil] at hsu
       repeat first|with_reducible refine wV fun _=>?_|simp [go_sem]
       refine zBm (hrec2 (d2 - 1) (by omega) (c + 1) (by omega)) ?_ (by simp)
       simp [go_sem, zah, hsd, hsu]
      ·rw [if_neg (by omega)] at hD'
       have hsu := zcw g p k c
       rw [hD'] at hsu
       simp only [Option.toList_some] at hsu
       have hcl := zf3 g p k c
       have hkm : k * p.at_.length ≤ 6 * 9 := Nat.mul_le_mul (by omega) (by omega)
       repeat first|with_reducible refine wV fun _=>?_|simp [go_sem, hci]
       refine zBs hcp (by simp [go_sem]) ?_
       repeat first|with_reducible refine wV fun _=>?_|simp [go_sem, hci, hsd]
       refine zBq hCd (by simp [go_sem]) ?_
       repeat first|with_reducible refine wV fun _=>?_|simp [go_sem, hsn, hsd, hci, hkh]
       refine zBm (hrec2 (d2 - 1) (by omega) (c + 1) (by omega)) ?_ (by simp)
       simp [go_sem, zah, hsd, hsu]
       (first|done|exact rwX)
     ·have hcl : c = p.at_.length := by omega
      subst hcl
      rw [ha]
      repeat first|with_reducible refine wV fun _=>?_|simp [go_sem]
      refine zBm (hrec (d - 1) (by omega) (k + 1) (by omega)) ?_ (by simp)
      simp [go_sem, zah, hsd]
    ·omega
    ·simp [go_sem, zah, hsd, hz]
    ·simp
   ·have hkl : k = g.kinds.length := by omega
    subst hkl
    have hdl := zeB g p g.kinds.length
    have hkm : g.kinds.length * p.at_.length ≤ 6 * 9 := Nat.mul_le_mul k6 (by omega)
    have hS := zdP (zbE g p g.kinds.length) (by omega) (fun q hq => by
     rw [zf4] at hq
     obtain ⟨k, hk, hq⟩ := List.mem_flatMap.1 hq
     obtain ⟨c, hc, hq⟩ := List.mem_filterMap.1 hq
     exact (zi6 hg hp (by simpa using hk) hq).1.fits hg)
    rw [show zbp zbB (zbE g p g.kinds.length) = zcK g p from rfl] at hS
    generalize zbE g p g.kinds.length = l at *
    generalize zcK g p = r at *
    repeat first|with_reducible refine wV fun _=>?_|simp [go_sem]
    refine zBt [2] hS ?_ (zxq (zce _)) ?_
    ·(first|done|exact agX)
    ·repeat first|with_reducible refine wV fun _=>?_|simp [go_sem]
  ·omega
  ·simp [go_sem, zah, hsd, show zbE g p 0 = [] from rfl]
  ·simp
 ·have hsn : p.side.toNat = 1 := by omega
  repeat first|with_reducible refine wV fun _=>?_|simp [go_sem, hsn, hsd]
  refine zBm (zBr (α := Nat) (fun k => ⟨[(3, .ref 1 0 5 0 0), (5, .sl 2 (zbE g p k).length 5 0 (zbE g p k).length), (15, zas p.h1), (16, .v (.int .i64 p.h1.length)), (17, .v (.int .i64 k))], [(1, .rows true 0 5 [zad p]), (2, .rows true (zbE g p k).length 5 ((zbE g p k).map zad))], 3⟩)
   (fun d k => k + d = g.kinds.length) ?_ g.kinds.length 0 ?_) ?_ ?_
  ·rintro d k k1 hrec
   repeat first|with_reducible refine wV fun _=>?_|simp [go_sem]
   refine zBo (fun hk => ?_) (fun hk => ?_) <;> simp at hk
   ·have hz := zgI g p k
    have ha := zhV g p k
    have hkh : k < p.h1.length := by omega
    have hhv := hp.h1.v k hkh
    repeat first|with_reducible refine wV fun _=>?_|simp [go_sem, hkh]
    refine zBm (zBr (α := Nat) (fun c => ⟨[(3, .ref 1 0 5 0 0), (5, .sl 2 (zcJ g p k c).length 5 0 (zcJ g p k c).length), (6, .v (.int .i64 k)), (7, .v (.int .i64 (nth p.h1 k))), (15, zas p.h1), (16, .v (.int .i64 p.h1.length)), (17, .v (.int .i64 k)), (23, zas p.at_), (24, .v (.int .i64 p.at_.length)), (25, .v (.int .i64 c))], [(1, .rows true 0 5 [zad p]), (2, .rows true (zcJ g p k c).length 5 ((zcJ g p k c).map zad))], 3⟩)
     (fun d c => c + d = p.at_.length) ?_ p.at_.length 0 ?_) ?_ ?_
    ·rintro d2 c c1 hrec2
     repeat first|with_reducible refine wV fun _=>?_|simp [go_sem]
     refine zBo (fun hci => ?_) (fun hci => ?_) <;> simp at hci
     ·have hD : zfA g p k c = if nth (p.hand p.side) k = 0 ∨ nth p.at_ c ≠ 0 then none
       else some { ({ p with at_ := p.at_.set c (zaD k p.side) }.withHand p.side ((p.hand p.side).set k (nth (p.hand p.side) k - 1))) with side := 1 - p.side } := rfl
      have hD' : zfA g p k c = if nth p.h1 k = 0 ∨ nth p.at_ c ≠ 0 then none else some { p with at_ := p.at_.set c (zaD k p.side), h1 := p.h1.set k (nth p.h1 k - 1), side := 1 - p.side } := by
       rw [hD]; simp [zaj.hand, zaj.withHand, hsd]
      have hCd := zdO (k : Int) p.side
      rw [hsd] at hCd hD'
      repeat first|with_reducible refine wV fun _=>?_|simp [go_sem, hci]
      refine zBo (fun hcc => ?_) (fun hcc => ?_) <;> simp at hcc
      ·rw [if_pos (by omega)] at hD'
       have hsu := zcw g p k c
       rw [hD'] at hsu
       simp only [Option.toList_none, List.append_nil] at hsu
       repeat first|with_reducible refine wV fun _=>?_|simp [go_sem]
       refine zBm (hrec2 (d2 - 1) (by omega) (c + 1) (by omega)) ?_ (by simp)
       simp [go_sem, zah, hsd, hsu]
      ·rw [if_neg (by omega)] at hD'
       have hsu := zcw g p k c
       rw [hD'] at hsu
       simp only [Option.toList_some] at hsu
       have hcl := zf3 g p k c
       have hkm : k * p.at_.length ≤ 6 * 9 := Nat.mul_le_mul (by omega) (by omega)
       repeat first|with_reducible refine wV fun _=>?_|simp [go_sem, hci]
       refine zBs hcp (by simp [go_sem]) ?_
       repeat first|with_reducible refine wV fun _=>?_|simp [go_sem, hci, hsd]
       refine zBq hCd (by simp [go_sem]) ?_
       repeat first|with_reducible refine wV fun _=>?_|simp [go_sem, hsn, hsd, hci, hkh]
       refine zBm (hrec2 (d2 - 1) (by omega) (c + 1) (by omega)) ?_ (by simp)
       simp [go_sem, zah, hsd, hsu]
       (first|done|exact rwX)
     ·have hcl : c = p.at_.length := by omega
      subst hcl
      rw [ha]
      repeat first|with_reducible refine wV fun _=>?_|simp [go_sem]
      refine zBm (hrec (d - 1) (by omega) (k + 1) (by omega)) ?_ (by simp)
      simp [go_sem, zah, hsd]
    ·omega
    ·simp [go_sem, zah, hsd, hz]
    ·simp
   ·have hkl : k = g.kinds.length := by omega
    subst hkl
    have hdl := zeB g p g.kinds.length
    have hkm : g.kinds.length * p.at_.length ≤ 6 * 9 := Nat.mul_le_mul k6 (by omega)
    have hS := zdP (zbE g p g.kinds.length) (by omega) (fun q hq => by
     rw [zf4] at hq
     obtain ⟨k, hk, hq⟩ := List.mem_flatMap.1 hq
     obtain ⟨c, hc, hq⟩ := List.mem_filterMap.1 hq
     exact (zi6 hg hp (by simpa using hk) hq).1.fits hg)
    rw [show zbp zbB (zbE g p g.kinds.length) = zcK g p from rfl] at hS
    generalize zbE g p g.kinds.length = l at *
    generalize zcK g p = r at *
    repeat first|with_reducible refine wV fun _=>?_|simp [go_sem]
    refine zBt [2] hS ?_ (zxq (zce _)) ?_
    ·(first|done|exact agX)
    ·repeat first|with_reducible refine wV fun _=>?_|simp [go_sem]
  ·omega
  ·simp [go_sem, zah, hsd, show zbE g p 0 = [] from rfl]
  ·simp
theorem zjO (f : Int → Bool) (l : List Int) {i : Nat} (h : i < l.length) : (l.take (i + 1)).countP f = (l.take i).countP f + (if f (nth l i) then 1 else 0) := by
 rw [List.take_add_one, List.getElem?_eq_getElem h, zaJ _ _ h, Option.toList_some, List.countP_append]
 simp [List.countP_cons]
theorem ziA {α : Type} [Inhabited α] (f : α → Bool) (l : List α) {i : Nat} (hi : i < l.length) (hb : ∀ j, j < i → f (nth l j) = false) (h : f (nth l i) = true) : l.findIdx? f = some i := by
 rw [List.findIdx?_eq_some_iff_getElem]
 refine ⟨hi, by rw [← zaJ _ _ hi]; exact h, fun j hj => ?_⟩
 have := hb j hj
 rw [zaJ _ _ (by omega)] at this
 simp [this]
theorem ziz {α : Type} [Inhabited α] (f : α → Bool) (l : List α) (hb : ∀ j, j < l.length → f (nth l j) = false) : l.findIdx? f = none := by
 rw [List.findIdx?_eq_none_iff]
 intro x hx
 obtain ⟨j, hj, rfl⟩ := List.getElem_of_mem hx
 have := hb j hj
 rwa [zaJ _ _ hj] at this
def zkX (p : zaj) (side : Int) (K : Nat) (j : Nat) : List Int := (List.range K).map fun (k : Nat) => (((p.at_.take j).countP (zgK p side k) : Nat) : Int)
theorem zm1 (p : zaj) (side : Int) (K j : Nat) : (zkX p side K j).length = K := by simp [zkX]
theorem znq (p : zaj) (side : Int) (K j : Nat) {k : Nat} (hk : k < K) : nth (zkX p side K j) k = (((p.at_.take j).countP (zgK p side k) : Nat) : Int) := by
 rw [zaJ _ _ (by rw [zm1]; exact hk)]; simp [zkX]
theorem zop {p : zaj} {side : Int} {K j : Nat} (hj : j < p.at_.length) : zkX p side K (j + 1) = (List.range K).map fun (k : Nat) => (((p.at_.take j).countP (zgK p side k) + (if zgK p side k (nth p.at_ j) then 1 else 0) : Nat) : Int) := by
 unfold zkX
 refine List.map_congr_left fun k _ => ?_
 rw [zjO _ _ hj]
theorem zAt {p : zaj} {side : Int} {K j : Nat} (hj : j < p.at_.length) (h : ∀ k : Nat, zgK p side k (nth p.at_ j) = false) : zkX p side K (j + 1) = zkX p side K j := by
 rw [zop hj]
 unfold zkX
 refine List.map_congr_left fun k _ => ?_
 rw [h k]; simp
theorem zyl {p : zaj} {side : Int} {K j m : Nat} (hj : j < p.at_.length) (hm : m < K) (h : ∀ k : Nat, zgK p side k (nth p.at_ j) = decide (k = m)) :
  zkX p side K (j + 1) = (zkX p side K j).set m (nth (zkX p side K j) m + 1) := by
 rw [zop hj]
 refine List.ext_getElem (by simp [zkX]) fun k h1 h2 => ?_
 have hk : k < K := by simpa using h1
 rw [List.getElem_set]
 by_cases e : m = k
 ·subst e
  rw [if_pos rfl, znq _ _ _ _ hk]
  simp [h]
 ·rw [if_neg e]
  simp [zkX, h, Ne.symm e]
def zeY (g : zaf) (p : zaj) (side : Int) : List Int := zkX p side g.kinds.length p.at_.length
theorem zkl (g : zaf) (p : zaj) (side : Int) {k : Nat} (hk : k < g.kinds.length) : nth (zeY g p side) k = zr4 p side k := by
 unfold zeY; rw [znq _ _ _ _ hk, List.take_length]; rfl
theorem zxb {m s : Int} (h0 : 0 ≤ m) (hs : s = 0 ∨ s = 1) : (1 + 2 * m + s - 1).tmod 2 = s ∧ (1 + 2 * m + s - 1).tdiv 2 = m := by
 rw [Int.tmod_eq_emod_of_nonneg (by omega), Int.tdiv_eq_ediv_of_nonneg (by omega)]
 omega
theorem zls (g : zaf) (hg : GOk g) (p : zaj) (hp : POk g p) (side : Int) (hsd : side = 0 ∨ side = 1) :
  zaC Tryz.prog 329 [.agg (zab g), .agg (zad p), .v (.int .i64 side)] (zas (zeY g p side)) := by
 refine pF Tryz.func329 ?_
 have hal := hp.al
 have c9 := hg.c9
 have k6 := hg.k6
 have hall := fun j => zm1 p side g.kinds.length j
 have hz : List.replicate g.kinds.length [AV.v (.int .i64 0)] = (zkX p side g.kinds.length 0).map zb6 := by
  refine List.ext_getElem (by simp [zkX]) fun k h1 h2 => ?_
  simp [zkX, zb6]
 repeat first|with_reducible refine wV fun _=>?_|simp [go_sem]
 refine zBm (zBr (α := Nat) (fun j => ⟨[(2, .v (.int .i64 side)), (7, .sl 2 0 1 0 g.kinds.length), (15, zas p.at_), (16, .v (.int .i64 p.at_.length)), (17, .v (.int .i64 j))], [(2, .rows true 0 1 ((zkX p side g.kinds.length j).map zb6))], 3⟩)
  (fun d j => j + d = p.at_.length) ?_ p.at_.length 0 ?_) ?_ ?_
 ·rintro d j j1 hrec
  repeat first|with_reducible refine wV fun _=>?_|simp [go_sem]
  refine zBo (fun hj => ?_) (fun hj => ?_) <;> simp at hj
  ·have hat := hp.at (i := j) (by omega)
   have hman := zaU hat.1 hat.2 hg.k6
   have hM : ∀ k : Nat, zgK p side k (nth p.at_ j) = (decide (0 ≤ (zaq (nth p.at_ j)).1) && decide ((zaq (nth p.at_ j)).2 = side) && (decide ((k : Int) < 0) || decide ((zaq (nth p.at_ j)).1 = k))) := fun k => rfl
   have hno := zAt (p := p) (side := side) (K := g.kinds.length) hj
   have hyes := fun m => zyl (p := p) (side := side) (K := g.kinds.length) (m := m) hj
   rcases hman with ⟨h0, hm⟩ | ⟨h0, hm0, hmk, hms, he⟩
   ·rw [hm] at hM
    have hno := hno (fun k => by rw [hM]; simp)
    repeat first|with_reducible refine wV fun _=>?_|simp [go_sem, hj, h0]
    refine zBm (hrec (d - 1) (by omega) (j + 1) (by omega)) ?_ (by simp)
    simp [go_sem, zah, hno]
   ·have ht := zxb hm0 hms
    rw [← he] at ht
    have hpos : 0 < nth p.at_ j := by omega
    by_cases hs : (zaq (nth p.at_ j)).2 = side
    ·obtain ⟨m, hmm⟩ : ∃ m : Nat, (zaq (nth p.at_ j)).1 = m := ⟨(zaq (nth p.at_ j)).1.toNat, by omega⟩
     rw [hmm] at ht hmk
     have hmk' : m < g.kinds.length := by omega
     have hyes := hyes m hmk' (fun k => by rw [hM, hmm, decide_eq_true hs]; by_cases e : k = m <;> simp [e] <;> omega)
     have hb : 0 ≤ nth (zkX p side g.kinds.length j) m ∧ nth (zkX p side g.kinds.length j) m ≤ 9 := by
      rw [znq _ _ _ _ hmk']
      have : (p.at_.take j).countP (zgK p side m) ≤ (p.at_.take j).length := List.countP_le_length
      rw [List.length_take] at this
      omega
     have hlm : m < (zkX p side g.kinds.length j).length := by rw [hall]; exact hmk'
     rw [hs] at ht
     repeat first|with_reducible refine wV fun _=>?_|simp [go_sem, hj, hpos, ht.1, ht.2, hlm, hall, hmk']
     refine zBm (hrec (d - 1) (by omega) (j + 1) (by omega)) ?_ (by simp)
     simp [go_sem, zah, hyes, List.map_set, zb6]
    ·have hno := hno (fun k => by rw [hM, decide_eq_false hs]; simp)
     repeat first|with_reducible refine wV fun _=>?_|simp [go_sem, hj, hpos, ht.1, ht.2, hs]
     refine zBm (hrec (d - 1) (by omega) (j + 1) (by omega)) ?_ (by simp)
     simp [go_sem, zah, hno]
  ·have e : j = p.at_.length := by omega
   subst e
   repeat first|with_reducible refine wV fun _=>?_|simp [go_sem]
   exact zam rfl (by simp [hall]) (by simp [noH, upd]) (by simp [zeY]; exact List.take_of_length_le (by simp [hall]))
 ·omega
 ·simp [go_sem, zah, hz]
 ·simp
end Go.Av
end
section
/- Contracts: play.conditions, play.ended. -/
open Go Go.Proofs
namespace Go.Av
theorem zAT {g : zaf} (hg : GOk g) {p : zaj} (hp : POk g p) (s k : Int) : zr4 p s k ≤ 9 := Nat.le_trans List.countP_le_length (by have := hg.c9; have := hp.al; omega)
theorem zjP (g : zaf) (p : zaj) (side : Int) : (zeY g p side).length = g.kinds.length := zm1 _ _ _ _
theorem zr7 (m : Int) (s side : Int) : ∀ K : Nat, 0 ≤ m → ((List.range K).map fun (k : Nat) => if (decide (0 ≤ m) && decide (s = side) && (decide ((k : Int) < 0) || decide (m = k))) = true then (1 : Nat) else 0).sum = if m < K ∧ s = side then 1 else 0
 | 0, h => by simp; omega
 | K + 1, h => by
  rw [List.range_succ, List.map_append, List.sum_append, zr7 m s side K h]
  have e : (if (decide (0 ≤ m) && decide (s = side) && (decide ((K : Int) < 0) || decide (m = K))) = true then (1 : Nat) else 0) = if s = side ∧ m = K then 1 else 0 := by
   have : ¬ (K : Int) < 0 := by omega
   simp [h, this]
  simp only [List.map_cons, List.map_nil, List.sum_cons, List.sum_nil, e, Nat.add_zero]
  by_cases hs : s = side
  ·by_cases h1 : m < K
   ·rw [if_pos ⟨h1, hs⟩, if_neg (by omega), if_pos ⟨by omega, hs⟩]
   ·by_cases h2 : m = K
    ·rw [if_neg (by omega), if_pos ⟨hs, h2⟩, if_pos ⟨by omega, hs⟩, Nat.zero_add]
    ·rw [if_neg (by omega), if_neg (by omega), if_neg (by omega)]
  ·rw [if_neg (by simp [hs]), if_neg (by simp [hs]), if_neg (by simp [hs])]
theorem zny : ∀ l : List Nat, (l.map fun _ => 0).sum = 0
 | [] => rfl
 | _ :: l => by simp [zny l]
theorem zw9 (f h : Nat → Nat) : ∀ l : List Nat, (l.map fun k => f k + h k).sum = (l.map f).sum + (l.map h).sum
 | [] => rfl
 | k :: l => by simp [zw9 f h l]; omega
theorem zwz {K : Nat} (hK : K ≤ 6) (side : Int) : ∀ l : List Int, (∀ c ∈ l, 0 ≤ c ∧ c ≤ 2 * K) →
  ((List.range K).map fun (k : Nat) => l.countP fun c => decide (0 ≤ (zaq c).1) && decide ((zaq c).2 = side) && (decide ((k : Int) < 0) || decide ((zaq c).1 = k))).sum =
   l.countP fun c => decide (0 ≤ (zaq c).1) && decide ((zaq c).2 = side) && (decide ((-1 : Int) < 0) || decide ((zaq c).1 = -1))
 | [], _ => by simp [zny]
 | c :: l, h => by
  have ih := zwz hK side l (fun x hx => h x (by simp [hx]))
  simp only [List.countP_cons]
  rw [zw9, ih]
  congr 1
  have hc := h c (by simp)
  rcases zaU hc.1 hc.2 hK with ⟨h0, hm⟩ | ⟨h0, hm0, hmk, hms, he⟩
  ·rw [hm]; simp [zny]
  ·rw [zr7 _ _ _ _ hm0]
   by_cases hs : (zaq c).2 = side
   ·simp [hs, hm0, hmk]
   ·simp [hs]
theorem zAU {g : zaf} (hg : GOk g) {p : zaj} (hp : POk g p) (side : Int) : ((List.range g.kinds.length).map fun (k : Nat) => zr4 p side k).sum = zr4 p side (-1) :=
 zwz hg.k6 side p.at_ hp.av
section
variable (g : zaf) (hg : GOk g) (p : zaj) (hp : POk g p) (c : Int × Int × Int × Int) (hc : zf0 g.cells g.kinds.length c)
theorem ztu (hg : GOk g) (hp : POk g p) (hc : zf0 g.cells g.kinds.length c) (h1 : c.1 = 1) : zaC Tryz.prog 328 [.agg (zab g), .agg (zad p), .agg (za8 c)] (.v (.bool (zdE c p))) := by
 refine pF Tryz.func328 ?_
 have hC := zls g hg p hp p.side hp.s
 have hl := zjP g p p.side
 have hk := hc.kind
 have hck : c.2.1.toNat < (zeY g p p.side).length := by omega
 have hn := zkl g p p.side (k := c.2.1.toNat) (by omega)
 rw [show ((c.2.1.toNat : Nat) : Int) = c.2.1 by omega] at hn
 have he : zdE c p = decide (nth (zeY g p p.side) c.2.1.toNat = 0) := by
  unfold zdE; rw [if_pos h1, hn]; simp
 rw [he]
 generalize zeY g p p.side = l at *
 obtain ⟨c0, c1, c2, c3⟩ := c
 simp only at hk hck
 repeat first|with_reducible refine wV fun _=>?_|simp [go_sem]
 refine zBq hC (by simp [go_sem]) ?_
 repeat first|with_reducible refine wV fun _=>?_|simp [go_sem, hck]
theorem ztv (hg : GOk g) (hp : POk g p) (hc : zf0 g.cells g.kinds.length c) (h1 : c.1 = 2) : zaC Tryz.prog 330 [.agg (zab g), .agg (zad p), .agg (za8 c)] (.v (.bool (zdE c p))) := by
 refine pF Tryz.func330 ?_
 have hal := hp.al
 have hps := hp.s
 have hn := hc.n
 have hcd := hn.2.1 h1
 have hci : c.2.2.1.toNat < p.at_.length := by omega
 have he : zdE c p = decide (nth p.at_ c.2.2.1.toNat = zaD c.2.1 (1 - p.side)) := by
  unfold zdE; rw [if_neg (by omega), if_pos h1]
 rw [he]
 have hC := zdO c.2.1 (1 - p.side)
 obtain ⟨c0, c1, c2, c3⟩ := c
 simp only at hcd hci hC hn
 generalize zaD c1 (1 - p.side) = code at *
 repeat first|with_reducible refine wV fun _=>?_|simp [go_sem, hci]
 refine zBq hC (by simp [go_sem]) ?_
 repeat first|with_reducible refine wV fun _=>?_|simp [go_sem, hci]
theorem ztw (hg : GOk g) (hp : POk g p) (hc : zf0 g.cells g.kinds.length c) (h1 : c.1 = 3) : zaC Tryz.prog 331 [.agg (zab g), .agg (zad p), .agg (za8 c)] (.v (.bool (zdE c p))) := by
 refine pF Tryz.func331 ?_
 have hC := zls g hg p hp p.side hp.s
 have hl := zjP g p p.side
 have k6 := hg.k6
 have hnn := fun (k : Nat) hk => zkl g p p.side (k := k) hk
 have hle := fun k : Nat => zAT hg hp p.side k
 have hall := zAU hg hp p.side
 obtain ⟨S, hS⟩ : ∃ S : Nat → Nat, S = fun i => ((List.range i).map fun (k : Nat) => zr4 p p.side k).sum := ⟨_, rfl⟩
 have hS0 : S 0 = 0 := by rw [hS]; rfl
 have hSs : ∀ i, S (i + 1) = S i + zr4 p p.side i := fun i => by rw [hS]; simp [List.range_succ]
 have hSK : S g.kinds.length = zr4 p p.side (-1) := by rw [hS]; exact hall
 have hSb : ∀ i, S i ≤ 9 * i := fun i => by
  induction i with
  | zero => omega
  | succ i ih => rw [hSs]; have := hle i; omega
 have he : zdE c p = decide ((S g.kinds.length : Int) ≤ c.2.2.1) := by
  unfold zdE; rw [if_neg (by omega), if_neg (by omega), hSK]
 rw [he]
 clear hS
 generalize zeY g p p.side = l at *
 obtain ⟨c0, c1, c2, c3⟩ := c
 repeat first|with_reducible refine wV fun _=>?_|simp [go_sem]
 refine zBn hC (by simp [go_sem]) ?_
 repeat first|with_reducible refine wV fun _=>?_|simp [go_sem]
 refine zBm (zBr (α := Nat) (fun i => ⟨[(5, .ref 2 0 4 0 0), (7, .v (.int .i64 (S i))), (14, zas l), (15, .v (.int .i64 l.length)), (16, .v (.int .i64 i))], [(2, .rows true 0 4 [za8 (c0, c1, c2, c3)])], 3⟩)
  (fun d i => i + d = l.length) ?_ l.length 0 ?_) ?_ ?_
 ·rintro d i i1 hrec
  repeat first|with_reducible refine wV fun _=>?_|simp [go_sem]
  refine zBo (fun hi => ?_) (fun hi => ?_) <;> simp at hi
  ·have h2 := hnn i (by omega)
   have h3 := hle i
   have h4 := hSb i
   have h5 := hSs i
   repeat first|with_reducible refine wV fun _=>?_|simp [go_sem, hi]
   refine zBm (hrec (d - 1) (by omega) (i + 1) (by omega)) ?_ (by simp)
   simp [go_sem, zah, h5, h2]
  ·have e : i = l.length := by omega
   subst e
   rw [hl]
   repeat first|with_reducible refine wV fun _=>?_|simp [go_sem]
 ·omega
 ·simp [go_sem, zah, hS0]
 ·simp
end
def zfj (g : zaf) (p : zaj) : Int × Bool := if 0 ≤ zcp g p then ((nth g.clauses (zcp g p).toNat).2.2.2, true) else (0, false)
theorem zng : glbs.lookup 0 = some [.v .nilFunc, .fn (.func 328) [] [], .fn (.func 330) [] [], .fn (.func 331) [] []] := rfl
theorem zlM (g : zaf) (hg : GOk g) (p : zaj) (hp : POk g p) : zaC Tryz.prog 74 [.agg (zab g), .agg (zad p)] (.tup [.v (.int .i64 (zfj g p).1), .v (.bool (zfj g p).2)]) := by
 refine pF Tryz.func74 ?_
 have hcn := hg.cn
 repeat first|with_reducible refine wV fun _=>?_|simp [go_sem]
 refine zBm (zBr (α := Nat) (fun i => ⟨[(2, .ref 0 0 9 0 0), (3, .ref 1 0 5 0 0), (9, .lst 4 (g.clauses.map za8)), (10, .v (.int .i64 g.clauses.length)), (11, .v (.int .i64 i))], [(0, .rows true 0 9 [zab g]), (1, .rows true 0 5 [zad p])], 2⟩)
  (fun d i => i + d = g.clauses.length ∧ ∀ j, j < i → zdE (nth g.clauses j) p = false) ?_ g.clauses.length 0 ?_) ?_ ?_
 ·rintro d i ⟨i1, i2⟩ hrec
  repeat first|with_reducible refine wV fun _=>?_|simp [go_sem]
  refine zBo (fun hi => ?_) (fun hi => ?_) <;> simp at hi
  ·have hcl := hg.cl _ (zan hi)
   have hfi : zdE (nth g.clauses i) p = true → zfj g p = ((nth g.clauses i).2.2.2, true) := fun hc => by
    have he : zcp g p = i := by unfold zcp; rw [ziA (fun c => zdE c p) g.clauses hi i2 hc]
    unfold zfj
    rw [he, if_pos (by omega)]; simp
   have h1 := ztu g p _ hg hp hcl
   have h2 := ztv g p _ hg hp hcl
   have h3 := ztw g p _ hg hp hcl
   have hcond := hcl.cond
   obtain ⟨c, hcc⟩ : ∃ c, c = nth g.clauses i := ⟨_, rfl⟩
   rw [← hcc] at hfi h1 h2 h3 hcond
   have fin : ∀ b, zdE c p = b → b = false → ∀ j, j < i + 1 → zdE (nth g.clauses j) p = false := by
    intro b hb hf j hj
    rcases Nat.lt_or_ge j i with h | h
    ·exact i2 j h
    ·obtain rfl : j = i := by omega
     rw [← hcc, hb, hf]
   obtain ⟨c0, c1, c2, c3⟩ := c
   generalize hcb : zdE (c0, c1, c2, c3) p = b at *
   simp only at hcond hfi
   rcases hcond with rfl | rfl | rfl
   ·have hC := h1 rfl
    repeat first|with_reducible refine wV fun _=>?_|simp [go_sem, hi, ← hcc, zng]
    refine zBq hC (by simp [go_sem]) ?_
    repeat first|with_reducible refine wV fun _=>?_|simp [go_sem]
    cases b
    ·repeat first|with_reducible refine wV fun _=>?_|simp [go_sem]
     refine zBm (hrec (d - 1) (by omega) (i + 1) ⟨by omega, fin _ rfl rfl⟩) ?_ (by simp)
     simp [go_sem, zah]
    ·rw [hfi rfl]
     repeat first|with_reducible refine wV fun _=>?_|simp [go_sem]
   ·have hC := h2 rfl
    repeat first|with_reducible refine wV fun _=>?_|simp [go_sem, hi, ← hcc, zng]
    refine zBq hC (by simp [go_sem]) ?_
    repeat first|with_reducible refine wV fun _=>?_|simp [go_sem]
    cases b
    ·repeat first|with_reducible refine wV fun _=>?_|simp [go_sem]
     refine zBm (hrec (d - 1) (by omega) (i + 1) ⟨by omega, fin _ rfl rfl⟩) ?_ (by simp)
     simp [go_sem, zah]
    ·rw [hfi rfl]
     repeat first|with_reducible refine wV fun _=>?_|simp [go_sem]
   ·have hC := h3 rfl
    repeat first|with_reducible refine wV fun _=>?_|simp [go_sem, hi, ← hcc, zng]
    refine zBq hC (by simp [go_sem]) ?_
    repeat first|with_reducible refine wV fun _=>?_|simp [go_sem]
    cases b
    ·repeat first|with_reducible refine wV fun _=>?_|simp [go_sem]
     refine zBm (hrec (d - 1) (by omega) (i + 1) ⟨by omega, fin _ rfl rfl⟩) ?_ (by simp)
     simp [go_sem, zah]
    ·rw [hfi rfl]
     repeat first|with_reducible refine wV fun _=>?_|simp [go_sem]
  ·have he : zcp g p = -1 := by unfold zcp; rw [ziz (fun c => zdE c p) g.clauses (fun j hj => i2 j (by omega))]
   have he' : zfj g p = (0, false) := by unfold zfj; rw [he]; rfl
   rw [he']
   repeat first|with_reducible refine wV fun _=>?_|simp [go_sem]
 ·exact ⟨by simp, fun j hj => by omega⟩
 ·simp [go_sem, zah]
 ·simp
end Go.Av
end
section
open Go Go.Proofs
namespace Go.Av
def zuh (o : zcu) : List AV := [.agg (zat o)]
theorem zlL {n j : Nat} (h : j < n) : (List.range n).drop j = j :: (List.range n).drop (j + 1) := by
 rw [List.drop_eq_getElem_cons (by simpa using h)]; simp
theorem zwM (g : zaf) (hg : GOk g) (p : zaj) (hp : POk g p) : znM Tryz.prog 137 [.fp (zad p), .fp (zab g)] 0 ((zdC g p).map zuh) := by
 refine zBH (by kernel_rfl) Tryz.func137 rfl rfl (Nat.le_of_ble_eq_true rfl) (by kernel_rfl) (fun l => ?_) (hm2 := by decide)
 have hal := hp.al
 have c9 := hg.c9
 have k6 := hg.k6
 have hgb : ∀ (n : Nat) (L : List zcu), Bel n (zbi l 0 (L.map zuh)) := fun n L => by
  simp only [zbi, zru, zmv, List.forall_mem_cons, zxw, zck]
  simp [go_sem, zuh]
 obtain ⟨oF, hoF⟩ : ∃ oF : Nat → List zcu, oF = fun j => ((List.range p.at_.length).drop j).flatMap (zdk g p) := ⟨_, rfl⟩
 have ho0 : zdC g p = oF 0 := by rw [hoF]; rfl
 have hos : ∀ j, j < p.at_.length → oF j = zdk g p j ++ oF (j + 1) := fun j hj => by rw [hoF]; simp only; rw [zlL hj, List.flatMap_cons]
 have hon : oF p.at_.length = [] := by rw [hoF]; simp only; rw [List.drop_eq_nil_of_le (by simp)]; rfl
 rw [ho0]
 clear hoF ho0
 repeat first|with_reducible refine wV fun _=>?_|simp [go_sem, GH]
 refine zBm (zBr (α := Nat) (fun j => ⟨[(0, .fn (.yield l) [] []), (1, .fp (zad p)), (2, .fp (zab g)), (14, zas p.at_), (15, .v (.int .i64 p.at_.length)), (16, .v (.int .i64 j)), (1000000007, zbi l 0 ((oF j).map zuh))], [], 0⟩)
  (fun d j => j + d = p.at_.length) ?_ p.at_.length 0 ?_) ?_ ?_
 ·rintro d j j1 hrec
  repeat first|with_reducible refine wV fun _=>?_|simp [go_sem, GH]
  refine zBo (fun hj => ?_) (fun hj => ?_) <;> simp at hj
  ·have hat := hp.at (i := j) (by omega)
   have hman := zaU hat.1 hat.2 hg.k6
   have hO := zfI (nth p.at_ j)
   have hoj := hos j hj
   have hoa : zdk g p j = if 0 ≤ (zaq (nth p.at_ j)).1 ∧ (zaq (nth p.at_ j)).2 = p.side then (List.range (nth g.kinds (zaq (nth p.at_ j)).1.toNat).progs.length).flatMap fun (i : Nat) => zds g p j i else [] := rfl
   have hrp : ∀ i : Nat, i < (nth g.kinds (zaq (nth p.at_ j)).1.toNat).progs.length → 0 ≤ (zaq (nth p.at_ j)).1 → (zaq (nth p.at_ j)).2 = p.side → zcn g p j i := fun i hi h1 h2 =>
    ⟨by omega, by omega, h1, h2, by omega, by simpa using hi⟩
   have hRun : ∀ i : Nat, i < (nth g.kinds (zaq (nth p.at_ j)).1.toNat).progs.length → 0 ≤ (zaq (nth p.at_ j)).1 → (zaq (nth p.at_ j)).2 = p.side → _ := fun i hi h1 h2 => zuf g hg p hp j i (hrp i hi h1 h2)
   have hrl := fun (i : Nat) hi h1 h2 => zkB hg hp (hrp i hi h1 h2)
   clear hrp
   generalize zaq (nth p.at_ j) = m at *
   obtain ⟨mk, ms⟩ := m
   simp only at hoa hRun hman hO hrl
   repeat first|with_reducible refine wV fun _=>?_|simp [go_sem, hj, GH]
   refine zBn hO (by simp [go_sem]) ?_
   repeat first|with_reducible refine wV fun _=>?_|simp [go_sem, GH]
   refine zBo (fun hc => ?_) (fun hc => ?_) <;> simp at hc
   ·have hz : zdk g p j = [] := by rw [hoa, if_neg (by omega)]
    rw [hz, List.nil_append] at hoj
    rw [hoj]
    repeat first|with_reducible refine wV fun _=>?_|simp [go_sem, GH]
    refine zBm (hrec (d - 1) (by omega) (j + 1) (by omega)) ?_ (by simp)
    simp [go_sem, zah, hgb, GH]
   ·rw [if_pos (by omega)] at hoa
    have hmk : mk.toNat < g.kinds.length := by
     simp only [Prod.mk.injEq] at hman
     omega
    have hn8 := hg.pn _ (zan hmk)
    obtain ⟨np, hnp⟩ : ∃ np, np = (nth g.kinds mk.toNat).progs.length := ⟨_, rfl⟩
    rw [← hnp] at hoa hRun hn8 hrl
    obtain ⟨pF, hpF⟩ : ∃ pF : Nat → List zcu, pF = fun i => ((List.range np).drop i).flatMap (fun (i : Nat) => zds g p j i) ++ oF (j + 1) := ⟨_, rfl⟩
    have hp0 : oF j = pF 0 := by rw [hpF, hoj, hoa]; rfl
    have hps : ∀ i, i < np → pF i = zds g p j i ++ pF (i + 1) := fun i hi => by rw [hpF]; simp only; rw [zlL hi, List.flatMap_cons, List.append_assoc]
    have hpn : pF np = oF (j + 1) := by rw [hpF]; simp only; rw [List.drop_eq_nil_of_le (by simp)]; rfl
    rw [hp0]
    clear hpF hp0 hoa hoj
    repeat first|with_reducible refine wV fun _=>?_|simp [go_sem, GH, hmk, ← hnp]
    refine zBm (zBr (α := Nat) (fun i => ⟨[(0, .fn (.yield l) [] []), (1, .fp (zad p)), (2, .fp (zab g)), (4, .v (.int .i64 j)), (14, zas p.at_), (15, .v (.int .i64 p.at_.length)), (16, .v (.int .i64 j)), (40, .v (.int .i64 np)), (41, .v (.int .i64 i)), (1000000007, zbi l 0 ((pF i).map zuh))], [], 0⟩)
     (fun d i => i + d = np) ?_ np 0 ?_) ?_ ?_
    ·rintro d2 i i1 hrec2
     repeat first|with_reducible refine wV fun _=>?_|simp [go_sem, GH]
     refine zBo (fun hi => ?_) (fun hi => ?_) <;> simp at hi
     ·have hR := hRun i hi (by omega) (by omega)
      have hpi := hps i hi
      obtain ⟨rs, hrs⟩ : ∃ rs, rs = zds g p j i := ⟨_, rfl⟩
      have hrl' := hrl i hi (by omega) (by omega)
      rw [← hrs] at hR hpi hrl'
      obtain ⟨rF, hrF⟩ : ∃ rF : Nat → List zcu, rF = fun t => rs.drop t ++ pF (i + 1) := ⟨_, rfl⟩
      have hr0 : pF i = rF 0 := by rw [hrF, hpi]; rfl
      have hrt : ∀ t, t < rs.length → rF t = nth rs t :: rF (t + 1) := fun t ht => by rw [hrF]; simp only; rw [zaO ht]; rfl
      have hrn : rF rs.length = pF (i + 1) := by rw [hrF]; simp
      rw [hr0]
      clear hrF hr0
      repeat first|with_reducible refine wV fun _=>?_|simp [go_sem, GH]
      refine zBn hR (by simp [go_sem]) ?_
      repeat first|with_reducible refine wV fun _=>?_|simp [go_sem, GH]
      refine zBm (zBr (α := Nat) (fun t => ⟨[(0, .fn (.yield l) [] []), (1, .fp (zad p)), (2, .fp (zab g)), (4, .v (.int .i64 j)), (14, zas p.at_), (15, .v (.int .i64 p.at_.length)), (16, .v (.int .i64 j)), (40, .v (.int .i64 np)), (41, .v (.int .i64 i)), (52, za9 rs), (53, .v (.int .i64 rs.length)), (54, .v (.int .i64 t)), (1000000007, zbi l 0 ((rF t).map zuh))], [], 0⟩)
       (fun d t => t + d = rs.length) ?_ rs.length 0 ?_) ?_ ?_
      ·rintro d3 t t1 hrec3
       repeat first|with_reducible refine wV fun _=>?_|simp [go_sem, GH]
       refine zBo (fun ht => ?_) (fun ht => ?_) <;> simp at ht
       ·rw [hrt t ht]
        repeat first|with_reducible refine wV fun _=>?_|simp [go_sem, GH, ht]
        refine zsO.mk (more := 0) (xs := zuh (nth rs t)) (rs := (rF (t + 1)).map zuh) _ (by simp [upd, GH]) (.refl _) (.refl _ _ _ _) (by simp [go_sem, zuh]) ?_ ?_
        ·repeat first|with_reducible refine wV fun _=>?_|simp [go_sem, GH]
         refine zBm (hrec3 (d3 - 1) (by omega) (t + 1) (by omega)) ?_ (by simp)
         simp [go_sem, zah, hgb, GH]
        ·repeat first|with_reducible refine wV fun _=>?_|simp [go_sem, GH]
       ·have e : t = rs.length := by omega
        subst e
        rw [hrn]
        repeat first|with_reducible refine wV fun _=>?_|simp [go_sem, GH]
        refine zBm (hrec2 (d2 - 1) (by omega) (i + 1) (by omega)) ?_ (by simp)
        simp [go_sem, zah, hgb, GH]
      ·omega
      ·simp [go_sem, zah, hgb, GH]
      ·simp
     ·have e : i = np := by omega
      subst e
      rw [hpn]
      repeat first|with_reducible refine wV fun _=>?_|simp [go_sem, GH]
      refine zBm (hrec (d - 1) (by omega) (j + 1) (by omega)) ?_ (by simp)
      simp [go_sem, zah, hgb, GH]
    ·omega
    ·simp [go_sem, zah, hgb, GH]
    ·simp
  ·have e : j = p.at_.length := by omega
   subst e
   rw [hon]
   repeat first|with_reducible refine wV fun _=>?_|simp [go_sem, GH]
 ·omega
 ·simp [go_sem, zah, hgb, GH]
 ·simp
def zwP (n : Nat) : AV := .fn (.func 137) [] [.ref (n + 1) 0 5 0 0, .ref n 0 9 0 0]
def zwN (g : zaf) (p : zaj) (n : Nat) : List (Nat × zbt) := [(n, .rows true 0 9 [zab g]), (n + 1, .rows true 0 5 [zad p])]
theorem znr (g : zaf) (p : zaj) : zgp Tryz.prog 75 [.agg (zab g), .agg (zad p)] zwP (zwN g p) 2 := by
 refine ⟨?_, fun n => ⟨by simp [go_sem, zwP], by simp [go_sem, zwN]⟩⟩
 refine zBp (by kernel_rfl) Tryz.func75 rfl rfl (Nat.le_of_ble_eq_true rfl) (by kernel_rfl) ?_
 repeat first|with_reducible refine wV fun _=>?_|simp [go_sem, zwP, zwN]
 simp [go_sem, zah]
theorem zrT (g : zaf) (p : zaj) : (zfj g p).2 = decide (0 ≤ zcp g p) := by
 unfold zfj; split <;> simp_all
theorem zva {α : Type} (f : α → Bool) : ∀ l : List α, l.any f = decide (0 < (l.filter f).length)
 | [] => rfl
 | x :: l => by cases h : f x <;> simp [h, zva f l]
theorem zhL (g : zaf) (hg : GOk g) (p : zaj) (hp : POk g p) : zaC Tryz.prog 24 [.agg (zab g), .agg (zad p)] (zaz (zaH g p)) := by
 refine pF Tryz.func24 ?_
 have hE := zlM g hg p hp
 have hD := zrd g hg p hp
 have hdl := zf5 hg hp
 have hdo := fun q hq => ((zov hg hp) q hq).1.fits hg
 have hol := zkp hg hp
 have hoo := fun o ho => ((zr9 hg hp) o ho).1.fits hg
 have hS : zgp Tryz.prog 75 [.agg (zab g), .agg (zad p)] (fun n => zwP n) (fun n => zwN g p n) 2 := znr g p
 have hQ := zwM g hg p hp
 simp only [zwP, zwN] at hS
 have e2 := zrT g p
 have hMv : zaH g p = if 0 ≤ zcp g p then [] else zbp zbB (zdH g p) := rfl
 have hML : zdH g p = ((zdC g p).filter fun o => !zgl g p || o.took).map (·.pos) ++ (if zgl g p then [] else zcK g p) := rfl
 have hMu : zgl g p = (g.must && (zdC g p).any (·.took)) := rfl
 rw [e2] at hE
 rw [hMv]
 generalize zcp g p = ep at *
 generalize (zfj g p).1 = ev1 at *
 generalize zdC g p = outs at *
 generalize zcK g p = drops at *
 generalize zgl g p = must at *
 generalize zdH g p = mvl at *
 clear hMv e2
 repeat first|with_reducible refine wV fun _=>?_|simp [go_sem]
 refine zBn hE (by simp [go_sem]) ?_
 repeat first|with_reducible refine wV fun _=>?_|simp [go_sem]
 refine zBo (fun he => ?_) (fun he => ?_) <;> simp at he
 ·rw [if_pos he]
  repeat first|with_reducible refine wV fun _=>?_|simp [go_sem]
 ·rw [if_neg (by omega)]
  repeat first|with_reducible refine wV fun _=>?_|simp [go_sem, GH]
  refine zBs hS (by simp [go_sem]) ?_
  repeat first|with_reducible refine wV fun _=>?_|simp [go_sem, GH]
  refine zey.mk [.fp (zad p), .fp (zab g)] (zaL _ [4, 5]) hQ (zc6 _ _) ?_ (by simp [go_sem]) (by simp [zuh]) ?_
  ·refine zai.cons (.frzP rfl ?_ ?_ ?_ ?_) (zai.cons (.frzP rfl ?_ ?_ ?_ ?_) .nil) <;> first | exact zai.refl _ _ _ _ | simp [zaL, zaS, upd]
  obtain ⟨al, hal⟩ : ∃ al : Nat → List zaj, al = fun k => (outs.take k).map (·.pos) := ⟨_, rfl⟩
  obtain ⟨tk, htk⟩ : ∃ tk : Nat → List zaj, tk = fun k => ((outs.take k).filter (·.took)).map (·.pos) := ⟨_, rfl⟩
  have hall : ∀ k, (al k).length ≤ 7200000000 := fun k => by rw [hal]; simp; omega
  have htkl : ∀ k, (tk k).length ≤ 7200000000 := fun k => by rw [htk]; simp only [List.length_map]; have := List.length_filter_le (·.took) (outs.take k); simp at this; omega
  have hals : ∀ k, k < outs.length → al (k + 1) = al k ++ [(nth outs k).pos] := fun k hk => by rw [hal]; simp only; rw [List.take_add_one, List.getElem?_eq_getElem hk, zaJ _ _ hk, Option.toList_some, List.map_append]; rfl
  have htks : ∀ k, k < outs.length → tk (k + 1) = if (nth outs k).took = true then tk k ++ [(nth outs k).pos] else tk k := fun k hk => by
   rw [htk]; simp only; rw [List.take_add_one, List.getElem?_eq_getElem hk, zaJ _ _ hk, Option.toList_some, List.filter_append]
   cases hq : outs[k].took <;> simp [hq]
  have hal0 : al 0 = [] := by rw [hal]; rfl
  have htk0 : tk 0 = [] := by rw [htk]; rfl
  have halE : al outs.length = outs.map (·.pos) := by rw [hal]; simp
  have htkE : tk outs.length = (outs.filter (·.took)).map (·.pos) := by rw [htk]; simp
  clear hal htk
  refine Fgt.to (zBF (α := Nat) (fun k => ([(2, .ref 0 0 9 0 0), (3, .ref 1 0 5 0 0), (7, .ref 2 0 1 0 0), (8, .ref 3 0 1 0 0)], [(0, .rows true 0 9 [zab g]), (1, .rows true 0 5 [zad p]), (2, .rows true 0 1 [[.sl 6 (al k).length 5 0 (al k).length]]), (3, .rows true 0 1 [[.sl 7 (tk k).length 5 0 (tk k).length]]),
    (6, .rows true (al k).length 5 ((al k).map zad)), (7, .rows true (tk k).length 5 ((tk k).map zad))], 8))
   (fun rows k => rows = (outs.drop k).map zuh ∧ k ≤ outs.length) ?_ ?_ _ 0 ?_) ?_ ?_
  ·rintro k ⟨i1, i2⟩
   have hk : k = outs.length := by
    have := congrArg List.length i1
    simp at this
    omega
   subst hk
   refine ⟨rfl, ?_⟩
   have hmu : must = (g.must && decide (0 < (tk outs.length).length)) := by
    rw [hMu, htkE, zva, List.length_map]
   have hft : ∀ q ∈ tk outs.length, za0 q := fun q hq => by
    rw [htkE] at hq
    obtain ⟨o, ho, rfl⟩ := List.mem_map.1 hq
    exact hoo o (List.mem_filter.1 ho).1
   have hfa : ∀ q ∈ al outs.length, za0 q := fun q hq => by
    rw [halE] at hq
    obtain ⟨o, ho, rfl⟩ := List.mem_map.1 hq
    exact hoo o ho
   have hla := hall outs.length
   have hlt := htkl outs.length
   by_cases hm : must = true
   ·rw [hm] at hmu hML
    have hgm : g.must = true := by cases h : g.must <;> simp [h] at hmu ⊢
    have hpos : 0 < (tk outs.length).length := by rw [hgm] at hmu; simpa using hmu
    have hpos' : (0 : Int) < (tk outs.length).length := by omega
    have e : mvl = tk outs.length := by rw [hML, htkE]; simp
    rw [e]
    generalize tk outs.length = tks at *
    have hS1 := zdP tks (by omega) hft
    repeat first|with_reducible refine wV fun _=>?_|simp [go_sem, GH, ← hmu]
    refine zBt [7] hS1 ?_ (zxq (zce _)) ?_
    ·(first|done|exact agX)
    ·repeat first|with_reducible refine wV fun _=>?_|simp [go_sem, GH]
   ·have e : mvl = al outs.length ++ drops := by
     simp only [Bool.not_eq_true] at hm
     rw [hML, hm, halE, List.filter_eq_self.2 (by simp)]; simp
    rw [e]
    have hS1 := zdP (al outs.length ++ drops) (by rw [List.length_append]; omega) (fun q hq => by
     rcases List.mem_append.1 hq with h | h
     ·exact hfa q h
     ·exact hdo q h)
    simp only [Bool.not_eq_true] at hm
    rw [hm] at hmu
    generalize al outs.length = als at *
    generalize tk outs.length = tks at *
    generalize zbp zbB (als ++ drops) = res at *
    repeat first|with_reducible refine wV fun _=>?_|simp [go_sem, GH, ← hmu]
    refine zBq hD (by simp [go_sem]) ?_
    repeat first|with_reducible refine wV fun _=>?_|simp [go_sem, GH]
    refine zay.frz [zaz (als ++ drops)] _ [6] [(6, some (.rows false (als.length + 1) 5 ((als ++ drops).map zad)))] hS1 ?_ ?_ (zxq (zce _)) ?_
    ·intro q hq
     simp only [List.mem_singleton] at hq
     subst hq
     exact ⟨by simp, als.length + 1, 5, _, rfl, by simp [upd]⟩
    ·intro h₁ hS
     have h6 := hS 6 (by simp)
     simp [upd] at h6
     exact .cons (zam h6.symm (by simp) (by simp [zao, upd]) (by simp; exact List.take_of_length_le (by simp))) .nil
    ·repeat first|with_reducible refine wV fun _=>?_|simp [go_sem, GH]
  ·rintro xs rs k ⟨i1, i2⟩ hrec
   have hk : k < outs.length := by
    have := congrArg List.length i1
    simp at this
    omega
   rw [zaO hk, List.map_cons, List.cons.injEq] at i1
   obtain ⟨rfl, rfl⟩ := i1
   have hals := hals k hk
   have htks := htks k hk
   have h1 := hall k
   have h2 := htkl k
   obtain ⟨o, ho⟩ : ∃ o, o = nth outs k := ⟨_, rfl⟩
   rw [← ho] at hals htks ⊢
   obtain ⟨op, ot⟩ := o
   simp only at hals htks
   generalize hrs : (outs.drop (k + 1)).map zuh = rs at *
   refine zBI (Nat.zero_le _) ?_
   repeat first|with_reducible refine wV fun _=>?_|simp [go_sem, GH, zuh]
   cases ot
   ·rw [if_neg (by simp)] at htks
    repeat first|with_reducible refine wV fun _=>?_|simp [go_sem, GH]
    refine Fgt.to (hrec (k + 1) ⟨hrs.symm, by omega⟩) ?_ (by simp)
    simp [go_sem, zah, GH, hals, htks]
   ·rw [if_pos rfl] at htks
    repeat first|with_reducible refine wV fun _=>?_|simp [go_sem, GH]
    refine Fgt.to (hrec (k + 1) ⟨hrs.symm, by omega⟩) ?_ (by simp)
    simp [go_sem, zah, GH, hals, htks]
  ·exact ⟨rfl, Nat.zero_le _⟩
  ·simp [go_sem, zah, hal0, htk0]
  ·simp
def zj6 (p : zaj → Bool) (l : List zaj) : Int := match l.findIdx? p with | some i => (i : Int) | none => -1
theorem zwa {p : zaj → Bool} {l : List zaj} {j : Nat} (hj : j < l.length) (h : ∀ i, i < j → p (nth l i) = false) (hp : p (nth l j) = true) : zj6 p l = j := by
 have : l.findIdx? p = some j := by
  rw [List.findIdx?_eq_some_iff_getElem]
  refine ⟨hj, by rw [← zaJ _ _ hj]; exact hp, fun i hi => ?_⟩
  have := h i hi
  rw [zaJ _ _ (by omega)] at this
  simp [this]
 simp [zj6, this]
theorem zqO {p : zaj → Bool} {l : List zaj} (h : ∀ i, i < l.length → p (nth l i) = false) : zj6 p l = -1 := by
 have : l.findIdx? p = none := by
  rw [List.findIdx?_eq_none_iff]
  intro x hx
  obtain ⟨i, hi, rfl⟩ := List.getElem_of_mem hx
  have := h i hi
  rw [zaJ _ _ hi] at this
  exact this
 simp [zj6, this]
theorem ztL {p : zaj → Bool} {l : List zaj} : decide (0 ≤ zj6 p l) = l.any p := by
 unfold zj6
 cases h : l.findIdx? p with
 | none =>
  rw [List.findIdx?_eq_none_iff] at h
  simp
  simpa using h
 | some i =>
  have := List.findIdx?_isSome (xs := l) (p := p)
  rw [h] at this
  simp at this ⊢
  exact this
theorem zjk (l : List zaj) (hl : l.length ≤ 17179869184) (f : FuncId) (first caps : List AV) (p : zaj → Bool) (hp : ∀ x ∈ l, zaC Tryz.prog f (first ++ .agg (zad x) :: caps) (.v (.bool (p x)))) (hb : ∀ c ∈ first, Bel 0 c) (hb' : ∀ c ∈ caps, Bel 0 c) :
  zaC Tryz.prog 154 [zaz l, .fn (.func f) first caps] (.v (.int .i64 (zj6 p l))) := by
 refine pF Tryz.func154 ?_
 simp [go_sem]
 refine zBm (zBr (α := Nat) (fun j => ⟨[(0, zaz l), (1, .fn (.func f) first caps), (7, .v (.int .i64 l.length)), (8, .v (.int .i64 j))], [], 0⟩)
  (fun d j => j + d = l.length ∧ (∀ i < j, p (nth l i) = false)) ?_ l.length 0 ?_) ?_ ?_
 ·rintro d j ⟨i1, i2⟩ hrec
  simp [go_sem]
  refine zBo (fun hj => ?_) (fun hj => ?_)
  ·simp at hj
   simp [go_sem]
   refine zBK hj fun _ => ?_
   simp [go_sem, hj]
   refine zBn (hp _ (zan hj)) (fun c hc => by
    rcases List.mem_append.1 hc with h | h
    ·exact hb c h
    ·rcases List.mem_cons.1 h with rfl | h
     ·exact of_eq_true (by simp [go_sem])
     ·exact hb' c h) ?_
   simp [go_sem]
   refine zBo (fun h => ?_) (fun h => ?_)
   ·simp [go_sem, zwa hj i2 h]
   ·simp [go_sem]
    refine zBK (by omega) fun _ => ?_
    simp [go_sem]
    refine zBm (hrec (d - 1) (by omega) (j + 1) ⟨by omega, fun i hi => ?_⟩) ?_ (by simp)
    ·rcases Nat.lt_or_ge i j with h' | h'
     ·exact i2 i h'
     ·obtain rfl : i = j := by omega
      exact h
    ·simp [go_sem, zah]
     exact ⟨hb, hb'⟩
  ·simp at hj
   simp [go_sem, zqO fun i hi => i2 i (by omega)]
 ·simp
 ·simp [go_sem, zah]
  exact ⟨hb, hb'⟩
 ·simp
theorem zg0 (l : List zaj) (hl : l.length ≤ 17179869184) (f : FuncId) (first caps : List AV) (p : zaj → Bool) (hp : ∀ x ∈ l, zaC Tryz.prog f (first ++ .agg (zad x) :: caps) (.v (.bool (p x)))) (hb : ∀ c ∈ first, Bel 0 c) (hb' : ∀ c ∈ caps, Bel 0 c) :
  zaC Tryz.prog 92 [zaz l, .fn (.func f) first caps] (.v (.bool (l.any p))) := by
 refine pF Tryz.func92 ?_
 simp [go_sem]
 refine zBn (zjk l hl f first caps p hp hb hb') (by simp [go_sem]; exact ⟨hb, hb'⟩) ?_
 simp [go_sem, ztL]
theorem zqW (m q : zaj) (hm : za0 m) (hq : za0 q) : zaC Tryz.prog 93 [.agg (zad m), .fp (zad q)] (.v (.bool (decide (m = q)))) := by
 refine pF Tryz.func93 ?_
 have c1 := zbL m q hm hq
 have e : decide (m = q) = decide (zbB m q = 0) := by rw [decide_eq_decide]; exact (zbd.eq m q).symm
 rw [e]
 generalize zbB m q = x at *
 repeat first|with_reducible refine wV fun _=>?_|simp [go_sem]
 refine zBn c1 (by simp [go_sem]) ?_
 repeat first|with_reducible refine wV fun _=>?_|simp [go_sem]
theorem zhK (g : zaf) (hg : GOk g) (p : zaj) (hp : POk g p) (q : zaj) (hq : za0 q) : zaC Tryz.prog 41 [.agg (zab g), .agg (zad p), .agg (zad q)] (.v (.bool (decide (q ∈ zaH g p)))) := by
 refine pF Tryz.func41 ?_
 have hM := zhL g hg p hp
 have hml := zh5 hg hp
 have hmf := fun m hm => ((zc8 hg hp) m hm).1.fits hg
 generalize zaH g p = l at *
 have hC := zg0 l (by omega) 93 [] [.fp (zad q)] (fun m => decide (m = q)) (fun m hm => zqW m q (hmf m hm) hq) (by simp) (by simp [go_sem])
 have e : l.any (fun m => decide (m = q)) = decide (q ∈ l) := by
  rw [Bool.eq_iff_iff]
  simp
 rw [e] at hC
 repeat first|with_reducible refine wV fun _=>?_|simp [go_sem]
 refine zBn hM (by simp [go_sem]) ?_
 repeat first|with_reducible refine wV fun _=>?_|simp [go_sem]
 refine zBt [2] hC ?_ (by simp [go_sem]) ?_
 ·(first|done|exact leX)
 ·repeat first|with_reducible refine wV fun _=>?_|simp [go_sem]
theorem zk3 (a b : List zaj) (ha : a.length ≤ 17179869184) (hb : b.length ≤ 17179869184) (hfa : ∀ p ∈ a, za0 p) (hfb : ∀ p ∈ b, za0 p) : zaC Tryz.prog 46 [zaz a, zaz b] (.v (.bool (decide (a = b)))) := by
 refine pF Tryz.func46 ?_
 repeat first|with_reducible refine wV fun _=>?_|simp [go_sem]
 refine zBo (fun hl => ?_) (fun hl => ?_) <;> simp at hl
 ·have e : decide (a = b) = false := decide_eq_false fun h => hl (by rw [h])
  rw [e]
  repeat first|with_reducible refine wV fun _=>?_|simp [go_sem]
 ·repeat first|with_reducible refine wV fun _=>?_|simp [go_sem]
  refine zBm (zBr (α := Nat) (fun i => ⟨[(0, zaz a), (1, zaz b), (5, .v (.int .i64 i))], [], 0⟩)
   (fun d i => i + d = a.length ∧ ∀ j, j < i → nth a j = nth b j) ?_ a.length 0 ?_) ?_ ?_
  ·rintro d i ⟨i1, i2⟩ hrec
   repeat first|with_reducible refine wV fun _=>?_|simp [go_sem]
   refine zBo (fun hi => ?_) (fun hi => ?_) <;> simp at hi
   ·have hi' : i < b.length := by omega
    have hS := zgz (nth a i) (nth b i) (hfa _ (zan hi)) (hfb _ (zan hi'))
    rw [show decide (zbB (nth a i) (nth b i) = 0) = decide (nth a i = nth b i) by rw [decide_eq_decide]; exact zbd.eq _ _] at hS
    repeat first|with_reducible refine wV fun _=>?_|simp [go_sem, hi, hi']
    refine zBq hS (by simp [go_sem]) ?_
    by_cases h : nth a i = nth b i
    ·repeat first|with_reducible refine wV fun _=>?_|simp [go_sem, h]
     refine zBm (hrec (d - 1) (by omega) (i + 1) ⟨by omega, fun j hj => ?_⟩) ?_ (by simp)
     ·rcases Nat.lt_or_ge j i with h' | h'
      ·exact i2 j h'
      ·obtain rfl : j = i := by omega
       exact h
     ·simp [go_sem, zah]
    ·have e : decide (a = b) = false := decide_eq_false fun h' => h (by rw [h'])
     rw [e]
     repeat first|with_reducible refine wV fun _=>?_|simp [go_sem, h]
   ·have e : decide (a = b) = true := decide_eq_true (List.ext_getElem (by omega) fun j h1 h2 => by
     have := i2 j (by omega)
     rwa [zaJ _ _ h1, zaJ _ _ h2] at this)
    rw [e]
    repeat first|with_reducible refine wV fun _=>?_|simp [go_sem]
  ·exact ⟨by simp, fun j hj => by omega⟩
  ·simp [go_sem, zah]
  ·simp
def zcC (q : zaj) : List AV := [.agg (zad q)]
theorem zx8 {n : Nat} {L : List zaj} : (∀ r ∈ L.map zcC, ∀ c ∈ r, Bel n c) = True := by
 refine eq_true ?_
 intro r hr c hc
 obtain ⟨x, _, rfl⟩ := List.mem_map.1 hr
 simp only [zcC, List.mem_cons, List.not_mem_nil, or_false] at hc
 subst hc
 simp [go_sem]
attribute [go_sem ↓] zx8
theorem zvu {n l more : Nat} {L : List zaj} : Bel n (zbi l more (L.map zcC)) := by
 simp only [zbi, zru, zmv, List.forall_mem_cons, zxw, zck]
 simp [go_sem]
theorem zeQ (p : zaj) (hf : za0 p) (c v : Int) (h0 : 0 ≤ c) (hc : c.toNat < p.at_.length) : zaC Tryz.prog 202 [.agg (zad p), .v (.int .i64 c), .v (.int .i64 v)] (.agg (zad { p with at_ := p.at_.set c.toNat v })) := by
 refine pF Tryz.func202 ?_
 have hC := zdM p.at_ hf.1
 repeat first|with_reducible refine wV fun _=>?_|simp [go_sem]
 refine zBs hC (by simp [go_sem]) ?_
 repeat first|with_reducible refine wV fun _=>?_|simp [go_sem, hc]
 exact frX
theorem zlK (p : zaj) (hf : za0 p) (s k by_ : Int) (hs : s = 0 ∨ s = 1) (h0 : 0 ≤ k) (hk : k.toNat < (p.hand s).length) (hb : -1000 ≤ nth (p.hand s) k.toNat + by_ ∧ nth (p.hand s) k.toNat + by_ ≤ 1000) : zaC Tryz.prog 204 [.agg (zad p), .v (.int .i64 s), .v (.int .i64 k), .v (.int .i64 by_)] (.agg (zad (p.withHand s ((p.hand s).set k.toNat (nth (p.hand s) k.toNat + by_))))) := by
 refine pF Tryz.func204 ?_
 rcases hs with rfl | rfl
 ·have hC := zdM p.h0 hf.2.1
  rw [show p.hand 0 = p.h0 from rfl] at hk hb ⊢
  repeat first|with_reducible refine wV fun _=>?_|simp [go_sem]
  refine zBs hC (by simp [go_sem]) ?_
  simp only [zaj.withHand]
  repeat first|with_reducible refine wV fun _=>?_|simp [go_sem, hk]
  (repeat' (first | (with_reducible apply And.intro) | ((refine LeV.frz rfl ?_ ?_ (zBx ?_)) <;> first | (simp [noH]; done) | (rw [List.drop_zero, List.take_of_length_le (by simp)]))))
 ·have hC := zdM p.h1 hf.2.2
  rw [show p.hand 1 = p.h1 from rfl] at hk hb ⊢
  repeat first|with_reducible refine wV fun _=>?_|simp [go_sem]
  refine zBs hC (by simp [go_sem]) ?_
  simp only [zaj.withHand]
  repeat first|with_reducible refine wV fun _=>?_|simp [go_sem, hk]
  (repeat' (first | (with_reducible apply And.intro) | ((refine LeV.frz rfl ?_ ?_ (zBx ?_)) <;> first | (simp [noH]; done) | (rw [List.drop_zero, List.take_of_length_le (by simp)]))))
def zxg (n : Nat) : AV := .fn (.func 287) [] [.ref (n + 2) 0 3 0 0, .ref n 0 9 0 0, .ref (n + 1) 0 5 0 0]
def zxh (g : zaf) (p : zaj) (x : zct) (n : Nat) : List (Nat × zbt) := [(n, .rows true 0 9 [zab g]), (n + 1, .rows true 0 5 [zad p]), (n + 2, .rows true 0 3 [zaE x])]
theorem zxi (g : zaf) (p : zaj) (x : zct) : zgp Tryz.prog 261 [.agg (zab g), .agg (zad p), .agg (zaE x)] zxg (zxh g p x) 3 := by
 refine ⟨?_, fun n => ⟨by simp [go_sem, zxg], by simp [go_sem, zxh]⟩⟩
 refine zBp (by kernel_rfl) Tryz.func261 rfl rfl (Nat.le_of_ble_eq_true rfl) (by kernel_rfl) ?_
 repeat first|with_reducible refine wV fun _=>?_|simp [go_sem, zxg, zxh]
 simp [go_sem, zah]
theorem zxj (g : zaf) (hg : GOk g) (p : zaj) (hp : POk g p) (x : zct) (hx : zdg g.cells g.kinds.length g.rights x) :
  zpL Tryz.prog 287 [.fp (zaE x), .fp (zab g), .ref 0 0 5 0 0] [(0, .rows true 0 5 [zad p])] 1 0 ((zdv g p.side p x).map zcC) := by
 refine zBV (by kernel_rfl) Tryz.func287 rfl rfl (Nat.le_of_ble_eq_true rfl) (by kernel_rfl) (fun l => ?_) (hm2 := by decide)
 obtain ⟨op, a, b⟩ := x
 unfold zdg at hx
 simp only at hx
 have hf := hp.fits hg
 have hal := hp.al
 have hk6 := hg.k6
 have hs := hp.s
 have hgh : ∀ (n : Nat) (L : List zaj), Bel n (zbi l 0 (L.map zcC)) = True := fun n (L : List zaj) => eq_true zvu
 have hegl : (zab g).length = 9 := rfl
 have hegk : cel (zab g) 3 = .lst 3 (g.kinds.map zaZ) := rfl
 have hegb : ∀ n, (∀ c ∈ zab g, Bel n c) = True := fun n => by simp [go_sem]
 by_cases h6 : op = 6
 ·subst h6
  obtain ⟨hx1, hx2⟩ : 0 ≤ a ∧ a.toNat < p.at_.length := by omega
  rw [zgg rfl]
  have hz : (List.range g.kinds.length).flatMap (tkL g p.side p a.toNat) = tkF g p.side p a.toNat 0 := rfl
  have hts := fun i (hi : i < g.kinds.length) => zzg (g := g) p.side p a.toNat hi
  have hte := zA9 g p.side p a.toNat
  have hCo := fun (k : Nat) => zdO k (1 - p.side)
  have hW := fun (k : Nat) => zeQ p hf a (zaD k (1 - p.side)) hx1 hx2
  have hCt := fun (k : Nat) (hk : k < g.kinds.length) => zlK { p with at_ := p.at_.set a.toNat (zaD k (1 - p.side)) } ⟨by simpa [zeS] using hf.1, hf.2⟩ p.side k (-1) hs (by omega) (by have := (hp.hand p.side).len; simpa [zaj.hand] using (show k < (p.hand p.side).length by omega))
  simp only at hz ⊢
  rw [hz]
  repeat first|with_reducible refine wV fun _=>?_|simp [go_sem, GH, hegl]
  refine zBm (zBr (α := Nat) (fun k => ⟨[(0, .fn (.yield l) [] []), (1, .fp (zaE (6, a, b))), (2, .fp (zab g)), (3, .ref 0 0 5 0 0), (17, .v (.int .i64 g.kinds.length)), (18, .v (.int .i64 k)), (1000000007, zbi l 0 ((tkF g p.side p a.toNat k).map zcC))], [(0, .rows true 0 5 [zad p])], 1⟩)
   (fun d k => k + d = g.kinds.length) ?_ g.kinds.length 0 ?_) ?_ ?_
  ·rintro d k k1 hrec
   repeat first|with_reducible refine wV fun _=>?_|simp [go_sem, GH, hegl]
   refine zBo (fun hk => ?_) (fun hk => ?_) <;> simp at hk
   ·have hts := hts k hk
    have hCo := hCo k
    have hW := hW k
    have hkh : k < (p.hand p.side).length := by have := (hp.hand p.side).len; omega
    have hv := (hp.hand p.side).v k hkh
    have hCt := hCt k hk (by
     show -1000 ≤ nth (p.hand p.side) ((k : Int)).toNat + -1 ∧ nth (p.hand p.side) ((k : Int)).toNat + -1 ≤ 1000
     rw [Int.toNat_natCast]; omega)
    unfold tkL tkP at hts
    generalize hcd : zaD k (1 - p.side) = cd at *
    try simp only at hts
    try simp only at hW
    try simp only at hCt
    generalize hA : p.at_.set a.toNat cd = A at *
    repeat first|with_reducible refine wV fun _=>?_|simp [go_sem, GH, hegl]
    refine zBq hCo (by simp [go_sem]) ?_
    repeat first|with_reducible refine wV fun _=>?_|simp [go_sem, GH, hegl]
    refine zBq hW (by simp [go_sem]) ?_
    repeat first|with_reducible refine wV fun _=>?_|simp [go_sem, GH, hegl]
    have hgk : nth (g.kinds.map zaZ) k = zaZ (nth g.kinds k) := zbg _ _ _ hk
    have hax : 0 ≤ a := hx1
    repeat first|with_reducible refine wV fun _=>?_|simp [go_sem, GH, hegl, hk, hgk]
    refine zBo (fun hkp => ?_) (fun hkp => ?_)
    ·rw [if_pos hkp] at hts
     simp only [Int.toNat_natCast] at hCt
     obtain ⟨Q, hQ⟩ : ∃ Q, Q = (⟨A, p.h0, p.h1, p.rights, p.side⟩ : zaj).withHand p.side ((p.hand p.side).set k (nth (p.hand p.side) k - 1)) := ⟨_, rfl⟩
     rw [← hQ] at hts
     replace hCt : zaC Tryz.prog 204 [.agg (zad ⟨A, p.h0, p.h1, p.rights, p.side⟩), .v (.int .i64 p.side), .v (.int .i64 k), .v (.int .i64 (-1))] (.agg (zad Q)) := by rw [hQ]; exact hCt
     repeat first|with_reducible refine wV fun _=>?_|simp [go_sem, GH, hegl]
     refine zBn hCt (by simp [go_sem]) ?_
     rcases hs with hs | hs
     ·have hqh : Q.hand p.side = Q.h0 := by rw [hs]; rfl
      have hql : k < Q.h0.length := by rw [← hqh, hQ, zhl, List.length_set]; exact hkh
      rw [hqh] at hts
      by_cases hz0 : nth p.at_ a.toNat = 0
      ·by_cases hz1 : 0 ≤ nth Q.h0 k
       ·rw [if_pos ⟨hz0, hz1⟩] at hts
        rw [hts]
        repeat first|with_reducible refine wV fun _=>?_|simp [go_sem, GH, hegl, hs, hx2, hz0, hz1, hql]
        refine aGC.yld (more := 0) (xs := zcC Q) (rs := (tkF g p.side p a.toNat (k + 1)).map zcC) _ (by simp [upd, GH, hs]) (.refl _) (.refl _ _ _ _) (by simp [go_sem, zcC]) ?_ ?_
        ·repeat first|with_reducible refine wV fun _=>?_|simp [go_sem, GH, hegl]
         refine zBm (hrec (d - 1) (by omega) (k + 1) (by omega)) ?_ (by simp)
         simp [go_sem, zah, GH, hgh, hs]
        ·repeat first|with_reducible refine wV fun _=>?_|simp [go_sem, GH, hegl]
       ·rw [if_neg (fun h => hz1 h.2), List.nil_append] at hts
        rw [hts]
        have hz2 : nth Q.h0 k < 0 := by omega
        repeat first|with_reducible refine wV fun _=>?_|simp [go_sem, GH, hegl, hs, hx2, hz0, hz1, hql, hz2]
        refine aGC.skip (.v (.bool true)) ?_
        repeat first|with_reducible refine wV fun _=>?_|simp [go_sem, GH, hegl]
        refine zBm (hrec (d - 1) (by omega) (k + 1) (by omega)) ?_ (by simp)
        simp [go_sem, zah, GH, hgh, hs]
      ·rw [if_neg (fun h => hz0 h.1), List.nil_append] at hts
       rw [hts]
       repeat first|with_reducible refine wV fun _=>?_|simp [go_sem, GH, hegl, hs, hx2, hz0, hql]
       refine aGC.skip (.v (.bool true)) ?_
       repeat first|with_reducible refine wV fun _=>?_|simp [go_sem, GH, hegl]
       refine zBm (hrec (d - 1) (by omega) (k + 1) (by omega)) ?_ (by simp)
       simp [go_sem, zah, GH, hgh, hs]
     ·have hqh : Q.hand p.side = Q.h1 := by rw [hs]; rfl
      have hql : k < Q.h1.length := by rw [← hqh, hQ, zhl, List.length_set]; exact hkh
      rw [hqh] at hts
      by_cases hz0 : nth p.at_ a.toNat = 0
      ·by_cases hz1 : 0 ≤ nth Q.h1 k
       ·rw [if_pos ⟨hz0, hz1⟩] at hts
        rw [hts]
        repeat first|with_reducible refine wV fun _=>?_|simp [go_sem, GH, hegl, hs, hx2, hz0, hz1, hql]
        refine aGC.yld (more := 0) (xs := zcC Q) (rs := (tkF g p.side p a.toNat (k + 1)).map zcC) _ (by simp [upd, GH, hs]) (.refl _) (.refl _ _ _ _) (by simp [go_sem, zcC]) ?_ ?_
        ·repeat first|with_reducible refine wV fun _=>?_|simp [go_sem, GH, hegl]
         refine zBm (hrec (d - 1) (by omega) (k + 1) (by omega)) ?_ (by simp)
         simp [go_sem, zah, GH, hgh, hs]
        ·repeat first|with_reducible refine wV fun _=>?_|simp [go_sem, GH, hegl]
       ·rw [if_neg (fun h => hz1 h.2), List.nil_append] at hts
        rw [hts]
        have hz2 : nth Q.h1 k < 0 := by omega
        repeat first|with_reducible refine wV fun _=>?_|simp [go_sem, GH, hegl, hs, hx2, hz0, hz1, hql, hz2]
        refine aGC.skip (.v (.bool true)) ?_
        repeat first|with_reducible refine wV fun _=>?_|simp [go_sem, GH, hegl]
        refine zBm (hrec (d - 1) (by omega) (k + 1) (by omega)) ?_ (by simp)
        simp [go_sem, zah, GH, hgh, hs]
      ·rw [if_neg (fun h => hz0 h.1), List.nil_append] at hts
       rw [hts]
       repeat first|with_reducible refine wV fun _=>?_|simp [go_sem, GH, hegl, hs, hx2, hz0, hql]
       refine aGC.skip (.v (.bool true)) ?_
       repeat first|with_reducible refine wV fun _=>?_|simp [go_sem, GH, hegl]
       refine zBm (hrec (d - 1) (by omega) (k + 1) (by omega)) ?_ (by simp)
       simp [go_sem, zah, GH, hgh, hs]
    ·rw [if_neg (show ¬ (nth g.kinds k).keep = true by simp [hkp])] at hts
     obtain ⟨Q, hQ⟩ : ∃ Q : zaj, Q = ⟨A, p.h0, p.h1, p.rights, p.side⟩ := ⟨_, rfl⟩
     have hq0 : p.h0 = Q.h0 := by rw [hQ]
     have hq1 : p.h1 = Q.h1 := by rw [hQ]
     have hqx : AV.agg [.lst 1 (A.map zb6), .lst 1 (p.h0.map zb6), .lst 1 (p.h1.map zb6), .v (.int .i64 p.rights), .v (.int .i64 p.side)] = .agg (zad Q) := by rw [hQ]; rfl
     rw [← hQ] at hts
     rcases hs with hs | hs
     ·have hqh : Q.hand p.side = Q.h0 := by rw [hs]; rfl
      have hql : k < Q.h0.length := by rw [← hqh, hQ]; exact hkh
      rw [hqh] at hts
      by_cases hz0 : nth p.at_ a.toNat = 0
      ·by_cases hz1 : 0 ≤ nth Q.h0 k
       ·rw [if_pos ⟨hz0, hz1⟩] at hts
        rw [hts]
        repeat first|with_reducible refine wV fun _=>?_|simp [go_sem, GH, hegl, hs, hx2, hz0, hz1, hql, hq0, hq1]
        refine aGC.yld (more := 0) (xs := zcC Q) (rs := (tkF g p.side p a.toNat (k + 1)).map zcC) _ (by simp [upd, GH, hs]) (.refl _) (by rw [hQ]; simp only [zcC, zad, zas, hs]; exact .refl _ _ _ _) (by simp [go_sem, zcC]) ?_ ?_
        ·repeat first|with_reducible refine wV fun _=>?_|simp [go_sem, GH, hegl]
         refine zBm (hrec (d - 1) (by omega) (k + 1) (by omega)) ?_ (by simp)
         simp [go_sem, zah, GH, hgh, hs, hq0, hq1]
        ·repeat first|with_reducible refine wV fun _=>?_|simp [go_sem, GH, hegl]
       ·rw [if_neg (fun h => hz1 h.2), List.nil_append] at hts
        rw [hts]
        have hz2 : nth Q.h0 k < 0 := by omega
        repeat first|with_reducible refine wV fun _=>?_|simp [go_sem, GH, hegl, hs, hx2, hz0, hz1, hql, hz2, hq0, hq1]
        refine aGC.skip (.v (.bool true)) ?_
        repeat first|with_reducible refine wV fun _=>?_|simp [go_sem, GH, hegl]
        refine zBm (hrec (d - 1) (by omega) (k + 1) (by omega)) ?_ (by simp)
        simp [go_sem, zah, GH, hgh, hs, hq0, hq1]
      ·rw [if_neg (fun h => hz0 h.1), List.nil_append] at hts
       rw [hts]
       repeat first|with_reducible refine wV fun _=>?_|simp [go_sem, GH, hegl, hs, hx2, hz0, hql, hq0, hq1]
       refine aGC.skip (.v (.bool true)) ?_
       repeat first|with_reducible refine wV fun _=>?_|simp [go_sem, GH, hegl]
       refine zBm (hrec (d - 1) (by omega) (k + 1) (by omega)) ?_ (by simp)
       simp [go_sem, zah, GH, hgh, hs, hq0, hq1]
     ·have hqh : Q.hand p.side = Q.h1 := by rw [hs]; rfl
      have hql : k < Q.h1.length := by rw [← hqh, hQ]; exact hkh
      rw [hqh] at hts
      by_cases hz0 : nth p.at_ a.toNat = 0
      ·by_cases hz1 : 0 ≤ nth Q.h1 k
       ·rw [if_pos ⟨hz0, hz1⟩] at hts
        rw [hts]
        repeat first|with_reducible refine wV fun _=>?_|simp [go_sem, GH, hegl, hs, hx2, hz0, hz1, hql, hq0, hq1]
        refine aGC.yld (more := 0) (xs := zcC Q) (rs := (tkF g p.side p a.toNat (k + 1)).map zcC) _ (by simp [upd, GH, hs]) (.refl _) (by rw [hQ]; simp only [zcC, zad, zas, hs]; exact .refl _ _ _ _) (by simp [go_sem, zcC]) ?_ ?_
        ·repeat first|with_reducible refine wV fun _=>?_|simp [go_sem, GH, hegl]
         refine zBm (hrec (d - 1) (by omega) (k + 1) (by omega)) ?_ (by simp)
         simp [go_sem, zah, GH, hgh, hs, hq0, hq1]
        ·repeat first|with_reducible refine wV fun _=>?_|simp [go_sem, GH, hegl]
       ·rw [if_neg (fun h => hz1 h.2), List.nil_append] at hts
        rw [hts]
        have hz2 : nth Q.h1 k < 0 := by omega
        repeat first|with_reducible refine wV fun _=>?_|simp [go_sem, GH, hegl, hs, hx2, hz0, hz1, hql, hz2, hq0, hq1]
        refine aGC.skip (.v (.bool true)) ?_
        repeat first|with_reducible refine wV fun _=>?_|simp [go_sem, GH, hegl]
        refine zBm (hrec (d - 1) (by omega) (k + 1) (by omega)) ?_ (by simp)
        simp [go_sem, zah, GH, hgh, hs, hq0, hq1]
      ·rw [if_neg (fun h => hz0 h.1), List.nil_append] at hts
       rw [hts]
       repeat first|with_reducible refine wV fun _=>?_|simp [go_sem, GH, hegl, hs, hx2, hz0, hql, hq0, hq1]
       refine aGC.skip (.v (.bool true)) ?_
       repeat first|with_reducible refine wV fun _=>?_|simp [go_sem, GH, hegl]
       refine zBm (hrec (d - 1) (by omega) (k + 1) (by omega)) ?_ (by simp)
       simp [go_sem, zah, GH, hgh, hs, hq0, hq1]
   ·obtain rfl : k = g.kinds.length := by omega
    rw [hte]
    repeat first|with_reducible refine wV fun _=>?_|simp [go_sem, GH, hegl]
  ·omega
  ·simp [go_sem, zah, GH, hgh]
  ·simp
 have hz6 : ¬ op = 6 := h6
 unfold zdv
 rw [if_neg h6]
 by_cases h7 : op = 7
 ·subst h7
  obtain ⟨hx1, hx2, hx3, hx4⟩ : 0 ≤ a ∧ a.toNat < p.at_.length ∧ 0 ≤ b ∧ b.toNat < p.at_.length := by omega
  rw [if_pos rfl]
  have hW1 := zeQ p hf a (nth p.at_ b.toNat) hx1 hx2
  have hW2 := zeQ { p with at_ := p.at_.set a.toNat (nth p.at_ b.toNat) } ⟨by simpa [zeS] using hf.1, hf.2⟩ b 0 hx3 (by simpa using hx4)
  simp only at hW2 ⊢
  obtain ⟨A, hA⟩ : ∃ A, A = p.at_.set a.toNat (nth p.at_ b.toNat) := ⟨_, rfl⟩
  rw [← hA] at hW1 hW2 ⊢
  obtain ⟨B, hB⟩ : ∃ B, B = A.set b.toNat 0 := ⟨_, rfl⟩
  rw [← hB] at hW2 ⊢
  by_cases hz : nth p.at_ b.toNat ≠ 0 ∧ nth p.at_ a.toNat = 0
  ·rw [if_pos hz]
   obtain ⟨z1, z2⟩ := hz
   have z3 : ¬ nth p.at_ b.toNat = 0 := z1
   (repeat (first|with_reducible (first|refine wL fun _=>?_|refine wD fun _=>?_|refine wE ?_)|simp [go_sem, GH, hegl, hx2, hx4, z3, z2]))
   refine zn2.split 14 ?_
   repeat first|with_reducible refine wV fun _=>?_|simp [go_sem, GH, hegl, hx2, hx4, z3, z2]
   refine zBq hW1 (by simp [go_sem]) ?_
   repeat first|with_reducible refine wV fun _=>?_|simp [go_sem, GH, hegl, hx2, hx4, z3, z2]
   refine zBq hW2 (by simp [go_sem]) ?_
   repeat first|with_reducible refine wV fun _=>?_|simp [go_sem, GH, hegl]
   refine zsO.mk (more := 0) (xs := zcC ⟨B, p.h0, p.h1, p.rights, p.side⟩) (rs := []) _ (by simp [upd, GH]) (.refl _) (.refl _ _ _ _) (by simp [go_sem, zcC]) ?_ ?_
   ·repeat first|with_reducible refine wV fun _=>?_|simp [go_sem, GH, hegl]
   ·repeat first|with_reducible refine wV fun _=>?_|simp [go_sem, GH, hegl]
  ·rw [if_neg hz]
   have z4 : nth p.at_ b.toNat = 0 ∨ ¬ nth p.at_ a.toNat = 0 := by
    by_cases h : nth p.at_ b.toNat = 0
    ·exact .inl h
    ·exact .inr fun h2 => hz ⟨h, h2⟩
   rcases z4 with z4 | z4
   ·repeat first|with_reducible refine wV fun _=>?_|simp [go_sem, GH, hegl, hx2, hx4, z4]
   ·repeat first|with_reducible refine wV fun _=>?_|simp [go_sem, GH, hegl, hx2, hx4, z4]
 rw [if_neg h7]
 by_cases h10 : op = 10
 ·subst h10
  rw [if_pos rfl]
  have hr4 := hg.r4
  have hx1 : 0 ≤ a ∧ a < 4 := by omega
  have hpw : (1 : Int) ≤ 2 ^ a.toNat ∧ (2 : Int) ^ a.toNat ≤ 8 := by
   rcases (show a.toNat = 0 ∨ a.toNat = 1 ∨ a.toNat = 2 ∨ a.toNat = 3 by omega) with h | h | h | h <;> rw [h] <;> decide
  unfold zqX
  generalize hgp : (2 : Int) ^ a.toNat = pw at *
  by_cases hz : zhO .i64 p.rights pw = 0
  ·rw [if_pos (by simpa using hz)]
   have ha0 : 0 ≤ a := hx1.1
   have ha1 : a ≤ 64 := by omega
   repeat first|with_reducible refine wV fun _=>?_|simp [go_sem, GH, hegl, hz, hgp]
   refine aGC.yld (more := 0) (xs := zcC p) (rs := [zcC { p with rights := orN .i64 p.rights pw }]) _ (by simp [upd, GH]) (.refl _) (.refl _ _ _ _) (by simp [go_sem, zcC]) ?_ ?_
   ·repeat first|with_reducible refine wV fun _=>?_|simp [go_sem, GH, hegl, hgp]
    refine zsO.mk (more := 0) (xs := zcC { p with rights := orN .i64 p.rights pw }) (rs := []) _ (by simp [upd, GH]) (.refl _) (.refl _ _ _ _) (by simp [go_sem, zcC]) ?_ ?_
    ·repeat first|with_reducible refine wV fun _=>?_|simp [go_sem, GH, hegl]
    ·repeat first|with_reducible refine wV fun _=>?_|simp [go_sem, GH, hegl]
   ·repeat first|with_reducible refine wV fun _=>?_|simp [go_sem, GH, hegl]
  ·rw [if_neg (by simpa using hz)]
   repeat first|with_reducible refine wV fun _=>?_|simp [go_sem, GH, hegl, hz, hgp]
   refine aGC.skip (.v (.bool true)) ?_
   repeat first|with_reducible refine wV fun _=>?_|simp [go_sem, GH, hegl]
 ·rw [if_neg h10]
  repeat first|with_reducible refine wV fun _=>?_|simp [go_sem, GH, hegl, h6, h7, h10]
  refine zsO.mk (more := 0) (xs := zcC p) (rs := []) _ (by simp [upd, GH]) (.refl _) (.refl _ _ _ _) (by simp [go_sem, zcC]) ?_ ?_
  ·repeat first|with_reducible refine wV fun _=>?_|simp [go_sem, GH, hegl]
  ·repeat first|with_reducible refine wV fun _=>?_|simp [go_sem, GH, hegl]
def zkR (n : Nat) : AV := .fn (.func 260) [] [.ref (n + 2) 0 1 0 0, .ref (n + 1) 0 5 0 0, .ref n 0 9 0 0]
def zkS (g : zaf) (p : zaj) (l : List zct) (n : Nat) : List (Nat × zbt) := [(n, .rows true 0 9 [zab g]), (n + 1, .rows true 0 5 [zad p]), (n + 2, .rows true 0 1 [[zaY l]])]
theorem ziN (g : zaf) (p : zaj) (l : List zct) : zgp Tryz.prog 203 [.agg (zab g), .agg (zad p), zaY l] zkR (zkS g p l) 3 := by
 refine ⟨?_, fun n => ⟨by simp [go_sem, zkR], by simp [go_sem, zkS]⟩⟩
 refine zBp (by kernel_rfl) Tryz.func203 rfl rfl (Nat.le_of_ble_eq_true rfl) (by kernel_rfl) ?_
 repeat first|with_reducible refine wV fun _=>?_|simp [go_sem, zkR, zkS]
 simp [go_sem, zah]
theorem zrp (g : zaf) (hg : GOk g) : ∀ (n : Nat) (acts : List zct) (p : zaj), acts.length = n → n ≤ 1048576 → POk g p → (∀ a ∈ acts, zdg g.cells g.kinds.length g.rights a) →
  znM Tryz.prog 260 [.fp [zaY acts], .fp (zad p), .fp (zab g)] 0 ((zcH g p.side p acts.reverse).map zcC) := by
 intro n
 induction n with
 | zero =>
  intro acts p hn _ hp _
  obtain rfl := List.eq_nil_of_length_eq_zero hn
  refine zBH (by kernel_rfl) Tryz.func260 rfl rfl (Nat.le_of_ble_eq_true rfl) (by kernel_rfl) (fun l => ?_) (hm2 := by decide)
  have e : (zcH g p.side p ([] : List zct).reverse).map zcC = [zcC p] := rfl
  rw [e]
  repeat first|with_reducible refine wV fun _=>?_|simp [go_sem, GH]
  refine zsO.mk (more := 0) (xs := zcC p) (rs := []) _ (by simp [upd, GH]) (.refl _) (.refl _ _ _ _) (by simp [go_sem, zcC]) ?_ ?_
  ·repeat first|with_reducible refine wV fun _=>?_|simp [go_sem, GH]
  ·repeat first|with_reducible refine wV fun _=>?_|simp [go_sem, GH]
 | succ n ih =>
  intro acts p hn hn2 hp hacts
  obtain ⟨init, x, he⟩ : ∃ init x, acts = init ++ [x] := by
   rcases List.eq_nil_or_concat acts with h | ⟨i, x, h⟩
   ·rw [h] at hn; cases hn
   ·exact ⟨i, x, by rw [h, List.concat_eq_append]⟩
  have hin : init.length = n := by rw [he, List.length_append, List.length_singleton] at hn; omega
  have hx := hacts x (by rw [he]; simp)
  have hacts' : ∀ a ∈ init, zdg g.cells g.kinds.length g.rights a := fun a ha => hacts a (by rw [he]; simp [ha])
  have er : zcH g p.side p acts.reverse = (zdv g p.side p x).flatMap fun q => zcH g p.side q init.reverse := by rw [he, List.reverse_append]; rfl
  have hnt : nth (acts.map zaE) n = zaE x := by
   rw [zbg _ _ _ (by omega), zaJ _ _ (by omega)]
   simp [he, ← hin]
  have htk : (acts.map zaE).take n = init.map zaE := by rw [he, List.map_append, List.take_left' (by simp [hin])]
  clear he
  have hU : zgp Tryz.prog 261 [.agg (zab g), .agg (zad p), .agg (zaE x)] (fun n => zxg n) (fun n => zxh g p x n) 3 := zxi g p x
  simp only [zxg, zxh] at hU
  have hQ := zxj g hg p hp x hx
  have hok := zsr hg hp.s hp hx
  have hAll : ∀ q, POk g q → zgp Tryz.prog 203 [.agg (zab g), .agg (zad q), zaY init] (fun n => zkR n) (fun n => zkS g q init n) 3 := fun q _ => ziN g q init
  simp only [zkR, zkS] at hAll
  have hSeq := fun (q : zaj) (hq : POk g q) => ih init q hin (by omega) hq hacts'
  refine zBH (by kernel_rfl) Tryz.func260 rfl rfl (Nat.le_of_ble_eq_true rfl) (by kernel_rfl) (fun l => ?_) (hm2 := by decide)
  have hgh : ∀ (n : Nat) (L : List zaj), Bel n (zbi l 0 (L.map zcC)) = True := fun n (L : List zaj) => eq_true zvu
  have hgh2 : ∀ (n : Nat) (a b : List zaj), Bel n (zbi l 0 (a.map zcC ++ b.map zcC)) = True := fun n a b => by rw [← List.map_append]; exact hgh n _
  have hegl : (zab g).length = 9 := rfl
  have hegb : ∀ n, (∀ c ∈ zab g, Bel n c) = True := fun n => by simp [go_sem]
  rw [er]
  generalize zdv g p.side p x = qs at *
  have hlt : n < acts.length := by omega
  have hzero : ((n : Int) + 1 = 0) = False := eq_false (by omega)
  (repeat (first|with_reducible (first|refine wL fun _=>?_|refine wD fun _=>?_|refine wE ?_)|simp [go_sem, GH, hn, hnt, hlt, hzero]))
  refine zn2.split 6 ?_
  repeat first|with_reducible refine wV fun _=>?_|simp [go_sem, GH, hn, hnt, hlt, hzero]
  refine zBs hU (by simp [go_sem]) ?_
  repeat first|with_reducible refine wV fun _=>?_|simp [go_sem, GH]
  have hep : zad p = [zas p.at_, zas p.h0, zas p.h1, .v (.int .i64 p.rights), .v (.int .i64 p.side)] := rfl
  refine zey.give [.fp (zaE x), .fp (zab g), .ref 0 0 5 0 0] (zaL _ [11, 9]) 10 [zad p] hQ (zc6 _ _) (by simp [zaL, zaS, upd]; rfl) (.refl _) (by simp [go_sem]) ?_ (fun xs hx => by obtain ⟨y, _, rfl⟩ := List.mem_map.1 hx; rfl) ?_
  ·simp only [zrx, znJ, znI, and_true]
   refine ⟨.frzP rfl ?_ ?_ ?_ ?_, ?_, .frzP rfl ?_ ?_ ?_ ?_, ?_⟩ <;> first | exact zai.refl _ _ _ _ | (simp [zaL, zaS, upd]; done) | (simp [go_sem]; done)
  ·refine Fgt.to (zBF (α := List zaj) (fun qs => ([(1, .fp [zaY acts]), (3, .fp (zab g)), (4, .ref 0 0 1 0 0), (5, .ref 1 0 1 0 0), (1000000007, zbi l 0 ((qs.flatMap fun q => zcH g p.side q init.reverse).map zcC))], [(0, .rows true 0 1 [[.fn (.yield l) [] []]]), (1, .rows true 0 1 [[.v (.int .i64 n)]])], 2))
    (fun rows qs => rows = qs.map zcC ∧ ∀ q ∈ qs, POk g q ∧ q.side = p.side) ?_ ?_ _ qs ?_) ?_ ?_
   ·rintro qs ⟨i1, i2⟩
    obtain rfl : qs = [] := by
     cases qs with
     | nil => rfl
     | cons => cases i1
    refine ⟨rfl, ?_⟩
    repeat first|with_reducible refine wV fun _=>?_|simp [go_sem, GH]
   ·rintro xs rs qs ⟨i1, i2⟩ hrec
    obtain ⟨q, qs, rfl⟩ : ∃ q t, qs = q :: t := by
     cases qs with
     | nil => cases i1
     | cons q t => exact ⟨q, t, rfl⟩
    rw [List.map_cons, List.cons.injEq] at i1
    obtain ⟨rfl, rfl⟩ := i1
    obtain ⟨hq, hqs⟩ := i2 q (by simp)
    have hA := hAll q hq
    have hS := hSeq q hq
    rw [hqs] at hS
    rw [List.flatMap_cons]
    refine zBI (Nat.zero_le _) ?_
    (repeat (first|with_reducible (first|refine wL fun _=>?_|refine wD fun _=>?_|refine wE ?_)|simp [go_sem, GH, zcC]))
    refine zn2.split 5 ?_
    have hcn : ((n : Int)).toNat = n := by omega
    repeat first|with_reducible refine wV fun _=>?_|simp [go_sem, GH, hn, htk, hcn]
    refine zBs hA (by simp [go_sem]) ?_
    repeat first|with_reducible refine wV fun _=>?_|simp [go_sem, GH]
    refine zey.mk [.fp [zaY init], .fp (zad q), .fp (zab g)] (zaL _ [9, 10, 11]) hS (zc6 _ _) ?_ (by simp [go_sem]) (fun xs hx => by obtain ⟨y, _, rfl⟩ := List.mem_map.1 hx; rfl) ?_
    ·refine zai.cons (.frzP rfl ?_ ?_ ?_ ?_) (zai.cons (.frzP rfl ?_ ?_ ?_ ?_) (zai.cons (.frzP rfl ?_ ?_ ?_ ?_) .nil)) <;> first | exact zai.refl _ _ _ _ | (simp [zaL, zaS, upd]; done)
    generalize hrest : (qs.flatMap fun q => zcH g p.side q init.reverse) = rest at *
    generalize zcH g p.side q init.reverse = ys at *
    refine Fgt.to (zBF (α := List zaj) (fun ys => ([(1, .fp [zaY acts]), (3, .fp (zab g)), (4, .ref 0 0 1 0 0), (5, .ref 1 0 1 0 0), (1000000007, zbi l 0 ((ys ++ rest).map zcC))], [(0, .rows true 0 1 [[.fn (.yield l) [] []]]), (1, .rows true 0 1 [[.v (.int .i64 n)]])], 2))
     (fun rows ys => rows = ys.map zcC) ?_ ?_ _ ys rfl) ?_ ?_
    ·rintro ys i1
     obtain rfl : ys = [] := by
      cases ys with
      | nil => rfl
      | cons => cases i1
     refine ⟨rfl, ?_⟩
     repeat first|with_reducible refine wV fun _=>?_|simp [go_sem, GH]
     refine Fgt.to (hrec qs ⟨rfl, fun z hz => i2 z (by simp [hz])⟩) ?_ (by simp)
     simp [go_sem, zah, hgh, GH, hrest]
    ·rintro xs rs ys i1 hrec2
     obtain ⟨y, ys, rfl⟩ : ∃ q t, ys = q :: t := by
      cases ys with
      | nil => cases i1
      | cons q t => exact ⟨q, t, rfl⟩
     rw [List.map_cons, List.cons.injEq] at i1
     obtain ⟨rfl, rfl⟩ := i1
     rw [List.cons_append]
     refine zBI (Nat.le_refl _) ?_
     repeat first|with_reducible refine wV fun _=>?_|simp [go_sem, GH, zcC]
     refine zsO.mk (more := 0) (xs := zcC y) (rs := (ys ++ rest).map zcC) _ (by simp [upd, GH]; rfl) (.refl _) (.refl _ _ _ _) (by simp [go_sem, zcC]) ?_ ?_
     ·repeat first|with_reducible refine wV fun _=>?_|simp [go_sem, GH]
      refine Fgt.to (hrec2 ys rfl) ?_ (by simp)
      simp [go_sem, zah, hgh, hgh2, GH]
     ·repeat first|with_reducible refine wV fun _=>?_|simp [go_sem, GH]
    ·simp [go_sem, zah, hgh, hgh2, GH]
    ·simp
   ·exact ⟨rfl, hok⟩
   ·simp [go_sem, zah, hgh, GH]
   ·simp
theorem nofz_A {l : List zct} : (∀ r ∈ l.map zaE, ∀ c ∈ r, zfr c) = True := by
 refine eq_true ?_
 intro r hr c hc
 obtain ⟨x, _, rfl⟩ := List.mem_map.1 hr
 revert c
 simp [go_sem]
attribute [go_sem ↓] nofz_A
theorem zuJ (m : Int) (h0 : 0 ≤ m) (h1 : m ≤ 17179869184) : zgp Tryz.prog 281 [zBu, .v (.int .i64 m)] (fun n => .sl n 0 3 0 0) (fun n => [(n, .rows true 0 3 [])]) 1 := by
 refine ⟨?_, fun n => ⟨by simp [go_sem], by simp [go_sem]⟩⟩
 by_cases hm : m = 0
 ·subst hm
  refine zBp (by kernel_rfl) Tryz.func281 rfl rfl (Nat.le_of_ble_eq_true rfl) (by kernel_rfl) ?_
  repeat first|with_reducible refine wV fun _=>?_|simp [go_sem]
  simp [go_sem, zah]
 ·refine zaa.clear ?_
  refine zBp (by kernel_rfl) Tryz.func281 rfl rfl (Nat.le_of_ble_eq_true rfl) (by kernel_rfl) ?_
  repeat first|with_reducible refine wV fun _=>?_|simp [go_sem]
  (refine zBo (fun hF => by first | omega | (simp at hF; omega)) (fun hF => ?_); clear hF)
  repeat first|with_reducible refine wV fun _=>?_|simp [go_sem]
  (refine zBo (fun hT => ?_) (fun hT => by first | omega | (simp at hT; omega)); clear hT)
  repeat first|with_reducible refine wV fun _=>?_|simp [go_sem]
  refine ⟨0, 0, 3, by decide, ⟨rfl, rfl, rfl⟩, ?_⟩
  simp [go_sem, zah]
theorem zpJ (a b : List zct) (ha : a.length ≤ 1048576) (hb : b.length ≤ 1048576) : zgp Tryz.prog 253 [.lst 1 [[zaY a], [zaY b]]]
  (fun n => .sl n 2 3 0 (a.length + b.length)) (fun n => [(n, .rows true 2 3 ((a ++ b).map zaE))]) 1 := by
 refine ⟨?_, fun n => ⟨by simp [go_sem], by simp [go_sem]⟩⟩
 refine zBp (by kernel_rfl) Tryz.func253 rfl rfl (Nat.le_of_ble_eq_true rfl) (by kernel_rfl) ?_
 repeat first|with_reducible refine wV fun _=>?_|simp [go_sem]
 refine zBv ?_
 repeat first|with_reducible refine wV fun _=>?_|simp [go_sem]
 (refine zBo (fun hF => by first | omega | (simp at hF; omega)) (fun hF => ?_); clear hF)
 repeat first|with_reducible refine wV fun _=>?_|simp [go_sem]
 refine zBv ?_
 repeat first|with_reducible refine wV fun _=>?_|simp [go_sem]
 (refine zBo (fun hF => by first | omega | (simp at hF; omega)) (fun hF => ?_); clear hF)
 repeat first|with_reducible refine wV fun _=>?_|simp [go_sem]
 refine zBv ?_
 repeat first|with_reducible refine wV fun _=>?_|simp [go_sem]
 refine zBs (zuJ _ (by omega) (by omega)) (by simp [go_sem]) ?_
 repeat first|with_reducible refine wV fun _=>?_|simp [go_sem]
 refine zBv ?_
 repeat first|with_reducible refine wV fun _=>?_|simp [go_sem]
 refine zBv ?_
 repeat first|with_reducible refine wV fun _=>?_|simp [go_sem]
 refine zBv ?_
 repeat first|with_reducible refine wV fun _=>?_|simp [go_sem]
 simp [go_sem, zah]
theorem zvY (p : za2) (to : Int) (more : List zct) (ha : p.acts.length ≤ 1048576) (hb : more.length ≤ 1048576) : zgp Tryz.prog 252 [.v (.int .i64 to), zaY more, .fp (zap p)]
  (fun n => .agg [.sl (n + 2) 2 3 0 (p.acts.length + more.length), .v (.int .i64 to)]) (fun n => [(n + 2, .rows true 2 3 ((p.acts ++ more).map zaE))]) 3 := by
 refine ⟨?_, fun n => ⟨by simp [go_sem], by simp [go_sem]⟩⟩
 refine zBp (by kernel_rfl) Tryz.func252 rfl rfl (Nat.le_of_ble_eq_true rfl) (by kernel_rfl) ?_
 repeat first|with_reducible refine wV fun _=>?_|simp [go_sem]
 refine zBC (zpJ p.acts more ha hb) (by simp [go_sem]) (by simp [go_sem]) ?_ (by simp [go_sem]) ?_
 ·simp only [zaY]
  refine zai.cons ?_ zai.nil
  refine zam rfl (by simp) (by simp [noH, upd]) ?_
  simp [go_sem]
 ·repeat first|with_reducible refine wV fun _=>?_|simp [go_sem]
  simp [go_sem, zah]
theorem zhB (p : za2) : ∀ (l : List Int) (passed : List zct) (c : Int), zch p (l ++ [c]) passed = zch p l passed ++ [onP p c (passed ++ l.map fun c => (3, c, 0))]
 | [], passed, c => by simp [zch, onP]
 | d :: l, passed, c => by simp [zch, zhB p l]
def zia (l : List Int) : List zct := l.map fun c => (3, c, 0)
theorem zpp (l : List Int) (c : Int) : zia (l ++ [c]) = zia l ++ [(3, c, 0)] := by simp [zia]
theorem zwQ (l : List Int) : (zia l).length = l.length := by simp [zia]
theorem zrj (p : za2) (l : List Int) {i : Nat} (h : i < l.length) : zch p (l.take (i + 1)) [] = zch p (l.take i) [] ++ [onP p (nth l i) (zia (l.take i))] ∧ zia (l.take (i + 1)) = zia (l.take i) ++ [(3, nth l i, 0)] := by
 rw [List.take_add_one, List.getElem?_eq_getElem h, zaJ _ _ h, Option.toList_some, zhB, zpp]
 exact ⟨by simp [zia], rfl⟩
theorem zqI (b : zaM) (hb : za7 b) (h9 : b.cells ≤ 9) (side : Int) (p : za2) (hp : p.acts.length ≤ 1000000) (x : Int × Int) :
  zaC Tryz.prog 192 [.agg (zdf b), .v (.int .i64 side), .agg (zap p), .agg [.v (.int .i64 x.1), .v (.int .i64 x.2)]] (zaX (zi8 b side p x)) := by
 refine pF Tryz.func192 ?_
 obtain ⟨op, N⟩ := x
 have hT := zi4 b hb side N p.to
 have hL := zlC b hb side N p.to
 have hll := zjd hb (side := side) (d := N) (c := p.to)
 have hO := fun to more (h : more.length ≤ 1048576) => zvY p to more (by omega) h
 have hE : zi8 b side p (op, N) = if op = 1 ∨ op = 7 then
  if toB b side N p.to < 0 then [] else if op = 1 then [onP p (toB b side N p.to) []] else [onP p p.to [(7, p.to, toB b side N p.to)]]
  else if op = 2 then zch p (zfL b side N p.to) []
  else if op = 8 ∨ op = 9 ∨ op = 10 then [onP p p.to [(op, N, 0)]]
  else [onP p p.to [(op, p.to, 0)]] := rfl
 generalize toB b side N p.to = to at *
 generalize zfL b side N p.to = line at *
 generalize zi8 b side p (op, N) = R at *
 have hbl : ∀ n, (∀ c' ∈ zdf b, Bel n c') = True := fun n => by simp [go_sem]
 have hel : (zdf b).length = 3 := rfl
 have hte : (zdf b).take 3 = zdf b := rfl
 obtain ⟨eb, heb⟩ : ∃ eb, eb = zdf b := ⟨_, rfl⟩
 rw [← heb] at hbl hel hT hL hte ⊢
 repeat first|with_reducible refine wV fun _=>?_|simp [go_sem, hel, hte]
 refine zBo (fun h1 => ?_) (fun h1 => ?_) <;> simp at h1
 ·subst h1
  repeat first|with_reducible refine wV fun _=>?_|simp [go_sem, hel, hte]
  refine zBn hT (by simp [go_sem, hbl]) ?_
  repeat first|with_reducible refine wV fun _=>?_|simp [go_sem, hel, hte]
  refine zBo (fun ht => ?_) (fun ht => ?_) <;> simp at ht
  ·rw [if_pos (by omega), if_pos ht] at hE
   rw [hE]
   repeat first|with_reducible refine wV fun _=>?_|simp [go_sem, hel, hte]
  ·rw [if_pos (by omega), if_neg (by omega), if_pos rfl] at hE
   rw [hE]
   repeat first|with_reducible refine wV fun _=>?_|simp [go_sem, hel, hte]
   refine zBC (hO to [] (by simp)) (by simp [go_sem]) (by simp [go_sem]) ?_ (by simp [go_sem]) ?_
   ·(first|done|exact leX)
   ·repeat first|with_reducible refine wV fun _=>?_|simp [go_sem, hel, hte, onP]
    (first|done|exact leX)
 ·repeat first|with_reducible refine wV fun _=>?_|simp [go_sem, hel, hte]
  refine zBo (fun h7 => ?_) (fun h7 => ?_) <;> simp at h7
  ·subst h7
   repeat first|with_reducible refine wV fun _=>?_|simp [go_sem, hel, hte]
   refine zBn hT (by simp [go_sem, hbl]) ?_
   repeat first|with_reducible refine wV fun _=>?_|simp [go_sem, hel, hte]
   refine zBo (fun ht => ?_) (fun ht => ?_) <;> simp at ht
   ·rw [if_pos (by omega), if_pos ht] at hE
    rw [hE]
    repeat first|with_reducible refine wV fun _=>?_|simp [go_sem, hel, hte]
   ·rw [if_pos (by omega), if_neg (by omega), if_neg (by omega)] at hE
    rw [hE]
    repeat first|with_reducible refine wV fun _=>?_|simp [go_sem, hel, hte]
    refine zBC (hO p.to [(7, p.to, to)] (by simp)) (by simp [go_sem]) (by simp [go_sem]) ?_ (by simp [go_sem]) ?_
    ·(first|done|exact leX)
    ·repeat first|with_reducible refine wV fun _=>?_|simp [go_sem, hel, hte, onP]
     (first|done|exact leX)
  ·rw [if_neg (by omega)] at hE
   repeat first|with_reducible refine wV fun _=>?_|simp [go_sem, hel, hte]
   refine zBo (fun h2 => ?_) (fun h2 => ?_) <;> simp at h2
   ·subst h2
    rw [if_pos rfl] at hE
    repeat first|with_reducible refine wV fun _=>?_|simp [go_sem, hel, hte]
    refine zBn hL (by simp [go_sem, hbl]) ?_
    repeat first|with_reducible refine wV fun _=>?_|simp [go_sem, hel, hte]
    refine zBm (zBr (α := Nat) (fun i => ⟨[(9, .fn (.func 252) [] [.ref 1 0 2 0 0]), (11, .sl 3 i 2 0 i), (12, .sl 4 i 3 0 i), (55, zas line), (56, .v (.int .i64 line.length)), (57, .v (.int .i64 i))],
      [(1, .rows true 0 2 [zap p]), (3, .rows true i 2 ((zch p (line.take i) []).map zap)), (4, .rows true i 3 ((zia (line.take i)).map zaE))], 5⟩)
     (fun d i => i + d = line.length) ?_ line.length 0 ?_) ?_ ?_
    ·rintro d i i1 hrec
     have hsl : (zch p (line.take i) []).length = i := by rw [zih]; simp; omega
     have hpl : (zia (line.take i)).length = i := by rw [zwQ]; simp; omega
     repeat first|with_reducible refine wV fun _=>?_|simp [go_sem, hel, hte]
     refine zBo (fun hi => ?_) (fun hi => ?_) <;> simp at hi
     ·obtain ⟨s1, s2⟩ := zrj p line hi
      repeat first|with_reducible refine wV fun _=>?_|simp [go_sem, hi]
      refine zBC (hO (nth line i) (zia (line.take i)) (by omega)) (by simp [go_sem]) (by simp [go_sem]) ?_ (by simp [go_sem]) ?_
      ·((try simp only [zar, zau, zaE, zaY, zap, zaX, zat, zal, zad, za9, zaQ, zaz, zas, zab, List.map_cons, List.map_nil, List.nil_append, List.append_nil, List.cons_append]); (repeat (first | (with_reducible first|exact zai.nil|exact zae.nil|exact LeV.refl _|exact zai.refl _ _ _ _|exact zae.refl _|refine zai.cons ?_ ?_|refine zae.cons ?_ ?_|refine LeV.agg ?_|refine LeV.tup ?_|refine LeV.fn ?_ ?_|exact LeV.nil _|refine zag (zae.refl _) ?_) | ((refine zam rfl (by simp [hpl]) (by simp [zaL, zaS, upd, noH]) ?_); (first | (simp [go_sem, hpl]; done) | (simp [go_sem, hpl]; exact List.take_of_length_le (by simp [hpl])))) | ((refine LeV.frz rfl (by simp [hpl]) (by simp [zaL, zaS, upd, noH]) ?_); (simp only [List.drop_zero, List.take_succ_cons, List.take_zero, List.map_cons, List.map_nil])) | ((refine LeV.frzP rfl (by simp [hpl]) (by simp) (by simp [zaL, zaS, upd, noH]) ?_); (simp only [zaw, List.drop_zero])))))
      ·repeat first|with_reducible refine wV fun _=>?_|simp [go_sem, hi, hsl, hpl]
       refine zBm (hrec (d - 1) (by omega) (i + 1) (by omega)) ?_ (by simp)
       simp [go_sem, zah, s1, s2, onP, hpl]
       ((try simp only [zar, zau, zaE, zaY, zap, zaX, zat, zal, zad, za9, zaQ, zaz, zas, zab, List.map_cons, List.map_nil, List.nil_append, List.append_nil, List.cons_append]); (repeat (first | (with_reducible first|exact zai.nil|exact zae.nil|exact LeV.refl _|exact zai.refl _ _ _ _|exact zae.refl _|refine zai.cons ?_ ?_|refine zae.cons ?_ ?_|refine LeV.agg ?_|refine LeV.tup ?_|refine LeV.fn ?_ ?_|exact LeV.nil _|refine zag (zae.refl _) ?_) | ((refine zam rfl (by simp [hpl]) (by simp [zaL, zaS, upd, noH]) ?_); (first | (simp [go_sem, hpl]; done) | (simp [go_sem, hpl]; exact List.take_of_length_le (by simp [hpl])))) | ((refine LeV.frz rfl (by simp [hpl]) (by simp [zaL, zaS, upd, noH]) ?_); (simp only [List.drop_zero, List.take_succ_cons, List.take_zero, List.map_cons, List.map_nil])) | ((refine LeV.frzP rfl (by simp [hpl]) (by simp) (by simp [zaL, zaS, upd, noH]) ?_); (simp only [zaw, List.drop_zero])))))
     ·have hil : i = line.length := by omega
      subst hil
      rw [List.take_length] at hsl ⊢
      rw [hE]
      repeat first|with_reducible refine wV fun _=>?_|simp [go_sem, hsl]
      ((try simp only [zar, zau, zaE, zaY, zap, zaX, zat, zal, zad, za9, zaQ, zaz, zas, zab, List.map_cons, List.map_nil, List.nil_append, List.append_nil, List.cons_append]); (repeat (first | (with_reducible first|exact zai.nil|exact zae.nil|exact LeV.refl _|exact zai.refl _ _ _ _|exact zae.refl _|refine zai.cons ?_ ?_|refine zae.cons ?_ ?_|refine LeV.agg ?_|refine LeV.tup ?_|refine LeV.fn ?_ ?_|exact LeV.nil _|refine zag (zae.refl _) ?_) | ((refine zam rfl (by simp [hsl]) (by simp [zaL, zaS, upd, noH]) ?_); (first | (simp [go_sem, hsl]; done) | (simp [go_sem, hsl]; exact List.take_of_length_le (by simp [hsl])))) | ((refine LeV.frz rfl (by simp [hsl]) (by simp [zaL, zaS, upd, noH]) ?_); (simp only [List.drop_zero, List.take_succ_cons, List.take_zero, List.map_cons, List.map_nil])) | ((refine LeV.frzP rfl (by simp [hsl]) (by simp) (by simp [zaL, zaS, upd, noH]) ?_); (simp only [zaw, List.drop_zero])))))
    ·simp
    ·simp [go_sem, zah, zch, zia]
    ·simp
   ·rw [if_neg h2] at hE
    repeat first|with_reducible refine wV fun _=>?_|simp [go_sem, hel, hte]
    refine zBo (fun h8 => ?_) (fun h8 => ?_) <;> simp at h8
    ·subst h8
     rw [if_pos (by omega)] at hE
     rw [hE]
     repeat first|with_reducible refine wV fun _=>?_|simp [go_sem, hel, hte]
     refine zBC (hO p.to [(8, N, 0)] (by simp)) (by simp [go_sem]) (by simp [go_sem]) ?_ (by simp [go_sem]) ?_
     ·(first|done|exact leX)
     ·repeat first|with_reducible refine wV fun _=>?_|simp [go_sem, hel, hte, onP]
      (first|done|exact leX)
    ·repeat first|with_reducible refine wV fun _=>?_|simp [go_sem, hel, hte]
     refine zBo (fun h99 => ?_) (fun h99 => ?_) <;> simp at h99
     ·subst h99
      rw [if_pos (by omega)] at hE
      rw [hE]
      repeat first|with_reducible refine wV fun _=>?_|simp [go_sem, hel, hte]
      refine zBC (hO p.to [(9, N, 0)] (by simp)) (by simp [go_sem]) (by simp [go_sem]) ?_ (by simp [go_sem]) ?_
      ·(first|done|exact leX)
      ·repeat first|with_reducible refine wV fun _=>?_|simp [go_sem, hel, hte, onP]
       (first|done|exact leX)
     ·repeat first|with_reducible refine wV fun _=>?_|simp [go_sem, hel, hte]
      refine zBo (fun h10 => ?_) (fun h10 => ?_) <;> simp at h10
      ·subst h10
       rw [if_pos (by omega)] at hE
       rw [hE]
       repeat first|with_reducible refine wV fun _=>?_|simp [go_sem, hel, hte]
       refine zBC (hO p.to [(10, N, 0)] (by simp)) (by simp [go_sem]) (by simp [go_sem]) ?_ (by simp [go_sem]) ?_
       ·(first|done|exact leX)
       ·repeat first|with_reducible refine wV fun _=>?_|simp [go_sem, hel, hte, onP]
        (first|done|exact leX)
      ·rw [if_neg (by omega)] at hE
       rw [hE]
       repeat first|with_reducible refine wV fun _=>?_|simp [go_sem, hel, hte]
       refine zBC (hO p.to [(op, p.to, 0)] (by simp)) (by simp [go_sem]) (by simp [go_sem]) ?_ (by simp [go_sem]) ?_
       ·(first|done|exact leX)
       ·repeat first|with_reducible refine wV fun _=>?_|simp [go_sem, hel, hte, onP]
        (first|done|exact leX)
def zqK {α β : Type} (F : α → List β) (l : List α) (i : Nat) : List β := (l.take i).flatMap F
theorem zoP {α β : Type} [Inhabited α] (F : α → List β) (l : List α) {i : Nat} (h : i < l.length) : zqK F l (i + 1) = zqK F l i ++ F (nth l i) := by
 unfold zqK
 rw [List.take_add_one, List.getElem?_eq_getElem h, zaJ _ _ h, Option.toList_some, List.flatMap_append]
 simp
theorem zoQ {α β : Type} (F : α → List β) (l : List α) : zqK F l 0 = [] := by simp [zqK]
theorem zi9 {α β : Type} (F : α → List β) (l : List α) : zqK F l l.length = l.flatMap F := by simp [zqK]
theorem zne {α β : Type} (F : α → List β) (l : List α) (i : Nat) : (zqK F l i).length ≤ (l.flatMap F).length := by
 unfold zqK
 conv => rhs; rw [← List.take_append_drop i l]
 rw [List.flatMap_append, List.length_append]
 omega
theorem ztJ (l : List (List (Int × Int))) (hl : l.length ≤ 1048576) (f : FuncId) (caps : List AV) (F : List (Int × Int) → List za2) (hF : ∀ x ∈ l, zaC Tryz.prog f (zar x :: caps) (zaX (F x))) (hb : ∀ c ∈ caps, Bel 0 c)
  (hn : (l.flatMap F).length ≤ 8589934592) : zaC Tryz.prog 146 [.lst 1 (l.map fun p => [zar p]), .fn (.func f) [] caps] (zaX (l.flatMap F)) := by
 refine pF Tryz.func146 ?_
 rw [← zi9 F l] at hn ⊢
 repeat first|with_reducible refine wV fun _=>?_|simp [go_sem]
 refine zBm (zBr (α := Nat) (fun i => ⟨[(1, .fn (.func f) [] caps), (5, .sl 0 i 2 0 (zqK F l i).length), (8, .lst 1 (l.map fun p => [zar p])), (9, .v (.int .i64 l.length)), (10, .v (.int .i64 i))], [(0, .rows true i 2 ((zqK F l i).map zap))], 1⟩)
  (fun d i => i + d = l.length) ?_ l.length 0 ?_) ?_ ?_
 ·rintro d i i1 hrec
  have hni := zne F l i
  repeat first|with_reducible refine wV fun _=>?_|simp [go_sem]
  refine zBo (fun hi => ?_) (fun hi => ?_) <;> simp at hi
  ·have hs := zoP F l hi
   have hns := zne F l (i + 1)
   rw [hs, List.length_append] at hns
   rw [zi9] at hn
   repeat first|with_reducible refine wV fun _=>?_|simp [go_sem, hi]
   refine zBn (hF _ (zan hi)) (by simp [go_sem]; exact hb) ?_
   repeat first|with_reducible refine wV fun _=>?_|simp [go_sem, hi]
   refine zBm (hrec (d - 1) (by omega) (i + 1) (by omega)) ?_ (by simp)
   simp [go_sem, zah, hs]
   exact fun c hc => (hb c hc).mono (Nat.zero_le _)
  ·have hil : i = l.length := by omega
   subst hil
   generalize zqK F l l.length = R at *
   repeat first|with_reducible refine wV fun _=>?_|simp [go_sem]
   (first|done|exact leX)
 ·simp
 ·simp [go_sem, zah, zoQ]
  exact fun c hc => (hb c hc).mono (Nat.zero_le _)
 ·simp
theorem ztI (l : List za2) (hl : l.length ≤ 1073741824) (f : FuncId) (caps : List AV) (F : za2 → List za2) (hF : ∀ x ∈ l, zaC Tryz.prog f (.agg (zap x) :: caps) (zaX (F x))) (hb : ∀ c ∈ caps, Bel 0 c)
  (hn : (l.flatMap F).length ≤ 8589934592) : zaC Tryz.prog 190 [zaX l, .fn (.func f) [] caps] (zaX (l.flatMap F)) := by
 refine pF Tryz.func190 ?_
 rw [← zi9 F l] at hn ⊢
 repeat first|with_reducible refine wV fun _=>?_|simp [go_sem]
 refine zBm (zBr (α := Nat) (fun i => ⟨[(1, .fn (.func f) [] caps), (5, .sl 0 i 2 0 (zqK F l i).length), (8, zaX l), (9, .v (.int .i64 l.length)), (10, .v (.int .i64 i))], [(0, .rows true i 2 ((zqK F l i).map zap))], 1⟩)
  (fun d i => i + d = l.length) ?_ l.length 0 ?_) ?_ ?_
 ·rintro d i i1 hrec
  have hni := zne F l i
  repeat first|with_reducible refine wV fun _=>?_|simp [go_sem]
  refine zBo (fun hi => ?_) (fun hi => ?_) <;> simp at hi
  ·have hs := zoP F l hi
   have hns := zne F l (i + 1)
   rw [hs, List.length_append] at hns
   rw [zi9] at hn
   repeat first|with_reducible refine wV fun _=>?_|simp [go_sem, hi]
   refine zBn (hF _ (zan hi)) (by simp [go_sem]; exact hb) ?_
   repeat first|with_reducible refine wV fun _=>?_|simp [go_sem, hi]
   refine zBm (hrec (d - 1) (by omega) (i + 1) (by omega)) ?_ (by simp)
   simp [go_sem, zah, hs]
   exact fun c hc => (hb c hc).mono (Nat.zero_le _)
  ·have hil : i = l.length := by omega
   subst hil
   generalize zqK F l l.length = R at *
   repeat first|with_reducible refine wV fun _=>?_|simp [go_sem]
   (first|done|exact leX)
 ·simp
 ·simp [go_sem, zah, zoQ]
  exact fun c hc => (hb c hc).mono (Nat.zero_le _)
 ·simp
theorem zra (b : zaM) (hb : za7 b) (h9 : b.cells ≤ 9) (side : Int) (p : za2) (hp : p.acts.length ≤ 1000000) (x : Int × Int) :
  zaC Tryz.prog 191 [.agg (zap p), .fp (zdf b), .fp [.v (.int .i64 side)], .fp [.v (.int .i64 x.1), .v (.int .i64 x.2)]] (zaX (zi8 b side p x)) := by
 refine pF Tryz.func191 ?_
 have hE := zqI b hb h9 side p hp x
 generalize zi8 b side p x = R at *
 repeat first|with_reducible refine wV fun _=>?_|simp [go_sem]
 refine zBn hE (by simp [go_sem]) ?_
 repeat first|with_reducible refine wV fun _=>?_|simp [go_sem]
def zdD (b : zaM) (side : Int) (prog : List (Int × Int)) (cell : Int) (i : Nat) : List za2 := zbF b side (prog.take i) cell
theorem zgQ (b : zaM) (side : Int) (prog : List (Int × Int)) (cell : Int) {i : Nat} (h : i < prog.length) : zdD b side prog cell (i + 1) = (zdD b side prog cell i).flatMap fun w => zi8 b side w (nth prog i) := by
 unfold zdD zbF
 rw [List.take_add_one, List.getElem?_eq_getElem h, zaJ _ _ h, Option.toList_some, List.foldl_append]
 rfl
theorem ze9 {b : zaM} (hb : za7 b) (h9 : b.cells ≤ 9) (side : Int) (prog : List (Int × Int)) (cell : Int) : ∀ i, i ≤ prog.length → zik (10 * i) (zdD b side prog cell i)
 | 0, _ => by
  intro w hw
  simp [zdD, zbF] at hw
  subst hw
  simp
 | i + 1, h => by
  rw [zgQ b side prog cell (by omega)]
  exact zuq hb h9 side (ze9 hb h9 side prog cell i (by omega)) _
theorem zib {b : zaM} (hb : za7 b) (h1 : 1 ≤ b.cells) (h9 : b.cells ≤ 9) (side : Int) (prog : List (Int × Int)) (hp : prog.length ≤ 8) (cell : Int) (i : Nat) : (zdD b side prog cell i).length ≤ 43046721 := by
 have h := zic hb h1 side (prog.take i) cell
 have hc : zaI (prog.take i) 2 ≤ 8 := by
  unfold zaI
  have := List.countP_le_length (p := fun x : Int × Int => x.1 == 2) (l := prog.take i)
  simp at this
  omega
 have h2 : b.cells.toNat ^ zaI (prog.take i) 2 ≤ 9 ^ zaI (prog.take i) 2 := Nat.pow_le_pow_left (by omega) _
 have h3 : 9 ^ zaI (prog.take i) 2 ≤ 9 ^ 8 := Nat.pow_le_pow_right (by omega) hc
 unfold zdD
 omega
theorem zub (b : zaM) (hb : za7 b) (h1 : 1 ≤ b.cells) (h9 : b.cells ≤ 9) (side : Int) (prog : List (Int × Int)) (hp : prog.length ≤ 8) (cell : Int) :
  zaC Tryz.prog 148 [.agg (zdf b), .v (.int .i64 side), zar prog, .v (.int .i64 cell)] (zaX (zbF b side prog cell)) := by
 refine pF Tryz.func148 ?_
 have hR : zbF b side prog cell = zdD b side prog cell prog.length := by unfold zdD; rw [List.take_length]
 have hl := zib hb h1 h9 side prog hp cell
 have ha := ze9 hb h9 side prog cell
 have hs := fun (i : Nat) (h : i < prog.length) => zgQ b side prog cell h
 have h0 : zdD b side prog cell 0 = [⟨[], cell⟩] := rfl
 rw [hR]
 have hP := fun w hw x => zra b hb h9 side w hw x
 generalize zdD b side prog cell = K at *
 generalize hXb : zi8 b side = E at *
 have hbl : ∀ n, (∀ c' ∈ zdf b, Bel n c') = True := fun n => by simp [go_sem]
 have hel : (zdf b).length = 3 := rfl
 have hte : (zdf b).take 3 = zdf b := rfl
 obtain ⟨eb, heb⟩ : ∃ eb, eb = zdf b := ⟨_, rfl⟩
 rw [← heb] at hbl hel hte ⊢
 have hP' : ∀ w : za2, w.acts.length ≤ 1000000 → ∀ x : Int × Int, zaC Tryz.prog 191 [.agg (zap w), .fp eb, .fp [.v (.int .i64 side)], .fp [.v (.int .i64 x.1), .v (.int .i64 x.2)]] (zaX (E w x)) := fun w hw x => by rw [heb]; exact hP w hw x
 clear hP
 repeat first|with_reducible refine wV fun _=>?_|simp [go_sem, hel, hte]
 refine zBm (zBr (α := Nat) (fun i => ⟨[(4, .ref 0 0 3 0 0), (5, .ref 1 0 1 0 0), (9, zaX (K i)), (15, zar prog), (16, .v (.int .i64 prog.length)), (17, .v (.int .i64 i))], [(0, .rows false 0 3 [eb]), (1, .rows false 0 1 [[.v (.int .i64 side)]])], 2⟩)
  (fun d i => i + d = prog.length) ?_ prog.length 0 ?_) ?_ ?_
 ·rintro d i i1 hrec
  have hli := hl i
  repeat first|with_reducible refine wV fun _=>?_|simp [go_sem, hel, hte]
  refine zBo (fun hi => ?_) (fun hi => ?_) <;> simp at hi
  ·have hsi := hs i hi
   have hls := hl (i + 1)
   have hai := ha i (by omega)
   repeat first|with_reducible refine wV fun _=>?_|simp [go_sem, hel, hte, hi]
   refine zBt [2] (ztI (K i) (by omega) 191 [.fp eb, .fp [.v (.int .i64 side)], .fp [.v (.int .i64 (nth prog i).1), .v (.int .i64 (nth prog i).2)]] (fun w => E w (nth prog i)) (fun w hw => hP' w (by have := hai w hw; omega) _) (by simp [go_sem, hbl]) (by rw [← hsi]; omega)) ?_ (by simp [go_sem, hbl]) ?_
   ·(first|done|exact leX)
   ·rw [← hsi]
    repeat first|with_reducible refine wV fun _=>?_|simp [go_sem, hel, hte]
    refine zBm (hrec (d - 1) (by omega) (i + 1) (by omega)) ?_ (by simp)
    simp [go_sem, zah, hbl]
  ·have hil : i = prog.length := by omega
   subst hil
   generalize K prog.length = R at *
   repeat first|with_reducible refine wV fun _=>?_|simp [go_sem]
 ·simp
 ·simp [go_sem, zah, h0, hbl]
  (first|done|exact leX)
 ·simp
end Go.Av
end
