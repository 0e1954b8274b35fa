/- Texts of ours, part 9: our library and contracts of functions. -/
import Derived.Test.YtkahkcakggflaaaGreatDoorB08
import Derived.Test.YtkahkcakggflaaaGreatDoorProg
import Derived.Shelf.SlSortCmp.NoneTotal
set_option linter.unusedSimpArgs false
set_option linter.unusedVariables false
set_option maxRecDepth 100000
set_option maxHeartbeats 40000000
section
namespace Go.Proofs
open Go.Shelf
def zvy : Go.Shelf.Ren := ⟨fun | 6 => 123 | 15 => 175 | 14 => 174 | 28 => 228 | 29 => 229 | 20 => 220 | 21 => 221 | 22 => 222 | 23 => 223 | 24 => 224 | 25 => 225 | 26 => 226 | 27 => 227 | 46 => 269 | 47 => 270 | 48 => 271 | 49 => 272 | 50 => 273 | 57 => 289 | n => n, fun | 22 => 108 | 24 => 112 | 25 => 188 | 3 => 3 | 39 => 219 | 0 => 0 | 53 => 280 | 55 => 282 | 4 => 4 | 46 => 274 | 45 => 273 | 50 => 62 | 5 => 5 | 9 => 9 | 66 => 313 | 70 => 317 | 76 => 341 | 77 => 203 | n => n, fun n => n⟩
theorem zsort : Go.Proofs.SlLaysF0.n6 Tryz.prog zvy := {
 mixed := by kernel_rfl
 f6 := ⟨Tryz.f123.name, by decide, Tryz.func123.trans (congrArg some (by kernel_rfl))⟩
 f14 := ⟨Tryz.f174.name, by decide, Tryz.func174.trans (congrArg some (by kernel_rfl))⟩
 f15 := Tryz.func175.trans (congrArg some (by kernel_rfl))
 f20 := ⟨Tryz.f220.name, by decide, Tryz.func220.trans (congrArg some (by kernel_rfl))⟩
 f21 := ⟨Tryz.f221.name, by decide, Tryz.func221.trans (congrArg some (by kernel_rfl))⟩
 f22 := ⟨Tryz.f222.name, by decide, Tryz.func222.trans (congrArg some (by kernel_rfl))⟩
 f23 := ⟨Tryz.f223.name, by decide, Tryz.func223.trans (congrArg some (by kernel_rfl))⟩
 f24 := ⟨Tryz.f224.name, by decide, Tryz.func224.trans (congrArg some (by kernel_rfl))⟩
 f25 := ⟨Tryz.f225.name, by decide, Tryz.func225.trans (congrArg some (by kernel_rfl))⟩
 f26 := ⟨Tryz.f226.name, by decide, Tryz.func226.trans (congrArg some (by kernel_rfl))⟩
 f27 := ⟨Tryz.f227.name, by decide, Tryz.func227.trans (congrArg some (by kernel_rfl))⟩
 f28 := Tryz.func228.trans (congrArg some (by kernel_rfl))
 f29 := Tryz.func229.trans (congrArg some (by kernel_rfl))
 f46 := ⟨Tryz.f269.name, by decide, Tryz.func269.trans (congrArg some (by kernel_rfl))⟩
 f47 := Tryz.func270.trans (congrArg some (by kernel_rfl))
 f48 := Tryz.func271.trans (congrArg some (by kernel_rfl))
 f49 := ⟨Tryz.f272.name, by decide, Tryz.func272.trans (congrArg some (by kernel_rfl))⟩
 f50 := ⟨Tryz.f273.name, by decide, Tryz.func273.trans (congrArg some (by kernel_rfl))⟩
 f57 := ⟨Tryz.f289.name, by decide, Tryz.func289.trans (congrArg some (by kernel_rfl))⟩
 t0 := Tryz.underlying0
 a0 := Tryz.isAgg0
 z0 := Tryz.sizeOf0
 v0 := Tryz.zeroValue0
 t3 := Tryz.underlying3
 a3 := Tryz.isAgg3
 z3 := Tryz.sizeOf3
 v3 := Tryz.zeroValue3
 t4 := Tryz.underlying4
 a4 := Tryz.isAgg4
 z4 := Tryz.sizeOf4
 v4 := Tryz.zeroValue4
 t5 := Tryz.underlying5
 a5 := Tryz.isAgg5
 z5 := Tryz.sizeOf5
 v5 := Tryz.zeroValue5
 t9 := Tryz.underlying9
 a9 := Tryz.isAgg9
 z9 := Tryz.sizeOf9
 v9 := Tryz.zeroValue9
 t22 := Tryz.underlying108
 a22 := Tryz.isAgg108
 z22 := Tryz.sizeOf108
 v22 := Tryz.zeroValue108
 t25 := Tryz.underlying188
 a25 := Tryz.isAgg188
 z25 := Tryz.sizeOf188
 v25 := Tryz.zeroValue188
 t39 := Tryz.underlying219
 a39 := Tryz.isAgg219
 z39 := Tryz.sizeOf219
 v39 := Tryz.zeroValue219
 t45 := Tryz.underlying273
 a45 := Tryz.isAgg273
 z45 := Tryz.sizeOf273
 v45 := Tryz.zeroValue273
 t46 := Tryz.underlying274
 a46 := Tryz.isAgg274
 z46 := Tryz.sizeOf274
 v46 := Tryz.zeroValue274
 t50 := Tryz.underlying62
 a50 := Tryz.isAgg62
 z50 := Tryz.sizeOf62
 v50 := Tryz.zeroValue62
 t53 := Tryz.underlying280
 a53 := Tryz.isAgg280
 z53 := Tryz.sizeOf280
 v53 := Tryz.zeroValue280
 t55 := Tryz.underlying282
 a55 := Tryz.isAgg282
 z55 := Tryz.sizeOf282
 v55 := Tryz.zeroValue282
 t66 := Tryz.underlying313
 a66 := Tryz.isAgg313
 z66 := Tryz.sizeOf313
 v66 := Tryz.zeroValue313
 t70 := Tryz.underlying317
 a70 := Tryz.isAgg317
 z70 := Tryz.sizeOf317
 v70 := Tryz.zeroValue317
 t76 := Tryz.underlying341
 a76 := Tryz.isAgg341
 z76 := Tryz.sizeOf341
 v76 := Tryz.zeroValue341
 t77 := Tryz.underlying203
 a77 := Tryz.isAgg203
 z77 := Tryz.sizeOf203
 v77 := Tryz.zeroValue203 }
end Go.Proofs
end
section
open Go Go.Proofs
namespace Go.Av
theorem zl8 (l : List zco) (gn : Nat) (hl : l.length ≤ 17179869184) (hf : ∀ o ∈ l, zaW o.pos) :
  ziC Tryz.prog 125 [.sl 0 gn 6 0 l.length, .fn (.func 126) [] []] [(0, .rows true gn 6 (l.map zat))] 1
   (.sl 0 gn 6 0 (zbq l).length) [(0, .rows true gn 6 ((zbq l).map zat ++ List.replicate (l.length - (zbq l).length) zmV))] 1 := by
 unfold ziC
 by_cases h2 : l.length < 2
 ·rw [zjz h2]
  refine zyL (by kernel_rfl) Tryz.func125 rfl rfl (Nat.le_of_ble_eq_true rfl) (by kernel_rfl) ?_
  repeat first|with_reducible refine wV fun _=>?_|simp [go_sem]
  (refine zyK (fun hT => ?_) (fun hT => by first | omega | (simp at hT; omega)); clear hT)
  repeat first|with_reducible refine wV fun _=>?_|simp [go_sem]
  simp [go_sem, zah]
 obtain ⟨D, hD⟩ : ∃ D, D = zbq l := ⟨_, rfl⟩
 rw [← hD]
 have hE : ∀ i j, i < l.length → j < l.length → zaC Tryz.prog 126 [.agg (zat (nth l i)), .agg (zat (nth l j))] (.v (.bool (decide (nth l i = nth l j)))) :=
  fun i j hi hj => zsO _ _ (hf _ (zan hi)) (hf _ (zan hj))
 refine zyL (by kernel_rfl) Tryz.func125 rfl rfl (Nat.le_of_ble_eq_true rfl) (by kernel_rfl) ?_
 repeat first|with_reducible refine wV fun _=>?_|simp [go_sem]
 (refine zyK (fun hF => by first | omega | (simp at hF; omega)) (fun hF => ?_); clear hF)
 repeat first|with_reducible refine wV fun _=>?_|simp [go_sem]
 refine zyI (zyN (α := Nat) (fun j => ⟨[(0, .sl 0 gn 6 0 l.length), (1, .fn (.func 126) [] []), (5, .v (.int .i64 j))], [(0, .rows true gn 6 (l.map zat))], 1⟩)
  (fun d j => 1 ≤ j ∧ j + d = l.length ∧ D = l.take j ++ zbi (nth l (j - 1)) (l.drop j)) ?_ (l.length - 1) 1 ?_) ?_ ?_
 ·rintro d j ⟨i1, i2, i3⟩ hrec
  have e1 : ((j : Int) - 1).toNat = j - 1 := by omega
  repeat first|with_reducible refine wV fun _=>?_|simp [go_sem]
  refine zyK (fun hj => ?_) (fun hj => ?_) <;> simp at hj
  ·have hj' : j - 1 < l.length := by omega
   rw [zaM hj, zbi] at i3
   repeat first|with_reducible refine wV fun _=>?_|simp [go_sem, hj, hj', e1]
   refine zyM (hE j (j - 1) hj hj') (by simp [go_sem]) ?_
   repeat first|with_reducible refine wV fun _=>?_|simp [go_sem, hj, hj', e1]
   by_cases he : nth l j = nth l (j - 1)
   ·rw [if_pos he] at i3
    repeat first|with_reducible refine wV fun _=>?_|simp [go_sem, he, hj, hj', e1]
    refine zyI (zyN (α := Nat × List zco × Nat) (fun a => ⟨[(0, .sl 0 gn 6 0 l.length), (1, .fn (.func 126) [] []), (5, .v (.int .i64 a.2.2)), (6, .sl 0 gn 6 j (l.length - j)), (7, .v (.int .i64 a.1))], [(0, .rows true gn 6 (a.2.1.map zat))], 1⟩)
     (fun d a => 1 ≤ a.1 ∧ j + a.1 + d = l.length ∧ a.2.1.length = l.length ∧ a.2.2 ≤ j + a.1 - 1 ∧ a.2.1.drop (j + a.1 - 1) = l.drop (j + a.1 - 1) ∧ D = a.2.1.take a.2.2 ++ zbi (nth l (j + a.1 - 1)) (l.drop (j + a.1))) ?_ (l.length - j - 1) (1, l, j) ?_) ?_ ?_
    ·rintro d2 ⟨k2, R, k⟩ ⟨j1, j2, j3, j4, j5, j6⟩ hrec2
     simp only at j1 j2 j3 j4 j5 j6
     have e2 : ((k2 : Int) - 1).toNat = k2 - 1 := by omega
     have e3 : j + (k2 - 1) = j + k2 - 1 := by omega
     have hRn : ∀ m, j + k2 - 1 ≤ m → m < l.length → nth R m = nth l m := fun m h1 h2 => by
      have h3 : (R.drop (j + k2 - 1))[m - (j + k2 - 1)]? = (l.drop (j + k2 - 1))[m - (j + k2 - 1)]? := by rw [j5]
      rw [List.getElem?_drop, List.getElem?_drop, show j + k2 - 1 + (m - (j + k2 - 1)) = m by omega, List.getElem?_eq_getElem (by omega), List.getElem?_eq_getElem h2] at h3
      rw [zaJ _ _ (by omega), zaJ _ _ h2]
      exact Option.some.inj h3
     repeat first|with_reducible refine wV fun _=>?_|simp [go_sem, j3]
     refine zyK (fun hk => ?_) (fun hk => ?_) <;> simp at hk
     ·have hk1 : j + k2 < l.length := by omega
      have hk0 : j + k2 - 1 < l.length := by omega
      have hr1 := hRn (j + k2) (by omega) hk1
      have hr0 := hRn (j + k2 - 1) (by omega) hk0
      rw [zaM hk1, zbi] at j6
      have hk2 : k2 - 1 < l.length - j := by omega
      have hk3 : k < l.length := by omega
      repeat first|with_reducible refine wV fun _=>?_|simp [go_sem, j3, hk, hk1, hk0, hr1, hr0, e2, e3, hk2]
      refine zyM (hE (j + k2) (j + k2 - 1) hk1 hk0) (by simp [go_sem]) ?_
      repeat first|with_reducible refine wV fun _=>?_|simp [go_sem, j3, hk, hk1, hk0, hr1, hr0, e2, e3, hk2]
      by_cases hc : nth l (j + k2) = nth l (j + k2 - 1)
      ·rw [if_pos hc] at j6
       repeat first|with_reducible refine wV fun _=>?_|simp [go_sem, hc]
       refine zyI (hrec2 (d2 - 1) (by omega) (k2 + 1, R, k) ⟨by simp only; omega, by simp only; omega, j3, by simp only; omega, ?_, ?_⟩) ?_ (by simp)
       ·have := congrArg (List.drop 1) j5
        rw [List.drop_drop, List.drop_drop] at this
        rw [show j + (k2 + 1) - 1 = j + k2 - 1 + 1 by omega]
        exact this
       ·simp only
        rw [show j + (k2 + 1) - 1 = j + k2 by omega, hc]
        exact j6
       ·simp [go_sem, zah]
      ·rw [if_neg hc] at j6
       repeat first|with_reducible refine wV fun _=>?_|simp [go_sem, hc, j3, hk, hk1, hk0, hr1, hr0, e2, e3, hk2, hk3]
       refine zyI (hrec2 (d2 - 1) (by omega) (k2 + 1, R.set k (nth l (j + k2)), k + 1) ⟨by simp only; omega, by simp only; omega, by simpa using j3, by simp only; omega, ?_, ?_⟩) ?_ (by simp)
       ·have := congrArg (List.drop 1) j5
        rw [List.drop_drop, List.drop_drop] at this
        simp only
        rw [show j + (k2 + 1) - 1 = j + k2 - 1 + 1 by omega, List.drop_set, if_pos (by omega)]
        exact this
       ·simp only
        rw [show j + (k2 + 1) - 1 = j + k2 by omega, List.take_add_one, List.take_set_of_le (by omega), List.getElem?_set_self (by omega), Option.toList_some, List.append_assoc]
        exact j6
       ·have hb : ∀ n, ∀ r ∈ ((R.set k (nth l (j + k2))).map zat), ∀ c ∈ r, Bel n c := fun n => of_eq_true zqB
        rw [List.map_set] at hb
        simp [go_sem, zah, List.map_set]
        exact hb 1
     ·rw [List.drop_eq_nil_of_le (by omega), zbi, List.append_nil] at j6
      have hDl : D.length = k := by rw [j6, List.length_take]; omega
      have hd0 : List.drop (k + (l.length - k)) (R.map zat) = [] := List.drop_eq_nil_of_le (by simp; omega)
      have hDm : D.map zat = List.take k (R.map zat) := by rw [j6, List.map_take]
      repeat first|with_reducible refine wV fun _=>?_|simp [go_sem]
      simp [go_sem, zah, hd0, hDl, hDm, zmV]
      exact fun x hx => of_eq_true (zqB (n := 1) (l := R)) x (List.mem_of_mem_take hx)
    ·refine ⟨Nat.le_refl _, by simp only; omega, rfl, by simp only; omega, rfl, ?_⟩
     simp only
     rw [Nat.add_sub_cancel, he]
     exact i3
    ·simp [go_sem, zah]
    ·simp
   ·rw [if_neg he] at i3
    repeat first|with_reducible refine wV fun _=>?_|simp [go_sem, he, hj, hj', e1]
    refine zyI (hrec (d - 1) (by omega) (j + 1) ⟨by omega, by omega, ?_⟩) ?_ (by simp)
    ·rw [i3, Nat.add_sub_cancel, List.take_add_one, List.getElem?_eq_getElem hj, zaJ _ _ hj, Option.toList_some, List.append_assoc]; rfl
    ·simp [go_sem, zah]
  ·rw [List.drop_eq_nil_of_le hj, List.take_of_length_le hj, zbi, List.append_nil] at i3
   rw [i3]
   repeat first|with_reducible refine wV fun _=>?_|simp [go_sem]
   simp [go_sem, zah]
 ·refine ⟨Nat.le_refl _, by omega, ?_⟩
  cases l with
  | nil => simp at h2
  | cons a l => rw [hD]; rfl
 ·simp [go_sem, zah]
 ·simp
theorem zmo (l : List zco) (gn : Nat) (hl : l.length ≤ 17179869184) (hf : ∀ o ∈ l, zaW o.pos) {h : zav} {n o : Nat} (ho : h o = some (.rows true gn 6 (l.map zat))) (hon : o < n) {K : zc0}
  (hK : K (.sl o gn 6 0 (zbq l).length) (upd h o (some (.rows true gn 6 ((zbq l).map zat ++ List.replicate (l.length - (zbq l).length) zmV)))) n) :
  zaa Tryz.prog 125 [.sl o gn 6 0 l.length, .fn (.func 126) [] []] h n K := by
 have hz : ∀ m, ∀ r ∈ (zbq l).map zat ++ List.replicate (l.length - (zbq l).length) zmV, ∀ c ∈ r, Bel m c := by
  intro m r hr c hc
  rcases List.mem_append.1 hr with hr | hr
  ·exact zcP _ r hr c hc
  ·rw [List.eq_of_mem_replicate hr] at hc
   simp only [zmV, List.mem_cons, List.not_mem_nil, or_false] at hc
   rcases hc with rfl | rfl | rfl | rfl | rfl | rfl <;> exact .v _
 refine zy2 (args' := [.sl o gn 6 0 l.length, .fn (.func 126) [] []]) (HH := [(o, .rows true gn 6 ((zbq l).map zat ++ List.replicate (l.length - (zbq l).length) zmV))])
  [o] h (zl8 l gn hl hf) (by simp) (by simpa using hon) rfl (Nat.le_refl _) (.refl _) ?_ ?_ (.refl _ _ _ _) ?_ ?_ ?_ (.sl rfl) ?_ ?_
 ·intro j hj
  obtain rfl : j = 0 := by omega
  exact ⟨_, _, rfl, ho, .rows (.same (zcP _))⟩
 ·intro p hp
  simp only [List.mem_singleton] at hp
  subst hp
  exact ⟨Nat.le_of_ble_eq_true rfl, zcP _⟩
 ·intro y hy
  simp only [List.mem_cons, List.not_mem_nil, or_false] at hy
  rcases hy with rfl | rfl
  ·exact .sl hon
  ·simp [go_sem]
 ·exact .cons (.sl rfl) (.cons (.same (by simp [go_sem])) .nil)
 ·intro y hy
  simp only [List.mem_cons, List.not_mem_nil, or_false] at hy
  rcases hy with rfl | rfl
  ·exact .sl (by decide)
  ·simp [go_sem]
 ·exact .cons rfl (.rows (.same (hz 0))) .nil
 ·have e : zd7 [(o, .rows true gn 6 ((zbq l).map zat ++ List.replicate (l.length - (zbq l).length) zmV))] (zlU [o] h) = upd h o (some (.rows true gn 6 ((zbq l).map zat ++ List.replicate (l.length - (zbq l).length) zmV))) := by
   funext j
   simp only [zd7, zlU, upd]
   by_cases j1 : j = o
   ·simp [j1]
   ·simp [j1]
  rw [e, Nat.sub_self, Nat.add_zero]
  exact hK
theorem zkQ (l : List zco) (gn m : Nat) (hm : l.length = m) (hl : m ≤ 17179869184) (hf : ∀ o ∈ l, zaW o.pos) {h : zav} {n o : Nat} (ho : h o = some (.rows true gn 6 (l.map zat))) (hon : o < n) {K : zc0}
  (hK : K (.sl o gn 6 0 (zbq l).length) (upd h o (some (.rows true gn 6 ((zbq l).map zat ++ List.replicate (l.length - (zbq l).length) zmV)))) n) :
  zaa Tryz.prog 125 [.sl o gn 6 0 m, .fn (.func 126) [] []] h n K := by
 subst hm
 exact zmo l gn hl hf ho hon hK
theorem zwW : Go.Sort.SWO (fun a b : zco => decide (zif a b < 0)) := by
 refine ⟨fun x => ?_, fun x y z h1 h2 => ?_, fun x y z h1 h2 => ?_⟩
 ·have := zch.swap x x
  simp; omega
 ·simp only [decide_eq_true_eq] at h1 h2 ⊢
  have t := zch.tr x y z (by omega) (by omega)
  rcases Int.lt_or_eq_of_le t with h | h
  ·exact h
  ·have e := (zch.eq _ _).1 h
   subst e
   have := zch.swap x y
   omega
 ·simp only [decide_eq_false_iff_not] at h1 h2 ⊢
  have s1 := zch.swap x y
  have s2 := zch.swap y z
  have s3 := zch.swap x z
  have t := zch.tr z y x (by omega) (by omega)
  omega
theorem zsU (l : List zco) (hf : ∀ o ∈ l, zaW o.pos) (hl : l.length < 4611686018427387904) {h : zav} {n o gn : Nat} (ho : h o = some (.rows true gn 6 (l.map zat))) {K : zc0}
  (hK : K (.tup []) (upd h o (some (.rows true gn 6 ((zcI zif l).map zat)))) n) :
  zaa Tryz.prog 123 [.sl o gn 6 0 l.length, .fn (.func 124) [] []] h n K := by
 refine zy7 zsort (k := 6) (by omega) Tryz.isAgg112 Tryz.sizeOf112 zat (fun _ => rfl) ?_ (fun o => zaW o.pos) zif zwW _ (fun x y hx hy => zgG x y hx hy) ?_ l hf hl ho ?_
 ·intro x
  simp [go_sem]
 ·exact (zgG default default (by unfold zaW zeR; decide) (by unfold zaW zeR; decide)).1
 ·intro l' hp hs
  have : zcI zif l = l' := zfP zch hp (hs.imp fun {a b} hab => by
   have := zch.swap a b
   simp only [leC, decide_eq_true_eq]
   omega)
  rw [← this]
  exact hK
end Go.Av
end
section
namespace Go.Proofs
open Go.Shelf
def zs8 : Go.Shelf.Ren := ⟨fun | 6 => 140 | 15 => 175 | 14 => 189 | 28 => 228 | 29 => 229 | 20 => 244 | 21 => 245 | 22 => 246 | 23 => 247 | 24 => 248 | 25 => 249 | 26 => 250 | 27 => 251 | 46 => 278 | 47 => 270 | 48 => 271 | 49 => 279 | 50 => 280 | 57 => 290 | n => n, fun | 22 => 47 | 24 => 45 | 25 => 80 | 3 => 3 | 39 => 219 | 0 => 0 | 53 => 280 | 55 => 282 | 4 => 4 | 46 => 274 | 45 => 273 | 50 => 62 | 5 => 5 | 9 => 9 | 66 => 313 | 70 => 317 | 76 => 341 | 77 => 203 | n => n, fun n => n⟩
theorem zsortP : Go.Proofs.SlLaysF0.n6 Tryz.prog zs8 := {
 mixed := by kernel_rfl
 f6 := ⟨Tryz.f140.name, by decide, Tryz.func140.trans (congrArg some (by kernel_rfl))⟩
 f14 := ⟨Tryz.f189.name, by decide, Tryz.func189.trans (congrArg some (by kernel_rfl))⟩
 f15 := Tryz.func175.trans (congrArg some (by kernel_rfl))
 f20 := ⟨Tryz.f244.name, by decide, Tryz.func244.trans (congrArg some (by kernel_rfl))⟩
 f21 := ⟨Tryz.f245.name, by decide, Tryz.func245.trans (congrArg some (by kernel_rfl))⟩
 f22 := ⟨Tryz.f246.name, by decide, Tryz.func246.trans (congrArg some (by kernel_rfl))⟩
 f23 := ⟨Tryz.f247.name, by decide, Tryz.func247.trans (congrArg some (by kernel_rfl))⟩
 f24 := ⟨Tryz.f248.name, by decide, Tryz.func248.trans (congrArg some (by kernel_rfl))⟩
 f25 := ⟨Tryz.f249.name, by decide, Tryz.func249.trans (congrArg some (by kernel_rfl))⟩
 f26 := ⟨Tryz.f250.name, by decide, Tryz.func250.trans (congrArg some (by kernel_rfl))⟩
 f27 := ⟨Tryz.f251.name, by decide, Tryz.func251.trans (congrArg some (by kernel_rfl))⟩
 f28 := Tryz.func228.trans (congrArg some (by kernel_rfl))
 f29 := Tryz.func229.trans (congrArg some (by kernel_rfl))
 f46 := ⟨Tryz.f278.name, by decide, Tryz.func278.trans (congrArg some (by kernel_rfl))⟩
 f47 := Tryz.func270.trans (congrArg some (by kernel_rfl))
 f48 := Tryz.func271.trans (congrArg some (by kernel_rfl))
 f49 := ⟨Tryz.f279.name, by decide, Tryz.func279.trans (congrArg some (by kernel_rfl))⟩
 f50 := ⟨Tryz.f280.name, by decide, Tryz.func280.trans (congrArg some (by kernel_rfl))⟩
 f57 := ⟨Tryz.f290.name, by decide, Tryz.func290.trans (congrArg some (by kernel_rfl))⟩
 t0 := Tryz.underlying0
 a0 := Tryz.isAgg0
 z0 := Tryz.sizeOf0
 v0 := Tryz.zeroValue0
 t3 := Tryz.underlying3
 a3 := Tryz.isAgg3
 z3 := Tryz.sizeOf3
 v3 := Tryz.zeroValue3
 t4 := Tryz.underlying4
 a4 := Tryz.isAgg4
 z4 := Tryz.sizeOf4
 v4 := Tryz.zeroValue4
 t5 := Tryz.underlying5
 a5 := Tryz.isAgg5
 z5 := Tryz.sizeOf5
 v5 := Tryz.zeroValue5
 t9 := Tryz.underlying9
 a9 := Tryz.isAgg9
 z9 := Tryz.sizeOf9
 v9 := Tryz.zeroValue9
 t22 := Tryz.underlying47
 a22 := Tryz.isAgg47
 z22 := Tryz.sizeOf47
 v22 := Tryz.zeroValue47
 t25 := Tryz.underlying80
 a25 := Tryz.isAgg80
 z25 := Tryz.sizeOf80
 v25 := Tryz.zeroValue80
 t39 := Tryz.underlying219
 a39 := Tryz.isAgg219
 z39 := Tryz.sizeOf219
 v39 := Tryz.zeroValue219
 t45 := Tryz.underlying273
 a45 := Tryz.isAgg273
 z45 := Tryz.sizeOf273
 v45 := Tryz.zeroValue273
 t46 := Tryz.underlying274
 a46 := Tryz.isAgg274
 z46 := Tryz.sizeOf274
 v46 := Tryz.zeroValue274
 t50 := Tryz.underlying62
 a50 := Tryz.isAgg62
 z50 := Tryz.sizeOf62
 v50 := Tryz.zeroValue62
 t53 := Tryz.underlying280
 a53 := Tryz.isAgg280
 z53 := Tryz.sizeOf280
 v53 := Tryz.zeroValue280
 t55 := Tryz.underlying282
 a55 := Tryz.isAgg282
 z55 := Tryz.sizeOf282
 v55 := Tryz.zeroValue282
 t66 := Tryz.underlying313
 a66 := Tryz.isAgg313
 z66 := Tryz.sizeOf313
 v66 := Tryz.zeroValue313
 t70 := Tryz.underlying317
 a70 := Tryz.isAgg317
 z70 := Tryz.sizeOf317
 v70 := Tryz.zeroValue317
 t76 := Tryz.underlying341
 a76 := Tryz.isAgg341
 z76 := Tryz.sizeOf341
 v76 := Tryz.zeroValue341
 t77 := Tryz.underlying203
 a77 := Tryz.isAgg203
 z77 := Tryz.sizeOf203
 v77 := Tryz.zeroValue203 }
end Go.Proofs
end
section
open Go Go.Proofs
namespace Go.Av
def zmW : List AV := [.v (.slice none 0 0), .v (.slice none 0 0), .v (.slice none 0 0), .v (.int .i64 0), .v (.int .i64 0)]
theorem zl7 (l : List zaj) (gn : Nat) (hl : l.length ≤ 17179869184) (hf : ∀ o ∈ l, zaW o) :
  ziC Tryz.prog 141 [.sl 0 gn 5 0 l.length, .fn (.func 142) [] []] [(0, .rows true gn 5 (l.map zad))] 1
   (.sl 0 gn 5 0 (zbq l).length) [(0, .rows true gn 5 ((zbq l).map zad ++ List.replicate (l.length - (zbq l).length) zmW))] 1 := by
 unfold ziC
 by_cases h2 : l.length < 2
 ·rw [zjz h2]
  refine zyL (by kernel_rfl) Tryz.func141 rfl rfl (Nat.le_of_ble_eq_true rfl) (by kernel_rfl) ?_
  repeat first|with_reducible refine wV fun _=>?_|simp [go_sem]
  (refine zyK (fun hT => ?_) (fun hT => by first | omega | (simp at hT; omega)); clear hT)
  repeat first|with_reducible refine wV fun _=>?_|simp [go_sem]
  simp [go_sem, zah]
 obtain ⟨D, hD⟩ : ∃ D, D = zbq l := ⟨_, rfl⟩
 rw [← hD]
 have hE : ∀ i j, i < l.length → j < l.length → zaC Tryz.prog 142 [.agg (zad (nth l i)), .agg (zad (nth l j))] (.v (.bool (decide (nth l i = nth l j)))) :=
  fun i j hi hj => zp0 _ _ (hf _ (zan hi)) (hf _ (zan hj))
 refine zyL (by kernel_rfl) Tryz.func141 rfl rfl (Nat.le_of_ble_eq_true rfl) (by kernel_rfl) ?_
 repeat first|with_reducible refine wV fun _=>?_|simp [go_sem]
 (refine zyK (fun hF => by first | omega | (simp at hF; omega)) (fun hF => ?_); clear hF)
 repeat first|with_reducible refine wV fun _=>?_|simp [go_sem]
 refine zyI (zyN (α := Nat) (fun j => ⟨[(0, .sl 0 gn 5 0 l.length), (1, .fn (.func 142) [] []), (5, .v (.int .i64 j))], [(0, .rows true gn 5 (l.map zad))], 1⟩)
  (fun d j => 1 ≤ j ∧ j + d = l.length ∧ D = l.take j ++ zbi (nth l (j - 1)) (l.drop j)) ?_ (l.length - 1) 1 ?_) ?_ ?_
 ·rintro d j ⟨i1, i2, i3⟩ hrec
  have e1 : ((j : Int) - 1).toNat = j - 1 := by omega
  repeat first|with_reducible refine wV fun _=>?_|simp [go_sem]
  refine zyK (fun hj => ?_) (fun hj => ?_) <;> simp at hj
  ·have hj' : j - 1 < l.length := by omega
   rw [zaM hj, zbi] at i3
   repeat first|with_reducible refine wV fun _=>?_|simp [go_sem, hj, hj', e1]
   refine zyM (hE j (j - 1) hj hj') (by simp [go_sem]) ?_
   repeat first|with_reducible refine wV fun _=>?_|simp [go_sem, hj, hj', e1]
   by_cases he : nth l j = nth l (j - 1)
   ·rw [if_pos he] at i3
    repeat first|with_reducible refine wV fun _=>?_|simp [go_sem, he, hj, hj', e1]
    refine zyI (zyN (α := Nat × List zaj × Nat) (fun a => ⟨[(0, .sl 0 gn 5 0 l.length), (1, .fn (.func 142) [] []), (5, .v (.int .i64 a.2.2)), (6, .sl 0 gn 5 j (l.length - j)), (7, .v (.int .i64 a.1))], [(0, .rows true gn 5 (a.2.1.map zad))], 1⟩)
     (fun d a => 1 ≤ a.1 ∧ j + a.1 + d = l.length ∧ a.2.1.length = l.length ∧ a.2.2 ≤ j + a.1 - 1 ∧ a.2.1.drop (j + a.1 - 1) = l.drop (j + a.1 - 1) ∧ D = a.2.1.take a.2.2 ++ zbi (nth l (j + a.1 - 1)) (l.drop (j + a.1))) ?_ (l.length - j - 1) (1, l, j) ?_) ?_ ?_
    ·rintro d2 ⟨k2, R, k⟩ ⟨j1, j2, j3, j4, j5, j6⟩ hrec2
     simp only at j1 j2 j3 j4 j5 j6
     have e2 : ((k2 : Int) - 1).toNat = k2 - 1 := by omega
     have e3 : j + (k2 - 1) = j + k2 - 1 := by omega
     have hRn : ∀ m, j + k2 - 1 ≤ m → m < l.length → nth R m = nth l m := fun m h1 h2 => by
      have h3 : (R.drop (j + k2 - 1))[m - (j + k2 - 1)]? = (l.drop (j + k2 - 1))[m - (j + k2 - 1)]? := by rw [j5]
      rw [List.getElem?_drop, List.getElem?_drop, show j + k2 - 1 + (m - (j + k2 - 1)) = m by omega, List.getElem?_eq_getElem (by omega), List.getElem?_eq_getElem h2] at h3
      rw [zaJ _ _ (by omega), zaJ _ _ h2]
      exact Option.some.inj h3
     repeat first|with_reducible refine wV fun _=>?_|simp [go_sem, j3]
     refine zyK (fun hk => ?_) (fun hk => ?_) <;> simp at hk
     ·have hk1 : j + k2 < l.length := by omega
      have hk0 : j + k2 - 1 < l.length := by omega
      have hr1 := hRn (j + k2) (by omega) hk1
      have hr0 := hRn (j + k2 - 1) (by omega) hk0
      rw [zaM hk1, zbi] at j6
      have hk2 : k2 - 1 < l.length - j := by omega
      have hk3 : k < l.length := by omega
      repeat first|with_reducible refine wV fun _=>?_|simp [go_sem, j3, hk, hk1, hk0, hr1, hr0, e2, e3, hk2]
      refine zyM (hE (j + k2) (j + k2 - 1) hk1 hk0) (by simp [go_sem]) ?_
      repeat first|with_reducible refine wV fun _=>?_|simp [go_sem, j3, hk, hk1, hk0, hr1, hr0, e2, e3, hk2]
      by_cases hc : nth l (j + k2) = nth l (j + k2 - 1)
      ·rw [if_pos hc] at j6
       repeat first|with_reducible refine wV fun _=>?_|simp [go_sem, hc]
       refine zyI (hrec2 (d2 - 1) (by omega) (k2 + 1, R, k) ⟨by simp only; omega, by simp only; omega, j3, by simp only; omega, ?_, ?_⟩) ?_ (by simp)
       ·have := congrArg (List.drop 1) j5
        rw [List.drop_drop, List.drop_drop] at this
        rw [show j + (k2 + 1) - 1 = j + k2 - 1 + 1 by omega]
        exact this
       ·simp only
        rw [show j + (k2 + 1) - 1 = j + k2 by omega, hc]
        exact j6
       ·simp [go_sem, zah]
      ·rw [if_neg hc] at j6
       repeat first|with_reducible refine wV fun _=>?_|simp [go_sem, hc, j3, hk, hk1, hk0, hr1, hr0, e2, e3, hk2, hk3]
       refine zyI (hrec2 (d2 - 1) (by omega) (k2 + 1, R.set k (nth l (j + k2)), k + 1) ⟨by simp only; omega, by simp only; omega, by simpa using j3, by simp only; omega, ?_, ?_⟩) ?_ (by simp)
       ·have := congrArg (List.drop 1) j5
        rw [List.drop_drop, List.drop_drop] at this
        simp only
        rw [show j + (k2 + 1) - 1 = j + k2 - 1 + 1 by omega, List.drop_set, if_pos (by omega)]
        exact this
       ·simp only
        rw [show j + (k2 + 1) - 1 = j + k2 by omega, List.take_add_one, List.take_set_of_le (by omega), List.getElem?_set_self (by omega), Option.toList_some, List.append_assoc]
        exact j6
       ·have hb : ∀ n, ∀ r ∈ ((R.set k (nth l (j + k2))).map zad), ∀ c ∈ r, Bel n c := fun n => of_eq_true zrT
        rw [List.map_set] at hb
        simp [go_sem, zah, List.map_set]
        exact hb 1
     ·rw [List.drop_eq_nil_of_le (by omega), zbi, List.append_nil] at j6
      have hDl : D.length = k := by rw [j6, List.length_take]; omega
      have hd0 : List.drop (k + (l.length - k)) (R.map zad) = [] := List.drop_eq_nil_of_le (by simp; omega)
      have hDm : D.map zad = List.take k (R.map zad) := by rw [j6, List.map_take]
      repeat first|with_reducible refine wV fun _=>?_|simp [go_sem]
      simp [go_sem, zah, hd0, hDl, hDm, zmW]
      exact fun x hx => of_eq_true (zrT (n := 1) (l := R)) x (List.mem_of_mem_take hx)
    ·refine ⟨Nat.le_refl _, by simp only; omega, rfl, by simp only; omega, rfl, ?_⟩
     simp only
     rw [Nat.add_sub_cancel, he]
     exact i3
    ·simp [go_sem, zah]
    ·simp
   ·rw [if_neg he] at i3
    repeat first|with_reducible refine wV fun _=>?_|simp [go_sem, he, hj, hj', e1]
    refine zyI (hrec (d - 1) (by omega) (j + 1) ⟨by omega, by omega, ?_⟩) ?_ (by simp)
    ·rw [i3, Nat.add_sub_cancel, List.take_add_one, List.getElem?_eq_getElem hj, zaJ _ _ hj, Option.toList_some, List.append_assoc]; rfl
    ·simp [go_sem, zah]
  ·rw [List.drop_eq_nil_of_le hj, List.take_of_length_le hj, zbi, List.append_nil] at i3
   rw [i3]
   repeat first|with_reducible refine wV fun _=>?_|simp [go_sem]
   simp [go_sem, zah]
 ·refine ⟨Nat.le_refl _, by omega, ?_⟩
  cases l with
  | nil => simp at h2
  | cons a l => rw [hD]; rfl
 ·simp [go_sem, zah]
 ·simp
theorem zgs {n : Nat} (l : List zaj) : ∀ r ∈ l.map zad, ∀ c ∈ r, Bel n c := of_eq_true zrT
theorem zmn (l : List zaj) (gn : Nat) (hl : l.length ≤ 17179869184) (hf : ∀ o ∈ l, zaW o) {h : zav} {n o : Nat} (ho : h o = some (.rows true gn 5 (l.map zad))) (hon : o < n) {K : zc0}
  (hK : K (.sl o gn 5 0 (zbq l).length) (upd h o (some (.rows true gn 5 ((zbq l).map zad ++ List.replicate (l.length - (zbq l).length) zmW)))) n) :
  zaa Tryz.prog 141 [.sl o gn 5 0 l.length, .fn (.func 142) [] []] h n K := by
 have hz : ∀ m, ∀ r ∈ (zbq l).map zad ++ List.replicate (l.length - (zbq l).length) zmW, ∀ c ∈ r, Bel m c := by
  intro m r hr c hc
  rcases List.mem_append.1 hr with hr | hr
  ·exact zgs _ r hr c hc
  ·rw [List.eq_of_mem_replicate hr] at hc
   simp only [zmW, List.mem_cons, List.not_mem_nil, or_false] at hc
   rcases hc with rfl | rfl | rfl | rfl | rfl <;> exact .v _
 refine zy2 (args' := [.sl o gn 5 0 l.length, .fn (.func 142) [] []]) (HH := [(o, .rows true gn 5 ((zbq l).map zad ++ List.replicate (l.length - (zbq l).length) zmW))])
  [o] h (zl7 l gn hl hf) (by simp) (by simpa using hon) rfl (Nat.le_refl _) (.refl _) ?_ ?_ (.refl _ _ _ _) ?_ ?_ ?_ (.sl rfl) ?_ ?_
 ·intro j hj
  obtain rfl : j = 0 := by omega
  exact ⟨_, _, rfl, ho, .rows (.same (zgs _))⟩
 ·intro p hp
  simp only [List.mem_singleton] at hp
  subst hp
  exact ⟨Nat.le_of_ble_eq_true rfl, zgs _⟩
 ·intro y hy
  simp only [List.mem_cons, List.not_mem_nil, or_false] at hy
  rcases hy with rfl | rfl
  ·exact .sl hon
  ·simp [go_sem]
 ·exact .cons (.sl rfl) (.cons (.same (by simp [go_sem])) .nil)
 ·intro y hy
  simp only [List.mem_cons, List.not_mem_nil, or_false] at hy
  rcases hy with rfl | rfl
  ·exact .sl (by decide)
  ·simp [go_sem]
 ·exact .cons rfl (.rows (.same (hz 0))) .nil
 ·have e : zd7 [(o, .rows true gn 5 ((zbq l).map zad ++ List.replicate (l.length - (zbq l).length) zmW))] (zlU [o] h) = upd h o (some (.rows true gn 5 ((zbq l).map zad ++ List.replicate (l.length - (zbq l).length) zmW))) := by
   funext j
   simp only [zd7, zlU, upd]
   by_cases j1 : j = o
   ·simp [j1]
   ·simp [j1]
  rw [e, Nat.sub_self, Nat.add_zero]
  exact hK
theorem zkP (l : List zaj) (gn m : Nat) (hm : l.length = m) (hl : m ≤ 17179869184) (hf : ∀ o ∈ l, zaW o) {h : zav} {n o : Nat} (ho : h o = some (.rows true gn 5 (l.map zad))) (hon : o < n) {K : zc0}
  (hK : K (.sl o gn 5 0 (zbq l).length) (upd h o (some (.rows true gn 5 ((zbq l).map zad ++ List.replicate (l.length - (zbq l).length) zmW)))) n) :
  zaa Tryz.prog 141 [.sl o gn 5 0 m, .fn (.func 142) [] []] h n K := by
 subst hm
 exact zmn l gn hl hf ho hon hK
theorem zys : Go.Sort.SWO (fun a b : zaj => decide (zbw a b < 0)) := by
 refine ⟨fun x => ?_, fun x y z h1 h2 => ?_, fun x y z h1 h2 => ?_⟩
 ·have := za8.swap x x
  simp; omega
 ·simp only [decide_eq_true_eq] at h1 h2 ⊢
  have t := za8.tr x y z (by omega) (by omega)
  rcases Int.lt_or_eq_of_le t with h | h
  ·exact h
  ·have e := (za8.eq _ _).1 h
   subst e
   have := za8.swap x y
   omega
 ·simp only [decide_eq_false_iff_not] at h1 h2 ⊢
  have s1 := za8.swap x y
  have s2 := za8.swap y z
  have s3 := za8.swap x z
  have t := za8.tr z y x (by omega) (by omega)
  omega
theorem zsT (l : List zaj) (hf : ∀ o ∈ l, zaW o) (hl : l.length < 4611686018427387904) {h : zav} {n o gn : Nat} (ho : h o = some (.rows true gn 5 (l.map zad))) {K : zc0}
  (hK : K (.tup []) (upd h o (some (.rows true gn 5 ((zcI zbw l).map zad)))) n) :
  zaa Tryz.prog 140 [.sl o gn 5 0 l.length, .fn (.func 42) [] []] h n K := by
 refine zy7 zsortP (k := 5) (by omega) Tryz.isAgg45 Tryz.sizeOf45 zad (fun _ => rfl) ?_ (fun o => zaW o) zbw zys _ (fun x y hx hy => zbI x y hx hy) ?_ l hf hl ho ?_
 ·intro x
  simp [go_sem]
 ·exact (zbI default default (by unfold zaW zeR; decide) (by unfold zaW zeR; decide)).1
 ·intro l' hp hs
  have : zcI zbw l = l' := zfP za8 hp (hs.imp fun {a b} hab => by
   have := za8.swap a b
   simp only [leC, decide_eq_true_eq]
   omega)
  rw [← this]
  exact hK
theorem zoO (l : List zaj) (hl : l.length ≤ 17179869184) : zgf Tryz.prog 139 [zaz l] (fun n => .sl n 1 5 0 l.length) (fun n => [(n, .rows true 1 5 (l.map zad))]) 1 := by
 refine ⟨?_, fun n => ⟨by simp [go_sem], by simp [go_sem]⟩⟩
 refine zzd (fun hne => ?_) (fun he A c => ?_)
 ·obtain ⟨x, l, rfl⟩ := List.exists_cons_of_ne_nil (show l ≠ [] by intro h; subst h; exact hne rfl)
  simp only [List.length_cons] at hl
  refine zyL (by kernel_rfl) Tryz.func139 rfl rfl (Nat.le_of_ble_eq_true rfl) (by kernel_rfl) ?_
  repeat first|with_reducible refine wV fun _=>?_|simp [go_sem]
  simp [go_sem, zah]
 ·obtain rfl : l = [] := by simpa using he
  refine zyL (by kernel_rfl) Tryz.func139 rfl rfl (Nat.le_of_ble_eq_true rfl) (by kernel_rfl) ?_
  repeat first|with_reducible refine wV fun _=>?_|simp [go_sem]
  refine zyK (fun h => ?_) (fun h => ?_)
  ·simp at h
   subst h
   simp [go_sem, zah]
  ·simp [go_sem, zah]
theorem zdP (l : List zaj) (hl : l.length ≤ 17179869184) (hf : ∀ p ∈ l, zaW p) : zaC Tryz.prog 76 [zaz l] (zaz (zbk zbw l)) := by
 refine pF Tryz.func76 ?_
 have hC := zoO l hl
 repeat first|with_reducible refine wV fun _=>?_|simp [go_sem]
 refine zyO hC (by simp [go_sem]) ?_
 repeat first|with_reducible refine wV fun _=>?_|simp [go_sem]
 refine zsT l hf (by omega) (o := 0) (gn := 1) (by simp [upd]) ?_
 repeat first|with_reducible refine wV fun _=>?_|simp [go_sem]
 refine zkP (zcI zbw l) 1 l.length (zeJ l) (by omega) (fun p hp => hf p (zeK.1 hp)) (o := 0) (by simp [upd]) (by omega) ?_
 repeat first|with_reducible refine wV fun _=>?_|simp [go_sem]
 exact zam rfl (by simp) (by simp [noH, upd]) (by rw [List.drop_zero]; exact List.take_left' (by simp))
theorem zu7 (g : zaf) (hg : GOk g) (p : zaj) (hp : POk g p) (cell i : Int) (hc : zci g p cell i) {h : zav} {n a b : Nat} (hd : [a, b].Nodup) (hlt : ∀ j ∈ [a, b], j < n)
  (ha : h a = some (.rows true 0 5 [zad p])) (hb : h b = some (.rows true 0 1 [[zyQ]])) {K : zc0}
  (hK : K (.v (.int .i64 0)) (upd (upd (upd h a (some (.rows true 0 5 [zad p]))) b (some (.rows true 0 1 [[.sl (n + 245) (zdG g p cell i).length 6 0 (zdG g p cell i).length]]))) (n + 245) (some (.rows true (zdG g p cell i).length 6 ((zdG g p cell i).map zat)))) (n + 246)) :
  zaa Tryz.prog 119 [.agg (zab g), .agg (zad p), .v (.int .i64 cell), .v (.int .i64 i), .fn (.func 120) [] [.ref a 0 5 0 0, .ref b 0 1 0 0]] h n K := by
 have hbg : ∀ m, Bel m (.agg (zab g)) := fun m => by simp [go_sem]
 have hbp : ∀ m, ∀ c ∈ zad p, Bel m c := fun m => by simp [go_sem]
 have hbq : ∀ m, Bel m (.agg (zad p)) := fun m => by simp [go_sem]
 have han := hlt a (by simp)
 have hbn := hlt b (by simp)
 have hrows : ∀ m, ∀ r ∈ [zad p], ∀ c ∈ r, Bel m c := fun m r hr => by simp only [List.mem_singleton] at hr; subst hr; exact hbp m
 refine zy2 (args' := [.agg (zab g), .agg (zad p), .v (.int .i64 cell), .v (.int .i64 i), .fn (.func 120) [] [.ref a 0 5 0 0, .ref b 0 1 0 0]])
  (HH := [(a, .rows true 0 5 [zad p]), (b, .rows true 0 1 [[.sl (n + 245) (zdG g p cell i).length 6 0 (zdG g p cell i).length]]), (n + 245, .rows true (zdG g p cell i).length 6 ((zdG g p cell i).map zat))])
  [a, b] h (zwR g hg p hp cell i hc) hd hlt rfl (by omega) (.refl _) ?_ ?_ (.refl _ _ _ _) ?_ ?_ ?_ (.same (.v _)) ?_ ?_
 ·intro j hj
  rcases (show j = 0 ∨ j = 1 by omega) with rfl | rfl
  ·exact ⟨_, _, rfl, ha, .rows (.same (hrows _))⟩
  ·exact ⟨_, _, rfl, hb, .rows (.same (by simp [go_sem]))⟩
 ·intro q hq
  simp only [List.mem_cons, List.not_mem_nil, or_false] at hq
  rcases hq with rfl | rfl
  ·exact ⟨Nat.le_of_ble_eq_true rfl, hrows _⟩
  ·exact ⟨Nat.le_of_ble_eq_true rfl, by simp [go_sem, zxt]⟩
 ·simp [go_sem, han, hbn]
 ·exact .cons (.same (hbg _)) (.cons (.same (hbq _)) (.cons (.same (.v _)) (.cons (.same (.v _)) (.cons (.fn .nil (.cons (.ref rfl) (.cons (.ref rfl) .nil))) .nil))))
 ·simp [go_sem]
 ·exact .cons rfl (.rows (.same (hrows _))) (.cons rfl (.rows (.cons (.cons (.sl rfl) .nil) .nil)) (.cons rfl (.rows (.same (zcP _))) .nil))
 ·have e : zd7 [(a, .rows true 0 5 [zad p]), (b, .rows true 0 1 [[.sl (n + 245) (zdG g p cell i).length 6 0 (zdG g p cell i).length]]), (n + 245, .rows true (zdG g p cell i).length 6 ((zdG g p cell i).map zat))] (zlU [a, b] h) =
    upd (upd (upd h a (some (.rows true 0 5 [zad p]))) b (some (.rows true 0 1 [[.sl (n + 245) (zdG g p cell i).length 6 0 (zdG g p cell i).length]]))) (n + 245) (some (.rows true (zdG g p cell i).length 6 ((zdG g p cell i).map zat))) := by
   simp only [List.nodup_cons, List.mem_cons, List.not_mem_nil, or_false, not_or, List.nodup_nil, and_true, not_false_eq_true] at hd
   have na : a ≠ n + 245 := by omega
   have nb : b ≠ n + 245 := by omega
   funext j
   simp only [zd7, zlU, upd]
   by_cases j1 : j = a
   ·subst j1; simp [hd, na]
   ·by_cases j2 : j = b
    ·subst j2; simp [j1, nb]
    ·by_cases j3 : j = n + 245
     ·subst j3; simp [j1, j2]
     ·simp [j1, j2, j3]
  rw [e]
  exact hK
theorem zsL (g : zaf) (hg : GOk g) (p : zaj) (hp : POk g p) (cell i : Int) (hc : zci g p cell i) :
  zaC Tryz.prog 61 [.agg (zab g), .agg (zad p), .v (.int .i64 cell), .v (.int .i64 i)] (.tup [za3 (zdr g p cell i), .v (.int .i64 0)]) := by
 refine pF Tryz.func61 ?_
 have hl := (ziW hg hp hc)
 have hll : (zdG g p cell i).length ≤ 100000000 := Nat.le_trans (List.length_filterMap_le _ _) hl.2
 have hf : ∀ o ∈ zdG g p cell i, zaW o.pos := by
  intro o ho
  obtain ⟨s, hs, h⟩ := List.mem_filterMap.1 ho
  exact (zu6 hg (hl.1 s hs).1 hp.s h).1.fits hg
 have hr : zdr g p cell i = zbk zif (zdG g p cell i) := rfl
 rw [hr]
 repeat first|with_reducible refine wV fun _=>?_|simp [go_sem]
 refine zu7 g hg p hp cell i hc (a := 1) (b := 2) (by decide) (by simp) (by simp [upd, zad, zas]) (by simp [upd]) ?_
 generalize zdG g p cell i = l at *
 repeat first|with_reducible refine wV fun _=>?_|simp [go_sem]
 refine zsU l hf (by omega) (o := 248) (gn := l.length) (by simp [upd]) ?_
 repeat first|with_reducible refine wV fun _=>?_|simp [go_sem]
 refine zkQ (zcI zif l) l.length l.length (zeJ l) (by omega) (fun o ho => hf o (zeK.1 ho)) (o := 248) (by simp [upd]) (by omega) ?_
 repeat first|with_reducible refine wV fun _=>?_|simp [go_sem]
 exact zam rfl (by simp) (by simp [noH, upd]) (by rw [List.drop_zero]; exact List.take_left' (by simp))
theorem zp1 (g : zaf) (hg : GOk g) (p : zaj) (hp : POk g p) : zaC Tryz.prog 77 [.agg (zab g), .agg (zad p)] (zaz (zcF g p)) := by
 refine pF Tryz.func77 ?_
 have hal := hp.al
 have c9 := hg.c9
 have k6 := hg.k6
 have hcp := zhh ⟨p, 0, 0, false⟩ (hp.fits hg)
 have hl0 := hp.h0.len
 have hl1 := hp.h1.len
 have hps := hp.s
 rcases hp.s with hsd | hsd
 ·have hsn : p.side.toNat = 0 := by omega
  repeat first|with_reducible refine wV fun _=>?_|simp [go_sem, hsn, hsd]
  refine zyI (zyN (α := Nat) (fun k => ⟨[(3, .ref 1 0 5 0 0), (5, .sl 2 (zbA g p k).length 5 0 (zbA g p k).length), (15, zas p.h0), (16, .v (.int .i64 p.h0.length)), (17, .v (.int .i64 k))], [(1, .rows true 0 5 [zad p]), (2, .rows true (zbA g p k).length 5 ((zbA g p k).map zad))], 3⟩)
   (fun d k => k + d = g.kinds.length) ?_ g.kinds.length 0 ?_) ?_ ?_
  ·rintro d k k1 hrec
   repeat first|with_reducible refine wV fun _=>?_|simp [go_sem]
   refine zyK (fun hk => ?_) (fun hk => ?_) <;> simp at hk
   ·have hz := zgv g p k
    have ha := zhH g p k
    have hkh : k < p.h0.length := by omega
    have hhv := hp.h0.v k hkh
    repeat first|with_reducible refine wV fun _=>?_|simp [go_sem, hkh]
    refine zyI (zyN (α := Nat) (fun c => ⟨[(3, .ref 1 0 5 0 0), (5, .sl 2 (zcE g p k c).length 5 0 (zcE g p k c).length), (6, .v (.int .i64 k)), (7, .v (.int .i64 (nth p.h0 k))), (15, zas p.h0), (16, .v (.int .i64 p.h0.length)), (17, .v (.int .i64 k)), (23, zas p.at_), (24, .v (.int .i64 p.at_.length)), (25, .v (.int .i64 c))], [(1, .rows true 0 5 [zad p]), (2, .rows true (zcE g p k c).length 5 ((zcE g p k c).map zad))], 3⟩)
     (fun d c => c + d = p.at_.length) ?_ p.at_.length 0 ?_) ?_ ?_
    ·rintro d2 c c1 hrec2
     repeat first|with_reducible refine wV fun _=>?_|simp [go_sem]
     refine zyK (fun hci => ?_) (fun hci => ?_) <;> simp at hci
     ·have hD : zfx g p k c = if nth (p.hand p.side) k = 0 ∨ nth p.at_ c ≠ 0 then none
       else some { ({ p with at_ := p.at_.set c (zaD k p.side) }.withHand p.side ((p.hand p.side).set k (nth (p.hand p.side) k - 1))) with side := 1 - p.side } := rfl
      have hD' : zfx g p k c = if nth p.h0 k = 0 ∨ nth p.at_ c ≠ 0 then none else some { p with at_ := p.at_.set c (zaD k p.side), h0 := p.h0.set k (nth p.h0 k - 1), side := 1 - p.side } := by
       rw [hD]; simp [zaj.hand, zaj.withHand, hsd]
      have hCd := zdO (k : Int) p.side
      rw [hsd] at hCd hD'
      repeat first|with_reducible refine wV fun _=>?_|simp [go_sem, hci]
      refine zyK (fun hcc => ?_) (fun hcc => ?_) <;> simp at hcc
      ·rw [if_pos (by omega)] at hD'
       have hsu := zcq g p k c
       rw [hD'] at hsu
       simp only [Option.toList_none, List.append_nil] at hsu
       repeat first|with_reducible refine wV fun _=>?_|simp [go_sem]
       refine zyI (hrec2 (d2 - 1) (by omega) (c + 1) (by omega)) ?_ (by simp)
       simp [go_sem, zah, hsd, hsu]
      ·rw [if_neg (by omega)] at hD'
       have hsu := zcq g p k c
       rw [hD'] at hsu
       simp only [Option.toList_some] at hsu
       have hcl := zfX g p k c
       have hkm : k * p.at_.length ≤ 6 * 9 := Nat.mul_le_mul (by omega) (by omega)
       repeat first|with_reducible refine wV fun _=>?_|simp [go_sem, hci]
       refine zyO hcp (by simp [go_sem]) ?_
       repeat first|with_reducible refine wV fun _=>?_|simp [go_sem, hci, hsd]
       refine zyM hCd (by simp [go_sem]) ?_
       repeat first|with_reducible refine wV fun _=>?_|simp [go_sem, hsn, hsd, hci, hkh]
       refine zyI (hrec2 (d2 - 1) (by omega) (c + 1) (by omega)) ?_ (by simp)
       simp [go_sem, zah, hsd, hsu]
       (first|done|exact rwX)
     ·have hcl : c = p.at_.length := by omega
      subst hcl
      rw [ha]
      repeat first|with_reducible refine wV fun _=>?_|simp [go_sem]
      refine zyI (hrec (d - 1) (by omega) (k + 1) (by omega)) ?_ (by simp)
      simp [go_sem, zah, hsd]
    ·omega
    ·simp [go_sem, zah, hsd, hz]
    ·simp
   ·have hkl : k = g.kinds.length := by omega
    subst hkl
    have hdl := zeA g p g.kinds.length
    have hkm : g.kinds.length * p.at_.length ≤ 6 * 9 := Nat.mul_le_mul k6 (by omega)
    have hS := zdP (zbA g p g.kinds.length) (by omega) (fun q hq => by
     rw [zfY] at hq
     obtain ⟨k, hk, hq⟩ := List.mem_flatMap.1 hq
     obtain ⟨c, hc, hq⟩ := List.mem_filterMap.1 hq
     exact (ziQ hg hp (by simpa using hk) hq).1.fits hg)
    rw [show zbk zbw (zbA g p g.kinds.length) = zcF g p from rfl] at hS
    generalize zbA g p g.kinds.length = l at *
    generalize zcF g p = r at *
    repeat first|with_reducible refine wV fun _=>?_|simp [go_sem]
    refine zyP [2] hS ?_ (zvA (zcD _)) ?_
    ·(first|done|exact agX)
    ·repeat first|with_reducible refine wV fun _=>?_|simp [go_sem]
  ·omega
  ·simp [go_sem, zah, hsd, show zbA g p 0 = [] from rfl]
  ·simp
 ·have hsn : p.side.toNat = 1 := by omega
  repeat first|with_reducible refine wV fun _=>?_|simp [go_sem, hsn, hsd]
  refine zyI (zyN (α := Nat) (fun k => ⟨[(3, .ref 1 0 5 0 0), (5, .sl 2 (zbA g p k).length 5 0 (zbA g p k).length), (15, zas p.h1), (16, .v (.int .i64 p.h1.length)), (17, .v (.int .i64 k))], [(1, .rows true 0 5 [zad p]), (2, .rows true (zbA g p k).length 5 ((zbA g p k).map zad))], 3⟩)
   (fun d k => k + d = g.kinds.length) ?_ g.kinds.length 0 ?_) ?_ ?_
  ·rintro d k k1 hrec
   repeat first|with_reducible refine wV fun _=>?_|simp [go_sem]
   refine zyK (fun hk => ?_) (fun hk => ?_) <;> simp at hk
   ·have hz := zgv g p k
    have ha := zhH g p k
    have hkh : k < p.h1.length := by omega
    have hhv := hp.h1.v k hkh
    repeat first|with_reducible refine wV fun _=>?_|simp [go_sem, hkh]
    refine zyI (zyN (α := Nat) (fun c => ⟨[(3, .ref 1 0 5 0 0), (5, .sl 2 (zcE g p k c).length 5 0 (zcE g p k c).length), (6, .v (.int .i64 k)), (7, .v (.int .i64 (nth p.h1 k))), (15, zas p.h1), (16, .v (.int .i64 p.h1.length)), (17, .v (.int .i64 k)), (23, zas p.at_), (24, .v (.int .i64 p.at_.length)), (25, .v (.int .i64 c))], [(1, .rows true 0 5 [zad p]), (2, .rows true (zcE g p k c).length 5 ((zcE g p k c).map zad))], 3⟩)
     (fun d c => c + d = p.at_.length) ?_ p.at_.length 0 ?_) ?_ ?_
    ·rintro d2 c c1 hrec2
     repeat first|with_reducible refine wV fun _=>?_|simp [go_sem]
     refine zyK (fun hci => ?_) (fun hci => ?_) <;> simp at hci
     ·have hD : zfx g p k c = if nth (p.hand p.side) k = 0 ∨ nth p.at_ c ≠ 0 then none
       else some { ({ p with at_ := p.at_.set c (zaD k p.side) }.withHand p.side ((p.hand p.side).set k (nth (p.hand p.side) k - 1))) with side := 1 - p.side } := rfl
      have hD' : zfx g p k c = if nth p.h1 k = 0 ∨ nth p.at_ c ≠ 0 then none else some { p with at_ := p.at_.set c (zaD k p.side), h1 := p.h1.set k (nth p.h1 k - 1), side := 1 - p.side } := by
       rw [hD]; simp [zaj.hand, zaj.withHand, hsd]
      have hCd := zdO (k : Int) p.side
      rw [hsd] at hCd hD'
      repeat first|with_reducible refine wV fun _=>?_|simp [go_sem, hci]
      refine zyK (fun hcc => ?_) (fun hcc => ?_) <;> simp at hcc
      ·rw [if_pos (by omega)] at hD'
       have hsu := zcq g p k c
       rw [hD'] at hsu
       simp only [Option.toList_none, List.append_nil] at hsu
       repeat first|with_reducible refine wV fun _=>?_|simp [go_sem]
       refine zyI (hrec2 (d2 - 1) (by omega) (c + 1) (by omega)) ?_ (by simp)
       simp [go_sem, zah, hsd, hsu]
      ·rw [if_neg (by omega)] at hD'
       have hsu := zcq g p k c
       rw [hD'] at hsu
       simp only [Option.toList_some] at hsu
       have hcl := zfX g p k c
       have hkm : k * p.at_.length ≤ 6 * 9 := Nat.mul_le_mul (by omega) (by omega)
       repeat first|with_reducible refine wV fun _=>?_|simp [go_sem, hci]
       refine zyO hcp (by simp [go_sem]) ?_
       repeat first|with_reducible refine wV fun _=>?_|simp [go_sem, hci, hsd]
       refine zyM hCd (by simp [go_sem]) ?_
       repeat first|with_reducible refine wV fun _=>?_|simp [go_sem, hsn, hsd, hci, hkh]
       refine zyI (hrec2 (d2 - 1) (by omega) (c + 1) (by omega)) ?_ (by simp)
       simp [go_sem, zah, hsd, hsu]
       (first|done|exact rwX)
     ·have hcl : c = p.at_.length := by omega
      subst hcl
      rw [ha]
      repeat first|with_reducible refine wV fun _=>?_|simp [go_sem]
      refine zyI (hrec (d - 1) (by omega) (k + 1) (by omega)) ?_ (by simp)
      simp [go_sem, zah, hsd]
    ·omega
    ·simp [go_sem, zah, hsd, hz]
    ·simp
   ·have hkl : k = g.kinds.length := by omega
    subst hkl
    have hdl := zeA g p g.kinds.length
    have hkm : g.kinds.length * p.at_.length ≤ 6 * 9 := Nat.mul_le_mul k6 (by omega)
    have hS := zdP (zbA g p g.kinds.length) (by omega) (fun q hq => by
     rw [zfY] at hq
     obtain ⟨k, hk, hq⟩ := List.mem_flatMap.1 hq
     obtain ⟨c, hc, hq⟩ := List.mem_filterMap.1 hq
     exact (ziQ hg hp (by simpa using hk) hq).1.fits hg)
    rw [show zbk zbw (zbA g p g.kinds.length) = zcF g p from rfl] at hS
    generalize zbA g p g.kinds.length = l at *
    generalize zcF g p = r at *
    repeat first|with_reducible refine wV fun _=>?_|simp [go_sem]
    refine zyP [2] hS ?_ (zvA (zcD _)) ?_
    ·(first|done|exact agX)
    ·repeat first|with_reducible refine wV fun _=>?_|simp [go_sem]
  ·omega
  ·simp [go_sem, zah, hsd, show zbA g p 0 = [] from rfl]
  ·simp
theorem zjv (f : Int → Bool) (l : List Int) {i : Nat} (h : i < l.length) : (l.take (i + 1)).countP f = (l.take i).countP f + (if f (nth l i) then 1 else 0) := by
 rw [List.take_add_one, List.getElem?_eq_getElem h, zaJ _ _ h, Option.toList_some, List.countP_append]
 simp [List.countP_cons]
theorem zil {α : Type} [Inhabited α] (f : α → Bool) (l : List α) {i : Nat} (hi : i < l.length) (hb : ∀ j, j < i → f (nth l j) = false) (h : f (nth l i) = true) : l.findIdx? f = some i := by
 rw [List.findIdx?_eq_some_iff_getElem]
 refine ⟨hi, by rw [← zaJ _ _ hi]; exact h, fun j hj => ?_⟩
 have := hb j hj
 rw [zaJ _ _ (by omega)] at this
 simp [this]
theorem zik {α : Type} [Inhabited α] (f : α → Bool) (l : List α) (hb : ∀ j, j < l.length → f (nth l j) = false) : l.findIdx? f = none := by
 rw [List.findIdx?_eq_none_iff]
 intro x hx
 obtain ⟨j, hj, rfl⟩ := List.getElem_of_mem hx
 have := hb j hj
 rwa [zaJ _ _ hj] at this
def zkF (p : zaj) (side : Int) (K : Nat) (j : Nat) : List Int := (List.range K).map fun (k : Nat) => (((p.at_.take j).countP (zgx p side k) : Nat) : Int)
theorem zmm (p : zaj) (side : Int) (K j : Nat) : (zkF p side K j).length = K := by simp [zkF]
theorem zmJ (p : zaj) (side : Int) (K j : Nat) {k : Nat} (hk : k < K) : nth (zkF p side K j) k = (((p.at_.take j).countP (zgx p side k) : Nat) : Int) := by
 rw [zaJ _ _ (by rw [zmm]; exact hk)]; simp [zkF]
theorem znt {p : zaj} {side : Int} {K j : Nat} (hj : j < p.at_.length) : zkF p side K (j + 1) = (List.range K).map fun (k : Nat) => (((p.at_.take j).countP (zgx p side k) + (if zgx p side k (nth p.at_ j) then 1 else 0) : Nat) : Int) := by
 unfold zkF
 refine List.map_congr_left fun k _ => ?_
 rw [zjv _ _ hj]
theorem zxW {p : zaj} {side : Int} {K j : Nat} (hj : j < p.at_.length) (h : ∀ k : Nat, zgx p side k (nth p.at_ j) = false) : zkF p side K (j + 1) = zkF p side K j := by
 rw [znt hj]
 unfold zkF
 refine List.map_congr_left fun k _ => ?_
 rw [h k]; simp
theorem zwa {p : zaj} {side : Int} {K j m : Nat} (hj : j < p.at_.length) (hm : m < K) (h : ∀ k : Nat, zgx p side k (nth p.at_ j) = decide (k = m)) :
  zkF p side K (j + 1) = (zkF p side K j).set m (nth (zkF p side K j) m + 1) := by
 rw [znt hj]
 refine List.ext_getElem (by simp [zkF]) fun k h1 h2 => ?_
 have hk : k < K := by simpa using h1
 rw [List.getElem_set]
 by_cases e : m = k
 ·subst e
  rw [if_pos rfl, zmJ _ _ _ _ hk]
  simp [h]
 ·rw [if_neg e]
  simp [zkF, h, Ne.symm e]
def zeX (g : zaf) (p : zaj) (side : Int) : List Int := zkF p side g.kinds.length p.at_.length
theorem zj3 (g : zaf) (p : zaj) (side : Int) {k : Nat} (hk : k < g.kinds.length) : nth (zeX g p side) k = zqV p side k := by
 unfold zeX; rw [zmJ _ _ _ _ hk, List.take_length]; rfl
theorem zvm {m s : Int} (h0 : 0 ≤ m) (hs : s = 0 ∨ s = 1) : (1 + 2 * m + s - 1).tmod 2 = s ∧ (1 + 2 * m + s - 1).tdiv 2 = m := by
 rw [Int.tmod_eq_emod_of_nonneg (by omega), Int.tdiv_eq_ediv_of_nonneg (by omega)]
 omega
theorem zk2 (g : zaf) (hg : GOk g) (p : zaj) (hp : POk g p) (side : Int) (hsd : side = 0 ∨ side = 1) :
  zaC Tryz.prog 329 [.agg (zab g), .agg (zad p), .v (.int .i64 side)] (zas (zeX g p side)) := by
 refine pF Tryz.func329 ?_
 have hal := hp.al
 have c9 := hg.c9
 have k6 := hg.k6
 have hall := fun j => zmm p side g.kinds.length j
 have hz : List.replicate g.kinds.length [AV.v (.int .i64 0)] = (zkF p side g.kinds.length 0).map zb3 := by
  refine List.ext_getElem (by simp [zkF]) fun k h1 h2 => ?_
  simp [zkF, zb3]
 repeat first|with_reducible refine wV fun _=>?_|simp [go_sem]
 refine zyI (zyN (α := Nat) (fun j => ⟨[(2, .v (.int .i64 side)), (7, .sl 2 0 1 0 g.kinds.length), (15, zas p.at_), (16, .v (.int .i64 p.at_.length)), (17, .v (.int .i64 j))], [(2, .rows true 0 1 ((zkF p side g.kinds.length j).map zb3))], 3⟩)
  (fun d j => j + d = p.at_.length) ?_ p.at_.length 0 ?_) ?_ ?_
 ·rintro d j j1 hrec
  repeat first|with_reducible refine wV fun _=>?_|simp [go_sem]
  refine zyK (fun hj => ?_) (fun hj => ?_) <;> simp at hj
  ·have hat := hp.at (i := j) (by omega)
   have hman := zaS hat.1 hat.2 hg.k6
   have hM : ∀ k : Nat, zgx p side k (nth p.at_ j) = (decide (0 ≤ (zaq (nth p.at_ j)).1) && decide ((zaq (nth p.at_ j)).2 = side) && (decide ((k : Int) < 0) || decide ((zaq (nth p.at_ j)).1 = k))) := fun k => rfl
   have hno := zxW (p := p) (side := side) (K := g.kinds.length) hj
   have hyes := fun m => zwa (p := p) (side := side) (K := g.kinds.length) (m := m) hj
   rcases hman with ⟨h0, hm⟩ | ⟨h0, hm0, hmk, hms, he⟩
   ·rw [hm] at hM
    have hno := hno (fun k => by rw [hM]; simp)
    repeat first|with_reducible refine wV fun _=>?_|simp [go_sem, hj, h0]
    refine zyI (hrec (d - 1) (by omega) (j + 1) (by omega)) ?_ (by simp)
    simp [go_sem, zah, hno]
   ·have ht := zvm hm0 hms
    rw [← he] at ht
    have hpos : 0 < nth p.at_ j := by omega
    by_cases hs : (zaq (nth p.at_ j)).2 = side
    ·obtain ⟨m, hmm⟩ : ∃ m : Nat, (zaq (nth p.at_ j)).1 = m := ⟨(zaq (nth p.at_ j)).1.toNat, by omega⟩
     rw [hmm] at ht hmk
     have hmk' : m < g.kinds.length := by omega
     have hyes := hyes m hmk' (fun k => by rw [hM, hmm, decide_eq_true hs]; by_cases e : k = m <;> simp [e] <;> omega)
     have hb : 0 ≤ nth (zkF p side g.kinds.length j) m ∧ nth (zkF p side g.kinds.length j) m ≤ 9 := by
      rw [zmJ _ _ _ _ hmk']
      have : (p.at_.take j).countP (zgx p side m) ≤ (p.at_.take j).length := List.countP_le_length
      rw [List.length_take] at this
      omega
     have hlm : m < (zkF p side g.kinds.length j).length := by rw [hall]; exact hmk'
     rw [hs] at ht
     repeat first|with_reducible refine wV fun _=>?_|simp [go_sem, hj, hpos, ht.1, ht.2, hlm, hall, hmk']
     refine zyI (hrec (d - 1) (by omega) (j + 1) (by omega)) ?_ (by simp)
     simp [go_sem, zah, hyes, List.map_set, zb3]
    ·have hno := hno (fun k => by rw [hM, decide_eq_false hs]; simp)
     repeat first|with_reducible refine wV fun _=>?_|simp [go_sem, hj, hpos, ht.1, ht.2, hs]
     refine zyI (hrec (d - 1) (by omega) (j + 1) (by omega)) ?_ (by simp)
     simp [go_sem, zah, hno]
  ·have e : j = p.at_.length := by omega
   subst e
   repeat first|with_reducible refine wV fun _=>?_|simp [go_sem]
   exact zam rfl (by simp [hall]) (by simp [noH, upd]) (by simp [zeX]; exact List.take_of_length_le (by simp [hall]))
 ·omega
 ·simp [go_sem, zah, hz]
 ·simp
end Go.Av
end
section
/- Contracts: play.conditions, play.ended. -/
open Go Go.Proofs
namespace Go.Av
theorem zyj {g : zaf} (hg : GOk g) {p : zaj} (hp : POk g p) (s k : Int) : zqV p s k ≤ 9 := Nat.le_trans List.countP_le_length (by have := hg.c9; have := hp.al; omega)
theorem zjw (g : zaf) (p : zaj) (side : Int) : (zeX g p side).length = g.kinds.length := zmm _ _ _ _
theorem zqY (m : Int) (s side : Int) : ∀ K : Nat, 0 ≤ m → ((List.range K).map fun (k : Nat) => if (decide (0 ≤ m) && decide (s = side) && (decide ((k : Int) < 0) || decide (m = k))) = true then (1 : Nat) else 0).sum = if m < K ∧ s = side then 1 else 0
 | 0, h => by simp; omega
 | K + 1, h => by
  rw [List.range_succ, List.map_append, List.sum_append, zqY m s side K h]
  have e : (if (decide (0 ≤ m) && decide (s = side) && (decide ((K : Int) < 0) || decide (m = K))) = true then (1 : Nat) else 0) = if s = side ∧ m = K then 1 else 0 := by
   have : ¬ (K : Int) < 0 := by omega
   simp [h, this]
  simp only [List.map_cons, List.map_nil, List.sum_cons, List.sum_nil, e, Nat.add_zero]
  by_cases hs : s = side
  ·by_cases h1 : m < K
   ·rw [if_pos ⟨h1, hs⟩, if_neg (by omega), if_pos ⟨by omega, hs⟩]
   ·by_cases h2 : m = K
    ·rw [if_neg (by omega), if_pos ⟨hs, h2⟩, if_pos ⟨by omega, hs⟩, Nat.zero_add]
    ·rw [if_neg (by omega), if_neg (by omega), if_neg (by omega)]
  ·rw [if_neg (by simp [hs]), if_neg (by simp [hs]), if_neg (by simp [hs])]
theorem zmR : ∀ l : List Nat, (l.map fun _ => 0).sum = 0
 | [] => rfl
 | _ :: l => by simp [zmR l]
theorem zvk (f h : Nat → Nat) : ∀ l : List Nat, (l.map fun k => f k + h k).sum = (l.map f).sum + (l.map h).sum
 | [] => rfl
 | k :: l => by simp [zvk f h l]; omega
theorem zuK {K : Nat} (hK : K ≤ 6) (side : Int) : ∀ l : List Int, (∀ c ∈ l, 0 ≤ c ∧ c ≤ 2 * K) →
  ((List.range K).map fun (k : Nat) => l.countP fun c => decide (0 ≤ (zaq c).1) && decide ((zaq c).2 = side) && (decide ((k : Int) < 0) || decide ((zaq c).1 = k))).sum =
   l.countP fun c => decide (0 ≤ (zaq c).1) && decide ((zaq c).2 = side) && (decide ((-1 : Int) < 0) || decide ((zaq c).1 = -1))
 | [], _ => by simp [zmR]
 | c :: l, h => by
  have ih := zuK hK side l (fun x hx => h x (by simp [hx]))
  simp only [List.countP_cons]
  rw [zvk, ih]
  congr 1
  have hc := h c (by simp)
  rcases zaS hc.1 hc.2 hK with ⟨h0, hm⟩ | ⟨h0, hm0, hmk, hms, he⟩
  ·rw [hm]; simp [zmR]
  ·rw [zqY _ _ _ _ hm0]
   by_cases hs : (zaq c).2 = side
   ·simp [hs, hm0, hmk]
   ·simp [hs]
theorem zyk {g : zaf} (hg : GOk g) {p : zaj} (hp : POk g p) (side : Int) : ((List.range g.kinds.length).map fun (k : Nat) => zqV p side k).sum = zqV p side (-1) :=
 zuK hg.k6 side p.at_ hp.av
section
variable (g : zaf) (hg : GOk g) (p : zaj) (hp : POk g p) (c : Int × Int × Int × Int) (hc : zfV g.cells g.kinds.length c)
theorem zr3 (hg : GOk g) (hp : POk g p) (hc : zfV g.cells g.kinds.length c) (h1 : c.1 = 1) : zaC Tryz.prog 328 [.agg (zab g), .agg (zad p), .agg (za6 c)] (.v (.bool (zdE c p))) := by
 refine pF Tryz.func328 ?_
 have hC := zk2 g hg p hp p.side hp.s
 have hl := zjw g p p.side
 have hk := hc.kind
 have hck : c.2.1.toNat < (zeX g p p.side).length := by omega
 have hn := zj3 g p p.side (k := c.2.1.toNat) (by omega)
 rw [show ((c.2.1.toNat : Nat) : Int) = c.2.1 by omega] at hn
 have he : zdE c p = decide (nth (zeX g p p.side) c.2.1.toNat = 0) := by
  unfold zdE; rw [if_pos h1, hn]; simp
 rw [he]
 generalize zeX g p p.side = l at *
 obtain ⟨c0, c1, c2, c3⟩ := c
 simp only at hk hck
 repeat first|with_reducible refine wV fun _=>?_|simp [go_sem]
 refine zyM hC (by simp [go_sem]) ?_
 repeat first|with_reducible refine wV fun _=>?_|simp [go_sem, hck]
theorem zr4 (hg : GOk g) (hp : POk g p) (hc : zfV g.cells g.kinds.length c) (h1 : c.1 = 2) : zaC Tryz.prog 330 [.agg (zab g), .agg (zad p), .agg (za6 c)] (.v (.bool (zdE c p))) := by
 refine pF Tryz.func330 ?_
 have hal := hp.al
 have hps := hp.s
 have hn := hc.n
 have hcd := hn.2.1 h1
 have hci : c.2.2.1.toNat < p.at_.length := by omega
 have he : zdE c p = decide (nth p.at_ c.2.2.1.toNat = zaD c.2.1 (1 - p.side)) := by
  unfold zdE; rw [if_neg (by omega), if_pos h1]
 rw [he]
 have hC := zdO c.2.1 (1 - p.side)
 obtain ⟨c0, c1, c2, c3⟩ := c
 simp only at hcd hci hC hn
 generalize zaD c1 (1 - p.side) = code at *
 repeat first|with_reducible refine wV fun _=>?_|simp [go_sem, hci]
 refine zyM hC (by simp [go_sem]) ?_
 repeat first|with_reducible refine wV fun _=>?_|simp [go_sem, hci]
theorem zr5 (hg : GOk g) (hp : POk g p) (hc : zfV g.cells g.kinds.length c) (h1 : c.1 = 3) : zaC Tryz.prog 331 [.agg (zab g), .agg (zad p), .agg (za6 c)] (.v (.bool (zdE c p))) := by
 refine pF Tryz.func331 ?_
 have hC := zk2 g hg p hp p.side hp.s
 have hl := zjw g p p.side
 have k6 := hg.k6
 have hnn := fun (k : Nat) hk => zj3 g p p.side (k := k) hk
 have hle := fun k : Nat => zyj hg hp p.side k
 have hall := zyk hg hp p.side
 obtain ⟨S, hS⟩ : ∃ S : Nat → Nat, S = fun i => ((List.range i).map fun (k : Nat) => zqV p p.side k).sum := ⟨_, rfl⟩
 have hS0 : S 0 = 0 := by rw [hS]; rfl
 have hSs : ∀ i, S (i + 1) = S i + zqV p p.side i := fun i => by rw [hS]; simp [List.range_succ]
 have hSK : S g.kinds.length = zqV p p.side (-1) := by rw [hS]; exact hall
 have hSb : ∀ i, S i ≤ 9 * i := fun i => by
  induction i with
  | zero => omega
  | succ i ih => rw [hSs]; have := hle i; omega
 have he : zdE c p = decide ((S g.kinds.length : Int) ≤ c.2.2.1) := by
  unfold zdE; rw [if_neg (by omega), if_neg (by omega), hSK]
 rw [he]
 clear hS
 generalize zeX g p p.side = l at *
 obtain ⟨c0, c1, c2, c3⟩ := c
 repeat first|with_reducible refine wV fun _=>?_|simp [go_sem]
 refine zyJ hC (by simp [go_sem]) ?_
 repeat first|with_reducible refine wV fun _=>?_|simp [go_sem]
 refine zyI (zyN (α := Nat) (fun i => ⟨[(5, .ref 2 0 4 0 0), (7, .v (.int .i64 (S i))), (14, zas l), (15, .v (.int .i64 l.length)), (16, .v (.int .i64 i))], [(2, .rows true 0 4 [za6 (c0, c1, c2, c3)])], 3⟩)
  (fun d i => i + d = l.length) ?_ l.length 0 ?_) ?_ ?_
 ·rintro d i i1 hrec
  repeat first|with_reducible refine wV fun _=>?_|simp [go_sem]
  refine zyK (fun hi => ?_) (fun hi => ?_) <;> simp at hi
  ·have h2 := hnn i (by omega)
   have h3 := hle i
   have h4 := hSb i
   have h5 := hSs i
   repeat first|with_reducible refine wV fun _=>?_|simp [go_sem, hi]
   refine zyI (hrec (d - 1) (by omega) (i + 1) (by omega)) ?_ (by simp)
   simp [go_sem, zah, h5, h2]
  ·have e : i = l.length := by omega
   subst e
   rw [hl]
   repeat first|with_reducible refine wV fun _=>?_|simp [go_sem]
 ·omega
 ·simp [go_sem, zah, hS0]
 ·simp
end
def zfj (g : zaf) (p : zaj) : Int × Bool := if 0 ≤ zcj g p then ((nth g.clauses (zcj g p).toNat).2.2.2, true) else (0, false)
theorem zmz : glbs.lookup 0 = some [.v .nilFunc, .fn (.func 328) [] [], .fn (.func 330) [] [], .fn (.func 331) [] []] := rfl
theorem zll (g : zaf) (hg : GOk g) (p : zaj) (hp : POk g p) : zaC Tryz.prog 74 [.agg (zab g), .agg (zad p)] (.tup [.v (.int .i64 (zfj g p).1), .v (.bool (zfj g p).2)]) := by
 refine pF Tryz.func74 ?_
 have hcn := hg.cn
 repeat first|with_reducible refine wV fun _=>?_|simp [go_sem]
 refine zyI (zyN (α := Nat) (fun i => ⟨[(2, .ref 0 0 9 0 0), (3, .ref 1 0 5 0 0), (9, .lst 4 (g.clauses.map za6)), (10, .v (.int .i64 g.clauses.length)), (11, .v (.int .i64 i))], [(0, .rows true 0 9 [zab g]), (1, .rows true 0 5 [zad p])], 2⟩)
  (fun d i => i + d = g.clauses.length ∧ ∀ j, j < i → zdE (nth g.clauses j) p = false) ?_ g.clauses.length 0 ?_) ?_ ?_
 ·rintro d i ⟨i1, i2⟩ hrec
  repeat first|with_reducible refine wV fun _=>?_|simp [go_sem]
  refine zyK (fun hi => ?_) (fun hi => ?_) <;> simp at hi
  ·have hcl := hg.cl _ (zan hi)
   have hfi : zdE (nth g.clauses i) p = true → zfj g p = ((nth g.clauses i).2.2.2, true) := fun hc => by
    have he : zcj g p = i := by unfold zcj; rw [zil (fun c => zdE c p) g.clauses hi i2 hc]
    unfold zfj
    rw [he, if_pos (by omega)]; simp
   have h1 := zr3 g p _ hg hp hcl
   have h2 := zr4 g p _ hg hp hcl
   have h3 := zr5 g p _ hg hp hcl
   have hcond := hcl.cond
   obtain ⟨c, hcc⟩ : ∃ c, c = nth g.clauses i := ⟨_, rfl⟩
   rw [← hcc] at hfi h1 h2 h3 hcond
   have fin : ∀ b, zdE c p = b → b = false → ∀ j, j < i + 1 → zdE (nth g.clauses j) p = false := by
    intro b hb hf j hj
    rcases Nat.lt_or_ge j i with h | h
    ·exact i2 j h
    ·obtain rfl : j = i := by omega
     rw [← hcc, hb, hf]
   obtain ⟨c0, c1, c2, c3⟩ := c
   generalize hcb : zdE (c0, c1, c2, c3) p = b at *
   simp only at hcond hfi
   rcases hcond with rfl | rfl | rfl
   ·have hC := h1 rfl
    repeat first|with_reducible refine wV fun _=>?_|simp [go_sem, hi, ← hcc, zmz]
    refine zyM hC (by simp [go_sem]) ?_
    repeat first|with_reducible refine wV fun _=>?_|simp [go_sem]
    cases b
    ·repeat first|with_reducible refine wV fun _=>?_|simp [go_sem]
     refine zyI (hrec (d - 1) (by omega) (i + 1) ⟨by omega, fin _ rfl rfl⟩) ?_ (by simp)
     simp [go_sem, zah]
    ·rw [hfi rfl]
     repeat first|with_reducible refine wV fun _=>?_|simp [go_sem]
   ·have hC := h2 rfl
    repeat first|with_reducible refine wV fun _=>?_|simp [go_sem, hi, ← hcc, zmz]
    refine zyM hC (by simp [go_sem]) ?_
    repeat first|with_reducible refine wV fun _=>?_|simp [go_sem]
    cases b
    ·repeat first|with_reducible refine wV fun _=>?_|simp [go_sem]
     refine zyI (hrec (d - 1) (by omega) (i + 1) ⟨by omega, fin _ rfl rfl⟩) ?_ (by simp)
     simp [go_sem, zah]
    ·rw [hfi rfl]
     repeat first|with_reducible refine wV fun _=>?_|simp [go_sem]
   ·have hC := h3 rfl
    repeat first|with_reducible refine wV fun _=>?_|simp [go_sem, hi, ← hcc, zmz]
    refine zyM hC (by simp [go_sem]) ?_
    repeat first|with_reducible refine wV fun _=>?_|simp [go_sem]
    cases b
    ·repeat first|with_reducible refine wV fun _=>?_|simp [go_sem]
     refine zyI (hrec (d - 1) (by omega) (i + 1) ⟨by omega, fin _ rfl rfl⟩) ?_ (by simp)
     simp [go_sem, zah]
    ·rw [hfi rfl]
     repeat first|with_reducible refine wV fun _=>?_|simp [go_sem]
  ·have he : zcj g p = -1 := by unfold zcj; rw [zik (fun c => zdE c p) g.clauses (fun j hj => i2 j (by omega))]
   have he' : zfj g p = (0, false) := by unfold zfj; rw [he]; rfl
   rw [he']
   repeat first|with_reducible refine wV fun _=>?_|simp [go_sem]
 ·exact ⟨by simp, fun j hj => by omega⟩
 ·simp [go_sem, zah]
 ·simp
end Go.Av
end
section
open Go Go.Proofs
namespace Go.Av
def zsN (o : zco) : List AV := [.agg (zat o)]
theorem zlk {n j : Nat} (h : j < n) : (List.range n).drop j = j :: (List.range n).drop (j + 1) := by
 rw [List.drop_eq_getElem_cons (by simpa using h)]; simp
theorem zuX (g : zaf) (hg : GOk g) (p : zaj) (hp : POk g p) : zm4 Tryz.prog 137 [.fp (zad p), .fp (zab g)] 0 ((zdC g p).map zsN) := by
 refine zy3 (by kernel_rfl) Tryz.func137 rfl rfl (Nat.le_of_ble_eq_true rfl) (by kernel_rfl) (fun l => ?_) (hm2 := by decide)
 have hal := hp.al
 have c9 := hg.c9
 have k6 := hg.k6
 have hgb : ∀ (n : Nat) (L : List zco), Bel n (zbh l 0 (L.map zsN)) := fun n L => by
  simp only [zbh, zqi, zl4, List.forall_mem_cons, zvG, zcN]
  simp [go_sem, zsN]
 obtain ⟨oF, hoF⟩ : ∃ oF : Nat → List zco, oF = fun j => ((List.range p.at_.length).drop j).flatMap (zdj g p) := ⟨_, rfl⟩
 have ho0 : zdC g p = oF 0 := by rw [hoF]; rfl
 have hos : ∀ j, j < p.at_.length → oF j = zdj g p j ++ oF (j + 1) := fun j hj => by rw [hoF]; simp only; rw [zlk hj, List.flatMap_cons]
 have hon : oF p.at_.length = [] := by rw [hoF]; simp only; rw [List.drop_eq_nil_of_le (by simp)]; rfl
 rw [ho0]
 clear hoF ho0
 repeat first|with_reducible refine wV fun _=>?_|simp [go_sem, GH]
 refine zyI (zyN (α := Nat) (fun j => ⟨[(0, .fn (.yield l) [] []), (1, .fp (zad p)), (2, .fp (zab g)), (14, zas p.at_), (15, .v (.int .i64 p.at_.length)), (16, .v (.int .i64 j)), (1000000007, zbh l 0 ((oF j).map zsN))], [], 0⟩)
  (fun d j => j + d = p.at_.length) ?_ p.at_.length 0 ?_) ?_ ?_
 ·rintro d j j1 hrec
  repeat first|with_reducible refine wV fun _=>?_|simp [go_sem, GH]
  refine zyK (fun hj => ?_) (fun hj => ?_) <;> simp at hj
  ·have hat := hp.at (i := j) (by omega)
   have hman := zaS hat.1 hat.2 hg.k6
   have hO := zfE (nth p.at_ j)
   have hoj := hos j hj
   have hoa : zdj g p j = if 0 ≤ (zaq (nth p.at_ j)).1 ∧ (zaq (nth p.at_ j)).2 = p.side then (List.range (nth g.kinds (zaq (nth p.at_ j)).1.toNat).progs.length).flatMap fun (i : Nat) => zdr g p j i else [] := rfl
   have hrp : ∀ i : Nat, i < (nth g.kinds (zaq (nth p.at_ j)).1.toNat).progs.length → 0 ≤ (zaq (nth p.at_ j)).1 → (zaq (nth p.at_ j)).2 = p.side → zci g p j i := fun i hi h1 h2 =>
    ⟨by omega, by omega, h1, h2, by omega, by simpa using hi⟩
   have hRun : ∀ i : Nat, i < (nth g.kinds (zaq (nth p.at_ j)).1.toNat).progs.length → 0 ≤ (zaq (nth p.at_ j)).1 → (zaq (nth p.at_ j)).2 = p.side → _ := fun i hi h1 h2 => zsL g hg p hp j i (hrp i hi h1 h2)
   have hrl := fun (i : Nat) hi h1 h2 => zkj hg hp (hrp i hi h1 h2)
   clear hrp
   generalize zaq (nth p.at_ j) = m at *
   obtain ⟨mk, ms⟩ := m
   simp only at hoa hRun hman hO hrl
   repeat first|with_reducible refine wV fun _=>?_|simp [go_sem, hj, GH]
   refine zyJ hO (by simp [go_sem]) ?_
   repeat first|with_reducible refine wV fun _=>?_|simp [go_sem, GH]
   refine zyK (fun hc => ?_) (fun hc => ?_) <;> simp at hc
   ·have hz : zdj g p j = [] := by rw [hoa, if_neg (by omega)]
    rw [hz, List.nil_append] at hoj
    rw [hoj]
    repeat first|with_reducible refine wV fun _=>?_|simp [go_sem, GH]
    refine zyI (hrec (d - 1) (by omega) (j + 1) (by omega)) ?_ (by simp)
    simp [go_sem, zah, hgb, GH]
   ·rw [if_pos (by omega)] at hoa
    have hmk : mk.toNat < g.kinds.length := by
     simp only [Prod.mk.injEq] at hman
     omega
    have hn8 := hg.pn _ (zan hmk)
    obtain ⟨np, hnp⟩ : ∃ np, np = (nth g.kinds mk.toNat).progs.length := ⟨_, rfl⟩
    rw [← hnp] at hoa hRun hn8 hrl
    obtain ⟨pF, hpF⟩ : ∃ pF : Nat → List zco, pF = fun i => ((List.range np).drop i).flatMap (fun (i : Nat) => zdr g p j i) ++ oF (j + 1) := ⟨_, rfl⟩
    have hp0 : oF j = pF 0 := by rw [hpF, hoj, hoa]; rfl
    have hps : ∀ i, i < np → pF i = zdr g p j i ++ pF (i + 1) := fun i hi => by rw [hpF]; simp only; rw [zlk hi, List.flatMap_cons, List.append_assoc]
    have hpn : pF np = oF (j + 1) := by rw [hpF]; simp only; rw [List.drop_eq_nil_of_le (by simp)]; rfl
    rw [hp0]
    clear hpF hp0 hoa hoj
    repeat first|with_reducible refine wV fun _=>?_|simp [go_sem, GH, hmk, ← hnp]
    refine zyI (zyN (α := Nat) (fun i => ⟨[(0, .fn (.yield l) [] []), (1, .fp (zad p)), (2, .fp (zab g)), (4, .v (.int .i64 j)), (14, zas p.at_), (15, .v (.int .i64 p.at_.length)), (16, .v (.int .i64 j)), (40, .v (.int .i64 np)), (41, .v (.int .i64 i)), (1000000007, zbh l 0 ((pF i).map zsN))], [], 0⟩)
     (fun d i => i + d = np) ?_ np 0 ?_) ?_ ?_
    ·rintro d2 i i1 hrec2
     repeat first|with_reducible refine wV fun _=>?_|simp [go_sem, GH]
     refine zyK (fun hi => ?_) (fun hi => ?_) <;> simp at hi
     ·have hR := hRun i hi (by omega) (by omega)
      have hpi := hps i hi
      obtain ⟨rs, hrs⟩ : ∃ rs, rs = zdr g p j i := ⟨_, rfl⟩
      have hrl' := hrl i hi (by omega) (by omega)
      rw [← hrs] at hR hpi hrl'
      obtain ⟨rF, hrF⟩ : ∃ rF : Nat → List zco, rF = fun t => rs.drop t ++ pF (i + 1) := ⟨_, rfl⟩
      have hr0 : pF i = rF 0 := by rw [hrF, hpi]; rfl
      have hrt : ∀ t, t < rs.length → rF t = nth rs t :: rF (t + 1) := fun t ht => by rw [hrF]; simp only; rw [zaM ht]; rfl
      have hrn : rF rs.length = pF (i + 1) := by rw [hrF]; simp
      rw [hr0]
      clear hrF hr0
      repeat first|with_reducible refine wV fun _=>?_|simp [go_sem, GH]
      refine zyJ hR (by simp [go_sem]) ?_
      repeat first|with_reducible refine wV fun _=>?_|simp [go_sem, GH]
      refine zyI (zyN (α := Nat) (fun t => ⟨[(0, .fn (.yield l) [] []), (1, .fp (zad p)), (2, .fp (zab g)), (4, .v (.int .i64 j)), (14, zas p.at_), (15, .v (.int .i64 p.at_.length)), (16, .v (.int .i64 j)), (40, .v (.int .i64 np)), (41, .v (.int .i64 i)), (52, za3 rs), (53, .v (.int .i64 rs.length)), (54, .v (.int .i64 t)), (1000000007, zbh l 0 ((rF t).map zsN))], [], 0⟩)
       (fun d t => t + d = rs.length) ?_ rs.length 0 ?_) ?_ ?_
      ·rintro d3 t t1 hrec3
       repeat first|with_reducible refine wV fun _=>?_|simp [go_sem, GH]
       refine zyK (fun ht => ?_) (fun ht => ?_) <;> simp at ht
       ·rw [hrt t ht]
        repeat first|with_reducible refine wV fun _=>?_|simp [go_sem, GH, ht]
        refine zrD.mk (more := 0) (xs := zsN (nth rs t)) (rs := (rF (t + 1)).map zsN) _ (by simp [upd, GH]) (.refl _) (.refl _ _ _ _) (by simp [go_sem, zsN]) ?_ ?_
        ·repeat first|with_reducible refine wV fun _=>?_|simp [go_sem, GH]
         refine zyI (hrec3 (d3 - 1) (by omega) (t + 1) (by omega)) ?_ (by simp)
         simp [go_sem, zah, hgb, GH]
        ·repeat first|with_reducible refine wV fun _=>?_|simp [go_sem, GH]
       ·have e : t = rs.length := by omega
        subst e
        rw [hrn]
        repeat first|with_reducible refine wV fun _=>?_|simp [go_sem, GH]
        refine zyI (hrec2 (d2 - 1) (by omega) (i + 1) (by omega)) ?_ (by simp)
        simp [go_sem, zah, hgb, GH]
      ·omega
      ·simp [go_sem, zah, hgb, GH]
      ·simp
     ·have e : i = np := by omega
      subst e
      rw [hpn]
      repeat first|with_reducible refine wV fun _=>?_|simp [go_sem, GH]
      refine zyI (hrec (d - 1) (by omega) (j + 1) (by omega)) ?_ (by simp)
      simp [go_sem, zah, hgb, GH]
    ·omega
    ·simp [go_sem, zah, hgb, GH]
    ·simp
  ·have e : j = p.at_.length := by omega
   subst e
   rw [hon]
   repeat first|with_reducible refine wV fun _=>?_|simp [go_sem, GH]
 ·omega
 ·simp [go_sem, zah, hgb, GH]
 ·simp
def zu0 (n : Nat) : AV := .fn (.func 137) [] [.ref (n + 1) 0 5 0 0, .ref n 0 9 0 0]
def zuY (g : zaf) (p : zaj) (n : Nat) : List (Nat × zbz) := [(n, .rows true 0 9 [zab g]), (n + 1, .rows true 0 5 [zad p])]
theorem zmK (g : zaf) (p : zaj) : zgf Tryz.prog 75 [.agg (zab g), .agg (zad p)] zu0 (zuY g p) 2 := by
 refine ⟨?_, fun n => ⟨by simp [go_sem, zu0], by simp [go_sem, zuY]⟩⟩
 refine zyL (by kernel_rfl) Tryz.func75 rfl rfl (Nat.le_of_ble_eq_true rfl) (by kernel_rfl) ?_
 repeat first|with_reducible refine wV fun _=>?_|simp [go_sem, zu0, zuY]
 simp [go_sem, zah]
theorem zqK (g : zaf) (p : zaj) : (zfj g p).2 = decide (0 ≤ zcj g p) := by
 unfold zfj; split <;> simp_all
theorem ztB {α : Type} (f : α → Bool) : ∀ l : List α, l.any f = decide (0 < (l.filter f).length)
 | [] => rfl
 | x :: l => by cases h : f x <;> simp [h, ztB f l]
theorem zhy (g : zaf) (hg : GOk g) (p : zaj) (hp : POk g p) : zaC Tryz.prog 24 [.agg (zab g), .agg (zad p)] (zaz (zaH g p)) := by
 refine pF Tryz.func24 ?_
 have hE := zll g hg p hp
 have hD := zp1 g hg p hp
 have hdl := zfZ hg hp
 have hdo := fun q hq => ((znA hg hp) q hq).1.fits hg
 have hol := zj7 hg hp
 have hoo := fun o ho => ((zq0 hg hp) o ho).1.fits hg
 have hS : zgf Tryz.prog 75 [.agg (zab g), .agg (zad p)] (fun n => zu0 n) (fun n => zuY g p n) 2 := zmK g p
 have hQ := zuX g hg p hp
 simp only [zu0, zuY] at hS
 have e2 := zqK g p
 have hMv : zaH g p = if 0 ≤ zcj g p then [] else zbk zbw (zdH g p) := rfl
 have hML : zdH g p = ((zdC g p).filter fun o => !mustP g p || o.took).map (·.pos) ++ (if ziH g p then [] else zcF g p) := rfl
 have hMu : ziH g p = (g.must && (zdC g p).any (·.took)) := rfl
 rw [e2] at hE
 rw [hMv]
 generalize zcj g p = ep at *
 generalize (zfj g p).1 = ev1 at *
 generalize zdC g p = outs at *
 generalize zcF g p = drops at *
 generalize ziH g p = must at *
 generalize zdH g p = mvl at *
 clear hMv e2
 repeat first|with_reducible refine wV fun _=>?_|simp [go_sem]
 refine zyJ hE (by simp [go_sem]) ?_
 repeat first|with_reducible refine wV fun _=>?_|simp [go_sem]
 refine zyK (fun he => ?_) (fun he => ?_) <;> simp at he
 ·rw [if_pos he]
  repeat first|with_reducible refine wV fun _=>?_|simp [go_sem]
 ·rw [if_neg (by omega)]
  repeat first|with_reducible refine wV fun _=>?_|simp [go_sem, GH]
  refine zyO hS (by simp [go_sem]) ?_
  repeat first|with_reducible refine wV fun _=>?_|simp [go_sem, GH]
  refine zfi.mk [.fp (zad p), .fp (zab g)] (zaK _ [4, 5]) hQ (zc5 _ _) ?_ (by simp [go_sem]) (by simp [zsN]) ?_
  ·refine zai.cons (.frzP rfl ?_ ?_ ?_ ?_) (zai.cons (.frzP rfl ?_ ?_ ?_ ?_) .nil) <;> first | exact zai.refl _ _ _ _ | simp [zaK, zaR, upd]
  obtain ⟨al, hal⟩ : ∃ al : Nat → List zaj, al = fun k => (outs.take k).map (·.pos) := ⟨_, rfl⟩
  obtain ⟨tk, htk⟩ : ∃ tk : Nat → List zaj, tk = fun k => ((outs.take k).filter (·.took)).map (·.pos) := ⟨_, rfl⟩
  have hall : ∀ k, (al k).length ≤ 7200000000 := fun k => by rw [hal]; simp; omega
  have htkl : ∀ k, (tk k).length ≤ 7200000000 := fun k => by rw [htk]; simp only [List.length_map]; have := List.length_filter_le (·.took) (outs.take k); simp at this; omega
  have hals : ∀ k, k < outs.length → al (k + 1) = al k ++ [(nth outs k).pos] := fun k hk => by rw [hal]; simp only; rw [List.take_add_one, List.getElem?_eq_getElem hk, zaJ _ _ hk, Option.toList_some, List.map_append]; rfl
  have htks : ∀ k, k < outs.length → tk (k + 1) = if (nth outs k).took = true then tk k ++ [(nth outs k).pos] else tk k := fun k hk => by
   rw [htk]; simp only; rw [List.take_add_one, List.getElem?_eq_getElem hk, zaJ _ _ hk, Option.toList_some, List.filter_append]
   cases hq : outs[k].took <;> simp [hq]
  have hal0 : al 0 = [] := by rw [hal]; rfl
  have htk0 : tk 0 = [] := by rw [htk]; rfl
  have halE : al outs.length = outs.map (·.pos) := by rw [hal]; simp
  have htkE : tk outs.length = (outs.filter (·.took)).map (·.pos) := by rw [htk]; simp
  clear hal htk
  refine Fgt.to (zy1 (α := Nat) (fun k => ([(2, .ref 0 0 9 0 0), (3, .ref 1 0 5 0 0), (7, .ref 2 0 1 0 0), (8, .ref 3 0 1 0 0)], [(0, .rows true 0 9 [zab g]), (1, .rows true 0 5 [zad p]), (2, .rows true 0 1 [[.sl 6 (al k).length 5 0 (al k).length]]), (3, .rows true 0 1 [[.sl 7 (tk k).length 5 0 (tk k).length]]),
    (6, .rows true (al k).length 5 ((al k).map zad)), (7, .rows true (tk k).length 5 ((tk k).map zad))], 8))
   (fun rows k => rows = (outs.drop k).map zsN ∧ k ≤ outs.length) ?_ ?_ _ 0 ?_) ?_ ?_
  ·rintro k ⟨i1, i2⟩
   have hk : k = outs.length := by
    have := congrArg List.length i1
    simp at this
    omega
   subst hk
   refine ⟨rfl, ?_⟩
   have hmu : must = (g.must && decide (0 < (tk outs.length).length)) := by
    rw [hMu, htkE, ztB, List.length_map]
   have hft : ∀ q ∈ tk outs.length, zaW q := fun q hq => by
    rw [htkE] at hq
    obtain ⟨o, ho, rfl⟩ := List.mem_map.1 hq
    exact hoo o (List.mem_filter.1 ho).1
   have hfa : ∀ q ∈ al outs.length, zaW q := fun q hq => by
    rw [halE] at hq
    obtain ⟨o, ho, rfl⟩ := List.mem_map.1 hq
    exact hoo o ho
   have hla := hall outs.length
   have hlt := htkl outs.length
   by_cases hm : must = true
   ·rw [hm] at hmu hML
    have hgm : g.must = true := by cases h : g.must <;> simp [h] at hmu ⊢
    have hpos : 0 < (tk outs.length).length := by rw [hgm] at hmu; simpa using hmu
    have hpos' : (0 : Int) < (tk outs.length).length := by omega
    have e : mvl = tk outs.length := by rw [hML, htkE]; simp
    rw [e]
    generalize tk outs.length = tks at *
    have hS1 := zdP tks (by omega) hft
    repeat first|with_reducible refine wV fun _=>?_|simp [go_sem, GH, ← hmu]
    refine zyP [7] hS1 ?_ (zvA (zcD _)) ?_
    ·(first|done|exact agX)
    ·repeat first|with_reducible refine wV fun _=>?_|simp [go_sem, GH]
   ·have e : mvl = al outs.length ++ drops := by
     simp only [Bool.not_eq_true] at hm
     rw [hML, hm, halE, List.filter_eq_self.2 (by simp)]; simp
    rw [e]
    have hS1 := zdP (al outs.length ++ drops) (by rw [List.length_append]; omega) (fun q hq => by
     rcases List.mem_append.1 hq with h | h
     ·exact hfa q h
     ·exact hdo q h)
    simp only [Bool.not_eq_true] at hm
    rw [hm] at hmu
    generalize al outs.length = als at *
    generalize tk outs.length = tks at *
    generalize zbk zbw (als ++ drops) = res at *
    repeat first|with_reducible refine wV fun _=>?_|simp [go_sem, GH, ← hmu]
    refine zyM hD (by simp [go_sem]) ?_
    repeat first|with_reducible refine wV fun _=>?_|simp [go_sem, GH]
    refine zay.frz [zaz (als ++ drops)] _ [6] [(6, some (.rows false (als.length + 1) 5 ((als ++ drops).map zad)))] hS1 ?_ ?_ (zvA (zcD _)) ?_
    ·intro q hq
     simp only [List.mem_singleton] at hq
     subst hq
     exact ⟨by simp, als.length + 1, 5, _, rfl, by simp [upd]⟩
    ·intro h₁ hS
     have h6 := hS 6 (by simp)
     simp [upd] at h6
     exact .cons (zam h6.symm (by simp) (by simp [zao, upd]) (by simp; exact List.take_of_length_le (by simp))) .nil
    ·repeat first|with_reducible refine wV fun _=>?_|simp [go_sem, GH]
  ·rintro xs rs k ⟨i1, i2⟩ hrec
   have hk : k < outs.length := by
    have := congrArg List.length i1
    simp at this
    omega
   rw [zaM hk, List.map_cons, List.cons.injEq] at i1
   obtain ⟨rfl, rfl⟩ := i1
   have hals := hals k hk
   have htks := htks k hk
   have h1 := hall k
   have h2 := htkl k
   obtain ⟨o, ho⟩ : ∃ o, o = nth outs k := ⟨_, rfl⟩
   rw [← ho] at hals htks ⊢
   obtain ⟨op, ot⟩ := o
   simp only at hals htks
   generalize hrs : (outs.drop (k + 1)).map zsN = rs at *
   refine zy4 (Nat.zero_le _) ?_
   repeat first|with_reducible refine wV fun _=>?_|simp [go_sem, GH, zsN]
   cases ot
   ·rw [if_neg (by simp)] at htks
    repeat first|with_reducible refine wV fun _=>?_|simp [go_sem, GH]
    refine Fgt.to (hrec (k + 1) ⟨hrs.symm, by omega⟩) ?_ (by simp)
    simp [go_sem, zah, GH, hals, htks]
   ·rw [if_pos rfl] at htks
    repeat first|with_reducible refine wV fun _=>?_|simp [go_sem, GH]
    refine Fgt.to (hrec (k + 1) ⟨hrs.symm, by omega⟩) ?_ (by simp)
    simp [go_sem, zah, GH, hals, htks]
  ·exact ⟨rfl, Nat.zero_le _⟩
  ·simp [go_sem, zah, hal0, htk0]
  ·simp
def zjO (p : zaj → Bool) (l : List zaj) : Int := match l.findIdx? p with | some i => (i : Int) | none => -1
theorem zul {p : zaj → Bool} {l : List zaj} {j : Nat} (hj : j < l.length) (h : ∀ i, i < j → p (nth l i) = false) (hp : p (nth l j) = true) : zjO p l = j := by
 have : l.findIdx? p = some j := by
  rw [List.findIdx?_eq_some_iff_getElem]
  refine ⟨hj, by rw [← zaJ _ _ hj]; exact hp, fun i hi => ?_⟩
  have := h i hi
  rw [zaJ _ _ (by omega)] at this
  simp [this]
 simp [zjO, this]
theorem zpC {p : zaj → Bool} {l : List zaj} (h : ∀ i, i < l.length → p (nth l i) = false) : zjO p l = -1 := by
 have : l.findIdx? p = none := by
  rw [List.findIdx?_eq_none_iff]
  intro x hx
  obtain ⟨i, hi, rfl⟩ := List.getElem_of_mem hx
  have := h i hi
  rw [zaJ _ _ hi] at this
  exact this
 simp [zjO, this]
theorem zsj {p : zaj → Bool} {l : List zaj} : decide (0 ≤ zjO p l) = l.any p := by
 unfold zjO
 cases h : l.findIdx? p with
 | none =>
  rw [List.findIdx?_eq_none_iff] at h
  simp
  simpa using h
 | some i =>
  have := List.findIdx?_isSome (xs := l) (p := p)
  rw [h] at this
  simp at this ⊢
  exact this
theorem zi4 (l : List zaj) (hl : l.length ≤ 17179869184) (f : FuncId) (first caps : List AV) (p : zaj → Bool) (hp : ∀ x ∈ l, zaC Tryz.prog f (first ++ .agg (zad x) :: caps) (.v (.bool (p x)))) (hb : ∀ c ∈ first, Bel 0 c) (hb' : ∀ c ∈ caps, Bel 0 c) :
  zaC Tryz.prog 154 [zaz l, .fn (.func f) first caps] (.v (.int .i64 (zjO p l))) := by
 refine pF Tryz.func154 ?_
 simp [go_sem]
 refine zyI (zyN (α := Nat) (fun j => ⟨[(0, zaz l), (1, .fn (.func f) first caps), (7, .v (.int .i64 l.length)), (8, .v (.int .i64 j))], [], 0⟩)
  (fun d j => j + d = l.length ∧ (∀ i < j, p (nth l i) = false)) ?_ l.length 0 ?_) ?_ ?_
 ·rintro d j ⟨i1, i2⟩ hrec
  simp [go_sem]
  refine zyK (fun hj => ?_) (fun hj => ?_)
  ·simp at hj
   simp [go_sem]
   refine zy6 hj fun _ => ?_
   simp [go_sem, hj]
   refine zyJ (hp _ (zan hj)) (fun c hc => by
    rcases List.mem_append.1 hc with h | h
    ·exact hb c h
    ·rcases List.mem_cons.1 h with rfl | h
     ·exact of_eq_true (by simp [go_sem])
     ·exact hb' c h) ?_
   simp [go_sem]
   refine zyK (fun h => ?_) (fun h => ?_)
   ·simp [go_sem, zul hj i2 h]
   ·simp [go_sem]
    refine zy6 (by omega) fun _ => ?_
    simp [go_sem]
    refine zyI (hrec (d - 1) (by omega) (j + 1) ⟨by omega, fun i hi => ?_⟩) ?_ (by simp)
    ·rcases Nat.lt_or_ge i j with h' | h'
     ·exact i2 i h'
     ·obtain rfl : i = j := by omega
      exact h
    ·simp [go_sem, zah]
     exact ⟨hb, hb'⟩
  ·simp at hj
   simp [go_sem, zpC fun i hi => i2 i (by omega)]
 ·simp
 ·simp [go_sem, zah]
  exact ⟨hb, hb'⟩
 ·simp
theorem zgO (l : List zaj) (hl : l.length ≤ 17179869184) (f : FuncId) (first caps : List AV) (p : zaj → Bool) (hp : ∀ x ∈ l, zaC Tryz.prog f (first ++ .agg (zad x) :: caps) (.v (.bool (p x)))) (hb : ∀ c ∈ first, Bel 0 c) (hb' : ∀ c ∈ caps, Bel 0 c) :
  zaC Tryz.prog 92 [zaz l, .fn (.func f) first caps] (.v (.bool (l.any p))) := by
 refine pF Tryz.func92 ?_
 simp [go_sem]
 refine zyJ (zi4 l hl f first caps p hp hb hb') (by simp [go_sem]; exact ⟨hb, hb'⟩) ?_
 simp [go_sem, zsj]
theorem zpK (m q : zaj) (hm : zaW m) (hq : zaW q) : zaC Tryz.prog 93 [.agg (zad m), .fp (zad q)] (.v (.bool (decide (m = q)))) := by
 refine pF Tryz.func93 ?_
 have c1 := zbI m q hm hq
 have e : decide (m = q) = decide (zbw m q = 0) := by rw [decide_eq_decide]; exact (za8.eq m q).symm
 rw [e]
 generalize zbw m q = x at *
 repeat first|with_reducible refine wV fun _=>?_|simp [go_sem]
 refine zyJ c1 (by simp [go_sem]) ?_
 repeat first|with_reducible refine wV fun _=>?_|simp [go_sem]
theorem zhx (g : zaf) (hg : GOk g) (p : zaj) (hp : POk g p) (q : zaj) (hq : zaW q) : zaC Tryz.prog 41 [.agg (zab g), .agg (zad p), .agg (zad q)] (.v (.bool (decide (q ∈ zaH g p)))) := by
 refine pF Tryz.func41 ?_
 have hM := zhy g hg p hp
 have hml := zhR hg hp
 have hmf := fun m hm => ((zc7 hg hp) m hm).1.fits hg
 generalize zaH g p = l at *
 have hC := zgO l (by omega) 93 [] [.fp (zad q)] (fun m => decide (m = q)) (fun m hm => zpK m q (hmf m hm) hq) (by simp) (by simp [go_sem])
 have e : l.any (fun m => decide (m = q)) = decide (q ∈ l) := by
  rw [Bool.eq_iff_iff]
  simp
 rw [e] at hC
 repeat first|with_reducible refine wV fun _=>?_|simp [go_sem]
 refine zyJ hM (by simp [go_sem]) ?_
 repeat first|with_reducible refine wV fun _=>?_|simp [go_sem]
 refine zyP [2] hC ?_ (by simp [go_sem]) ?_
 ·(first|done|exact leX)
 ·repeat first|with_reducible refine wV fun _=>?_|simp [go_sem]
theorem zkK (a b : List zaj) (ha : a.length ≤ 17179869184) (hb : b.length ≤ 17179869184) (hfa : ∀ p ∈ a, zaW p) (hfb : ∀ p ∈ b, zaW p) : zaC Tryz.prog 46 [zaz a, zaz b] (.v (.bool (decide (a = b)))) := by
 refine pF Tryz.func46 ?_
 repeat first|with_reducible refine wV fun _=>?_|simp [go_sem]
 refine zyK (fun hl => ?_) (fun hl => ?_) <;> simp at hl
 ·have e : decide (a = b) = false := decide_eq_false fun h => hl (by rw [h])
  rw [e]
  repeat first|with_reducible refine wV fun _=>?_|simp [go_sem]
 ·repeat first|with_reducible refine wV fun _=>?_|simp [go_sem]
  refine zyI (zyN (α := Nat) (fun i => ⟨[(0, zaz a), (1, zaz b), (5, .v (.int .i64 i))], [], 0⟩)
   (fun d i => i + d = a.length ∧ ∀ j, j < i → nth a j = nth b j) ?_ a.length 0 ?_) ?_ ?_
  ·rintro d i ⟨i1, i2⟩ hrec
   repeat first|with_reducible refine wV fun _=>?_|simp [go_sem]
   refine zyK (fun hi => ?_) (fun hi => ?_) <;> simp at hi
   ·have hi' : i < b.length := by omega
    have hS := zgq (nth a i) (nth b i) (hfa _ (zan hi)) (hfb _ (zan hi'))
    rw [show decide (zbw (nth a i) (nth b i) = 0) = decide (nth a i = nth b i) by rw [decide_eq_decide]; exact za8.eq _ _] at hS
    repeat first|with_reducible refine wV fun _=>?_|simp [go_sem, hi, hi']
    refine zyM hS (by simp [go_sem]) ?_
    by_cases h : nth a i = nth b i
    ·repeat first|with_reducible refine wV fun _=>?_|simp [go_sem, h]
     refine zyI (hrec (d - 1) (by omega) (i + 1) ⟨by omega, fun j hj => ?_⟩) ?_ (by simp)
     ·rcases Nat.lt_or_ge j i with h' | h'
      ·exact i2 j h'
      ·obtain rfl : j = i := by omega
       exact h
     ·simp [go_sem, zah]
    ·have e : decide (a = b) = false := decide_eq_false fun h' => h (by rw [h'])
     rw [e]
     repeat first|with_reducible refine wV fun _=>?_|simp [go_sem, h]
   ·have e : decide (a = b) = true := decide_eq_true (List.ext_getElem (by omega) fun j h1 h2 => by
     have := i2 j (by omega)
     rwa [zaJ _ _ h1, zaJ _ _ h2] at this)
    rw [e]
    repeat first|with_reducible refine wV fun _=>?_|simp [go_sem]
  ·exact ⟨by simp, fun j hj => by omega⟩
  ·simp [go_sem, zah]
  ·simp
def zcx (q : zaj) : List AV := [.agg (zad q)]
theorem zvY {n : Nat} {L : List zaj} : (∀ r ∈ L.map zcx, ∀ c ∈ r, Bel n c) = True := by
 refine eq_true ?_
 intro r hr c hc
 obtain ⟨x, _, rfl⟩ := List.mem_map.1 hr
 simp only [zcx, List.mem_cons, List.not_mem_nil, or_false] at hc
 subst hc
 simp [go_sem]
attribute [go_sem ↓] zvY
theorem ztH {n l more : Nat} {L : List zaj} : Bel n (zbh l more (L.map zcx)) := by
 simp only [zbh, zqi, zl4, List.forall_mem_cons, zvG, zcN]
 simp [go_sem]
theorem zeP (p : zaj) (hf : zaW p) (c v : Int) (h0 : 0 ≤ c) (hc : c.toNat < p.at_.length) : zaC Tryz.prog 202 [.agg (zad p), .v (.int .i64 c), .v (.int .i64 v)] (.agg (zad { p with at_ := p.at_.set c.toNat v })) := by
 refine pF Tryz.func202 ?_
 have hC := zdM p.at_ hf.1
 repeat first|with_reducible refine wV fun _=>?_|simp [go_sem]
 refine zyO hC (by simp [go_sem]) ?_
 repeat first|with_reducible refine wV fun _=>?_|simp [go_sem, hc]
 exact frX
theorem zlj (p : zaj) (hf : zaW p) (s k by_ : Int) (hs : s = 0 ∨ s = 1) (h0 : 0 ≤ k) (hk : k.toNat < (p.hand s).length) (hb : -1000 ≤ nth (p.hand s) k.toNat + by_ ∧ nth (p.hand s) k.toNat + by_ ≤ 1000) : zaC Tryz.prog 204 [.agg (zad p), .v (.int .i64 s), .v (.int .i64 k), .v (.int .i64 by_)] (.agg (zad (p.withHand s ((p.hand s).set k.toNat (nth (p.hand s) k.toNat + by_))))) := by
 refine pF Tryz.func204 ?_
 rcases hs with rfl | rfl
 ·have hC := zdM p.h0 hf.2.1
  rw [show p.hand 0 = p.h0 from rfl] at hk hb ⊢
  repeat first|with_reducible refine wV fun _=>?_|simp [go_sem]
  refine zyO hC (by simp [go_sem]) ?_
  simp only [zaj.withHand]
  repeat first|with_reducible refine wV fun _=>?_|simp [go_sem, hk]
  (repeat' (first | (with_reducible apply And.intro) | ((refine LeV.frz rfl ?_ ?_ (zyT ?_)) <;> first | (simp [noH]; done) | (rw [List.drop_zero, List.take_of_length_le (by simp)]))))
 ·have hC := zdM p.h1 hf.2.2
  rw [show p.hand 1 = p.h1 from rfl] at hk hb ⊢
  repeat first|with_reducible refine wV fun _=>?_|simp [go_sem]
  refine zyO hC (by simp [go_sem]) ?_
  simp only [zaj.withHand]
  repeat first|with_reducible refine wV fun _=>?_|simp [go_sem, hk]
  (repeat' (first | (with_reducible apply And.intro) | ((refine LeV.frz rfl ?_ ?_ (zyT ?_)) <;> first | (simp [noH]; done) | (rw [List.drop_zero, List.take_of_length_le (by simp)]))))
def zvr (n : Nat) : AV := .fn (.func 287) [] [.ref (n + 2) 0 3 0 0, .ref n 0 9 0 0, .ref (n + 1) 0 5 0 0]
def zvs (g : zaf) (p : zaj) (x : zcn) (n : Nat) : List (Nat × zbz) := [(n, .rows true 0 9 [zab g]), (n + 1, .rows true 0 5 [zad p]), (n + 2, .rows true 0 3 [zaE x])]
theorem zvt (g : zaf) (p : zaj) (x : zcn) : zgf Tryz.prog 261 [.agg (zab g), .agg (zad p), .agg (zaE x)] zvr (zvs g p x) 3 := by
 refine ⟨?_, fun n => ⟨by simp [go_sem, zvr], by simp [go_sem, zvs]⟩⟩
 refine zyL (by kernel_rfl) Tryz.func261 rfl rfl (Nat.le_of_ble_eq_true rfl) (by kernel_rfl) ?_
 repeat first|with_reducible refine wV fun _=>?_|simp [go_sem, zvr, zvs]
 simp [go_sem, zah]
theorem zvu (g : zaf) (hg : GOk g) (p : zaj) (hp : POk g p) (x : zcn) (hx : zdf g.cells g.kinds.length g.rights x) :
  zoR Tryz.prog 287 [.fp (zaE x), .fp (zab g), .ref 0 0 5 0 0] [(0, .rows true 0 5 [zad p])] 1 0 ((zdu g p.side p x).map zcx) := by
 refine zzh (by kernel_rfl) Tryz.func287 rfl rfl (Nat.le_of_ble_eq_true rfl) (by kernel_rfl) (fun l => ?_) (hm2 := by decide)
 obtain ⟨op, a, b⟩ := x
 unfold zdf at hx
 simp only at hx
 have hf := hp.fits hg
 have hal := hp.al
 have hk6 := hg.k6
 have hs := hp.s
 have hgh : ∀ (n : Nat) (L : List zaj), Bel n (zbh l 0 (L.map zcx)) = True := fun n (L : List zaj) => eq_true ztH
 have hegl : (zab g).length = 9 := rfl
 have hegk : cel (zab g) 3 = .lst 3 (g.kinds.map zaY) := rfl
 have hegb : ∀ n, (∀ c ∈ zab g, Bel n c) = True := fun n => by simp [go_sem]
 by_cases h6 : op = 6
 ·subst h6
  obtain ⟨hx1, hx2⟩ : 0 ≤ a ∧ a.toNat < p.at_.length := by omega
  rw [zga rfl]
  have hz : (List.range g.kinds.length).flatMap (tkL g p.side p a.toNat) = tkF g p.side p a.toNat 0 := rfl
  have hts := fun i (hi : i < g.kinds.length) => zwY (g := g) p.side p a.toNat hi
  have hte := zyt g p.side p a.toNat
  have hCo := fun (k : Nat) => zdO k (1 - p.side)
  have hW := fun (k : Nat) => zeP p hf a (zaD k (1 - p.side)) hx1 hx2
  have hCt := fun (k : Nat) (hk : k < g.kinds.length) => zlj { p with at_ := p.at_.set a.toNat (zaD k (1 - p.side)) } ⟨by simpa [zeR] using hf.1, hf.2⟩ p.side k (-1) hs (by omega) (by have := (hp.hand p.side).len; simpa [zaj.hand] using (show k < (p.hand p.side).length by omega))
  simp only at hz ⊢
  rw [hz]
  repeat first|with_reducible refine wV fun _=>?_|simp [go_sem, GH, hegl]
  refine zyI (zyN (α := Nat) (fun k => ⟨[(0, .fn (.yield l) [] []), (1, .fp (zaE (6, a, b))), (2, .fp (zab g)), (3, .ref 0 0 5 0 0), (17, .v (.int .i64 g.kinds.length)), (18, .v (.int .i64 k)), (1000000007, zbh l 0 ((tkF g p.side p a.toNat k).map zcx))], [(0, .rows true 0 5 [zad p])], 1⟩)
   (fun d k => k + d = g.kinds.length) ?_ g.kinds.length 0 ?_) ?_ ?_
  ·rintro d k k1 hrec
   repeat first|with_reducible refine wV fun _=>?_|simp [go_sem, GH, hegl]
   refine zyK (fun hk => ?_) (fun hk => ?_) <;> simp at hk
   ·have hts := hts k hk
    have hCo := hCo k
    have hW := hW k
    have hkh : k < (p.hand p.side).length := by have := (hp.hand p.side).len; omega
    have hv := (hp.hand p.side).v k hkh
    have hCt := hCt k hk (by
     show -1000 ≤ nth (p.hand p.side) ((k : Int)).toNat + -1 ∧ nth (p.hand p.side) ((k : Int)).toNat + -1 ≤ 1000
     rw [Int.toNat_natCast]; omega)
    unfold tkL tkP at hts
    generalize hcd : zaD k (1 - p.side) = cd at *
    try simp only at hts
    try simp only at hW
    try simp only at hCt
    generalize hA : p.at_.set a.toNat cd = A at *
    repeat first|with_reducible refine wV fun _=>?_|simp [go_sem, GH, hegl]
    refine zyM hCo (by simp [go_sem]) ?_
    repeat first|with_reducible refine wV fun _=>?_|simp [go_sem, GH, hegl]
    refine zyM hW (by simp [go_sem]) ?_
    repeat first|with_reducible refine wV fun _=>?_|simp [go_sem, GH, hegl]
    have hgk : nth (g.kinds.map zaY) k = zaY (nth g.kinds k) := zbb _ _ _ hk
    have hax : 0 ≤ a := hx1
    repeat first|with_reducible refine wV fun _=>?_|simp [go_sem, GH, hegl, hk, hgk]
    refine zyK (fun hkp => ?_) (fun hkp => ?_)
    ·rw [if_pos hkp] at hts
     simp only [Int.toNat_natCast] at hCt
     obtain ⟨Q, hQ⟩ : ∃ Q, Q = (⟨A, p.h0, p.h1, p.rights, p.side⟩ : zaj).withHand p.side ((p.hand p.side).set k (nth (p.hand p.side) k - 1)) := ⟨_, rfl⟩
     rw [← hQ] at hts
     replace hCt : zaC Tryz.prog 204 [.agg (zad ⟨A, p.h0, p.h1, p.rights, p.side⟩), .v (.int .i64 p.side), .v (.int .i64 k), .v (.int .i64 (-1))] (.agg (zad Q)) := by rw [hQ]; exact hCt
     repeat first|with_reducible refine wV fun _=>?_|simp [go_sem, GH, hegl]
     refine zyJ hCt (by simp [go_sem]) ?_
     rcases hs with hs | hs
     ·have hqh : Q.hand p.side = Q.h0 := by rw [hs]; rfl
      have hql : k < Q.h0.length := by rw [← hqh, hQ, zg8, List.length_set]; exact hkh
      rw [hqh] at hts
      by_cases hz0 : nth p.at_ a.toNat = 0
      ·by_cases hz1 : 0 ≤ nth Q.h0 k
       ·rw [if_pos ⟨hz0, hz1⟩] at hts
        rw [hts]
        repeat first|with_reducible refine wV fun _=>?_|simp [go_sem, GH, hegl, hs, hx2, hz0, hz1, hql]
        refine aGC.yld (more := 0) (xs := zcx Q) (rs := (tkF g p.side p a.toNat (k + 1)).map zcx) _ (by simp [upd, GH, hs]) (.refl _) (.refl _ _ _ _) (by simp [go_sem, zcx]) ?_ ?_
        ·repeat first|with_reducible refine wV fun _=>?_|simp [go_sem, GH, hegl]
         refine zyI (hrec (d - 1) (by omega) (k + 1) (by omega)) ?_ (by simp)
         simp [go_sem, zah, GH, hgh, hs]
        ·repeat first|with_reducible refine wV fun _=>?_|simp [go_sem, GH, hegl]
       ·rw [if_neg (fun h => hz1 h.2), List.nil_append] at hts
        rw [hts]
        have hz2 : nth Q.h0 k < 0 := by omega
        repeat first|with_reducible refine wV fun _=>?_|simp [go_sem, GH, hegl, hs, hx2, hz0, hz1, hql, hz2]
        refine aGC.skip (.v (.bool true)) ?_
        repeat first|with_reducible refine wV fun _=>?_|simp [go_sem, GH, hegl]
        refine zyI (hrec (d - 1) (by omega) (k + 1) (by omega)) ?_ (by simp)
        simp [go_sem, zah, GH, hgh, hs]
      ·rw [if_neg (fun h => hz0 h.1), List.nil_append] at hts
       rw [hts]
       repeat first|with_reducible refine wV fun _=>?_|simp [go_sem, GH, hegl, hs, hx2, hz0, hql]
       refine aGC.skip (.v (.bool true)) ?_
       repeat first|with_reducible refine wV fun _=>?_|simp [go_sem, GH, hegl]
       refine zyI (hrec (d - 1) (by omega) (k + 1) (by omega)) ?_ (by simp)
       simp [go_sem, zah, GH, hgh, hs]
     ·have hqh : Q.hand p.side = Q.h1 := by rw [hs]; rfl
      have hql : k < Q.h1.length := by rw [← hqh, hQ, zg8, List.length_set]; exact hkh
      rw [hqh] at hts
      by_cases hz0 : nth p.at_ a.toNat = 0
      ·by_cases hz1 : 0 ≤ nth Q.h1 k
       ·rw [if_pos ⟨hz0, hz1⟩] at hts
        rw [hts]
        repeat first|with_reducible refine wV fun _=>?_|simp [go_sem, GH, hegl, hs, hx2, hz0, hz1, hql]
        refine aGC.yld (more := 0) (xs := zcx Q) (rs := (tkF g p.side p a.toNat (k + 1)).map zcx) _ (by simp [upd, GH, hs]) (.refl _) (.refl _ _ _ _) (by simp [go_sem, zcx]) ?_ ?_
        ·repeat first|with_reducible refine wV fun _=>?_|simp [go_sem, GH, hegl]
         refine zyI (hrec (d - 1) (by omega) (k + 1) (by omega)) ?_ (by simp)
         simp [go_sem, zah, GH, hgh, hs]
        ·repeat first|with_reducible refine wV fun _=>?_|simp [go_sem, GH, hegl]
       ·rw [if_neg (fun h => hz1 h.2), List.nil_append] at hts
        rw [hts]
        have hz2 : nth Q.h1 k < 0 := by omega
        repeat first|with_reducible refine wV fun _=>?_|simp [go_sem, GH, hegl, hs, hx2, hz0, hz1, hql, hz2]
        refine aGC.skip (.v (.bool true)) ?_
        repeat first|with_reducible refine wV fun _=>?_|simp [go_sem, GH, hegl]
        refine zyI (hrec (d - 1) (by omega) (k + 1) (by omega)) ?_ (by simp)
        simp [go_sem, zah, GH, hgh, hs]
      ·rw [if_neg (fun h => hz0 h.1), List.nil_append] at hts
       rw [hts]
       repeat first|with_reducible refine wV fun _=>?_|simp [go_sem, GH, hegl, hs, hx2, hz0, hql]
       refine aGC.skip (.v (.bool true)) ?_
       repeat first|with_reducible refine wV fun _=>?_|simp [go_sem, GH, hegl]
       refine zyI (hrec (d - 1) (by omega) (k + 1) (by omega)) ?_ (by simp)
       simp [go_sem, zah, GH, hgh, hs]
    ·rw [if_neg (show ¬ (nth g.kinds k).keep = true by simp [hkp])] at hts
     obtain ⟨Q, hQ⟩ : ∃ Q : zaj, Q = ⟨A, p.h0, p.h1, p.rights, p.side⟩ := ⟨_, rfl⟩
     have hq0 : p.h0 = Q.h0 := by rw [hQ]
     have hq1 : p.h1 = Q.h1 := by rw [hQ]
     have hqx : AV.agg [.lst 1 (A.map zb3), .lst 1 (p.h0.map zb3), .lst 1 (p.h1.map zb3), .v (.int .i64 p.rights), .v (.int .i64 p.side)] = .agg (zad Q) := by rw [hQ]; rfl
     rw [← hQ] at hts
     rcases hs with hs | hs
     ·have hqh : Q.hand p.side = Q.h0 := by rw [hs]; rfl
      have hql : k < Q.h0.length := by rw [← hqh, hQ]; exact hkh
      rw [hqh] at hts
      by_cases hz0 : nth p.at_ a.toNat = 0
      ·by_cases hz1 : 0 ≤ nth Q.h0 k
       ·rw [if_pos ⟨hz0, hz1⟩] at hts
        rw [hts]
        repeat first|with_reducible refine wV fun _=>?_|simp [go_sem, GH, hegl, hs, hx2, hz0, hz1, hql, hq0, hq1]
        refine aGC.yld (more := 0) (xs := zcx Q) (rs := (tkF g p.side p a.toNat (k + 1)).map zcx) _ (by simp [upd, GH, hs]) (.refl _) (by rw [hQ]; simp only [zcx, zad, zas, hs]; exact .refl _ _ _ _) (by simp [go_sem, zcx]) ?_ ?_
        ·repeat first|with_reducible refine wV fun _=>?_|simp [go_sem, GH, hegl]
         refine zyI (hrec (d - 1) (by omega) (k + 1) (by omega)) ?_ (by simp)
         simp [go_sem, zah, GH, hgh, hs, hq0, hq1]
        ·repeat first|with_reducible refine wV fun _=>?_|simp [go_sem, GH, hegl]
       ·rw [if_neg (fun h => hz1 h.2), List.nil_append] at hts
        rw [hts]
        have hz2 : nth Q.h0 k < 0 := by omega
        repeat first|with_reducible refine wV fun _=>?_|simp [go_sem, GH, hegl, hs, hx2, hz0, hz1, hql, hz2, hq0, hq1]
        refine aGC.skip (.v (.bool true)) ?_
        repeat first|with_reducible refine wV fun _=>?_|simp [go_sem, GH, hegl]
        refine zyI (hrec (d - 1) (by omega) (k + 1) (by omega)) ?_ (by simp)
        simp [go_sem, zah, GH, hgh, hs, hq0, hq1]
      ·rw [if_neg (fun h => hz0 h.1), List.nil_append] at hts
       rw [hts]
       repeat first|with_reducible refine wV fun _=>?_|simp [go_sem, GH, hegl, hs, hx2, hz0, hql, hq0, hq1]
       refine aGC.skip (.v (.bool true)) ?_
       repeat first|with_reducible refine wV fun _=>?_|simp [go_sem, GH, hegl]
       refine zyI (hrec (d - 1) (by omega) (k + 1) (by omega)) ?_ (by simp)
       simp [go_sem, zah, GH, hgh, hs, hq0, hq1]
     ·have hqh : Q.hand p.side = Q.h1 := by rw [hs]; rfl
      have hql : k < Q.h1.length := by rw [← hqh, hQ]; exact hkh
      rw [hqh] at hts
      by_cases hz0 : nth p.at_ a.toNat = 0
      ·by_cases hz1 : 0 ≤ nth Q.h1 k
       ·rw [if_pos ⟨hz0, hz1⟩] at hts
        rw [hts]
        repeat first|with_reducible refine wV fun _=>?_|simp [go_sem, GH, hegl, hs, hx2, hz0, hz1, hql, hq0, hq1]
        refine aGC.yld (more := 0) (xs := zcx Q) (rs := (tkF g p.side p a.toNat (k + 1)).map zcx) _ (by simp [upd, GH, hs]) (.refl _) (by rw [hQ]; simp only [zcx, zad, zas, hs]; exact .refl _ _ _ _) (by simp [go_sem, zcx]) ?_ ?_
        ·repeat first|with_reducible refine wV fun _=>?_|simp [go_sem, GH, hegl]
         refine zyI (hrec (d - 1) (by omega) (k + 1) (by omega)) ?_ (by simp)
         simp [go_sem, zah, GH, hgh, hs, hq0, hq1]
        ·repeat first|with_reducible refine wV fun _=>?_|simp [go_sem, GH, hegl]
       ·rw [if_neg (fun h => hz1 h.2), List.nil_append] at hts
        rw [hts]
        have hz2 : nth Q.h1 k < 0 := by omega
        repeat first|with_reducible refine wV fun _=>?_|simp [go_sem, GH, hegl, hs, hx2, hz0, hz1, hql, hz2, hq0, hq1]
        refine aGC.skip (.v (.bool true)) ?_
        repeat first|with_reducible refine wV fun _=>?_|simp [go_sem, GH, hegl]
        refine zyI (hrec (d - 1) (by omega) (k + 1) (by omega)) ?_ (by simp)
        simp [go_sem, zah, GH, hgh, hs, hq0, hq1]
      ·rw [if_neg (fun h => hz0 h.1), List.nil_append] at hts
       rw [hts]
       repeat first|with_reducible refine wV fun _=>?_|simp [go_sem, GH, hegl, hs, hx2, hz0, hql, hq0, hq1]
       refine aGC.skip (.v (.bool true)) ?_
       repeat first|with_reducible refine wV fun _=>?_|simp [go_sem, GH, hegl]
       refine zyI (hrec (d - 1) (by omega) (k + 1) (by omega)) ?_ (by simp)
       simp [go_sem, zah, GH, hgh, hs, hq0, hq1]
   ·obtain rfl : k = g.kinds.length := by omega
    rw [hte]
    repeat first|with_reducible refine wV fun _=>?_|simp [go_sem, GH, hegl]
  ·omega
  ·simp [go_sem, zah, GH, hgh]
  ·simp
 have hz6 : ¬ op = 6 := h6
 unfold zdu
 rw [if_neg h6]
 by_cases h7 : op = 7
 ·subst h7
  obtain ⟨hx1, hx2, hx3, hx4⟩ : 0 ≤ a ∧ a.toNat < p.at_.length ∧ 0 ≤ b ∧ b.toNat < p.at_.length := by omega
  rw [if_pos rfl]
  have hW1 := zeP p hf a (nth p.at_ b.toNat) hx1 hx2
  have hW2 := zeP { p with at_ := p.at_.set a.toNat (nth p.at_ b.toNat) } ⟨by simpa [zeR] using hf.1, hf.2⟩ b 0 hx3 (by simpa using hx4)
  simp only at hW2 ⊢
  obtain ⟨A, hA⟩ : ∃ A, A = p.at_.set a.toNat (nth p.at_ b.toNat) := ⟨_, rfl⟩
  rw [← hA] at hW1 hW2 ⊢
  obtain ⟨B, hB⟩ : ∃ B, B = A.set b.toNat 0 := ⟨_, rfl⟩
  rw [← hB] at hW2 ⊢
  by_cases hz : nth p.at_ b.toNat ≠ 0 ∧ nth p.at_ a.toNat = 0
  ·rw [if_pos hz]
   obtain ⟨z1, z2⟩ := hz
   have z3 : ¬ nth p.at_ b.toNat = 0 := z1
   (repeat (first|with_reducible (first|refine wL fun _=>?_|refine wD fun _=>?_|refine wE ?_)|simp [go_sem, GH, hegl, hx2, hx4, z3, z2]))
   refine zoK.split 14 ?_
   repeat first|with_reducible refine wV fun _=>?_|simp [go_sem, GH, hegl, hx2, hx4, z3, z2]
   refine zyM hW1 (by simp [go_sem]) ?_
   repeat first|with_reducible refine wV fun _=>?_|simp [go_sem, GH, hegl, hx2, hx4, z3, z2]
   refine zyM hW2 (by simp [go_sem]) ?_
   repeat first|with_reducible refine wV fun _=>?_|simp [go_sem, GH, hegl]
   refine zrD.mk (more := 0) (xs := zcx ⟨B, p.h0, p.h1, p.rights, p.side⟩) (rs := []) _ (by simp [upd, GH]) (.refl _) (.refl _ _ _ _) (by simp [go_sem, zcx]) ?_ ?_
   ·repeat first|with_reducible refine wV fun _=>?_|simp [go_sem, GH, hegl]
   ·repeat first|with_reducible refine wV fun _=>?_|simp [go_sem, GH, hegl]
  ·rw [if_neg hz]
   have z4 : nth p.at_ b.toNat = 0 ∨ ¬ nth p.at_ a.toNat = 0 := by
    by_cases h : nth p.at_ b.toNat = 0
    ·exact .inl h
    ·exact .inr fun h2 => hz ⟨h, h2⟩
   rcases z4 with z4 | z4
   ·repeat first|with_reducible refine wV fun _=>?_|simp [go_sem, GH, hegl, hx2, hx4, z4]
   ·repeat first|with_reducible refine wV fun _=>?_|simp [go_sem, GH, hegl, hx2, hx4, z4]
 rw [if_neg h7]
 by_cases h10 : op = 10
 ·subst h10
  rw [if_pos rfl]
  have hr4 := hg.r4
  have hx1 : 0 ≤ a ∧ a < 4 := by omega
  have hpw : (1 : Int) ≤ 2 ^ a.toNat ∧ (2 : Int) ^ a.toNat ≤ 8 := by
   rcases (show a.toNat = 0 ∨ a.toNat = 1 ∨ a.toNat = 2 ∨ a.toNat = 3 by omega) with h | h | h | h <;> rw [h] <;> decide
  unfold zpL
  generalize hgp : (2 : Int) ^ a.toNat = pw at *
  by_cases hz : zhA .i64 p.rights pw = 0
  ·rw [if_pos (by simpa using hz)]
   have ha0 : 0 ≤ a := hx1.1
   have ha1 : a ≤ 64 := by omega
   repeat first|with_reducible refine wV fun _=>?_|simp [go_sem, GH, hegl, hz, hgp]
   refine aGC.yld (more := 0) (xs := zcx p) (rs := [zcx { p with rights := orN .i64 p.rights pw }]) _ (by simp [upd, GH]) (.refl _) (.refl _ _ _ _) (by simp [go_sem, zcx]) ?_ ?_
   ·repeat first|with_reducible refine wV fun _=>?_|simp [go_sem, GH, hegl, hgp]
    refine zrD.mk (more := 0) (xs := zcx { p with rights := orN .i64 p.rights pw }) (rs := []) _ (by simp [upd, GH]) (.refl _) (.refl _ _ _ _) (by simp [go_sem, zcx]) ?_ ?_
    ·repeat first|with_reducible refine wV fun _=>?_|simp [go_sem, GH, hegl]
    ·repeat first|with_reducible refine wV fun _=>?_|simp [go_sem, GH, hegl]
   ·repeat first|with_reducible refine wV fun _=>?_|simp [go_sem, GH, hegl]
  ·rw [if_neg (by simpa using hz)]
   repeat first|with_reducible refine wV fun _=>?_|simp [go_sem, GH, hegl, hz, hgp]
   refine aGC.skip (.v (.bool true)) ?_
   repeat first|with_reducible refine wV fun _=>?_|simp [go_sem, GH, hegl]
 ·rw [if_neg h10]
  repeat first|with_reducible refine wV fun _=>?_|simp [go_sem, GH, hegl, h6, h7, h10]
  refine zrD.mk (more := 0) (xs := zcx p) (rs := []) _ (by simp [upd, GH]) (.refl _) (.refl _ _ _ _) (by simp [go_sem, zcx]) ?_ ?_
  ·repeat first|with_reducible refine wV fun _=>?_|simp [go_sem, GH, hegl]
  ·repeat first|with_reducible refine wV fun _=>?_|simp [go_sem, GH, hegl]
def zkz (n : Nat) : AV := .fn (.func 260) [] [.ref (n + 2) 0 1 0 0, .ref (n + 1) 0 5 0 0, .ref n 0 9 0 0]
def zkA (g : zaf) (p : zaj) (l : List zcn) (n : Nat) : List (Nat × zbz) := [(n, .rows true 0 9 [zab g]), (n + 1, .rows true 0 5 [zad p]), (n + 2, .rows true 0 1 [[zaV l]])]
theorem ziz (g : zaf) (p : zaj) (l : List zcn) : zgf Tryz.prog 203 [.agg (zab g), .agg (zad p), zaV l] zkz (zkA g p l) 3 := by
 refine ⟨?_, fun n => ⟨by simp [go_sem, zkz], by simp [go_sem, zkA]⟩⟩
 refine zyL (by kernel_rfl) Tryz.func203 rfl rfl (Nat.le_of_ble_eq_true rfl) (by kernel_rfl) ?_
 repeat first|with_reducible refine wV fun _=>?_|simp [go_sem, zkz, zkA]
 simp [go_sem, zah]
theorem zqd (g : zaf) (hg : GOk g) : ∀ (n : Nat) (acts : List zcn) (p : zaj), acts.length = n → n ≤ 1048576 → POk g p → (∀ a ∈ acts, zdf g.cells g.kinds.length g.rights a) →
  zm4 Tryz.prog 260 [.fp [zaV acts], .fp (zad p), .fp (zab g)] 0 ((zcB g p.side p acts.reverse).map zcx) := by
 intro n
 induction n with
 | zero =>
  intro acts p hn _ hp _
  obtain rfl := List.eq_nil_of_length_eq_zero hn
  refine zy3 (by kernel_rfl) Tryz.func260 rfl rfl (Nat.le_of_ble_eq_true rfl) (by kernel_rfl) (fun l => ?_) (hm2 := by decide)
  have e : (zcB g p.side p ([] : List zcn).reverse).map zcx = [zcx p] := rfl
  rw [e]
  repeat first|with_reducible refine wV fun _=>?_|simp [go_sem, GH]
  refine zrD.mk (more := 0) (xs := zcx p) (rs := []) _ (by simp [upd, GH]) (.refl _) (.refl _ _ _ _) (by simp [go_sem, zcx]) ?_ ?_
  ·repeat first|with_reducible refine wV fun _=>?_|simp [go_sem, GH]
  ·repeat first|with_reducible refine wV fun _=>?_|simp [go_sem, GH]
 | succ n ih =>
  intro acts p hn hn2 hp hacts
  obtain ⟨init, x, he⟩ : ∃ init x, acts = init ++ [x] := by
   rcases List.eq_nil_or_concat acts with h | ⟨i, x, h⟩
   ·rw [h] at hn; cases hn
   ·exact ⟨i, x, by rw [h, List.concat_eq_append]⟩
  have hin : init.length = n := by rw [he, List.length_append, List.length_singleton] at hn; omega
  have hx := hacts x (by rw [he]; simp)
  have hacts' : ∀ a ∈ init, zdf g.cells g.kinds.length g.rights a := fun a ha => hacts a (by rw [he]; simp [ha])
  have er : zcB g p.side p acts.reverse = (zdu g p.side p x).flatMap fun q => zcB g p.side q init.reverse := by rw [he, List.reverse_append]; rfl
  have hnt : nth (acts.map zaE) n = zaE x := by
   rw [zbb _ _ _ (by omega), zaJ _ _ (by omega)]
   simp [he, ← hin]
  have htk : (acts.map zaE).take n = init.map zaE := by rw [he, List.map_append, List.take_left' (by simp [hin])]
  clear he
  have hU : zgf Tryz.prog 261 [.agg (zab g), .agg (zad p), .agg (zaE x)] (fun n => zvr n) (fun n => zvs g p x n) 3 := zvt g p x
  simp only [zvr, zvs] at hU
  have hQ := zvu g hg p hp x hx
  have hok := zrh hg hp.s hp hx
  have hAll : ∀ q, POk g q → zgf Tryz.prog 203 [.agg (zab g), .agg (zad q), zaV init] (fun n => zkz n) (fun n => zkA g q init n) 3 := fun q _ => ziz g q init
  simp only [zkz, zkA] at hAll
  have hSeq := fun (q : zaj) (hq : POk g q) => ih init q hin (by omega) hq hacts'
  refine zy3 (by kernel_rfl) Tryz.func260 rfl rfl (Nat.le_of_ble_eq_true rfl) (by kernel_rfl) (fun l => ?_) (hm2 := by decide)
  have hgh : ∀ (n : Nat) (L : List zaj), Bel n (zbh l 0 (L.map zcx)) = True := fun n (L : List zaj) => eq_true ztH
  have hgh2 : ∀ (n : Nat) (a b : List zaj), Bel n (zbh l 0 (a.map zcx ++ b.map zcx)) = True := fun n a b => by rw [← List.map_append]; exact hgh n _
  have hegl : (zab g).length = 9 := rfl
  have hegb : ∀ n, (∀ c ∈ zab g, Bel n c) = True := fun n => by simp [go_sem]
  rw [er]
  generalize zdu g p.side p x = qs at *
  have hlt : n < acts.length := by omega
  have hzero : ((n : Int) + 1 = 0) = False := eq_false (by omega)
  (repeat (first|with_reducible (first|refine wL fun _=>?_|refine wD fun _=>?_|refine wE ?_)|simp [go_sem, GH, hn, hnt, hlt, hzero]))
  refine zoK.split 6 ?_
  repeat first|with_reducible refine wV fun _=>?_|simp [go_sem, GH, hn, hnt, hlt, hzero]
  refine zyO hU (by simp [go_sem]) ?_
  repeat first|with_reducible refine wV fun _=>?_|simp [go_sem, GH]
  have hep : zad p = [zas p.at_, zas p.h0, zas p.h1, .v (.int .i64 p.rights), .v (.int .i64 p.side)] := rfl
  refine zfi.give [.fp (zaE x), .fp (zab g), .ref 0 0 5 0 0] (zaK _ [11, 9]) 10 [zad p] hQ (zc5 _ _) (by simp [zaK, zaR, upd]; rfl) (.refl _) (by simp [go_sem]) ?_ (fun xs hx => by obtain ⟨y, _, rfl⟩ := List.mem_map.1 hx; rfl) ?_
  ·simp only [zql, zm1, zm0, and_true]
   refine ⟨.frzP rfl ?_ ?_ ?_ ?_, ?_, .frzP rfl ?_ ?_ ?_ ?_, ?_⟩ <;> first | exact zai.refl _ _ _ _ | (simp [zaK, zaR, upd]; done) | (simp [go_sem]; done)
  ·refine Fgt.to (zy1 (α := List zaj) (fun qs => ([(1, .fp [zaV acts]), (3, .fp (zab g)), (4, .ref 0 0 1 0 0), (5, .ref 1 0 1 0 0), (1000000007, zbh l 0 ((qs.flatMap fun q => zcB g p.side q init.reverse).map zcx))], [(0, .rows true 0 1 [[.fn (.yield l) [] []]]), (1, .rows true 0 1 [[.v (.int .i64 n)]])], 2))
    (fun rows qs => rows = qs.map zcx ∧ ∀ q ∈ qs, POk g q ∧ q.side = p.side) ?_ ?_ _ qs ?_) ?_ ?_
   ·rintro qs ⟨i1, i2⟩
    obtain rfl : qs = [] := by
     cases qs with
     | nil => rfl
     | cons => cases i1
    refine ⟨rfl, ?_⟩
    repeat first|with_reducible refine wV fun _=>?_|simp [go_sem, GH]
   ·rintro xs rs qs ⟨i1, i2⟩ hrec
    obtain ⟨q, qs, rfl⟩ : ∃ q t, qs = q :: t := by
     cases qs with
     | nil => cases i1
     | cons q t => exact ⟨q, t, rfl⟩
    rw [List.map_cons, List.cons.injEq] at i1
    obtain ⟨rfl, rfl⟩ := i1
    obtain ⟨hq, hqs⟩ := i2 q (by simp)
    have hA := hAll q hq
    have hS := hSeq q hq
    rw [hqs] at hS
    rw [List.flatMap_cons]
    refine zy4 (Nat.zero_le _) ?_
    (repeat (first|with_reducible (first|refine wL fun _=>?_|refine wD fun _=>?_|refine wE ?_)|simp [go_sem, GH, zcx]))
    refine zoK.split 5 ?_
    have hcn : ((n : Int)).toNat = n := by omega
    repeat first|with_reducible refine wV fun _=>?_|simp [go_sem, GH, hn, htk, hcn]
    refine zyO hA (by simp [go_sem]) ?_
    repeat first|with_reducible refine wV fun _=>?_|simp [go_sem, GH]
    refine zfi.mk [.fp [zaV init], .fp (zad q), .fp (zab g)] (zaK _ [9, 10, 11]) hS (zc5 _ _) ?_ (by simp [go_sem]) (fun xs hx => by obtain ⟨y, _, rfl⟩ := List.mem_map.1 hx; rfl) ?_
    ·refine zai.cons (.frzP rfl ?_ ?_ ?_ ?_) (zai.cons (.frzP rfl ?_ ?_ ?_ ?_) (zai.cons (.frzP rfl ?_ ?_ ?_ ?_) .nil)) <;> first | exact zai.refl _ _ _ _ | (simp [zaK, zaR, upd]; done)
    generalize hrest : (qs.flatMap fun q => zcB g p.side q init.reverse) = rest at *
    generalize zcB g p.side q init.reverse = ys at *
    refine Fgt.to (zy1 (α := List zaj) (fun ys => ([(1, .fp [zaV acts]), (3, .fp (zab g)), (4, .ref 0 0 1 0 0), (5, .ref 1 0 1 0 0), (1000000007, zbh l 0 ((ys ++ rest).map zcx))], [(0, .rows true 0 1 [[.fn (.yield l) [] []]]), (1, .rows true 0 1 [[.v (.int .i64 n)]])], 2))
     (fun rows ys => rows = ys.map zcx) ?_ ?_ _ ys rfl) ?_ ?_
    ·rintro ys i1
     obtain rfl : ys = [] := by
      cases ys with
      | nil => rfl
      | cons => cases i1
     refine ⟨rfl, ?_⟩
     repeat first|with_reducible refine wV fun _=>?_|simp [go_sem, GH]
     refine Fgt.to (hrec qs ⟨rfl, fun z hz => i2 z (by simp [hz])⟩) ?_ (by simp)
     simp [go_sem, zah, hgh, GH, hrest]
    ·rintro xs rs ys i1 hrec2
     obtain ⟨y, ys, rfl⟩ : ∃ q t, ys = q :: t := by
      cases ys with
      | nil => cases i1
      | cons q t => exact ⟨q, t, rfl⟩
     rw [List.map_cons, List.cons.injEq] at i1
     obtain ⟨rfl, rfl⟩ := i1
     rw [List.cons_append]
     refine zy4 (Nat.le_refl _) ?_
     repeat first|with_reducible refine wV fun _=>?_|simp [go_sem, GH, zcx]
     refine zrD.mk (more := 0) (xs := zcx y) (rs := (ys ++ rest).map zcx) _ (by simp [upd, GH]; rfl) (.refl _) (.refl _ _ _ _) (by simp [go_sem, zcx]) ?_ ?_
     ·repeat first|with_reducible refine wV fun _=>?_|simp [go_sem, GH]
      refine Fgt.to (hrec2 ys rfl) ?_ (by simp)
      simp [go_sem, zah, hgh, hgh2, GH]
     ·repeat first|with_reducible refine wV fun _=>?_|simp [go_sem, GH]
    ·simp [go_sem, zah, hgh, hgh2, GH]
    ·simp
   ·exact ⟨rfl, hok⟩
   ·simp [go_sem, zah, hgh, GH]
   ·simp
theorem nofz_A {l : List zcn} : (∀ r ∈ l.map zaE, ∀ c ∈ r, zgQ c) = True := by
 refine eq_true ?_
 intro r hr c hc
 obtain ⟨x, _, rfl⟩ := List.mem_map.1 hr
 revert c
 simp [go_sem]
attribute [go_sem ↓] nofz_A
theorem ztg (m : Int) (h0 : 0 ≤ m) (h1 : m ≤ 17179869184) : zgf Tryz.prog 281 [zyQ, .v (.int .i64 m)] (fun n => .sl n 0 3 0 0) (fun n => [(n, .rows true 0 3 [])]) 1 := by
 refine ⟨?_, fun n => ⟨by simp [go_sem], by simp [go_sem]⟩⟩
 by_cases hm : m = 0
 ·subst hm
  refine zyL (by kernel_rfl) Tryz.func281 rfl rfl (Nat.le_of_ble_eq_true rfl) (by kernel_rfl) ?_
  repeat first|with_reducible refine wV fun _=>?_|simp [go_sem]
  simp [go_sem, zah]
 ·refine zaa.clear ?_
  refine zyL (by kernel_rfl) Tryz.func281 rfl rfl (Nat.le_of_ble_eq_true rfl) (by kernel_rfl) ?_
  repeat first|with_reducible refine wV fun _=>?_|simp [go_sem]
  (refine zyK (fun hF => by first | omega | (simp at hF; omega)) (fun hF => ?_); clear hF)
  repeat first|with_reducible refine wV fun _=>?_|simp [go_sem]
  (refine zyK (fun hT => ?_) (fun hT => by first | omega | (simp at hT; omega)); clear hT)
  repeat first|with_reducible refine wV fun _=>?_|simp [go_sem]
  refine ⟨0, 0, 3, by decide, ⟨rfl, rfl, rfl⟩, ?_⟩
  simp [go_sem, zah]
theorem zoP (a b : List zcn) (ha : a.length ≤ 1048576) (hb : b.length ≤ 1048576) : zgf Tryz.prog 253 [.lst 1 [[zaV a], [zaV b]]]
  (fun n => .sl n 2 3 0 (a.length + b.length)) (fun n => [(n, .rows true 2 3 ((a ++ b).map zaE))]) 1 := by
 refine ⟨?_, fun n => ⟨by simp [go_sem], by simp [go_sem]⟩⟩
 refine zyL (by kernel_rfl) Tryz.func253 rfl rfl (Nat.le_of_ble_eq_true rfl) (by kernel_rfl) ?_
 repeat first|with_reducible refine wV fun _=>?_|simp [go_sem]
 refine zyR ?_
 repeat first|with_reducible refine wV fun _=>?_|simp [go_sem]
 (refine zyK (fun hF => by first | omega | (simp at hF; omega)) (fun hF => ?_); clear hF)
 repeat first|with_reducible refine wV fun _=>?_|simp [go_sem]
 refine zyR ?_
 repeat first|with_reducible refine wV fun _=>?_|simp [go_sem]
 (refine zyK (fun hF => by first | omega | (simp at hF; omega)) (fun hF => ?_); clear hF)
 repeat first|with_reducible refine wV fun _=>?_|simp [go_sem]
 refine zyR ?_
 repeat first|with_reducible refine wV fun _=>?_|simp [go_sem]
 refine zyO (ztg _ (by omega) (by omega)) (by simp [go_sem]) ?_
 repeat first|with_reducible refine wV fun _=>?_|simp [go_sem]
 refine zyR ?_
 repeat first|with_reducible refine wV fun _=>?_|simp [go_sem]
 refine zyR ?_
 repeat first|with_reducible refine wV fun _=>?_|simp [go_sem]
 refine zyR ?_
 repeat first|with_reducible refine wV fun _=>?_|simp [go_sem]
 simp [go_sem, zah]
theorem zua (p : zaZ) (to : Int) (more : List zcn) (ha : p.acts.length ≤ 1048576) (hb : more.length ≤ 1048576) : zgf Tryz.prog 252 [.v (.int .i64 to), zaV more, .fp (zap p)]
  (fun n => .agg [.sl (n + 2) 2 3 0 (p.acts.length + more.length), .v (.int .i64 to)]) (fun n => [(n + 2, .rows true 2 3 ((p.acts ++ more).map zaE))]) 3 := by
 refine ⟨?_, fun n => ⟨by simp [go_sem], by simp [go_sem]⟩⟩
 refine zyL (by kernel_rfl) Tryz.func252 rfl rfl (Nat.le_of_ble_eq_true rfl) (by kernel_rfl) ?_
 repeat first|with_reducible refine wV fun _=>?_|simp [go_sem]
 refine zyY (zoP p.acts more ha hb) (by simp [go_sem]) (by simp [go_sem]) ?_ (by simp [go_sem]) ?_
 ·simp only [zaV]
  refine zai.cons ?_ zai.nil
  refine zam rfl (by simp) (by simp [noH, upd]) ?_
  simp [go_sem]
 ·repeat first|with_reducible refine wV fun _=>?_|simp [go_sem]
  simp [go_sem, zah]
end Go.Av
end
