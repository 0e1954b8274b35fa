/- The body of slices.SortFunc here is the one that the kit knows: laid in plain words (printed by laysort.py). -/
import Derived.Test.YtbcnlnpgkonjpaaGreatProg
import Derived.Shelf.SlSortCmp.NoneTotal
import Derived.Test.YtbcnlnpgkonjpaaGreatAvL
import Derived.Test.YtbcnlnpgkonjpaaGreatD4
import Derived.Test.YtbcnlnpgkonjpaaGreatMA
section
set_option linter.unusedVariables false
namespace Go.Proofs
open Go.Shelf
set_option maxRecDepth 100000
def zsort_ren : Go.Shelf.Ren := ⟨fun | 6 => 30 | 15 => 48 | 14 => 47 | 28 => 76 | 29 => 77 | 20 => 68 | 21 => 69 | 22 => 70 | 23 => 71 | 24 => 72 | 25 => 73 | 26 => 74 | 27 => 75 | 46 => 90 | 47 => 91 | 48 => 92 | 49 => 93 | 50 => 94 | 57 => 105 | n => n, fun | 22 => 54 | 24 => 63 | 25 => 100 | 3 => 3 | 39 => 123 | 0 => 0 | 53 => 154 | 55 => 156 | 4 => 4 | 46 => 147 | 45 => 146 | 50 => 151 | 5 => 5 | 9 => 9 | 66 => 170 | 70 => 174 | 76 => 183 | 77 => 92 | n => n, fun n => n⟩
theorem zsort : Go.Proofs.SlLaysF0.n6 Tryz.prog zsort_ren := {
  mixed := by kernel_rfl
  f6 := ⟨Tryz.f30.name, by decide, Tryz.func30.trans (congrArg some (by kernel_rfl))⟩
  f14 := ⟨Tryz.f47.name, by decide, Tryz.func47.trans (congrArg some (by kernel_rfl))⟩
  f15 := Tryz.func48.trans (congrArg some (by kernel_rfl))
  f20 := ⟨Tryz.f68.name, by decide, Tryz.func68.trans (congrArg some (by kernel_rfl))⟩
  f21 := ⟨Tryz.f69.name, by decide, Tryz.func69.trans (congrArg some (by kernel_rfl))⟩
  f22 := ⟨Tryz.f70.name, by decide, Tryz.func70.trans (congrArg some (by kernel_rfl))⟩
  f23 := ⟨Tryz.f71.name, by decide, Tryz.func71.trans (congrArg some (by kernel_rfl))⟩
  f24 := ⟨Tryz.f72.name, by decide, Tryz.func72.trans (congrArg some (by kernel_rfl))⟩
  f25 := ⟨Tryz.f73.name, by decide, Tryz.func73.trans (congrArg some (by kernel_rfl))⟩
  f26 := ⟨Tryz.f74.name, by decide, Tryz.func74.trans (congrArg some (by kernel_rfl))⟩
  f27 := ⟨Tryz.f75.name, by decide, Tryz.func75.trans (congrArg some (by kernel_rfl))⟩
  f28 := Tryz.func76.trans (congrArg some (by kernel_rfl))
  f29 := Tryz.func77.trans (congrArg some (by kernel_rfl))
  f46 := ⟨Tryz.f90.name, by decide, Tryz.func90.trans (congrArg some (by kernel_rfl))⟩
  f47 := Tryz.func91.trans (congrArg some (by kernel_rfl))
  f48 := Tryz.func92.trans (congrArg some (by kernel_rfl))
  f49 := ⟨Tryz.f93.name, by decide, Tryz.func93.trans (congrArg some (by kernel_rfl))⟩
  f50 := ⟨Tryz.f94.name, by decide, Tryz.func94.trans (congrArg some (by kernel_rfl))⟩
  f57 := ⟨Tryz.f105.name, by decide, Tryz.func105.trans (congrArg some (by kernel_rfl))⟩
  t0 := Tryz.underlying0
  a0 := Tryz.isAgg0
  z0 := Tryz.sizeOf0
  v0 := Tryz.zeroValue0
  t3 := Tryz.underlying3
  a3 := Tryz.isAgg3
  z3 := Tryz.sizeOf3
  v3 := Tryz.zeroValue3
  t4 := Tryz.underlying4
  a4 := Tryz.isAgg4
  z4 := Tryz.sizeOf4
  v4 := Tryz.zeroValue4
  t5 := Tryz.underlying5
  a5 := Tryz.isAgg5
  z5 := Tryz.sizeOf5
  v5 := Tryz.zeroValue5
  t9 := Tryz.underlying9
  a9 := Tryz.isAgg9
  z9 := Tryz.sizeOf9
  v9 := Tryz.zeroValue9
  t22 := Tryz.underlying54
  a22 := Tryz.isAgg54
  z22 := Tryz.sizeOf54
  v22 := Tryz.zeroValue54
  t25 := Tryz.underlying100
  a25 := Tryz.isAgg100
  z25 := Tryz.sizeOf100
  v25 := Tryz.zeroValue100
  t39 := Tryz.underlying123
  a39 := Tryz.isAgg123
  z39 := Tryz.sizeOf123
  v39 := Tryz.zeroValue123
  t45 := Tryz.underlying146
  a45 := Tryz.isAgg146
  z45 := Tryz.sizeOf146
  v45 := Tryz.zeroValue146
  t46 := Tryz.underlying147
  a46 := Tryz.isAgg147
  z46 := Tryz.sizeOf147
  v46 := Tryz.zeroValue147
  t50 := Tryz.underlying151
  a50 := Tryz.isAgg151
  z50 := Tryz.sizeOf151
  v50 := Tryz.zeroValue151
  t53 := Tryz.underlying154
  a53 := Tryz.isAgg154
  z53 := Tryz.sizeOf154
  v53 := Tryz.zeroValue154
  t55 := Tryz.underlying156
  a55 := Tryz.isAgg156
  z55 := Tryz.sizeOf156
  v55 := Tryz.zeroValue156
  t66 := Tryz.underlying170
  a66 := Tryz.isAgg170
  z66 := Tryz.sizeOf170
  v66 := Tryz.zeroValue170
  t70 := Tryz.underlying174
  a70 := Tryz.isAgg174
  z70 := Tryz.sizeOf174
  v70 := Tryz.zeroValue174
  t76 := Tryz.underlying183
  a76 := Tryz.isAgg183
  z76 := Tryz.sizeOf183
  v76 := Tryz.zeroValue183
  t77 := Tryz.underlying92
  a77 := Tryz.isAgg92
  z77 := Tryz.sizeOf92
  v77 := Tryz.zeroValue92 }
end Go.Proofs
end
section
set_option linter.unusedSimpArgs false
set_option linter.unusedVariables false
open Go Go.Proofs
set_option maxRecDepth 20000
set_option maxHeartbeats 4000000
namespace Go.Av
theorem swo_out : Go.Sort.SWO (fun a b : OutD => decide (cmpO a b < 0)) := by
  refine ⟨fun x => ?_, fun x y z h1 h2 => ?_, fun x y z h1 h2 => ?_⟩
  · have := cmp_out.swap x x
    simp; omega
  · simp only [decide_eq_true_eq] at h1 h2 ⊢
    have t := cmp_out.tr x y z (by omega) (by omega)
    rcases Int.lt_or_eq_of_le t with h | h
    · exact h
    · have e := (cmp_out.eq _ _).1 h
      subst e
      have := cmp_out.swap x y
      omega
  · simp only [decide_eq_false_iff_not] at h1 h2 ⊢
    have s1 := cmp_out.swap x y
    have s2 := cmp_out.swap y z
    have s3 := cmp_out.swap x z
    have t := cmp_out.tr z y x (by omega) (by omega)
    omega
theorem sortO_call (l : List OutD) (hf : ∀ o ∈ l, FitsP o.pos) (hl : l.length < 4611686018427387904) {h : Heap} {n o gn : Nat} (ho : h o = some (.rows true gn 6 (l.map encOut))) {K : CallK}
    (hK : K (.tup []) (upd h o (some (.rows true gn 6 ((sortC cmpO l).map encOut)))) n) :
    ACallP Tryz.prog 30 [.sl o gn 6 0 l.length, .fn (.func 31) [] []] h n K := by
  refine ACallP.sortFunc zsort (k := 6) (by omega) Tryz.isAgg63 Tryz.sizeOf63 encOut (fun _ => rfl) ?_ (fun o => FitsP o.pos) cmpO swo_out _ (fun x y hx hy => order_pure x y hx hy) ?_ l hf hl ho ?_
  · intro x
    simp [go_sem]
  · exact (order_pure default default (by unfold FitsP Fits; decide) (by unfold FitsP Fits; decide)).1
  · intro l' hp hs
    have : sortC cmpO l = l' := sortC_unique cmp_out hp (hs.imp fun {a b} hab => by
      have := cmp_out.swap a b
      simp only [leC, decide_eq_true_eq]
      omega)
    rw [← this]
    exact hK
end Go.Av
end
section
set_option linter.unusedSimpArgs false
set_option linter.unusedVariables false
open Go Go.Proofs
set_option maxRecDepth 20000
set_option maxHeartbeats 4000000
namespace Go.Av
/-- the first k cells of a walk -/
def stepRows (b : BoardD) (side d : Int) : Nat → Int → List Int
  | 0, _ => []
  | k + 1, x => if 0 ≤ x then x :: stepRows b side d k (toB b side d x) else []
/-- are there perhaps more? -/
def stepMore (b : BoardD) (side d : Int) : Nat → Int → Nat
  | 0, x => if 0 ≤ x then 1 else 0
  | k + 1, x => if 0 ≤ x then stepMore b side d k (toB b side d x) else 0
theorem stepMore_ne {b : BoardD} {side d : Int} : ∀ {k : Nat} {x : Int}, stepMore b side d k x ≠ 2
  | 0, x => by unfold stepMore; split <;> omega
  | k + 1, x => by unfold stepMore; split; exact stepMore_ne; omega
theorem stepsF_seq (b : BoardD) (hb : BoardOk b) (side d c : Int) (k : Nat) : PSeq Tryz.prog 103 [.fp (encB b), .fp [.v (.int .i64 side)], .fp [.v (.int .i64 d)], .fp [.v (.int .i64 c)]]
    (stepMore b side d k (toB b side d c)) ((stepRows b side d k (toB b side d c)).map encI) := by
  refine PSeq.of_awp (by kernel_rfl) Tryz.func103 rfl rfl (Nat.le_of_ble_eq_true rfl) (by kernel_rfl) (fun l => ?_) (hm2 := stepMore_ne)
  have hbl : ∀ n, (∀ c' ∈ encB b, Bel n c') = True := fun n => by simp [go_sem]
  have hel : (encB b).length = 3 := rfl
  have hT : ∀ x, Pure Tryz.prog 66 [.agg (encB b), .v (.int .i64 side), .v (.int .i64 d), .v (.int .i64 x)] (.v (.int .i64 (toB b side d x))) := fun x => bTo_pure b hb side d x
  have hg : ∀ (n k : Nat) (x : Int), Bel n (ghost l (stepMore b side d k x) ((stepRows b side d k x).map encI)) := fun n k x => by
    simp only [ghost, Bel_gd, Bel_tup, List.forall_mem_cons, Bel_v, Bel_lst]
    simp [go_sem]
  obtain ⟨eb, heb⟩ : ∃ eb, eb = encB b := ⟨_, rfl⟩
  rw [← heb] at hbl hel hT ⊢
  have hte : eb.take 3 = eb := List.take_of_length_le (by omega)
  (repeat (first | with_reducible (first | refine wL fun _ => ?_ | refine wD fun _ => ?_ | refine wE ?_ | refine adrZ.go ?_) | simp [go_sem, hel, GH, hte]))
  refine ACallP.plain (hT c) (by simp [go_sem, hbl]) ?_
  (repeat (first | with_reducible (first | refine wL fun _ => ?_ | refine wD fun _ => ?_ | refine wE ?_ | refine adrZ.go ?_) | simp [go_sem, hel, GH, hte]))
  refine ALoop.start (ALoop.ind (α := Nat × Int) (fun a => ⟨[(0, .fn (.yield l) [] []), (1, .fp eb), (2, .fp [.v (.int .i64 side)]), (3, .fp [.v (.int .i64 d)]), (6, .v (.int .i64 a.2)), (1000000007, ghost l (stepMore b side d a.1 a.2) ((stepRows b side d a.1 a.2).map encI))], [], 0⟩)
    (fun f a => f = a.1 ∧ stepMore b side d a.1 a.2 = stepMore b side d k (toB b side d c)) ?_ k (k, toB b side d c) ?_) ?_ ?_
  · rintro f ⟨k', x⟩ ⟨i1, i2⟩ hrec
    simp only at i1 i2
    subst i1
    (repeat (first | with_reducible (first | refine wL fun _ => ?_ | refine wD fun _ => ?_ | refine wE ?_ | refine adrZ.go ?_) | simp [go_sem, hel, GH, hte]))
    by_cases hx : 0 ≤ x
    · simp only [hx, decide_true]
      cases f with
      | zero => exact aGC.exh (by simp [upd, GH, stepMore, stepRows, hx])
      | succ f =>
        refine aGC.yld (more := stepMore b side d f (toB b side d x)) (xs := [.v (.int .i64 x)]) (rs := (stepRows b side d f (toB b side d x)).map encI) noH (by simp [upd, GH, stepMore, stepRows, hx, encI]) (.refl _) (.refl _ _ _ _) (by simp [go_sem]) ?_ ?_
        · (repeat (first | with_reducible (first | refine wL fun _ => ?_ | refine wD fun _ => ?_ | refine wE ?_ | refine adrZ.go ?_) | simp [go_sem, hel, GH, hte]))
          refine ACallP.plain (hT x) (by simp [go_sem, hbl]) ?_
          (repeat (first | with_reducible (first | refine wL fun _ => ?_ | refine wD fun _ => ?_ | refine wE ?_ | refine adrZ.go ?_) | simp [go_sem, hel, GH, hte]))
          rw [stepMore, if_pos hx] at i2
          refine ALoop.start (hrec f (by omega) (f, toB b side d x) ⟨rfl, i2⟩) ?_ (by simp)
          simp [go_sem, Wk_eq, hbl, hg, GH]
        · (repeat (first | with_reducible (first | refine wL fun _ => ?_ | refine wD fun _ => ?_ | refine wE ?_ | refine adrZ.go ?_) | simp [go_sem, hel, GH, hte]))
    · have hm : stepMore b side d f x = 0 := by cases f <;> simp [stepMore, hx]
      have hr : stepRows b side d f x = [] := by cases f <;> simp [stepRows, hx]
      simp only [hx, decide_false]
      refine aGC.skip (.v (.bool false)) ?_
      (repeat (first | with_reducible (first | refine wL fun _ => ?_ | refine wD fun _ => ?_ | refine wE ?_ | refine adrZ.go ?_) | simp [go_sem, hel, GH, hte]))
      rw [← i2, hm, hr]
      exact .inl ⟨rfl, rfl⟩
  · exact ⟨rfl, rfl⟩
  · simp [go_sem, Wk_eq, hbl, hg, GH]
  · simp
def stepsR (n : Nat) : AV := .fn (.func 103) [] [.ref n 0 3 0 0, .ref (n + 1) 0 1 0 0, .ref (n + 2) 0 1 0 0, .ref (n + 3) 0 1 0 0]
def stepsH (b : BoardD) (side d c : Int) (n : Nat) : List (Nat × AObj) := [(n, .rows true 0 3 [encB b]), (n + 1, .rows true 0 1 [[.v (.int .i64 side)]]), (n + 2, .rows true 0 1 [[.v (.int .i64 d)]]), (n + 3, .rows true 0 1 [[.v (.int .i64 c)]])]
theorem steps_owns (b : BoardD) (side d c : Int) : Owns Tryz.prog 88 [.agg (encB b), .v (.int .i64 side), .v (.int .i64 d), .v (.int .i64 c)] stepsR (stepsH b side d c) 4 := by
  refine ⟨?_, fun n => ⟨by simp [go_sem, stepsR], by simp [go_sem, stepsH]⟩⟩
  refine ACallP.of_awp (by kernel_rfl) Tryz.func88 rfl rfl (Nat.le_of_ble_eq_true rfl) (by kernel_rfl) ?_
  (repeat (first | with_reducible (first | refine wL fun _ => ?_ | refine wD fun _ => ?_ | refine wE ?_ | refine adrZ.go ?_) | simp [go_sem, stepsR, stepsH]))
  simp [go_sem, Wk_eq]
theorem bLine_pure (b : BoardD) (hb : BoardOk b) (side d c : Int) : Pure Tryz.prog 67 [.agg (encB b), .v (.int .i64 side), .v (.int .i64 d), .v (.int .i64 c)] (encIs (lineB b side d c)) := by
  refine Pure.of (ACallP.of_awp (by kernel_rfl) Tryz.func67 rfl rfl (Nat.le_of_ble_eq_true rfl) (by kernel_rfl) ?_)
  have hbl : ∀ n, (∀ c' ∈ encB b, Bel n c') = True := fun n => by simp [go_sem]
  have hel : (encB b).length = 3 := rfl
  have hS : Owns Tryz.prog 88 [.agg (encB b), .v (.int .i64 side), .v (.int .i64 d), .v (.int .i64 c)] (fun n => stepsR n) (fun n => stepsH b side d c n) 4 := steps_owns b side d c
  have hQ := fun k => stepsF_seq b hb side d c k
  simp only [stepsR, stepsH] at hS
  have hte : (encB b).take 3 = encB b := rfl
  obtain ⟨eb, heb⟩ : ∃ eb, eb = encB b := ⟨_, rfl⟩
  rw [← heb] at hbl hel hS hQ hte ⊢
  have hc1 := hb.c1
  have hc0 := hb.c0
  (repeat (first | with_reducible (first | refine wL fun _ => ?_ | refine wD fun _ => ?_ | refine wE ?_ | refine adrZ.go ?_) | simp [go_sem, hel, hte, GH]))
  refine ACallP.ownsPlain hS (by simp [go_sem, hbl]) ?_
  (repeat (first | with_reducible (first | refine wL fun _ => ?_ | refine wD fun _ => ?_ | refine wE ?_ | refine adrZ.go ?_) | simp [go_sem, hel, hte, GH]))
  refine aRange.mk [.fp eb, .fp [.v (.int .i64 side)], .fp [.v (.int .i64 d)], .fp [.v (.int .i64 c)]] (frzO _ [3, 4, 5, 6]) (hQ (b.cells.toNat + 1)) (frz_frzO _ _) ?_ (by simp [go_sem, hbl]) (by simp [encI]) ?_
  · refine LeRow.cons (.frzP rfl ?_ ?_ ?_ ?_) (LeRow.cons (.frzP rfl ?_ ?_ ?_ ?_) (LeRow.cons (.frzP rfl ?_ ?_ ?_ ?_) (LeRow.cons (.frzP rfl ?_ ?_ ?_ ?_) .nil))) <;> first | exact LeRow.refl _ _ _ _ | simp [frzO, frz1, upd]
  refine Fgt.to (ARange.ind (α := Nat × Int × List Int) (fun a => ([(7, .ref 1 0 1 0 0), (9, .ref 2 0 1 0 0)], [(1, .rows true 0 1 [[.v (.int .i64 c)]]), (2, .rows true 0 1 [[.sl 7 a.2.2.length 1 0 a.2.2.length]]), (7, .rows true a.2.2.length 1 (a.2.2.map encI))], 8))
    (fun rows a => rows = (stepRows b side d a.1 a.2.1).map encI ∧ stepMore b side d a.1 a.2.1 = stepMore b side d (b.cells.toNat + 1) (toB b side d c) ∧ a.1 + a.2.2.length = b.cells.toNat + 1 ∧ a.2.1 < b.cells ∧ a.2.2.Nodup ∧
      (∀ y ∈ a.2.2, 0 ≤ y ∧ y < b.cells) ∧ lineB b side d c = lineGo b side d c a.1 a.2.1 a.2.2) ?_ ?_ _ (b.cells.toNat + 1, toB b side d c, []) ?_) ?_ ?_
  · rintro ⟨f, x, seen⟩ ⟨i0, i1, i2, i3, i4, i5, i6⟩
    simp only at i0 i1 i2 i3 i4 i5 i6
    have hsl : seen.length ≤ b.cells.toNat := nodup_le _ _ i4 (fun y hy => by have := i5 y hy; omega)
    obtain ⟨f, rfl⟩ : ∃ f', f = f' + 1 := ⟨f - 1, by omega⟩
    have hx : ¬ 0 ≤ x := fun hx => by simp [stepRows, hx] at i0
    rw [stepMore, if_neg hx] at i1
    rw [lineGo, if_neg (fun h => hx h.1)] at i6
    refine ⟨i1.symm, ?_⟩
    rw [i6]
    (repeat (first | with_reducible (first | refine wL fun _ => ?_ | refine wD fun _ => ?_ | refine wE ?_ | refine adrZ.go ?_) | simp [go_sem, hel]))
    (refine leV_frz rfl (by simp) (by simp [noH, upd]) ?_; first | (simp [go_sem]; done) | (simp [go_sem]; exact List.take_of_length_le (by simp)))
  · rintro xs rs ⟨f, x, seen⟩ ⟨i0, i1, i2, i3, i4, i5, i6⟩ hrec
    simp only at i0 i1 i2 i3 i4 i5 i6
    have hsl : seen.length ≤ b.cells.toNat := nodup_le _ _ i4 (fun y hy => by have := i5 y hy; omega)
    cases f with
    | zero => simp [stepRows] at i0
    | succ f =>
    have hx : 0 ≤ x := by
      by_cases hx : 0 ≤ x
      · exact hx
      · simp [stepRows, hx] at i0
    rw [stepRows, if_pos hx] at i0
    simp only [List.map_cons, List.cons.injEq] at i0
    obtain ⟨rfl, rfl⟩ := i0
    rw [stepMore, if_pos hx] at i1
    rw [lineGo] at i6
    refine ARange.go (Nat.zero_le _) ?_
    (repeat (first | with_reducible (first | refine wL fun _ => ?_ | refine wD fun _ => ?_ | refine wE ?_ | refine adrZ.go ?_) | simp [go_sem, hel, GH, encI]))
    refine aGC.flat [encIs seen, .v (.int .i64 x)] (.v (.bool (decide (x ∈ seen)))) (fun _ => Contains_pure seen x (by omega)) (.v _) ?_ (by simp [go_sem]) ?_
    · refine LeRow.cons ?_ (LeRow.cons (.refl _) LeRow.nil)
      refine LeV.frz rfl ?_ ?_ (LeRows.of_eq ?_) <;> simp [noH, List.take_of_length_le]
    (repeat (first | with_reducible (first | refine wL fun _ => ?_ | refine wD fun _ => ?_ | refine wE ?_ | refine adrZ.go ?_) | simp [go_sem, hel, GH]))
    refine aIf.mkL (fun hc => ?_) (fun hc => ?_) <;> simp at hc
    · rw [if_neg (by rintro ⟨h1, h2, h3⟩; rcases hc with h | h <;> contradiction)] at i6
      rw [i6]
      (repeat (first | with_reducible (first | refine wL fun _ => ?_ | refine wD fun _ => ?_ | refine wE ?_ | refine adrZ.go ?_) | simp [go_sem, hel, GH]))
      (refine leV_frz rfl (by simp) (by simp [noH, upd]) ?_; first | (simp [go_sem]; done) | (simp [go_sem]; exact List.take_of_length_le (by simp)))
    · rw [if_pos ⟨hx, by simpa using hc⟩] at i6
      (repeat (first | with_reducible (first | refine wL fun _ => ?_ | refine wD fun _ => ?_ | refine wE ?_ | refine adrZ.go ?_) | simp [go_sem, hel, GH]))
      refine Fgt.to (hrec (f, toB b side d x, seen ++ [x]) ⟨rfl, i1, by simp only [List.length_append, List.length_singleton]; omega, toB_lt hb _ _ _, ?_, ?_, i6⟩) ?_ (by simp)
      · refine List.nodup_append.2 ⟨i4, by simp, ?_⟩
        intro y hy z hz
        simp at hz
        subst hz
        rintro rfl
        exact hc.2 hy
      · intro y hy
        rcases List.mem_append.1 hy with h | h
        · exact i5 y h
        · simp at h; omega
      · simp [go_sem, Wk_eq, GH] <;> (intro r hr c hc; (first | (rcases hr with ⟨_, _, rfl⟩ | rfl) | (rcases hr with rfl | ⟨_, _, rfl⟩) | (rcases hr with rfl | rfl) | ((rcases List.mem_or_eq_of_mem_set hr with hr | rfl) <;> first | (obtain ⟨_, _, rfl⟩ := List.mem_map.1 hr; simp only [encI] at hc) | skip) | (rcases hr with ⟨_, rfl⟩ | ⟨_, rfl⟩) | (rcases hr with ⟨_, _, rfl⟩ | ⟨_, rfl⟩) | (rcases hr with ⟨_, rfl⟩ | ⟨_, _, rfl⟩) | (rcases hr with ⟨_, _, rfl⟩ | ⟨_, _, rfl⟩) | (obtain ⟨_, rfl⟩ := hr) | (obtain ⟨_, _, rfl⟩ := hr)) <;> simp at hc <;> (try subst hc) <;> first | exact .v _ | (rcases hc with rfl | rfl <;> exact .v _))
  · exact ⟨rfl, rfl, by simp, toB_lt hb _ _ _, by simp, by simp, rfl⟩
  · simp [go_sem, Wk_eq]
  · simp
end Go.Av
end
section
set_option linter.unusedSimpArgs false
set_option linter.unusedVariables false
open Go Go.Proofs
set_option maxRecDepth 20000
set_option maxHeartbeats 4000000
namespace Go.Av
theorem nofz_A {l : List ActD} : (∀ r ∈ l.map encAct, ∀ c ∈ r, NoFz c) = True := by
  refine eq_true ?_
  intro r hr c hc
  obtain ⟨x, _, rfl⟩ := List.mem_map.1 hr
  revert c
  simp [go_sem]
attribute [go_sem ↓] nofz_A
theorem Grow_owns (m : Int) (h0 : 0 ≤ m) (h1 : m ≤ 17179869184) : Owns Tryz.prog 87 [AV.nils, .v (.int .i64 m)] (fun n => .sl n 0 3 0 0) (fun n => [(n, .rows true 0 3 [])]) 1 := by
  refine ⟨?_, fun n => ⟨by simp [go_sem], by simp [go_sem]⟩⟩
  by_cases hm : m = 0
  · subst hm
    refine ACallP.of_awp (by kernel_rfl) Tryz.func87 rfl rfl (Nat.le_of_ble_eq_true rfl) (by kernel_rfl) ?_
    (repeat (first | with_reducible (first | refine wL fun _ => ?_ | refine wD fun _ => ?_ | refine wE ?_ | refine adrZ.go ?_) | simp [go_sem]))
    simp [go_sem, Wk_eq]
  · refine ACallP.clear ?_
    refine ACallP.of_awp (by kernel_rfl) Tryz.func87 rfl rfl (Nat.le_of_ble_eq_true rfl) (by kernel_rfl) ?_
    (repeat (first | with_reducible (first | refine wL fun _ => ?_ | refine wD fun _ => ?_ | refine wE ?_ | refine adrZ.go ?_) | simp [go_sem]))
    (refine aIf.mkL (fun hF => by first | omega | (simp at hF; omega)) (fun hF => ?_); clear hF)
    (repeat (first | with_reducible (first | refine wL fun _ => ?_ | refine wD fun _ => ?_ | refine wE ?_ | refine adrZ.go ?_) | simp [go_sem]))
    (refine aIf.mkL (fun hT => ?_) (fun hT => by first | omega | (simp at hT; omega)); clear hT)
    (repeat (first | with_reducible (first | refine wL fun _ => ?_ | refine wD fun _ => ?_ | refine wE ?_ | refine adrZ.go ?_) | simp [go_sem]))
    refine ⟨0, 0, 3, ⟨rfl, rfl, rfl⟩, ?_⟩
    simp [go_sem, Wk_eq]
theorem Concat_owns (a b : List ActD) (ha : a.length ≤ 1048576) (hb : b.length ≤ 1048576) : Owns Tryz.prog 65 [.lst 1 [[encAs a], [encAs b]]]
    (fun n => .sl n 2 3 0 (a.length + b.length)) (fun n => [(n, .rows true 2 3 ((a ++ b).map encAct))]) 1 := by
  refine ⟨?_, fun n => ⟨by simp [go_sem], by simp [go_sem]⟩⟩
  refine ACallP.of_awp (by kernel_rfl) Tryz.func65 rfl rfl (Nat.le_of_ble_eq_true rfl) (by kernel_rfl) ?_
  (repeat (first | with_reducible (first | refine wL fun _ => ?_ | refine wD fun _ => ?_ | refine wE ?_ | refine adrZ.go ?_) | simp [go_sem]))
  refine ALoop.unroll ?_
  (repeat (first | with_reducible (first | refine wL fun _ => ?_ | refine wD fun _ => ?_ | refine wE ?_ | refine adrZ.go ?_) | simp [go_sem]))
  (refine aIf.mkL (fun hF => by first | omega | (simp at hF; omega)) (fun hF => ?_); clear hF)
  (repeat (first | with_reducible (first | refine wL fun _ => ?_ | refine wD fun _ => ?_ | refine wE ?_ | refine adrZ.go ?_) | simp [go_sem]))
  refine ALoop.unroll ?_
  (repeat (first | with_reducible (first | refine wL fun _ => ?_ | refine wD fun _ => ?_ | refine wE ?_ | refine adrZ.go ?_) | simp [go_sem]))
  (refine aIf.mkL (fun hF => by first | omega | (simp at hF; omega)) (fun hF => ?_); clear hF)
  (repeat (first | with_reducible (first | refine wL fun _ => ?_ | refine wD fun _ => ?_ | refine wE ?_ | refine adrZ.go ?_) | simp [go_sem]))
  refine ALoop.unroll ?_
  (repeat (first | with_reducible (first | refine wL fun _ => ?_ | refine wD fun _ => ?_ | refine wE ?_ | refine adrZ.go ?_) | simp [go_sem]))
  refine ACallP.ownsPlain (Grow_owns _ (by omega) (by omega)) (by simp [go_sem]) ?_
  (repeat (first | with_reducible (first | refine wL fun _ => ?_ | refine wD fun _ => ?_ | refine wE ?_ | refine adrZ.go ?_) | simp [go_sem]))
  refine ALoop.unroll ?_
  (repeat (first | with_reducible (first | refine wL fun _ => ?_ | refine wD fun _ => ?_ | refine wE ?_ | refine adrZ.go ?_) | simp [go_sem]))
  refine ALoop.unroll ?_
  (repeat (first | with_reducible (first | refine wL fun _ => ?_ | refine wD fun _ => ?_ | refine wE ?_ | refine adrZ.go ?_) | simp [go_sem]))
  refine ALoop.unroll ?_
  (repeat (first | with_reducible (first | refine wL fun _ => ?_ | refine wD fun _ => ?_ | refine wE ?_ | refine adrZ.go ?_) | simp [go_sem]))
  simp [go_sem, Wk_eq]
theorem ext1_owns (p : PathD) (to : Int) (more : List ActD) (ha : p.acts.length ≤ 1048576) (hb : more.length ≤ 1048576) : Owns Tryz.prog 64 [.v (.int .i64 to), encAs more, .fp (encPath p)]
    (fun n => .agg [.sl (n + 2) 2 3 0 (p.acts.length + more.length), .v (.int .i64 to)]) (fun n => [(n + 2, .rows true 2 3 ((p.acts ++ more).map encAct))]) 3 := by
  refine ⟨?_, fun n => ⟨by simp [go_sem], by simp [go_sem]⟩⟩
  refine ACallP.of_awp (by kernel_rfl) Tryz.func64 rfl rfl (Nat.le_of_ble_eq_true rfl) (by kernel_rfl) ?_
  (repeat (first | with_reducible (first | refine wL fun _ => ?_ | refine wD fun _ => ?_ | refine wE ?_ | refine adrZ.go ?_) | simp [go_sem]))
  refine ACallP.ownsN (Concat_owns p.acts more ha hb) (by simp [go_sem]) (by simp [go_sem]) ?_ (by simp [go_sem]) ?_
  · simp only [encAs]
    refine LeRow.cons ?_ LeRow.nil
    refine leV_frz rfl (by simp) (by simp [noH, upd]) ?_
    simp [go_sem]
  · (repeat (first | with_reducible (first | refine wL fun _ => ?_ | refine wD fun _ => ?_ | refine wE ?_ | refine adrZ.go ?_) | simp [go_sem]))
    simp [go_sem, Wk_eq]
end Go.Av
end
section
set_option linter.unusedSimpArgs false
set_option linter.unusedVariables false
open Go Go.Proofs
set_option maxRecDepth 20000
set_option maxHeartbeats 4000000
namespace Go.Av
theorem slideP_append (p : PathD) : ∀ (l : List Int) (passed : List ActD) (c : Int), slideP p (l ++ [c]) passed = slideP p l passed ++ [onP p c (passed ++ l.map fun c => (3, c, 0))]
  | [], passed, c => by simp [slideP, onP]
  | d :: l, passed, c => by simp [slideP, slideP_append p l]
def passK (l : List Int) : List ActD := l.map fun c => (3, c, 0)
theorem passK_append (l : List Int) (c : Int) : passK (l ++ [c]) = passK l ++ [(3, c, 0)] := by simp [passK]
theorem passK_len (l : List Int) : (passK l).length = l.length := by simp [passK]
theorem slideP_succ (p : PathD) (l : List Int) {i : Nat} (h : i < l.length) : slideP p (l.take (i + 1)) [] = slideP p (l.take i) [] ++ [onP p (nth l i) (passK (l.take i))] ∧ passK (l.take (i + 1)) = passK (l.take i) ++ [(3, nth l i, 0)] := by
  rw [List.take_add_one, List.getElem?_eq_getElem h, nth_eq _ _ h, Option.toList_some, slideP_append, passK_append]
  exact ⟨by simp [passK], rfl⟩
theorem extend_pure (b : BoardD) (hb : BoardOk b) (h9 : b.cells ≤ 9) (side : Int) (p : PathD) (hp : p.acts.length ≤ 1000000) (x : Int × Int) :
    Pure Tryz.prog 43 [.agg (encB b), .v (.int .i64 side), .agg (encPath p), .agg [.v (.int .i64 x.1), .v (.int .i64 x.2)]] (encPt (extP b side p x)) := by
  refine Pure.of (ACallP.of_awp (by kernel_rfl) Tryz.func43 rfl rfl (Nat.le_of_ble_eq_true rfl) (by kernel_rfl) ?_)
  obtain ⟨op, N⟩ := x
  have hT := bTo_pure b hb side N p.to
  have hL := bLine_pure b hb side N p.to
  have hll := lineB_le hb (side := side) (d := N) (c := p.to)
  have hO := fun to more (h : more.length ≤ 1048576) => ext1_owns p to more (by omega) h
  have hE : extP b side p (op, N) = if op = 1 ∨ op = 7 then
    if toB b side N p.to < 0 then [] else if op = 1 then [onP p (toB b side N p.to) []] else [onP p p.to [(7, p.to, toB b side N p.to)]]
    else if op = 2 then slideP p (lineB b side N p.to) []
    else if op = 8 ∨ op = 9 ∨ op = 10 then [onP p p.to [(op, N, 0)]]
    else [onP p p.to [(op, p.to, 0)]] := rfl
  generalize toB b side N p.to = to at *
  generalize lineB b side N p.to = line at *
  generalize extP b side p (op, N) = R at *
  have hbl : ∀ n, (∀ c' ∈ encB b, Bel n c') = True := fun n => by simp [go_sem]
  have hel : (encB b).length = 3 := rfl
  have hte : (encB b).take 3 = encB b := rfl
  obtain ⟨eb, heb⟩ : ∃ eb, eb = encB b := ⟨_, rfl⟩
  rw [← heb] at hbl hel hT hL hte ⊢
  (repeat (first | with_reducible (first | refine wL fun _ => ?_ | refine wD fun _ => ?_ | refine wE ?_ | refine adrZ.go ?_) | simp [go_sem, hel, hte]))
  refine aIf.mkL (fun h1 => ?_) (fun h1 => ?_) <;> simp at h1
  · subst h1
    (repeat (first | with_reducible (first | refine wL fun _ => ?_ | refine wD fun _ => ?_ | refine wE ?_ | refine adrZ.go ?_) | simp [go_sem, hel, hte]))
    refine ACallP.plain hT (by simp [go_sem, hbl]) ?_
    (repeat (first | with_reducible (first | refine wL fun _ => ?_ | refine wD fun _ => ?_ | refine wE ?_ | refine adrZ.go ?_) | simp [go_sem, hel, hte]))
    refine aIf.mkL (fun ht => ?_) (fun ht => ?_) <;> simp at ht
    · rw [if_pos (by omega), if_pos ht] at hE
      rw [hE]
      (repeat (first | with_reducible (first | refine wL fun _ => ?_ | refine wD fun _ => ?_ | refine wE ?_ | refine adrZ.go ?_) | simp [go_sem, hel, hte]))
    · rw [if_pos (by omega), if_neg (by omega), if_pos rfl] at hE
      rw [hE]
      (repeat (first | with_reducible (first | refine wL fun _ => ?_ | refine wD fun _ => ?_ | refine wE ?_ | refine adrZ.go ?_) | simp [go_sem, hel, hte]))
      refine ACallP.ownsN (hO to [] (by simp)) (by simp [go_sem]) (by simp [go_sem]) ?_ (by simp [go_sem]) ?_
      · ((try simp only [encProg, encStep, encAct, encAs, encPath, encPt, encOut, encState, encPos, encOs, encSs, encPs, encIs, encGame, List.map_cons, List.map_nil, List.nil_append, List.append_nil, List.cons_append]); (repeat (first | (with_reducible exact LeRow.nil) | (with_reducible exact LeRows.nil) | (with_reducible exact LeV.refl _) | (with_reducible exact LeRow.refl _ _ _ _) | (with_reducible exact LeRows.refl _) | (with_reducible refine LeRow.cons ?_ ?_) | (with_reducible refine LeRows.cons ?_ ?_) | (with_reducible refine LeV.agg ?_) | (with_reducible refine LeV.tup ?_) | (with_reducible refine LeV.fn ?_ ?_) | (with_reducible exact LeV.nil _) | (with_reducible refine leRows_append (LeRows.refl _) ?_) | ((refine leV_frz rfl (by simp) (by simp [frzO, frz1, upd, noH]) ?_); (first | (simp [go_sem]; done) | (simp [go_sem]; exact List.take_of_length_le (by simp)))) | ((refine LeV.frz rfl (by simp) (by simp [frzO, frz1, upd, noH]) ?_); (simp only [List.drop_zero, List.take_succ_cons, List.take_zero, List.map_cons, List.map_nil])) | ((refine LeV.frzP rfl (by simp) (by simp) (by simp [frzO, frz1, upd, noH]) ?_); (simp only [nth_zero, List.drop_zero])))))
      · (repeat (first | with_reducible (first | refine wL fun _ => ?_ | refine wD fun _ => ?_ | refine wE ?_ | refine adrZ.go ?_) | simp [go_sem, hel, hte, onP]))
        ((try simp only [encProg, encStep, encAct, encAs, encPath, encPt, encOut, encState, encPos, encOs, encSs, encPs, encIs, encGame, List.map_cons, List.map_nil, List.nil_append, List.append_nil, List.cons_append]); (repeat (first | (with_reducible exact LeRow.nil) | (with_reducible exact LeRows.nil) | (with_reducible exact LeV.refl _) | (with_reducible exact LeRow.refl _ _ _ _) | (with_reducible exact LeRows.refl _) | (with_reducible refine LeRow.cons ?_ ?_) | (with_reducible refine LeRows.cons ?_ ?_) | (with_reducible refine LeV.agg ?_) | (with_reducible refine LeV.tup ?_) | (with_reducible refine LeV.fn ?_ ?_) | (with_reducible exact LeV.nil _) | (with_reducible refine leRows_append (LeRows.refl _) ?_) | ((refine leV_frz rfl (by simp) (by simp [frzO, frz1, upd, noH]) ?_); (first | (simp [go_sem]; done) | (simp [go_sem]; exact List.take_of_length_le (by simp)))) | ((refine LeV.frz rfl (by simp) (by simp [frzO, frz1, upd, noH]) ?_); (simp only [List.drop_zero, List.take_succ_cons, List.take_zero, List.map_cons, List.map_nil])) | ((refine LeV.frzP rfl (by simp) (by simp) (by simp [frzO, frz1, upd, noH]) ?_); (simp only [nth_zero, List.drop_zero])))))
  · (repeat (first | with_reducible (first | refine wL fun _ => ?_ | refine wD fun _ => ?_ | refine wE ?_ | refine adrZ.go ?_) | simp [go_sem, hel, hte]))
    refine aIf.mkL (fun h7 => ?_) (fun h7 => ?_) <;> simp at h7
    · subst h7
      (repeat (first | with_reducible (first | refine wL fun _ => ?_ | refine wD fun _ => ?_ | refine wE ?_ | refine adrZ.go ?_) | simp [go_sem, hel, hte]))
      refine ACallP.plain hT (by simp [go_sem, hbl]) ?_
      (repeat (first | with_reducible (first | refine wL fun _ => ?_ | refine wD fun _ => ?_ | refine wE ?_ | refine adrZ.go ?_) | simp [go_sem, hel, hte]))
      refine aIf.mkL (fun ht => ?_) (fun ht => ?_) <;> simp at ht
      · rw [if_pos (by omega), if_pos ht] at hE
        rw [hE]
        (repeat (first | with_reducible (first | refine wL fun _ => ?_ | refine wD fun _ => ?_ | refine wE ?_ | refine adrZ.go ?_) | simp [go_sem, hel, hte]))
      · rw [if_pos (by omega), if_neg (by omega), if_neg (by omega)] at hE
        rw [hE]
        (repeat (first | with_reducible (first | refine wL fun _ => ?_ | refine wD fun _ => ?_ | refine wE ?_ | refine adrZ.go ?_) | simp [go_sem, hel, hte]))
        refine ACallP.ownsN (hO p.to [(7, p.to, to)] (by simp)) (by simp [go_sem]) (by simp [go_sem]) ?_ (by simp [go_sem]) ?_
        · ((try simp only [encProg, encStep, encAct, encAs, encPath, encPt, encOut, encState, encPos, encOs, encSs, encPs, encIs, encGame, List.map_cons, List.map_nil, List.nil_append, List.append_nil, List.cons_append]); (repeat (first | (with_reducible exact LeRow.nil) | (with_reducible exact LeRows.nil) | (with_reducible exact LeV.refl _) | (with_reducible exact LeRow.refl _ _ _ _) | (with_reducible exact LeRows.refl _) | (with_reducible refine LeRow.cons ?_ ?_) | (with_reducible refine LeRows.cons ?_ ?_) | (with_reducible refine LeV.agg ?_) | (with_reducible refine LeV.tup ?_) | (with_reducible refine LeV.fn ?_ ?_) | (with_reducible exact LeV.nil _) | (with_reducible refine leRows_append (LeRows.refl _) ?_) | ((refine leV_frz rfl (by simp) (by simp [frzO, frz1, upd, noH]) ?_); (first | (simp [go_sem]; done) | (simp [go_sem]; exact List.take_of_length_le (by simp)))) | ((refine LeV.frz rfl (by simp) (by simp [frzO, frz1, upd, noH]) ?_); (simp only [List.drop_zero, List.take_succ_cons, List.take_zero, List.map_cons, List.map_nil])) | ((refine LeV.frzP rfl (by simp) (by simp) (by simp [frzO, frz1, upd, noH]) ?_); (simp only [nth_zero, List.drop_zero])))))
        · (repeat (first | with_reducible (first | refine wL fun _ => ?_ | refine wD fun _ => ?_ | refine wE ?_ | refine adrZ.go ?_) | simp [go_sem, hel, hte, onP]))
          ((try simp only [encProg, encStep, encAct, encAs, encPath, encPt, encOut, encState, encPos, encOs, encSs, encPs, encIs, encGame, List.map_cons, List.map_nil, List.nil_append, List.append_nil, List.cons_append]); (repeat (first | (with_reducible exact LeRow.nil) | (with_reducible exact LeRows.nil) | (with_reducible exact LeV.refl _) | (with_reducible exact LeRow.refl _ _ _ _) | (with_reducible exact LeRows.refl _) | (with_reducible refine LeRow.cons ?_ ?_) | (with_reducible refine LeRows.cons ?_ ?_) | (with_reducible refine LeV.agg ?_) | (with_reducible refine LeV.tup ?_) | (with_reducible refine LeV.fn ?_ ?_) | (with_reducible exact LeV.nil _) | (with_reducible refine leRows_append (LeRows.refl _) ?_) | ((refine leV_frz rfl (by simp) (by simp [frzO, frz1, upd, noH]) ?_); (first | (simp [go_sem]; done) | (simp [go_sem]; exact List.take_of_length_le (by simp)))) | ((refine LeV.frz rfl (by simp) (by simp [frzO, frz1, upd, noH]) ?_); (simp only [List.drop_zero, List.take_succ_cons, List.take_zero, List.map_cons, List.map_nil])) | ((refine LeV.frzP rfl (by simp) (by simp) (by simp [frzO, frz1, upd, noH]) ?_); (simp only [nth_zero, List.drop_zero])))))
    · rw [if_neg (by omega)] at hE
      (repeat (first | with_reducible (first | refine wL fun _ => ?_ | refine wD fun _ => ?_ | refine wE ?_ | refine adrZ.go ?_) | simp [go_sem, hel, hte]))
      refine aIf.mkL (fun h2 => ?_) (fun h2 => ?_) <;> simp at h2
      · subst h2
        rw [if_pos rfl] at hE
        (repeat (first | with_reducible (first | refine wL fun _ => ?_ | refine wD fun _ => ?_ | refine wE ?_ | refine adrZ.go ?_) | simp [go_sem, hel, hte]))
        refine ACallP.plain hL (by simp [go_sem, hbl]) ?_
        (repeat (first | with_reducible (first | refine wL fun _ => ?_ | refine wD fun _ => ?_ | refine wE ?_ | refine adrZ.go ?_) | simp [go_sem, hel, hte]))
        refine ALoop.start (ALoop.ind (α := Nat) (fun i => ⟨[(9, .fn (.func 64) [] [.ref 1 0 2 0 0]), (11, .sl 3 i 2 0 i), (12, .sl 4 i 3 0 i), (55, encIs line), (56, .v (.int .i64 line.length)), (57, .v (.int .i64 i))],
            [(1, .rows true 0 2 [encPath p]), (3, .rows true i 2 ((slideP p (line.take i) []).map encPath)), (4, .rows true i 3 ((passK (line.take i)).map encAct))], 5⟩)
          (fun d i => i + d = line.length) ?_ line.length 0 ?_) ?_ ?_
        · rintro d i i1 hrec
          have hsl : (slideP p (line.take i) []).length = i := by rw [slideP_len]; simp; omega
          have hpl : (passK (line.take i)).length = i := by rw [passK_len]; simp; omega
          (repeat (first | with_reducible (first | refine wL fun _ => ?_ | refine wD fun _ => ?_ | refine wE ?_ | refine adrZ.go ?_) | simp [go_sem, hel, hte]))
          refine aIf.mkL (fun hi => ?_) (fun hi => ?_) <;> simp at hi
          · obtain ⟨s1, s2⟩ := slideP_succ p line hi
            (repeat (first | with_reducible (first | refine wL fun _ => ?_ | refine wD fun _ => ?_ | refine wE ?_ | refine adrZ.go ?_) | simp [go_sem, hi]))
            refine ACallP.ownsN (hO (nth line i) (passK (line.take i)) (by omega)) (by simp [go_sem]) (by simp [go_sem]) ?_ (by simp [go_sem]) ?_
            · ((try simp only [encProg, encStep, encAct, encAs, encPath, encPt, encOut, encState, encPos, encOs, encSs, encPs, encIs, encGame, List.map_cons, List.map_nil, List.nil_append, List.append_nil, List.cons_append]); (repeat (first | (with_reducible exact LeRow.nil) | (with_reducible exact LeRows.nil) | (with_reducible exact LeV.refl _) | (with_reducible exact LeRow.refl _ _ _ _) | (with_reducible exact LeRows.refl _) | (with_reducible refine LeRow.cons ?_ ?_) | (with_reducible refine LeRows.cons ?_ ?_) | (with_reducible refine LeV.agg ?_) | (with_reducible refine LeV.tup ?_) | (with_reducible refine LeV.fn ?_ ?_) | (with_reducible exact LeV.nil _) | (with_reducible refine leRows_append (LeRows.refl _) ?_) | ((refine leV_frz rfl (by simp [hpl]) (by simp [frzO, frz1, upd, noH]) ?_); (first | (simp [go_sem, hpl]; done) | (simp [go_sem, hpl]; exact List.take_of_length_le (by simp [hpl])))) | ((refine LeV.frz rfl (by simp [hpl]) (by simp [frzO, frz1, upd, noH]) ?_); (simp only [List.drop_zero, List.take_succ_cons, List.take_zero, List.map_cons, List.map_nil])) | ((refine LeV.frzP rfl (by simp [hpl]) (by simp) (by simp [frzO, frz1, upd, noH]) ?_); (simp only [nth_zero, List.drop_zero])))))
            · (repeat (first | with_reducible (first | refine wL fun _ => ?_ | refine wD fun _ => ?_ | refine wE ?_ | refine adrZ.go ?_) | simp [go_sem, hi, hsl, hpl]))
              refine ALoop.start (hrec (d - 1) (by omega) (i + 1) (by omega)) ?_ (by simp)
              simp [go_sem, Wk_eq, s1, s2, onP, hpl]
              ((try simp only [encProg, encStep, encAct, encAs, encPath, encPt, encOut, encState, encPos, encOs, encSs, encPs, encIs, encGame, List.map_cons, List.map_nil, List.nil_append, List.append_nil, List.cons_append]); (repeat (first | (with_reducible exact LeRow.nil) | (with_reducible exact LeRows.nil) | (with_reducible exact LeV.refl _) | (with_reducible exact LeRow.refl _ _ _ _) | (with_reducible exact LeRows.refl _) | (with_reducible refine LeRow.cons ?_ ?_) | (with_reducible refine LeRows.cons ?_ ?_) | (with_reducible refine LeV.agg ?_) | (with_reducible refine LeV.tup ?_) | (with_reducible refine LeV.fn ?_ ?_) | (with_reducible exact LeV.nil _) | (with_reducible refine leRows_append (LeRows.refl _) ?_) | ((refine leV_frz rfl (by simp [hpl]) (by simp [frzO, frz1, upd, noH]) ?_); (first | (simp [go_sem, hpl]; done) | (simp [go_sem, hpl]; exact List.take_of_length_le (by simp [hpl])))) | ((refine LeV.frz rfl (by simp [hpl]) (by simp [frzO, frz1, upd, noH]) ?_); (simp only [List.drop_zero, List.take_succ_cons, List.take_zero, List.map_cons, List.map_nil])) | ((refine LeV.frzP rfl (by simp [hpl]) (by simp) (by simp [frzO, frz1, upd, noH]) ?_); (simp only [nth_zero, List.drop_zero])))))
          · have hil : i = line.length := by omega
            subst hil
            rw [List.take_length] at hsl ⊢
            rw [hE]
            (repeat (first | with_reducible (first | refine wL fun _ => ?_ | refine wD fun _ => ?_ | refine wE ?_ | refine adrZ.go ?_) | simp [go_sem, hsl]))
            ((try simp only [encProg, encStep, encAct, encAs, encPath, encPt, encOut, encState, encPos, encOs, encSs, encPs, encIs, encGame, List.map_cons, List.map_nil, List.nil_append, List.append_nil, List.cons_append]); (repeat (first | (with_reducible exact LeRow.nil) | (with_reducible exact LeRows.nil) | (with_reducible exact LeV.refl _) | (with_reducible exact LeRow.refl _ _ _ _) | (with_reducible exact LeRows.refl _) | (with_reducible refine LeRow.cons ?_ ?_) | (with_reducible refine LeRows.cons ?_ ?_) | (with_reducible refine LeV.agg ?_) | (with_reducible refine LeV.tup ?_) | (with_reducible refine LeV.fn ?_ ?_) | (with_reducible exact LeV.nil _) | (with_reducible refine leRows_append (LeRows.refl _) ?_) | ((refine leV_frz rfl (by simp [hsl]) (by simp [frzO, frz1, upd, noH]) ?_); (first | (simp [go_sem, hsl]; done) | (simp [go_sem, hsl]; exact List.take_of_length_le (by simp [hsl])))) | ((refine LeV.frz rfl (by simp [hsl]) (by simp [frzO, frz1, upd, noH]) ?_); (simp only [List.drop_zero, List.take_succ_cons, List.take_zero, List.map_cons, List.map_nil])) | ((refine LeV.frzP rfl (by simp [hsl]) (by simp) (by simp [frzO, frz1, upd, noH]) ?_); (simp only [nth_zero, List.drop_zero])))))
        · simp
        · simp [go_sem, Wk_eq, slideP, passK]
        · simp
      · rw [if_neg h2] at hE
        (repeat (first | with_reducible (first | refine wL fun _ => ?_ | refine wD fun _ => ?_ | refine wE ?_ | refine adrZ.go ?_) | simp [go_sem, hel, hte]))
        refine aIf.mkL (fun h8 => ?_) (fun h8 => ?_) <;> simp at h8
        · subst h8
          rw [if_pos (by omega)] at hE
          rw [hE]
          (repeat (first | with_reducible (first | refine wL fun _ => ?_ | refine wD fun _ => ?_ | refine wE ?_ | refine adrZ.go ?_) | simp [go_sem, hel, hte]))
          refine ACallP.ownsN (hO p.to [(8, N, 0)] (by simp)) (by simp [go_sem]) (by simp [go_sem]) ?_ (by simp [go_sem]) ?_
          · ((try simp only [encProg, encStep, encAct, encAs, encPath, encPt, encOut, encState, encPos, encOs, encSs, encPs, encIs, encGame, List.map_cons, List.map_nil, List.nil_append, List.append_nil, List.cons_append]); (repeat (first | (with_reducible exact LeRow.nil) | (with_reducible exact LeRows.nil) | (with_reducible exact LeV.refl _) | (with_reducible exact LeRow.refl _ _ _ _) | (with_reducible exact LeRows.refl _) | (with_reducible refine LeRow.cons ?_ ?_) | (with_reducible refine LeRows.cons ?_ ?_) | (with_reducible refine LeV.agg ?_) | (with_reducible refine LeV.tup ?_) | (with_reducible refine LeV.fn ?_ ?_) | (with_reducible exact LeV.nil _) | (with_reducible refine leRows_append (LeRows.refl _) ?_) | ((refine leV_frz rfl (by simp) (by simp [frzO, frz1, upd, noH]) ?_); (first | (simp [go_sem]; done) | (simp [go_sem]; exact List.take_of_length_le (by simp)))) | ((refine LeV.frz rfl (by simp) (by simp [frzO, frz1, upd, noH]) ?_); (simp only [List.drop_zero, List.take_succ_cons, List.take_zero, List.map_cons, List.map_nil])) | ((refine LeV.frzP rfl (by simp) (by simp) (by simp [frzO, frz1, upd, noH]) ?_); (simp only [nth_zero, List.drop_zero])))))
          · (repeat (first | with_reducible (first | refine wL fun _ => ?_ | refine wD fun _ => ?_ | refine wE ?_ | refine adrZ.go ?_) | simp [go_sem, hel, hte, onP]))
            ((try simp only [encProg, encStep, encAct, encAs, encPath, encPt, encOut, encState, encPos, encOs, encSs, encPs, encIs, encGame, List.map_cons, List.map_nil, List.nil_append, List.append_nil, List.cons_append]); (repeat (first | (with_reducible exact LeRow.nil) | (with_reducible exact LeRows.nil) | (with_reducible exact LeV.refl _) | (with_reducible exact LeRow.refl _ _ _ _) | (with_reducible exact LeRows.refl _) | (with_reducible refine LeRow.cons ?_ ?_) | (with_reducible refine LeRows.cons ?_ ?_) | (with_reducible refine LeV.agg ?_) | (with_reducible refine LeV.tup ?_) | (with_reducible refine LeV.fn ?_ ?_) | (with_reducible exact LeV.nil _) | (with_reducible refine leRows_append (LeRows.refl _) ?_) | ((refine leV_frz rfl (by simp) (by simp [frzO, frz1, upd, noH]) ?_); (first | (simp [go_sem]; done) | (simp [go_sem]; exact List.take_of_length_le (by simp)))) | ((refine LeV.frz rfl (by simp) (by simp [frzO, frz1, upd, noH]) ?_); (simp only [List.drop_zero, List.take_succ_cons, List.take_zero, List.map_cons, List.map_nil])) | ((refine LeV.frzP rfl (by simp) (by simp) (by simp [frzO, frz1, upd, noH]) ?_); (simp only [nth_zero, List.drop_zero])))))
        · (repeat (first | with_reducible (first | refine wL fun _ => ?_ | refine wD fun _ => ?_ | refine wE ?_ | refine adrZ.go ?_) | simp [go_sem, hel, hte]))
          refine aIf.mkL (fun h99 => ?_) (fun h99 => ?_) <;> simp at h99
          · subst h99
            rw [if_pos (by omega)] at hE
            rw [hE]
            (repeat (first | with_reducible (first | refine wL fun _ => ?_ | refine wD fun _ => ?_ | refine wE ?_ | refine adrZ.go ?_) | simp [go_sem, hel, hte]))
            refine ACallP.ownsN (hO p.to [(9, N, 0)] (by simp)) (by simp [go_sem]) (by simp [go_sem]) ?_ (by simp [go_sem]) ?_
            · ((try simp only [encProg, encStep, encAct, encAs, encPath, encPt, encOut, encState, encPos, encOs, encSs, encPs, encIs, encGame, List.map_cons, List.map_nil, List.nil_append, List.append_nil, List.cons_append]); (repeat (first | (with_reducible exact LeRow.nil) | (with_reducible exact LeRows.nil) | (with_reducible exact LeV.refl _) | (with_reducible exact LeRow.refl _ _ _ _) | (with_reducible exact LeRows.refl _) | (with_reducible refine LeRow.cons ?_ ?_) | (with_reducible refine LeRows.cons ?_ ?_) | (with_reducible refine LeV.agg ?_) | (with_reducible refine LeV.tup ?_) | (with_reducible refine LeV.fn ?_ ?_) | (with_reducible exact LeV.nil _) | (with_reducible refine leRows_append (LeRows.refl _) ?_) | ((refine leV_frz rfl (by simp) (by simp [frzO, frz1, upd, noH]) ?_); (first | (simp [go_sem]; done) | (simp [go_sem]; exact List.take_of_length_le (by simp)))) | ((refine LeV.frz rfl (by simp) (by simp [frzO, frz1, upd, noH]) ?_); (simp only [List.drop_zero, List.take_succ_cons, List.take_zero, List.map_cons, List.map_nil])) | ((refine LeV.frzP rfl (by simp) (by simp) (by simp [frzO, frz1, upd, noH]) ?_); (simp only [nth_zero, List.drop_zero])))))
            · (repeat (first | with_reducible (first | refine wL fun _ => ?_ | refine wD fun _ => ?_ | refine wE ?_ | refine adrZ.go ?_) | simp [go_sem, hel, hte, onP]))
              ((try simp only [encProg, encStep, encAct, encAs, encPath, encPt, encOut, encState, encPos, encOs, encSs, encPs, encIs, encGame, List.map_cons, List.map_nil, List.nil_append, List.append_nil, List.cons_append]); (repeat (first | (with_reducible exact LeRow.nil) | (with_reducible exact LeRows.nil) | (with_reducible exact LeV.refl _) | (with_reducible exact LeRow.refl _ _ _ _) | (with_reducible exact LeRows.refl _) | (with_reducible refine LeRow.cons ?_ ?_) | (with_reducible refine LeRows.cons ?_ ?_) | (with_reducible refine LeV.agg ?_) | (with_reducible refine LeV.tup ?_) | (with_reducible refine LeV.fn ?_ ?_) | (with_reducible exact LeV.nil _) | (with_reducible refine leRows_append (LeRows.refl _) ?_) | ((refine leV_frz rfl (by simp) (by simp [frzO, frz1, upd, noH]) ?_); (first | (simp [go_sem]; done) | (simp [go_sem]; exact List.take_of_length_le (by simp)))) | ((refine LeV.frz rfl (by simp) (by simp [frzO, frz1, upd, noH]) ?_); (simp only [List.drop_zero, List.take_succ_cons, List.take_zero, List.map_cons, List.map_nil])) | ((refine LeV.frzP rfl (by simp) (by simp) (by simp [frzO, frz1, upd, noH]) ?_); (simp only [nth_zero, List.drop_zero])))))
          · (repeat (first | with_reducible (first | refine wL fun _ => ?_ | refine wD fun _ => ?_ | refine wE ?_ | refine adrZ.go ?_) | simp [go_sem, hel, hte]))
            refine aIf.mkL (fun h10 => ?_) (fun h10 => ?_) <;> simp at h10
            · subst h10
              rw [if_pos (by omega)] at hE
              rw [hE]
              (repeat (first | with_reducible (first | refine wL fun _ => ?_ | refine wD fun _ => ?_ | refine wE ?_ | refine adrZ.go ?_) | simp [go_sem, hel, hte]))
              refine ACallP.ownsN (hO p.to [(10, N, 0)] (by simp)) (by simp [go_sem]) (by simp [go_sem]) ?_ (by simp [go_sem]) ?_
              · ((try simp only [encProg, encStep, encAct, encAs, encPath, encPt, encOut, encState, encPos, encOs, encSs, encPs, encIs, encGame, List.map_cons, List.map_nil, List.nil_append, List.append_nil, List.cons_append]); (repeat (first | (with_reducible exact LeRow.nil) | (with_reducible exact LeRows.nil) | (with_reducible exact LeV.refl _) | (with_reducible exact LeRow.refl _ _ _ _) | (with_reducible exact LeRows.refl _) | (with_reducible refine LeRow.cons ?_ ?_) | (with_reducible refine LeRows.cons ?_ ?_) | (with_reducible refine LeV.agg ?_) | (with_reducible refine LeV.tup ?_) | (with_reducible refine LeV.fn ?_ ?_) | (with_reducible exact LeV.nil _) | (with_reducible refine leRows_append (LeRows.refl _) ?_) | ((refine leV_frz rfl (by simp) (by simp [frzO, frz1, upd, noH]) ?_); (first | (simp [go_sem]; done) | (simp [go_sem]; exact List.take_of_length_le (by simp)))) | ((refine LeV.frz rfl (by simp) (by simp [frzO, frz1, upd, noH]) ?_); (simp only [List.drop_zero, List.take_succ_cons, List.take_zero, List.map_cons, List.map_nil])) | ((refine LeV.frzP rfl (by simp) (by simp) (by simp [frzO, frz1, upd, noH]) ?_); (simp only [nth_zero, List.drop_zero])))))
              · (repeat (first | with_reducible (first | refine wL fun _ => ?_ | refine wD fun _ => ?_ | refine wE ?_ | refine adrZ.go ?_) | simp [go_sem, hel, hte, onP]))
                ((try simp only [encProg, encStep, encAct, encAs, encPath, encPt, encOut, encState, encPos, encOs, encSs, encPs, encIs, encGame, List.map_cons, List.map_nil, List.nil_append, List.append_nil, List.cons_append]); (repeat (first | (with_reducible exact LeRow.nil) | (with_reducible exact LeRows.nil) | (with_reducible exact LeV.refl _) | (with_reducible exact LeRow.refl _ _ _ _) | (with_reducible exact LeRows.refl _) | (with_reducible refine LeRow.cons ?_ ?_) | (with_reducible refine LeRows.cons ?_ ?_) | (with_reducible refine LeV.agg ?_) | (with_reducible refine LeV.tup ?_) | (with_reducible refine LeV.fn ?_ ?_) | (with_reducible exact LeV.nil _) | (with_reducible refine leRows_append (LeRows.refl _) ?_) | ((refine leV_frz rfl (by simp) (by simp [frzO, frz1, upd, noH]) ?_); (first | (simp [go_sem]; done) | (simp [go_sem]; exact List.take_of_length_le (by simp)))) | ((refine LeV.frz rfl (by simp) (by simp [frzO, frz1, upd, noH]) ?_); (simp only [List.drop_zero, List.take_succ_cons, List.take_zero, List.map_cons, List.map_nil])) | ((refine LeV.frzP rfl (by simp) (by simp) (by simp [frzO, frz1, upd, noH]) ?_); (simp only [nth_zero, List.drop_zero])))))
            · rw [if_neg (by omega)] at hE
              rw [hE]
              (repeat (first | with_reducible (first | refine wL fun _ => ?_ | refine wD fun _ => ?_ | refine wE ?_ | refine adrZ.go ?_) | simp [go_sem, hel, hte]))
              refine ACallP.ownsN (hO p.to [(op, p.to, 0)] (by simp)) (by simp [go_sem]) (by simp [go_sem]) ?_ (by simp [go_sem]) ?_
              · ((try simp only [encProg, encStep, encAct, encAs, encPath, encPt, encOut, encState, encPos, encOs, encSs, encPs, encIs, encGame, List.map_cons, List.map_nil, List.nil_append, List.append_nil, List.cons_append]); (repeat (first | (with_reducible exact LeRow.nil) | (with_reducible exact LeRows.nil) | (with_reducible exact LeV.refl _) | (with_reducible exact LeRow.refl _ _ _ _) | (with_reducible exact LeRows.refl _) | (with_reducible refine LeRow.cons ?_ ?_) | (with_reducible refine LeRows.cons ?_ ?_) | (with_reducible refine LeV.agg ?_) | (with_reducible refine LeV.tup ?_) | (with_reducible refine LeV.fn ?_ ?_) | (with_reducible exact LeV.nil _) | (with_reducible refine leRows_append (LeRows.refl _) ?_) | ((refine leV_frz rfl (by simp) (by simp [frzO, frz1, upd, noH]) ?_); (first | (simp [go_sem]; done) | (simp [go_sem]; exact List.take_of_length_le (by simp)))) | ((refine LeV.frz rfl (by simp) (by simp [frzO, frz1, upd, noH]) ?_); (simp only [List.drop_zero, List.take_succ_cons, List.take_zero, List.map_cons, List.map_nil])) | ((refine LeV.frzP rfl (by simp) (by simp) (by simp [frzO, frz1, upd, noH]) ?_); (simp only [nth_zero, List.drop_zero])))))
              · (repeat (first | with_reducible (first | refine wL fun _ => ?_ | refine wD fun _ => ?_ | refine wE ?_ | refine adrZ.go ?_) | simp [go_sem, hel, hte, onP]))
                ((try simp only [encProg, encStep, encAct, encAs, encPath, encPt, encOut, encState, encPos, encOs, encSs, encPs, encIs, encGame, List.map_cons, List.map_nil, List.nil_append, List.append_nil, List.cons_append]); (repeat (first | (with_reducible exact LeRow.nil) | (with_reducible exact LeRows.nil) | (with_reducible exact LeV.refl _) | (with_reducible exact LeRow.refl _ _ _ _) | (with_reducible exact LeRows.refl _) | (with_reducible refine LeRow.cons ?_ ?_) | (with_reducible refine LeRows.cons ?_ ?_) | (with_reducible refine LeV.agg ?_) | (with_reducible refine LeV.tup ?_) | (with_reducible refine LeV.fn ?_ ?_) | (with_reducible exact LeV.nil _) | (with_reducible refine leRows_append (LeRows.refl _) ?_) | ((refine leV_frz rfl (by simp) (by simp [frzO, frz1, upd, noH]) ?_); (first | (simp [go_sem]; done) | (simp [go_sem]; exact List.take_of_length_le (by simp)))) | ((refine LeV.frz rfl (by simp) (by simp [frzO, frz1, upd, noH]) ?_); (simp only [List.drop_zero, List.take_succ_cons, List.take_zero, List.map_cons, List.map_nil])) | ((refine LeV.frzP rfl (by simp) (by simp) (by simp [frzO, frz1, upd, noH]) ?_); (simp only [nth_zero, List.drop_zero])))))
end Go.Av
end
section
set_option linter.unusedSimpArgs false
set_option linter.unusedVariables false
open Go Go.Proofs
set_option maxRecDepth 20000
set_option maxHeartbeats 4000000
namespace Go.Av
def flatK {α β : Type} (F : α → List β) (l : List α) (i : Nat) : List β := (l.take i).flatMap F
theorem flatK_succ {α β : Type} [Inhabited α] (F : α → List β) (l : List α) {i : Nat} (h : i < l.length) : flatK F l (i + 1) = flatK F l i ++ F (nth l i) := by
  unfold flatK
  rw [List.take_add_one, List.getElem?_eq_getElem h, nth_eq _ _ h, Option.toList_some, List.flatMap_append]
  simp
theorem flatK_zero {α β : Type} (F : α → List β) (l : List α) : flatK F l 0 = [] := by simp [flatK]
theorem flatK_all {α β : Type} (F : α → List β) (l : List α) : flatK F l l.length = l.flatMap F := by simp [flatK]
theorem flatK_le {α β : Type} (F : α → List β) (l : List α) (i : Nat) : (flatK F l i).length ≤ (l.flatMap F).length := by
  unfold flatK
  conv => rhs; rw [← List.take_append_drop i l]
  rw [List.flatMap_append, List.length_append]
  omega
theorem flatQ_pure (l : List (List (Int × Int))) (hl : l.length ≤ 1048576) (f : FuncId) (caps : List AV) (F : List (Int × Int) → List PathD) (hF : ∀ x ∈ l, Pure Tryz.prog f (encProg x :: caps) (encPt (F x))) (hb : ∀ c ∈ caps, Bel 0 c)
    (hn : (l.flatMap F).length ≤ 8589934592) : Pure Tryz.prog 22 [.lst 1 (l.map fun p => [encProg p]), .fn (.func f) [] caps] (encPt (l.flatMap F)) := by
  refine Pure.of (ACallP.of_awp (by kernel_rfl) Tryz.func22 rfl rfl (Nat.le_of_ble_eq_true rfl) (by kernel_rfl) ?_)
  rw [← flatK_all F l] at hn ⊢
  (repeat (first | with_reducible (first | refine wL fun _ => ?_ | refine wD fun _ => ?_ | refine wE ?_ | refine adrZ.go ?_) | simp [go_sem]))
  refine ALoop.start (ALoop.ind (α := Nat) (fun i => ⟨[(1, .fn (.func f) [] caps), (5, .sl 0 i 2 0 (flatK F l i).length), (8, .lst 1 (l.map fun p => [encProg p])), (9, .v (.int .i64 l.length)), (10, .v (.int .i64 i))], [(0, .rows true i 2 ((flatK F l i).map encPath))], 1⟩)
    (fun d i => i + d = l.length) ?_ l.length 0 ?_) ?_ ?_
  · rintro d i i1 hrec
    have hni := flatK_le F l i
    (repeat (first | with_reducible (first | refine wL fun _ => ?_ | refine wD fun _ => ?_ | refine wE ?_ | refine adrZ.go ?_) | simp [go_sem]))
    refine aIf.mkL (fun hi => ?_) (fun hi => ?_) <;> simp at hi
    · have hs := flatK_succ F l hi
      have hns := flatK_le F l (i + 1)
      rw [hs, List.length_append] at hns
      rw [flatK_all] at hn
      (repeat (first | with_reducible (first | refine wL fun _ => ?_ | refine wD fun _ => ?_ | refine wE ?_ | refine adrZ.go ?_) | simp [go_sem, hi]))
      refine ACallP.plain (hF _ (nth_mem hi)) (by simp [go_sem]; exact hb) ?_
      (repeat (first | with_reducible (first | refine wL fun _ => ?_ | refine wD fun _ => ?_ | refine wE ?_ | refine adrZ.go ?_) | simp [go_sem, hi]))
      refine ALoop.start (hrec (d - 1) (by omega) (i + 1) (by omega)) ?_ (by simp)
      simp [go_sem, Wk_eq, hs]
      exact fun c hc => (hb c hc).mono (Nat.zero_le _)
    · have hil : i = l.length := by omega
      subst hil
      generalize flatK F l l.length = R at *
      (repeat (first | with_reducible (first | refine wL fun _ => ?_ | refine wD fun _ => ?_ | refine wE ?_ | refine adrZ.go ?_) | simp [go_sem]))
      ((try simp only [encProg, encStep, encAct, encAs, encPath, encPt, encOut, encState, encPos, encOs, encSs, encPs, encIs, encGame, List.map_cons, List.map_nil, List.nil_append, List.append_nil, List.cons_append]); (repeat (first | (with_reducible exact LeRow.nil) | (with_reducible exact LeRows.nil) | (with_reducible exact LeV.refl _) | (with_reducible exact LeRow.refl _ _ _ _) | (with_reducible exact LeRows.refl _) | (with_reducible refine LeRow.cons ?_ ?_) | (with_reducible refine LeRows.cons ?_ ?_) | (with_reducible refine LeV.agg ?_) | (with_reducible refine LeV.tup ?_) | (with_reducible refine LeV.fn ?_ ?_) | (with_reducible exact LeV.nil _) | (with_reducible refine leRows_append (LeRows.refl _) ?_) | ((refine leV_frz rfl (by simp) (by simp [frzO, frz1, upd, noH]) ?_); (first | (simp [go_sem]; done) | (simp [go_sem]; exact List.take_of_length_le (by simp)))) | ((refine LeV.frz rfl (by simp) (by simp [frzO, frz1, upd, noH]) ?_); (simp only [List.drop_zero, List.take_succ_cons, List.take_zero, List.map_cons, List.map_nil])) | ((refine LeV.frzP rfl (by simp) (by simp) (by simp [frzO, frz1, upd, noH]) ?_); (simp only [nth_zero, List.drop_zero])))))
  · simp
  · simp [go_sem, Wk_eq, flatK_zero]
    exact fun c hc => (hb c hc).mono (Nat.zero_le _)
  · simp
theorem flatP_pure (l : List PathD) (hl : l.length ≤ 1073741824) (f : FuncId) (caps : List AV) (F : PathD → List PathD) (hF : ∀ x ∈ l, Pure Tryz.prog f (.agg (encPath x) :: caps) (encPt (F x))) (hb : ∀ c ∈ caps, Bel 0 c)
    (hn : (l.flatMap F).length ≤ 8589934592) : Pure Tryz.prog 41 [encPt l, .fn (.func f) [] caps] (encPt (l.flatMap F)) := by
  refine Pure.of (ACallP.of_awp (by kernel_rfl) Tryz.func41 rfl rfl (Nat.le_of_ble_eq_true rfl) (by kernel_rfl) ?_)
  rw [← flatK_all F l] at hn ⊢
  (repeat (first | with_reducible (first | refine wL fun _ => ?_ | refine wD fun _ => ?_ | refine wE ?_ | refine adrZ.go ?_) | simp [go_sem]))
  refine ALoop.start (ALoop.ind (α := Nat) (fun i => ⟨[(1, .fn (.func f) [] caps), (5, .sl 0 i 2 0 (flatK F l i).length), (8, encPt l), (9, .v (.int .i64 l.length)), (10, .v (.int .i64 i))], [(0, .rows true i 2 ((flatK F l i).map encPath))], 1⟩)
    (fun d i => i + d = l.length) ?_ l.length 0 ?_) ?_ ?_
  · rintro d i i1 hrec
    have hni := flatK_le F l i
    (repeat (first | with_reducible (first | refine wL fun _ => ?_ | refine wD fun _ => ?_ | refine wE ?_ | refine adrZ.go ?_) | simp [go_sem]))
    refine aIf.mkL (fun hi => ?_) (fun hi => ?_) <;> simp at hi
    · have hs := flatK_succ F l hi
      have hns := flatK_le F l (i + 1)
      rw [hs, List.length_append] at hns
      rw [flatK_all] at hn
      (repeat (first | with_reducible (first | refine wL fun _ => ?_ | refine wD fun _ => ?_ | refine wE ?_ | refine adrZ.go ?_) | simp [go_sem, hi]))
      refine ACallP.plain (hF _ (nth_mem hi)) (by simp [go_sem]; exact hb) ?_
      (repeat (first | with_reducible (first | refine wL fun _ => ?_ | refine wD fun _ => ?_ | refine wE ?_ | refine adrZ.go ?_) | simp [go_sem, hi]))
      refine ALoop.start (hrec (d - 1) (by omega) (i + 1) (by omega)) ?_ (by simp)
      simp [go_sem, Wk_eq, hs]
      exact fun c hc => (hb c hc).mono (Nat.zero_le _)
    · have hil : i = l.length := by omega
      subst hil
      generalize flatK F l l.length = R at *
      (repeat (first | with_reducible (first | refine wL fun _ => ?_ | refine wD fun _ => ?_ | refine wE ?_ | refine adrZ.go ?_) | simp [go_sem]))
      ((try simp only [encProg, encStep, encAct, encAs, encPath, encPt, encOut, encState, encPos, encOs, encSs, encPs, encIs, encGame, List.map_cons, List.map_nil, List.nil_append, List.append_nil, List.cons_append]); (repeat (first | (with_reducible exact LeRow.nil) | (with_reducible exact LeRows.nil) | (with_reducible exact LeV.refl _) | (with_reducible exact LeRow.refl _ _ _ _) | (with_reducible exact LeRows.refl _) | (with_reducible refine LeRow.cons ?_ ?_) | (with_reducible refine LeRows.cons ?_ ?_) | (with_reducible refine LeV.agg ?_) | (with_reducible refine LeV.tup ?_) | (with_reducible refine LeV.fn ?_ ?_) | (with_reducible exact LeV.nil _) | (with_reducible refine leRows_append (LeRows.refl _) ?_) | ((refine leV_frz rfl (by simp) (by simp [frzO, frz1, upd, noH]) ?_); (first | (simp [go_sem]; done) | (simp [go_sem]; exact List.take_of_length_le (by simp)))) | ((refine LeV.frz rfl (by simp) (by simp [frzO, frz1, upd, noH]) ?_); (simp only [List.drop_zero, List.take_succ_cons, List.take_zero, List.map_cons, List.map_nil])) | ((refine LeV.frzP rfl (by simp) (by simp) (by simp [frzO, frz1, upd, noH]) ?_); (simp only [nth_zero, List.drop_zero])))))
  · simp
  · simp [go_sem, Wk_eq, flatK_zero]
    exact fun c hc => (hb c hc).mono (Nat.zero_le _)
  · simp
theorem paths1_pure (b : BoardD) (hb : BoardOk b) (h9 : b.cells ≤ 9) (side : Int) (p : PathD) (hp : p.acts.length ≤ 1000000) (x : Int × Int) :
    Pure Tryz.prog 42 [.agg (encPath p), .fp (encB b), .fp [.v (.int .i64 side)], .fp [.v (.int .i64 x.1), .v (.int .i64 x.2)]] (encPt (extP b side p x)) := by
  refine Pure.of (ACallP.of_awp (by kernel_rfl) Tryz.func42 rfl rfl (Nat.le_of_ble_eq_true rfl) (by kernel_rfl) ?_)
  have hE := extend_pure b hb h9 side p hp x
  generalize extP b side p x = R at *
  (repeat (first | with_reducible (first | refine wL fun _ => ?_ | refine wD fun _ => ?_ | refine wE ?_ | refine adrZ.go ?_) | simp [go_sem]))
  refine ACallP.plain hE (by simp [go_sem]) ?_
  (repeat (first | with_reducible (first | refine wL fun _ => ?_ | refine wD fun _ => ?_ | refine wE ?_ | refine adrZ.go ?_) | simp [go_sem]))
def pathsK (b : BoardD) (side : Int) (prog : List (Int × Int)) (cell : Int) (i : Nat) : List PathD := pathsP b side (prog.take i) cell
theorem pathsK_succ (b : BoardD) (side : Int) (prog : List (Int × Int)) (cell : Int) {i : Nat} (h : i < prog.length) : pathsK b side prog cell (i + 1) = (pathsK b side prog cell i).flatMap fun w => extP b side w (nth prog i) := by
  unfold pathsK pathsP
  rw [List.take_add_one, List.getElem?_eq_getElem h, nth_eq _ _ h, Option.toList_some, List.foldl_append]
  rfl
theorem pathsK_acts {b : BoardD} (hb : BoardOk b) (h9 : b.cells ≤ 9) (side : Int) (prog : List (Int × Int)) (cell : Int) : ∀ i, i ≤ prog.length → ActsLe (10 * i) (pathsK b side prog cell i)
  | 0, _ => by
    intro w hw
    simp [pathsK, pathsP] at hw
    subst hw
    simp
  | i + 1, h => by
    rw [pathsK_succ b side prog cell (by omega)]
    exact stepP_acts hb h9 side (pathsK_acts hb h9 side prog cell i (by omega)) _
theorem pathsK_len {b : BoardD} (hb : BoardOk b) (h1 : 1 ≤ b.cells) (h9 : b.cells ≤ 9) (side : Int) (prog : List (Int × Int)) (hp : prog.length ≤ 8) (cell : Int) (i : Nat) : (pathsK b side prog cell i).length ≤ 43046721 := by
  have h := pathsP_len hb h1 side (prog.take i) cell
  have hc : countOp (prog.take i) 2 ≤ 8 := by
    unfold countOp
    have := List.countP_le_length (p := fun x : Int × Int => x.1 == 2) (l := prog.take i)
    simp at this
    omega
  have h2 : b.cells.toNat ^ countOp (prog.take i) 2 ≤ 9 ^ countOp (prog.take i) 2 := Nat.pow_le_pow_left (by omega) _
  have h3 : 9 ^ countOp (prog.take i) 2 ≤ 9 ^ 8 := Nat.pow_le_pow_right (by omega) hc
  unfold pathsK
  omega
theorem paths_pure (b : BoardD) (hb : BoardOk b) (h1 : 1 ≤ b.cells) (h9 : b.cells ≤ 9) (side : Int) (prog : List (Int × Int)) (hp : prog.length ≤ 8) (cell : Int) :
    Pure Tryz.prog 24 [.agg (encB b), .v (.int .i64 side), encProg prog, .v (.int .i64 cell)] (encPt (pathsP b side prog cell)) := by
  refine Pure.of (ACallP.of_awp (by kernel_rfl) Tryz.func24 rfl rfl (Nat.le_of_ble_eq_true rfl) (by kernel_rfl) ?_)
  have hR : pathsP b side prog cell = pathsK b side prog cell prog.length := by unfold pathsK; rw [List.take_length]
  have hl := pathsK_len hb h1 h9 side prog hp cell
  have ha := pathsK_acts hb h9 side prog cell
  have hs := fun (i : Nat) (h : i < prog.length) => pathsK_succ b side prog cell h
  have h0 : pathsK b side prog cell 0 = [⟨[], cell⟩] := rfl
  rw [hR]
  have hP := fun w hw x => paths1_pure b hb h9 side w hw x
  generalize pathsK b side prog cell = K at *
  generalize hXb : extP b side = E at *
  have hbl : ∀ n, (∀ c' ∈ encB b, Bel n c') = True := fun n => by simp [go_sem]
  have hel : (encB b).length = 3 := rfl
  have hte : (encB b).take 3 = encB b := rfl
  obtain ⟨eb, heb⟩ : ∃ eb, eb = encB b := ⟨_, rfl⟩
  rw [← heb] at hbl hel hte ⊢
  have hP' : ∀ w : PathD, w.acts.length ≤ 1000000 → ∀ x : Int × Int, Pure Tryz.prog 42 [.agg (encPath w), .fp eb, .fp [.v (.int .i64 side)], .fp [.v (.int .i64 x.1), .v (.int .i64 x.2)]] (encPt (E w x)) := fun w hw x => by rw [heb]; exact hP w hw x
  clear hP
  (repeat (first | with_reducible (first | refine wL fun _ => ?_ | refine wD fun _ => ?_ | refine wE ?_ | refine adrZ.go ?_) | simp [go_sem, hel, hte]))
  refine ALoop.start (ALoop.ind (α := Nat) (fun i => ⟨[(4, .ref 0 0 3 0 0), (5, .ref 1 0 1 0 0), (9, encPt (K i)), (15, encProg prog), (16, .v (.int .i64 prog.length)), (17, .v (.int .i64 i))], [(0, .rows false 0 3 [eb]), (1, .rows false 0 1 [[.v (.int .i64 side)]])], 2⟩)
    (fun d i => i + d = prog.length) ?_ prog.length 0 ?_) ?_ ?_
  · rintro d i i1 hrec
    have hli := hl i
    (repeat (first | with_reducible (first | refine wL fun _ => ?_ | refine wD fun _ => ?_ | refine wE ?_ | refine adrZ.go ?_) | simp [go_sem, hel, hte]))
    refine aIf.mkL (fun hi => ?_) (fun hi => ?_) <;> simp at hi
    · have hsi := hs i hi
      have hls := hl (i + 1)
      have hai := ha i (by omega)
      (repeat (first | with_reducible (first | refine wL fun _ => ?_ | refine wD fun _ => ?_ | refine wE ?_ | refine adrZ.go ?_) | simp [go_sem, hel, hte, hi]))
      refine ACallP.pureF [2] (flatP_pure (K i) (by omega) 42 [.fp eb, .fp [.v (.int .i64 side)], .fp [.v (.int .i64 (nth prog i).1), .v (.int .i64 (nth prog i).2)]] (fun w => E w (nth prog i)) (fun w hw => hP' w (by have := hai w hw; omega) _) (by simp [go_sem, hbl]) (by rw [← hsi]; omega)) ?_ (by simp [go_sem, hbl]) ?_
      · ((try simp only [encProg, encStep, encAct, encAs, encPath, encPt, encOut, encState, encPos, encOs, encSs, encPs, encIs, encGame, List.map_cons, List.map_nil, List.nil_append, List.append_nil, List.cons_append]); (repeat (first | (with_reducible exact LeRow.nil) | (with_reducible exact LeRows.nil) | (with_reducible exact LeV.refl _) | (with_reducible exact LeRow.refl _ _ _ _) | (with_reducible exact LeRows.refl _) | (with_reducible refine LeRow.cons ?_ ?_) | (with_reducible refine LeRows.cons ?_ ?_) | (with_reducible refine LeV.agg ?_) | (with_reducible refine LeV.tup ?_) | (with_reducible refine LeV.fn ?_ ?_) | (with_reducible exact LeV.nil _) | (with_reducible refine leRows_append (LeRows.refl _) ?_) | ((refine leV_frz rfl (by simp) (by simp [frzO, frz1, upd, noH]) ?_); (first | (simp [go_sem]; done) | (simp [go_sem]; exact List.take_of_length_le (by simp)))) | ((refine LeV.frz rfl (by simp) (by simp [frzO, frz1, upd, noH]) ?_); (simp only [List.drop_zero, List.take_succ_cons, List.take_zero, List.map_cons, List.map_nil])) | ((refine LeV.frzP rfl (by simp) (by simp) (by simp [frzO, frz1, upd, noH]) ?_); (simp only [nth_zero, List.drop_zero])))))
      · rw [← hsi]
        (repeat (first | with_reducible (first | refine wL fun _ => ?_ | refine wD fun _ => ?_ | refine wE ?_ | refine adrZ.go ?_) | simp [go_sem, hel, hte]))
        refine ALoop.start (hrec (d - 1) (by omega) (i + 1) (by omega)) ?_ (by simp)
        simp [go_sem, Wk_eq, hbl]
    · have hil : i = prog.length := by omega
      subst hil
      generalize K prog.length = R at *
      (repeat (first | with_reducible (first | refine wL fun _ => ?_ | refine wD fun _ => ?_ | refine wE ?_ | refine adrZ.go ?_) | simp [go_sem]))
  · simp
  · simp [go_sem, Wk_eq, h0, hbl]
    ((try simp only [encProg, encStep, encAct, encAs, encPath, encPt, encOut, encState, encPos, encOs, encSs, encPs, encIs, encGame, List.map_cons, List.map_nil, List.nil_append, List.append_nil, List.cons_append]); (repeat (first | (with_reducible exact LeRow.nil) | (with_reducible exact LeRows.nil) | (with_reducible exact LeV.refl _) | (with_reducible exact LeRow.refl _ _ _ _) | (with_reducible exact LeRows.refl _) | (with_reducible refine LeRow.cons ?_ ?_) | (with_reducible refine LeRows.cons ?_ ?_) | (with_reducible refine LeV.agg ?_) | (with_reducible refine LeV.tup ?_) | (with_reducible refine LeV.fn ?_ ?_) | (with_reducible exact LeV.nil _) | (with_reducible refine leRows_append (LeRows.refl _) ?_) | ((refine leV_frz rfl (by simp) (by simp [frzO, frz1, upd, noH]) ?_); (first | (simp [go_sem]; done) | (simp [go_sem]; exact List.take_of_length_le (by simp)))) | ((refine LeV.frz rfl (by simp) (by simp [frzO, frz1, upd, noH]) ?_); (simp only [List.drop_zero, List.take_succ_cons, List.take_zero, List.map_cons, List.map_nil])) | ((refine LeV.frzP rfl (by simp) (by simp) (by simp [frzO, frz1, upd, noH]) ?_); (simp only [nth_zero, List.drop_zero])))))
  · simp
end Go.Av
end
