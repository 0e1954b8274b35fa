/- Contracts, moves: men, Condition, Ended of the reference. -/
import Derived.Test.YtbcnlnpgkonjpaaGreatM7
import Derived.Test.YtbcnlnpgkonjpaaGreatM4
section
set_option linter.unusedSimpArgs false
set_option linter.unusedVariables false
open Go Go.Proofs
set_option maxRecDepth 20000
set_option maxHeartbeats 4000000
namespace Go.Av
theorem countP_take (f : Int → Bool) (l : List Int) {i : Nat} (h : i < l.length) : (l.take (i + 1)).countP f = (l.take i).countP f + (if f (nth l i) then 1 else 0) := by
  rw [List.take_add_one, List.getElem?_eq_getElem h, nth_eq _ _ h, Option.toList_some, List.countP_append]
  simp [List.countP_cons]
theorem R6men_pure (p : PosD) (hp : FitsP p) (side kind : Int) : Pure Tryz.prog 102 [.agg (encPos p), .v (.int .i64 side), .v (.int .i64 kind)] (.v (.int .i64 (menP p side kind))) := by
  refine Pure.of (ACallP.of_awp (by kernel_rfl) Tryz.func102 rfl rfl (Nat.le_of_ble_eq_true rfl) (by kernel_rfl) ?_)
  obtain ⟨f1, _, _⟩ := hp
  unfold Fits at f1
  (repeat (first | ((with_reducible refine VC.mkL ?_ fun _ => ?_); · first | omega | exact True.intro | rfl) | ((with_reducible refine VC.mkD ?_ fun _ => ?_); · first | omega | exact True.intro | (intros; omega)) | ((with_reducible refine dEnd.mk ?_ ?_); · kernel_rfl) | (with_reducible refine adrZ.go ?_) | (simp [go_sem])))
  refine ALoop.start (ALoop.ind (α := Nat) (fun i => ⟨[(1, .v (.int .i64 side)), (2, .v (.int .i64 kind)), (3, .ref 0 0 5 0 0), (7, .v (.int .i64 ((p.at_.take i).countP (isMan p side kind) : Nat))), (8, .v (.int .i64 i))], [(0, .rows true 0 5 [encPos p])], 1⟩)
    (fun d i => i + d = p.at_.length) ?_ p.at_.length 0 ?_) ?_ ?_
  · rintro d i i1 hrec
    (repeat (first | ((with_reducible refine VC.mkL ?_ fun _ => ?_); · first | omega | exact True.intro | rfl) | ((with_reducible refine VC.mkD ?_ fun _ => ?_); · first | omega | exact True.intro | (intros; omega)) | ((with_reducible refine dEnd.mk ?_ ?_); · kernel_rfl) | (with_reducible refine adrZ.go ?_) | (simp [go_sem])))
    refine aIf.mkL (fun hi => ?_) (fun hi => ?_) <;> simp at hi
    · have hO := R3Of_pure (nth p.at_ i)
      have hcs := countP_take (isMan p side kind) p.at_ hi
      have hle : (p.at_.take i).countP (isMan p side kind) ≤ i := Nat.le_trans List.countP_le_length (by simp; omega)
      have hM : isMan p side kind (nth p.at_ i) = (decide (0 ≤ (manOf (nth p.at_ i)).1) && decide ((manOf (nth p.at_ i)).2 = side) && (decide (kind < 0) || decide ((manOf (nth p.at_ i)).1 = kind))) := rfl
      generalize manOf (nth p.at_ i) = m at *
      (repeat (first | ((with_reducible refine VC.mkL ?_ fun _ => ?_); · first | omega | exact True.intro | rfl) | ((with_reducible refine VC.mkD ?_ fun _ => ?_); · first | omega | exact True.intro | (intros; omega)) | ((with_reducible refine dEnd.mk ?_ ?_); · kernel_rfl) | (with_reducible refine adrZ.go ?_) | (simp [go_sem, hi])))
      refine ACallP.plain hO (by simp [go_sem]) ?_
      (repeat (first | ((with_reducible refine VC.mkL ?_ fun _ => ?_); · first | omega | exact True.intro | rfl) | ((with_reducible refine VC.mkD ?_ fun _ => ?_); · first | omega | exact True.intro | (intros; omega)) | ((with_reducible refine dEnd.mk ?_ ?_); · kernel_rfl) | (with_reducible refine adrZ.go ?_) | (simp [go_sem])))
      by_cases hm : isMan p side kind (nth p.at_ i) = true
      · have hm' := hm
        rw [hM] at hm'
        rw [if_pos hm] at hcs
        simp only [hm']
        (repeat (first | ((with_reducible refine VC.mkL ?_ fun _ => ?_); · first | omega | exact True.intro | rfl) | ((with_reducible refine VC.mkD ?_ fun _ => ?_); · first | omega | exact True.intro | (intros; omega)) | ((with_reducible refine dEnd.mk ?_ ?_); · kernel_rfl) | (with_reducible refine adrZ.go ?_) | (simp [go_sem])))
        refine ALoop.start (hrec (d - 1) (by omega) (i + 1) (by omega)) ?_ (by simp)
        simp [go_sem, Wk_eq, hcs]
      · have hm' := hm
        rw [hM] at hm'
        rw [if_neg hm] at hcs
        simp only [Bool.not_eq_true] at hm'
        simp only [hm']
        (repeat (first | ((with_reducible refine VC.mkL ?_ fun _ => ?_); · first | omega | exact True.intro | rfl) | ((with_reducible refine VC.mkD ?_ fun _ => ?_); · first | omega | exact True.intro | (intros; omega)) | ((with_reducible refine dEnd.mk ?_ ?_); · kernel_rfl) | (with_reducible refine adrZ.go ?_) | (simp [go_sem])))
        refine ALoop.start (hrec (d - 1) (by omega) (i + 1) (by omega)) ?_ (by simp)
        simp [go_sem, Wk_eq, hcs]
    · have hil : i = p.at_.length := by omega
      subst hil
      have hM : menP p side kind = (p.at_.take p.at_.length).countP (isMan p side kind) := by rw [List.take_length]; rfl
      rw [hM]
      (repeat (first | ((with_reducible refine VC.mkL ?_ fun _ => ?_); · first | omega | exact True.intro | rfl) | ((with_reducible refine VC.mkD ?_ fun _ => ?_); · first | omega | exact True.intro | (intros; omega)) | ((with_reducible refine dEnd.mk ?_ ?_); · kernel_rfl) | (with_reducible refine adrZ.go ?_) | (simp [go_sem])))
  · omega
  · simp [go_sem, Wk_eq]
  · simp
theorem R6Condition_pure (g : GameD) (hg : GOk g) (p : PosD) (hp : POk g p) (c : Int × Int × Int × Int) (hc : ClauseOk g.cells g.kinds.length c) :
    Pure Tryz.prog 84 [.agg (encClause c), .agg (encPos p)] (.v (.bool (condP c p))) := by
  refine Pure.of (ACallP.of_awp (by kernel_rfl) Tryz.func84 rfl rfl (Nat.le_of_ble_eq_true rfl) (by kernel_rfl) ?_)
  have hps := hp.s
  have hal := hp.al
  have hM := fun s k => R6men_pure p (hp.fits hg) s k
  have hml : ∀ s k, menP p s k ≤ 9 := fun s k => Nat.le_trans List.countP_le_length (by have := hg.c9; omega)
  obtain ⟨c0, c1, c2, c3⟩ := c
  obtain ⟨k1, k2, k3, k4, k5⟩ := hc
  simp only at k1 k2 k3 k4 k5
  unfold condP
  rcases k1 with rfl | rfl | rfl
  · have h1 := hM p.side c1
    (repeat (first | ((with_reducible refine VC.mkL ?_ fun _ => ?_); · first | omega | exact True.intro | rfl) | ((with_reducible refine VC.mkD ?_ fun _ => ?_); · first | omega | exact True.intro | (intros; omega)) | ((with_reducible refine dEnd.mk ?_ ?_); · kernel_rfl) | (with_reducible refine adrZ.go ?_) | (simp [go_sem])))
    refine ACallP.plain h1 (by simp [go_sem]) ?_
    (repeat (first | ((with_reducible refine VC.mkL ?_ fun _ => ?_); · first | omega | exact True.intro | rfl) | ((with_reducible refine VC.mkD ?_ fun _ => ?_); · first | omega | exact True.intro | (intros; omega)) | ((with_reducible refine dEnd.mk ?_ ?_); · kernel_rfl) | (with_reducible refine adrZ.go ?_) | (simp [go_sem])))
  · have hci : c2.toNat < p.at_.length := by omega
    (repeat (first | ((with_reducible refine VC.mkL ?_ fun _ => ?_); · first | omega | exact True.intro | rfl) | ((with_reducible refine VC.mkD ?_ fun _ => ?_); · first | omega | exact True.intro | (intros; omega)) | ((with_reducible refine dEnd.mk ?_ ?_); · kernel_rfl) | (with_reducible refine adrZ.go ?_) | (simp [go_sem, hci])))
    try ((with_reducible refine adrZ.go ?_); (try simp [go_sem]))
    refine dCall.plain (R3Code_pure c1 (1 - p.side)) (by simp [go_sem]) ?_
    (repeat (first | ((with_reducible refine VC.mkL ?_ fun _ => ?_); · first | omega | exact True.intro | rfl) | ((with_reducible refine VC.mkD ?_ fun _ => ?_); · first | omega | exact True.intro | (intros; omega)) | ((with_reducible refine dEnd.mk ?_ ?_); · kernel_rfl) | (with_reducible refine adrZ.go ?_) | (simp [go_sem, hci])))
  · have h1 := hM p.side (-1)
    have := hml p.side (-1)
    (repeat (first | ((with_reducible refine VC.mkL ?_ fun _ => ?_); · first | omega | exact True.intro | rfl) | ((with_reducible refine VC.mkD ?_ fun _ => ?_); · first | omega | exact True.intro | (intros; omega)) | ((with_reducible refine dEnd.mk ?_ ?_); · kernel_rfl) | (with_reducible refine adrZ.go ?_) | (simp [go_sem])))
    try ((with_reducible refine adrZ.go ?_); (try simp [go_sem]))
    refine dCall.plain h1 (by simp [go_sem]) ?_
    (repeat (first | ((with_reducible refine VC.mkL ?_ fun _ => ?_); · first | omega | exact True.intro | rfl) | ((with_reducible refine VC.mkD ?_ fun _ => ?_); · first | omega | exact True.intro | (intros; omega)) | ((with_reducible refine dEnd.mk ?_ ?_); · kernel_rfl) | (with_reducible refine adrZ.go ?_) | (simp [go_sem])))
theorem findIdx_some {α : Type} [Inhabited α] (f : α → Bool) (l : List α) {i : Nat} (hi : i < l.length) (hb : ∀ j, j < i → f (nth l j) = false) (h : f (nth l i) = true) : l.findIdx? f = some i := by
  rw [List.findIdx?_eq_some_iff_getElem]
  refine ⟨hi, by rw [← nth_eq _ _ hi]; exact h, fun j hj => ?_⟩
  have := hb j hj
  rw [nth_eq _ _ (by omega)] at this
  simp [this]
theorem findIdx_none {α : Type} [Inhabited α] (f : α → Bool) (l : List α) (hb : ∀ j, j < l.length → f (nth l j) = false) : l.findIdx? f = none := by
  rw [List.findIdx?_eq_none_iff]
  intro x hx
  obtain ⟨j, hj, rfl⟩ := List.getElem_of_mem hx
  have := hb j hj
  rwa [nth_eq _ _ hj] at this
theorem R6Ended_pure (g : GameD) (hg : GOk g) (p : PosD) (hp : POk g p) : Pure Tryz.prog 60 [.agg (encGame g), .agg (encPos p)] (.v (.int .i64 (endedP g p))) := by
  refine Pure.of (ACallP.of_awp (by kernel_rfl) Tryz.func60 rfl rfl (Nat.le_of_ble_eq_true rfl) (by kernel_rfl) ?_)
  have hcn := hg.cn
  (repeat (first | ((with_reducible refine VC.mkL ?_ fun _ => ?_); · first | omega | exact True.intro | rfl) | ((with_reducible refine VC.mkD ?_ fun _ => ?_); · first | omega | exact True.intro | (intros; omega)) | ((with_reducible refine dEnd.mk ?_ ?_); · kernel_rfl) | (with_reducible refine adrZ.go ?_) | (simp [go_sem])))
  refine ALoop.start (ALoop.ind (α := Nat) (fun i => ⟨[(2, .ref 0 0 9 0 0), (3, .ref 1 0 5 0 0), (5, .v (.int .i64 i))], [(0, .rows true 0 9 [encGame g]), (1, .rows true 0 5 [encPos p])], 2⟩)
    (fun d i => i + d = g.clauses.length ∧ ∀ j, j < i → condP (nth g.clauses j) p = false) ?_ g.clauses.length 0 ?_) ?_ ?_
  · rintro d i ⟨i1, i2⟩ hrec
    (repeat (first | ((with_reducible refine VC.mkL ?_ fun _ => ?_); · first | omega | exact True.intro | rfl) | ((with_reducible refine VC.mkD ?_ fun _ => ?_); · first | omega | exact True.intro | (intros; omega)) | ((with_reducible refine dEnd.mk ?_ ?_); · kernel_rfl) | (with_reducible refine adrZ.go ?_) | (simp [go_sem])))
    refine aIf.mkL (fun hi => ?_) (fun hi => ?_) <;> simp at hi
    · have hC := R6Condition_pure g hg p hp _ (hg.cl _ (nth_mem hi))
      (repeat (first | ((with_reducible refine VC.mkL ?_ fun _ => ?_); · first | omega | exact True.intro | rfl) | ((with_reducible refine VC.mkD ?_ fun _ => ?_); · first | omega | exact True.intro | (intros; omega)) | ((with_reducible refine dEnd.mk ?_ ?_); · kernel_rfl) | (with_reducible refine adrZ.go ?_) | (simp [go_sem, hi])))
      try ((with_reducible refine adrZ.go ?_); (try simp [go_sem]))
      refine dCall.plain hC (by simp [go_sem]) ?_
      (repeat (first | ((with_reducible refine VC.mkL ?_ fun _ => ?_); · first | omega | exact True.intro | rfl) | ((with_reducible refine VC.mkD ?_ fun _ => ?_); · first | omega | exact True.intro | (intros; omega)) | ((with_reducible refine dEnd.mk ?_ ?_); · kernel_rfl) | (with_reducible refine adrZ.go ?_) | (simp [go_sem])))
      by_cases hc : condP (nth g.clauses i) p = true
      · have he : endedP g p = i := by unfold endedP; rw [findIdx_some (fun c => condP c p) g.clauses hi i2 hc]
        (repeat (first | ((with_reducible refine VC.mkL ?_ fun _ => ?_); · first | omega | exact True.intro | rfl) | ((with_reducible refine VC.mkD ?_ fun _ => ?_); · first | omega | exact True.intro | (intros; omega)) | ((with_reducible refine dEnd.mk ?_ ?_); · kernel_rfl) | (with_reducible refine adrZ.go ?_) | (simp [go_sem, hc, he])))
      · (repeat (first | ((with_reducible refine VC.mkL ?_ fun _ => ?_); · first | omega | exact True.intro | rfl) | ((with_reducible refine VC.mkD ?_ fun _ => ?_); · first | omega | exact True.intro | (intros; omega)) | ((with_reducible refine dEnd.mk ?_ ?_); · kernel_rfl) | (with_reducible refine adrZ.go ?_) | (simp [go_sem, hc])))
        refine ALoop.start (hrec (d - 1) (by omega) (i + 1) ⟨by omega, fun j hj => ?_⟩) ?_ (by simp)
        · rcases Nat.lt_or_ge j i with h | h
          · exact i2 j h
          · obtain rfl : j = i := by omega
            simpa using hc
        · simp [go_sem, Wk_eq]
    · have he : endedP g p = -1 := by unfold endedP; rw [findIdx_none (fun c => condP c p) g.clauses (fun j hj => i2 j (by omega))]
      (repeat (first | ((with_reducible refine VC.mkL ?_ fun _ => ?_); · first | omega | exact True.intro | rfl) | ((with_reducible refine VC.mkD ?_ fun _ => ?_); · first | omega | exact True.intro | (intros; omega)) | ((with_reducible refine dEnd.mk ?_ ?_); · kernel_rfl) | (with_reducible refine adrZ.go ?_) | (simp [go_sem, he])))
  · exact ⟨by simp, fun j hj => by omega⟩
  · simp [go_sem, Wk_eq]
  · simp
end Go.Av
end
section
set_option linter.unusedSimpArgs false
set_option linter.unusedVariables false
open Go Go.Proofs
set_option maxRecDepth 20000
set_option maxHeartbeats 4000000
namespace Go.Av
def outsK (g : GameD) (p : PosD) (c : Nat) : List OutD := (List.range c).flatMap (outsAt g p)
theorem outsK_succ (g : GameD) (p : PosD) (c : Nat) : outsK g p (c + 1) = outsK g p c ++ outsAt g p c := by simp [outsK, List.range_succ, List.flatMap_append]
theorem outsK_zero (g : GameD) (p : PosD) : outsK g p 0 = [] := rfl
def outsI (g : GameD) (p : PosD) (c i : Nat) : List OutD := outsK g p c ++ (List.range i).flatMap fun (i : Nat) => runsP g p c i
theorem outsI_zero (g : GameD) (p : PosD) (c : Nat) : outsI g p c 0 = outsK g p c := by simp [outsI]
theorem outsI_succ (g : GameD) (p : PosD) (c i : Nat) : outsI g p c (i + 1) = outsI g p c i ++ runsP g p c i := by simp [outsI, List.range_succ, List.flatMap_append]
theorem R6Outcomes_pure (g : GameD) (hg : GOk g) (p : PosD) (hp : POk g p) : Pure Tryz.prog 61 [.agg (encGame g), .agg (encPos p)] (encOs (outsP g p)) := by
  refine Pure.of (ACallP.of_awp (by kernel_rfl) Tryz.func61 rfl rfl (Nat.le_of_ble_eq_true rfl) (by kernel_rfl) ?_)
  have hal := hp.al
  have c9 := hg.c9
  have k6 := hg.k6
  have hU : ∀ c i, c < p.at_.length → 0 ≤ (manOf (nth p.at_ c)).1 ∧ (manOf (nth p.at_ c)).2 = p.side → i ≤ (nth g.kinds (manOf (nth p.at_ c)).1.toNat).progs.length → (outsI g p c i).length ≤ 8000000000 := fun c i hc hm hi => by
    have h1 : (outsK g p c).length ≤ 7200000000 := outsK_len hg hp (by omega)
    have hk := kind_lt hg hp (cell := c) (by omega) (by omega) (by simpa using hm.1)
    simp only [Int.toNat_natCast] at hk
    have h8 := hg.pn _ (nth_mem hk)
    have h2 := flatMap_range_le (fun (i : Nat) => runsP g p c i) 100000000 i (fun j hj => runsP_len hg hp (choice_of hp hc hm (by omega)))
    have h3 : i * 100000000 ≤ 8 * 100000000 := Nat.mul_le_mul_right _ (by omega)
    simp only [outsI, List.length_append]
    omega
  (repeat (first | ((with_reducible refine VC.mkL ?_ fun _ => ?_); · first | omega | exact True.intro | rfl) | ((with_reducible refine VC.mkD ?_ fun _ => ?_); · first | omega | exact True.intro | (intros; omega)) | ((with_reducible refine dEnd.mk ?_ ?_); · kernel_rfl) | (with_reducible refine adrZ.go ?_) | (simp [go_sem])))
  refine ALoop.start (ALoop.ind (α := Nat × Nat) (fun a => ⟨[(2, .ref 0 0 9 0 0), (3, .ref 1 0 5 0 0), (5, .sl 2 a.2 6 0 (outsK g p a.1).length), (6, .v (.int .i64 a.1))], [(0, .rows true 0 9 [encGame g]), (1, .rows true 0 5 [encPos p]), (2, .rows true a.2 6 ((outsK g p a.1).map encOut))], 3⟩)
    (fun d a => a.1 + d = p.at_.length) ?_ p.at_.length (0, 0) ?_) ?_ ?_
  · rintro d ⟨c, G⟩ c1 hrec
    simp only at c1
    (repeat (first | ((with_reducible refine VC.mkL ?_ fun _ => ?_); · first | omega | exact True.intro | rfl) | ((with_reducible refine VC.mkD ?_ fun _ => ?_); · first | omega | exact True.intro | (intros; omega)) | ((with_reducible refine dEnd.mk ?_ ?_); · kernel_rfl) | (with_reducible refine adrZ.go ?_) | (simp [go_sem])))
    refine aIf.mkL (fun hc => ?_) (fun hc => ?_) <;> simp at hc
    · have hO := R3Of_pure (nth p.at_ c)
      have hsu := outsK_succ g p c
      have hat := hp.at (i := c) (by omega)
      have hman := manOf_cases hat.1 hat.2 hg.k6
      have hAt : outsAt g p c = if 0 ≤ (manOf (nth p.at_ c)).1 ∧ (manOf (nth p.at_ c)).2 = p.side then (List.range (nth g.kinds (manOf (nth p.at_ c)).1.toNat).progs.length).flatMap fun (i : Nat) => runsP g p c i else [] := rfl
      have hU' := fun i => hU c i hc
      have hCh := fun i => choice_of (g := g) (i := i) hp hc
      generalize manOf (nth p.at_ c) = m at *
      obtain ⟨mk, ms⟩ := m
      simp only [Prod.mk.injEq] at hman hAt hU' hCh
      (repeat (first | ((with_reducible refine VC.mkL ?_ fun _ => ?_); · first | omega | exact True.intro | rfl) | ((with_reducible refine VC.mkD ?_ fun _ => ?_); · first | omega | exact True.intro | (intros; omega)) | ((with_reducible refine dEnd.mk ?_ ?_); · kernel_rfl) | (with_reducible refine adrZ.go ?_) | (simp [go_sem, hc])))
      refine ACallP.plain hO (by simp [go_sem]) ?_
      (repeat (first | ((with_reducible refine VC.mkL ?_ fun _ => ?_); · first | omega | exact True.intro | rfl) | ((with_reducible refine VC.mkD ?_ fun _ => ?_); · first | omega | exact True.intro | (intros; omega)) | ((with_reducible refine dEnd.mk ?_ ?_); · kernel_rfl) | (with_reducible refine adrZ.go ?_) | (simp [go_sem])))
      refine aIf.mkL (fun hm => ?_) (fun hm => ?_) <;> simp at hm
      · rw [if_neg (by omega)] at hAt
        rw [hAt, List.append_nil] at hsu
        (repeat (first | ((with_reducible refine VC.mkL ?_ fun _ => ?_); · first | omega | exact True.intro | rfl) | ((with_reducible refine VC.mkD ?_ fun _ => ?_); · first | omega | exact True.intro | (intros; omega)) | ((with_reducible refine dEnd.mk ?_ ?_); · kernel_rfl) | (with_reducible refine adrZ.go ?_) | (simp [go_sem])))
        refine ALoop.start (hrec (d - 1) (by omega) (c + 1, G) (by simp only; omega)) ?_ (by simp)
        simp [go_sem, Wk_eq, hsu]
      · have hm' : 0 ≤ mk ∧ ms = p.side := by omega
        rw [if_pos hm'] at hAt
        have hkl : mk.toNat < g.kinds.length := by omega
        have hpn := hg.pn _ (nth_mem hkl)
        have hz := outsI_zero g p c
        (repeat (first | ((with_reducible refine VC.mkL ?_ fun _ => ?_); · first | omega | exact True.intro | rfl) | ((with_reducible refine VC.mkD ?_ fun _ => ?_); · first | omega | exact True.intro | (intros; omega)) | ((with_reducible refine dEnd.mk ?_ ?_); · kernel_rfl) | (with_reducible refine adrZ.go ?_) | (simp [go_sem])))
        refine ALoop.start (ALoop.ind (α := Nat × Nat) (fun a => ⟨[(2, .ref 0 0 9 0 0), (3, .ref 1 0 5 0 0), (5, .sl 2 a.2 6 0 (outsI g p c a.1).length), (6, .v (.int .i64 c)), (7, .ref 3 0 2 0 0), (8, .v (.int .i64 a.1))],
            [(0, .rows true 0 9 [encGame g]), (1, .rows true 0 5 [encPos p]), (2, .rows true a.2 6 ((outsI g p c a.1).map encOut)), (3, .rows true 0 2 [[.v (.int .i64 mk), .v (.int .i64 ms)]])], 4⟩)
          (fun d a => a.1 + d = (nth g.kinds mk.toNat).progs.length) ?_ (nth g.kinds mk.toNat).progs.length (0, G) ?_) ?_ ?_
        · rintro d2 ⟨i, G'⟩ i1 hrec2
          simp only at i1
          (repeat (first | ((with_reducible refine VC.mkL ?_ fun _ => ?_); · first | omega | exact True.intro | rfl) | ((with_reducible refine VC.mkD ?_ fun _ => ?_); · first | omega | exact True.intro | (intros; omega)) | ((with_reducible refine dEnd.mk ?_ ?_); · kernel_rfl) | (with_reducible refine adrZ.go ?_) | (simp [go_sem, hkl])))
          refine aIf.mkL (fun hi => ?_) (fun hi => ?_) <;> simp at hi
          · have hR := R5Runs_pure g hg p hp c i (hCh i hm' hi)
            have hsi := outsI_succ g p c i
            have hUi := hU' i hm' (by omega)
            have hUj := hU' (i + 1) hm' (by omega)
            rw [hsi, List.length_append] at hUj
            (repeat (first | ((with_reducible refine VC.mkL ?_ fun _ => ?_); · first | omega | exact True.intro | rfl) | ((with_reducible refine VC.mkD ?_ fun _ => ?_); · first | omega | exact True.intro | (intros; omega)) | ((with_reducible refine dEnd.mk ?_ ?_); · kernel_rfl) | (with_reducible refine adrZ.go ?_) | (simp [go_sem])))
            refine ACallP.plain hR (by simp [go_sem]) ?_
            (repeat (first | ((with_reducible refine VC.mkL ?_ fun _ => ?_); · first | omega | exact True.intro | rfl) | ((with_reducible refine VC.mkD ?_ fun _ => ?_); · first | omega | exact True.intro | (intros; omega)) | ((with_reducible refine dEnd.mk ?_ ?_); · kernel_rfl) | (with_reducible refine adrZ.go ?_) | (simp [go_sem])))
            refine ALoop.start (hrec2 (d2 - 1) (by omega) (i + 1, G' + 1) (by simp only; omega)) ?_ (by simp)
            simp [go_sem, Wk_eq, hsi]
          · have hil : i = (nth g.kinds mk.toNat).progs.length := by omega
            subst hil
            have hfin : outsI g p c (nth g.kinds mk.toNat).progs.length = outsK g p (c + 1) := by rw [hsu, hAt]; rfl
            rw [hfin]
            (repeat (first | ((with_reducible refine VC.mkL ?_ fun _ => ?_); · first | omega | exact True.intro | rfl) | ((with_reducible refine VC.mkD ?_ fun _ => ?_); · first | omega | exact True.intro | (intros; omega)) | ((with_reducible refine dEnd.mk ?_ ?_); · kernel_rfl) | (with_reducible refine adrZ.go ?_) | (simp [go_sem])))
            refine ALoop.start (hrec (d - 1) (by omega) (c + 1, G') (by simp only; omega)) ?_ (by simp)
            simp [go_sem, Wk_eq]
        · simp
        · simp [go_sem, Wk_eq, hz]
        · simp
    · have hcl : c = p.at_.length := by omega
      subst hcl
      have e : outsP g p = outsK g p p.at_.length := rfl
      rw [e]
      (repeat (first | ((with_reducible refine VC.mkL ?_ fun _ => ?_); · first | omega | exact True.intro | rfl) | ((with_reducible refine VC.mkD ?_ fun _ => ?_); · first | omega | exact True.intro | (intros; omega)) | ((with_reducible refine dEnd.mk ?_ ?_); · kernel_rfl) | (with_reducible refine adrZ.go ?_) | (simp [go_sem])))
      (refine leV_frz rfl (by simp) (by simp [noH, upd]) ?_; first | (simp [go_sem]; done) | (simp [go_sem]; exact List.take_of_length_le (by simp)))
  · simp
  · simp [go_sem, Wk_eq, outsK_zero]
  · simp
end Go.Av
end
section
set_option linter.unusedSimpArgs false
set_option linter.unusedVariables false
open Go Go.Proofs
set_option maxRecDepth 20000
set_option maxHeartbeats 4000000
namespace Go.Av
def mustK (gm : Bool) (l : List OutD) (i : Nat) : Bool := gm && (l.take i).any (·.took)
theorem mustK_zero (gm : Bool) (l : List OutD) : mustK gm l 0 = false := by simp [mustK]
theorem mustK_succ (gm : Bool) (l : List OutD) {i : Nat} (h : i < l.length) : mustK gm l (i + 1) = (mustK gm l i || (gm && (nth l i).took)) := by
  unfold mustK
  rw [List.take_add_one, List.getElem?_eq_getElem h, nth_eq _ _ h, Option.toList_some, List.any_append]
  simp only [List.any_cons, List.any_nil, Bool.or_false, Bool.and_or_distrib_left]
def keepK (must : Bool) (l : List OutD) (i : Nat) : List PosD := ((l.take i).filter fun o => !must || o.took).map (·.pos)
theorem keepK_zero (must : Bool) (l : List OutD) : keepK must l 0 = [] := by simp [keepK]
theorem keepK_succ (must : Bool) (l : List OutD) {i : Nat} (h : i < l.length) : keepK must l (i + 1) = keepK must l i ++ (if (!must || (nth l i).took) = true then [(nth l i).pos] else []) := by
  unfold keepK
  rw [List.take_add_one, List.getElem?_eq_getElem h, nth_eq _ _ h, Option.toList_some, List.filter_append, List.map_append]
  congr 1
  by_cases hc : (!must || l[i].took) = true <;> simp [hc]
theorem keepK_len (must : Bool) (l : List OutD) (i : Nat) : (keepK must l i).length ≤ i := by
  unfold keepK
  rw [List.length_map]
  refine Nat.le_trans (List.length_filter_le _ _) ?_
  simp; omega
theorem R6Moves_pure (g : GameD) (hg : GOk g) (p : PosD) (hp : POk g p) : Pure Tryz.prog 40 [.agg (encGame g), .agg (encPos p)] (encPs (movesP g p)) := by
  refine Pure.of (ACallP.of_awp (by kernel_rfl) Tryz.func40 rfl rfl (Nat.le_of_ble_eq_true rfl) (by kernel_rfl) ?_)
  have hE := R6Ended_pure g hg p hp
  have hO := R6Outcomes_pure g hg p hp
  have hD := R5Drops_pure g hg p hp
  have hdl := dropsP_len hg hp
  have hol := outsP_len hg hp
  have hS := R4Sort_pure (movesL g p) (by have := movesL_len hg hp; omega) (fun q hq => (movesL_ok hg hp q hq).1.fits hg)
  have hml : movesL g p = keepK (mustP g p) (outsP g p) (outsP g p).length ++ (if mustP g p then [] else dropsP g p) := by unfold movesL keepK; rw [List.take_length]
  have hmu : mustP g p = mustK g.must (outsP g p) (outsP g p).length := by unfold mustP mustK; rw [List.take_length]
  have hmv : movesP g p = if 0 ≤ endedP g p then [] else sortU cmpP (movesL g p) := rfl
  obtain ⟨R, hR⟩ : ∃ R, R = movesP g p := ⟨_, rfl⟩
  rw [← hR] at hmv ⊢
  generalize outsP g p = l at *
  generalize dropsP g p = ds at *
  generalize movesL g p = ml at *
  generalize endedP g p = en at *
  (repeat (first | ((with_reducible refine VC.mkL ?_ fun _ => ?_); · first | omega | exact True.intro | rfl) | ((with_reducible refine VC.mkD ?_ fun _ => ?_); · first | omega | exact True.intro | (intros; omega)) | ((with_reducible refine dEnd.mk ?_ ?_); · kernel_rfl) | (with_reducible refine adrZ.go ?_) | (simp [go_sem])))
  refine ACallP.plain hE (by simp [go_sem]) ?_
  (repeat (first | ((with_reducible refine VC.mkL ?_ fun _ => ?_); · first | omega | exact True.intro | rfl) | ((with_reducible refine VC.mkD ?_ fun _ => ?_); · first | omega | exact True.intro | (intros; omega)) | ((with_reducible refine dEnd.mk ?_ ?_); · kernel_rfl) | (with_reducible refine adrZ.go ?_) | (simp [go_sem])))
  refine aIf.mkL (fun he => ?_) (fun he => ?_) <;> simp at he
  · rw [if_pos he] at hmv
    rw [hmv]
    (repeat (first | ((with_reducible refine VC.mkL ?_ fun _ => ?_); · first | omega | exact True.intro | rfl) | ((with_reducible refine VC.mkD ?_ fun _ => ?_); · first | omega | exact True.intro | (intros; omega)) | ((with_reducible refine dEnd.mk ?_ ?_); · kernel_rfl) | (with_reducible refine adrZ.go ?_) | (simp [go_sem])))
  · rw [if_neg (by omega)] at hmv
    (repeat (first | ((with_reducible refine VC.mkL ?_ fun _ => ?_); · first | omega | exact True.intro | rfl) | ((with_reducible refine VC.mkD ?_ fun _ => ?_); · first | omega | exact True.intro | (intros; omega)) | ((with_reducible refine dEnd.mk ?_ ?_); · kernel_rfl) | (with_reducible refine adrZ.go ?_) | (simp [go_sem])))
    refine ACallP.plain hO (by simp [go_sem]) ?_
    (repeat (first | ((with_reducible refine VC.mkL ?_ fun _ => ?_); · first | omega | exact True.intro | rfl) | ((with_reducible refine VC.mkD ?_ fun _ => ?_); · first | omega | exact True.intro | (intros; omega)) | ((with_reducible refine dEnd.mk ?_ ?_); · kernel_rfl) | (with_reducible refine adrZ.go ?_) | (simp [go_sem])))
    refine ALoop.start (ALoop.ind (α := Nat) (fun i => ⟨[(2, .ref 0 0 9 0 0), (3, .ref 1 0 5 0 0), (5, encOs l), (6, .sl 2 0 5 0 0), (7, .v (.bool (mustK g.must l i))), (8, .v (.int .i64 i))], [(0, .rows true 0 9 [encGame g]), (1, .rows true 0 5 [encPos p]), (2, .rows true 0 5 [])], 3⟩)
      (fun d i => i + d = l.length) ?_ l.length 0 ?_) ?_ ?_
    · rintro d i i1 hrec
      (repeat (first | ((with_reducible refine VC.mkL ?_ fun _ => ?_); · first | omega | exact True.intro | rfl) | ((with_reducible refine VC.mkD ?_ fun _ => ?_); · first | omega | exact True.intro | (intros; omega)) | ((with_reducible refine dEnd.mk ?_ ?_); · kernel_rfl) | (with_reducible refine adrZ.go ?_) | (simp [go_sem])))
      refine aIf.mkL (fun hi => ?_) (fun hi => ?_) <;> simp at hi
      · have hms := mustK_succ g.must l hi
        cases hmk : mustK g.must l i
        · rw [hmk, Bool.false_or] at hms
          cases hgm : g.must
          · rw [hgm, Bool.false_and] at hms
            (repeat (first | ((with_reducible refine VC.mkL ?_ fun _ => ?_); · first | omega | exact True.intro | rfl) | ((with_reducible refine VC.mkD ?_ fun _ => ?_); · first | omega | exact True.intro | (intros; omega)) | ((with_reducible refine dEnd.mk ?_ ?_); · kernel_rfl) | (with_reducible refine adrZ.go ?_) | (simp [go_sem, hmk, hgm, hi])))
            refine ALoop.start (hrec (d - 1) (by omega) (i + 1) (by omega)) ?_ (by simp)
            simp [go_sem, Wk_eq, hms, hgm]
          · rw [hgm, Bool.true_and] at hms
            (repeat (first | ((with_reducible refine VC.mkL ?_ fun _ => ?_); · first | omega | exact True.intro | rfl) | ((with_reducible refine VC.mkD ?_ fun _ => ?_); · first | omega | exact True.intro | (intros; omega)) | ((with_reducible refine dEnd.mk ?_ ?_); · kernel_rfl) | (with_reducible refine adrZ.go ?_) | (simp [go_sem, hmk, hgm, hi])))
            refine ALoop.start (hrec (d - 1) (by omega) (i + 1) (by omega)) ?_ (by simp)
            simp [go_sem, Wk_eq, hms, hgm]
        · rw [hmk, Bool.true_or] at hms
          (repeat (first | ((with_reducible refine VC.mkL ?_ fun _ => ?_); · first | omega | exact True.intro | rfl) | ((with_reducible refine VC.mkD ?_ fun _ => ?_); · first | omega | exact True.intro | (intros; omega)) | ((with_reducible refine dEnd.mk ?_ ?_); · kernel_rfl) | (with_reducible refine adrZ.go ?_) | (simp [go_sem, hmk, hi])))
          refine ALoop.start (hrec (d - 1) (by omega) (i + 1) (by omega)) ?_ (by simp)
          simp [go_sem, Wk_eq, hms]
      · have hil : i = l.length := by omega
        subst hil
        rw [← hmu]
        generalize mustP g p = must at *
        (repeat (first | ((with_reducible refine VC.mkL ?_ fun _ => ?_); · first | omega | exact True.intro | rfl) | ((with_reducible refine VC.mkD ?_ fun _ => ?_); · first | omega | exact True.intro | (intros; omega)) | ((with_reducible refine dEnd.mk ?_ ?_); · kernel_rfl) | (with_reducible refine adrZ.go ?_) | (simp [go_sem])))
        refine ALoop.start (ALoop.ind (α := Nat) (fun i => ⟨[(2, .ref 0 0 9 0 0), (3, .ref 1 0 5 0 0), (5, encOs l), (6, .sl 2 (keepK must l i).length 5 0 (keepK must l i).length), (7, .v (.bool must)), (9, .v (.int .i64 i))], [(0, .rows true 0 9 [encGame g]), (1, .rows true 0 5 [encPos p]), (2, .rows true (keepK must l i).length 5 ((keepK must l i).map encPos))], 3⟩)
          (fun d i => i + d = l.length) ?_ l.length 0 ?_) ?_ ?_
        · rintro d i i1 hrec2
          (repeat (first | ((with_reducible refine VC.mkL ?_ fun _ => ?_); · first | omega | exact True.intro | rfl) | ((with_reducible refine VC.mkD ?_ fun _ => ?_); · first | omega | exact True.intro | (intros; omega)) | ((with_reducible refine dEnd.mk ?_ ?_); · kernel_rfl) | (with_reducible refine adrZ.go ?_) | (simp [go_sem])))
          refine aIf.mkL (fun hi => ?_) (fun hi => ?_) <;> simp at hi
          · have hks := keepK_succ must l hi
            have hkl := keepK_len must l i
            cases must
            · simp only [Bool.not_false, Bool.true_or, if_true] at hks
              (repeat (first | ((with_reducible refine VC.mkL ?_ fun _ => ?_); · first | omega | exact True.intro | rfl) | ((with_reducible refine VC.mkD ?_ fun _ => ?_); · first | omega | exact True.intro | (intros; omega)) | ((with_reducible refine dEnd.mk ?_ ?_); · kernel_rfl) | (with_reducible refine adrZ.go ?_) | (simp [go_sem, hi])))
              refine ALoop.start (hrec2 (d - 1) (by omega) (i + 1) (by omega)) ?_ (by simp)
              simp [go_sem, Wk_eq, hks]
            · cases ht : (nth l i).took
              · simp [ht] at hks
                (repeat (first | ((with_reducible refine VC.mkL ?_ fun _ => ?_); · first | omega | exact True.intro | rfl) | ((with_reducible refine VC.mkD ?_ fun _ => ?_); · first | omega | exact True.intro | (intros; omega)) | ((with_reducible refine dEnd.mk ?_ ?_); · kernel_rfl) | (with_reducible refine adrZ.go ?_) | (simp [go_sem, hi, ht])))
                refine ALoop.start (hrec2 (d - 1) (by omega) (i + 1) (by omega)) ?_ (by simp)
                simp [go_sem, Wk_eq, hks]
              · simp [ht] at hks
                (repeat (first | ((with_reducible refine VC.mkL ?_ fun _ => ?_); · first | omega | exact True.intro | rfl) | ((with_reducible refine VC.mkD ?_ fun _ => ?_); · first | omega | exact True.intro | (intros; omega)) | ((with_reducible refine dEnd.mk ?_ ?_); · kernel_rfl) | (with_reducible refine adrZ.go ?_) | (simp [go_sem, hi, ht])))
                refine ALoop.start (hrec2 (d - 1) (by omega) (i + 1) (by omega)) ?_ (by simp)
                simp [go_sem, Wk_eq, hks]
          · have hil : i = l.length := by omega
            subst hil
            have hkl := keepK_len must l l.length
            rw [hmv]
            generalize keepK must l l.length = kk at *
            cases must
            · simp only [Bool.false_eq_true, if_false] at hml
              (repeat (first | ((with_reducible refine VC.mkL ?_ fun _ => ?_); · first | omega | exact True.intro | rfl) | ((with_reducible refine VC.mkD ?_ fun _ => ?_); · first | omega | exact True.intro | (intros; omega)) | ((with_reducible refine dEnd.mk ?_ ?_); · kernel_rfl) | (with_reducible refine adrZ.go ?_) | (simp [go_sem])))
              refine ACallP.plain hD (by simp [go_sem]) ?_
              (repeat (first | ((with_reducible refine VC.mkL ?_ fun _ => ?_); · first | omega | exact True.intro | rfl) | ((with_reducible refine VC.mkD ?_ fun _ => ?_); · first | omega | exact True.intro | (intros; omega)) | ((with_reducible refine dEnd.mk ?_ ?_); · kernel_rfl) | (with_reducible refine adrZ.go ?_) | (simp [go_sem])))
              subst hml
              refine ACallP.pureF [2] hS ?_ (bel1 (bel_encPs _)) ?_
              · ((try simp only [encOut, encState, encPos, encOs, encSs, encPs, encIs, List.nil_append, List.append_nil, List.cons_append]); (repeat (first | (with_reducible exact LeRow.nil) | (with_reducible refine LeRow.cons ?_ ?_) | (with_reducible exact LeV.refl _) | (with_reducible refine LeV.agg ?_) | ((refine leV_frz rfl (by simp) (by simp [frzO, frz1, upd, noH]) ?_); (first | (simp [go_sem]; done) | (simp [go_sem]; exact List.take_of_length_le (by simp)))))))
              · (repeat (first | ((with_reducible refine VC.mkL ?_ fun _ => ?_); · first | omega | exact True.intro | rfl) | ((with_reducible refine VC.mkD ?_ fun _ => ?_); · first | omega | exact True.intro | (intros; omega)) | ((with_reducible refine dEnd.mk ?_ ?_); · kernel_rfl) | (with_reducible refine adrZ.go ?_) | (simp [go_sem])))
            · simp only [if_true, List.append_nil] at hml
              subst hml
              (repeat (first | ((with_reducible refine VC.mkL ?_ fun _ => ?_); · first | omega | exact True.intro | rfl) | ((with_reducible refine VC.mkD ?_ fun _ => ?_); · first | omega | exact True.intro | (intros; omega)) | ((with_reducible refine dEnd.mk ?_ ?_); · kernel_rfl) | (with_reducible refine adrZ.go ?_) | (simp [go_sem])))
              refine ACallP.pureF [2] hS ?_ (bel1 (bel_encPs _)) ?_
              · ((try simp only [encOut, encState, encPos, encOs, encSs, encPs, encIs, List.nil_append, List.append_nil, List.cons_append]); (repeat (first | (with_reducible exact LeRow.nil) | (with_reducible refine LeRow.cons ?_ ?_) | (with_reducible exact LeV.refl _) | (with_reducible refine LeV.agg ?_) | ((refine leV_frz rfl (by simp) (by simp [frzO, frz1, upd, noH]) ?_); (first | (simp [go_sem]; done) | (simp [go_sem]; exact List.take_of_length_le (by simp)))))))
              · (repeat (first | ((with_reducible refine VC.mkL ?_ fun _ => ?_); · first | omega | exact True.intro | rfl) | ((with_reducible refine VC.mkD ?_ fun _ => ?_); · first | omega | exact True.intro | (intros; omega)) | ((with_reducible refine dEnd.mk ?_ ?_); · kernel_rfl) | (with_reducible refine adrZ.go ?_) | (simp [go_sem])))
        · omega
        · simp [go_sem, Wk_eq, keepK_zero]
        · simp
    · omega
    · simp [go_sem, Wk_eq, mustK_zero]
    · simp
end Go.Av
end
section
set_option linter.unusedSimpArgs false
set_option linter.unusedVariables false
open Go Go.Proofs
set_option maxRecDepth 20000
set_option maxHeartbeats 4000000
namespace Go.Av
theorem R3Made_pure (x : RawG) (hx : RawOk x) (hl : x.c.length ≤ 1099511627776) (hl0 : x.k0.length ≤ 1099511627776) (hl1 : x.k1.length ≤ 1099511627776) : Pure Tryz.prog 19 [.agg (encRaw x)] (.agg (encGame (madeG x))) := by
  refine Pure.of (ACallP.of_awp (by kernel_rfl) Tryz.func19 rfl rfl (Nat.le_of_ble_eq_true rfl) (by kernel_rfl) ?_)
  obtain ⟨eg, heg⟩ : ∃ eg, eg = encGame (madeG x) := ⟨_, rfl⟩
  rw [← heg]
  have hB := R1Made_pure x.w x.h x.cut hx.w hx.h hx.cut
  have hok := boardOk_made hx.w.1 hx.h.1 x.cut
  have hb : madeB x.w x.h x.cut = x.board := rfl
  rw [hb] at hB hok
  have r0 := Int.tmod_nonneg 3 hx.f0.1
  have r1 := Int.tmod_lt_of_pos x.f0 (show (0 : Int) < 3 by decide)
  have f0 : 0 ≤ x.f0 ∧ x.f0 ≤ 255 := hx.f0
  have f1 : 0 ≤ x.f1 ∧ x.f1 ≤ 255 := hx.f1
  have f2 : 0 ≤ x.f2 ∧ x.f2 ≤ 255 := hx.f2
  have f3 : 0 ≤ x.f3 ∧ x.f3 ≤ 255 := hx.f3
  have f4 : 0 ≤ x.f4 ∧ x.f4 ≤ 255 := hx.f4
  have m1 := Int.tmod_nonneg 4 hx.f1.1
  have m3 := Int.tmod_nonneg 4 hx.f3.1
  have m4 := Int.tmod_nonneg 4 hx.f4.1
  have qq : ∀ n : Int, U8 n → (0 ≤ n.tdiv 4 ∧ n.tdiv 4 ≤ 63) ∧ 0 ≤ (n.tdiv 4).tmod 3 ∧ (n.tdiv 4).tmod 3 < 3 := fun n hn => by
    have h : n.tdiv 4 = n / 4 := Int.tdiv_eq_ediv_of_nonneg hn.1
    have h1 := hn.1
    have h2 := hn.2
    have h3 := Int.tmod_nonneg 3 (show 0 ≤ n.tdiv 4 by omega)
    have h4 := Int.tmod_lt_of_pos (n.tdiv 4) (show (0 : Int) < 3 by decide)
    omega
  obtain ⟨q3, q3'⟩ := qq _ hx.f3
  obtain ⟨q4, q4'⟩ := qq _ hx.f4
  obtain ⟨bl, hbl⟩ : ∃ bl, bl = if x.f3.tmod 4 = 3 then 1 + (x.f3.tdiv 4).tmod 3 else 3 := ⟨_, rfl⟩
  obtain ⟨en, hen⟩ : ∃ en, en = if x.f4.tmod 4 = 3 then 1 + (x.f4.tdiv 4).tmod 3 else 2 := ⟨_, rfl⟩
  obtain ⟨R, hR⟩ : ∃ R, R = x.rights := ⟨_, rfl⟩
  have hR' : x.f0.tmod 3 = R := by rw [hR]; rfl
  obtain ⟨b, hbb⟩ : ∃ b, b = x.board := ⟨_, rfl⟩
  rw [← hbb] at hB hok
  (repeat (first | ((with_reducible refine VC.mkL ?_ fun _ => ?_); · first | omega | exact True.intro | rfl) | ((with_reducible refine VC.mkD ?_ fun _ => ?_); · first | omega | exact True.intro | (intros; omega)) | ((with_reducible refine dEnd.mk ?_ ?_); · kernel_rfl) | (with_reducible refine adrZ.go ?_) | (simp [go_sem])))
  try ((with_reducible refine adrZ.go ?_); (try simp [go_sem]))
  refine dCall.plain hB (by simp [go_sem]) ?_
  (repeat (first | ((with_reducible refine VC.mkL ?_ fun _ => ?_); · first | omega | exact True.intro | rfl) | ((with_reducible refine VC.mkD ?_ fun _ => ?_); · first | omega | exact True.intro | (intros; omega)) | ((with_reducible refine dEnd.mk ?_ ?_); · kernel_rfl) | (with_reducible refine adrZ.go ?_) | (simp [go_sem, hR'])))
  have hd8 : b.next.length = 8 := by rw [hbb]; exact madeB_dirs _ _ _
  have hcell : 1 ≤ b.cells ∧ b.cells ≤ 9 := by rw [hbb]; exact madeB_cells hx.w.1 hx.h.1 _
  obtain ⟨K, hK⟩ : ∃ K : Nat, K = kindsN x := ⟨_, rfl⟩
  have hKn : kindsN x = if x.k1.length = 0 then 1 else 2 := by unfold kindsN; simp only [List.length_eq_zero_iff]
  have hKl : ∀ i, (x.ks i).length ≤ 1099511627776 := fun i => by unfold RawG.ks; split <;> assumption
  have hKv : ∀ i, ∀ n ∈ x.ks i, U8 n := fun i => by unfold RawG.ks; split; exact hx.k0; exact hx.k1
  refine aIf.mkL (fun hk1 => ?_) (fun hk1 => ?_) <;> simp at hk1
  · have hK2 : kindsN x = 2 := by rw [hKn, if_neg (by omega)]
    rw [hK2] at hK
    (repeat (first | ((with_reducible refine VC.mkL ?_ fun _ => ?_); · first | omega | exact True.intro | rfl) | ((with_reducible refine VC.mkD ?_ fun _ => ?_); · first | omega | exact True.intro | (intros; omega)) | ((with_reducible refine dEnd.mk ?_ ?_); · kernel_rfl) | (with_reducible refine adrZ.go ?_) | (simp [go_sem])))
    refine ALoop.start (ALoop.ind (α := Nat) (fun a => ⟨[(1, .ref 0 0 12 0 0), (2, .ref 1 0 9 0 0), (3, .ref 20 0 9 0 0), (4, .v (.int .i64 K)), (5, .v (.int .i64 a))],
      [(0, .rows true 0 12 [encRaw x]), (1, .rows true 0 9 [[.v (.int .i64 0), AV.nils, AV.nils, AV.nils, .v (.int .i64 0), .v (.bool false), AV.nils, .v (.int .i64 0), .v (.int .i64 0)]]), (20, .rows true 0 9 [[.v (.int .i64 b.cells), encIss b.next, encIs b.turn, .sl 22 a 3 0 a, .v (.int .i64 R), .v (.bool (decide (x.f1.tmod 4 = 3))), AV.nils, .v (.int .i64 3), .v (.int .i64 2)]]), (22, .rows true a 3 (ksR x a))], 23⟩)
      (fun d a => a + d = K) ?_ K 0 ?_) ?_ ?_
    · rintro d0 i i1 hrec
      (repeat (first | ((with_reducible refine VC.mkL ?_ fun _ => ?_); · first | omega | exact True.intro | rfl) | ((with_reducible refine VC.mkD ?_ fun _ => ?_); · first | omega | exact True.intro | (intros; omega)) | ((with_reducible refine dEnd.mk ?_ ?_); · kernel_rfl) | (with_reducible refine adrZ.go ?_) | (simp [go_sem])))
      refine aIf.mkL (fun hi => ?_) (fun hi => ?_) <;> simp at hi
      · have hi2 : i = 0 ∨ i = 1 := by omega
        have hkl := hKl i
        have hkv := hKv i
        have hks : kindOf x i = ⟨if i = 0 then nameA else nameB, ((x.ks i).take 4).map (fun n => madeP n b.next.length K x.rights), bitU x.f2 i⟩ := by rw [hbb, hK, ← hK2]; rfl
        rcases hi2 with rfl | rfl
        · obtain ⟨kk, hkk⟩ : ∃ kk, kk = x.ks 0 := ⟨_, rfl⟩
          have hk0 : x.k0 = kk := hkk.symm
          rw [← hkk] at hkl hkv hks
          have hbit : bitU x.f2 0 = decide (andN .u8 x.f2 1 = 1) := by simp [bitU]
          obtain ⟨f, hf⟩ : ∃ f, f = (fun n => madeP n b.next.length K x.rights) := ⟨_, rfl⟩
          have hfp : ∀ n, U8 n → Pure Tryz.prog 39 [.v (.int .u8 n), .v (.int .i64 b.next.length), .v (.int .i64 K), .v (.int .i64 R)] (encProg (f n)) := fun n hn => by
            rw [hf, ← hR]; exact R2Made_pure n _ _ _ hn (by omega) (by omega) (by omega)
          rw [← hf, hbit] at hks
          (repeat (first | ((with_reducible refine VC.mkL ?_ fun _ => ?_); · first | omega | exact True.intro | rfl) | ((with_reducible refine VC.mkD ?_ fun _ => ?_); · first | omega | exact True.intro | (intros; omega)) | ((with_reducible refine dEnd.mk ?_ ?_); · kernel_rfl) | (with_reducible refine adrZ.go ?_) | (simp [go_sem, hk0])))
          refine ALoop.start (ALoop.ind (α := Nat) (fun n => ⟨[(1, .ref 0 0 12 0 0), (2, .ref 1 0 9 0 0), (3, .ref 20 0 9 0 0), (4, .v (.int .i64 K)), (5, .v (.int .i64 0)), (6, .ref 35 0 3 0 0), (7, .v (.int .i64 n))],
            [(0, .rows true 0 12 [encRaw x]), (1, .rows true 0 9 [[.v (.int .i64 0), AV.nils, AV.nils, AV.nils, .v (.int .i64 0), .v (.bool false), AV.nils, .v (.int .i64 0), .v (.int .i64 0)]]), (20, .rows true 0 9 [[.v (.int .i64 b.cells), encIss b.next, encIs b.turn, .sl 22 0 3 0 0, .v (.int .i64 R), .v (.bool (decide (x.f1.tmod 4 = 3))), AV.nils, .v (.int .i64 3), .v (.int .i64 2)]]), (22, .rows true 0 3 (ksR x 0)), (35, .rows true 0 3 [[.v (.string ⟨#[97]⟩), .sl 37 n 1 0 n, .v (.bool (decide (andN .u8 x.f2 1 = 1)))]]), (37, .rows true n 1 (psR f kk n))], 38⟩)
            (fun d n => n + d = min kk.length 4) ?_ (min kk.length 4) 0 ?_) ?_ ?_
          · rintro d n n1 hrec1
            (repeat (first | ((with_reducible refine VC.mkL ?_ fun _ => ?_); · first | omega | exact True.intro | rfl) | ((with_reducible refine VC.mkD ?_ fun _ => ?_); · first | omega | exact True.intro | (intros; omega)) | ((with_reducible refine dEnd.mk ?_ ?_); · kernel_rfl) | (with_reducible refine adrZ.go ?_) | (simp [go_sem, hk0])))
            refine aIf.mkL (fun hn => ?_) (fun hn => ?_) <;> simp at hn
            · have hn1 : n < kk.length := by omega
              have hn2 := hkv _ (nth_mem hn1)
              have hpl := psR_len f kk (n := n) (by omega)
              (repeat (first | ((with_reducible refine VC.mkL ?_ fun _ => ?_); · first | omega | exact True.intro | rfl) | ((with_reducible refine VC.mkD ?_ fun _ => ?_); · first | omega | exact True.intro | (intros; omega)) | ((with_reducible refine dEnd.mk ?_ ?_); · kernel_rfl) | (with_reducible refine adrZ.go ?_) | (simp [go_sem, hk0, hn1])))
              try ((with_reducible refine adrZ.go ?_); (try simp [go_sem]))
              refine dCall.plain (hfp _ hn2) (by simp [go_sem]) ?_
              (repeat (first | ((with_reducible refine VC.mkL ?_ fun _ => ?_); · first | omega | exact True.intro | rfl) | ((with_reducible refine VC.mkD ?_ fun _ => ?_); · first | omega | exact True.intro | (intros; omega)) | ((with_reducible refine dEnd.mk ?_ ?_); · kernel_rfl) | (with_reducible refine adrZ.go ?_) | (simp [go_sem, hk0, hn1, hpl])))
              refine ALoop.start (hrec1 (d - 1) (by omega) (n + 1) (by omega)) ?_ (by simp)
              simp [go_sem, Wk_eq, hk0, psR_succ f kk hn1]
            · have hne : n = min kk.length 4 := by omega
              (repeat (first | ((with_reducible refine VC.mkL ?_ fun _ => ?_); · first | omega | exact True.intro | rfl) | ((with_reducible refine VC.mkD ?_ fun _ => ?_); · first | omega | exact True.intro | (intros; omega)) | ((with_reducible refine dEnd.mk ?_ ?_); · kernel_rfl) | (with_reducible refine adrZ.go ?_) | (simp [go_sem])))
              refine ALoop.start (hrec (d0 - 1) (by omega) (0 + 1) (by omega)) ?_ (by simp)
              have hkx : kRow (kindOf x 0) = [.v (.string ⟨#[97]⟩), .lst 1 (psR f kk n), .v (.bool (decide (andN .u8 x.f2 1 = 1)))] := by rw [hks, show psR f kk n = psR f kk (min kk.length 4) by rw [← hne]]; simp [kRow, encKind, psR, nameA, nameB, encProg]; omega
              have hpl := psR_len f kk (n := n) (by omega)
              simp [go_sem, Wk_eq, hk0, ksR_succ x 0, hkx]
              (try refine leRows_append (.refl _) (.cons (.cons (.refl _) (.cons ?_ (.cons (.refl _) .nil))) .nil))
              refine LeV.frz rfl ?_ ?_ (LeRows.of_eq ?_) <;> simp [mkH, upd, hpl, List.take_of_length_le]
          · omega
          · simp [go_sem, Wk_eq, hk0]
          · simp
        · obtain ⟨kk, hkk⟩ : ∃ kk, kk = x.ks 1 := ⟨_, rfl⟩
          have hk0 : x.k1 = kk := hkk.symm
          rw [← hkk] at hkl hkv hks
          have hbit : bitU x.f2 1 = decide (andN .u8 (x.f2.fdiv 2) 1 = 1) := by simp [bitU]
          obtain ⟨f, hf⟩ : ∃ f, f = (fun n => madeP n b.next.length K x.rights) := ⟨_, rfl⟩
          have hfp : ∀ n, U8 n → Pure Tryz.prog 39 [.v (.int .u8 n), .v (.int .i64 b.next.length), .v (.int .i64 K), .v (.int .i64 R)] (encProg (f n)) := fun n hn => by
            rw [hf, ← hR]; exact R2Made_pure n _ _ _ hn (by omega) (by omega) (by omega)
          rw [← hf, hbit] at hks
          (repeat (first | ((with_reducible refine VC.mkL ?_ fun _ => ?_); · first | omega | exact True.intro | rfl) | ((with_reducible refine VC.mkD ?_ fun _ => ?_); · first | omega | exact True.intro | (intros; omega)) | ((with_reducible refine dEnd.mk ?_ ?_); · kernel_rfl) | (with_reducible refine adrZ.go ?_) | (simp [go_sem, hk0])))
          refine ALoop.start (ALoop.ind (α := Nat) (fun n => ⟨[(1, .ref 0 0 12 0 0), (2, .ref 1 0 9 0 0), (3, .ref 20 0 9 0 0), (4, .v (.int .i64 K)), (5, .v (.int .i64 1)), (6, .ref 35 0 3 0 0), (7, .v (.int .i64 n))],
            [(0, .rows true 0 12 [encRaw x]), (1, .rows true 0 9 [[.v (.int .i64 0), AV.nils, AV.nils, AV.nils, .v (.int .i64 0), .v (.bool false), AV.nils, .v (.int .i64 0), .v (.int .i64 0)]]), (20, .rows true 0 9 [[.v (.int .i64 b.cells), encIss b.next, encIs b.turn, .sl 22 1 3 0 1, .v (.int .i64 R), .v (.bool (decide (x.f1.tmod 4 = 3))), AV.nils, .v (.int .i64 3), .v (.int .i64 2)]]), (22, .rows true 1 3 (ksR x 1)), (35, .rows true 0 3 [[.v (.string ⟨#[98, 101, 101]⟩), .sl 37 n 1 0 n, .v (.bool (decide (andN .u8 (x.f2.fdiv 2) 1 = 1)))]]), (37, .rows true n 1 (psR f kk n))], 38⟩)
            (fun d n => n + d = min kk.length 4) ?_ (min kk.length 4) 0 ?_) ?_ ?_
          · rintro d n n1 hrec1
            (repeat (first | ((with_reducible refine VC.mkL ?_ fun _ => ?_); · first | omega | exact True.intro | rfl) | ((with_reducible refine VC.mkD ?_ fun _ => ?_); · first | omega | exact True.intro | (intros; omega)) | ((with_reducible refine dEnd.mk ?_ ?_); · kernel_rfl) | (with_reducible refine adrZ.go ?_) | (simp [go_sem, hk0])))
            refine aIf.mkL (fun hn => ?_) (fun hn => ?_) <;> simp at hn
            · have hn1 : n < kk.length := by omega
              have hn2 := hkv _ (nth_mem hn1)
              have hpl := psR_len f kk (n := n) (by omega)
              (repeat (first | ((with_reducible refine VC.mkL ?_ fun _ => ?_); · first | omega | exact True.intro | rfl) | ((with_reducible refine VC.mkD ?_ fun _ => ?_); · first | omega | exact True.intro | (intros; omega)) | ((with_reducible refine dEnd.mk ?_ ?_); · kernel_rfl) | (with_reducible refine adrZ.go ?_) | (simp [go_sem, hk0, hn1])))
              try ((with_reducible refine adrZ.go ?_); (try simp [go_sem]))
              refine dCall.plain (hfp _ hn2) (by simp [go_sem]) ?_
              (repeat (first | ((with_reducible refine VC.mkL ?_ fun _ => ?_); · first | omega | exact True.intro | rfl) | ((with_reducible refine VC.mkD ?_ fun _ => ?_); · first | omega | exact True.intro | (intros; omega)) | ((with_reducible refine dEnd.mk ?_ ?_); · kernel_rfl) | (with_reducible refine adrZ.go ?_) | (simp [go_sem, hk0, hn1, hpl])))
              refine ALoop.start (hrec1 (d - 1) (by omega) (n + 1) (by omega)) ?_ (by simp)
              simp [go_sem, Wk_eq, hk0, psR_succ f kk hn1]
            · have hne : n = min kk.length 4 := by omega
              (repeat (first | ((with_reducible refine VC.mkL ?_ fun _ => ?_); · first | omega | exact True.intro | rfl) | ((with_reducible refine VC.mkD ?_ fun _ => ?_); · first | omega | exact True.intro | (intros; omega)) | ((with_reducible refine dEnd.mk ?_ ?_); · kernel_rfl) | (with_reducible refine adrZ.go ?_) | (simp [go_sem])))
              refine ALoop.start (hrec (d0 - 1) (by omega) (1 + 1) (by omega)) ?_ (by simp)
              have hkx : kRow (kindOf x 1) = [.v (.string ⟨#[98, 101, 101]⟩), .lst 1 (psR f kk n), .v (.bool (decide (andN .u8 (x.f2.fdiv 2) 1 = 1)))] := by rw [hks, show psR f kk n = psR f kk (min kk.length 4) by rw [← hne]]; simp [kRow, encKind, psR, nameA, nameB, encProg]; omega
              have hpl := psR_len f kk (n := n) (by omega)
              simp [go_sem, Wk_eq, hk0, ksR_succ x 1, hkx]
              (try refine leRows_append (.refl _) (.cons (.cons (.refl _) (.cons ?_ (.cons (.refl _) .nil))) .nil))
              refine LeV.frz rfl ?_ ?_ (LeRows.of_eq ?_) <;> simp [mkH, upd, hpl, List.take_of_length_le]
          · omega
          · simp [go_sem, Wk_eq, hk0]
          · simp
      · have hiK : i = K := by omega
        subst hiK
        (repeat (first | ((with_reducible refine VC.mkL ?_ fun _ => ?_); · first | omega | exact True.intro | rfl) | ((with_reducible refine VC.mkD ?_ fun _ => ?_); · first | omega | exact True.intro | (intros; omega)) | ((with_reducible refine dEnd.mk ?_ ?_); · kernel_rfl) | (with_reducible refine adrZ.go ?_) | (simp [go_sem])))
        refine aIf.mkL (fun hb3 => ?_) (fun hb3 => ?_) <;> simp at hb3 <;> (repeat (first | ((with_reducible refine VC.mkL ?_ fun _ => ?_); · first | omega | exact True.intro | rfl) | ((with_reducible refine VC.mkD ?_ fun _ => ?_); · first | omega | exact True.intro | (intros; omega)) | ((with_reducible refine dEnd.mk ?_ ?_); · kernel_rfl) | (with_reducible refine adrZ.go ?_) | (simp [go_sem])))
        all_goals refine aIf.mkL (fun hb4 => ?_) (fun hb4 => ?_) <;> simp at hb4 <;> (repeat (first | ((with_reducible refine VC.mkL ?_ fun _ => ?_); · first | omega | exact True.intro | rfl) | ((with_reducible refine VC.mkD ?_ fun _ => ?_); · first | omega | exact True.intro | (intros; omega)) | ((with_reducible refine dEnd.mk ?_ ?_); · kernel_rfl) | (with_reducible refine adrZ.go ?_) | (simp [go_sem])))
        all_goals (
          refine ALoop.start (ALoop.ind (α := Nat) (fun a => ⟨[(1, .ref 0 0 12 0 0), (2, .ref 1 0 9 0 0), (3, .ref 20 0 9 0 0), (4, .v (.int .i64 i)), (8, .v (.int .i64 a))],
            [(0, .rows true 0 12 [encRaw x]), (1, .rows true 0 9 [[.v (.int .i64 0), AV.nils, AV.nils, AV.nils, .v (.int .i64 0), .v (.bool false), AV.nils, .v (.int .i64 0), .v (.int .i64 0)]]), (20, .rows true 0 9 [[.v (.int .i64 b.cells), encIss b.next, encIs b.turn, .sl 22 i 3 0 i, .v (.int .i64 R), .v (.bool (decide (x.f1.tmod 4 = 3))), .sl 23 a 4 0 a, .v (.int .i64 bl), .v (.int .i64 en)]]), (22, .rows true i 3 (ksR x i)), (23, .rows true a 4 (clR b.cells i x.c a))], 24⟩)
            (fun d a => a + d = min x.c.length 3) ?_ (min x.c.length 3) 0 ?_) ?_ ?_
          · rintro d j j1 hrec2
            (repeat (first | ((with_reducible refine VC.mkL ?_ fun _ => ?_); · first | omega | exact True.intro | rfl) | ((with_reducible refine VC.mkD ?_ fun _ => ?_); · first | omega | exact True.intro | (intros; omega)) | ((with_reducible refine dEnd.mk ?_ ?_); · kernel_rfl) | (with_reducible refine adrZ.go ?_) | (simp [go_sem])))
            refine aIf.mkL (fun hj => ?_) (fun hj => ?_) <;> simp at hj
            · have hj1 : j < x.c.length := by omega
              have hjc := hx.c _ (nth_mem hj1)
              have hpl := clR_len b.cells i x.c (n := j) (by omega)
              have hsu := clR_succ b.cells i x.c hj1
              generalize hcx : nth x.c j = c at *
              obtain ⟨c0, c1, c2⟩ := c
              obtain ⟨u0, u1, u2⟩ := hjc
              obtain ⟨w0, w0'⟩ := qq _ u0
              obtain ⟨v0, v0'⟩ := u0
              obtain ⟨v1, v1'⟩ := u1
              obtain ⟨v2, v2'⟩ := u2
              simp only at v0 v0' v1 v1' v2 v2' w0 w0'
              have t0 := Int.tmod_nonneg 3 v0
              have t1 := Int.tmod_lt_of_pos c0 (show (0 : Int) < 3 by decide)
              have hip : (0 : Int) < i := by omega
              have k0 := Int.tmod_nonneg i v1
              have n0 := Int.tmod_nonneg b.cells v2
              have n1 := Int.tmod_nonneg 3 v2
              rcases (show c0.tmod 3 = 0 ∨ c0.tmod 3 = 1 ∨ c0.tmod 3 = 2 by omega) with ht | ht | ht
              · have hr : cRow (clauseOf b.cells i (c0, c1, c2)) = [.v (.int .i64 1), .v (.int .i64 (c1.tmod i)), .v (.int .i64 0), .v (.int .i64 (1 + (c0.tdiv 4).tmod 3))] := by simp [cRow, clauseOf, encClause, ht]
                (repeat (first | ((with_reducible refine VC.mkL ?_ fun _ => ?_); · first | omega | exact True.intro | rfl) | ((with_reducible refine VC.mkD ?_ fun _ => ?_); · first | omega | exact True.intro | (intros; omega)) | ((with_reducible refine dEnd.mk ?_ ?_); · kernel_rfl) | (with_reducible refine adrZ.go ?_) | (simp [go_sem, hj1, hcx, ht, hpl])))
                refine ALoop.start (hrec2 (d - 1) (by omega) (j + 1) (by omega)) ?_ (by simp)
                simp [go_sem, Wk_eq, hsu, hr]
              · have hr : cRow (clauseOf b.cells i (c0, c1, c2)) = [.v (.int .i64 2), .v (.int .i64 (c1.tmod i)), .v (.int .i64 (c2.tmod b.cells)), .v (.int .i64 (1 + (c0.tdiv 4).tmod 3))] := by simp [cRow, clauseOf, encClause, ht]
                (repeat (first | ((with_reducible refine VC.mkL ?_ fun _ => ?_); · first | omega | exact True.intro | rfl) | ((with_reducible refine VC.mkD ?_ fun _ => ?_); · first | omega | exact True.intro | (intros; omega)) | ((with_reducible refine dEnd.mk ?_ ?_); · kernel_rfl) | (with_reducible refine adrZ.go ?_) | (simp [go_sem, hj1, hcx, ht, hpl])))
                refine ALoop.start (hrec2 (d - 1) (by omega) (j + 1) (by omega)) ?_ (by simp)
                simp [go_sem, Wk_eq, hsu, hr]
              · have hr : cRow (clauseOf b.cells i (c0, c1, c2)) = [.v (.int .i64 3), .v (.int .i64 0), .v (.int .i64 (c2.tmod 3)), .v (.int .i64 (1 + (c0.tdiv 4).tmod 3))] := by simp [cRow, clauseOf, encClause, ht]
                (repeat (first | ((with_reducible refine VC.mkL ?_ fun _ => ?_); · first | omega | exact True.intro | rfl) | ((with_reducible refine VC.mkD ?_ fun _ => ?_); · first | omega | exact True.intro | (intros; omega)) | ((with_reducible refine dEnd.mk ?_ ?_); · kernel_rfl) | (with_reducible refine adrZ.go ?_) | (simp [go_sem, hj1, hcx, ht, hpl])))
                refine ALoop.start (hrec2 (d - 1) (by omega) (j + 1) (by omega)) ?_ (by simp)
                simp [go_sem, Wk_eq, hsu, hr]
            · have hki : kindsN x = i := by rw [hK2, hK]
              have hjm : j = min x.c.length 3 := by omega
              have htk : x.c.take (min x.c.length 3) = x.c.take 3 := by rw [List.take_eq_take_iff]; omega
              have hpl := clR_len b.cells i x.c (n := j) (by omega)
              have hkl : (ksR x i).length = i := ksR_len x i
              have hcl : clR b.cells i x.c j = ((x.c.take 3).map (clauseOf b.cells i)).map encClause := by unfold clR; rw [hjm, htk]
              have hG : madeG x = { cells := b.cells, next := b.next, turn := b.turn, kinds := (List.range i).map (kindOf x), rights := R, must := decide (x.f1.tmod 4 = 3), clauses := (x.c.take 3).map (clauseOf b.cells i), blocked := bl, endless := en } := by
                unfold madeG; rw [hki, ← hbb, ← hR, ← hbl, ← hen]
              have hEnc : eg = [.v (.int .i64 b.cells), encIss b.next, encIs b.turn, .lst 3 (ksR x i), .v (.int .i64 R), .v (.bool (decide (x.f1.tmod 4 = 3))), .lst 4 (clR b.cells i x.c j), .v (.int .i64 bl), .v (.int .i64 en)] := by
                rw [heg, hG, hcl]; rfl
              (repeat (first | ((with_reducible refine VC.mkL ?_ fun _ => ?_); · first | omega | exact True.intro | rfl) | ((with_reducible refine VC.mkD ?_ fun _ => ?_); · first | omega | exact True.intro | (intros; omega)) | ((with_reducible refine dEnd.mk ?_ ?_); · kernel_rfl) | (with_reducible refine adrZ.go ?_) | (simp [go_sem])))
              rw [hEnc]
              refine ⟨.cons (.refl _) (.cons (.refl _) (.cons (.refl _) (.cons (leV_frz rfl (by omega) (by simp [noH]) (by rw [List.drop_zero, List.take_of_length_le (by omega)])) (.cons (.refl _) (.cons (.refl _) (.cons (leV_frz rfl (by omega) (by simp [noH]) (by rw [List.drop_zero, List.take_of_length_le (by omega)])) (.cons (.refl _) (.cons (.refl _) .nil)))))))), ?_⟩
              intro c hc
              simp only [List.mem_cons, List.not_mem_nil, or_false] at hc
              rcases hc with rfl | rfl | rfl | rfl | rfl | rfl | rfl | rfl | rfl
              all_goals first | exact .v _ | simp [go_sem]
          · omega
          · simp [go_sem, Wk_eq, hbl, hen, hb3, hb4]
          · simp)
    · omega
    · simp [go_sem, Wk_eq, hK]
    · simp
  · have hK2 : kindsN x = 1 := by rw [hKn, if_pos (by simp [hk1])]
    rw [hK2] at hK
    (repeat (first | ((with_reducible refine VC.mkL ?_ fun _ => ?_); · first | omega | exact True.intro | rfl) | ((with_reducible refine VC.mkD ?_ fun _ => ?_); · first | omega | exact True.intro | (intros; omega)) | ((with_reducible refine dEnd.mk ?_ ?_); · kernel_rfl) | (with_reducible refine adrZ.go ?_) | (simp [go_sem])))
    refine ALoop.start (ALoop.ind (α := Nat) (fun a => ⟨[(1, .ref 0 0 12 0 0), (2, .ref 1 0 9 0 0), (3, .ref 20 0 9 0 0), (4, .v (.int .i64 K)), (5, .v (.int .i64 a))],
      [(0, .rows true 0 12 [encRaw x]), (1, .rows true 0 9 [[.v (.int .i64 0), AV.nils, AV.nils, AV.nils, .v (.int .i64 0), .v (.bool false), AV.nils, .v (.int .i64 0), .v (.int .i64 0)]]), (20, .rows true 0 9 [[.v (.int .i64 b.cells), encIss b.next, encIs b.turn, .sl 22 a 3 0 a, .v (.int .i64 R), .v (.bool (decide (x.f1.tmod 4 = 3))), AV.nils, .v (.int .i64 3), .v (.int .i64 2)]]), (22, .rows true a 3 (ksR x a))], 23⟩)
      (fun d a => a + d = K) ?_ K 0 ?_) ?_ ?_
    · rintro d0 i i1 hrec
      (repeat (first | ((with_reducible refine VC.mkL ?_ fun _ => ?_); · first | omega | exact True.intro | rfl) | ((with_reducible refine VC.mkD ?_ fun _ => ?_); · first | omega | exact True.intro | (intros; omega)) | ((with_reducible refine dEnd.mk ?_ ?_); · kernel_rfl) | (with_reducible refine adrZ.go ?_) | (simp [go_sem])))
      refine aIf.mkL (fun hi => ?_) (fun hi => ?_) <;> simp at hi
      · have hi2 : i = 0 ∨ i = 1 := by omega
        have hkl := hKl i
        have hkv := hKv i
        have hks : kindOf x i = ⟨if i = 0 then nameA else nameB, ((x.ks i).take 4).map (fun n => madeP n b.next.length K x.rights), bitU x.f2 i⟩ := by rw [hbb, hK, ← hK2]; rfl
        rcases hi2 with rfl | rfl
        · obtain ⟨kk, hkk⟩ : ∃ kk, kk = x.ks 0 := ⟨_, rfl⟩
          have hk0 : x.k0 = kk := hkk.symm
          rw [← hkk] at hkl hkv hks
          have hbit : bitU x.f2 0 = decide (andN .u8 x.f2 1 = 1) := by simp [bitU]
          obtain ⟨f, hf⟩ : ∃ f, f = (fun n => madeP n b.next.length K x.rights) := ⟨_, rfl⟩
          have hfp : ∀ n, U8 n → Pure Tryz.prog 39 [.v (.int .u8 n), .v (.int .i64 b.next.length), .v (.int .i64 K), .v (.int .i64 R)] (encProg (f n)) := fun n hn => by
            rw [hf, ← hR]; exact R2Made_pure n _ _ _ hn (by omega) (by omega) (by omega)
          rw [← hf, hbit] at hks
          (repeat (first | ((with_reducible refine VC.mkL ?_ fun _ => ?_); · first | omega | exact True.intro | rfl) | ((with_reducible refine VC.mkD ?_ fun _ => ?_); · first | omega | exact True.intro | (intros; omega)) | ((with_reducible refine dEnd.mk ?_ ?_); · kernel_rfl) | (with_reducible refine adrZ.go ?_) | (simp [go_sem, hk0])))
          refine ALoop.start (ALoop.ind (α := Nat) (fun n => ⟨[(1, .ref 0 0 12 0 0), (2, .ref 1 0 9 0 0), (3, .ref 20 0 9 0 0), (4, .v (.int .i64 K)), (5, .v (.int .i64 0)), (6, .ref 35 0 3 0 0), (7, .v (.int .i64 n))],
            [(0, .rows true 0 12 [encRaw x]), (1, .rows true 0 9 [[.v (.int .i64 0), AV.nils, AV.nils, AV.nils, .v (.int .i64 0), .v (.bool false), AV.nils, .v (.int .i64 0), .v (.int .i64 0)]]), (20, .rows true 0 9 [[.v (.int .i64 b.cells), encIss b.next, encIs b.turn, .sl 22 0 3 0 0, .v (.int .i64 R), .v (.bool (decide (x.f1.tmod 4 = 3))), AV.nils, .v (.int .i64 3), .v (.int .i64 2)]]), (22, .rows true 0 3 (ksR x 0)), (35, .rows true 0 3 [[.v (.string ⟨#[97]⟩), .sl 37 n 1 0 n, .v (.bool (decide (andN .u8 x.f2 1 = 1)))]]), (37, .rows true n 1 (psR f kk n))], 38⟩)
            (fun d n => n + d = min kk.length 4) ?_ (min kk.length 4) 0 ?_) ?_ ?_
          · rintro d n n1 hrec1
            (repeat (first | ((with_reducible refine VC.mkL ?_ fun _ => ?_); · first | omega | exact True.intro | rfl) | ((with_reducible refine VC.mkD ?_ fun _ => ?_); · first | omega | exact True.intro | (intros; omega)) | ((with_reducible refine dEnd.mk ?_ ?_); · kernel_rfl) | (with_reducible refine adrZ.go ?_) | (simp [go_sem, hk0])))
            refine aIf.mkL (fun hn => ?_) (fun hn => ?_) <;> simp at hn
            · have hn1 : n < kk.length := by omega
              have hn2 := hkv _ (nth_mem hn1)
              have hpl := psR_len f kk (n := n) (by omega)
              (repeat (first | ((with_reducible refine VC.mkL ?_ fun _ => ?_); · first | omega | exact True.intro | rfl) | ((with_reducible refine VC.mkD ?_ fun _ => ?_); · first | omega | exact True.intro | (intros; omega)) | ((with_reducible refine dEnd.mk ?_ ?_); · kernel_rfl) | (with_reducible refine adrZ.go ?_) | (simp [go_sem, hk0, hn1])))
              try ((with_reducible refine adrZ.go ?_); (try simp [go_sem]))
              refine dCall.plain (hfp _ hn2) (by simp [go_sem]) ?_
              (repeat (first | ((with_reducible refine VC.mkL ?_ fun _ => ?_); · first | omega | exact True.intro | rfl) | ((with_reducible refine VC.mkD ?_ fun _ => ?_); · first | omega | exact True.intro | (intros; omega)) | ((with_reducible refine dEnd.mk ?_ ?_); · kernel_rfl) | (with_reducible refine adrZ.go ?_) | (simp [go_sem, hk0, hn1, hpl])))
              refine ALoop.start (hrec1 (d - 1) (by omega) (n + 1) (by omega)) ?_ (by simp)
              simp [go_sem, Wk_eq, hk0, psR_succ f kk hn1]
            · have hne : n = min kk.length 4 := by omega
              (repeat (first | ((with_reducible refine VC.mkL ?_ fun _ => ?_); · first | omega | exact True.intro | rfl) | ((with_reducible refine VC.mkD ?_ fun _ => ?_); · first | omega | exact True.intro | (intros; omega)) | ((with_reducible refine dEnd.mk ?_ ?_); · kernel_rfl) | (with_reducible refine adrZ.go ?_) | (simp [go_sem])))
              refine ALoop.start (hrec (d0 - 1) (by omega) (0 + 1) (by omega)) ?_ (by simp)
              have hkx : kRow (kindOf x 0) = [.v (.string ⟨#[97]⟩), .lst 1 (psR f kk n), .v (.bool (decide (andN .u8 x.f2 1 = 1)))] := by rw [hks, show psR f kk n = psR f kk (min kk.length 4) by rw [← hne]]; simp [kRow, encKind, psR, nameA, nameB, encProg]; omega
              have hpl := psR_len f kk (n := n) (by omega)
              simp [go_sem, Wk_eq, hk0, ksR_succ x 0, hkx]
              (try refine leRows_append (.refl _) (.cons (.cons (.refl _) (.cons ?_ (.cons (.refl _) .nil))) .nil))
              refine LeV.frz rfl ?_ ?_ (LeRows.of_eq ?_) <;> simp [mkH, upd, hpl, List.take_of_length_le]
          · omega
          · simp [go_sem, Wk_eq, hk0]
          · simp
        · obtain ⟨kk, hkk⟩ : ∃ kk, kk = x.ks 1 := ⟨_, rfl⟩
          have hk0 : x.k1 = kk := hkk.symm
          rw [← hkk] at hkl hkv hks
          have hbit : bitU x.f2 1 = decide (andN .u8 (x.f2.fdiv 2) 1 = 1) := by simp [bitU]
          obtain ⟨f, hf⟩ : ∃ f, f = (fun n => madeP n b.next.length K x.rights) := ⟨_, rfl⟩
          have hfp : ∀ n, U8 n → Pure Tryz.prog 39 [.v (.int .u8 n), .v (.int .i64 b.next.length), .v (.int .i64 K), .v (.int .i64 R)] (encProg (f n)) := fun n hn => by
            rw [hf, ← hR]; exact R2Made_pure n _ _ _ hn (by omega) (by omega) (by omega)
          rw [← hf, hbit] at hks
          (repeat (first | ((with_reducible refine VC.mkL ?_ fun _ => ?_); · first | omega | exact True.intro | rfl) | ((with_reducible refine VC.mkD ?_ fun _ => ?_); · first | omega | exact True.intro | (intros; omega)) | ((with_reducible refine dEnd.mk ?_ ?_); · kernel_rfl) | (with_reducible refine adrZ.go ?_) | (simp [go_sem, hk0])))
          refine ALoop.start (ALoop.ind (α := Nat) (fun n => ⟨[(1, .ref 0 0 12 0 0), (2, .ref 1 0 9 0 0), (3, .ref 20 0 9 0 0), (4, .v (.int .i64 K)), (5, .v (.int .i64 1)), (6, .ref 35 0 3 0 0), (7, .v (.int .i64 n))],
            [(0, .rows true 0 12 [encRaw x]), (1, .rows true 0 9 [[.v (.int .i64 0), AV.nils, AV.nils, AV.nils, .v (.int .i64 0), .v (.bool false), AV.nils, .v (.int .i64 0), .v (.int .i64 0)]]), (20, .rows true 0 9 [[.v (.int .i64 b.cells), encIss b.next, encIs b.turn, .sl 22 1 3 0 1, .v (.int .i64 R), .v (.bool (decide (x.f1.tmod 4 = 3))), AV.nils, .v (.int .i64 3), .v (.int .i64 2)]]), (22, .rows true 1 3 (ksR x 1)), (35, .rows true 0 3 [[.v (.string ⟨#[98, 101, 101]⟩), .sl 37 n 1 0 n, .v (.bool (decide (andN .u8 (x.f2.fdiv 2) 1 = 1)))]]), (37, .rows true n 1 (psR f kk n))], 38⟩)
            (fun d n => n + d = min kk.length 4) ?_ (min kk.length 4) 0 ?_) ?_ ?_
          · rintro d n n1 hrec1
            (repeat (first | ((with_reducible refine VC.mkL ?_ fun _ => ?_); · first | omega | exact True.intro | rfl) | ((with_reducible refine VC.mkD ?_ fun _ => ?_); · first | omega | exact True.intro | (intros; omega)) | ((with_reducible refine dEnd.mk ?_ ?_); · kernel_rfl) | (with_reducible refine adrZ.go ?_) | (simp [go_sem, hk0])))
            refine aIf.mkL (fun hn => ?_) (fun hn => ?_) <;> simp at hn
            · have hn1 : n < kk.length := by omega
              have hn2 := hkv _ (nth_mem hn1)
              have hpl := psR_len f kk (n := n) (by omega)
              (repeat (first | ((with_reducible refine VC.mkL ?_ fun _ => ?_); · first | omega | exact True.intro | rfl) | ((with_reducible refine VC.mkD ?_ fun _ => ?_); · first | omega | exact True.intro | (intros; omega)) | ((with_reducible refine dEnd.mk ?_ ?_); · kernel_rfl) | (with_reducible refine adrZ.go ?_) | (simp [go_sem, hk0, hn1])))
              try ((with_reducible refine adrZ.go ?_); (try simp [go_sem]))
              refine dCall.plain (hfp _ hn2) (by simp [go_sem]) ?_
              (repeat (first | ((with_reducible refine VC.mkL ?_ fun _ => ?_); · first | omega | exact True.intro | rfl) | ((with_reducible refine VC.mkD ?_ fun _ => ?_); · first | omega | exact True.intro | (intros; omega)) | ((with_reducible refine dEnd.mk ?_ ?_); · kernel_rfl) | (with_reducible refine adrZ.go ?_) | (simp [go_sem, hk0, hn1, hpl])))
              refine ALoop.start (hrec1 (d - 1) (by omega) (n + 1) (by omega)) ?_ (by simp)
              simp [go_sem, Wk_eq, hk0, psR_succ f kk hn1]
            · have hne : n = min kk.length 4 := by omega
              (repeat (first | ((with_reducible refine VC.mkL ?_ fun _ => ?_); · first | omega | exact True.intro | rfl) | ((with_reducible refine VC.mkD ?_ fun _ => ?_); · first | omega | exact True.intro | (intros; omega)) | ((with_reducible refine dEnd.mk ?_ ?_); · kernel_rfl) | (with_reducible refine adrZ.go ?_) | (simp [go_sem])))
              refine ALoop.start (hrec (d0 - 1) (by omega) (1 + 1) (by omega)) ?_ (by simp)
              have hkx : kRow (kindOf x 1) = [.v (.string ⟨#[98, 101, 101]⟩), .lst 1 (psR f kk n), .v (.bool (decide (andN .u8 (x.f2.fdiv 2) 1 = 1)))] := by rw [hks, show psR f kk n = psR f kk (min kk.length 4) by rw [← hne]]; simp [kRow, encKind, psR, nameA, nameB, encProg]; omega
              have hpl := psR_len f kk (n := n) (by omega)
              simp [go_sem, Wk_eq, hk0, ksR_succ x 1, hkx]
              (try refine leRows_append (.refl _) (.cons (.cons (.refl _) (.cons ?_ (.cons (.refl _) .nil))) .nil))
              refine LeV.frz rfl ?_ ?_ (LeRows.of_eq ?_) <;> simp [mkH, upd, hpl, List.take_of_length_le]
          · omega
          · simp [go_sem, Wk_eq, hk0]
          · simp
      · have hiK : i = K := by omega
        subst hiK
        (repeat (first | ((with_reducible refine VC.mkL ?_ fun _ => ?_); · first | omega | exact True.intro | rfl) | ((with_reducible refine VC.mkD ?_ fun _ => ?_); · first | omega | exact True.intro | (intros; omega)) | ((with_reducible refine dEnd.mk ?_ ?_); · kernel_rfl) | (with_reducible refine adrZ.go ?_) | (simp [go_sem])))
        refine aIf.mkL (fun hb3 => ?_) (fun hb3 => ?_) <;> simp at hb3 <;> (repeat (first | ((with_reducible refine VC.mkL ?_ fun _ => ?_); · first | omega | exact True.intro | rfl) | ((with_reducible refine VC.mkD ?_ fun _ => ?_); · first | omega | exact True.intro | (intros; omega)) | ((with_reducible refine dEnd.mk ?_ ?_); · kernel_rfl) | (with_reducible refine adrZ.go ?_) | (simp [go_sem])))
        all_goals refine aIf.mkL (fun hb4 => ?_) (fun hb4 => ?_) <;> simp at hb4 <;> (repeat (first | ((with_reducible refine VC.mkL ?_ fun _ => ?_); · first | omega | exact True.intro | rfl) | ((with_reducible refine VC.mkD ?_ fun _ => ?_); · first | omega | exact True.intro | (intros; omega)) | ((with_reducible refine dEnd.mk ?_ ?_); · kernel_rfl) | (with_reducible refine adrZ.go ?_) | (simp [go_sem])))
        all_goals (
          refine ALoop.start (ALoop.ind (α := Nat) (fun a => ⟨[(1, .ref 0 0 12 0 0), (2, .ref 1 0 9 0 0), (3, .ref 20 0 9 0 0), (4, .v (.int .i64 i)), (8, .v (.int .i64 a))],
            [(0, .rows true 0 12 [encRaw x]), (1, .rows true 0 9 [[.v (.int .i64 0), AV.nils, AV.nils, AV.nils, .v (.int .i64 0), .v (.bool false), AV.nils, .v (.int .i64 0), .v (.int .i64 0)]]), (20, .rows true 0 9 [[.v (.int .i64 b.cells), encIss b.next, encIs b.turn, .sl 22 i 3 0 i, .v (.int .i64 R), .v (.bool (decide (x.f1.tmod 4 = 3))), .sl 23 a 4 0 a, .v (.int .i64 bl), .v (.int .i64 en)]]), (22, .rows true i 3 (ksR x i)), (23, .rows true a 4 (clR b.cells i x.c a))], 24⟩)
            (fun d a => a + d = min x.c.length 3) ?_ (min x.c.length 3) 0 ?_) ?_ ?_
          · rintro d j j1 hrec2
            (repeat (first | ((with_reducible refine VC.mkL ?_ fun _ => ?_); · first | omega | exact True.intro | rfl) | ((with_reducible refine VC.mkD ?_ fun _ => ?_); · first | omega | exact True.intro | (intros; omega)) | ((with_reducible refine dEnd.mk ?_ ?_); · kernel_rfl) | (with_reducible refine adrZ.go ?_) | (simp [go_sem])))
            refine aIf.mkL (fun hj => ?_) (fun hj => ?_) <;> simp at hj
            · have hj1 : j < x.c.length := by omega
              have hjc := hx.c _ (nth_mem hj1)
              have hpl := clR_len b.cells i x.c (n := j) (by omega)
              have hsu := clR_succ b.cells i x.c hj1
              generalize hcx : nth x.c j = c at *
              obtain ⟨c0, c1, c2⟩ := c
              obtain ⟨u0, u1, u2⟩ := hjc
              obtain ⟨w0, w0'⟩ := qq _ u0
              obtain ⟨v0, v0'⟩ := u0
              obtain ⟨v1, v1'⟩ := u1
              obtain ⟨v2, v2'⟩ := u2
              simp only at v0 v0' v1 v1' v2 v2' w0 w0'
              have t0 := Int.tmod_nonneg 3 v0
              have t1 := Int.tmod_lt_of_pos c0 (show (0 : Int) < 3 by decide)
              have hip : (0 : Int) < i := by omega
              have k0 := Int.tmod_nonneg i v1
              have n0 := Int.tmod_nonneg b.cells v2
              have n1 := Int.tmod_nonneg 3 v2
              rcases (show c0.tmod 3 = 0 ∨ c0.tmod 3 = 1 ∨ c0.tmod 3 = 2 by omega) with ht | ht | ht
              · have hr : cRow (clauseOf b.cells i (c0, c1, c2)) = [.v (.int .i64 1), .v (.int .i64 (c1.tmod i)), .v (.int .i64 0), .v (.int .i64 (1 + (c0.tdiv 4).tmod 3))] := by simp [cRow, clauseOf, encClause, ht]
                (repeat (first | ((with_reducible refine VC.mkL ?_ fun _ => ?_); · first | omega | exact True.intro | rfl) | ((with_reducible refine VC.mkD ?_ fun _ => ?_); · first | omega | exact True.intro | (intros; omega)) | ((with_reducible refine dEnd.mk ?_ ?_); · kernel_rfl) | (with_reducible refine adrZ.go ?_) | (simp [go_sem, hj1, hcx, ht, hpl])))
                refine ALoop.start (hrec2 (d - 1) (by omega) (j + 1) (by omega)) ?_ (by simp)
                simp [go_sem, Wk_eq, hsu, hr]
              · have hr : cRow (clauseOf b.cells i (c0, c1, c2)) = [.v (.int .i64 2), .v (.int .i64 (c1.tmod i)), .v (.int .i64 (c2.tmod b.cells)), .v (.int .i64 (1 + (c0.tdiv 4).tmod 3))] := by simp [cRow, clauseOf, encClause, ht]
                (repeat (first | ((with_reducible refine VC.mkL ?_ fun _ => ?_); · first | omega | exact True.intro | rfl) | ((with_reducible refine VC.mkD ?_ fun _ => ?_); · first | omega | exact True.intro | (intros; omega)) | ((with_reducible refine dEnd.mk ?_ ?_); · kernel_rfl) | (with_reducible refine adrZ.go ?_) | (simp [go_sem, hj1, hcx, ht, hpl])))
                refine ALoop.start (hrec2 (d - 1) (by omega) (j + 1) (by omega)) ?_ (by simp)
                simp [go_sem, Wk_eq, hsu, hr]
              · have hr : cRow (clauseOf b.cells i (c0, c1, c2)) = [.v (.int .i64 3), .v (.int .i64 0), .v (.int .i64 (c2.tmod 3)), .v (.int .i64 (1 + (c0.tdiv 4).tmod 3))] := by simp [cRow, clauseOf, encClause, ht]
                (repeat (first | ((with_reducible refine VC.mkL ?_ fun _ => ?_); · first | omega | exact True.intro | rfl) | ((with_reducible refine VC.mkD ?_ fun _ => ?_); · first | omega | exact True.intro | (intros; omega)) | ((with_reducible refine dEnd.mk ?_ ?_); · kernel_rfl) | (with_reducible refine adrZ.go ?_) | (simp [go_sem, hj1, hcx, ht, hpl])))
                refine ALoop.start (hrec2 (d - 1) (by omega) (j + 1) (by omega)) ?_ (by simp)
                simp [go_sem, Wk_eq, hsu, hr]
            · have hki : kindsN x = i := by rw [hK2, hK]
              have hjm : j = min x.c.length 3 := by omega
              have htk : x.c.take (min x.c.length 3) = x.c.take 3 := by rw [List.take_eq_take_iff]; omega
              have hpl := clR_len b.cells i x.c (n := j) (by omega)
              have hkl : (ksR x i).length = i := ksR_len x i
              have hcl : clR b.cells i x.c j = ((x.c.take 3).map (clauseOf b.cells i)).map encClause := by unfold clR; rw [hjm, htk]
              have hG : madeG x = { cells := b.cells, next := b.next, turn := b.turn, kinds := (List.range i).map (kindOf x), rights := R, must := decide (x.f1.tmod 4 = 3), clauses := (x.c.take 3).map (clauseOf b.cells i), blocked := bl, endless := en } := by
                unfold madeG; rw [hki, ← hbb, ← hR, ← hbl, ← hen]
              have hEnc : eg = [.v (.int .i64 b.cells), encIss b.next, encIs b.turn, .lst 3 (ksR x i), .v (.int .i64 R), .v (.bool (decide (x.f1.tmod 4 = 3))), .lst 4 (clR b.cells i x.c j), .v (.int .i64 bl), .v (.int .i64 en)] := by
                rw [heg, hG, hcl]; rfl
              (repeat (first | ((with_reducible refine VC.mkL ?_ fun _ => ?_); · first | omega | exact True.intro | rfl) | ((with_reducible refine VC.mkD ?_ fun _ => ?_); · first | omega | exact True.intro | (intros; omega)) | ((with_reducible refine dEnd.mk ?_ ?_); · kernel_rfl) | (with_reducible refine adrZ.go ?_) | (simp [go_sem])))
              rw [hEnc]
              refine ⟨.cons (.refl _) (.cons (.refl _) (.cons (.refl _) (.cons (leV_frz rfl (by omega) (by simp [noH]) (by rw [List.drop_zero, List.take_of_length_le (by omega)])) (.cons (.refl _) (.cons (.refl _) (.cons (leV_frz rfl (by omega) (by simp [noH]) (by rw [List.drop_zero, List.take_of_length_le (by omega)])) (.cons (.refl _) (.cons (.refl _) .nil)))))))), ?_⟩
              intro c hc
              simp only [List.mem_cons, List.not_mem_nil, or_false] at hc
              rcases hc with rfl | rfl | rfl | rfl | rfl | rfl | rfl | rfl | rfl
              all_goals first | exact .v _ | simp [go_sem]
          · omega
          · simp [go_sem, Wk_eq, hbl, hen, hb3, hb4]
          · simp)
    · omega
    · simp [go_sem, Wk_eq, hK]
    · simp
end Go.Av
end
