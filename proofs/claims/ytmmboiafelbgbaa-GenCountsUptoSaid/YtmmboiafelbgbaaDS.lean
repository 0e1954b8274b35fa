/- Contracts, paths: counts, shapes, equality; turned programs. -/
import Derived.Test.YtmmboiafelbgbaaDP
section
set_option linter.unusedSimpArgs false
set_option linter.unusedVariables false
open Go Go.Proofs
set_option maxRecDepth 20000
set_option maxHeartbeats 4000000
namespace Go.Av
theorem R2Count_pure (p : List (Int × Int)) (hp : p.length ≤ 1048576) (op : Int) : Pure Try.prog 23 [encProg p, .v (.int .i64 op)] (.v (.int .i64 (countOp p op))) := by
  refine Pure.of (ACallP.of_awp (by kernel_rfl) Try.func23 rfl rfl (Nat.le_of_ble_eq_true rfl) (by kernel_rfl) ?_)
  generalize hR : countOp p op = R
  (repeat (first | ((with_reducible refine VC.mkL ?_ fun _ => ?_); · first | omega | exact True.intro | rfl) | ((with_reducible refine VC.mkD ?_ fun _ => ?_); · first | omega | exact True.intro | (intros; omega)) | ((with_reducible refine dEnd.mk ?_ ?_); · kernel_rfl) | (with_reducible refine adrZ.go ?_) | (simp [go_sem])))
  refine ALoop.start (ALoop.ind (α := Nat × Nat) (fun a => ⟨[(0, encProg p), (1, .v (.int .i64 op)), (5, .v (.int .i64 a.2)), (6, .v (.int .i64 a.1))], [], 0⟩)
    (fun d a => a.1 + d = p.length ∧ a.2 ≤ a.1 ∧ a.2 + countOp (p.drop a.1) op = R) ?_ p.length (0, 0) ?_) ?_ ?_
  · rintro d ⟨i, n⟩ ⟨i1, i2, i3⟩ hrec
    simp only at i1 i2 i3
    (repeat (first | ((with_reducible refine VC.mkL ?_ fun _ => ?_); · first | omega | exact True.intro | rfl) | ((with_reducible refine VC.mkD ?_ fun _ => ?_); · first | omega | exact True.intro | (intros; omega)) | ((with_reducible refine dEnd.mk ?_ ?_); · kernel_rfl) | (with_reducible refine adrZ.go ?_) | (simp [go_sem])))
    refine aIf.mkL (fun hi => ?_) (fun hi => ?_) <;> simp at hi
    · rw [dropG_cons hi] at i3
      unfold countOp at i3
      rw [List.countP_cons] at i3
      (repeat (first | ((with_reducible refine VC.mkL ?_ fun _ => ?_); · first | omega | exact True.intro | rfl) | ((with_reducible refine VC.mkD ?_ fun _ => ?_); · first | omega | exact True.intro | (intros; omega)) | ((with_reducible refine dEnd.mk ?_ ?_); · kernel_rfl) | (with_reducible refine adrZ.go ?_) | (simp [go_sem, hi])))
      refine aIf.mkL (fun he => ?_) (fun he => ?_) <;> simp at he
      · simp [he] at i3
        (repeat (first | ((with_reducible refine VC.mkL ?_ fun _ => ?_); · first | omega | exact True.intro | rfl) | ((with_reducible refine VC.mkD ?_ fun _ => ?_); · first | omega | exact True.intro | (intros; omega)) | ((with_reducible refine dEnd.mk ?_ ?_); · kernel_rfl) | (with_reducible refine adrZ.go ?_) | (simp [go_sem])))
        refine ALoop.start (hrec (d - 1) (by omega) (i + 1, n + 1) ⟨by simp only; omega, by simp only; omega, by simp only [countOp]; omega⟩) ?_ (by simp)
        simp [go_sem, Wk_eq]
      · simp [he] at i3
        (repeat (first | ((with_reducible refine VC.mkL ?_ fun _ => ?_); · first | omega | exact True.intro | rfl) | ((with_reducible refine VC.mkD ?_ fun _ => ?_); · first | omega | exact True.intro | (intros; omega)) | ((with_reducible refine dEnd.mk ?_ ?_); · kernel_rfl) | (with_reducible refine adrZ.go ?_) | (simp [go_sem])))
        refine ALoop.start (hrec (d - 1) (by omega) (i + 1, n) ⟨by simp only; omega, by simp only; omega, by simp only [countOp]; omega⟩) ?_ (by simp)
        simp [go_sem, Wk_eq]
    · rw [List.drop_eq_nil_of_le hi] at i3
      simp [countOp] at i3
      subst i3
      (repeat (first | ((with_reducible refine VC.mkL ?_ fun _ => ?_); · first | omega | exact True.intro | rfl) | ((with_reducible refine VC.mkD ?_ fun _ => ?_); · first | omega | exact True.intro | (intros; omega)) | ((with_reducible refine dEnd.mk ?_ ?_); · kernel_rfl) | (with_reducible refine adrZ.go ?_) | (simp [go_sem])))
  · exact ⟨by simp, by simp, by simpa using hR⟩
  · simp [go_sem, Wk_eq]
  · simp
theorem Leads_pure (x : Int × Int) : Pure Try.prog 67 [.agg [.v (.int .i64 x.1), .v (.int .i64 x.2)]] (.v (.bool (decide (x.1 = 1 ∨ x.1 = 2 ∨ x.1 = 7)))) := by
  refine Pure.of (ACallP.of_awp (by kernel_rfl) Try.func67 rfl rfl (Nat.le_of_ble_eq_true rfl) (by kernel_rfl) ?_)
  obtain ⟨op, N⟩ := x
  simp only
  (repeat (first | ((with_reducible refine VC.mkL ?_ fun _ => ?_); · first | omega | exact True.intro | rfl) | ((with_reducible refine VC.mkD ?_ fun _ => ?_); · first | omega | exact True.intro | (intros; omega)) | ((with_reducible refine dEnd.mk ?_ ?_); · kernel_rfl) | (with_reducible refine adrZ.go ?_) | (simp [go_sem])))
  by_cases h1 : op = 1
  · subst h1
    (repeat (first | ((with_reducible refine VC.mkL ?_ fun _ => ?_); · first | omega | exact True.intro | rfl) | ((with_reducible refine VC.mkD ?_ fun _ => ?_); · first | omega | exact True.intro | (intros; omega)) | ((with_reducible refine dEnd.mk ?_ ?_); · kernel_rfl) | (with_reducible refine adrZ.go ?_) | (simp [go_sem])))
  · by_cases h2 : op = 2
    · subst h2
      (repeat (first | ((with_reducible refine VC.mkL ?_ fun _ => ?_); · first | omega | exact True.intro | rfl) | ((with_reducible refine VC.mkD ?_ fun _ => ?_); · first | omega | exact True.intro | (intros; omega)) | ((with_reducible refine dEnd.mk ?_ ?_); · kernel_rfl) | (with_reducible refine adrZ.go ?_) | (simp [go_sem])))
    · (repeat (first | ((with_reducible refine VC.mkL ?_ fun _ => ?_); · first | omega | exact True.intro | rfl) | ((with_reducible refine VC.mkD ?_ fun _ => ?_); · first | omega | exact True.intro | (intros; omega)) | ((with_reducible refine dEnd.mk ?_ ?_); · kernel_rfl) | (with_reducible refine adrZ.go ?_) | (simp [go_sem, h1, h2])))
theorem bel_Steps {n : Nat} {l : List (Int × Int)} : (∀ r ∈ l.map encStep, ∀ c ∈ r, Bel n c) = True := by
  refine eq_true ?_
  intro r hr c hc
  obtain ⟨x, _, rfl⟩ := List.mem_map.1 hr
  revert c
  simp [go_sem]
attribute [go_sem ↓] bel_Steps
def turnL (t : List Int) (p : List (Int × Int)) (i : Nat) : List (Int × Int) := (p.take i).map (turnS t) ++ p.drop i
theorem turnL_zero (t : List Int) (p : List (Int × Int)) : turnL t p 0 = p := by simp [turnL]
theorem turnL_all (t : List Int) (p : List (Int × Int)) : turnL t p p.length = turnP t p := by simp [turnL, turnP]
theorem turnL_len (t : List Int) (p : List (Int × Int)) (i : Nat) : (turnL t p i).length = p.length := by simp [turnL]; omega
theorem turnL_nth (t : List Int) (p : List (Int × Int)) {i : Nat} (h : i < p.length) : nth (turnL t p i) i = nth p i := by
  rw [nth_eq _ _ (by rw [turnL_len]; exact h), nth_eq _ _ h]
  unfold turnL
  rw [List.getElem_append_right (by simp; omega)]
  simp [Nat.min_eq_left (Nat.le_of_lt h)]
theorem turnL_succ (t : List Int) (p : List (Int × Int)) {i : Nat} (h : i < p.length) : turnL t p (i + 1) = (turnL t p i).set i (turnS t (nth p i)) := by
  unfold turnL
  rw [List.take_add_one, List.getElem?_eq_getElem h, nth_eq _ _ h, Option.toList_some, List.map_append, List.set_append_right _ _ (by simp; omega)]
  have e : List.drop i p = p[i] :: List.drop (i + 1) p := List.drop_eq_getElem_cons h
  simp only [List.length_map, List.length_take, Nat.min_eq_left (Nat.le_of_lt h), Nat.sub_self, List.map_cons, List.map_nil]
  rw [e, List.set_cons_zero]
  simp
theorem turnL_same (t : List Int) (p : List (Int × Int)) {i : Nat} (h : i < p.length) (hs : turnS t (nth p i) = nth p i) : turnL t p (i + 1) = turnL t p i := by
  rw [turnL_succ t p h, hs]
  have h2 : i < (turnL t p i).length := by rw [turnL_len]; exact h
  have h3 := turnL_nth t p h
  rw [nth_eq _ _ h2] at h3
  rw [← h3, List.set_getElem_self]
theorem Turned_pure (p : List (Int × Int)) (hp : p.length ≤ 1048576) (t : List Int) (ht : ∀ x ∈ p, x.1 = 1 ∨ x.1 = 2 ∨ x.1 = 7 → 0 ≤ x.2 ∧ x.2 < t.length) : Pure Try.prog 21 [encProg p, encIs t] (encProg (turnP t p)) := by
  refine Pure.of (ACallP.of_awp (by kernel_rfl) Try.func21 rfl rfl (Nat.le_of_ble_eq_true rfl) (by kernel_rfl) ?_)
  rw [← turnL_all]
  (repeat (first | ((with_reducible refine VC.mkL ?_ fun _ => ?_); · first | omega | exact True.intro | rfl) | ((with_reducible refine VC.mkD ?_ fun _ => ?_); · first | omega | exact True.intro | (intros; omega)) | ((with_reducible refine dEnd.mk ?_ ?_); · kernel_rfl) | (with_reducible refine adrZ.go ?_) | (simp [go_sem])))
  refine ALoop.start (ALoop.ind (α := Nat) (fun i => ⟨[(1, encIs t), (5, .sl 0 1 2 0 p.length), (6, .v (.int .i64 i))], [(0, .rows true 1 2 ((turnL t p i).map encStep))], 1⟩)
    (fun d i => i + d = p.length) ?_ p.length 0 ?_) ?_ ?_
  · rintro d i i1 hrec
    have hl := turnL_len t p i
    (repeat (first | ((with_reducible refine VC.mkL ?_ fun _ => ?_); · first | omega | exact True.intro | rfl) | ((with_reducible refine VC.mkD ?_ fun _ => ?_); · first | omega | exact True.intro | (intros; omega)) | ((with_reducible refine dEnd.mk ?_ ?_); · kernel_rfl) | (with_reducible refine adrZ.go ?_) | (simp [go_sem, hl])))
    refine aIf.mkL (fun hi => ?_) (fun hi => ?_) <;> simp at hi
    · have hn := turnL_nth t p hi
      have hs := turnL_succ t p hi
      have hx := ht _ (nth_mem hi)
      have hL := Leads_pure (nth p i)
      have hsame := turnL_same t p hi
      have hil : i < (turnL t p i).length := by omega
      (repeat (first | ((with_reducible refine VC.mkL ?_ fun _ => ?_); · first | omega | exact True.intro | rfl) | ((with_reducible refine VC.mkD ?_ fun _ => ?_); · first | omega | exact True.intro | (intros; omega)) | ((with_reducible refine dEnd.mk ?_ ?_); · kernel_rfl) | (with_reducible refine adrZ.go ?_) | (simp [go_sem, hl, hi, hn])))
      refine ACallP.plain hL (by simp [go_sem]) ?_
      (repeat (first | ((with_reducible refine VC.mkL ?_ fun _ => ?_); · first | omega | exact True.intro | rfl) | ((with_reducible refine VC.mkD ?_ fun _ => ?_); · first | omega | exact True.intro | (intros; omega)) | ((with_reducible refine dEnd.mk ?_ ?_); · kernel_rfl) | (with_reducible refine adrZ.go ?_) | (simp [go_sem])))
      refine aIf.mkL (fun hc => ?_) (fun hc => ?_) <;> simp at hc
      · have hx' := hx hc
        have hxl : (nth p i).2.toNat < t.length := by omega
        have hts : turnS t (nth p i) = ((nth p i).1, nth t (nth p i).2.toNat) := by unfold turnS; rw [if_pos hc]
        rw [hts] at hs
        (repeat (first | ((with_reducible refine VC.mkL ?_ fun _ => ?_); · first | omega | exact True.intro | rfl) | ((with_reducible refine VC.mkD ?_ fun _ => ?_); · first | omega | exact True.intro | (intros; omega)) | ((with_reducible refine dEnd.mk ?_ ?_); · kernel_rfl) | (with_reducible refine adrZ.go ?_) | (simp [go_sem, hl, hi, hn, hxl])))
        refine ALoop.start (hrec (d - 1) (by omega) (i + 1) (by omega)) ?_ (by simp)
        simp [go_sem, Wk_eq, hs]
        intro r hr c hc
        rcases List.mem_or_eq_of_mem_set hr with hr | rfl
        · exact of_eq_true bel_Steps r hr c hc
        · simp at hc
          rcases hc with rfl | rfl <;> exact .v _
      · have hts : turnS t (nth p i) = nth p i := by unfold turnS; rw [if_neg (by omega)]
        have hsm := hsame hts
        (repeat (first | ((with_reducible refine VC.mkL ?_ fun _ => ?_); · first | omega | exact True.intro | rfl) | ((with_reducible refine VC.mkD ?_ fun _ => ?_); · first | omega | exact True.intro | (intros; omega)) | ((with_reducible refine dEnd.mk ?_ ?_); · kernel_rfl) | (with_reducible refine adrZ.go ?_) | (simp [go_sem])))
        refine ALoop.start (hrec (d - 1) (by omega) (i + 1) (by omega)) ?_ (by simp)
        simp [go_sem, Wk_eq, hsm]
    · have hil : i = p.length := by omega
      subst hil
      (repeat (first | ((with_reducible refine VC.mkL ?_ fun _ => ?_); · first | omega | exact True.intro | rfl) | ((with_reducible refine VC.mkD ?_ fun _ => ?_); · first | omega | exact True.intro | (intros; omega)) | ((with_reducible refine dEnd.mk ?_ ?_); · kernel_rfl) | (with_reducible refine adrZ.go ?_) | (simp [go_sem, hl])))
      ((try simp only [encProg, encStep, encAct, encAs, encPath, encPt, encOut, encState, encPos, encOs, encSs, encPs, encIs, encGame, List.map_cons, List.map_nil, List.nil_append, List.append_nil, List.cons_append]); (repeat (first | (with_reducible exact LeRow.nil) | (with_reducible exact LeRows.nil) | (with_reducible exact LeV.refl _) | (with_reducible exact LeRow.refl _ _ _ _) | (with_reducible exact LeRows.refl _) | (with_reducible refine LeRow.cons ?_ ?_) | (with_reducible refine LeRows.cons ?_ ?_) | (with_reducible refine LeV.agg ?_) | (with_reducible refine LeV.tup ?_) | (with_reducible refine LeV.fn ?_ ?_) | (with_reducible exact LeV.nil _) | (with_reducible refine leRows_append (LeRows.refl _) ?_) | ((refine leV_frz rfl (by simp [hl]) (by simp [frzO, frz1, upd, noH]) ?_); (first | (simp [go_sem, hl]; done) | (simp [go_sem, hl]; exact List.take_of_length_le (by simp [hl])))) | ((refine LeV.frz rfl (by simp [hl]) (by simp [frzO, frz1, upd, noH]) ?_); (simp only [List.drop_zero, List.take_succ_cons, List.take_zero, List.map_cons, List.map_nil])) | ((refine LeV.frzP rfl (by simp [hl]) (by simp) (by simp [frzO, frz1, upd, noH]) ?_); (simp only [nth_zero, List.drop_zero])))))
  · simp
  · simp [go_sem, Wk_eq, turnL_zero]
  · simp
/-! ### gen.Count -/
theorem cntCells_drop (l : List (List PathD)) {i : Nat} (h : i < l.length) : cntCells (l.drop i) = (nth l i).length + cntCells (l.drop (i + 1)) := by
  unfold cntCells
  rw [dropG_cons h, List.map_cons, List.sum_cons]
theorem cntSide_drop (l : List (List (List PathD))) {i : Nat} (h : i < l.length) : cntSide (l.drop i) = cntCells (nth l i) + cntSide (l.drop (i + 1)) := by
  unfold cntSide
  rw [dropG_cons h, List.map_cons, List.sum_cons]
theorem gCount_pure (c : CodeD) (hc : countC c ≤ 4611686018427387904) (h1 : c.1.length ≤ 1048576) (h2 : c.2.length ≤ 1048576) (hl : ∀ x ∈ c.1 ++ c.2, x.length ≤ 1048576) :
    Pure Try.prog 18 [.agg (encCode c)] (.v (.int .i64 (countC c))) := by
  refine Pure.of (ACallP.of_awp (by kernel_rfl) Try.func18 rfl rfl (Nat.le_of_ble_eq_true rfl) (by kernel_rfl) ?_)
  obtain ⟨a, b⟩ := c
  simp only at h1 h2 hl
  have hT : countC (a, b) = cntSide a + cntSide b := rfl
  rw [hT] at hc ⊢
  -- a side
  have key : ∀ (l : List (List (List PathD))) (s : Int) (n T : Nat) (Q : Post), l.length ≤ 1048576 → (∀ x ∈ l, x.length ≤ 1048576) → n + cntSide l = T → True := fun _ _ _ _ _ _ _ _ => trivial
  (repeat (first | ((with_reducible refine VC.mkL ?_ fun _ => ?_); · first | omega | exact True.intro | rfl) | ((with_reducible refine VC.mkD ?_ fun _ => ?_); · first | omega | exact True.intro | (intros; omega)) | ((with_reducible refine dEnd.mk ?_ ?_); · kernel_rfl) | (with_reducible refine adrZ.go ?_) | (simp [go_sem])))
  refine ALoop.start (ALoop.ind (α := Nat × Nat) (fun x => ⟨[(3, .v (.int .i64 x.2)), (11, .agg [encSide a, encSide b]), (12, .v (.int .i64 x.1))], [], 0⟩)
    (fun d x => x.1 + d = 2 ∧ x.2 = (if x.1 = 0 then 0 else if x.1 = 1 then cntSide a else cntSide a + cntSide b)) ?_ 2 (0, 0) ?_) ?_ ?_
  · rintro d ⟨s, n⟩ ⟨s1, s2⟩ hrec
    simp only at s1 s2
    rcases (show s = 2 ∨ s < 2 by omega) with rfl | hs2
    · simp at s2
      subst s2
      (repeat (first | ((with_reducible refine VC.mkL ?_ fun _ => ?_); · first | omega | exact True.intro | rfl) | ((with_reducible refine VC.mkD ?_ fun _ => ?_); · first | omega | exact True.intro | (intros; omega)) | ((with_reducible refine dEnd.mk ?_ ?_); · kernel_rfl) | (with_reducible refine adrZ.go ?_) | (simp [go_sem])))
    · obtain ⟨l, hl0, hl1, hl2, hl3⟩ : ∃ l : List (List (List PathD)), cel [encSide a, encSide b] s = encSide l ∧ l.length ≤ 1048576 ∧ (∀ x ∈ l, x.length ≤ 1048576) ∧ (if s + 1 = 0 then 0 else if s + 1 = 1 then cntSide a else cntSide a + cntSide b) = n + cntSide l := by
        rcases (show s = 0 ∨ s = 1 by omega) with rfl | rfl
        · simp at s2
          exact ⟨a, rfl, h1, fun x hx => hl x (by simp [hx]), by simp [s2]⟩
        · simp at s2
          exact ⟨b, rfl, h2, fun x hx => hl x (by simp [hx]), by simp [s2]⟩
      have hcap : n + cntSide l ≤ 4611686018427387904 := by rw [← hl3]; split <;> (try split) <;> omega
      simp only [encSide, encCells, encPt] at hl0
      (repeat (first | ((with_reducible refine VC.mkL ?_ fun _ => ?_); · first | omega | exact True.intro | rfl) | ((with_reducible refine VC.mkD ?_ fun _ => ?_); · first | omega | exact True.intro | (intros; omega)) | ((with_reducible refine dEnd.mk ?_ ?_); · kernel_rfl) | (with_reducible refine adrZ.go ?_) | (simp [go_sem, hl0])))
      (refine aIf.mkL (fun hT => ?_) (fun hT => by first | omega | (simp at hT; omega)); clear hT)
      (repeat (first | ((with_reducible refine VC.mkL ?_ fun _ => ?_); · first | omega | exact True.intro | rfl) | ((with_reducible refine VC.mkD ?_ fun _ => ?_); · first | omega | exact True.intro | (intros; omega)) | ((with_reducible refine dEnd.mk ?_ ?_); · kernel_rfl) | (with_reducible refine adrZ.go ?_) | (simp [go_sem, hl0])))
      refine ALoop.start (ALoop.ind (α := Nat × Nat) (fun x => ⟨[(3, .v (.int .i64 x.2)), (11, .agg [encSide a, encSide b]), (12, .v (.int .i64 s)), (15, encSide l), (16, .v (.int .i64 l.length)), (17, .v (.int .i64 x.1))], [], 0⟩)
        (fun d x => x.1 + d = l.length ∧ x.2 + cntSide (l.drop x.1) = n + cntSide l) ?_ l.length (0, n) ?_) ?_ ?_
      · rintro d2 ⟨j, m⟩ ⟨j1, j2⟩ hrec2
        simp only at j1 j2
        (repeat (first | ((with_reducible refine VC.mkL ?_ fun _ => ?_); · first | omega | exact True.intro | rfl) | ((with_reducible refine VC.mkD ?_ fun _ => ?_); · first | omega | exact True.intro | (intros; omega)) | ((with_reducible refine dEnd.mk ?_ ?_); · kernel_rfl) | (with_reducible refine adrZ.go ?_) | (simp [go_sem])))
        refine aIf.mkL (fun hj => ?_) (fun hj => ?_) <;> simp at hj
        · have hll := hl2 _ (nth_mem hj)
          rw [cntSide_drop l hj] at j2
          (repeat (first | ((with_reducible refine VC.mkL ?_ fun _ => ?_); · first | omega | exact True.intro | rfl) | ((with_reducible refine VC.mkD ?_ fun _ => ?_); · first | omega | exact True.intro | (intros; omega)) | ((with_reducible refine dEnd.mk ?_ ?_); · kernel_rfl) | (with_reducible refine adrZ.go ?_) | (simp [go_sem, hj])))
          refine ALoop.start (ALoop.ind (α := Nat × Nat) (fun x => ⟨[(3, .v (.int .i64 x.2)), (11, .agg [encSide a, encSide b]), (12, .v (.int .i64 s)), (15, encSide l), (16, .v (.int .i64 l.length)), (17, .v (.int .i64 j)), (21, encCells (nth l j)), (22, .v (.int .i64 (nth l j).length)), (23, .v (.int .i64 x.1))], [], 0⟩)
            (fun d x => x.1 + d = (nth l j).length ∧ x.2 + cntCells ((nth l j).drop x.1) = m + cntCells (nth l j)) ?_ (nth l j).length (0, m) ?_) ?_ ?_
          · rintro d3 ⟨k, q⟩ ⟨k1, k2⟩ hrec3
            simp only at k1 k2
            (repeat (first | ((with_reducible refine VC.mkL ?_ fun _ => ?_); · first | omega | exact True.intro | rfl) | ((with_reducible refine VC.mkD ?_ fun _ => ?_); · first | omega | exact True.intro | (intros; omega)) | ((with_reducible refine dEnd.mk ?_ ?_); · kernel_rfl) | (with_reducible refine adrZ.go ?_) | (simp [go_sem])))
            refine aIf.mkL (fun hk => ?_) (fun hk => ?_) <;> simp at hk
            · rw [cntCells_drop _ hk] at k2
              (repeat (first | ((with_reducible refine VC.mkL ?_ fun _ => ?_); · first | omega | exact True.intro | rfl) | ((with_reducible refine VC.mkD ?_ fun _ => ?_); · first | omega | exact True.intro | (intros; omega)) | ((with_reducible refine dEnd.mk ?_ ?_); · kernel_rfl) | (with_reducible refine adrZ.go ?_) | (simp [go_sem, hk])))
              refine ALoop.start (hrec3 (d3 - 1) (by omega) (k + 1, q + (nth (nth l j) k).length) ⟨by simp only; omega, by simp only; omega⟩) ?_ (by simp)
              simp [go_sem, Wk_eq]
            · rw [List.drop_eq_nil_of_le hk] at k2
              simp [cntCells] at k2
              (repeat (first | ((with_reducible refine VC.mkL ?_ fun _ => ?_); · first | omega | exact True.intro | rfl) | ((with_reducible refine VC.mkD ?_ fun _ => ?_); · first | omega | exact True.intro | (intros; omega)) | ((with_reducible refine dEnd.mk ?_ ?_); · kernel_rfl) | (with_reducible refine adrZ.go ?_) | (simp [go_sem])))
              refine ALoop.start (hrec2 (d2 - 1) (by omega) (j + 1, q) ⟨by simp only; omega, by simp only [cntCells] at j2 ⊢; omega⟩) ?_ (by simp)
              simp [go_sem, Wk_eq]
          · exact ⟨by simp, by simp⟩
          · simp [go_sem, Wk_eq]
          · simp
        · rw [List.drop_eq_nil_of_le hj] at j2
          simp [cntSide] at j2
          (repeat (first | ((with_reducible refine VC.mkL ?_ fun _ => ?_); · first | omega | exact True.intro | rfl) | ((with_reducible refine VC.mkD ?_ fun _ => ?_); · first | omega | exact True.intro | (intros; omega)) | ((with_reducible refine dEnd.mk ?_ ?_); · kernel_rfl) | (with_reducible refine adrZ.go ?_) | (simp [go_sem])))
          refine ALoop.start (hrec (d - 1) (by omega) (s + 1, m) ⟨by simp only; omega, ?_⟩) ?_ (by simp)
          · simp only
            rw [hl3, j2]
            rfl
          · simp [go_sem, Wk_eq]
      · exact ⟨by simp, by simp⟩
      · simp [go_sem, Wk_eq]
      · simp
  · exact ⟨rfl, rfl⟩
  · simp [go_sem, Wk_eq]
  · simp
/-! ### shapes, equality -/
structure ShapeOk (g : GameD) (c : CodeD) : Prop where
  l1 : c.1.length = g.kinds.length
  l2 : c.2.length = g.kinds.length
  c1 : ∀ x ∈ c.1, (x.length : Int) = g.cells
  c2 : ∀ x ∈ c.2, (x.length : Int) = g.cells
theorem ShapeOk.side {g : GameD} {c : CodeD} (h : ShapeOk g c) {s : Nat} (hs : s < 2) : ∃ l, cel [encSide c.1, encSide c.2] s = encSide l ∧ l.length = g.kinds.length ∧ ∀ x ∈ l, (x.length : Int) = g.cells := by
  rcases (show s = 0 ∨ s = 1 by omega) with rfl | rfl
  · exact ⟨_, rfl, h.l1, h.c1⟩
  · exact ⟨_, rfl, h.l2, h.c2⟩
theorem shape_codeP {g : GameD} (hg : GOk g) : ShapeOk g (codeP g) := by
  have h : ∀ s, ∀ x ∈ sideP g s, (x.length : Int) = g.cells := by
    intro s x hx
    obtain ⟨k, _, rfl⟩ := List.mem_map.1 hx
    have : g.board.cells = g.cells := rfl
    have := hg.c1
    simp [cellsP]
    omega
  exact ⟨by simp [codeP, sideP], by simp [codeP, sideP], h 0, h 1⟩
theorem Shaped_true (g : GameD) (hg : GOk g) (c : CodeD) (hc : ShapeOk g c) : Pure Try.prog 17 [.agg (encGame g), .agg (encCode c)] (.v (.bool true)) := by
  refine Pure.of (ACallP.of_awp (by kernel_rfl) Try.func17 rfl rfl (Nat.le_of_ble_eq_true rfl) (by kernel_rfl) ?_)
  have hk6 := hg.k6
  (repeat (first | ((with_reducible refine VC.mkL ?_ fun _ => ?_); · first | omega | exact True.intro | rfl) | ((with_reducible refine VC.mkD ?_ fun _ => ?_); · first | omega | exact True.intro | (intros; omega)) | ((with_reducible refine dEnd.mk ?_ ?_); · kernel_rfl) | (with_reducible refine adrZ.go ?_) | (simp [go_sem])))
  refine ALoop.start (ALoop.ind (α := Nat) (fun s => ⟨[(2, .ref 0 0 9 0 0), (3, .ref 1 0 2 0 0), (5, .v (.int .i64 s))], [(0, .rows true 0 9 [encGame g]), (1, .rows true 0 2 [[encSide c.1, encSide c.2]])], 2⟩)
    (fun d s => s + d = 2) ?_ 2 0 ?_) ?_ ?_
  · rintro d s s1 hrec
    rcases (show s = 2 ∨ s < 2 by omega) with rfl | hs2
    · (repeat (first | ((with_reducible refine VC.mkL ?_ fun _ => ?_); · first | omega | exact True.intro | rfl) | ((with_reducible refine VC.mkD ?_ fun _ => ?_); · first | omega | exact True.intro | (intros; omega)) | ((with_reducible refine dEnd.mk ?_ ?_); · kernel_rfl) | (with_reducible refine adrZ.go ?_) | (simp [go_sem])))
    · obtain ⟨l, hl0, hl1, hl2⟩ := hc.side hs2
      simp only [encSide, encCells, encPt] at hl0
      (repeat (first | ((with_reducible refine VC.mkL ?_ fun _ => ?_); · first | omega | exact True.intro | rfl) | ((with_reducible refine VC.mkD ?_ fun _ => ?_); · first | omega | exact True.intro | (intros; omega)) | ((with_reducible refine dEnd.mk ?_ ?_); · kernel_rfl) | (with_reducible refine adrZ.go ?_) | (simp [go_sem, hl0])))
      (refine aIf.mkL (fun hT => ?_) (fun hT => by first | omega | (simp at hT; omega)); clear hT)
      (repeat (first | ((with_reducible refine VC.mkL ?_ fun _ => ?_); · first | omega | exact True.intro | rfl) | ((with_reducible refine VC.mkD ?_ fun _ => ?_); · first | omega | exact True.intro | (intros; omega)) | ((with_reducible refine dEnd.mk ?_ ?_); · kernel_rfl) | (with_reducible refine adrZ.go ?_) | (simp [go_sem, hl0])))
      (refine aIf.mkL (fun hF => by first | omega | (simp at hF; omega)) (fun hF => ?_); clear hF)
      (repeat (first | ((with_reducible refine VC.mkL ?_ fun _ => ?_); · first | omega | exact True.intro | rfl) | ((with_reducible refine VC.mkD ?_ fun _ => ?_); · first | omega | exact True.intro | (intros; omega)) | ((with_reducible refine dEnd.mk ?_ ?_); · kernel_rfl) | (with_reducible refine adrZ.go ?_) | (simp [go_sem, hl0])))
      refine ALoop.start (ALoop.ind (α := Nat) (fun k => ⟨[(2, .ref 0 0 9 0 0), (3, .ref 1 0 2 0 0), (5, .v (.int .i64 s)), (6, .v (.int .i64 k))], [(0, .rows true 0 9 [encGame g]), (1, .rows true 0 2 [[encSide c.1, encSide c.2]])], 2⟩)
        (fun d k => k + d = g.kinds.length) ?_ g.kinds.length 0 ?_) ?_ ?_
      · rintro d2 k k1 hrec2
        (repeat (first | ((with_reducible refine VC.mkL ?_ fun _ => ?_); · first | omega | exact True.intro | rfl) | ((with_reducible refine VC.mkD ?_ fun _ => ?_); · first | omega | exact True.intro | (intros; omega)) | ((with_reducible refine dEnd.mk ?_ ?_); · kernel_rfl) | (with_reducible refine adrZ.go ?_) | (simp [go_sem])))
        refine aIf.mkL (fun hk => ?_) (fun hk => ?_) <;> simp at hk
        · have hkl : k < l.length := by omega
          have hx := hl2 _ (nth_mem hkl)
          (repeat (first | ((with_reducible refine VC.mkL ?_ fun _ => ?_); · first | omega | exact True.intro | rfl) | ((with_reducible refine VC.mkD ?_ fun _ => ?_); · first | omega | exact True.intro | (intros; omega)) | ((with_reducible refine dEnd.mk ?_ ?_); · kernel_rfl) | (with_reducible refine adrZ.go ?_) | (simp [go_sem, hl0, hkl])))
          (refine aIf.mkL (fun hF => by first | omega | (simp at hF; omega)) (fun hF => ?_); clear hF)
          (repeat (first | ((with_reducible refine VC.mkL ?_ fun _ => ?_); · first | omega | exact True.intro | rfl) | ((with_reducible refine VC.mkD ?_ fun _ => ?_); · first | omega | exact True.intro | (intros; omega)) | ((with_reducible refine dEnd.mk ?_ ?_); · kernel_rfl) | (with_reducible refine adrZ.go ?_) | (simp [go_sem])))
          refine ALoop.start (hrec2 (d2 - 1) (by omega) (k + 1) (by omega)) ?_ (by simp)
          simp [go_sem, Wk_eq]
        · (repeat (first | ((with_reducible refine VC.mkL ?_ fun _ => ?_); · first | omega | exact True.intro | rfl) | ((with_reducible refine VC.mkD ?_ fun _ => ?_); · first | omega | exact True.intro | (intros; omega)) | ((with_reducible refine dEnd.mk ?_ ?_); · kernel_rfl) | (with_reducible refine adrZ.go ?_) | (simp [go_sem])))
          refine ALoop.start (hrec (d - 1) (by omega) (s + 1) (by omega)) ?_ (by simp)
          simp [go_sem, Wk_eq]
      · simp
      · simp [go_sem, Wk_eq]
      · simp
  · simp
  · simp [go_sem, Wk_eq]
  · simp
theorem SamePaths_true (a : List PathD) (ha : a.length ≤ 1099511627776) (hb : ActsLe 1048576 a) : Pure Try.prog 60 [encPt a, encPt a] (.v (.bool true)) := by
  refine Pure.of (ACallP.of_awp (by kernel_rfl) Try.func60 rfl rfl (Nat.le_of_ble_eq_true rfl) (by kernel_rfl) ?_)
  (repeat (first | ((with_reducible refine VC.mkL ?_ fun _ => ?_); · first | omega | exact True.intro | rfl) | ((with_reducible refine VC.mkD ?_ fun _ => ?_); · first | omega | exact True.intro | (intros; omega)) | ((with_reducible refine dEnd.mk ?_ ?_); · kernel_rfl) | (with_reducible refine adrZ.go ?_) | (simp [go_sem])))
  refine ALoop.start (ALoop.ind (α := Nat) (fun i => ⟨[(0, encPt a), (1, encPt a), (5, .v (.int .i64 i))], [], 0⟩)
    (fun d i => i + d = a.length) ?_ a.length 0 ?_) ?_ ?_
  · rintro d i i1 hrec
    (repeat (first | ((with_reducible refine VC.mkL ?_ fun _ => ?_); · first | omega | exact True.intro | rfl) | ((with_reducible refine VC.mkD ?_ fun _ => ?_); · first | omega | exact True.intro | (intros; omega)) | ((with_reducible refine dEnd.mk ?_ ?_); · kernel_rfl) | (with_reducible refine adrZ.go ?_) | (simp [go_sem])))
    refine aIf.mkL (fun hi => ?_) (fun hi => ?_) <;> simp at hi
    · have hx := hb _ (nth_mem hi)
      (repeat (first | ((with_reducible refine VC.mkL ?_ fun _ => ?_); · first | omega | exact True.intro | rfl) | ((with_reducible refine VC.mkD ?_ fun _ => ?_); · first | omega | exact True.intro | (intros; omega)) | ((with_reducible refine dEnd.mk ?_ ?_); · kernel_rfl) | (with_reducible refine adrZ.go ?_) | (simp [go_sem, hi])))
      refine ALoop.start (ALoop.ind (α := Nat) (fun k => ⟨[(0, encPt a), (1, encPt a), (5, .v (.int .i64 i)), (6, .v (.int .i64 k))], [], 0⟩)
        (fun d k => k + d = (nth a i).acts.length) ?_ (nth a i).acts.length 0 ?_) ?_ ?_
      · rintro d2 k k1 hrec2
        (repeat (first | ((with_reducible refine VC.mkL ?_ fun _ => ?_); · first | omega | exact True.intro | rfl) | ((with_reducible refine VC.mkD ?_ fun _ => ?_); · first | omega | exact True.intro | (intros; omega)) | ((with_reducible refine dEnd.mk ?_ ?_); · kernel_rfl) | (with_reducible refine adrZ.go ?_) | (simp [go_sem, hi])))
        refine aIf.mkL (fun hk => ?_) (fun hk => ?_) <;> simp at hk
        · (repeat (first | ((with_reducible refine VC.mkL ?_ fun _ => ?_); · first | omega | exact True.intro | rfl) | ((with_reducible refine VC.mkD ?_ fun _ => ?_); · first | omega | exact True.intro | (intros; omega)) | ((with_reducible refine dEnd.mk ?_ ?_); · kernel_rfl) | (with_reducible refine adrZ.go ?_) | (simp [go_sem, hi, hk])))
          refine ALoop.start (hrec2 (d2 - 1) (by omega) (k + 1) (by omega)) ?_ (by simp)
          simp [go_sem, Wk_eq]
        · (repeat (first | ((with_reducible refine VC.mkL ?_ fun _ => ?_); · first | omega | exact True.intro | rfl) | ((with_reducible refine VC.mkD ?_ fun _ => ?_); · first | omega | exact True.intro | (intros; omega)) | ((with_reducible refine dEnd.mk ?_ ?_); · kernel_rfl) | (with_reducible refine adrZ.go ?_) | (simp [go_sem])))
          refine ALoop.start (hrec (d - 1) (by omega) (i + 1) (by omega)) ?_ (by simp)
          simp [go_sem, Wk_eq]
      · simp
      · simp [go_sem, Wk_eq]
      · simp
    · (repeat (first | ((with_reducible refine VC.mkL ?_ fun _ => ?_); · first | omega | exact True.intro | rfl) | ((with_reducible refine VC.mkD ?_ fun _ => ?_); · first | omega | exact True.intro | (intros; omega)) | ((with_reducible refine dEnd.mk ?_ ?_); · kernel_rfl) | (with_reducible refine adrZ.go ?_) | (simp [go_sem])))
  · simp
  · simp [go_sem, Wk_eq]
  · simp
end Go.Av
end
section
set_option linter.unusedSimpArgs false
set_option linter.unusedVariables false
open Go Go.Proofs
set_option maxRecDepth 20000
set_option maxHeartbeats 4000000
namespace Go.Av
def rowG (p : List (Int × Int)) : GameD := ⟨3, [[1, 2, -1], [-1, 0, 1]], [1, 0], [⟨nameA, [p], false⟩], 4, false, [], 3, 2⟩
theorem rowG_ok {p : List (Int × Int)} (hp : ProgOk 2 1 4 p) : GOk (rowG p) := by
  refine ⟨⟨rfl, ?_, ?_, ?_, by simp [rowG, GameD.board], by simp [rowG, GameD.board], by simp [rowG, GameD.board]⟩, by simp [rowG], by simp [rowG], by simp [rowG], by simp [rowG], ?_, by simp [rowG], by simp [rowG], ?_, ?_, by simp [rowG], by simp [rowG], by simp [rowG], by simp [rowG], by simp [rowG], by simp [rowG]⟩
  · intro t ht; simp [rowG, GameD.board] at ht ⊢; omega
  · intro l hl; simp [rowG, GameD.board] at hl ⊢; rcases hl with rfl | rfl <;> rfl
  · intro l hl x hx; simp [rowG, GameD.board] at hl ⊢; rcases hl with rfl | rfl <;> simp at hx <;> omega
  · intro d hd
    simp [rowG] at hd
    rcases (show d = 0 ∨ d = 1 by omega) with rfl | rfl <;> rfl
  · intro k hk; simp [rowG] at hk; subst hk; simp
  · intro k hk q hq; simp [rowG] at hk; subst hk; simp at hq; subst hq; exact hp
theorem row_pure (p : List (Int × Int)) : Pure Try.prog 62 [encProg p] (.agg (encGame (rowG p))) := by
  refine Pure.of (ACallP.of_awp (by kernel_rfl) Try.func62 rfl rfl (Nat.le_of_ble_eq_true rfl) (by kernel_rfl) ?_)
  unfold rowG
  simp only [nameA]
  (repeat (first | ((with_reducible refine VC.mkL ?_ fun _ => ?_); · first | omega | exact True.intro | rfl) | ((with_reducible refine VC.mkD ?_ fun _ => ?_); · first | omega | exact True.intro | (intros; omega)) | ((with_reducible refine dEnd.mk ?_ ?_); · kernel_rfl) | (with_reducible refine adrZ.go ?_) | (simp [go_sem])))
  refine ⟨?_, ?_, ?_⟩ <;> ((try simp only [encProg, encStep, encAct, encAs, encPath, encPt, encOut, encState, encPos, encOs, encSs, encPs, encIs, encGame, List.map_cons, List.map_nil, List.nil_append, List.append_nil, List.cons_append]); (repeat (first | (with_reducible exact LeRow.nil) | (with_reducible exact LeRows.nil) | (with_reducible exact LeV.refl _) | (with_reducible exact LeRow.refl _ _ _ _) | (with_reducible exact LeRows.refl _) | (with_reducible refine LeRow.cons ?_ ?_) | (with_reducible refine LeRows.cons ?_ ?_) | (with_reducible refine LeV.agg ?_) | (with_reducible refine LeV.tup ?_) | (with_reducible refine LeV.fn ?_ ?_) | (with_reducible exact LeV.nil _) | (with_reducible refine leRows_append (LeRows.refl _) ?_) | ((refine leV_frz rfl (by simp) (by simp [frzO, frz1, upd, noH]) ?_); (first | (simp [go_sem]; done) | (simp [go_sem]; exact List.take_of_length_le (by simp)))) | ((refine LeV.frz rfl (by simp) (by simp [frzO, frz1, upd, noH]) ?_); (simp only [List.drop_zero, List.take_succ_cons, List.take_zero, List.map_cons, List.map_nil])) | ((refine LeV.frzP rfl (by simp) (by simp) (by simp [frzO, frz1, upd, noH]) ?_); (simp only [nth_zero, List.drop_zero])))))
def rowP (p : List (Int × Int)) (side cell : Int) : List PathD := pathsP (rowG p).board side p cell
theorem kindP_one (b : BoardD) (side : Int) (p : List (Int × Int)) (cell : Int) : kindP b side [p] cell = pathsP b side p cell := by simp [kindP]
theorem paths8_pure (p : List (Int × Int)) (hp : ProgOk 2 1 4 p) (side cell : Nat) (hs : side < 2) (hc : cell < 3) : Pure Try.prog 61 [encProg p, .v (.int .i64 side), .v (.int .i64 cell)] (encPt (rowP p side cell)) := by
  refine Pure.of (ACallP.of_awp (by kernel_rfl) Try.func61 rfl rfl (Nat.le_of_ble_eq_true rfl) (by kernel_rfl) ?_)
  have hR := row_pure p
  have hg := rowG_ok hp
  have hC := Compile_pure (rowG p) hg
  have hS := Shaped_true (rowG p) hg (codeP (rowG p)) (shape_codeP hg)
  have hcel : cel (encCode (codeP (rowG p))) side = encSide (sideP (rowG p) side) := by
    rcases (show side = 0 ∨ side = 1 by omega) with rfl | rfl <;> rfl
  have hsd : sideP (rowG p) side = [(List.range 3).map fun (c : Nat) => rowP p side c] := by
    unfold sideP cellsP
    simp only [rowG, List.map_cons, List.map_nil, GameD.board, kindP_one]
    rfl
  have hcl : (encCode (codeP (rowG p))).length = 2 := rfl
  have hcb : ∀ n, (∀ c ∈ encCode (codeP (rowG p)), Bel n c) = True := fun n => by simp [go_sem]
  have hgl : (encGame (rowG p)).length = 9 := rfl
  have hgb : ∀ n, (∀ c ∈ encGame (rowG p), Bel n c) = True := fun n => by simp [go_sem]
  rw [hsd] at hcel
  have hne : nth ((List.range 3).map fun (c : Nat) => rowP p side c) cell = rowP p side cell := by
    rw [nth_map _ _ _ (by simpa using hc), nth_eq _ _ (by simpa using hc), List.getElem_range]
  generalize encCode (codeP (rowG p)) = ec at *
  generalize encGame (rowG p) = eg at *
  generalize hL : ((List.range 3).map fun (c : Nat) => rowP p side c) = L at *
  have hLl : L.length = 3 := by rw [← hL]; simp
  generalize rowP p side cell = R at *
  simp only [encSide, encCells, encPt, List.map_cons, List.map_nil] at hcel
  have hcL : cell < L.length := by omega
  (repeat (first | ((with_reducible refine VC.mkL ?_ fun _ => ?_); · first | omega | exact True.intro | rfl) | ((with_reducible refine VC.mkD ?_ fun _ => ?_); · first | omega | exact True.intro | (intros; omega)) | ((with_reducible refine dEnd.mk ?_ ?_); · kernel_rfl) | (with_reducible refine adrZ.go ?_) | (simp [go_sem, hcl, hgl])))
  refine ACallP.plain hR (by simp [go_sem]) ?_
  (repeat (first | ((with_reducible refine VC.mkL ?_ fun _ => ?_); · first | omega | exact True.intro | rfl) | ((with_reducible refine VC.mkD ?_ fun _ => ?_); · first | omega | exact True.intro | (intros; omega)) | ((with_reducible refine dEnd.mk ?_ ?_); · kernel_rfl) | (with_reducible refine adrZ.go ?_) | (simp [go_sem, hcl, hgl])))
  refine ACallP.plain hC (by simp [go_sem, hgb]) ?_
  (repeat (first | ((with_reducible refine VC.mkL ?_ fun _ => ?_); · first | omega | exact True.intro | rfl) | ((with_reducible refine VC.mkD ?_ fun _ => ?_); · first | omega | exact True.intro | (intros; omega)) | ((with_reducible refine dEnd.mk ?_ ?_); · kernel_rfl) | (with_reducible refine adrZ.go ?_) | (simp [go_sem, hcl, hgl])))
  try ((with_reducible refine adrZ.go ?_); (try simp [go_sem]))
  refine dCall.plain hR (by simp [go_sem]) ?_
  (repeat (first | ((with_reducible refine VC.mkL ?_ fun _ => ?_); · first | omega | exact True.intro | rfl) | ((with_reducible refine VC.mkD ?_ fun _ => ?_); · first | omega | exact True.intro | (intros; omega)) | ((with_reducible refine dEnd.mk ?_ ?_); · kernel_rfl) | (with_reducible refine adrZ.go ?_) | (simp [go_sem, hcl, hgl])))
  try ((with_reducible refine adrZ.go ?_); (try simp [go_sem]))
  refine dCall.plain hS (by simp [go_sem, hgb, hcb]) ?_
  (repeat (first | ((with_reducible refine VC.mkL ?_ fun _ => ?_); · first | omega | exact True.intro | rfl) | ((with_reducible refine VC.mkD ?_ fun _ => ?_); · first | omega | exact True.intro | (intros; omega)) | ((with_reducible refine dEnd.mk ?_ ?_); · kernel_rfl) | (with_reducible refine adrZ.go ?_) | (simp [go_sem, hcl, hgl, hcel, hcL, hne])))
theorem cell_pure (g : GameD) (n : Int) : Pure Try.prog 19 [.agg (encGame g), .v (.int .i64 n)] (.v (.bool (decide (0 ≤ n ∧ n < g.cells)))) := by
  refine Pure.of (ACallP.of_awp (by kernel_rfl) Try.func19 rfl rfl (Nat.le_of_ble_eq_true rfl) (by kernel_rfl) ?_)
  (repeat (first | ((with_reducible refine VC.mkL ?_ fun _ => ?_); · first | omega | exact True.intro | rfl) | ((with_reducible refine VC.mkD ?_ fun _ => ?_); · first | omega | exact True.intro | (intros; omega)) | ((with_reducible refine dEnd.mk ?_ ?_); · kernel_rfl) | (with_reducible refine adrZ.go ?_) | (simp [go_sem])))
/-! ### acts -/
theorem acts_pure (g : GameD) (hr : g.rights ≤ 4) (hk : g.kinds.length ≤ 6) (l : List ActD) (hl : l.length ≤ 1048576) (hok : ∀ a ∈ l, ActOk g.cells g.kinds.length g.rights a) (h6 : countA l 6 ≤ 2) (h7 : countA l 7 ≤ 1) (h8 : countA l 8 ≤ 1) :
    Pure Try.prog 20 [.agg (encGame g), encAs l] (.v (.bool true)) := by
  refine Pure.of (ACallP.of_awp (by kernel_rfl) Try.func20 rfl rfl (Nat.le_of_ble_eq_true rfl) (by kernel_rfl) ?_)
  have hC := fun n => cell_pure g n
  have hgl : (encGame g).length = 9 := rfl
  have hgb : ∀ n, (∀ c ∈ encGame g, Bel n c) = True := fun n => by simp [go_sem]
  have hg2 : cel (encGame g) 3 = .lst 3 (g.kinds.map encKind) := rfl
  have hg4 : cel (encGame g) 4 = .v (.int .i64 g.rights) := rfl
  generalize encGame g = eg at *
  (repeat (first | ((with_reducible refine VC.mkL ?_ fun _ => ?_); · first | omega | exact True.intro | rfl) | ((with_reducible refine VC.mkD ?_ fun _ => ?_); · first | omega | exact True.intro | (intros; omega)) | ((with_reducible refine dEnd.mk ?_ ?_); · kernel_rfl) | (with_reducible refine adrZ.go ?_) | (simp [go_sem, hgl])))
  refine ALoop.start (ALoop.ind (α := Nat × Nat × Nat × Nat) (fun a => ⟨[(1, encAs l), (2, .ref 0 0 9 0 0), (5, .v (.int .i64 a.2.1)), (6, .v (.int .i64 a.2.2.1)), (7, .v (.int .i64 a.2.2.2)), (8, .v (.int .i64 a.1))], [(0, .rows true 0 9 [eg])], 1⟩)
    (fun d a => a.1 + d = l.length ∧ a.2.1 + countA (l.drop a.1) 6 ≤ 2 ∧ a.2.2.1 + countA (l.drop a.1) 7 ≤ 1 ∧ a.2.2.2 + countA (l.drop a.1) 8 ≤ 1) ?_ l.length (0, 0, 0, 0) ?_) ?_ ?_
  · rintro d ⟨i, t, p, b⟩ ⟨i1, i2, i3, i4⟩ hrec
    simp only at i1 i2 i3 i4
    (repeat (first | ((with_reducible refine VC.mkL ?_ fun _ => ?_); · first | omega | exact True.intro | rfl) | ((with_reducible refine VC.mkD ?_ fun _ => ?_); · first | omega | exact True.intro | (intros; omega)) | ((with_reducible refine dEnd.mk ?_ ?_); · kernel_rfl) | (with_reducible refine adrZ.go ?_) | (simp [go_sem, hgl])))
    refine aIf.mkL (fun hi => ?_) (fun hi => ?_) <;> simp at hi
    · have ha := hok _ (nth_mem hi)
      rw [dropG_cons hi] at i2 i3 i4
      generalize hx : nth l i = x at *
      obtain ⟨op, A, B⟩ := x
      have hcc : ∀ o, countA ((op, A, B) :: l.drop (i + 1)) o = (if op = o then 1 else 0) + countA (l.drop (i + 1)) o := fun o => by
        simp only [countA, List.countP_cons, beq_iff_eq]
        omega
      rw [hcc] at i2 i3 i4
      rcases ha with ⟨q1, q2, ⟨q3, q4⟩, q5⟩ | ⟨q1, ⟨q2, q3⟩, ⟨q4, q5⟩⟩ | ⟨q1, ⟨q2, q3⟩, q4⟩ | ⟨q1, ⟨q2, q3⟩, q4⟩
      · simp only at q1 q2 q3 q4 q5
        subst q5
        rcases (show op = 3 ∨ op = 4 ∨ op = 5 ∨ op = 6 by omega) with rfl | rfl | rfl | rfl
        all_goals simp at i2 i3 i4
        · (repeat (first | ((with_reducible refine VC.mkL ?_ fun _ => ?_); · first | omega | exact True.intro | rfl) | ((with_reducible refine VC.mkD ?_ fun _ => ?_); · first | omega | exact True.intro | (intros; omega)) | ((with_reducible refine dEnd.mk ?_ ?_); · kernel_rfl) | (with_reducible refine adrZ.go ?_) | (simp [go_sem, hgl, hgb, hi, hx])))
          try ((with_reducible refine adrZ.go ?_); (try simp [go_sem]))
          refine dCall.plain (hC A) (by simp [go_sem, hgb]) ?_
          (repeat (first | ((with_reducible refine VC.mkL ?_ fun _ => ?_); · first | omega | exact True.intro | rfl) | ((with_reducible refine VC.mkD ?_ fun _ => ?_); · first | omega | exact True.intro | (intros; omega)) | ((with_reducible refine dEnd.mk ?_ ?_); · kernel_rfl) | (with_reducible refine adrZ.go ?_) | (simp [go_sem, hgl, hgb, hi, hx, q3, q4])))
          refine ALoop.start (hrec (d - 1) (by omega) (i + 1, t, p, b) ⟨by simp only; omega, by simp only; omega, by simp only; omega, by simp only; omega⟩) ?_ (by simp)
          simp [go_sem, Wk_eq, hgl, hgb]
        · (repeat (first | ((with_reducible refine VC.mkL ?_ fun _ => ?_); · first | omega | exact True.intro | rfl) | ((with_reducible refine VC.mkD ?_ fun _ => ?_); · first | omega | exact True.intro | (intros; omega)) | ((with_reducible refine dEnd.mk ?_ ?_); · kernel_rfl) | (with_reducible refine adrZ.go ?_) | (simp [go_sem, hgl, hgb, hi, hx])))
          try ((with_reducible refine adrZ.go ?_); (try simp [go_sem]))
          refine dCall.plain (hC A) (by simp [go_sem, hgb]) ?_
          (repeat (first | ((with_reducible refine VC.mkL ?_ fun _ => ?_); · first | omega | exact True.intro | rfl) | ((with_reducible refine VC.mkD ?_ fun _ => ?_); · first | omega | exact True.intro | (intros; omega)) | ((with_reducible refine dEnd.mk ?_ ?_); · kernel_rfl) | (with_reducible refine adrZ.go ?_) | (simp [go_sem, hgl, hgb, hi, hx, q3, q4])))
          refine ALoop.start (hrec (d - 1) (by omega) (i + 1, t, p, b) ⟨by simp only; omega, by simp only; omega, by simp only; omega, by simp only; omega⟩) ?_ (by simp)
          simp [go_sem, Wk_eq, hgl, hgb]
        · (repeat (first | ((with_reducible refine VC.mkL ?_ fun _ => ?_); · first | omega | exact True.intro | rfl) | ((with_reducible refine VC.mkD ?_ fun _ => ?_); · first | omega | exact True.intro | (intros; omega)) | ((with_reducible refine dEnd.mk ?_ ?_); · kernel_rfl) | (with_reducible refine adrZ.go ?_) | (simp [go_sem, hgl, hgb, hi, hx])))
          try ((with_reducible refine adrZ.go ?_); (try simp [go_sem]))
          refine dCall.plain (hC A) (by simp [go_sem, hgb]) ?_
          (repeat (first | ((with_reducible refine VC.mkL ?_ fun _ => ?_); · first | omega | exact True.intro | rfl) | ((with_reducible refine VC.mkD ?_ fun _ => ?_); · first | omega | exact True.intro | (intros; omega)) | ((with_reducible refine dEnd.mk ?_ ?_); · kernel_rfl) | (with_reducible refine adrZ.go ?_) | (simp [go_sem, hgl, hgb, hi, hx, q3, q4])))
          refine ALoop.start (hrec (d - 1) (by omega) (i + 1, t, p, b) ⟨by simp only; omega, by simp only; omega, by simp only; omega, by simp only; omega⟩) ?_ (by simp)
          simp [go_sem, Wk_eq, hgl, hgb]
        · (repeat (first | ((with_reducible refine VC.mkL ?_ fun _ => ?_); · first | omega | exact True.intro | rfl) | ((with_reducible refine VC.mkD ?_ fun _ => ?_); · first | omega | exact True.intro | (intros; omega)) | ((with_reducible refine dEnd.mk ?_ ?_); · kernel_rfl) | (with_reducible refine adrZ.go ?_) | (simp [go_sem, hgl, hgb, hi, hx])))
          try ((with_reducible refine adrZ.go ?_); (try simp [go_sem]))
          refine dCall.plain (hC A) (by simp [go_sem, hgb]) ?_
          (repeat (first | ((with_reducible refine VC.mkL ?_ fun _ => ?_); · first | omega | exact True.intro | rfl) | ((with_reducible refine VC.mkD ?_ fun _ => ?_); · first | omega | exact True.intro | (intros; omega)) | ((with_reducible refine dEnd.mk ?_ ?_); · kernel_rfl) | (with_reducible refine adrZ.go ?_) | (simp [go_sem, hgl, hgb, hi, hx, q3, q4])))
          refine ALoop.start (hrec (d - 1) (by omega) (i + 1, t + 1, p, b) ⟨by simp only; omega, by simp only; omega, by simp only; omega, by simp only; omega⟩) ?_ (by simp)
          simp [go_sem, Wk_eq, hgl, hgb]
      · simp only at q1 q2 q3 q4 q5
        subst q1
        simp at i2 i3 i4
        (repeat (first | ((with_reducible refine VC.mkL ?_ fun _ => ?_); · first | omega | exact True.intro | rfl) | ((with_reducible refine VC.mkD ?_ fun _ => ?_); · first | omega | exact True.intro | (intros; omega)) | ((with_reducible refine dEnd.mk ?_ ?_); · kernel_rfl) | (with_reducible refine adrZ.go ?_) | (simp [go_sem, hgl, hgb, hi, hx])))
        try ((with_reducible refine adrZ.go ?_); (try simp [go_sem]))
        refine dCall.plain (hC A) (by simp [go_sem, hgb]) ?_
        (repeat (first | ((with_reducible refine VC.mkL ?_ fun _ => ?_); · first | omega | exact True.intro | rfl) | ((with_reducible refine VC.mkD ?_ fun _ => ?_); · first | omega | exact True.intro | (intros; omega)) | ((with_reducible refine dEnd.mk ?_ ?_); · kernel_rfl) | (with_reducible refine adrZ.go ?_) | (simp [go_sem, hgl, hgb, hi, hx, q2, q3])))
        try ((with_reducible refine adrZ.go ?_); (try simp [go_sem]))
        refine dGC.plain _ (fun _ => hC B) (by simp [go_sem, hgb]) ?_
        (repeat (first | ((with_reducible refine VC.mkL ?_ fun _ => ?_); · first | omega | exact True.intro | rfl) | ((with_reducible refine VC.mkD ?_ fun _ => ?_); · first | omega | exact True.intro | (intros; omega)) | ((with_reducible refine dEnd.mk ?_ ?_); · kernel_rfl) | (with_reducible refine adrZ.go ?_) | (simp [go_sem, hgl, hgb, hi, hx, q4, q5])))
        refine ALoop.start (hrec (d - 1) (by omega) (i + 1, t, p + 1, b) ⟨by simp only; omega, by simp only; omega, by simp only; omega, by simp only; omega⟩) ?_ (by simp)
        simp [go_sem, Wk_eq, hgl, hgb]
      · simp only at q1 q2 q3 q4
        subst q1 q4
        simp at i2 i3 i4
        (repeat (first | ((with_reducible refine VC.mkL ?_ fun _ => ?_); · first | omega | exact True.intro | rfl) | ((with_reducible refine VC.mkD ?_ fun _ => ?_); · first | omega | exact True.intro | (intros; omega)) | ((with_reducible refine dEnd.mk ?_ ?_); · kernel_rfl) | (with_reducible refine adrZ.go ?_) | (simp [go_sem, hgl, hgb, hi, hx, hg2, q2, q3])))
        refine ALoop.start (hrec (d - 1) (by omega) (i + 1, t, p, b + 1) ⟨by simp only; omega, by simp only; omega, by simp only; omega, by simp only; omega⟩) ?_ (by simp)
        simp [go_sem, Wk_eq, hgl, hgb]
      · simp only at q1 q2 q3 q4
        subst q4
        rcases q1 with rfl | rfl
        all_goals simp at i2 i3 i4
        · (repeat (first | ((with_reducible refine VC.mkL ?_ fun _ => ?_); · first | omega | exact True.intro | rfl) | ((with_reducible refine VC.mkD ?_ fun _ => ?_); · first | omega | exact True.intro | (intros; omega)) | ((with_reducible refine dEnd.mk ?_ ?_); · kernel_rfl) | (with_reducible refine adrZ.go ?_) | (simp [go_sem, hgl, hgb, hi, hx, hg4, q2, q3])))
          refine ALoop.start (hrec (d - 1) (by omega) (i + 1, t, p, b) ⟨by simp only; omega, by simp only; omega, by simp only; omega, by simp only; omega⟩) ?_ (by simp)
          simp [go_sem, Wk_eq, hgl, hgb]
        · (repeat (first | ((with_reducible refine VC.mkL ?_ fun _ => ?_); · first | omega | exact True.intro | rfl) | ((with_reducible refine VC.mkD ?_ fun _ => ?_); · first | omega | exact True.intro | (intros; omega)) | ((with_reducible refine dEnd.mk ?_ ?_); · kernel_rfl) | (with_reducible refine adrZ.go ?_) | (simp [go_sem, hgl, hgb, hi, hx, hg4, q2, q3])))
          refine ALoop.start (hrec (d - 1) (by omega) (i + 1, t, p, b) ⟨by simp only; omega, by simp only; omega, by simp only; omega, by simp only; omega⟩) ?_ (by simp)
          simp [go_sem, Wk_eq, hgl, hgb]
    · rw [List.drop_eq_nil_of_le hi] at i2 i3 i4
      simp [countA] at i2 i3 i4
      (repeat (first | ((with_reducible refine VC.mkL ?_ fun _ => ?_); · first | omega | exact True.intro | rfl) | ((with_reducible refine VC.mkD ?_ fun _ => ?_); · first | omega | exact True.intro | (intros; omega)) | ((with_reducible refine dEnd.mk ?_ ?_); · kernel_rfl) | (with_reducible refine adrZ.go ?_) | (simp [go_sem, hgl])))
      rw [show (decide ((t : Int) ≤ 2) && decide ((p : Int) ≤ 1) && decide ((b : Int) ≤ 1)) = true by simp; omega]
      exact .refl _
  · exact ⟨by simp, by simpa using h6, by simpa using h7, by simpa using h8⟩
  · simp [go_sem, Wk_eq, hgl, hgb]
  · simp
end Go.Av
end
section
set_option linter.unusedSimpArgs false
set_option linter.unusedVariables false
open Go Go.Proofs
set_option maxRecDepth 20000
set_option maxHeartbeats 4000000
namespace Go.Av
theorem row_e1 : rowP [(2, 0)] 0 0 = [⟨[], 1⟩, ⟨[(3, 1, 0)], 2⟩] := by rfl
theorem row_e2 : rowP [(2, 0)] 1 0 = [] := by rfl
theorem row_e3 : rowP [(1, 0), (4, 0), (6, 0)] 0 1 = [⟨[(4, 2, 0), (6, 2, 0)], 2⟩] := by rfl
theorem row_e4 : rowP [(1, 0), (7, 0)] 0 0 = [⟨[(7, 1, 2)], 1⟩] := by rfl
theorem row_e5 : rowP [(1, 0), (7, 0)] 0 1 = [] := by rfl
theorem row_e6 : rowP [(9, 3), (1, 0)] 0 0 = [⟨[(9, 3, 0)], 1⟩] := by rfl
theorem row_e7 : countC (codeP (rowG [(2, 0)])) = 6 := by rfl
theorem okp (p : List (Int × Int)) (h1 : 1 ≤ p.length) (h2 : p.length ≤ 8) (h3 : ∀ x ∈ p, StepOk 2 1 4 x) (h4 : countOp p 6 ≤ 2) (h5 : countOp p 7 ≤ 1) (h6 : countOp p 8 ≤ 1) : ProgOk 2 1 4 p := ⟨h1, h2, h3, h4, h5, h6⟩
theorem okS : ProgOk 2 1 4 [(2, 0)] := ⟨by simp, by simp, by simp; exact ⟨by simp, by simp, by simp, by simp, by simp⟩, by decide, by decide, by decide⟩
theorem okT : ProgOk 2 1 4 [(1, 0), (4, 0), (6, 0)] := ⟨by simp, by simp, by simp; refine ⟨?_, ?_, ?_⟩ <;> exact ⟨by simp, by simp, by simp, by simp, by simp⟩, by decide, by decide, by decide⟩
theorem okP : ProgOk 2 1 4 [(1, 0), (7, 0)] := ⟨by simp, by simp, by simp; refine ⟨?_, ?_⟩ <;> exact ⟨by simp, by simp, by simp, by simp, by simp⟩, by decide, by decide, by decide⟩
theorem okN : ProgOk 2 1 4 [(9, 3), (1, 0)] := ⟨by simp, by simp, by simp; refine ⟨?_, ?_⟩ <;> exact ⟨by simp, by simp, by simp, by simp, by simp⟩, by decide, by decide, by decide⟩
theorem sanity8_pure : Pure Try.prog 14 [] (.v (.bool true)) := by
  refine Pure.of (ACallP.of_awp (by kernel_rfl) Try.func14 rfl rfl (Nat.le_of_ble_eq_true rfl) (by kernel_rfl) ?_)
  have p1 := paths8_pure _ okS 0 0 (by omega) (by omega)
  have p2 := paths8_pure _ okS 1 0 (by omega) (by omega)
  have p3 := paths8_pure _ okT 0 1 (by omega) (by omega)
  have p4 := paths8_pure _ okP 0 0 (by omega) (by omega)
  have p5 := paths8_pure _ okP 0 1 (by omega) (by omega)
  have p6 := paths8_pure _ okN 0 0 (by omega) (by omega)
  simp only [Int.natCast_zero, Int.natCast_one, row_e1, row_e2, row_e3, row_e4, row_e5, row_e6, Int.ofNat_eq_natCast, Int.cast_ofNat_Int] at p1 p2 p3 p4 p5 p6
  have s1 := SamePaths_true [⟨[], 1⟩, ⟨[(3, 1, 0)], 2⟩] (by simp) (by simp [ActsLe])
  have s3 := SamePaths_true [⟨[(4, 2, 0), (6, 2, 0)], 2⟩] (by simp) (by simp [ActsLe])
  have s4 := SamePaths_true [⟨[(7, 1, 2)], 1⟩] (by simp) (by simp [ActsLe])
  have s6 := SamePaths_true [⟨[(9, 3, 0)], 1⟩] (by simp) (by simp [ActsLe])
  have c0 := gCount_pure ([], []) (by decide) (by simp) (by simp) (by simp)
  have hRow := row_pure [(2, 0)]
  have hgok := rowG_ok okS
  have hCom := Compile_pure (rowG [(2, 0)]) hgok
  have hsh := shape_codeP hgok
  have hCnt := gCount_pure (codeP (rowG [(2, 0)])) (by rw [row_e7]; omega) (by rw [hsh.l1]; decide) (by rw [hsh.l2]; decide) (fun x hx => by
    have h3 : (rowG [(2, 0)]).cells = 3 := rfl
    rcases List.mem_append.1 hx with h | h
    · have := hsh.c1 x h; omega
    · have := hsh.c2 x h; omega)
  rw [row_e7] at hCnt
  have hegl : (encGame (rowG [(2, 0)])).length = 9 := rfl
  have hegb : ∀ n, (∀ c ∈ encGame (rowG [(2, 0)]), Bel n c) = True := fun n => by simp [go_sem]
  have hecl : (encCode (codeP (rowG [(2, 0)]))).length = 2 := rfl
  have hecb : ∀ n, (∀ c ∈ encCode (codeP (rowG [(2, 0)])), Bel n c) = True := fun n => by simp [go_sem]
  generalize encCode (codeP (rowG [(2, 0)])) = ec at *
  generalize encGame (rowG [(2, 0)]) = eg at *
  have hc0 : countC (([], []) : CodeD) = 0 := rfl
  rw [hc0] at c0
  (repeat (first | ((with_reducible refine VC.mkL ?_ fun _ => ?_); · first | omega | exact True.intro | rfl) | ((with_reducible refine VC.mkD ?_ fun _ => ?_); · first | omega | exact True.intro | (intros; omega)) | ((with_reducible refine dEnd.mk ?_ ?_); · kernel_rfl) | (with_reducible refine adrZ.go ?_) | (simp [go_sem])))
  refine ACallP.pureF [0] p1 ?_ (by simp [go_sem]) ?_
  · ((try simp only [encProg, encStep, encAct, encAs, encPath, encPt, encOut, encState, encPos, encOs, encSs, encPs, encIs, encGame, List.map_cons, List.map_nil, List.nil_append, List.append_nil, List.cons_append]); (repeat (first | (with_reducible exact LeRow.nil) | (with_reducible exact LeRows.nil) | (with_reducible exact LeV.refl _) | (with_reducible exact LeRow.refl _ _ _ _) | (with_reducible exact LeRows.refl _) | (with_reducible refine LeRow.cons ?_ ?_) | (with_reducible refine LeRows.cons ?_ ?_) | (with_reducible refine LeV.agg ?_) | (with_reducible refine LeV.tup ?_) | (with_reducible refine LeV.fn ?_ ?_) | (with_reducible exact LeV.nil _) | (with_reducible refine leRows_append (LeRows.refl _) ?_) | ((refine leV_frz rfl (by simp) (by simp [frzO, frz1, upd, noH]) ?_); (first | (simp [go_sem]; done) | (simp [go_sem]; exact List.take_of_length_le (by simp)))) | ((refine LeV.frz rfl (by simp) (by simp [frzO, frz1, upd, noH]) ?_); (simp only [List.drop_zero, List.take_succ_cons, List.take_zero, List.map_cons, List.map_nil])) | ((refine LeV.frzP rfl (by simp) (by simp) (by simp [frzO, frz1, upd, noH]) ?_); (simp only [nth_zero, List.drop_zero])))))
  (repeat (first | ((with_reducible refine VC.mkL ?_ fun _ => ?_); · first | omega | exact True.intro | rfl) | ((with_reducible refine VC.mkD ?_ fun _ => ?_); · first | omega | exact True.intro | (intros; omega)) | ((with_reducible refine dEnd.mk ?_ ?_); · kernel_rfl) | (with_reducible refine adrZ.go ?_) | (simp [go_sem])))
  refine ACallP.flat s1 (.v _) ?_ (by simp [go_sem]) ?_
  · ((try simp only [encProg, encStep, encAct, encAs, encPath, encPt, encOut, encState, encPos, encOs, encSs, encPs, encIs, encGame, List.map_cons, List.map_nil, List.nil_append, List.append_nil, List.cons_append]); (repeat (first | (with_reducible exact LeRow.nil) | (with_reducible exact LeRows.nil) | (with_reducible exact LeV.refl _) | (with_reducible exact LeRow.refl _ _ _ _) | (with_reducible exact LeRows.refl _) | (with_reducible refine LeRow.cons ?_ ?_) | (with_reducible refine LeRows.cons ?_ ?_) | (with_reducible refine LeV.agg ?_) | (with_reducible refine LeV.tup ?_) | (with_reducible refine LeV.fn ?_ ?_) | (with_reducible exact LeV.nil _) | (with_reducible refine leRows_append (LeRows.refl _) ?_) | ((refine leV_frz rfl (by simp) (by simp [frzO, frz1, upd, noH]) ?_); (first | (simp [go_sem]; done) | (simp [go_sem]; exact List.take_of_length_le (by simp)))) | ((refine LeV.frz rfl (by simp) (by simp [frzO, frz1, upd, noH]) ?_); (simp only [List.drop_zero, List.take_succ_cons, List.take_zero, List.map_cons, List.map_nil])) | ((refine LeV.frzP rfl (by simp) (by simp) (by simp [frzO, frz1, upd, noH]) ?_); (simp only [nth_zero, List.drop_zero])))))
  (repeat (first | ((with_reducible refine VC.mkL ?_ fun _ => ?_); · first | omega | exact True.intro | rfl) | ((with_reducible refine VC.mkD ?_ fun _ => ?_); · first | omega | exact True.intro | (intros; omega)) | ((with_reducible refine dEnd.mk ?_ ?_); · kernel_rfl) | (with_reducible refine adrZ.go ?_) | (simp [go_sem])))
  refine aGC.go ?_
  refine ACallP.pureF [0] p2 ?_ (by simp [go_sem]) ?_
  · ((try simp only [encProg, encStep, encAct, encAs, encPath, encPt, encOut, encState, encPos, encOs, encSs, encPs, encIs, encGame, List.map_cons, List.map_nil, List.nil_append, List.append_nil, List.cons_append]); (repeat (first | (with_reducible exact LeRow.nil) | (with_reducible exact LeRows.nil) | (with_reducible exact LeV.refl _) | (with_reducible exact LeRow.refl _ _ _ _) | (with_reducible exact LeRows.refl _) | (with_reducible refine LeRow.cons ?_ ?_) | (with_reducible refine LeRows.cons ?_ ?_) | (with_reducible refine LeV.agg ?_) | (with_reducible refine LeV.tup ?_) | (with_reducible refine LeV.fn ?_ ?_) | (with_reducible exact LeV.nil _) | (with_reducible refine leRows_append (LeRows.refl _) ?_) | ((refine leV_frz rfl (by simp) (by simp [frzO, frz1, upd, noH]) ?_); (first | (simp [go_sem]; done) | (simp [go_sem]; exact List.take_of_length_le (by simp)))) | ((refine LeV.frz rfl (by simp) (by simp [frzO, frz1, upd, noH]) ?_); (simp only [List.drop_zero, List.take_succ_cons, List.take_zero, List.map_cons, List.map_nil])) | ((refine LeV.frzP rfl (by simp) (by simp) (by simp [frzO, frz1, upd, noH]) ?_); (simp only [nth_zero, List.drop_zero])))))
  (repeat (first | ((with_reducible refine VC.mkL ?_ fun _ => ?_); · first | omega | exact True.intro | rfl) | ((with_reducible refine VC.mkD ?_ fun _ => ?_); · first | omega | exact True.intro | (intros; omega)) | ((with_reducible refine dEnd.mk ?_ ?_); · kernel_rfl) | (with_reducible refine adrZ.go ?_) | (simp [go_sem])))
  refine ACallP.pureF [2] p3 ?_ (by simp [go_sem]) ?_
  · ((try simp only [encProg, encStep, encAct, encAs, encPath, encPt, encOut, encState, encPos, encOs, encSs, encPs, encIs, encGame, List.map_cons, List.map_nil, List.nil_append, List.append_nil, List.cons_append]); (repeat (first | (with_reducible exact LeRow.nil) | (with_reducible exact LeRows.nil) | (with_reducible exact LeV.refl _) | (with_reducible exact LeRow.refl _ _ _ _) | (with_reducible exact LeRows.refl _) | (with_reducible refine LeRow.cons ?_ ?_) | (with_reducible refine LeRows.cons ?_ ?_) | (with_reducible refine LeV.agg ?_) | (with_reducible refine LeV.tup ?_) | (with_reducible refine LeV.fn ?_ ?_) | (with_reducible exact LeV.nil _) | (with_reducible refine leRows_append (LeRows.refl _) ?_) | ((refine leV_frz rfl (by simp) (by simp [frzO, frz1, upd, noH]) ?_); (first | (simp [go_sem]; done) | (simp [go_sem]; exact List.take_of_length_le (by simp)))) | ((refine LeV.frz rfl (by simp) (by simp [frzO, frz1, upd, noH]) ?_); (simp only [List.drop_zero, List.take_succ_cons, List.take_zero, List.map_cons, List.map_nil])) | ((refine LeV.frzP rfl (by simp) (by simp) (by simp [frzO, frz1, upd, noH]) ?_); (simp only [nth_zero, List.drop_zero])))))
  (repeat (first | ((with_reducible refine VC.mkL ?_ fun _ => ?_); · first | omega | exact True.intro | rfl) | ((with_reducible refine VC.mkD ?_ fun _ => ?_); · first | omega | exact True.intro | (intros; omega)) | ((with_reducible refine dEnd.mk ?_ ?_); · kernel_rfl) | (with_reducible refine adrZ.go ?_) | (simp [go_sem])))
  refine ACallP.flat s3 (.v _) ?_ (by simp [go_sem]) ?_
  · ((try simp only [encProg, encStep, encAct, encAs, encPath, encPt, encOut, encState, encPos, encOs, encSs, encPs, encIs, encGame, List.map_cons, List.map_nil, List.nil_append, List.append_nil, List.cons_append]); (repeat (first | (with_reducible exact LeRow.nil) | (with_reducible exact LeRows.nil) | (with_reducible exact LeV.refl _) | (with_reducible exact LeRow.refl _ _ _ _) | (with_reducible exact LeRows.refl _) | (with_reducible refine LeRow.cons ?_ ?_) | (with_reducible refine LeRows.cons ?_ ?_) | (with_reducible refine LeV.agg ?_) | (with_reducible refine LeV.tup ?_) | (with_reducible refine LeV.fn ?_ ?_) | (with_reducible exact LeV.nil _) | (with_reducible refine leRows_append (LeRows.refl _) ?_) | ((refine leV_frz rfl (by simp) (by simp [frzO, frz1, upd, noH]) ?_); (first | (simp [go_sem]; done) | (simp [go_sem]; exact List.take_of_length_le (by simp)))) | ((refine LeV.frz rfl (by simp) (by simp [frzO, frz1, upd, noH]) ?_); (simp only [List.drop_zero, List.take_succ_cons, List.take_zero, List.map_cons, List.map_nil])) | ((refine LeV.frzP rfl (by simp) (by simp) (by simp [frzO, frz1, upd, noH]) ?_); (simp only [nth_zero, List.drop_zero])))))
  (repeat (first | ((with_reducible refine VC.mkL ?_ fun _ => ?_); · first | omega | exact True.intro | rfl) | ((with_reducible refine VC.mkD ?_ fun _ => ?_); · first | omega | exact True.intro | (intros; omega)) | ((with_reducible refine dEnd.mk ?_ ?_); · kernel_rfl) | (with_reducible refine adrZ.go ?_) | (simp [go_sem])))
  refine ACallP.pureF [1] p4 ?_ (by simp [go_sem]) ?_
  · ((try simp only [encProg, encStep, encAct, encAs, encPath, encPt, encOut, encState, encPos, encOs, encSs, encPs, encIs, encGame, List.map_cons, List.map_nil, List.nil_append, List.append_nil, List.cons_append]); (repeat (first | (with_reducible exact LeRow.nil) | (with_reducible exact LeRows.nil) | (with_reducible exact LeV.refl _) | (with_reducible exact LeRow.refl _ _ _ _) | (with_reducible exact LeRows.refl _) | (with_reducible refine LeRow.cons ?_ ?_) | (with_reducible refine LeRows.cons ?_ ?_) | (with_reducible refine LeV.agg ?_) | (with_reducible refine LeV.tup ?_) | (with_reducible refine LeV.fn ?_ ?_) | (with_reducible exact LeV.nil _) | (with_reducible refine leRows_append (LeRows.refl _) ?_) | ((refine leV_frz rfl (by simp) (by simp [frzO, frz1, upd, noH]) ?_); (first | (simp [go_sem]; done) | (simp [go_sem]; exact List.take_of_length_le (by simp)))) | ((refine LeV.frz rfl (by simp) (by simp [frzO, frz1, upd, noH]) ?_); (simp only [List.drop_zero, List.take_succ_cons, List.take_zero, List.map_cons, List.map_nil])) | ((refine LeV.frzP rfl (by simp) (by simp) (by simp [frzO, frz1, upd, noH]) ?_); (simp only [nth_zero, List.drop_zero])))))
  (repeat (first | ((with_reducible refine VC.mkL ?_ fun _ => ?_); · first | omega | exact True.intro | rfl) | ((with_reducible refine VC.mkD ?_ fun _ => ?_); · first | omega | exact True.intro | (intros; omega)) | ((with_reducible refine dEnd.mk ?_ ?_); · kernel_rfl) | (with_reducible refine adrZ.go ?_) | (simp [go_sem])))
  refine ACallP.flat s4 (.v _) ?_ (by simp [go_sem]) ?_
  · ((try simp only [encProg, encStep, encAct, encAs, encPath, encPt, encOut, encState, encPos, encOs, encSs, encPs, encIs, encGame, List.map_cons, List.map_nil, List.nil_append, List.append_nil, List.cons_append]); (repeat (first | (with_reducible exact LeRow.nil) | (with_reducible exact LeRows.nil) | (with_reducible exact LeV.refl _) | (with_reducible exact LeRow.refl _ _ _ _) | (with_reducible exact LeRows.refl _) | (with_reducible refine LeRow.cons ?_ ?_) | (with_reducible refine LeRows.cons ?_ ?_) | (with_reducible refine LeV.agg ?_) | (with_reducible refine LeV.tup ?_) | (with_reducible refine LeV.fn ?_ ?_) | (with_reducible exact LeV.nil _) | (with_reducible refine leRows_append (LeRows.refl _) ?_) | ((refine leV_frz rfl (by simp) (by simp [frzO, frz1, upd, noH]) ?_); (first | (simp [go_sem]; done) | (simp [go_sem]; exact List.take_of_length_le (by simp)))) | ((refine LeV.frz rfl (by simp) (by simp [frzO, frz1, upd, noH]) ?_); (simp only [List.drop_zero, List.take_succ_cons, List.take_zero, List.map_cons, List.map_nil])) | ((refine LeV.frzP rfl (by simp) (by simp) (by simp [frzO, frz1, upd, noH]) ?_); (simp only [nth_zero, List.drop_zero])))))
  (repeat (first | ((with_reducible refine VC.mkL ?_ fun _ => ?_); · first | omega | exact True.intro | rfl) | ((with_reducible refine VC.mkD ?_ fun _ => ?_); · first | omega | exact True.intro | (intros; omega)) | ((with_reducible refine dEnd.mk ?_ ?_); · kernel_rfl) | (with_reducible refine adrZ.go ?_) | (simp [go_sem])))
  refine aGC.go ?_
  refine ACallP.pureF [1] p5 ?_ (by simp [go_sem]) ?_
  · ((try simp only [encProg, encStep, encAct, encAs, encPath, encPt, encOut, encState, encPos, encOs, encSs, encPs, encIs, encGame, List.map_cons, List.map_nil, List.nil_append, List.append_nil, List.cons_append]); (repeat (first | (with_reducible exact LeRow.nil) | (with_reducible exact LeRows.nil) | (with_reducible exact LeV.refl _) | (with_reducible exact LeRow.refl _ _ _ _) | (with_reducible exact LeRows.refl _) | (with_reducible refine LeRow.cons ?_ ?_) | (with_reducible refine LeRows.cons ?_ ?_) | (with_reducible refine LeV.agg ?_) | (with_reducible refine LeV.tup ?_) | (with_reducible refine LeV.fn ?_ ?_) | (with_reducible exact LeV.nil _) | (with_reducible refine leRows_append (LeRows.refl _) ?_) | ((refine leV_frz rfl (by simp) (by simp [frzO, frz1, upd, noH]) ?_); (first | (simp [go_sem]; done) | (simp [go_sem]; exact List.take_of_length_le (by simp)))) | ((refine LeV.frz rfl (by simp) (by simp [frzO, frz1, upd, noH]) ?_); (simp only [List.drop_zero, List.take_succ_cons, List.take_zero, List.map_cons, List.map_nil])) | ((refine LeV.frzP rfl (by simp) (by simp) (by simp [frzO, frz1, upd, noH]) ?_); (simp only [nth_zero, List.drop_zero])))))
  (repeat (first | ((with_reducible refine VC.mkL ?_ fun _ => ?_); · first | omega | exact True.intro | rfl) | ((with_reducible refine VC.mkD ?_ fun _ => ?_); · first | omega | exact True.intro | (intros; omega)) | ((with_reducible refine dEnd.mk ?_ ?_); · kernel_rfl) | (with_reducible refine adrZ.go ?_) | (simp [go_sem])))
  refine aGC.go ?_
  refine ACallP.pureF [3] p6 ?_ (by simp [go_sem]) ?_
  · ((try simp only [encProg, encStep, encAct, encAs, encPath, encPt, encOut, encState, encPos, encOs, encSs, encPs, encIs, encGame, List.map_cons, List.map_nil, List.nil_append, List.append_nil, List.cons_append]); (repeat (first | (with_reducible exact LeRow.nil) | (with_reducible exact LeRows.nil) | (with_reducible exact LeV.refl _) | (with_reducible exact LeRow.refl _ _ _ _) | (with_reducible exact LeRows.refl _) | (with_reducible refine LeRow.cons ?_ ?_) | (with_reducible refine LeRows.cons ?_ ?_) | (with_reducible refine LeV.agg ?_) | (with_reducible refine LeV.tup ?_) | (with_reducible refine LeV.fn ?_ ?_) | (with_reducible exact LeV.nil _) | (with_reducible refine leRows_append (LeRows.refl _) ?_) | ((refine leV_frz rfl (by simp) (by simp [frzO, frz1, upd, noH]) ?_); (first | (simp [go_sem]; done) | (simp [go_sem]; exact List.take_of_length_le (by simp)))) | ((refine LeV.frz rfl (by simp) (by simp [frzO, frz1, upd, noH]) ?_); (simp only [List.drop_zero, List.take_succ_cons, List.take_zero, List.map_cons, List.map_nil])) | ((refine LeV.frzP rfl (by simp) (by simp) (by simp [frzO, frz1, upd, noH]) ?_); (simp only [nth_zero, List.drop_zero])))))
  (repeat (first | ((with_reducible refine VC.mkL ?_ fun _ => ?_); · first | omega | exact True.intro | rfl) | ((with_reducible refine VC.mkD ?_ fun _ => ?_); · first | omega | exact True.intro | (intros; omega)) | ((with_reducible refine dEnd.mk ?_ ?_); · kernel_rfl) | (with_reducible refine adrZ.go ?_) | (simp [go_sem])))
  refine aGC.go ?_
  refine ACallP.flat s6 (.v _) ?_ (by simp [go_sem]) ?_
  · ((try simp only [encProg, encStep, encAct, encAs, encPath, encPt, encOut, encState, encPos, encOs, encSs, encPs, encIs, encGame, List.map_cons, List.map_nil, List.nil_append, List.append_nil, List.cons_append]); (repeat (first | (with_reducible exact LeRow.nil) | (with_reducible exact LeRows.nil) | (with_reducible exact LeV.refl _) | (with_reducible exact LeRow.refl _ _ _ _) | (with_reducible exact LeRows.refl _) | (with_reducible refine LeRow.cons ?_ ?_) | (with_reducible refine LeRows.cons ?_ ?_) | (with_reducible refine LeV.agg ?_) | (with_reducible refine LeV.tup ?_) | (with_reducible refine LeV.fn ?_ ?_) | (with_reducible exact LeV.nil _) | (with_reducible refine leRows_append (LeRows.refl _) ?_) | ((refine leV_frz rfl (by simp) (by simp [frzO, frz1, upd, noH]) ?_); (first | (simp [go_sem]; done) | (simp [go_sem]; exact List.take_of_length_le (by simp)))) | ((refine LeV.frz rfl (by simp) (by simp [frzO, frz1, upd, noH]) ?_); (simp only [List.drop_zero, List.take_succ_cons, List.take_zero, List.map_cons, List.map_nil])) | ((refine LeV.frzP rfl (by simp) (by simp) (by simp [frzO, frz1, upd, noH]) ?_); (simp only [nth_zero, List.drop_zero])))))
  (repeat (first | ((with_reducible refine VC.mkL ?_ fun _ => ?_); · first | omega | exact True.intro | rfl) | ((with_reducible refine VC.mkD ?_ fun _ => ?_); · first | omega | exact True.intro | (intros; omega)) | ((with_reducible refine dEnd.mk ?_ ?_); · kernel_rfl) | (with_reducible refine adrZ.go ?_) | (simp [go_sem])))
  refine aGC.go ?_
  refine ACallP.pureF [0] hRow ?_ (by simp [go_sem]) ?_
  · ((try simp only [encProg, encStep, encAct, encAs, encPath, encPt, encOut, encState, encPos, encOs, encSs, encPs, encIs, encGame, List.map_cons, List.map_nil, List.nil_append, List.append_nil, List.cons_append]); (repeat (first | (with_reducible exact LeRow.nil) | (with_reducible exact LeRows.nil) | (with_reducible exact LeV.refl _) | (with_reducible exact LeRow.refl _ _ _ _) | (with_reducible exact LeRows.refl _) | (with_reducible refine LeRow.cons ?_ ?_) | (with_reducible refine LeRows.cons ?_ ?_) | (with_reducible refine LeV.agg ?_) | (with_reducible refine LeV.tup ?_) | (with_reducible refine LeV.fn ?_ ?_) | (with_reducible exact LeV.nil _) | (with_reducible refine leRows_append (LeRows.refl _) ?_) | ((refine leV_frz rfl (by simp) (by simp [frzO, frz1, upd, noH]) ?_); (first | (simp [go_sem]; done) | (simp [go_sem]; exact List.take_of_length_le (by simp)))) | ((refine LeV.frz rfl (by simp) (by simp [frzO, frz1, upd, noH]) ?_); (simp only [List.drop_zero, List.take_succ_cons, List.take_zero, List.map_cons, List.map_nil])) | ((refine LeV.frzP rfl (by simp) (by simp) (by simp [frzO, frz1, upd, noH]) ?_); (simp only [nth_zero, List.drop_zero])))))
  (repeat (first | ((with_reducible refine VC.mkL ?_ fun _ => ?_); · first | omega | exact True.intro | rfl) | ((with_reducible refine VC.mkD ?_ fun _ => ?_); · first | omega | exact True.intro | (intros; omega)) | ((with_reducible refine dEnd.mk ?_ ?_); · kernel_rfl) | (with_reducible refine adrZ.go ?_) | (simp [go_sem, hegl])))
  refine aGC.plain _ (fun _ => hCom) (by simp [go_sem, hegb]) ?_
  (repeat (first | ((with_reducible refine VC.mkL ?_ fun _ => ?_); · first | omega | exact True.intro | rfl) | ((with_reducible refine VC.mkD ?_ fun _ => ?_); · first | omega | exact True.intro | (intros; omega)) | ((with_reducible refine dEnd.mk ?_ ?_); · kernel_rfl) | (with_reducible refine adrZ.go ?_) | (simp [go_sem, hegl, hecl])))
  refine aGC.plain _ (fun _ => hCnt) (by simp [go_sem, hecb]) ?_
  (repeat (first | ((with_reducible refine VC.mkL ?_ fun _ => ?_); · first | omega | exact True.intro | rfl) | ((with_reducible refine VC.mkD ?_ fun _ => ?_); · first | omega | exact True.intro | (intros; omega)) | ((with_reducible refine dEnd.mk ?_ ?_); · kernel_rfl) | (with_reducible refine adrZ.go ?_) | (simp [go_sem])))
  refine aGC.go ?_
  refine ACallP.flat c0 (.v _) ?_ (by simp [go_sem]) ?_
  · simp only [encCode, encSide, List.map_nil]
    ((try simp only [encProg, encStep, encAct, encAs, encPath, encPt, encOut, encState, encPos, encOs, encSs, encPs, encIs, encGame, List.map_cons, List.map_nil, List.nil_append, List.append_nil, List.cons_append]); (repeat (first | (with_reducible exact LeRow.nil) | (with_reducible exact LeRows.nil) | (with_reducible exact LeV.refl _) | (with_reducible exact LeRow.refl _ _ _ _) | (with_reducible exact LeRows.refl _) | (with_reducible refine LeRow.cons ?_ ?_) | (with_reducible refine LeRows.cons ?_ ?_) | (with_reducible refine LeV.agg ?_) | (with_reducible refine LeV.tup ?_) | (with_reducible refine LeV.fn ?_ ?_) | (with_reducible exact LeV.nil _) | (with_reducible refine leRows_append (LeRows.refl _) ?_) | ((refine leV_frz rfl (by simp) (by simp [frzO, frz1, upd, noH]) ?_); (first | (simp [go_sem]; done) | (simp [go_sem]; exact List.take_of_length_le (by simp)))) | ((refine LeV.frz rfl (by simp) (by simp [frzO, frz1, upd, noH]) ?_); (simp only [List.drop_zero, List.take_succ_cons, List.take_zero, List.map_cons, List.map_nil])) | ((refine LeV.frzP rfl (by simp) (by simp) (by simp [frzO, frz1, upd, noH]) ?_); (simp only [nth_zero, List.drop_zero])))))
  (repeat (first | ((with_reducible refine VC.mkL ?_ fun _ => ?_); · first | omega | exact True.intro | rfl) | ((with_reducible refine VC.mkD ?_ fun _ => ?_); · first | omega | exact True.intro | (intros; omega)) | ((with_reducible refine dEnd.mk ?_ ?_); · kernel_rfl) | (with_reducible refine adrZ.go ?_) | (simp [go_sem])))
end Go.Av
end
