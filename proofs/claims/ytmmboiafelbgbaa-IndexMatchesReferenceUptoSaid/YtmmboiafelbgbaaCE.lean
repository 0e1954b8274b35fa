/- Contracts, part 14: the reference's Valid, Sorted, Find. -/
import Derived.Test.YtmmboiafelbgbaaIdxP
set_option linter.unusedSimpArgs false
set_option linter.unusedVariables false
open Go Go.Proofs
set_option maxRecDepth 20000
set_option maxHeartbeats 2000000
namespace Go.Av
theorem dropG_cons {α : Type} [Inhabited α] {l : List α} {j : Nat} (h : j < l.length) : l.drop j = nth l j :: l.drop (j + 1) := by rw [List.drop_eq_getElem_cons h, nth_eq _ _ h]
/-! ### skewerref04.hands -/
theorem hands_pure (g : GameD) (hg : FitsG g) (l : List Int) (hl : l.length ≤ 9223372036854775807) : Pure Try.prog 80 [.agg (encGame g), encIs l] (.v (.bool (handOk g l))) := by
  refine Pure.of (ACallP.of_awp (by kernel_rfl) Try.func80 rfl rfl (Nat.le_of_ble_eq_true rfl) (by kernel_rfl) ?_)
  unfold FitsG at hg
  (repeat (first | ((with_reducible refine VC.mkL ?_ fun _ => ?_); · first | omega | exact True.intro | rfl) | ((with_reducible refine VC.mkD ?_ fun _ => ?_); · first | omega | exact True.intro | (intros; omega)) | ((with_reducible refine dEnd.mk ?_ ?_); · kernel_rfl) | (simp [go_sem])))
  refine aIf.mkL (fun hn => ?_) (fun hn => ?_) <;> simp at hn
  · have e : handOk g l = false := by simp [handOk]; intro h; omega
    rw [e]
    (repeat (first | ((with_reducible refine VC.mkL ?_ fun _ => ?_); · first | omega | exact True.intro | rfl) | ((with_reducible refine VC.mkD ?_ fun _ => ?_); · first | omega | exact True.intro | (intros; omega)) | ((with_reducible refine dEnd.mk ?_ ?_); · kernel_rfl) | (simp [go_sem])))
  · (repeat (first | ((with_reducible refine VC.mkL ?_ fun _ => ?_); · first | omega | exact True.intro | rfl) | ((with_reducible refine VC.mkD ?_ fun _ => ?_); · first | omega | exact True.intro | (intros; omega)) | ((with_reducible refine dEnd.mk ?_ ?_); · kernel_rfl) | (simp [go_sem])))
    have e : handOk g l = handGo l g.kinds := by simp [handOk]; intro; omega
    rw [e]
    refine ALoop.start (ALoop.ind (α := Nat) (fun j => ⟨[(1, encIs l), (2, .ref 0 0 9 0 0), (5, .v (.int .i64 j))], [(0, .rows true 0 9 [encGame g])], 1⟩)
      (fun d j => j + d = l.length ∧ handGo l g.kinds = handGo (l.drop j) (g.kinds.drop j)) ?_ l.length 0 ?_) ?_ ?_
    · rintro d j ⟨i1, i2⟩ hrec
      (repeat (first | ((with_reducible refine VC.mkL ?_ fun _ => ?_); · first | omega | exact True.intro | rfl) | ((with_reducible refine VC.mkD ?_ fun _ => ?_); · first | omega | exact True.intro | (intros; omega)) | ((with_reducible refine dEnd.mk ?_ ?_); · kernel_rfl) | (simp [go_sem])))
      refine aIf.mkL (fun hj => ?_) (fun hj => ?_) <;> simp at hj
      · have hjk : j < g.kinds.length := by omega
        rw [dropG_cons hj, dropG_cons hjk, handGo] at i2
        generalize hR : handGo (List.drop (j + 1) l) (List.drop (j + 1) g.kinds) = R at *
        cases hkp : (nth g.kinds j).keep
        · rw [hkp] at i2
          (repeat (first | ((with_reducible refine VC.mkL ?_ fun _ => ?_); · first | omega | exact True.intro | rfl) | ((with_reducible refine VC.mkD ?_ fun _ => ?_); · first | omega | exact True.intro | (intros; omega)) | ((with_reducible refine dEnd.mk ?_ ?_); · kernel_rfl) | (simp [go_sem, hj, hjk, hkp])))
          refine aIf.mkL (fun hb => ?_) (fun hb => ?_) <;> simp at hb
          · have e2 : handGo l g.kinds = false := by rw [i2]; simp; intros; omega
            rw [e2]
            (repeat (first | ((with_reducible refine VC.mkL ?_ fun _ => ?_); · first | omega | exact True.intro | rfl) | ((with_reducible refine VC.mkD ?_ fun _ => ?_); · first | omega | exact True.intro | (intros; omega)) | ((with_reducible refine dEnd.mk ?_ ?_); · kernel_rfl) | (simp [go_sem])))
          · have e2 : handGo l g.kinds = R := by
              rw [i2]
              simp [show 0 ≤ nth l j by omega, show nth l j ≤ 8 by omega, show ¬ 0 < nth l j by omega]
            (repeat (first | ((with_reducible refine VC.mkL ?_ fun _ => ?_); · first | omega | exact True.intro | rfl) | ((with_reducible refine VC.mkD ?_ fun _ => ?_); · first | omega | exact True.intro | (intros; omega)) | ((with_reducible refine dEnd.mk ?_ ?_); · kernel_rfl) | (simp [go_sem])))
            refine ALoop.start (hrec (d - 1) (by omega) (j + 1) ⟨by omega, by rw [e2, hR]⟩) ?_ (by simp)
            simp [go_sem, Wk_eq]
        · rw [hkp] at i2
          (repeat (first | ((with_reducible refine VC.mkL ?_ fun _ => ?_); · first | omega | exact True.intro | rfl) | ((with_reducible refine VC.mkD ?_ fun _ => ?_); · first | omega | exact True.intro | (intros; omega)) | ((with_reducible refine dEnd.mk ?_ ?_); · kernel_rfl) | (simp [go_sem, hj, hjk, hkp])))
          refine aIf.mkL (fun hb => ?_) (fun hb => ?_) <;> simp at hb
          · have e2 : handGo l g.kinds = false := by rw [i2]; simp; intros; omega
            rw [e2]
            (repeat (first | ((with_reducible refine VC.mkL ?_ fun _ => ?_); · first | omega | exact True.intro | rfl) | ((with_reducible refine VC.mkD ?_ fun _ => ?_); · first | omega | exact True.intro | (intros; omega)) | ((with_reducible refine dEnd.mk ?_ ?_); · kernel_rfl) | (simp [go_sem])))
          · have e2 : handGo l g.kinds = R := by
              rw [i2]
              simp [show 0 ≤ nth l j by omega, show nth l j ≤ 8 by omega]
            (repeat (first | ((with_reducible refine VC.mkL ?_ fun _ => ?_); · first | omega | exact True.intro | rfl) | ((with_reducible refine VC.mkD ?_ fun _ => ?_); · first | omega | exact True.intro | (intros; omega)) | ((with_reducible refine dEnd.mk ?_ ?_); · kernel_rfl) | (simp [go_sem])))
            refine ALoop.start (hrec (d - 1) (by omega) (j + 1) ⟨by omega, by rw [e2, hR]⟩) ?_ (by simp)
            simp [go_sem, Wk_eq]
      · rw [List.drop_eq_nil_of_le hj, show ∀ ks, handGo [] ks = true from fun ks => by simp [handGo]] at i2
        rw [i2]
        (repeat (first | ((with_reducible refine VC.mkL ?_ fun _ => ?_); · first | omega | exact True.intro | rfl) | ((with_reducible refine VC.mkD ?_ fun _ => ?_); · first | omega | exact True.intro | (intros; omega)) | ((with_reducible refine dEnd.mk ?_ ?_); · kernel_rfl) | (simp [go_sem])))
    · exact ⟨by simp, rfl⟩
    · simp [go_sem, Wk_eq]
    · simp
/-! ### skewerref04.Valid -/
theorem RValid_pure (g : GameD) (hg : FitsG g) (hr : FitsR g) (p : PosD) (hp : FitsP p) : Pure Try.prog 41 [.agg (encGame g), .agg (encPos p)] (.v (.bool (posOk g p))) := by
  refine Pure.of (ACallP.of_awp (by kernel_rfl) Try.func41 rfl rfl (Nat.le_of_ble_eq_true rfl) (by kernel_rfl) ?_)
  obtain ⟨p1, p2, p3⟩ := hp
  obtain ⟨r1, r2⟩ := hr
  have hpow : (0 : Int) ≤ 2 ^ g.rights.toNat ∧ (2 : Int) ^ g.rights.toNat ≤ 1152921504606846976 := by
    have h1 : g.rights.toNat ≤ 60 := by omega
    have h2 : (2 : Int) ^ g.rights.toNat ≤ 2 ^ 60 := by have := Nat.pow_le_pow_right (n := 2) (by omega) h1; exact_mod_cast this
    exact ⟨Int.pow_nonneg (by omega), by simpa using h2⟩
  unfold FitsG at hg
  (repeat (first | ((with_reducible refine VC.mkL ?_ fun _ => ?_); · first | omega | exact True.intro | rfl) | ((with_reducible refine VC.mkD ?_ fun _ => ?_); · first | omega | exact True.intro | (intros; omega)) | ((with_reducible refine dEnd.mk ?_ ?_); · kernel_rfl) | (simp [go_sem])))
  refine dGC.plain _ (fun _ => hands_pure g hg p.h0 (by unfold Fits at p2; omega)) (by simp [go_sem]) ?_
  (repeat (first | ((with_reducible refine VC.mkL ?_ fun _ => ?_); · first | omega | exact True.intro | rfl) | ((with_reducible refine VC.mkD ?_ fun _ => ?_); · first | omega | exact True.intro | (intros; omega)) | ((with_reducible refine dEnd.mk ?_ ?_); · kernel_rfl) | (simp [go_sem])))
  refine dGC.plain _ (fun _ => hands_pure g hg p.h1 (by unfold Fits at p3; omega)) (by simp [go_sem]) ?_
  generalize hpw : (2 : Int) ^ g.rights.toNat = pw at *
  (repeat (first | ((with_reducible refine VC.mkL ?_ fun _ => ?_); · first | omega | exact True.intro | rfl) | ((with_reducible refine VC.mkD ?_ fun _ => ?_); · first | omega | exact True.intro | (intros; omega)) | ((with_reducible refine dEnd.mk ?_ ?_); · kernel_rfl) | (simp [go_sem, hpw])))
  unfold Fits at p1
  refine aIf.mkL (fun hv => ?_) (fun hv => ?_) <;> simp at hv
  · have e : posOk g p = false := by
      rw [Bool.eq_false_iff]
      intro h
      obtain ⟨a1, a2, a3, a4, a5, a6, a7⟩ := posOk_iff.1 h
      rw [hpw] at a6
      rw [a3, a4] at hv
      simp at hv
      omega
    rw [e]
    (repeat (first | ((with_reducible refine VC.mkL ?_ fun _ => ?_); · first | omega | exact True.intro | rfl) | ((with_reducible refine VC.mkD ?_ fun _ => ?_); · first | omega | exact True.intro | (intros; omega)) | ((with_reducible refine dEnd.mk ?_ ?_); · kernel_rfl) | (simp [go_sem])))
  · have hn : ∀ x : Int, (∀ y ∈ p.at_, 0 ≤ y ∧ y ≤ 2 * g.kinds.length) → posOk g p = true := fun _ h => by
      rw [posOk_iff, hpw]
      obtain ⟨⟨⟨⟨⟨⟨b1, b2⟩, b3⟩, b4⟩, b5⟩, b6⟩, b7⟩ := hv
      exact ⟨b1, h, b2, b3, b4, b5, by omega⟩
    (repeat (first | ((with_reducible refine VC.mkL ?_ fun _ => ?_); · first | omega | exact True.intro | rfl) | ((with_reducible refine VC.mkD ?_ fun _ => ?_); · first | omega | exact True.intro | (intros; omega)) | ((with_reducible refine dEnd.mk ?_ ?_); · kernel_rfl) | (simp [go_sem])))
    refine ALoop.start (ALoop.ind (α := Nat) (fun j => ⟨[(2, .ref 0 0 9 0 0), (3, .ref 1 0 5 0 0), (5, .v (.int .i64 j))], [(0, .rows true 0 9 [encGame g]), (1, .rows true 0 5 [encPos p])], 2⟩)
      (fun d j => j + d = p.at_.length ∧ ∀ i, i < j → 0 ≤ nth p.at_ i ∧ nth p.at_ i ≤ 2 * g.kinds.length) ?_ p.at_.length 0 ?_) ?_ ?_
    · rintro d j ⟨i1, i2⟩ hrec
      (repeat (first | ((with_reducible refine VC.mkL ?_ fun _ => ?_); · first | omega | exact True.intro | rfl) | ((with_reducible refine VC.mkD ?_ fun _ => ?_); · first | omega | exact True.intro | (intros; omega)) | ((with_reducible refine dEnd.mk ?_ ?_); · kernel_rfl) | (simp [go_sem])))
      refine aIf.mkL (fun hj => ?_) (fun hj => ?_) <;> simp at hj
      · (repeat (first | ((with_reducible refine VC.mkL ?_ fun _ => ?_); · first | omega | exact True.intro | rfl) | ((with_reducible refine VC.mkD ?_ fun _ => ?_); · first | omega | exact True.intro | (intros; omega)) | ((with_reducible refine dEnd.mk ?_ ?_); · kernel_rfl) | (simp [go_sem, hj])))
        refine aIf.mkL (fun hb => ?_) (fun hb => ?_) <;> simp at hb
        · have e : posOk g p = false := by
            rw [Bool.eq_false_iff]
            intro h
            have := (posOk_iff.1 h).2.1 _ (nth_mem hj)
            omega
          rw [e]
          (repeat (first | ((with_reducible refine VC.mkL ?_ fun _ => ?_); · first | omega | exact True.intro | rfl) | ((with_reducible refine VC.mkD ?_ fun _ => ?_); · first | omega | exact True.intro | (intros; omega)) | ((with_reducible refine dEnd.mk ?_ ?_); · kernel_rfl) | (simp [go_sem])))
        · (repeat (first | ((with_reducible refine VC.mkL ?_ fun _ => ?_); · first | omega | exact True.intro | rfl) | ((with_reducible refine VC.mkD ?_ fun _ => ?_); · first | omega | exact True.intro | (intros; omega)) | ((with_reducible refine dEnd.mk ?_ ?_); · kernel_rfl) | (simp [go_sem])))
          refine ALoop.start (hrec (d - 1) (by omega) (j + 1) ⟨by omega, fun i hi => ?_⟩) ?_ (by simp)
          · rcases Nat.lt_or_ge i j with h | h
            · exact i2 i h
            · obtain rfl : i = j := by omega
              exact hb
          · simp [go_sem, Wk_eq]
      · have e := hn 0 (fun y hy => by
          obtain ⟨i, hi, rfl⟩ := List.getElem_of_mem hy
          rw [← nth_eq _ _ hi]
          exact i2 i (by omega))
        rw [e]
        (repeat (first | ((with_reducible refine VC.mkL ?_ fun _ => ?_); · first | omega | exact True.intro | rfl) | ((with_reducible refine VC.mkD ?_ fun _ => ?_); · first | omega | exact True.intro | (intros; omega)) | ((with_reducible refine dEnd.mk ?_ ?_); · kernel_rfl) | (simp [go_sem])))
    · exact ⟨by simp, fun i hi => by omega⟩
    · simp [go_sem, Wk_eq]
    · simp
/-! ### lists of positions -/
def encPs (l : List PosD) : AV := .lst 5 (l.map encPos)
attribute [go_sem] encPs
instance : Inhabited PosD := ⟨⟨[], [], [], 0, 0⟩⟩
theorem bel_Pos {n : Nat} {p : PosD} : ∀ c ∈ encPos p, Bel n c := by simp [go_sem]
theorem bel_P {n : Nat} {l : List PosD} : (∀ r ∈ l.map encPos, ∀ c ∈ r, Bel n c) = True := by
  refine eq_true ?_
  intro r hr c hc
  obtain ⟨x, _, rfl⟩ := List.mem_map.1 hr
  exact bel_Pos c hc
theorem bel_Ps {n : Nat} {l : List PosD} : Bel n (.lst 5 (l.map encPos)) = True := by rw [Bel_lst, bel_P]
attribute [go_sem high] bel_Ps
def sortedP : List PosD → Bool
  | a :: b :: l => decide (cmpP a b < 0) && sortedP (b :: l)
  | _ => true
theorem Sorted_pure (l : List PosD) (hl : l.length ≤ 1099511627776) (hf : ∀ p ∈ l, FitsP p) : Pure Try.prog 42 [encPs l] (.v (.bool (sortedP l))) := by
  refine Pure.of (ACallP.of_awp (by kernel_rfl) Try.func42 rfl rfl (Nat.le_of_ble_eq_true rfl) (by kernel_rfl) ?_)
  (repeat (first | ((with_reducible refine VC.mkL ?_ fun _ => ?_); · first | omega | exact True.intro | rfl) | ((with_reducible refine VC.mkD ?_ fun _ => ?_); · first | omega | exact True.intro | (intros; omega)) | ((with_reducible refine dEnd.mk ?_ ?_); · kernel_rfl) | (simp [go_sem])))
  refine ALoop.start (ALoop.ind (α := Nat) (fun j => ⟨[(0, encPs l), (3, .v (.int .i64 ((j : Int) + 1)))], [], 0⟩)
    (fun d j => j + d = l.length ∧ sortedP l = sortedP (l.drop j)) ?_ l.length 0 ?_) ?_ ?_
  · rintro d j ⟨i1, i2⟩ hrec
    (repeat (first | ((with_reducible refine VC.mkL ?_ fun _ => ?_); · first | omega | exact True.intro | rfl) | ((with_reducible refine VC.mkD ?_ fun _ => ?_); · first | omega | exact True.intro | (intros; omega)) | ((with_reducible refine dEnd.mk ?_ ?_); · kernel_rfl) | (simp [go_sem])))
    refine aIf.mkL (fun hj => ?_) (fun hj => ?_) <;> simp at hj
    · have h0 : j < l.length := by omega
      have h1 : j + 1 < l.length := by omega
      rw [dropG_cons h0, dropG_cons h1, sortedP, ← dropG_cons h1] at i2
      have e1 : ((j : Int) + 1).toNat = j + 1 := by omega
      (repeat (first | ((with_reducible refine VC.mkL ?_ fun _ => ?_); · first | omega | exact True.intro | rfl) | ((with_reducible refine VC.mkD ?_ fun _ => ?_); · first | omega | exact True.intro | (intros; omega)) | ((with_reducible refine dEnd.mk ?_ ?_); · kernel_rfl) | (simp [go_sem, h0, h1, e1])))
      refine dCall.plain (Compare_pure (nth l j) (nth l (j + 1)) (hf _ (nth_mem h0)) (hf _ (nth_mem h1))) (by simp [go_sem]) ?_
      generalize hc : cmpP (nth l j) (nth l (j + 1)) = c at *
      (repeat (first | ((with_reducible refine VC.mkL ?_ fun _ => ?_); · first | omega | exact True.intro | rfl) | ((with_reducible refine VC.mkD ?_ fun _ => ?_); · first | omega | exact True.intro | (intros; omega)) | ((with_reducible refine dEnd.mk ?_ ?_); · kernel_rfl) | (simp [go_sem])))
      refine aIf.mkL (fun hb => ?_) (fun hb => ?_) <;> simp at hb
      · have e : sortedP l = false := by rw [i2]; simp; omega
        rw [e]
        (repeat (first | ((with_reducible refine VC.mkL ?_ fun _ => ?_); · first | omega | exact True.intro | rfl) | ((with_reducible refine VC.mkD ?_ fun _ => ?_); · first | omega | exact True.intro | (intros; omega)) | ((with_reducible refine dEnd.mk ?_ ?_); · kernel_rfl) | (simp [go_sem])))
      · have e : sortedP l = sortedP (l.drop (j + 1)) := by rw [i2]; simp; omega
        (repeat (first | ((with_reducible refine VC.mkL ?_ fun _ => ?_); · first | omega | exact True.intro | rfl) | ((with_reducible refine VC.mkD ?_ fun _ => ?_); · first | omega | exact True.intro | (intros; omega)) | ((with_reducible refine dEnd.mk ?_ ?_); · kernel_rfl) | (simp [go_sem])))
        refine ALoop.start (hrec (d - 1) (by omega) (j + 1) ⟨by omega, e⟩) ?_ (by simp)
        simp [go_sem, Wk_eq]
    · have e : sortedP l = true := by
        rw [i2]
        cases h : l.drop j with
        | nil => rfl
        | cons a t =>
          have : (l.drop j).length = (a :: t).length := by rw [h]
          simp at this
          have : t = [] := List.eq_nil_of_length_eq_zero (by omega)
          subst this; rfl
      rw [e]
      (repeat (first | ((with_reducible refine VC.mkL ?_ fun _ => ?_); · first | omega | exact True.intro | rfl) | ((with_reducible refine VC.mkD ?_ fun _ => ?_); · first | omega | exact True.intro | (intros; omega)) | ((with_reducible refine dEnd.mk ?_ ?_); · kernel_rfl) | (simp [go_sem])))
  · exact ⟨by simp, rfl⟩
  · simp [go_sem, Wk_eq]
  · simp
def findGo (l : List PosD) (p : PosD) : Nat → Nat → Nat → Int
  | 0, _, _ => -1
  | f + 1, lo, hi => if lo < hi then (if cmpP p (nth l ((lo + hi) / 2)) = 0 then (((lo + hi) / 2 : Nat) : Int) else if cmpP p (nth l ((lo + hi) / 2)) < 0 then findGo l p f lo ((lo + hi) / 2) else findGo l p f ((lo + hi) / 2 + 1) hi) else -1
def findP (l : List PosD) (p : PosD) : Int := findGo l p (l.length + 1) 0 l.length
theorem Find_pure (l : List PosD) (p : PosD) (hl : l.length ≤ 1099511627776) (hf : ∀ q ∈ l, FitsP q) (hp : FitsP p) : Pure Try.prog 43 [encPs l, .agg (encPos p)] (.v (.int .i64 (findP l p))) := by
  refine Pure.of (ACallP.of_awp (by kernel_rfl) Try.func43 rfl rfl (Nat.le_of_ble_eq_true rfl) (by kernel_rfl) ?_)
  (repeat (first | ((with_reducible refine VC.mkL ?_ fun _ => ?_); · first | omega | exact True.intro | rfl) | ((with_reducible refine VC.mkD ?_ fun _ => ?_); · first | omega | exact True.intro | (intros; omega)) | ((with_reducible refine dEnd.mk ?_ ?_); · kernel_rfl) | (simp [go_sem])))
  refine ALoop.start (ALoop.ind (α := Nat × Nat) (fun a => ⟨[(0, encPs l), (3, .ref 0 0 5 0 0), (5, .v (.int .i64 a.1)), (6, .v (.int .i64 a.2))], [(0, .rows true 0 5 [encPos p])], 1⟩)
    (fun d a => a.2 ≤ l.length ∧ a.2 - a.1 < d ∧ findP l p = findGo l p d a.1 a.2) ?_ (l.length + 1) (0, l.length) ?_) ?_ ?_
  · rintro d ⟨lo, hi⟩ ⟨i1, i2, i3⟩ hrec
    simp only at i1 i2 i3
    obtain ⟨d, rfl⟩ : ∃ d', d = d' + 1 := ⟨d - 1, by omega⟩
    rw [findGo] at i3
    have hdiv : ((lo : Int) + hi).tdiv 2 = ((lo + hi) / 2 : Nat) := by rw [Int.tdiv_eq_ediv_of_nonneg (by omega)]; omega
    (repeat (first | ((with_reducible refine VC.mkL ?_ fun _ => ?_); · first | omega | exact True.intro | rfl) | ((with_reducible refine VC.mkD ?_ fun _ => ?_); · first | omega | exact True.intro | (intros; omega)) | ((with_reducible refine dEnd.mk ?_ ?_); · kernel_rfl) | (simp [go_sem])))
    refine aIf.mkL (fun hlt => ?_) (fun hlt => ?_) <;> simp at hlt
    · rw [if_pos hlt] at i3
      have hm : (lo + hi) / 2 < l.length := by omega
      have hm2 : lo ≤ (lo + hi) / 2 ∧ (lo + hi) / 2 < hi := by omega
      generalize hmid : (lo + hi) / 2 = mid at *
      (repeat (first | ((with_reducible refine VC.mkL ?_ fun _ => ?_); · first | omega | exact True.intro | rfl) | ((with_reducible refine VC.mkD ?_ fun _ => ?_); · first | omega | exact True.intro | (intros; omega)) | ((with_reducible refine dEnd.mk ?_ ?_); · kernel_rfl) | (simp [go_sem, hdiv, hm])))
      refine dCall.plain (Compare_pure p (nth l mid) hp (hf _ (nth_mem hm))) (by simp [go_sem]) ?_
      generalize hc : cmpP p (nth l mid) = c at *
      (repeat (first | ((with_reducible refine VC.mkL ?_ fun _ => ?_); · first | omega | exact True.intro | rfl) | ((with_reducible refine VC.mkD ?_ fun _ => ?_); · first | omega | exact True.intro | (intros; omega)) | ((with_reducible refine dEnd.mk ?_ ?_); · kernel_rfl) | (simp [go_sem])))
      refine aIf.mkL (fun hz => ?_) (fun hz => ?_) <;> simp at hz
      · rw [if_pos hz] at i3
        rw [i3]
        (repeat (first | ((with_reducible refine VC.mkL ?_ fun _ => ?_); · first | omega | exact True.intro | rfl) | ((with_reducible refine VC.mkD ?_ fun _ => ?_); · first | omega | exact True.intro | (intros; omega)) | ((with_reducible refine dEnd.mk ?_ ?_); · kernel_rfl) | (simp [go_sem])))
      · rw [if_neg hz] at i3
        (repeat (first | ((with_reducible refine VC.mkL ?_ fun _ => ?_); · first | omega | exact True.intro | rfl) | ((with_reducible refine VC.mkD ?_ fun _ => ?_); · first | omega | exact True.intro | (intros; omega)) | ((with_reducible refine dEnd.mk ?_ ?_); · kernel_rfl) | (simp [go_sem])))
        refine aIf.mkL (fun hn => ?_) (fun hn => ?_) <;> simp at hn
        · rw [if_pos hn] at i3
          (repeat (first | ((with_reducible refine VC.mkL ?_ fun _ => ?_); · first | omega | exact True.intro | rfl) | ((with_reducible refine VC.mkD ?_ fun _ => ?_); · first | omega | exact True.intro | (intros; omega)) | ((with_reducible refine dEnd.mk ?_ ?_); · kernel_rfl) | (simp [go_sem])))
          refine ALoop.start (hrec d (by omega) (lo, mid) ⟨by simp only; omega, by simp only; omega, i3⟩) ?_ (by simp)
          simp [go_sem, Wk_eq]
        · rw [if_neg (by omega)] at i3
          (repeat (first | ((with_reducible refine VC.mkL ?_ fun _ => ?_); · first | omega | exact True.intro | rfl) | ((with_reducible refine VC.mkD ?_ fun _ => ?_); · first | omega | exact True.intro | (intros; omega)) | ((with_reducible refine dEnd.mk ?_ ?_); · kernel_rfl) | (simp [go_sem])))
          refine ALoop.start (hrec d (by omega) (mid + 1, hi) ⟨by simp only; omega, by simp only; omega, i3⟩) ?_ (by simp)
          simp [go_sem, Wk_eq]
    · rw [if_neg (by omega)] at i3
      rw [i3]
      (repeat (first | ((with_reducible refine VC.mkL ?_ fun _ => ?_); · first | omega | exact True.intro | rfl) | ((with_reducible refine VC.mkD ?_ fun _ => ?_); · first | omega | exact True.intro | (intros; omega)) | ((with_reducible refine dEnd.mk ?_ ?_); · kernel_rfl) | (simp [go_sem])))
  · exact ⟨by simp, by simp, rfl⟩
  · simp [go_sem, Wk_eq]
  · simp
end Go.Av
