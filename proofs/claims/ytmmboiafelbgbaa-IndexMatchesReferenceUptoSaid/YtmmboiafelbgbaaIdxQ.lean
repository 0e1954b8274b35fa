/- The reference's Valid and Ways of chapter 14 say the same as the program's. -/
import Derived.Test.YtmmboiafelbgbaaCE
set_option linter.unusedSimpArgs false
set_option linter.unusedVariables false
namespace Go.Av
def leftGo : List Int → Int → Bool
  | [], l => decide (l = 0)
  | x :: t, l => !decide (x < 0) && !decide (l < x) && leftGo t (l - x)
def zerosP (g : GameD) (m : PosD) : PosD := { m with at_ := List.replicate g.cells.toNat 0 }
def matR (g : GameD) (m : PosD) : Bool := decide ((m.at_.length : Int) = 1 + 2 * g.kinds.length) && leftGo m.at_ g.cells && posOk g (zerosP g m)
theorem toN_sum {l : List Int} (h : ∀ x ∈ l, 0 ≤ x) : (((toN l).sum : Nat) : Int) = l.sum := by
  induction l with
  | nil => rfl
  | cons x l ih =>
    have h1 := h x (by simp)
    have h2 := ih fun y hy => h y (by simp [hy])
    simp only [toN, List.map_cons, List.sum_cons] at h2 ⊢
    omega
theorem sum_nonneg' {l : List Int} (h : ∀ x ∈ l, 0 ≤ x) : 0 ≤ l.sum := by
  have := toN_sum h; omega
theorem leftGo_iff : ∀ (l : List Int) (c : Int), 0 ≤ c → (leftGo l c = true ↔ (∀ x ∈ l, 0 ≤ x) ∧ l.sum = c)
  | [], c, h => by simp [leftGo]; omega
  | x :: l, c, h => by
    simp only [leftGo, Bool.and_eq_true, Bool.not_eq_true', decide_eq_false_iff_not, List.sum_cons]
    constructor
    · rintro ⟨⟨h1, h2⟩, h3⟩
      obtain ⟨h4, h5⟩ := (leftGo_iff l (c - x) (by omega)).1 h3
      refine ⟨fun y hy => ?_, by omega⟩
      rcases List.mem_cons.1 hy with rfl | hy
      · omega
      · exact h4 y hy
    · rintro ⟨h1, h2⟩
      have hx := h1 x (by simp)
      have hl : ∀ y ∈ l, 0 ≤ y := fun y hy => h1 y (by simp [hy])
      have hs := sum_nonneg' hl
      exact ⟨⟨by omega, by omega⟩, (leftGo_iff l (c - x) (by omega)).2 ⟨hl, by omega⟩⟩
theorem le_sum {l : List Int} (h : ∀ x ∈ l, 0 ≤ x) : ∀ x ∈ l, x ≤ l.sum := by
  induction l with
  | nil => intro x hx; cases hx
  | cons y l ih =>
    intro x hx
    have hy := h y (by simp)
    have hl : ∀ z ∈ l, 0 ≤ z := fun z hz => h z (by simp [hz])
    have hs := sum_nonneg' hl
    simp only [List.sum_cons]
    rcases List.mem_cons.1 hx with rfl | hx
    · omega
    · have := ih hl x hx; omega
theorem matR_eq {g : GameD} (h0 : 0 ≤ g.cells) (m : PosD) : matR g m = matOk g m := by
  rw [Bool.eq_iff_iff]
  unfold matR matOk
  simp only [Bool.and_eq_true, decide_eq_true_eq, Bool.not_eq_true', List.any_eq_false, leftGo_iff _ _ h0, posOk_iff]
  constructor
  · rintro ⟨⟨h1, h2, h3⟩, h4, h5, h6, h7, h8, h9, h10⟩
    refine ⟨⟨h1, fun x hx => ?_⟩, ?_, fun x hx => ?_, h6, h7, h8, h9, h10⟩
    · have := h2 x hx
      have := le_sum h2 x hx
      simp [oddN]; omega
    · have := toN_sum h2
      simp only [filledP, fillL_len]; omega
    · have := fillL_mem _ _ _ hx
      omega
  · rintro ⟨⟨h1, h2⟩, h3, h4, h5, h6, h7, h8, h9⟩
    have h2' : ∀ x ∈ m.at_, 0 ≤ x := fun x hx => by have := h2 x hx; simp [oddN] at this; omega
    have := toN_sum h2'
    simp only [filledP, fillL_len] at h3
    refine ⟨⟨h1, h2', by omega⟩, ?_, fun x hx => ?_, h5, h6, h7, h8, h9⟩
    · simp [zerosP]; omega
    · simp only [zerosP] at hx
      have := (List.mem_replicate.1 hx).2
      omega
theorem matOk_facts {g : GameD} {m : PosD} (h : matOk g m = true) (h0 : 0 ≤ g.cells) : (m.at_.length : Int) = 1 + 2 * g.kinds.length ∧ (∀ x ∈ m.at_, 0 ≤ x ∧ x ≤ g.cells) ∧ ((toN m.at_).sum : Int) = g.cells := by
  rw [← matR_eq h0] at h
  unfold matR at h
  simp only [Bool.and_eq_true, decide_eq_true_eq, leftGo_iff _ _ h0] at h
  obtain ⟨⟨h1, h2, h3⟩, _⟩ := h
  refine ⟨h1, fun x hx => ⟨h2 x hx, ?_⟩, ?_⟩
  · have := le_sum h2 x hx; omega
  · rw [toN_sum h2]; exact h3
theorem waysR_ways {l : List Int} (h : ∀ x ∈ l, 0 ≤ x) (hs : (toN l).sum ≤ 1048576) : waysR l = ways l := by rw [waysR_toN h, ways_toN h hs]
theorem set_dec_sum {m : List Int} {x : Nat} (h : ∀ x ∈ m, 0 ≤ x) (hp : 1 ≤ nth m x) : (toN (m.set x (nth m x - 1))).sum ≤ (toN m).sum := by
  rw [toN_set]
  have := dec_sum (toN m) x (by rw [toN_getD]; omega)
  omega
/-- what the reference adds for a content -/
theorem takeN_waysR {m : List Int} (h : ∀ x ∈ m, 0 ≤ x) (hs : (toN m).sum ≤ 1048576) {x : Nat} (hx : x < m.length) : takeN m x = if nth m x = 0 then 0 else waysR (m.set x (nth m x - 1)) := by
  have hn := h _ (nth_mem hx)
  unfold takeN
  by_cases hz : nth m x = 0
  · rw [if_pos (by omega), if_pos hz]
  · rw [if_neg (by omega), if_neg hz, waysR_ways (set_nonneg h (by omega)) (by have := set_dec_sum h (show 1 ≤ nth m x by omega); omega)]
end Go.Av
