/- Contracts, part 2: copies; the standard library. -/
import Derived.Test.YtmmboiafelbgbaaC1

set_option linter.unusedSimpArgs false
set_option linter.unusedVariables false
open Go Go.Proofs
namespace Go.Av
/-! ### skewerref05.Copied -/
theorem Copied_owns (p : PosD) (ha : FitsP p) : Owns Try.prog 38 [.agg (encPos p)] (fun n => ownPos (n + 2) p) (fun n => ownPosH (n + 2) p) 11 := by
  refine ⟨ACallP.of_awp (by kernel_rfl) Try.func38 rfl rfl (Nat.le_of_ble_eq_true rfl) (by kernel_rfl) ?_, fun n => ⟨?_, ?_⟩⟩
  · simp [go_sem]
    refine ACallP.ownsPlain (copied_owns p ha) (by simp [go_sem]) ?_
    simp [go_sem, Wk_eq]
  · simp [go_sem]
  · simp [go_sem]
/-! ### slices.Clone -/
theorem Clone_owns (l : List Int) (hl : Fits l) : Owns Try.prog 69 [encIs l] (fun n => .sl n 1 1 0 l.length) (fun n => [(n, .rows true 1 1 (l.map encI))]) 1 := by
  refine ⟨ACallP.emp (fun hne => ACallP.of_awp (by kernel_rfl) Try.func69 rfl rfl (Nat.le_of_ble_eq_true rfl) (by kernel_rfl) ?_)
    (fun he A c => ACallP.of_awp (by kernel_rfl) Try.func69 rfl rfl (Nat.le_of_ble_eq_true rfl) (by kernel_rfl) ?_), fun n => ⟨?_, ?_⟩⟩
  · unfold Fits at hl
    obtain ⟨x, l, rfl⟩ := List.exists_cons_of_ne_nil (show l ≠ [] by intro h; subst h; exact hne rfl)
    simp only [List.length_cons] at hl
    simp [go_sem]
    refine VC.mkL (by omega) fun _ => ?_
    simp [go_sem, Wk_eq]
  · obtain rfl : l = [] := by simpa using he
    simp [go_sem]
    refine aIf.mkL (fun h => ?_) (fun h => ?_)
    · simp at h
      subst h
      simp [go_sem, Wk_eq]
    · simp [go_sem, Wk_eq]
  · simp [go_sem]
  · simp [go_sem]
theorem Clone_pure (l : List Int) (hl : Fits l) : Pure Try.prog 69 [encIs l] (encIs l) :=
  (Clone_owns l hl).pure (leV_frz rfl (by simp) (by simp [noH]) (by rw [List.drop_zero, List.take_of_length_le (by simp)])) (by simp [go_sem])
/-! ### slices.IndexFunc, slices.ContainsFunc -/
def idxOf (p : Int → Bool) (l : List Int) : Int := match l.findIdx? p with | some i => (i : Int) | none => -1
theorem idxOf_at {p : Int → Bool} {l : List Int} {j : Nat} (hj : j < l.length) (h : ∀ i, i < j → p (nth l i) = false) (hp : p (nth l j) = true) : idxOf p l = j := by
  have : l.findIdx? p = some j := by
    rw [List.findIdx?_eq_some_iff_getElem]
    refine ⟨hj, by rw [← nth_eq _ _ hj]; exact hp, fun i hi => ?_⟩
    have := h i hi
    rw [nth_eq _ _ (by omega)] at this
    simp [this]
  simp [idxOf, this]
theorem idxOf_none {p : Int → Bool} {l : List Int} (h : ∀ i, i < l.length → p (nth l i) = false) : idxOf p l = -1 := by
  have : l.findIdx? p = none := by
    rw [List.findIdx?_eq_none_iff]
    intro x hx
    obtain ⟨i, hi, rfl⟩ := List.getElem_of_mem hx
    have := h i hi
    rw [nth_eq _ _ hi] at this
    exact this
  simp [idxOf, this]
theorem idxOf_any {p : Int → Bool} {l : List Int} : decide (0 ≤ idxOf p l) = l.any p := by
  unfold idxOf
  cases h : l.findIdx? p with
  | none =>
    rw [List.findIdx?_eq_none_iff] at h
    simp
    simpa using h
  | some i =>
    have := List.findIdx?_isSome (xs := l) (p := p)
    rw [h] at this
    simp at this ⊢
    exact this
theorem IndexFunc_pure (l : List Int) (hl : Fits l) (f : FuncId) (first caps : List AV) (p : Int → Bool) (hp : ∀ x ∈ l, Pure Try.prog f (first ++ .v (.int .i64 x) :: caps) (.v (.bool (p x)))) (hb : ∀ c ∈ first, Bel 0 c) (hb' : ∀ c ∈ caps, Bel 0 c) :
    Pure Try.prog 99 [encIs l, .fn (.func f) first caps] (.v (.int .i64 (idxOf p l))) := by
  refine Pure.of (ACallP.of_awp (by kernel_rfl) Try.func99 rfl rfl (Nat.le_of_ble_eq_true rfl) (by kernel_rfl) ?_)
  unfold Fits at hl
  simp [go_sem]
  refine ALoop.start (ALoop.ind (α := Nat) (fun j => ⟨[(0, encIs l), (1, .fn (.func f) first caps), (7, .v (.int .i64 l.length)), (8, .v (.int .i64 j))], [], 0⟩)
    (fun d j => j + d = l.length ∧ (∀ i < j, p (nth l i) = false)) ?_ l.length 0 ?_) ?_ ?_
  · rintro d j ⟨i1, i2⟩ hrec
    simp [go_sem]
    refine aIf.mkL (fun hj => ?_) (fun hj => ?_)
    · simp at hj
      simp [go_sem]
      refine VC.mkL hj fun _ => ?_
      simp [go_sem, hj]
      refine ACallP.plain (hp _ (nth_mem hj)) (fun c hc => by
        rcases List.mem_append.1 hc with h | h
        · exact hb c h
        · rcases List.mem_cons.1 h with rfl | h
          · exact .v _
          · exact hb' c h) ?_
      simp [go_sem]
      refine aIf.mkL (fun h => ?_) (fun h => ?_)
      · simp [go_sem, idxOf_at hj i2 h]
      · simp [go_sem]
        refine VC.mkL (by omega) fun _ => ?_
        simp [go_sem]
        refine ALoop.start (hrec (d - 1) (by omega) (j + 1) ⟨by omega, fun i hi => ?_⟩) ?_ (by simp)
        · rcases Nat.lt_or_ge i j with h' | h'
          · exact i2 i h'
          · obtain rfl : i = j := by omega
            exact h
        · simp [go_sem, Wk_eq]
          exact ⟨hb, hb'⟩
    · simp at hj
      simp [go_sem, idxOf_none fun i hi => i2 i (by omega)]
  · simp
  · simp [go_sem, Wk_eq]
    exact ⟨hb, hb'⟩
  · simp
theorem ContainsFunc_pure (l : List Int) (hl : Fits l) (f : FuncId) (first caps : List AV) (p : Int → Bool) (hp : ∀ x ∈ l, Pure Try.prog f (first ++ .v (.int .i64 x) :: caps) (.v (.bool (p x)))) (hb : ∀ c ∈ first, Bel 0 c) (hb' : ∀ c ∈ caps, Bel 0 c) :
    Pure Try.prog 73 [encIs l, .fn (.func f) first caps] (.v (.bool (l.any p))) := by
  refine Pure.of (ACallP.of_awp (by kernel_rfl) Try.func73 rfl rfl (Nat.le_of_ble_eq_true rfl) (by kernel_rfl) ?_)
  simp [go_sem]
  refine ACallP.plain (IndexFunc_pure l hl f first caps p hp hb hb') (by simp [go_sem]; exact ⟨hb, hb'⟩) ?_
  simp [go_sem, idxOf_any]
end Go.Av
