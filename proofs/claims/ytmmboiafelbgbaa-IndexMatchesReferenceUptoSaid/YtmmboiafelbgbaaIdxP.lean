/- Positions that are drawn are valid; the material of a valid position is valid. -/
import Derived.Test.YtmmboiafelbgbaaCD
import Derived.Test.YtmmboiafelbgbaaIdxL
set_option linter.unusedSimpArgs false
set_option linter.unusedVariables false
open Go
namespace Go.Av
theorem fillL_len : ∀ (l : List Int) (c : Nat), (fillL c l).length = (toN l).sum
  | [], c => rfl
  | k :: l, c => by
    have := fillL_len l (c + 1)
    simp only [fillL, List.length_append, List.length_replicate, this]
    rfl
theorem fillL_mem : ∀ (l : List Int) (c : Nat) (x : Int), x ∈ fillL c l → (c : Int) ≤ x ∧ x < c + l.length
  | [], c, x, h => by simp [fillL] at h
  | k :: l, c, x, h => by
    simp only [fillL, List.mem_append, List.mem_replicate] at h
    rcases h with ⟨_, rfl⟩ | h
    · simp; omega
    · have := fillL_mem l (c + 1) x h
      simp at this ⊢; omega
theorem posOk_iff {g : GameD} {p : PosD} : posOk g p = true ↔ ((p.at_.length : Int) = g.cells ∧ (∀ x ∈ p.at_, 0 ≤ x ∧ x ≤ 2 * g.kinds.length) ∧ handOk g p.h0 = true ∧ handOk g p.h1 = true ∧ 0 ≤ p.rights ∧ p.rights < 2 ^ g.rights.toNat ∧ (p.side = 0 ∨ p.side = 1)) := by
  unfold posOk
  simp [contOk, and_assoc]
theorem matOk_of {g : GameD} {p : PosD} (h : posOk g p = true) : matOk g (ofP g p) = true := by
  obtain ⟨h1, h2, h3, h4, h5, h6, h7⟩ := posOk_iff.1 h
  have hK : ∀ c ∈ p.at_, c.toNat < 1 + 2 * g.kinds.length := fun c hc => by have := h2 c hc; omega
  have hm := menOf_mem hK
  have hl := menOf_length (1 + 2 * g.kinds.length) p.at_
  have hany : (menOf (1 + 2 * g.kinds.length) p.at_).any (oddN g) = false := by
    simp [oddN]
    intro x hx
    have := hm x hx
    omega
  have hpos : posOk g (filledP (ofP g p)) = true := by
    rw [posOk_iff]
    refine ⟨?_, ?_, h3, h4, h5, h6, h7⟩
    · simp only [filledP, ofP]
      rw [fillL_len, sum_menOf hK]
      exact h1
    · intro x hx
      have := fillL_mem _ _ _ hx
      simp only [ofP, hl] at this
      omega
  unfold matOk
  rw [hpos]
  simp only [ofP, hany, hl]
  simp
def lesO (W : Int) : Int × Int := if W = big then (0, 2) else (W, 0)
theorem size_of {g : GameD} {m : PosD} (h : matOk g m = true) : sizeOf_ g m = lesO (ways m.at_) := by
  unfold sizeOf_ lesO
  rw [if_neg (by simp [h])]
theorem handGo_zero : ∀ (n : Nat) (ks : List KindD), handGo (List.replicate n 0) ks = true
  | 0, _ => by simp [handGo]
  | n + 1, [] => by simp [List.replicate_succ, handGo]
  | n + 1, k :: ks => by simp [List.replicate_succ, handGo, handGo_zero n ks]
theorem posOk_fill {c k : Nat} {l : List Int} (h1 : 1 ≤ k ∧ k ≤ 3) (hv : ∀ x ∈ l, 0 ≤ x) : posOk (blankG c k) (fillPos c k l) = true := by
  have ht0 := Int.tmod_nonneg 9 (show (0 : Int) ≤ (l.length : Int) by omega)
  have ht1 := Int.tmod_lt_of_pos (l.length : Int) (show (0 : Int) < 9 by decide)
  rw [posOk_iff]
  refine ⟨by simp [fillPos, atFj, blankG], ?_, ?_, ?_, by simp [fillPos], by simp [fillPos, blankG], by simp [fillPos]⟩
  · intro x hx
    simp only [fillPos, atFj, List.mem_map, List.mem_range] at hx
    obtain ⟨i, hi, rfl⟩ := hx
    simp only [blankG, List.length_map, List.length_range]
    split
    · rename_i h
      have h0 := hv _ (nth_mem h.2)
      have := Int.tmod_nonneg (2 * (k : Int) + 1) h0
      have := Int.tmod_lt_of_pos (nth l i) (show (0 : Int) < 2 * (k : Int) + 1 by omega)
      omega
    · omega
  · simp [handOk, fillPos, blankG, handGo_zero]
  · have hk : k = 1 ∨ k = 2 ∨ k = 3 := by omega
    rcases hk with rfl | rfl | rfl
    · simp [handOk, fillPos, blankG, handGo, blankK, List.range_succ, List.replicate_succ]
      omega
    · simp [handOk, fillPos, blankG, handGo, blankK, List.range_succ, List.replicate_succ]
      omega
    · simp [handOk, fillPos, blankG, handGo, blankK, List.range_succ, List.replicate_succ]
      omega
theorem number_self (a : Int) : number a a = 0 := by simp [number]
theorem cmpL_self : ∀ a : List Int, cmpL a a = 0
  | [] => by simp [cmpL, number]
  | x :: a => by simp [cmpL, cmpL_self a]
theorem cmpP_self (p : PosD) : cmpP p p = 0 := by simp [cmpP, cmpL_self, number_self]
/-- WHAT SIZE, RANK AND AT SAY OF A VALID POSITION. -/
theorem rank_at {g : GameD} {p : PosD} (h : posOk g p = true) (hl : p.at_.length ≤ 1048576) :
    (sizeOf_ g (ofP g p) = (0, 2) ∧ rankOf g p = (0, 2)) ∨
    ((sizeOf_ g (ofP g p)).2 = 0 ∧ (rankOf g p).2 = 0 ∧ 0 ≤ (rankOf g p).1 ∧ (rankOf g p).1 < (sizeOf_ g (ofP g p)).1 ∧ atOf g (ofP g p) (rankOf g p).1 = (p, 0) ∧
      (rankOf g p).1 = rankN (ofP g p).at_ p.at_ ∧ (sizeOf_ g (ofP g p)).1 = ways (ofP g p).at_ ∧ ways (ofP g p).at_ ≤ 1099511627776) := by
  have hm := matOk_of h
  have hs := size_of hm
  obtain ⟨h1, h2, _⟩ := posOk_iff.1 h
  have hK : ∀ c ∈ p.at_, c.toNat < 1 + 2 * g.kinds.length := fun c hc => by have := h2 c hc; omega
  have hwb := ways_bound (ofP g p).at_
  by_cases hW : ways (ofP g p).at_ = big
  · left
    have e : sizeOf_ g (ofP g p) = (0, 2) := by rw [hs, lesO, if_pos hW]
    refine ⟨e, ?_⟩
    unfold rankOf
    rw [if_neg (by simp [h]), e, if_pos (by simp)]
  · right
    have e : sizeOf_ g (ofP g p) = (ways (ofP g p).at_, 0) := by rw [hs, lesO, if_neg hW]
    have er : rankOf g p = (rankN (ofP g p).at_ p.at_, 0) := by
      unfold rankOf
      rw [if_neg (by simp [h]), e, if_neg (by simp)]
    unfold big at hW
    obtain ⟨r1, r2, r3⟩ := at_rank (fun c hc => (h2 c hc).1) hK hl (by simp only [ofP] at hwb hW; omega)
    rw [e, er]
    refine ⟨rfl, rfl, r1, r2, ?_, rfl, rfl, by omega⟩
    have hat : (ofP g p).at_ = menOf (1 + 2 * g.kinds.length) p.at_ := rfl
    rw [← hat] at r1 r2 r3
    unfold atOf
    rw [e, if_neg (by simp), if_neg (by simp only; omega), show g.cells.toNat = p.at_.length by omega, r3]
    rfl
end Go.Av
