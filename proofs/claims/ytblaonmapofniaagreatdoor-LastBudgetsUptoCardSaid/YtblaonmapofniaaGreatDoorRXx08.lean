/- Texts of ours, part 8: contracts and facts for this claim. -/
import Derived.Test.YtblaonmapofniaaGreatDoorB08
import Derived.Test.YtblaonmapofniaaGreatDoorRXx05
set_option linter.unusedSimpArgs false
set_option linter.unusedVariables false
set_option maxRecDepth 100000
set_option maxHeartbeats 40000000
section
open Go Go.Proofs
namespace Go.Av
def fndP (l : List PosD) (p : PosD) : Int := match l.findIdx? (fun q => decide (q = p)) with | some i => (i : Int) | none => -1
theorem fndP_at {l : List PosD} (h : Inc l) {j : Nat} (hj : j < l.length) : fndP l (nth l j) = j := by
 have : l.findIdx? (fun q => decide (q = nth l j)) = some j := by
  rw [List.findIdx?_eq_some_iff_getElem]
  refine ⟨hj, by rw [← nth_eq _ _ hj]; simp, fun i hi => ?_⟩
  rw [← nth_eq _ _ (by omega)]
  simp only [decide_eq_true_eq]
  intro e
  have := h.inj (by omega) hj e
  omega
 unfold fndP
 rw [this]
theorem fndP_none {l : List PosD} {p : PosD} (h : p ∉ l) : fndP l p = -1 := by
 have : l.findIdx? (fun q => decide (q = p)) = none := by
  rw [List.findIdx?_eq_none_iff]
  intro x hx
  simp only [decide_eq_false_iff_not]
  intro e
  exact h (e ▸ hx)
 unfold fndP
 rw [this]
theorem fndP_mem {l : List PosD} (h : Inc l) {p : PosD} : 0 ≤ fndP l p ↔ p ∈ l := by
 by_cases hp : p ∈ l
 ·obtain ⟨j, hj, rfl⟩ := mem_nth hp
  rw [fndP_at h hj]
  exact ⟨fun _ => hp, fun _ => by omega⟩
 ·rw [fndP_none hp]
  exact ⟨fun h => by omega, fun h => absurd h hp⟩
theorem findGo_eq {l : List PosD} {p : PosD} {r : Nat} (hc : ∀ i, i < l.length → (cmpP p (nth l i) = 0 ↔ r = i) ∧ (cmpP p (nth l i) < 0 ↔ r < i)) : ∀ f lo hi, hi ≤ l.length → lo ≤ r → r < hi → hi - lo < f → findGo l p f lo hi = r
 | 0, lo, hi, _, _, _, h => by omega
 | f + 1, lo, hi, h1, h2, h3, h4 => by
  rw [findGo, if_pos (by omega)]
  have hm := hc ((lo + hi) / 2) (by omega)
  split
  ·rename_i hz
   have := hm.1.1 hz
   omega
  ·rename_i hz
   split
   ·rename_i hn
    exact findGo_eq hc f lo ((lo + hi) / 2) (by omega) h2 (hm.2.1 hn) (by omega)
   ·rename_i hn
    refine findGo_eq hc f ((lo + hi) / 2 + 1) hi h1 ?_ h3 (by omega)
    have a1 : r ≠ (lo + hi) / 2 := fun h => hz (hm.1.2 h)
    have a2 : ¬ r < (lo + hi) / 2 := fun h => hn (hm.2.2 h)
    omega
theorem findGo_none {l : List PosD} {p : PosD} (h : p ∉ l) : ∀ f lo hi, hi ≤ l.length → findGo l p f lo hi = -1
 | 0, lo, hi, _ => rfl
 | f + 1, lo, hi, h1 => by
  rw [findGo]
  split
  ·rename_i hlt
   have hm : (lo + hi) / 2 < l.length := by omega
   have hne : ¬ cmpP p (nth l ((lo + hi) / 2)) = 0 := fun e => h ((cmp_pos.eq _ _).1 e ▸ nth_mem hm)
   rw [if_neg hne]
   split
   ·exact findGo_none h f lo _ (by omega)
   ·exact findGo_none h f _ hi h1
  ·rfl
theorem findP_fnd {l : List PosD} (h : Inc l) (p : PosD) : findP l p = fndP l p := by
 unfold findP
 by_cases hp : p ∈ l
 ·obtain ⟨j, hj, rfl⟩ := mem_nth hp
  rw [fndP_at h hj]
  exact findGo_eq (fun i hi => by
   have := h.sign hj hi
   exact this) _ _ _ (Nat.le_refl _) (Nat.zero_le _) hj (by omega)
 ·rw [fndP_none hp, findGo_none hp _ _ _ (Nat.le_refl _)]
end Go.Av
end
section
open Go Go.Proofs
namespace Go.Av
theorem layersP_count (g : GameD) (b : Int) : ∀ (f : Nat) (known now : List PosD), (layersP g b f known now).length ≤ f
 | 0, known, now => by simp [layersP]
 | f + 1, known, now => by
  rw [layersP]
  split
  ·simp
  ·split
   ·simp
   ·have := layersP_count g b f (known ++ nextP g known now) (sortU cmpP (nextP g known now))
    simp only [List.length_cons]
    omega
theorem searchP_count (g : GameD) (p : PosD) (n : Int) : (searchP g p n).length ≤ 4002 := by
 have := layersP_count g (budP n) ((budP n).toNat + 2) [p] [p]
 have := budP_range n
 unfold searchP
 omega
end Go.Av
end
section
open Go Go.Proofs
namespace Go.Av
theorem rFind_pure (l : List PosD) (hi : Inc l) (hl : l.length ≤ 17179869184) (hf : ∀ q ∈ l, FitsP q) (p : PosD) (hp : FitsP p) :
  Pure Tryz.prog 39 [encPs l, .agg (encPos p)] (.v (.int .i64 (fndP l p))) := by
 rw [← findP_fnd hi]
 exact Find_pure l p (by omega) hf hp
end Go.Av
end
