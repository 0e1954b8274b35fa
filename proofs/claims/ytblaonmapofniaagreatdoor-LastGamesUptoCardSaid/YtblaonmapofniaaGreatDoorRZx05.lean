/- Texts of ours, part 5: contracts and facts for this claim. -/
import Derived.Test.YtblaonmapofniaaGreatDoorB05
set_option linter.unusedSimpArgs false
set_option linter.unusedVariables false
set_option maxRecDepth 100000
set_option maxHeartbeats 40000000
section
open Go Go.Proofs
namespace Go.Av
def findGo (l : List PosD) (p : PosD) : Nat → Nat → Nat → Int
 | 0, _, _ => -1
 | f + 1, lo, hi => if lo < hi then (if cmpP p (nth l ((lo + hi) / 2)) = 0 then (((lo + hi) / 2 : Nat) : Int) else if cmpP p (nth l ((lo + hi) / 2)) < 0 then findGo l p f lo ((lo + hi) / 2) else findGo l p f ((lo + hi) / 2 + 1) hi) else -1
def findP (l : List PosD) (p : PosD) : Int := findGo l p (l.length + 1) 0 l.length
theorem Find_pure (l : List PosD) (p : PosD) (hl : l.length ≤ 1099511627776) (hf : ∀ q ∈ l, FitsP q) (hp : FitsP p) : Pure Tryz.prog 39 [encPs l, .agg (encPos p)] (.v (.int .i64 (findP l p))) := by
 refine pF Tryz.func39 ?_
 (repeat (first|with_reducible refine wV fun _=>?_|simp [go_sem]))
 refine ALoop.start (ALoop.ind (α := Nat × Nat) (fun a => ⟨[(0, encPs l), (3, .ref 0 0 5 0 0), (5, .v (.int .i64 a.1)), (6, .v (.int .i64 a.2))], [(0, .rows true 0 5 [encPos p])], 1⟩)
  (fun d a => a.2 ≤ l.length ∧ a.2 - a.1 < d ∧ findP l p = findGo l p d a.1 a.2) ?_ (l.length + 1) (0, l.length) ?_) ?_ ?_
 ·rintro d ⟨lo, hi⟩ ⟨i1, i2, i3⟩ hrec
  simp only at i1 i2 i3
  obtain ⟨d, rfl⟩ : ∃ d', d = d' + 1 := ⟨d - 1, by omega⟩
  rw [findGo] at i3
  have hdiv : ((lo : Int) + hi).tdiv 2 = ((lo + hi) / 2 : Nat) := by rw [Int.tdiv_eq_ediv_of_nonneg (by omega)]; omega
  (repeat (first|with_reducible refine wV fun _=>?_|simp [go_sem]))
  refine aIf.mkL (fun hlt => ?_) (fun hlt => ?_) <;> simp at hlt
  ·rw [if_pos hlt] at i3
   have hm : (lo + hi) / 2 < l.length := by omega
   have hm2 : lo ≤ (lo + hi) / 2 ∧ (lo + hi) / 2 < hi := by omega
   generalize hmid : (lo + hi) / 2 = mid at *
   (repeat (first|with_reducible refine wV fun _=>?_|simp [go_sem, hdiv, hm]))
   refine dCall.plain (Compare_pure p (nth l mid) hp (hf _ (nth_mem hm))) (by simp [go_sem]) ?_
   generalize hc : cmpP p (nth l mid) = c at *
   (repeat (first|with_reducible refine wV fun _=>?_|simp [go_sem]))
   refine aIf.mkL (fun hz => ?_) (fun hz => ?_) <;> simp at hz
   ·rw [if_pos hz] at i3
    rw [i3]
    (repeat (first|with_reducible refine wV fun _=>?_|simp [go_sem]))
   ·rw [if_neg hz] at i3
    (repeat (first|with_reducible refine wV fun _=>?_|simp [go_sem]))
    refine aIf.mkL (fun hn => ?_) (fun hn => ?_) <;> simp at hn
    ·rw [if_pos hn] at i3
     (repeat (first|with_reducible refine wV fun _=>?_|simp [go_sem]))
     refine ALoop.start (hrec d (by omega) (lo, mid) ⟨by simp only; omega, by simp only; omega, i3⟩) ?_ (by simp)
     simp [go_sem, Wk_eq]
    ·rw [if_neg (by omega)] at i3
     (repeat (first|with_reducible refine wV fun _=>?_|simp [go_sem]))
     refine ALoop.start (hrec d (by omega) (mid + 1, hi) ⟨by simp only; omega, by simp only; omega, i3⟩) ?_ (by simp)
     simp [go_sem, Wk_eq]
  ·rw [if_neg (by omega)] at i3
   rw [i3]
   (repeat (first|with_reducible refine wV fun _=>?_|simp [go_sem]))
 ·exact ⟨by simp, by simp, rfl⟩
 ·simp [go_sem, Wk_eq]
 ·simp
end Go.Av
end
