/- Texts of ours, part 10: contracts and facts for this claim. -/
import Derived.Test.YtedhfmmlhfmomaaGreatDoorB10
import Derived.Test.YtedhfmmlhfmomaaGreatDoorSGx08
set_option linter.unusedSimpArgs false
set_option linter.unusedVariables false
set_option maxRecDepth 100000
set_option maxHeartbeats 40000000
section
open Go Go.Proofs
namespace Go.Av
def zkg (g : zae) (p : zah) : Int × Bool := if 0 ≤ zch g p then ze2 g p else if zaK g p = [] then (g.blocked, true) else (0, false)
theorem zpt (g : zae) (hg : GOk g) (p : zah) (hp : POk g p) : zaL Tryz.prog 26 [.agg (zac g), .agg (zad p)] (.tup [.v (.int .i64 (zkg g p).1), .v (.bool (zkg g p).2)]) := by
 refine pF Tryz.func26 ?_
 have hE := zli g hg p hp
 have hM := zhm g hg p hp
 have hS : zkg g p = if 0 ≤ zch g p then ze2 g p else if zaK g p = [] then (g.blocked, true) else (0, false) := rfl
 have e2 := zrh g p
 rw [hS]
 obtain ⟨ev, hev⟩ : ∃ ev, ev = ze2 g p := ⟨_, rfl⟩
 rw [← hev] at hE e2 ⊢
 obtain ⟨e1, b⟩ := ev
 simp only at hE e2 ⊢
 generalize zch g p = ep at *
 generalize zaK g p = l at *
 clear hS hev
 subst e2
 repeat first|refine wV fun _=>?_|simp [go_sem]
 refine zAs hE (by simp [go_sem]) ?_
 repeat first|refine wV fun _=>?_|simp [go_sem]
 refine zAt (fun he => ?_) (fun he => ?_) <;> simp at he
 ·rw [if_pos he]
  repeat first|refine wV fun _=>?_|simp [go_sem, he]
 ·rw [if_neg (by omega)]
  repeat first|refine wV fun _=>?_|simp [go_sem]
  refine zAs hM (by simp [go_sem]) ?_
  repeat first|refine wV fun _=>?_|simp [go_sem]
  by_cases hl : l = []
  ·subst hl
   rw [if_pos rfl]
   repeat first|refine wV fun _=>?_|simp [go_sem]
  ·rw [if_neg hl]
   have hl' : ¬ (l.length : Int) = 0 := by
    have := List.length_pos_iff.2 hl
    omega
   repeat first|refine wV fun _=>?_|simp [go_sem, hl, hl']
end Go.Av
end
