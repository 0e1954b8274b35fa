/- Texts of ours, part 12: contracts and facts for this claim. -/
import Derived.Test.YtgdfnfffibhkjaaGreatDoorB12
import Derived.Test.YtgdfnfffibhkjaaGreatDoorSRx11
set_option linter.unusedSimpArgs false
set_option linter.unusedVariables false
set_option maxRecDepth 100000
set_option maxHeartbeats 40000000
set_option linter.unusedSectionVars false
section
open Go Go.Proofs
namespace Go.Av
theorem FP (g:ae) (hk:g.kinds.length<=1048576):aq Tryz.prog 38 [.agg (ai g)] (.v (.bool (aZ g))):=by
 refine pF Tryz.func38 ?_;unfold aZ;refine J0 ?_;refine zg3 (zg5 (α:=Nat) (λ i=>⟨[(1, .ref 0 0 9 0 0),(3, .int i)], [(0, .rows true 0 9 [ai g])],1⟩)
  (λ d i=>i+d=g.kinds.length∧(∀j<i,(ac g.kinds j).keep=false)) ?_ g.kinds.length 0 ?_) ?_ ?_
 ·rintro d i ⟨i1,i2⟩ hrec;refine J0 ?_;refine zg4 (λ hi=> ?_) (λ hi=> ?_)<;>simp at hi
  ·refine J1 hi ?_;refine zg4 (λ hk=> ?_) (λ hk=> ?_)
   ·have ha:(g.kinds.any λ k=>k.keep)=true:=List.any_eq_true.2 ⟨_,am hi,hk⟩;exact K1 ha
   ·refine J0 ?_;refine zg3 (hrec (d - 1) ge (i+1) ⟨ge,λ j hj=> ?_⟩) ?_ gt
    ·grind
    ·simp [go_sem,aj]
  ·have ha:(g.kinds.any λ k=>k.keep)=false:=by
    rw [List.any_eq_false];intro k hk;obtain ⟨j,hj,rfl⟩:=List.getElem_of_mem hk;rw [<- dT _ _ hj,i2 j ge];simp
   exact K1 ha
 ·simp
 ·simp [go_sem,aj]
 ·simp
end Go.Av
end
