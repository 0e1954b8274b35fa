/- Texts of ours, part 12: contracts and facts for this claim. -/
import Derived.Test.YtgdfnfffibhkjaaGreatDoorB12
import Derived.Test.YtgdfnfffibhkjaaGreatDoorSRx11
set_option linter.unusedSimpArgs false
set_option linter.unusedVariables false
set_option maxRecDepth 100000
set_option maxHeartbeats 40000000
section
open Go Go.Proofs
namespace Go.Av
theorem ztt (g:zaa) (hk:g.kinds.length<=1048576):zav Tryz.prog 38 [.agg (zad g)] (.v (.bool (zaz g))):=by
 refine pF Tryz.func38 ?_;unfold zaz;refine J0 ?_;refine zNW (zNY (α:=Nat) (λ i=>⟨[(1, .ref 0 0 9 0 0),(3, .int i)], [(0, .rows true 0 9 [zad g])],1⟩)
  (λ d i=>i+d=g.kinds.length∧(∀j<i,(nth g.kinds j).keep=false)) ?_ g.kinds.length 0 ?_) ?_ ?_
 ·rintro d i ⟨i1,i2⟩ hrec;refine J0 ?_;refine zNX (λ hi=> ?_) (λ hi=> ?_)<;>simp at hi
  ·refine J1 hi ?_;refine zNX (λ hk=> ?_) (λ hk=> ?_)
   ·have ha:(g.kinds.any λ k=>k.keep)=true:=List.any_eq_true.2 ⟨_,zah hi,hk⟩;exact K1 ha
   ·refine J0 ?_;refine zNW (hrec (d - 1) aa (i+1) ⟨aa,λ j hj=> ?_⟩) ?_ ac
    ·grind
    ·simp [go_sem,zaf]
  ·have ha:(g.kinds.any λ k=>k.keep)=false:=by
    rw [List.any_eq_false];intro k hk;obtain ⟨j,hj,rfl⟩:=List.getElem_of_mem hk;rw [<- zcp _ _ hj,i2 j aa];simp
   exact K1 ha
 ·simp
 ·simp [go_sem,zaf]
 ·simp
end Go.Av
end
