/- Texts of ours, part 11: contracts and facts for this claim. -/
import Derived.Test.YtgdfnfffibhkjaaGreatDoorB11
import Derived.Test.YtgdfnfffibhkjaaGreatDoorSRx10
set_option linter.unusedSimpArgs false
set_option linter.unusedVariables false
set_option maxRecDepth 100000
set_option maxHeartbeats 40000000
set_option linter.unusedSectionVars false
section
open Go Go.Proofs
namespace Go.Av
open af
open Classical in
theorem q6 {g:ae}{l l':Nat} (hl:l<=l'):∀ (f i:Nat){P:List aa}{L R:List (List Nat)}{x:List aa×List (List Nat)×List (List Nat)},b9 g l f i P L R=some x->b9 g l' f i P L R=some x
 |0, _, _, _, _, _,h=>WP
 |f+1,i,P,L,R,x,h=>by
  rw [b9] at h ⊢;split at h
  ·rename_i hi;rw [if_pos hi];split at h
   ·cases h
   ·rw [if_neg ge];exact q6 hl f (i+1) h
  ·rename_i hi;rw [if_neg hi];exact h
theorem NA {g:ae}{P:List aa}{L R:List (List Nat)} (h:xi g P L R P.length) (hf:uQ g P P.length) (h0:0<P.length):xM L R P.length=true↔(g8 L R P.length).length<P.length:=by
 have hin:=zcx h;rw [pU hin h0];have hle:=DC (L:=L) (R:=R) hin;have nxm:∀i,i<P.length->∀j,j<P.length->∀s:Int,s=0∨s=1->ac P j ∈ bV g (ac P i) s->j ∈ iI L R i:=λ i hi j hj s hs hm=>by
  have e:dZ P (ac P j)=j:=Tx h.nd hj;rcases hs with rfl|rfl
  ·exact List.mem_append.2 (.inl (by rw [h.ol i hi];grind))
  ·exact List.mem_append.2 (.inr (by rw [h.or i hi];grind))
 constructor
 ·intro hb;refine Classical.byContradiction λ hno=>hb (P.length) ?_;obtain ⟨rk,r1,r2⟩:=(DD hin).rk;have key:∀m i,i ∈ g8 L R P.length->rk i<m->zG (iI L R) m i:=by
   intro m;induction m with
   |zero=>omega
   |succ m ih=>
    grind [g8,zG]
  grind [RX,g8]
 ·intro hlt d hd;have hall:∀i,i<P.length->∃d,zG (iI L R) d i:=by
   intro i;induction i using Nat.strongRecOn with
   |ind i ih=>
    intro hi;by_cases e:i=0
    ·grind
    ·obtain ⟨j,h1, _,s,hs,hm⟩:=hf i ge hi;obtain ⟨dj,hdj⟩:=ih j h1 ge;cases dj with
     |zero=>exact hdj.elim
     |succ dj=>grind [zG]
  obtain ⟨ok,hst⟩:=Md hin (P.length+1) (yA (iI L R) P.length) gt;have key:∀m i,i<P.length->i ∉ g8 L R P.length->¬zG (iI L R) m i:=by
   intro m;induction m with
   |zero=>grind [zG]
   |succ m ih=>
    grind [g8,zG]
  have hex:∃i,i<P.length∧i ∉ g8 L R P.length:=by
   refine Classical.byContradiction λ hno=> ?_;have hall:∀i,i<P.length->i ∈ g8 L R P.length:=λ i hi=>Classical.byContradiction λ hni=>hno ⟨i,hi,hni⟩;have h1:=List.Nodup.length_le_of_subset (l₁:=List.range P.length) (l₂:=g8 L R P.length) List.nodup_range λ i hi=>hall i (List.mem_range.1 hi);grind
  grind
end Go.Av
end
