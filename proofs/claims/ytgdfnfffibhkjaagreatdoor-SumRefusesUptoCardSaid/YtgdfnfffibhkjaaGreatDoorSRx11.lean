/- Texts of ours, part 11: contracts and facts for this claim. -/
import Derived.Test.YtgdfnfffibhkjaaGreatDoorB11
import Derived.Test.YtgdfnfffibhkjaaGreatDoorSRx10
set_option linter.unusedSimpArgs false
set_option linter.unusedVariables false
set_option maxRecDepth 100000
set_option maxHeartbeats 40000000
section
open Go Go.Proofs
namespace Go.Av
open zab
open Classical in
theorem zie {g:zaa}{l l':Nat} (hl:l<=l'):∀ (f i:Nat){P:List zae}{L R:List (List Nat)}{x:List zae×List (List Nat)×List (List Nat)},zbe g l f i P L R=some x->zbe g l' f i P L R=some x
 |0, _, _, _, _, _,h=>aV
 |f+1,i,P,L,R,x,h=>by
  rw [zbe] at h ⊢;split at h
  ·rename_i hi;rw [if_pos hi];split at h
   ·cases h
   ·rename_i hb;rw [if_neg aa];exact zie hl f (i+1) h
  ·rename_i hi;rw [if_neg hi];exact h
theorem zz5 {g:zaa}{P:List zae}{L R:List (List Nat)} (h:zwW g P L R P.length) (hf:zmS g P P.length) (h0:0<P.length):zrA L R P.length=true↔(zdx L R P.length).length<P.length:=by
 have hin:=zLT h;rw [zhW hin h0];have hS:=zKf (nxG L R);have hle:=zsN (L:=L) (R:=R) hin;have nxm:∀i,i<P.length->∀j,j<P.length->∀s:Int,s=0∨s=1->nth P j ∈ zbP g (nth P i) s->j ∈ nxG L R i:=λ i hi j hj s hs hm=>by
  have e:ixP P (nth P j)=j:=zHw h.nd hj;rcases hs with rfl|rfl
  ·exact List.mem_append.2 (.inl (by rw [h.ol i hi];grind))
  ·exact List.mem_append.2 (.inr (by rw [h.or i hi];grind))
 constructor
 ·intro hb;refine Classical.byContradiction λ hno=>hb (P.length) ?_;have hl:(zdx L R P.length).length=P.length:=aa;obtain ⟨rk,r1,r2⟩:=(zsO hin).rk;have key:∀m i,i ∈ zdx L R P.length->rk i<m->DpG (nxG L R) m i:=by
   intro m;induction m with
   |zero=>omega
   |succ m ih=>
    grind [zdx,DpG]
  grind [zEz,zdx]
 ·intro hlt d hd;have hall:∀i,i<P.length->∃d,DpG (nxG L R) d i:=by
   intro i;induction i using Nat.strongRecOn with
   |ind i ih=>
    intro hi;by_cases e:i=0
    ·grind
    ·obtain ⟨j,h1, _,s,hs,hm⟩:=hf i aa hi;obtain ⟨dj,hdj⟩:=ih j h1 aa;cases dj with
     |zero=>exact hdj.elim
     |succ dj=>grind [DpG]
  obtain ⟨ok,hst⟩:=zA1 hin (P.length+1) (znp (nxG L R) P.length) ac;have key:∀m i,i<P.length->i ∉ zdx L R P.length->¬DpG (nxG L R) m i:=by
   intro m;induction m with
   |zero=>grind [DpG]
   |succ m ih=>
    grind [zdx,DpG]
  have hex:∃i,i<P.length∧i ∉ zdx L R P.length:=by
   refine Classical.byContradiction λ hno=> ?_;have hall:∀i,i<P.length->i ∈ zdx L R P.length:=λ i hi=>Classical.byContradiction λ hni=>hno ⟨i,hi,hni⟩;have h1:=List.Nodup.length_le_of_subset (l₁:=List.range P.length) (l₂:=zdx L R P.length) List.nodup_range λ i hi=>hall i (List.mem_range.1 hi);grind
  grind
end Go.Av
end
