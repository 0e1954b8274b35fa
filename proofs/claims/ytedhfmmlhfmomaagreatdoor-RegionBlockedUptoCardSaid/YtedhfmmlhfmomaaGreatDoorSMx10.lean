/- Texts of ours, part 10: contracts and facts for this claim. -/
import Derived.Test.YtedhfmmlhfmomaaGreatDoorB10
import Derived.Test.YtedhfmmlhfmomaaGreatDoorSMx09
set_option linter.unusedSimpArgs false
set_option linter.unusedVariables false
set_option maxRecDepth 100000
set_option maxHeartbeats 40000000
section
open Go Go.Proofs
namespace Go.Av
def zdm (g : zac) (p : zal) : Int × Bool := if 0 ≤ zdp g p then zel g p else if zaN g p = [] then (g.blocked, true) else (0, false)
theorem zjs (g : zac) (hg : GOk g) (p : zal) (hp : POk g p) : zaJ Tryz.prog 26 [.agg (zad g), .agg (zag p)] (.tup [.v (.int .i64 (zdm g p).1), .v (.bool (zdm g p).2)]) := by
 refine pF Tryz.func26 ?_
 have hE := zlL g hg p hp
 have hM := zef g hg p hp
 have hS : zdm g p = if 0 ≤ zdp g p then zel g p else if zaN g p = [] then (g.blocked, true) else (0, false) := rfl
 have e2 := zrT g p
 rw [hS]
 obtain ⟨ev, hev⟩ : ∃ ev, ev = zel g p := ⟨_, rfl⟩
 rw [← hev] at hE e2 ⊢
 obtain ⟨e1, b⟩ := ev
 simp only at hE e2 ⊢
 generalize zdp g p = ep at *
 generalize zaN g p = l at *
 clear hS hev
 subst e2
 repeat first|refine wV fun _=>?_|simp [go_sem]
 refine zBi hE (by simp [go_sem]) ?_
 repeat first|refine wV fun _=>?_|simp [go_sem]
 refine zBj (fun he => ?_) (fun he => ?_) <;> simp at he
 ·rw [if_pos he]
  repeat first|refine wV fun _=>?_|simp [go_sem, he]
 ·rw [if_neg (by omega)]
  repeat first|refine wV fun _=>?_|simp [go_sem]
  refine zBi hM (by simp [go_sem]) ?_
  repeat first|refine wV fun _=>?_|simp [go_sem]
  by_cases hl : l = []
  ·subst hl
   rw [if_pos rfl]
   repeat first|refine wV fun _=>?_|simp [go_sem]
  ·rw [if_neg hl]
   have hl' : ¬ (l.length : Int) = 0 := by
    have := List.length_pos_iff.2 hl
    omega
   repeat first|refine wV fun _=>?_|simp [go_sem, hl, hl']
theorem zxg {g : zac} (hn : zff g) (p : zal) : zdm g p = if zaN g p = [] then (g.blocked, true) else (0, false) := by
 have e := zkm hn p
 unfold zdm zel
 rw [e]
 simp
def zgD (g : zac) (L : List zal) (i : Nat) : Bool := (L.take i).all fun q => (zdm g q).2
theorem zn5 {g : zac} {L : List zal} {i : Nat} (hi : i < L.length) : zgD g L (i + 1) = (zgD g L i && (zdm g (nth L i)).2) := by
 unfold zgD
 rw [List.take_add_one, List.getElem?_eq_getElem hi, ← zaA _ _ hi, Option.toList_some, List.all_append]
 simp
theorem zt3 {g : zac} (h : znL g) (hn : zff g) {p : zal} (hp : POk g p) : (zdm g p).2 = zgD g (zaW (ofG g) p) (zaW (ofG g) p).length ∧ ((zdm g p).2 = true → (zdm g p).1 = g.blocked) := by
 have h1 : ∀ q, (zdm g q).2 = decide (zaN g q = []) := fun q => by
  rw [zxg hn]
  split <;> simp [*]
 refine ⟨?_, fun h2 => ?_⟩
 ·unfold zgD
  rw [List.take_length, h1, Bool.eq_iff_iff, decide_eq_true_eq, ztW h hn hp, List.all_eq_true]
  constructor
  ·intro h3 q hq
   rw [h1, decide_eq_true_eq]
   exact h3 q hq
  ·intro h3 q hq
   have := h3 q hq
   rwa [h1, decide_eq_true_eq] at this
 ·rw [zxg hn] at h2 ⊢
  split
  ·rfl
  ·rename_i h3; rw [if_neg h3] at h2; cases h2
end Go.Av
end
