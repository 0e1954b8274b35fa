/- Texts of ours, part 9: contracts and facts for this claim. -/
import Derived.Test.YtedhfmmlhfmomaaGreatDoorB09
set_option linter.unusedSimpArgs false
set_option linter.unusedVariables false
set_option maxRecDepth 100000
set_option maxHeartbeats 40000000
section
open Go Go.Proofs
namespace Go.Av
theorem zsM (g : zae) (p : zah) : zcL g p 1 = zbQ g p := by
 have e : zcL g p 1 = zb0 g 1 [p] := rfl
 rw [e, zb0]
 have e2 : [p].flatMap (zaM g) = zaM g p := by simp
 rw [e2, zlW (zc6 g p)]
 unfold zbQ
 by_cases h : 4000 < (zaM g p).length
 ·rw [if_neg (by simp; omega), if_pos h]
 ·rw [if_pos (by simp; omega), if_neg h, if_neg h]
  rfl
def zg8 (g : zae) : zae := { g with clauses := [(3, 0, 64, 2)] }
theorem zrw {g : zae} (hg : GOk g) : GOk (zg8 g) := by
 refine ⟨hg.board, hg.c1, hg.c9, hg.d1, hg.d8, hg.turn, hg.k1, hg.k6, hg.pn, hg.pr, hg.r0, hg.r4, fun c hc => ?_, by simp [zg8], hg.bl, hg.en⟩
 simp only [zg8, List.mem_singleton] at hc
 subst hc
 have := hg.k1
 exact ⟨by simp, ⟨by simp, by simp [zg8]; omega⟩, ⟨by simp, by simp, by simp, by simp⟩, ⟨by simp, by simp⟩, by simp⟩
theorem zoI {g : zae} {p : zah} : POk (zg8 g) p ↔ POk g p := ⟨fun h => ⟨h.al, h.av, ⟨h.h0.len, h.h0.v⟩, ⟨h.h1.len, h.h1.v⟩, h.r0, h.r1, h.s⟩, fun h => ⟨h.al, h.av, ⟨h.h0.len, h.h0.v⟩, ⟨h.h1.len, h.h1.v⟩, h.r0, h.r1, h.s⟩⟩
theorem zqv {g : zae} (hg : GOk g) {q : zah} (hq : POk g q) : zaK (zg8 g) q = [] := by
 unfold zaK
 rw [if_pos]
 have hm : (zrq q q.side (-1) : Int) ≤ 64 := by
  have h1 : zrq q q.side (-1) ≤ q.at_.length := List.countP_le_length
  have h2 := hq.al
  have h3 := hg.c9
  omega
 have hc : zdq (3, 0, 64, 2) q = true := by
  unfold zdq
  rw [if_neg (by decide), if_neg (by decide)]
  exact decide_eq_true hm
 unfold zch zg8
 simp only [List.findIdx?_cons, hc, if_true]
 simp
theorem zoH {g : zae} (hg : GOk g) (p : zah) : zaM (zg8 g) p = [] := by
 refine List.eq_nil_iff_forall_not_mem.2 fun q hq => ?_
 obtain ⟨h1, h2⟩ := (zdb (zrw hg)).1 hq
 rw [zqv hg (zoI.1 h1)] at h2
 simp at h2
end Go.Av
end
