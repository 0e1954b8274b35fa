/- Texts of ours, part 9: contracts and facts for this claim. -/
import Derived.Test.YtedhfmmlhfmomaaGreatDoorB09
import Derived.Test.YtedhfmmlhfmomaaGreatDoorSMx07
set_option linter.unusedSimpArgs false
set_option linter.unusedVariables false
set_option maxRecDepth 100000
set_option maxHeartbeats 40000000
section
open Go Go.Proofs
namespace Go.Av
theorem zdX (of : List Int) (n : Nat) : (zaO of n).Nodup := by
 unfold zaO
 have h : ((List.range n).filter fun (c : Nat) => decide (nth of c = (c : Int))).Nodup := List.Pairwise.filter _ List.nodup_range
 rw [List.Nodup, List.pairwise_map]
 exact h.imp fun hne e => hne (by omega)
theorem zht {l : List Int} (h : l.Nodup) {i j : Nat} (hi : i < l.length) (hj : j < l.length) (e : nth l i = nth l j) : i = j := by
 rw [zaA _ _ hi, zaA _ _ hj] at e
 have hp := List.pairwise_iff_getElem.1 h
 rcases Nat.lt_trichotomy i j with h1 | h1 | h1
 ·exact absurd e (hp i j hi hj h1)
 ·exact h1
 ·exact absurd e.symm (hp j i hj hi h1)
theorem zhu (of at_ : List Int) (name : Int) {k c : Nat} (h : c < k) : nth (zeU of at_ name k) c = if nth of c = name then nth at_ c else 0 := zbL _ h
theorem zmd (of : List Int) (p : zal) (name : Int) : za4 of (za4 of p name) name = za4 of p name := by
 unfold za4
 simp only [zku]
 congr 1
 refine List.map_congr_left fun c hc => ?_
 rw [zhu _ _ _ (List.mem_range.1 hc)]
 split <;> rfl
theorem zes {of : List Int} {p : zal} {i : Nat} (hi : i < (zaO of of.length).length) : nth (zaW of p) i = za4 of p (nth (zaO of of.length) i) := zcb _ _ _ hi
theorem zhx {g : zac} {p : zal} (hp : POk g p) (of : List Int) : zhJ g of (zaW of p) p.side := by
 refine ⟨by simp [zaW], fun q hq => ?_, fun q hq => ?_, fun i hi => ?_⟩
 ·obtain ⟨x, _, rfl⟩ := List.mem_map.1 hq; exact zci hp of x
 ·obtain ⟨x, _, rfl⟩ := List.mem_map.1 hq; rfl
 ·have hi' : i < (zaO of of.length).length := by simpa [zaW] using hi
  rw [zes hi', zmd]
theorem zuK.idx {of : List Int} (ho : zuK of) {c : Nat} (hc : c < of.length) : ∃ i, i < (zaO of of.length).length ∧ nth of c = nth (zaO of of.length) i := by
 obtain ⟨i, hi, e⟩ := List.getElem_of_mem (ho.mem hc)
 exact ⟨i, hi, by rw [zaA _ _ hi, e]⟩
end Go.Av
end
section
open Go Go.Proofs
namespace Go.Av
section
variable {s : Nat → Bool} {a : List Int}
end
theorem zjb (g : zac) (c : Nat) : inR g (nth (ofG g) c) c = true := by simp [inR]
theorem zgM {g : zac} (h : znL g) (hn : zff g) {p : zal} (hp : POk g p) {q : zal} :
  q ∈ zaN g p ↔ ∃ r ∈ zaO (ofG g) (ofG g).length, ∃ m ∈ zaN g (za4 (ofG g) p r), q = m.pt (inR g r) p.at_ := by
 have hal := hp.al
 have hlen := zic g
 rw [zhs h.ok hn hp]
 constructor
 ·rintro ⟨c, c1, h0, hs, o, ho, rfl⟩
  have hcl : c < (ofG g).length := by omega
  refine ⟨nth (ofG g) c, h.of.mem hcl, o.pos.pt (inR g (nth (ofG g) c)) [], ?_, ?_⟩
  ·rw [zhs h.ok hn (zci hp _ _), zdY]
   refine ⟨c, c1, ?_, ?_, o.pt (inR g (nth (ofG g) c)) [], ?_, rfl⟩
   ·show nth (zjf (inR g (nth (ofG g) c)) [] p.at_) c ≠ 0
    rw [zfH (zjb g c)]; exact h0
   ·show (zav (nth (zjf (inR g (nth (ofG g) c)) [] p.at_) c)).2 = p.side
    rw [zfH (zjb g c)]; exact hs
   ·exact (zjj h hp c1 h0 _).2 ⟨o, ho, rfl⟩
  ·have hol : o.pos.at_.length = p.at_.length := by
    have := (zcN h.ok hp o.pos ((zhs h.ok hn hp).2 ⟨c, c1, h0, hs, o, ho, rfl⟩)).1.al
    omega
   have e : zjf (inR g (nth (ofG g) c)) p.at_ (zjf (inR g (nth (ofG g) c)) [] o.pos.at_) = o.pos.at_ := by
    refine za3 (by rw [zbb, zbb]) fun z hz => ?_
    rw [zbb, zbb] at hz
    rw [zcR (by rw [zbb]; exact hz), zcR hz]
    by_cases e : inR g (nth (ofG g) c) z = true
    ·simp [e]
    ·rw [if_neg e]
     refine (zrk h hp c1 ho fun e2 => e ?_).symm
     simp [inR, e2]
   unfold zal.pt
   simp only [e]
 ·rintro ⟨r, hr, m, hm, rfl⟩
  rw [zhs h.ok hn (zci hp _ _), zdY] at hm
  obtain ⟨c, c1, h0, hs, o, ho, rfl⟩ := hm
  have hcl : c < p.at_.length := by omega
  have hin : inR g r c = true := by
   refine Classical.byContradiction fun hno => h0 ?_
   show nth (zjf (inR g r) [] p.at_) c = 0
   rw [zcR hcl, if_neg hno]
   rfl
  have hrc : nth (ofG g) c = r := by simpa [inR] using hin
  subst hrc
  have hat : nth (p.pt (fun z => decide (nth (ofG g) z = nth (ofG g) c)) []).at_ c = nth p.at_ c := zfH (s := inR g (nth (ofG g) c)) (zjb g c)
  rw [hat] at h0 hs
  obtain ⟨o', ho', rfl⟩ := (zjj (a := []) h hp c1 h0 o).1 ho
  refine ⟨c, c1, h0, hs, o', ho', ?_⟩
  have hol : o'.pos.at_.length = p.at_.length := by
   have := (zcN h.ok hp o'.pos ((zhs h.ok hn hp).2 ⟨c, c1, h0, hs, o', ho', rfl⟩)).1.al
   omega
  have e : zjf (inR g (nth (ofG g) c)) p.at_ (zjf (inR g (nth (ofG g) c)) [] o'.pos.at_) = o'.pos.at_ := by
   refine za3 (by rw [zbb, zbb]) fun z hz => ?_
   rw [zbb, zbb] at hz
   rw [zcR (by rw [zbb]; exact hz), zcR hz]
   by_cases e : inR g (nth (ofG g) c) z = true
   ·simp [e]
   ·rw [if_neg e]
    refine (zrk h hp c1 ho' fun e2 => e ?_).symm
    simp [inR, e2]
  unfold zcU.pt zal.pt
  simp only [e]
theorem ztW {g : zac} (h : znL g) (hn : zff g) {p : zal} (hp : POk g p) : zaN g p = [] ↔ ∀ q ∈ zaW (ofG g) p, zaN g q = [] := by
 constructor
 ·intro hz q hq
  obtain ⟨r, hr, rfl⟩ := List.mem_map.1 hq
  refine List.eq_nil_iff_forall_not_mem.2 fun m hm => ?_
  have := (zgM h hn hp (q := m.pt (inR g r) p.at_)).2 ⟨r, hr, m, hm, rfl⟩
  rw [hz] at this
  simp at this
 ·intro hz
  refine List.eq_nil_iff_forall_not_mem.2 fun q hq => ?_
  obtain ⟨r, hr, m, hm, _⟩ := (zgM h hn hp).1 hq
  rw [hz _ (List.mem_map.2 ⟨r, hr, rfl⟩)] at hm
  simp at hm
end Go.Av
end
