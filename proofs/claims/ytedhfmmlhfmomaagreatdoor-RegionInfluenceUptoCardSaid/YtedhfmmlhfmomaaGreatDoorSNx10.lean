/- Texts of ours, part 10: contracts and facts for this claim. -/
import Derived.Test.YtedhfmmlhfmomaaGreatDoorB10
import Derived.Test.YtedhfmmlhfmomaaGreatDoorSNx09
set_option linter.unusedSimpArgs false
set_option linter.unusedVariables false
set_option maxRecDepth 100000
set_option maxHeartbeats 40000000
section
open Go Go.Proofs
namespace Go.Av
def zqW (of a b : List Int) (r : Int) (k : Nat) : List Int := (List.range b.length).map fun c => if c < k ∧ nth of c = r then nth a c else nth b c
theorem zdW (of a b : List Int) (r : Int) (k : Nat) : (zqW of a b r k).length = b.length := by simp [zqW]
theorem zh8 {of a b : List Int} {r : Int} {k c : Nat} (h : c < b.length) : nth (zqW of a b r k) c = if c < k ∧ nth of c = r then nth a c else nth b c := zbL _ h
theorem zwz (of a b : List Int) (r : Int) : zqW of a b r 0 = b := by
 refine za3 (zdW _ _ _ _ _) fun i hi => ?_
 rw [zh8 (by simpa [zqW] using hi), if_neg (fun h => by omega)]
theorem zwy {of a b : List Int} {r : Int} {k : Nat} (hk : k < b.length) : zqW of a b r (k + 1) = if nth of k = r then (zqW of a b r k).set k (nth a k) else zqW of a b r k := by
 by_cases h : nth of k = r
 ·rw [if_pos h]
  refine za3 (by simp [zdW]) fun i hi => ?_
  have hi : i < b.length := by simpa [zdW] using hi
  rw [zbP, zdW, zh8 hi, zh8 hi]
  by_cases e : k = i
  ·subst e
   rw [if_pos ⟨by omega, h⟩, if_pos ⟨rfl, hi⟩]
  ·rw [if_neg (show ¬ (k = i ∧ i < b.length) from fun h => e h.1)]
   by_cases h2 : i < k ∧ nth of i = r
   ·rw [if_pos (show i < k + 1 ∧ nth of i = r from ⟨by omega, h2.2⟩), if_pos h2]
   ·rw [if_neg (show ¬ (i < k + 1 ∧ nth of i = r) from fun h3 => h2 ⟨by omega, h3.2⟩), if_neg h2]
 ·rw [if_neg h]
  refine za3 (by simp [zdW]) fun i hi => ?_
  have hi : i < b.length := by simpa [zdW] using hi
  rw [zh8 hi, zh8 hi]
  by_cases h2 : i < k ∧ nth of i = r
  ·rw [if_pos (show i < k + 1 ∧ nth of i = r from ⟨by omega, h2.2⟩), if_pos h2]
  ·rw [if_neg (show ¬ (i < k + 1 ∧ nth of i = r) from fun h3 => h2 ⟨Nat.lt_of_le_of_ne (by omega) (fun e => h (e ▸ h3.2)), h3.2⟩), if_neg h2]
def mixP (of : List Int) (p q : zal) (r : Int) : zal := { q with at_ := zqW of p.at_ q.at_ r q.at_.length, side := p.side }
theorem zwA {g : zac} {p q : zal} (hp : POk g p) (hq : POk g q) (of : List Int) (r : Int) : POk g (mixP of p q r) := by
 have h1 := hp.al
 have h2 := hq.al
 refine ⟨by show ((zqW of p.at_ q.at_ r q.at_.length).length : Int) = _; rw [zdW]; exact h2, fun x hx => ?_, hq.h0, hq.h1, hq.r0, hq.r1, hp.s⟩
 obtain ⟨c, hc, rfl⟩ := List.mem_map.1 hx
 have hc := List.mem_range.1 hc
 split
 ·exact hp.at (i := c) (by omega)
 ·exact hq.at (i := c) (by omega)
theorem zyO {g : zac} (h : znL g) (hn : zff g) {p q : zal} (hp : POk g p) (hq : POk g q) (r : Int) : zcI zcK (zbr g p r) = zcI zcK (zbr g (mixP (ofG g) p q r) r) := by
 have h1 := hp.al
 have h2 := hq.al
 refine zqM h hn hp (zwA hp hq _ _) rfl fun z hz e => ?_
 show nth (zqW (ofG g) p.at_ q.at_ r q.at_.length) z = nth p.at_ z
 rw [zh8 (by omega), if_pos ⟨by omega, e⟩]
theorem zh5 {g : zac} (hg : GOk g) {p : zal} (hp : POk g p) {r : Int} : ∀ q ∈ zbr g p r, POk g q := fun q hq => by
 obtain ⟨m, hm, rfl, _⟩ := zgL.1 hq
 exact zci (zcN hg hp m hm).1 _ _
def zwf (g : zac) (p : zal) (r : Int) (i : Nat) : List zal := (((zaN g p).take i).filter (zh6 g p r)).map fun m => za4 (ofG g) m r
theorem zwh (g : zac) (p : zal) (r : Int) : zwf g p r 0 = [] := by simp [zwf]
theorem zyu (g : zac) (p : zal) (r : Int) : zwf g p r (zaN g p).length = zbr g p r := by unfold zwf zbr; rw [List.take_length]
theorem zwg {g : zac} {p : zal} {r : Int} {i : Nat} (hi : i < (zaN g p).length) : zwf g p r (i + 1) = if za4 (ofG g) (nth (zaN g p) i) r = zdN (za4 (ofG g) p r) then zwf g p r i else zwf g p r i ++ [za4 (ofG g) (nth (zaN g p) i) r] := by
 unfold zwf
 rw [List.take_add_one, List.getElem?_eq_getElem hi, ← zaA _ _ hi, Option.toList_some, List.filter_append, List.map_append]
 by_cases h : za4 (ofG g) (nth (zaN g p) i) r = zdN (za4 (ofG g) p r)
 ·rw [if_pos h]
  simp [zh6, h]
 ·rw [if_neg h]
  simp [zh6, h]
end Go.Av
end
