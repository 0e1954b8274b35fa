/- Texts of ours, part 10: contracts and facts for this claim. -/
import Derived.Test.YtedhfmmlhfmomaaGreatDoorB10
import Derived.Test.YtedhfmmlhfmomaaGreatDoorSLx09
set_option linter.unusedSimpArgs false
set_option linter.unusedVariables false
set_option maxRecDepth 100000
set_option maxHeartbeats 40000000
section
open Go Go.Proofs
namespace Go.Av
def zid (g : zac) (p : zal) (i : Nat) : zal := za4 (ofG g) p (nth (zaO (ofG g) (ofG g).length) i)
def zoW (g : zac) (p : zal) (i : Nat) (m : zal) : zal := znp (zb2 (ofG g) p i m) (ofG g).length
def zfB (g : zac) (p : zal) (i : Nat) : List zal := (List.range i).flatMap fun i => (zaN g (zid g p i)).map (zoW g p i)
def zdG (g : zac) (p : zal) (i k : Nat) : List zal := zfB g p i ++ ((zaN g (zid g p i)).take k).map (zoW g p i)
theorem zoZ (g : zac) (p : zal) (i : Nat) : zdG g p i 0 = zfB g p i := by simp [zdG]
theorem zoY (g : zac) (p : zal) (i : Nat) {k : Nat} (hk : k < (zaN g (zid g p i)).length) : zdG g p i (k + 1) = zdG g p i k ++ [zoW g p i (nth (zaN g (zid g p i)) k)] := by
 unfold zdG
 rw [List.take_add_one, List.getElem?_eq_getElem hk, ← zaA _ _ hk, Option.toList_some, List.map_append, List.append_assoc]
 rfl
theorem zqO (g : zac) (p : zal) (i : Nat) : zdG g p i (zaN g (zid g p i)).length = zfB g p (i + 1) := by
 unfold zdG zfB
 rw [List.take_length, List.range_succ, List.flatMap_append]
 simp
theorem zqN (g : zac) (p : zal) : zfB g p (zaO (ofG g) (ofG g).length).length = zh7 g p := rfl
theorem zkp {of : List Int} {p : zal} {i : Nat} {m : zal} {j : Nat} (hj : j < (zaO of of.length).length) : nth (zb2 of p i m) j = if i = j then m else zdN (nth (zaW of p) j) := by
 rw [zf4 hj, zes hj]
theorem zfA {α β : Type} (f : α → List β) (b : Nat) : ∀ l : List α, (∀ a ∈ l, (f a).length ≤ b) → (l.flatMap f).length ≤ l.length * b
 | [], _ => by simp
 | a :: l, h => by
  rw [List.flatMap_cons, List.length_append, List.length_cons, Nat.add_mul, Nat.one_mul]
  have h1 := h a (by simp)
  have h2 := zfA f b l fun x hx => h x (by simp [hx])
  omega
theorem zq4 {of : List Int} {p : zal} {i : Nat} {m : zal} {j : Nat} (hj : j < (zaO of of.length).length) : (zb2 of p i m).take (j + 1) = (zb2 of p i m).take j ++ [if i = j then m else zdN (nth (zaW of p) j)] := by
 rw [← zkp hj]
 have hl : j < (zb2 of p i m).length := by rw [zdw]; exact hj
 rw [List.take_add_one, List.getElem?_eq_getElem hl, ← zaA _ _ hl, Option.toList_some]
theorem zqP {g : zac} (hg : GOk g) {p : zal} (hp : POk g p) {i : Nat} (hi : i ≤ 9) (k : Nat) : (zdG g p i k).length ≤ 10 * 472446 := by
 have h0 : ∀ j, (zaN g (zid g p j)).length ≤ 472446 := fun j => zc1 hg (zci hp _ _)
 have h1 := zfA (fun i => (zaN g (zid g p i)).map (zoW g p i)) 472446 (List.range i) fun j _ => by
  rw [List.length_map]; exact h0 j
 have h2 := h0 i
 unfold zdG zfB
 rw [List.length_append, List.length_map, List.length_take]
 rw [List.length_range] at h1
 have h3 : i * 472446 ≤ 9 * 472446 := Nat.mul_le_mul_right _ hi
 omega
theorem zyw {g : zac} (h : znL g) (hn : zff g) {p : zal} (hp : POk g p) {i : Nat} (hi : i < (zaO (ofG g) (ofG g).length).length) {m : zal} (hm : m ∈ zaN g (zid g p i)) : POk g (zoW g p i m) := by
 have h1 := zkk h hn hp hi hm
 have hlen := zic g
 have hof : ((ofG g).length : Int) = g.cells := by have := h.ok.c1; omega
 exact zyx h.of hof (by have := h.ok.c1; omega) h1
theorem ztL {g : zac} (h : znL g) (hn : zff g) {p : zal} (hp : POk g p) {i : Nat} (hi : i ≤ (zaO (ofG g) (ofG g).length).length) : ∀ q ∈ zfB g p i, POk g q := fun q hq => by
 obtain ⟨j, hj, hq⟩ := List.mem_flatMap.1 hq
 have hj := List.mem_range.1 hj
 obtain ⟨m, hm, rfl⟩ := List.mem_map.1 hq
 exact zyw h hn hp (by omega) hm
end Go.Av
end
