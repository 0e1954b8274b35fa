/- Texts of ours, part 8: contracts and facts for this claim. -/
import Derived.Test.YtkahkcakggflaaaGreatDoorB08
set_option linter.unusedSimpArgs false
set_option linter.unusedVariables false
set_option maxRecDepth 100000
set_option maxHeartbeats 40000000
section
open Go Go.Proofs
namespace Go.Av
theorem zka {α : Type} [DecidableEq α] : ∀ {l r : List α}, l.Nodup → (∀ x ∈ l, x ∈ r) → l.length ≤ r.length
 | [], r, _, _ => by simp
 | x :: l, r, hn, hs => by
  rw [List.nodup_cons] at hn
  have hx := hs x (by simp)
  have := zka (l := l) (r := r.erase x) hn.2 (fun y hy => by
   have hne : y ≠ x := fun h => hn.1 (h ▸ hy)
   exact (List.mem_erase_of_ne hne).2 (hs y (by simp [hy])))
  rw [List.length_erase_of_mem hx] at this
  have := List.length_pos_of_mem hx
  simp only [List.length_cons]
  omega
def zyB (l : List zaj) (p : zaj) : Int := match l.findIdx? (fun q => decide (q = p)) with | some i => (i : Int) | none => -1
theorem zv4 {l : List zaj} (h : Inc l) {j : Nat} (hj : j < l.length) : zyB l (nth l j) = j := by
 have : l.findIdx? (fun q => decide (q = nth l j)) = some j := by
  rw [List.findIdx?_eq_some_iff_getElem]
  refine ⟨hj, by rw [← zaJ _ _ hj]; simp, fun i hi => ?_⟩
  rw [← zaJ _ _ (by omega)]
  simp only [decide_eq_true_eq]
  intro e
  have := h.inj (by omega) hj e
  omega
 unfold zyB
 rw [this]
theorem zoR {l : List zaj} {p : zaj} (h : p ∉ l) : zyB l p = -1 := by
 have : l.findIdx? (fun q => decide (q = p)) = none := by
  rw [List.findIdx?_eq_none_iff]
  intro x hx
  simp only [decide_eq_false_iff_not]
  intro e
  exact h (e ▸ hx)
 unfold zyB
 rw [this]
theorem zrW {l : List zaj} (h : Inc l) {p : zaj} : 0 ≤ zyB l p ↔ p ∈ l := by
 by_cases hp : p ∈ l
 ·obtain ⟨j, hj, rfl⟩ := ze6 hp
  rw [zv4 h hj]
  exact ⟨fun _ => hp, fun _ => by omega⟩
 ·rw [zoR hp]
  exact ⟨fun h => by omega, fun h => absurd h hp⟩
def znm : List zaj → zaj → Nat
 | [], _ => 0
 | q :: l, p => if zbB q p < 0 then znm l p + 1 else 0
theorem zws : ∀ (l : List zaj) (p : zaj), znm l p ≤ l.length
 | [], p => by simp [znm]
 | q :: l, p => by
  have := zws l p
  rw [znm, List.length_cons]
  split <;> omega
theorem zqY {p : zaj} : ∀ {l : List zaj} {h : Nat}, h < znm l p → zbB (nth l h) p < 0
 | [], h, hl => by simp [znm] at hl
 | q :: l, h, hl => by
  rw [znm] at hl
  split at hl
  ·cases h with
   | zero => rw [zaw]; assumption
   | succ h => rw [zje]; exact zqY (by omega)
  ·omega
theorem zwr {p : zaj} : ∀ {l : List zaj}, Inc l → ∀ {h : Nat}, znm l p ≤ h → h < l.length → ¬ zbB (nth l h) p < 0
 | [], _, h, _, hl => by simp at hl
 | q :: l, hi, h, hl, hn => by
  have hi := List.pairwise_cons.1 hi
  rw [znm] at hl
  split at hl
  ·cases h with
   | zero => omega
   | succ h => rw [zje]; exact zwr hi.2 (by omega) (by simpa using hn)
  ·rename_i hq
   cases h with
   | zero => rw [zaw]; exact hq
   | succ h =>
    rw [zje]
    intro hr
    have hm : nth l h ∈ l := zan (by simpa using hn)
    have h1 := hi.1 _ hm
    have h2 := zbd.tr q (nth l h) p (by omega) (by omega)
    have e := (zbd.eq q p).1 (by omega)
    subst e
    have := zbd.swap q (nth l h)
    omega
theorem zr0 {l : List zaj} (hi : Inc l) (p : zaj) {h : Nat} (hn : h < l.length) : zbB (nth l h) p < 0 ↔ h < znm l p := by
 constructor
 ·intro hc
  rcases Nat.lt_or_ge h (znm l p) with h' | h'
  ·exact h'
  ·exact absurd hc (zwr hi h' hn)
 ·exact zqY
theorem zr1 {l : List zaj} (hi : Inc l) (p : zaj) : p ∈ l ↔ znm l p < l.length ∧ nth l (znm l p) = p := by
 constructor
 ·intro hp
  obtain ⟨j, hj, rfl⟩ := ze6 hp
  have h0 := (zbd.eq (nth l j) (nth l j)).2 rfl
  have h1 : ¬ j < znm l (nth l j) := fun h => by
   have := zqY h
   omega
  rcases Nat.lt_or_ge (znm l (nth l j)) j with h' | h'
  ·have h2 := hi.lt h' hj
   have h3 := (zr0 hi (nth l j) (by omega)).1 h2
   omega
  ·have e : znm l (nth l j) = j := by omega
   rw [e]
   exact ⟨hj, rfl⟩
 ·rintro ⟨h1, h2⟩
  rw [← h2]
  exact zan h1
theorem zyC {l : List zaj} (hi : Inc l) (p : zaj) : zyB l p = if p ∈ l then (znm l p : Int) else -1 := by
 split
 ·rename_i hp
  obtain ⟨h1, h2⟩ := (zr1 hi p).1 hp
  have := zv4 hi h1
  rwa [h2] at this
 ·rename_i hp
  exact zoR hp
theorem zhb : ∀ c : Nat, (zaT c).Nodup
 | 0 => by simp [zaT]
 | c + 1 => by
  unfold zaT
  have ih := zhb c
  generalize zaT c = L at ih
  induction L with
  | nil => simp
  | cons l L ihL =>
   rw [List.nodup_cons] at ih
   rw [List.flatMap_cons]
   refine List.nodup_append.2 ⟨by simp, ihL ih.2, ?_⟩
   intro a ha b hb e
   subst e
   obtain ⟨m, hm, hb⟩ := List.mem_flatMap.1 hb
   have key : ∀ x y : Int, l ++ [x] = m ++ [y] → False := fun x y h => by
    have := (List.append_inj' h rfl).1
    subst this
    exact ih.1 hm
   simp only [List.mem_cons, List.not_mem_nil, or_false] at ha hb
   rcases ha with rfl | rfl | rfl <;> rcases hb with h | h | h <;> exact key _ _ h
theorem zeW : ∀ c : Nat, (zaT c).length = 3 ^ c
 | 0 => rfl
 | c + 1 => by
  have ih := zeW c
  unfold zaT
  rw [List.length_flatMap]
  have : ((zaT c).map fun l : List Int => ([l ++ [0], l ++ [1], l ++ [2]] : List (List Int)).length) = (zaT c).map fun _ => 3 := rfl
  rw [this, List.map_const', List.sum_replicate_nat, ih, Nat.pow_succ]
theorem zoG (g : zaf) : (zb4 g).Nodup := by
 unfold zb4
 have hb := zhb g.cells.toNat
 generalize zaT g.cells.toNat = L at hb
 have hside : ∀ l, (zei g l).Nodup := fun l => by
  unfold zei
  have hr : (List.range (2 ^ g.rights.toNat)).Nodup := List.nodup_range
  generalize List.range (2 ^ g.rights.toNat) = R at hr
  induction R with
  | nil => simp
  | cons r R ih =>
   rw [List.nodup_cons] at hr
   rw [List.flatMap_cons]
   refine List.nodup_append.2 ⟨by simp, ih hr.2, ?_⟩
   intro a ha b hb e
   subst e
   obtain ⟨m, hm, hb⟩ := List.mem_flatMap.1 hb
   have key : ∀ x y : Int, (⟨l, [0], [0], (r : Int), x⟩ : zaj) = ⟨l, [0], [0], (m : Int), y⟩ → False := fun x y h => by
    have := congrArg zaj.rights h
    simp only at this
    have : r = m := by omega
    subst this
    exact hr.1 hm
   simp only [List.mem_cons, List.not_mem_nil, or_false] at ha hb
   rcases ha with rfl | rfl <;> rcases hb with h | h <;> exact key _ _ h
 induction L with
 | nil => simp
 | cons l L ih =>
  rw [List.nodup_cons] at hb
  rw [List.flatMap_cons]
  refine List.nodup_append.2 ⟨hside l, ih hb.2, ?_⟩
  intro a ha b hb2 e
  subst e
  obtain ⟨m, hm, hb2⟩ := List.mem_flatMap.1 hb2
  have key : ∀ l, a ∈ zei g l → a.at_ = l := fun l h => by
   unfold zei at h
   obtain ⟨r, _, h⟩ := List.mem_flatMap.1 h
   simp only [List.mem_cons, List.not_mem_nil, or_false] at h
   rcases h with rfl | rfl <;> rfl
  have := (key l ha).symm.trans (key m hb2)
  subst this
  exact hb.1 hm
theorem zlO {g : zaf} (h : znU g) : (zb4 g).length ≤ 324 := by
 have c4 := h.c4
 have r1 := h.r1
 have r0 := h.ok.r0
 have hs : ∀ l, (zei g l).length ≤ 4 := fun l => by
  unfold zei
  rw [List.length_flatMap]
  have e : ((List.range (2 ^ g.rights.toNat)).map fun (r : Nat) => ([(⟨l, [0], [0], (r : Int), 0⟩ : zaj), ⟨l, [0], [0], (r : Int), 1⟩] : List zaj).length) = (List.range (2 ^ g.rights.toNat)).map fun _ => 2 := rfl
  rw [e, List.map_const', List.sum_replicate_nat, List.length_range]
  rcases (show g.rights.toNat = 0 ∨ g.rights.toNat = 1 by omega) with e | e <;> rw [e] <;> decide
 have hb := zeW g.cells.toNat
 have h81 : (3 : Nat) ^ g.cells.toNat ≤ 81 := by
  have : (3 : Nat) ^ g.cells.toNat ≤ 3 ^ 4 := Nat.pow_le_pow_right (by decide) (by omega)
  exact this
 unfold zb4
 generalize zaT g.cells.toNat = L at *
 have key : ∀ L : List (List Int), (L.flatMap (zei g)).length ≤ 4 * L.length := fun L => by
  induction L with
  | nil => simp
  | cons l L ih =>
   rw [List.flatMap_cons, List.length_append, List.length_cons]
   have := hs l
   omega
 have := key L
 omega
theorem zkP {g : zaf} (h : znU g) (p : zaj) : (zaG g p).length ≤ 324 :=
 Nat.le_trans (zka (List.Pairwise.imp (fun {a b} hab e => by have := (zbd.eq a b).2 e; omega) (zbN g p)) fun q hq => (zf8 h).2 (zdn h.ok hq)) (zlO h)
theorem zuy {g : zaf} (h : znU g) {p : zaj} (hp : POk g p) : ((zb4 g).filter fun q => !decide (q.side = p.side) && decide (p ∈ zaH g q)).length = (zaG g p).length := by
 have hmem : ∀ q, q ∈ ((zb4 g).filter fun q => !decide (q.side = p.side) && decide (p ∈ zaH g q)) ↔ q ∈ zaG g p := fun q => by
  rw [List.mem_filter, zf8 h, zb9 h.ok, Bool.and_eq_true, decide_eq_true_eq]
  constructor
  ·rintro ⟨h1, _, h2⟩; exact ⟨h1, h2⟩
  ·rintro ⟨h1, h2⟩
   refine ⟨h1, ?_, h2⟩
   have h3 := (zc8 h.ok h1 p h2).2
   have h4 := h1.s
   simp
   omega
 have hnd : (zaG g p).Nodup := List.Pairwise.imp (fun {a b} hab e => by have := (zbd.eq a b).2 e; omega) (zbN g p)
 exact Nat.le_antisymm (zka ((zoG g).filter _) fun q hq => (hmem q).1 hq) (zka hnd fun q hq => (hmem q).2 hq)
def zhF (x : zgA) : zgA := { x with w := x.w.tmod 2, h := x.h.tmod 2, k1 := [], f2 := 0, f0 := x.f0.tmod 2 }
theorem znA {a : Int} (h : U8 a) : (a.tmod 2 = 0 ∨ a.tmod 2 = 1) ∧ U8 (a.tmod 2) := by
 have h0 := Int.tmod_nonneg 2 h.1
 have h1 := Int.tmod_lt_of_pos a (show (0 : Int) < 2 by decide)
 exact ⟨by omega, by omega, by omega⟩
theorem zsq {x : zgA} (hx : zjs x) : zjs (zhF x) :=
 ⟨(znA hx.w).2, (znA hx.h).2, hx.cut, hx.k0, fun n hn => (by cases hn), hx.c, (znA hx.f0).2, hx.f1, (show U8 0 from ⟨by decide, by decide⟩), hx.f3, hx.f4, hx.f5⟩
theorem ztU {w h : Int} (hw : w = 0 ∨ w = 1) (hh : h = 0 ∨ h = 1) (cut : Int) : (zeH w h cut).cells ≤ 4 := by
 have key : ∀ a b : Nat, a ≤ 2 → b ≤ 2 → (zdh a b).cells ≤ 4 := by
  intro a b ha hb
  have : a = 0 ∨ a = 1 ∨ a = 2 := by omega
  have : b = 0 ∨ b = 1 ∨ b = 2 := by omega
  rcases ‹a = 0 ∨ a = 1 ∨ a = 2› with rfl | rfl | rfl <;> rcases ‹b = 0 ∨ b = 1 ∨ b = 2› with rfl | rfl | rfl <;> decide
 have e : ∀ z : Int, z = 0 ∨ z = 1 → (1 + z.tmod 3).toNat ≤ 2 := by rintro z (rfl | rfl) <;> decide
 have k1 := key _ _ (e w hw) (e h hh)
 unfold zeH
 split
 ·unfold zcc
  simp only
  omega
 ·exact k1
theorem zxd {x : zgA} (hx : zjs x) : znU (zfm (zhF x)) := by
 have hg := zr2 (zsq hx)
 have hk : zcY (zhF x) = 1 := rfl
 refine ⟨hg, ztU (znA hx.w).1 (znA hx.h).1 x.cut, ?_, fun k hk => ?_, ?_⟩
 ·show ((List.range (zcY (zhF x))).map _).length = 1
  rw [hk]
  rfl
 ·obtain ⟨i, hi, rfl⟩ := List.mem_map.1 hk
  have hi := List.mem_range.1 hi
  rw [show zcY (zhF x) = 1 from rfl] at hi
  obtain rfl : i = 0 := by omega
  simp only [zeF, zhF]
  decide +kernel
 ·show (x.f0.tmod 2).tmod 3 ≤ 1
  rcases (znA hx.f0).1 with h | h <;> rw [h] <;> decide
end Go.Av
end
