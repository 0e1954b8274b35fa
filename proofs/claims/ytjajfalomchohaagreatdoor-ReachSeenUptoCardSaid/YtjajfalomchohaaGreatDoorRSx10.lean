/- Texts of ours, part 10: contracts and facts for this claim. -/
import Derived.Test.YtjajfalomchohaaGreatDoorB10
import Derived.Test.YtjajfalomchohaaGreatDoorRSx05
set_option linter.unusedSimpArgs false
set_option linter.unusedVariables false
set_option maxRecDepth 100000
set_option maxHeartbeats 40000000
section
/- Plain: searches by their layers; the least game; games within games. -/
open Go Go.Proofs
namespace Go.Av
def itK (g : GameD) : Nat → List PosD → List PosD → List PosD × List PosD
 | 0, k, n => (k, n)
 | i + 1, k, n => itK g i (k ++ nextP g k n) (sortU cmpP (nextP g k n))
theorem itK_succ (g : GameD) : ∀ (i : Nat) (k n : List PosD), itK g (i + 1) k n = ((itK g i k n).1 ++ nextP g (itK g i k n).1 (itK g i k n).2, sortU cmpP (nextP g (itK g i k n).1 (itK g i k n).2))
 | 0, k, n => rfl
 | i + 1, k, n => by
  rw [itK, itK_succ g i]
  rfl
theorem itK_ok {g : GameD} (hg : GOk g) : ∀ (i : Nat) {k n : List PosD}, SearchOk g k n → SearchOk g (itK g i k n).1 (itK g i k n).2
 | 0, k, n, h => h
 | i + 1, k, n, h => itK_ok hg i (h.next hg)
theorem layersP_nth (g : GameD) (b : Int) : ∀ (f : Nat) (k n : List PosD) (i : Nat), i < (layersP g b f k n).length → (nth (layersP g b f k n) i).1 = (itK g i k n).2
 | 0, k, n, i, h => by simp [layersP] at h
 | f + 1, k, n, i, h => by
  rw [layersP] at h ⊢
  split at h
  ·rename_i hk
   rw [if_pos hk]
   simp only [List.length_singleton] at h
   obtain rfl : i = 0 := by omega
   rfl
  ·rename_i hk
   rw [if_neg hk]
   split at h
   ·rename_i hz
    rw [if_pos hz]
    simp only [List.length_singleton] at h
    obtain rfl : i = 0 := by omega
    rfl
   ·rename_i hz
    rw [if_neg hz]
    cases i with
    | zero => rfl
    | succ i =>
     rw [nth_succ, itK]
     exact layersP_nth g b f _ _ i (by simpa using h)
theorem layersP_more (g : GameD) (b : Int) : ∀ (f : Nat) (k n : List PosD) (i : Nat), i + 1 < (layersP g b f k n).length → ((itK g i k n).1.length : Int) ≤ b ∧ nextP g (itK g i k n).1 (itK g i k n).2 ≠ []
 | 0, k, n, i, h => by simp [layersP] at h
 | f + 1, k, n, i, h => by
  rw [layersP] at h
  split at h
  ·simp at h
  ·rename_i hk
   split at h
   ·simp at h
   ·rename_i hz
    cases i with
    | zero => exact ⟨by simpa [itK] using hk, hz⟩
    | succ i =>
     rw [itK]
     exact layersP_more g b f _ _ i (by simpa using h)
theorem layersP_end (g : GameD) (b : Int) (hb : 0 ≤ b) : ∀ (f : Nat) (k n : List PosD) (i : Nat), b.toNat + 2 ≤ f + k.length → i + 1 = (layersP g b f k n).length →
  ((nth (layersP g b f k n) i).2 = true ∧ ((itK g i k n).1.length : Int) ≤ b ∧ nextP g (itK g i k n).1 (itK g i k n).2 = []) ∨ ((nth (layersP g b f k n) i).2 = false ∧ b < ((itK g i k n).1.length : Int))
 | 0, k, n, i, hf, h => by simp [layersP] at h
 | f + 1, k, n, i, hf, h => by
  rw [layersP] at h ⊢
  split at h
  ·rename_i hk
   rw [if_pos hk]
   simp only [List.length_singleton] at h
   obtain rfl : i = 0 := by omega
   exact .inr ⟨rfl, hk⟩
  ·rename_i hk
   rw [if_neg hk]
   split at h
   ·rename_i hz
    rw [if_pos hz]
    simp only [List.length_singleton] at h
    obtain rfl : i = 0 := by omega
    exact .inl ⟨rfl, by simpa [itK] using hk, hz⟩
   ·rename_i hz
    rw [if_neg hz]
    have hnl := List.length_pos_iff.2 hz
    have hf2 : b.toNat + 2 ≤ f + (k ++ nextP g k n).length := by rw [List.length_append]; omega
    have h0 : 0 < (layersP g b f (k ++ nextP g k n) (sortU cmpP (nextP g k n))).length := by
     cases f with
     | zero => omega
     | succ f => exact List.length_pos_iff.2 (layersP_ne g b f _ _)
    simp only [List.length_cons] at h
    cases i with
    | zero => omega
    | succ i =>
     rw [nth_succ, itK]
     exact layersP_end g b hb f _ _ i hf2 (by omega)
def layK (g : GameD) (p : PosD) (i : Nat) : List PosD := (itK g i [p] [p]).2
def knoK (g : GameD) (p : PosD) (i : Nat) : List PosD := (itK g i [p] [p]).1
def endK (g : GameD) (p : PosD) (n : Int) : Nat := (searchP g p n).length - 1
theorem endK_len (g : GameD) (p : PosD) (n : Int) : (searchP g p n).length = endK g p n + 1 := by
 have := List.length_pos_iff.2 (searchP_ne g p n)
 unfold endK
 omega
theorem search_nth {g : GameD} {p : PosD} {n : Int} {i : Nat} (h : i ≤ endK g p n) : (nth (searchP g p n) i).1 = layK g p i := by
 have := endK_len g p n
 exact layersP_nth g _ _ _ _ i (show i < (searchP g p n).length by omega)
theorem search_more {g : GameD} {p : PosD} {n : Int} {i : Nat} (h : i < endK g p n) : ((knoK g p i).length : Int) ≤ budP n ∧ nextP g (knoK g p i) (layK g p i) ≠ [] := by
 have := endK_len g p n
 exact layersP_more g _ _ _ _ i (show i + 1 < (searchP g p n).length by omega)
theorem fullP_end2 (g : GameD) (p : PosD) (n : Int) : fullP (searchP g p n) = (nth (searchP g p n) (endK g p n)).2 := fullP_nth (searchP_ne g p n)
theorem search_end (g : GameD) (p : PosD) (n : Int) :
  (fullP (searchP g p n) = true ∧ ((knoK g p (endK g p n)).length : Int) ≤ budP n ∧ nextP g (knoK g p (endK g p n)) (layK g p (endK g p n)) = []) ∨ (fullP (searchP g p n) = false ∧ budP n < ((knoK g p (endK g p n)).length : Int)) := by
 rw [fullP_end2]
 exact layersP_end g (budP n) (budP_range n).1 _ [p] [p] _ (by simp) (endK_len g p n).symm
theorem layK_zero (g : GameD) (p : PosD) : layK g p 0 = [p] := rfl
theorem knoK_zero (g : GameD) (p : PosD) : knoK g p 0 = [p] := rfl
theorem layK_succ (g : GameD) (p : PosD) (i : Nat) : layK g p (i + 1) = sortU cmpP (nextP g (knoK g p i) (layK g p i)) := congrArg Prod.snd (itK_succ g i [p] [p])
theorem knoK_succ (g : GameD) (p : PosD) (i : Nat) : knoK g p (i + 1) = knoK g p i ++ nextP g (knoK g p i) (layK g p i) := congrArg Prod.fst (itK_succ g i [p] [p])
theorem layK_ok {g : GameD} (hg : GOk g) {p : PosD} (hp : POk g p) (i : Nat) : SearchOk g (knoK g p i) (layK g p i) := itK_ok hg i (SearchOk.start hp)
theorem layK_mem {g : GameD} {p q : PosD} {i : Nat} : q ∈ layK g p (i + 1) ↔ (∃ r ∈ layK g p i, q ∈ movesP g r) ∧ q ∉ knoK g p i := by rw [layK_succ, sortU_mem, nextP_mem]
theorem knoK_mem {g : GameD} {p q : PosD} {i : Nat} : q ∈ knoK g p (i + 1) ↔ q ∈ knoK g p i ∨ q ∈ layK g p (i + 1) := by rw [knoK_succ, layK_succ, sortU_mem, List.mem_append]
theorem knoK_lay {g : GameD} {p q : PosD} : ∀ {i : Nat}, q ∈ knoK g p i ↔ ∃ j, j ≤ i ∧ q ∈ layK g p j
 | 0 => by
  constructor
  ·intro h; exact ⟨0, by omega, h⟩
  ·rintro ⟨j, hj, h⟩
   obtain rfl : j = 0 := by omega
   exact h
 | i + 1 => by
  rw [knoK_mem, knoK_lay (i := i)]
  constructor
  ·rintro (⟨j, hj, h⟩ | h)
   ·exact ⟨j, by omega, h⟩
   ·exact ⟨i + 1, by omega, h⟩
  ·rintro ⟨j, hj, h⟩
   by_cases e : j = i + 1
   ·subst e; exact .inr h
   ·exact .inl ⟨j, by omega, h⟩
theorem knoK_mono {g : GameD} {p q : PosD} {i j : Nat} (h : i ≤ j) (hq : q ∈ knoK g p i) : q ∈ knoK g p j := by
 obtain ⟨k, hk, hq⟩ := knoK_lay.1 hq
 exact knoK_lay.2 ⟨k, by omega, hq⟩
theorem layK_kno {g : GameD} {p q : PosD} {i : Nat} (hq : q ∈ layK g p i) : q ∈ knoK g p i := knoK_lay.2 ⟨i, by omega, hq⟩
theorem layK_one {g : GameD} {p q : PosD} {i j : Nat} (hi : q ∈ layK g p i) (hj : q ∈ layK g p j) : i = j := by
 have hlt : ∀ {i j : Nat}, i < j → q ∈ layK g p i → q ∈ layK g p j → False := by
  intro i j h hi hj
  cases j with
  | zero => omega
  | succ j => exact (layK_mem.1 hj).2 (knoK_lay.2 ⟨i, by omega, hi⟩)
 by_cases h1 : i < j
 ·exact (hlt h1 hi hj).elim
 ·by_cases h2 : j < i
  ·exact (hlt h2 hj hi).elim
  ·omega
theorem knoK_move {g : GameD} {p q r : PosD} {i : Nat} (hr : r ∈ knoK g p i) (hq : q ∈ movesP g r) : q ∈ knoK g p (i + 1) := by
 obtain ⟨j, hj, hr⟩ := knoK_lay.1 hr
 refine knoK_mono (show j + 1 ≤ i + 1 by omega) ?_
 rw [knoK_mem]
 by_cases h : q ∈ knoK g p j
 ·exact .inl h
 ·exact .inr (layK_mem.2 ⟨⟨r, hr, hq⟩, h⟩)
theorem full_move {g : GameD} {p : PosD} {n : Int} (hf : fullP (searchP g p n) = true) {q r : PosD} (hr : r ∈ knoK g p (endK g p n)) (hq : q ∈ movesP g r) : q ∈ knoK g p (endK g p n) := by
 have h1 : nextP g (knoK g p (endK g p n)) (layK g p (endK g p n)) = [] := by
  rcases search_end g p n with h | h
  ·exact h.2.2
  ·rw [hf] at h; simp at h
 have := knoK_move hr hq
 rwa [knoK_succ, h1, List.append_nil] at this
theorem allOf_mem {g : GameD} {p q : PosD} {n : Int} : q ∈ allOf (searchP g p n) ↔ q ∈ knoK g p (endK g p n) := by
 unfold allOf
 rw [List.mem_flatMap, knoK_lay]
 have hl := endK_len g p n
 constructor
 ·rintro ⟨x, hx, hq⟩
  obtain ⟨i, hi, rfl⟩ := mem_nth hx
  rw [search_nth (by omega)] at hq
  exact ⟨i, by omega, hq⟩
 ·rintro ⟨j, hj, hq⟩
  exact ⟨nth (searchP g p n) j, nth_mem (by omega), by rwa [search_nth hj]⟩
theorem seenP_mem {g : GameD} {p q : PosD} {n : Int} : q ∈ seenP g p n ↔ q ∈ knoK g p (endK g p n) := by rw [seenP, sortU_mem, allOf_mem]
theorem seenP_inc (g : GameD) (p : PosD) (n : Int) : Inc (seenP g p n) := sortU_pw cmp_pos _
theorem inc_nodup {l : List PosD} (h : Inc l) : l.Nodup := List.Pairwise.imp (fun {a b} hab e => by
 have := (cmp_pos.eq a b).2 e
 omega) h
theorem seenP_len {g : GameD} (hg : GOk g) {p : PosD} (hp : POk g p) (n : Int) : (seenP g p n).length = (knoK g p (endK g p n)).length :=
 Nat.le_antisymm (len_sub (inc_nodup (seenP_inc g p n)) fun q hq => seenP_mem.1 hq) (len_sub (layK_ok hg hp _).nd fun q hq => seenP_mem.2 hq)
def laysK (g : GameD) (p : PosD) (d : Nat) : List (List PosD) := (List.range (d + 1)).map (layK g p)
theorem laysK_eq {g : GameD} {p : PosD} {n : Int} {d : Nat} (h : d ≤ endK g p n) : ((searchP g p n).take (d + 1)).map (·.1) = laysK g p d := by
 have hl := endK_len g p n
 refine List.ext_getElem (by simp [laysK]; omega) fun i h1 h2 => ?_
 have hi : i < d + 1 := by simpa [laysK] using h2
 have h3 := search_nth (g := g) (p := p) (n := n) (i := i) (by omega)
 rw [nth_eq _ _ (by omega)] at h3
 simp [laysK, h3]
theorem gameP_some {g : GameD} {p goal : PosD} {n : Int} {d : Nat} (hd : d ≤ endK g p n) (h : goal ∈ layK g p d) : gameP g p goal n = (traceP g (laysK g p d) goal, 0) := by
 have hl := endK_len g p n
 rw [gameP_at (d := d) (by omega) (by rwa [search_nth hd]) (fun j hj => by
  rw [search_nth (by omega)]
  intro h2
  have := layK_one h h2
  omega), laysK_eq hd]
theorem gameP_none {g : GameD} {p goal : PosD} {n : Int} (h : goal ∉ knoK g p (endK g p n)) : gameP g p goal n = ([], if fullP (searchP g p n) then 270 else 2) := by
 have hl := endK_len g p n
 refine gameP_no fun j hj h2 => h ?_
 rw [search_nth (by omega)] at h2
 exact knoK_lay.2 ⟨j, by omega, h2⟩
theorem gameP_ok_iff {g : GameD} {p goal : PosD} {n : Int} : (gameP g p goal n).2 = 0 ↔ goal ∈ knoK g p (endK g p n) := by
 constructor
 ·intro h
  refine Classical.byContradiction fun h2 => ?_
  rw [gameP_none h2] at h
  simp only at h
  split at h <;> omega
 ·intro h
  obtain ⟨d, hd, h⟩ := knoK_lay.1 h
  rw [gameP_some hd h]
theorem gameP_err {g : GameD} {p goal : PosD} {n : Int} (h : (gameP g p goal n).2 ≠ 0) : gameP g p goal n = ([], if fullP (searchP g p n) then 270 else 2) := gameP_none fun h2 => h (gameP_ok_iff.2 h2)
section Ways
variable {g : GameD} (hg : GOk g) {p : PosD} (hp : POk g p)
end Ways
end Go.Av
end
section
/- Laws of play: the fixed examples. -/
open Go Go.Proofs
namespace Go.Av
end Go.Av
end
section
/- The law PlayEnds: its call gives true. -/
open Go Go.Proofs
namespace Go.Av
end Go.Av
end
section
/- The law PlayWalks: its call gives true. -/
open Go Go.Proofs
namespace Go.Av
end Go.Av
end
section
/- The laws ReachGames, ReachBudgets and ReachShortest: plain facts about walks; their calls give true. -/
open Go Go.Proofs
namespace Go.Av
end Go.Av
end
section
/- Plain: the men of both sides before and after a move. -/
open Go Go.Proofs
namespace Go.Av
def mn (side kind : Int) (c : Int) : Bool := isMan default side kind c
def cnt (l : List Int) (side kind : Int) : Nat := l.countP (mn side kind)
theorem mn_zero (side kind : Int) : mn side kind 0 = false := by
 unfold mn isMan manOf
 simp
theorem cnt_set : ∀ (l : List Int) {i : Nat} (hi : i < l.length) (v side kind : Int), cnt (l.set i v) side kind + (if mn side kind (nth l i) then 1 else 0) = cnt l side kind + (if mn side kind v then 1 else 0)
 | [], i, hi, _, _, _ => by simp at hi
 | a :: l, 0, _, v, side, kind => by
  simp only [cnt, List.set_cons_zero, List.countP_cons, nth_zero]
  exact Nat.add_right_comm _ _ _
 | a :: l, i + 1, hi, v, side, kind => by
  have := cnt_set l (i := i) (by simpa using hi) v side kind
  simp only [cnt, List.set_cons_succ, List.countP_cons, nth_succ] at this ⊢
  revert this
  cases mn side kind a <;> cases mn side kind v <;> cases mn side kind (nth l i) <;> simp <;> omega
theorem mn_own {side c kind : Int} (h : (manOf c).2 = side) : mn (1 - side) kind c = false := by
 unfold mn isMan
 have : ¬ (manOf c).2 = 1 - side := by omega
 simp [this]
theorem mn_foe {side c kind : Int} (h : (manOf c).2 ≠ side) : mn side kind c = false := by
 unfold mn isMan
 simp [h]
theorem mn_any {side c : Int} (h : (manOf c).2 = side) (h0 : 0 ≤ (manOf c).1) : mn side (-1) c = true := by
 unfold mn isMan
 simp [h, h0]
structure MenI (a : List Int) (side : Int) (l : List Int) : Prop where
 len : l.length = a.length
 own : cnt l side (-1) + 1 = cnt a side (-1)
 foe : ∀ k, cnt l (1 - side) k ≤ cnt a (1 - side) k
theorem MenI.start {a : List Int} {i : Nat} (hi : i < a.length) {side : Int} (h0 : 0 ≤ (manOf (nth a i)).1) (h : (manOf (nth a i)).2 = side) : MenI a side (a.set i 0) := by
 refine ⟨by simp, ?_, fun k => ?_⟩
 ·have := cnt_set a hi 0 side (-1)
  rw [mn_zero, mn_any h h0] at this
  simpa using this
 ·have := cnt_set a hi 0 (1 - side) k
  rw [mn_zero, mn_own h] at this
  simp at this
  omega
theorem MenI.take {a l : List Int} {side : Int} (h : MenI a side l) {i : Nat} (hi : i < l.length) (hs : (manOf (nth l i)).2 ≠ side) : MenI a side (l.set i 0) := by
 refine ⟨by simpa using h.len, ?_, fun k => ?_⟩
 ·have := cnt_set l hi 0 side (-1)
  rw [mn_zero, mn_foe hs] at this
  have := h.own
  simp at *
  omega
 ·have := cnt_set l hi 0 (1 - side) k
  rw [mn_zero] at this
  have := h.foe k
  simp at *
  omega
theorem cnt_push {l : List Int} {i j : Nat} (hi : i < l.length) (hj : j < l.length) (h0 : nth l j = 0) (h1 : nth l i ≠ 0) (side kind : Int) : cnt ((l.set j (nth l i)).set i 0) side kind = cnt l side kind := by
 have hij : j ≠ i := fun e => h1 (e ▸ h0)
 have a1 := cnt_set l hj (nth l i) side kind
 have a2 := cnt_set (l.set j (nth l i)) (i := i) (by simpa using hi) 0 side kind
 rw [h0, mn_zero] at a1
 have e := nth_setE l j i (nth l i)
 rw [if_neg (fun h => hij h.1)] at e
 rw [e, mn_zero] at a2
 revert a1 a2
 cases mn side kind (nth l i) <;> simp <;> omega
theorem MenI.push {a l : List Int} {side : Int} (h : MenI a side l) {i j : Nat} (hi : i < l.length) (hj : j < l.length) (h0 : nth l j = 0) (h1 : nth l i ≠ 0) : MenI a side ((l.set j (nth l i)).set i 0) :=
 ⟨by simpa using h.len, by rw [cnt_push hi hj h0 h1]; exact h.own, fun k => by rw [cnt_push hi hj h0 h1]; exact h.foe k⟩
theorem slideGo_at {s : StD} : ∀ {l : List Int}, ∀ t ∈ slideGo s l, t.p = s.p
 | [], t, h => by simp [slideGo] at h
 | c :: l, t, h => by
  rw [slideGo, List.mem_cons] at h
  rcases h with rfl | h
  ·rfl
  ·split at h
   ·exact slideGo_at t h
   ·simp at h
theorem withHand_at (p : PosD) (side : Int) (l : List Int) : (p.withHand side l).at_ = p.at_ := by
 unfold PosD.withHand
 split <;> rfl
theorem MenI.step {g : GameD} (hg : GOk g) {a : List Int} {s : StD} (hs : StOk g s) (h : MenI a s.p.side s.p.at_) {x : Int × Int} : ∀ t ∈ stepS g s x, MenI a s.p.side t.p.at_ := by
 intro t ht
 have hal := hs.p.al
 have c0 := hs.c0
 have c1 := hs.c1
 have hcl : s.cursor.toNat < s.p.at_.length := by omega
 unfold stepS at ht
 simp only at ht
 repeat' split at ht
 ·have := onlyS_mem ht; subst this; exact h
 ·have := slideGo_at t ht; rw [this]; exact h
 ·have := onlyS_mem ht; subst this; exact h
 ·have := onlyS_mem ht; subst this; exact h
 ·have := onlyS_mem ht; subst this; exact h
 ·unfold takeS at ht
  simp only at ht
  split at ht
  ·simp at ht
  ·rename_i hm
   have hm2 : (manOf (nth s.p.at_ s.cursor.toNat)).2 ≠ s.p.side := fun e => hm (.inr e)
   have key := h.take hcl hm2
   split at ht
   ·split at ht
    ·simp at ht
    ·simp only [List.mem_singleton] at ht
     subst ht
     simp only [withHand_at]
     exact key
   ·simp only [List.mem_singleton] at ht
    subst ht
    exact key
 ·unfold pushS at ht
  simp only at ht
  split at ht
  ·simp at ht
  ·rename_i hm
   simp only [not_or, Decidable.not_not, Int.not_lt] at hm
   simp only [List.mem_singleton] at ht
   subst ht
   have hto := toB_lt hg.board s.p.side x.2 s.cursor
   have e : g.board.cells = g.cells := rfl
   exact h.push hcl (by omega) hm.2.2 hm.1
 ·simp only [List.mem_singleton] at ht; subst ht; exact h
 ·have := onlyS_mem ht; subst this; exact h
 ·simp only [List.mem_singleton] at ht; subst ht; exact h
 ·simp only [List.mem_singleton] at ht; subst ht; exact h
end Go.Av
end
section
/- Plain: the number of moves in games that are made: at most 66. What a small search sees. -/
open Go Go.Proofs
namespace Go.Av
def lines2 (b : BoardD) : Bool := (List.range 2).all fun (s : Nat) => (List.range 8).all fun (d : Nat) => (List.range b.cells.toNat).all fun (c : Nat) => decide ((lineB b s d c).length ≤ 2)
def allLines : Bool := [1, 2, 3].all fun (w : Nat) => [1, 2, 3].all fun (h : Nat) => lines2 (gridB w h) && (List.range (w * h)).all fun (c : Nat) => lines2 (withoutB (gridB w h) c)
theorem allLines_true : allLines = true := by kernel_rfl
theorem lines2_made {w h cut : Int} (hw : U8 w) (hh : U8 h) (hc : U8 cut) : lines2 (madeB w h cut) = true := by
 unfold U8 at *
 have a0 := Int.tmod_nonneg 3 hw.1
 have a1 := Int.tmod_lt_of_pos w (show (0 : Int) < 3 by decide)
 have b0 := Int.tmod_nonneg 3 hh.1
 have b1 := Int.tmod_lt_of_pos h (show (0 : Int) < 3 by decide)
 have key := allLines_true
 unfold allLines at key
 have hW : (1 + w.tmod 3).toNat ∈ [1, 2, 3] := by
  simp only [List.mem_cons, List.not_mem_nil, or_false]
  omega
 have hH : (1 + h.tmod 3).toNat ∈ [1, 2, 3] := by
  simp only [List.mem_cons, List.not_mem_nil, or_false]
  omega
 have k2 := List.all_eq_true.1 (List.all_eq_true.1 key _ hW) _ hH
 have hW1 : 1 ≤ (1 + w.tmod 3).toNat := by omega
 have hH1 : 1 ≤ (1 + h.tmod 3).toNat := by omega
 unfold madeB
 generalize (1 + w.tmod 3).toNat = W at *
 generalize (1 + h.tmod 3).toNat = H at *
 rw [Bool.and_eq_true] at k2
 split
 ·have hpos : 0 < W * H := Nat.mul_pos (by omega) (by omega)
  have e : (gridB W H).cells = ((W * H : Nat) : Int) := by simp [gridB]
  rw [e]
  have c0 := Int.tmod_nonneg ((W * H : Nat) : Int) hc.1
  have c1 := Int.tmod_lt_of_pos cut (show (0 : Int) < ((W * H : Nat) : Int) by omega)
  have k3 := List.all_eq_true.1 k2.2 (cut.tmod ((W * H : Nat) : Int)).toNat (List.mem_range.2 (by omega))
  rwa [Int.toNat_of_nonneg c0] at k3
 ·exact k2.1
theorem lines2_at {b : BoardD} (h : lines2 b = true) {side d c : Int} (hs : side = 0 ∨ side = 1) (hd : 0 ≤ d ∧ d < 8) (hc : 0 ≤ c ∧ c < b.cells) : (lineB b side d c).length ≤ 2 := by
 unfold lines2 at h
 have h1 := List.all_eq_true.1 h side.toNat (List.mem_range.2 (by omega))
 have h2 := List.all_eq_true.1 h1 d.toNat (List.mem_range.2 (by omega))
 have h3 := List.all_eq_true.1 h2 c.toNat (List.mem_range.2 (by omega))
 rw [Int.toNat_of_nonneg (by omega), Int.toNat_of_nonneg (by omega), Int.toNat_of_nonneg (by omega)] at h3
 exact of_decide_eq_true h3
theorem lineGo_ne (b : BoardD) (side d c : Int) : ∀ (f : Nat) (x : Int) (seen : List Int), (∀ y ∈ seen, y ≠ c ∧ 0 ≤ y) → ∀ y ∈ lineGo b side d c f x seen, y ≠ c ∧ 0 ≤ y
 | 0, x, seen, h => h
 | f + 1, x, seen, h => by
  rw [lineGo]
  split
  ·rename_i hx
   refine lineGo_ne b side d c f _ _ fun y hy => ?_
   rcases List.mem_append.1 hy with hy | hy
   ·exact h y hy
   ·simp only [List.mem_singleton] at hy
    subst hy
    exact ⟨hx.2.1, hx.1⟩
  ·exact h
theorem lineB_ne (b : BoardD) (side d c : Int) : ∀ y ∈ lineB b side d c, y ≠ c ∧ 0 ≤ y := lineGo_ne b side d c _ _ _ (by simp)
def slideF (p : List (Int × Int)) : Prop := ∀ x ∈ p.drop 1, x.1 ≠ 2
theorem libL_slide (d e k r : Int) : ∀ p ∈ libL d e k r, slideF p ∧ ((∀ x ∈ p, x.1 ≠ 2) ∨ ∀ x ∈ p, x.1 ≠ 9 ∧ x.1 ≠ 10) := by
 intro p hp
 simp only [libL, List.mem_cons, List.not_mem_nil, or_false] at hp
 rcases hp with rfl | rfl | rfl | rfl | rfl | rfl | rfl | rfl | rfl | rfl | rfl | rfl | rfl | rfl | rfl | rfl <;>
  simp only [slideF, List.drop_succ_cons, List.drop_zero, List.forall_mem_cons, List.not_mem_nil, false_implies, implies_true, and_true] <;> decide
theorem fitStep_opT {dirs kinds rights : Int} {x y : Int × Int} (h : fitStep dirs kinds rights x = some y) : y.1 = x.1 := by
 unfold fitStep at h
 repeat' split at h
 all_goals first | (cases h; rfl) | cases h
theorem fit_some {dirs kinds rights : Int} : ∀ {p : List (Int × Int)}, (∀ x ∈ p, x.1 ≠ 9 ∧ x.1 ≠ 10) → (p.filterMap (fitStep dirs kinds rights)).map (·.1) = p.map (·.1)
 | [], _ => rfl
 | x :: p, h => by
  have ih := fit_some (dirs := dirs) (kinds := kinds) (rights := rights) (p := p) fun y hy => h y (by simp [hy])
  obtain ⟨y, hy⟩ : ∃ y, fitStep dirs kinds rights x = some y := by
   have := h x (by simp)
   unfold fitStep
   split
   ·exact ⟨_, rfl⟩
   ·split
    ·exact ⟨_, rfl⟩
    ·rw [if_neg (by omega)]
     exact ⟨_, rfl⟩
  rw [List.filterMap_cons_some hy, List.map_cons, List.map_cons, ih, fitStep_opT hy]
theorem madeP_slide (n dirs kinds rights : Int) (hn : 0 ≤ n) : slideF (madeP n dirs kinds rights) := by
 unfold madeP
 have h16 : (n.tmod 16).toNat < 16 := by
  have := Int.tmod_lt_of_pos n (show (0 : Int) < 16 by decide)
  omega
 obtain ⟨h1, h2⟩ := libL_slide ((n.tdiv 16).tmod 8) ((n.tdiv 16 + n.tmod 5).tmod 8) ((n.tdiv 3).tmod 6) (n.tmod 4) _ (nth_mem (l := libL ((n.tdiv 16).tmod 8) ((n.tdiv 16 + n.tmod 5).tmod 8) ((n.tdiv 3).tmod 6) (n.tmod 4)) (i := (n.tmod 16).toNat) h16)
 generalize nth (libL ((n.tdiv 16).tmod 8) ((n.tdiv 16 + n.tmod 5).tmod 8) ((n.tdiv 3).tmod 6) (n.tmod 4)) (n.tmod 16).toNat = p at *
 unfold fitP
 split
 ·simp [slideF]
 ·rcases h2 with h2 | h2
  ·intro y hy
   obtain ⟨x, hx, hxy⟩ := List.mem_filterMap.1 (List.mem_of_mem_drop hy)
   rw [fitStep_opT hxy]
   exact h2 x hx
  ·have e := fit_some (dirs := dirs) (kinds := kinds) (rights := rights) h2
   intro y hy
   have hm : y.1 ∈ ((p.filterMap (fitStep dirs kinds rights)).drop 1).map (·.1) := List.mem_map.2 ⟨y, hy, rfl⟩
   rw [List.map_drop, e, ← List.map_drop] at hm
   obtain ⟨x, hx, hxy⟩ := List.mem_map.1 hm
   rw [← hxy]
   exact h1 x hx
theorem addS_lenT : ∀ (more l : List StD), (addS l more).length ≤ l.length + more.length
 | [], l => by simp [addS]
 | s :: more, l => by
  have h : addS l (s :: more) = addS (if s ∈ l then l else l ++ [s]) more := rfl
  rw [h]
  have := addS_lenT more (if s ∈ l then l else l ++ [s])
  have h2 : (if s ∈ l then l else l ++ [s]).length ≤ l.length + 1 := by split <;> simp
  simp only [List.length_cons]
  omega
theorem stepS_len1 (g : GameD) (s : StD) {x : Int × Int} (h : x.1 ≠ 2) : (stepS g s x).length ≤ 1 := by
 have ho : ∀ (s : StD) (b : Bool), (onlyS s b).length ≤ 1 := fun s b => by unfold onlyS; split <;> simp
 unfold stepS
 simp only
 repeat' split
 all_goals first | exact ho _ _ | exact absurd ‹x.1 = 2› h | (simp; done) | skip
 ·unfold takeS
  simp only
  repeat' split
  all_goals simp
 ·unfold pushS
  simp only
  split <;> simp
theorem nextS_len {g : GameD} {x : Int × Int} {b : Nat} (h : ∀ s, (stepS g s x).length ≤ b) (now : List StD) : (nextS g now x).length ≤ b * now.length := by
 unfold nextS
 have key : ∀ (now acc : List StD), (now.foldl (fun next s => addS next (stepS g s x)) acc).length ≤ acc.length + b * now.length := by
  intro now
  induction now with
  | nil => intro acc; simp
  | cons s now ih =>
   intro acc
   rw [List.foldl_cons]
   have h1 := ih (addS acc (stepS g s x))
   have h2 := addS_lenT (stepS g s x) acc
   have h3 := h s
   rw [List.length_cons, Nat.mul_succ]
   omega
 have := key now []
 simpa using this
theorem fold_len {g : GameD} : ∀ (prog : List (Int × Int)) (now : List StD), (∀ x ∈ prog, x.1 ≠ 2) → (prog.foldl (nextS g) now).length ≤ now.length
 | [], now, _ => by simp
 | x :: prog, now, h => by
  rw [List.foldl_cons]
  have h1 := fold_len (g := g) prog (nextS g now x) fun y hy => h y (by simp [hy])
  have h2 := nextS_len (b := 1) (fun s => stepS_len1 g s (h x (by simp))) now
  omega
theorem slideGo_lenT (s : StD) : ∀ l : List Int, (slideGo s l).length ≤ l.length
 | [] => by simp [slideGo]
 | c :: l => by
  rw [slideGo]
  split
  ·have := slideGo_lenT s l; simp; omega
  ·simp
theorem slideGo_one {s : StD} : ∀ {l : List Int}, (∀ c ∈ l, nth s.p.at_ c.toNat ≠ 0) → (slideGo s l).length ≤ 1
 | [], _ => by simp [slideGo]
 | c :: l, h => by
  rw [slideGo, if_neg (h c (by simp))]
  simp
theorem lastS_few {g : GameD} {p : PosD} {cell : Int} {prog : List (Int × Int)} (hs : slideF prog) {b : Nat} (hb : 1 ≤ b) (hl : ∀ n, (2, n) ∈ prog → (slideS g.board (startS p cell) n).length ≤ b) : (lastS g p cell prog).length ≤ b := by
 unfold lastS
 cases prog with
 | nil => simpa using hb
 | cons x prog =>
  rw [List.foldl_cons]
  have h1 := fold_len (g := g) prog (nextS g [startS p cell] x) fun y hy => hs y (by simpa using hy)
  have h2 : (nextS g [startS p cell] x).length ≤ b := by
   have e : nextS g [startS p cell] x = addS [] (stepS g (startS p cell) x) := rfl
   rw [e]
   have h3 := addS_lenT (stepS g (startS p cell) x) []
   have h4 : (stepS g (startS p cell) x).length ≤ b := by
    by_cases hx : x.1 = 2
    ·have e2 : stepS g (startS p cell) x = slideS g.board (startS p cell) x.2 := by
      unfold stepS
      simp only
      rw [if_neg (by omega), if_pos hx]
     rw [e2]
     exact hl x.2 (by obtain ⟨x1, x2⟩ := x; simp only at hx; subst hx; simp)
    ·have := stepS_len1 g (startS p cell) hx
     omega
   simp only [List.length_nil] at h3
   omega
  omega
structure Few (g : GameD) : Prop where
 lines : lines2 g.board = true
 dirs : g.next.length = 8
 kinds : g.kinds.length ≤ 2
 progs : ∀ k ∈ g.kinds, k.progs.length ≤ 4
 slide : ∀ k ∈ g.kinds, ∀ p ∈ k.progs, slideF p
theorem madeG_few {x : RawG} (hx : RawOk x) : Few (madeG x) := by
 have hb : (madeG x).board = madeB x.w x.h x.cut := rfl
 refine ⟨by rw [hb]; exact lines2_made hx.w hx.h hx.cut, madeB_dirs _ _ _, ?_, fun k hk => ?_, fun k hk p hp => ?_⟩
 ·have : (madeG x).kinds = (List.range (kindsN x)).map (kindOf x) := rfl
  rw [this]
  unfold kindsN
  split <;> simp
 ·have e : (madeG x).kinds = (List.range (kindsN x)).map (kindOf x) := rfl
  rw [e] at hk
  obtain ⟨i, _, rfl⟩ := List.mem_map.1 hk
  simp only [kindOf, List.length_map, List.length_take]
  omega
 ·have e : (madeG x).kinds = (List.range (kindsN x)).map (kindOf x) := rfl
  rw [e] at hk
  obtain ⟨i, _, rfl⟩ := List.mem_map.1 hk
  simp only [kindOf] at hp
  obtain ⟨n, hn, rfl⟩ := List.mem_map.1 hp
  have hn := List.mem_of_mem_take hn
  refine madeP_slide n _ _ _ ?_
  unfold RawG.ks at hn
  split at hn
  ·exact (hx.k0 n hn).1
  ·exact (hx.k1 n hn).1
section
variable {g : GameD} (hg : GOk g) (hf : Few g) {p : PosD} (hp : POk g p)
include hg hf hp
theorem runsP_few {cell i : Int} (hc : ChoiceOk g p cell i) : (runsP g p cell i).length ≤ 2 ∧ ((∀ j, j < p.at_.length → nth p.at_ j ≠ 0) → (runsP g p cell i).length ≤ 1) := by
 have hal := hp.al
 have c0 := hc.c0
 have c1 := hc.c1
 have hkm := nth_mem (kind_lt hg hp hc.c0 hc.c1 hc.man)
 have hpm := nth_mem (l := (nth g.kinds (manOf (nth p.at_ cell.toNat)).1.toNat).progs) (i := i.toNat) (by have := hc.i0; have := hc.i1; omega)
 have hsl := hf.slide _ hkm _ hpm
 have hpo := prog_ok hg hp hc
 have hpe : progOf g p cell i = nth (nth g.kinds (manOf (nth p.at_ cell.toNat)).1.toNat).progs i.toNat := rfl
 rw [← hpe] at hsl
 have hle : (runsP g p cell i).length ≤ (lastS g p cell (progOf g p cell i)).length := by
  unfold runsP
  have h1 := sortU_le cmpO ((lastS g p cell (progOf g p cell i)).filterMap (putS p.side))
  have h2 := List.length_filterMap_le (putS p.side) (lastS g p cell (progOf g p cell i))
  omega
 have hst : (startS p cell).p.side = p.side := rfl
 have hcu : (startS p cell).cursor = cell := rfl
 constructor
 ·refine Nat.le_trans hle (lastS_few hsl (by omega) fun n hn => ?_)
  unfold slideS
  have h1 := slideGo_lenT (startS p cell) (lineB g.board (startS p cell).p.side n (startS p cell).cursor)
  have hso := hpo.st _ hn
  have hdd := hf.dirs
  have h2 := lines2_at hf.lines (side := p.side) (d := n) (c := cell) hp.s (by have := hso.dir (by simp); omega) ⟨c0, c1⟩
  rw [hst, hcu] at h1 ⊢
  omega
 ·intro hfull
  refine Nat.le_trans hle (lastS_few hsl (by omega) fun n hn => ?_)
  unfold slideS
  refine slideGo_one fun c hcl => ?_
  rw [hst, hcu] at hcl
  have hne := lineB_ne _ _ _ _ c hcl
  have hlt := lineB_mem hg.board c hcl
  have e : (startS p cell).p.at_ = p.at_.set cell.toNat 0 := rfl
  have e2 : g.board.cells = g.cells := rfl
  rw [e, nth_setE, if_neg (fun h => hne.1 (by omega))]
  exact hfull _ (by omega)
theorem outsAt_few {c : Nat} (hc : c < p.at_.length) : (outsAt g p c).length ≤ (if isMan p p.side (-1) (nth p.at_ c) then 8 else 0) ∧ ((∀ j, j < p.at_.length → nth p.at_ j ≠ 0) → (outsAt g p c).length ≤ 4) := by
 have hal := hp.al
 unfold outsAt
 split
 ·rename_i hm
  have him : isMan p p.side (-1) (nth p.at_ c) = true := by
   unfold isMan
   simp [hm.1, hm.2]
  rw [if_pos him]
  have hkl : (nth g.kinds (manOf (nth p.at_ c)).1.toNat).progs.length ≤ 4 := by
   refine hf.progs _ (nth_mem ?_)
   have := kind_lt hg hp (cell := (c : Int)) (by omega) (by omega) (by simpa using hm.1)
   simpa using this
  have hch : ∀ i, i < (nth g.kinds (manOf (nth p.at_ c)).1.toNat).progs.length → ChoiceOk g p (c : Int) (i : Int) := fun i hi =>
   ⟨by omega, by omega, by simpa using hm.1, by simpa using hm.2, by omega, by simpa using hi⟩
  have key : ∀ (b n : Nat), n ≤ (nth g.kinds (manOf (nth p.at_ c)).1.toNat).progs.length → (∀ i, i < n → (runsP g p c i).length ≤ b) → ((List.range n).flatMap fun (i : Nat) => runsP g p c i).length ≤ b * n := by
   intro b n
   induction n with
   | zero => intro _ _; simp
   | succ n ih =>
    intro hn h
    rw [List.range_succ, List.flatMap_append, List.length_append]
    have h1 := ih (by omega) fun i hi => h i (by omega)
    have h2 := h n (by omega)
    simp only [List.flatMap_cons, List.flatMap_nil, List.append_nil]
    rw [Nat.mul_succ]
    omega
  constructor
  ·have := key 2 _ (Nat.le_refl _) fun i hi => (runsP_few hg hf hp (hch i hi)).1
   omega
  ·intro hfull
   have := key 1 _ (Nat.le_refl _) fun i hi => (runsP_few hg hf hp (hch i hi)).2 hfull
   omega
 ·simp
end
theorem flat_count {α : Type} (l : List Int) (P : Int → Bool) (b : Nat) (f : Nat → List α) : ∀ n, n ≤ l.length → (∀ i, i < n → (f i).length ≤ if P (nth l i) then b else 0) → ((List.range n).flatMap f).length ≤ b * (l.take n).countP P
 | 0, _, _ => by simp
 | n + 1, hn, h => by
  have ih := flat_count l P b f n (by omega) fun i hi => h i (by omega)
  have h1 := h n (by omega)
  rw [List.range_succ, List.flatMap_append, List.length_append, List.take_add_one, List.getElem?_eq_getElem (by omega), List.countP_append]
  rw [nth_eq _ _ (by omega)] at h1
  simp only [List.flatMap_cons, List.flatMap_nil, List.append_nil, Option.toList_some, List.countP_cons, List.countP_nil]
  by_cases hP : P l[n] = true
  ·rw [if_pos hP] at h1 ⊢
   rw [Nat.zero_add, Nat.mul_add]
   omega
  ·simp only [if_neg hP, Nat.zero_add, Nat.add_zero] at h1 ⊢
   omega
theorem filterMap_count {α : Type} (l : List Int) (P : Int → Bool) (f : Nat → Option α) : ∀ n, n ≤ l.length → (∀ i, i < n → (f i).isSome = true → P (nth l i) = true) → ((List.range n).filterMap f).length ≤ (l.take n).countP P
 | 0, _, _ => by simp
 | n + 1, hn, h => by
  have ih := filterMap_count l P f n (by omega) fun i hi => h i (by omega)
  have h1 := h n (by omega)
  rw [List.range_succ, List.filterMap_append, List.length_append, List.take_add_one, List.getElem?_eq_getElem (by omega), List.countP_append]
  rw [nth_eq _ _ (by omega)] at h1
  simp only [Option.toList_some, List.countP_cons, List.countP_nil]
  cases hfn : f n with
  | none => simp [hfn]; omega
  | some y =>
   rw [hfn] at h1
   rw [if_pos (h1 rfl)]
   simp [hfn]; omega
theorem count_two (P Q : Int → Bool) (hPQ : ∀ c, P c = true → Q c = true → False) : ∀ l : List Int, l.countP P + l.countP Q ≤ l.length
 | [] => by simp
 | c :: l => by
  have ih := count_two P Q hPQ l
  have h := hPQ c
  rw [List.countP_cons, List.countP_cons, List.length_cons]
  cases hP : P c <;> cases hQ : Q c <;> simp [hP, hQ] at h ⊢ <;> omega
theorem count_all (P : Int → Bool) : ∀ l : List Int, l.length ≤ l.countP P → ∀ c ∈ l, P c = true
 | [], _, c, h => by simp at h
 | a :: l, h, c, hc => by
  have hle : l.countP P ≤ l.length := List.countP_le_length
  rw [List.countP_cons, List.length_cons] at h
  cases hP : P a with
  | false => rw [hP] at h; simp at h; omega
  | true =>
   rw [hP] at h
   simp only [if_true] at h
   rcases List.mem_cons.1 hc with rfl | hc
   ·exact hP
   ·exact count_all P l (by omega) c hc
theorem movesP_few {g : GameD} (hg : GOk g) (hf : Few g) {p : PosD} (hp : POk g p) : (movesP g p).length ≤ 66 := by
 have hal := hp.al
 have c9 := hg.c9
 have h1 : (movesP g p).length ≤ (outsP g p).length + (dropsL g p).length := by
  unfold movesP
  split
  ·simp
  ·have a1 := sortU_le cmpP (movesL g p)
   have a2 : (movesL g p).length ≤ (outsP g p).length + (dropsP g p).length := by
    unfold movesL
    rw [List.length_append, List.length_map]
    have b1 := List.length_filter_le (fun o => !mustP g p || o.took) (outsP g p)
    have b2 : (if mustP g p = true then [] else dropsP g p).length ≤ (dropsP g p).length := by split <;> simp
    omega
   have a3 := sortU_le cmpP (dropsL g p)
   have a4 : dropsP g p = sortU cmpP (dropsL g p) := rfl
   rw [a4] at a2
   omega
 have hd : (dropsL g p).length ≤ 2 * p.at_.countP (fun c => decide (c = 0)) := by
  unfold dropsL
  have key : ∀ n, ((List.range n).flatMap fun k => (List.range p.at_.length).filterMap fun c => dropP g p k c).length ≤ n * p.at_.countP (fun c => decide (c = 0)) := by
   intro n
   induction n with
   | zero => simp
   | succ n ih =>
    rw [List.range_succ, List.flatMap_append, List.length_append, Nat.succ_mul]
    have := filterMap_count p.at_ (fun c => decide (c = 0)) (fun c => dropP g p n c) p.at_.length (Nat.le_refl _) fun i hi hs => by
     unfold dropP at hs
     split at hs
     ·simp at hs
     ·rename_i h0
      simp only [not_or, Decidable.not_not] at h0
      exact decide_eq_true h0.2
    rw [List.take_length] at this
    simp only [List.flatMap_cons, List.flatMap_nil, List.append_nil]
    omega
  refine Nat.le_trans (key _) (Nat.mul_le_mul_right _ hf.kinds)
 have ho : (outsP g p).length ≤ 8 * p.at_.countP (isMan p p.side (-1)) := by
  have := flat_count p.at_ (isMan p p.side (-1)) 8 (outsAt g p) p.at_.length (Nat.le_refl _) fun i hi => (outsAt_few hg hf hp hi).1
  rw [List.take_length] at this
  exact this
 have htwo := count_two (isMan p p.side (-1)) (fun c => decide (c = 0)) (fun c h1 h2 => by
  have : c = 0 := of_decide_eq_true h2
  subst this
  simp [isMan, manOf] at h1) p.at_
 by_cases h9 : 9 ≤ p.at_.countP (isMan p p.side (-1))
 ·have hall := count_all (isMan p p.side (-1)) p.at_ (by omega)
  have hfull : ∀ j, j < p.at_.length → nth p.at_ j ≠ 0 := fun j hj h0 => by
   have := hall _ (nth_mem hj)
   rw [h0] at this
   simp [isMan, manOf] at this
  have ho2 : (outsP g p).length ≤ 4 * p.at_.countP (fun _ => true) := by
   have := flat_count p.at_ (fun _ => true) 4 (outsAt g p) p.at_.length (Nat.le_refl _) fun i hi => by
    simpa using (outsAt_few hg hf hp hi).2 hfull
   rw [List.take_length] at this
   exact this
  have : p.at_.countP (fun _ => true) ≤ p.at_.length := List.countP_le_length
  omega
 ·omega
theorem seenP_few {g : GameD} (hg : GOk g) (hf : Few g) {p : PosD} (hp : POk g p) {n : Int} (hn : n ≤ 60) : (seenP g p n).length ≤ 4000 := by
 rw [seenP_len hg hp]
 have hb : budP n ≤ 60 := by
  unfold budP
  (repeat' split) <;> omega
 cases hN : endK g p n with
 | zero =>
  rw [knoK_zero]
  simp
 | succ N =>
  have hm := (search_more (g := g) (p := p) (n := n) (i := N) (by omega)).1
  have hs := layK_ok hg hp N
  have hl := hs.now_len
  have hnx : (nextP g (knoK g p N) (layK g p N)).length ≤ (layK g p N).length * 66 := by
   have h1 := addK_fold_len (knoK g p N) ((layK g p N).flatMap (movesP g)) []
   have h2 : ((layK g p N).flatMap (movesP g)).length ≤ (layK g p N).length * 66 := by
    have hok := hs.now_ok
    generalize layK g p N = L at hok ⊢
    induction L with
    | nil => simp
    | cons q L ih =>
     have h3 := ih fun q hq => hok q (by simp [hq])
     have h4 := movesP_few hg hf (hok q (by simp))
     rw [List.flatMap_cons, List.length_append, List.length_cons, Nat.succ_mul]
     omega
   unfold nextP
   simp only [List.length_nil] at h1
   omega
  rw [knoK_succ, List.length_append]
  cases N with
  | zero =>
   rw [layK_zero] at hnx ⊢
   rw [knoK_zero] at *
   simp only [List.length_singleton] at *
   omega
  | succ N =>
   have hlt : (layK g p (N + 1)).length + 1 ≤ (knoK g p (N + 1)).length := by
    have hsub := len_sub (l := p :: layK g p (N + 1)) (r := knoK g p (N + 1)) (by
     refine List.nodup_cons.2 ⟨fun h => ?_, inc_nodup hs.inc⟩
     have := layK_one (i := 0) (j := N + 1) (by rw [layK_zero]; simp) h
     omega) fun q hq => by
      rcases List.mem_cons.1 hq with rfl | hq
      ·exact knoK_lay.2 ⟨0, by omega, by rw [layK_zero]; simp⟩
      ·exact layK_kno hq
    simpa using hsub
   omega
end Go.Av
end
section
/- The law ReachSeen: its call gives true. -/
open Go Go.Proofs
namespace Go.Av
theorem sortedP_inc {l : List PosD} (h : Inc l) : sortedP l = true := by
 induction l with
 | nil => rfl
 | cons a l ih =>
  cases l with
  | nil => rfl
  | cons b l =>
   unfold Inc at h
   rw [List.pairwise_cons] at h
   have h1 := h.1 b (by simp)
   have h2 := ih h.2
   simp [sortedP, h1, h2]
theorem ReachSeen_pure (x : Raw6) (hx : Raw6Ok x) (y : RawP) (hy : RawPOk y) (bud : Int) (hbud : -128 ≤ bud ∧ bud ≤ 127) :
  Pure Tryz.prog 6 [.agg (encRaw6 x), .agg (encRawP y), .v (.int .i8 bud)] (.v (.bool true)) := by
 refine pF Tryz.func6 ?_
 have hM := R6Made_pure x hx
 have hg := game6_ok hx
 have hp := pos6_ok hx
 have hfew : Few (game6 x) := madeG_few hx.g
 obtain ⟨er, her⟩ : ∃ er, er = encRaw6 x := ⟨_, rfl⟩
 have herl : er.length = 31 := by rw [her]; exact raw6_len hx
 have herb : ∀ n, (∀ c ∈ er, Bel n c) = True := fun n => by rw [her]; exact raw6_bel hx n
 rw [← her] at hM ⊢
 generalize game6 x = g at *
 generalize pos6 x = p at *
 have hY := R4Made_pure g hg y hy
 have hqo := madePos_ok hg hy
 obtain ⟨q, hq⟩ : ∃ q, q = madePos g y := ⟨_, rfl⟩
 rw [← hq] at hY hqo
 clear hq
 obtain ⟨yl, _, _, _, _, _, yb⟩ := rawRow hy
 obtain ⟨ey, hey⟩ : ∃ ey, ey = encRawP y := ⟨_, rfl⟩
 rw [← hey] at hY yl yb ⊢
 have hS := sanity27_pure
 have hSn := fun b => seen27_pure g hg p hp b
 have hF := fun b => found_pure g hg p hp q (hqo.fits hg) b
 have hegl : (encGame g).length = 9 := rfl
 have hegb : ∀ n, (∀ c ∈ encGame g, Bel n c) = True := fun n => by simp [go_sem]
 obtain ⟨m, hm⟩ : ∃ m, m = (if 60 < bud then 60 else bud) := ⟨_, rfl⟩
 have hm60 : m ≤ 60 := by rw [hm]; split <;> omega
 have hm128 : -128 ≤ m := by rw [hm]; split <;> omega
 have hbudm : budP m = if m < 0 then 0 else m := by
  unfold budP
  (repeat' split) <;> omega
 have hSn := hSn m
 have hF := hF m
 have hlen := seenP_few hg hfew hp hm60
 have hinc := seenP_inc g p m
 have hok : ∀ z ∈ seenP g p m, POk g z := fun z hz => allOf_ok hg hp m z (allOf_mem.2 (seenP_mem.1 hz))
 have hfit := fun z hz => (hok z hz).fits hg
 have hps : p ∈ seenP g p m := seenP_mem.2 (knoK_lay.2 ⟨0, by omega, by rw [layK_zero]; simp⟩)
 have hSo := Sorted_pure (seenP g p m) (by omega) hfit
 rw [sortedP_inc hinc] at hSo
 have hFi := fun z hz => rFind_pure (seenP g p m) hinc (by omega) hfit z hz
 have hFm := fun z => fndP_mem hinc (p := z)
 have hE := gameP_ok_iff (g := g) (p := p) (goal := q) (n := m)
 rw [← seenP_mem] at hE
 have hEr := gameP_err (g := g) (p := p) (goal := q) (n := m)
 have hend := search_end g p m
 have hfull := fun (hf : fullP (searchP g p m) = true) (a b : PosD) (ha : a ∈ seenP g p m) (hb : b ∈ movesP g a) => seenP_mem.2 (full_move hf (seenP_mem.1 ha) hb)
 rw [← seenP_len hg hp m, hbudm] at hend
 generalize gameP g p q m = F at *
 generalize seenP g p m = sn at *
 generalize fullP (searchP g p m) = fu at *
 obtain ⟨L, E⟩ := F
 simp only at hE hEr
 have hEr2 : E ≠ 0 → E = if fu then 270 else 2 := fun h => (Prod.mk.inj (hEr h)).2
 have hFp := hFi p (hp.fits hg)
 have h0p := (hFm p).2 hps
 have hFq := hFi q (hqo.fits hg)
 have h0q := hFm q
 have hV : ∀ z, POk g z → Pure Tryz.prog 32 [.agg (encGame g), .agg (encPos z)] (.v (.bool true)) := fun z hz => by
  have := RValid_pure g (by have := hg.k6; unfold FitsG; omega) ⟨hg.r0, by have := hg.r4; omega⟩ z (hz.fits hg)
  rwa [pOk_iff.2 hz] at this
 have hMv := fun z (hz : POk g z) => Moves_pure g hg z hz
 have hMl := fun z (hz : POk g z) => movesP_len hg hz
 have hMo := fun z (hz : POk g z) => fun a ha => (movesP_ok hg hz a ha).1
 generalize encGame g = eg at *
 (repeat (first|with_reducible (first|refine wV fun _=>?_|refine wE ?_)|simp [go_sem, herl, yl]))
 refine ACallP.plain hS (by simp [go_sem]) ?_
 (repeat (first|with_reducible (first|refine wV fun _=>?_|refine wE ?_)|simp [go_sem, herl, yl]))
 refine ACallP.plain hM (by simp [go_sem, herb]) ?_
 (repeat (first|with_reducible (first|refine wV fun _=>?_|refine wE ?_)|simp [go_sem, herl, yl, hegl]))
 rw [← hm]
 (first | refine ACallP.plain (hSn) (by simp [go_sem, hegb]) ?_ | refine aGC.plain _ (fun _ => hSn) (by simp [go_sem, hegb]) ?_ | ((try ((with_reducible refine wZ ?_); (try simp [go_sem]))); first | refine dCall.plain (hSn) (by simp [go_sem, hegb]) ?_ | refine dGC.plain _ (fun _ => hSn) (by simp [go_sem, hegb]) ?_))
 have hen : nth (encD [sn]) 0 = [encPs sn] := rfl
 (repeat (first|with_reducible (first|refine wV fun _=>?_|refine wE ?_)|simp [go_sem, herl, yl, hegl, hen]))
 (first | refine ACallP.plain (hY) (by simp [go_sem, hegb, yb]) ?_ | refine aGC.plain _ (fun _ => hY) (by simp [go_sem, hegb, yb]) ?_ | ((try ((with_reducible refine wZ ?_); (try simp [go_sem]))); first | refine dCall.plain (hY) (by simp [go_sem, hegb, yb]) ?_ | refine dGC.plain _ (fun _ => hY) (by simp [go_sem, hegb, yb]) ?_))
 (repeat (first|with_reducible (first|refine wV fun _=>?_|refine wE ?_)|simp [go_sem, herl, yl, hegl, hen]))
 (first | refine ACallP.plain (hSo) (by simp [go_sem]) ?_ | refine aGC.plain _ (fun _ => hSo) (by simp [go_sem]) ?_ | ((try ((with_reducible refine wZ ?_); (try simp [go_sem]))); first | refine dCall.plain (hSo) (by simp [go_sem]) ?_ | refine dGC.plain _ (fun _ => hSo) (by simp [go_sem]) ?_))
 have hl4 : ((4000 : Int) < sn.length) = False := eq_false (by omega)
 (repeat (first|with_reducible (first|refine wV fun _=>?_|refine wE ?_)|simp [go_sem, hegl, hl4]))
 (first | refine ACallP.plain (hFp) (by simp [go_sem]) ?_ | refine aGC.plain _ (fun _ => hFp) (by simp [go_sem]) ?_ | ((try ((with_reducible refine wZ ?_); (try simp [go_sem]))); first | refine dCall.plain (hFp) (by simp [go_sem]) ?_ | refine dGC.plain _ (fun _ => hFp) (by simp [go_sem]) ?_))
 have hnp : (fndP sn p < 0) = False := eq_false (by omega)
 (repeat (first|with_reducible (first|refine wV fun _=>?_|refine wE ?_)|simp [go_sem, hegl, hnp]))
 unfold encFound at hF
 (first | refine ACallP.plain (hF) (by simp [go_sem, hegb]) ?_ | refine aGC.plain _ (fun _ => hF) (by simp [go_sem, hegb]) ?_ | ((try ((with_reducible refine wZ ?_); (try simp [go_sem]))); first | refine dCall.plain (hF) (by simp [go_sem, hegb]) ?_ | refine dGC.plain _ (fun _ => hF) (by simp [go_sem, hegb]) ?_))
 (repeat (first|with_reducible (first|refine wV fun _=>?_|refine wE ?_)|simp [go_sem, hegl]))
 (first | refine ACallP.plain (hFq) (by simp [go_sem]) ?_ | refine aGC.plain _ (fun _ => hFq) (by simp [go_sem]) ?_ | ((try ((with_reducible refine wZ ?_); (try simp [go_sem]))); first | refine dCall.plain (hFq) (by simp [go_sem]) ?_ | refine dGC.plain _ (fun _ => hFq) (by simp [go_sem]) ?_))
 (repeat (first|with_reducible (first|refine wV fun _=>?_|refine wE ?_)|simp [go_sem, hegl]))
 refine aIf.mkL (fun hA => ?_) (fun _ => ?_)
 ·exfalso
  by_cases hin : q ∈ sn
  ·simp [hE.2 hin, h0q.2 hin] at hA
  ·have h1 : E ≠ 0 := fun h => hin (hE.1 h)
   have h2 : ¬ 0 ≤ fndP sn q := fun h => hin (h0q.1 h)
   have h3 := hEr2 h1
   cases fu <;> simp at h3 <;> simp [h3, h2] at hA
 ·cases fu
  ·have hend2 : (if m < 0 then 0 else m) < (sn.length : Int) := by
    rcases hend with h | h
    ·simp at h
    ·exact h.2
   (repeat (first|with_reducible (first|refine wV fun _=>?_|refine wE ?_)|simp [go_sem, hegl]))
   rw [show (decide ((if m < 0 then 0 else m) < (sn.length : Int))) = true from decide_eq_true hend2]
   exact .refl _
  ·have hend2 : (sn.length : Int) ≤ (if m < 0 then 0 else m) := by
    rcases hend with h | h
    ·exact h.2.1
    ·simp at h
   have hfull := hfull rfl
   (repeat (first|with_reducible (first|refine wV fun _=>?_|refine wE ?_)|simp [go_sem, hegl]))
   refine ALoop.start (ALoop.ind (α := Nat) (fun i => ⟨[(7, .v (.bool true)), (8, .ref 2 0 9 0 0), (10, .v (.int .i64 m)), (12, encPs sn), (16, .v (.int .i64 i))], [(2, .rows true 0 9 [eg])], 16⟩)
    (fun d i => i + d = sn.length) ?_ sn.length 0 ?_) ?_ ?_
   ·rintro d i i1 hrec
    (repeat (first|with_reducible (first|refine wV fun _=>?_|refine wE ?_)|simp [go_sem, hegl]))
    refine aIf.mkL (fun hA => ?_) (fun hA => ?_)
    ·have hi : i < sn.length := by simp at hA; omega
     have hoki := hok _ (nth_mem hi)
     have hVi := hV _ hoki
     have hMi := hMv _ hoki
     have hfi := hfull (nth sn i)
     have hfi := fun b hb => hfi b (nth_mem hi) hb
     have hll := hMl _ hoki
     generalize movesP g (nth sn i) = mv at *
     (repeat (first|with_reducible (first|refine wV fun _=>?_|refine wE ?_)|simp [go_sem, hegl, hi]))
     (first | refine ACallP.plain (hVi) (by simp [go_sem, hegb]) ?_ | refine aGC.plain _ (fun _ => hVi) (by simp [go_sem, hegb]) ?_ | ((try ((with_reducible refine wZ ?_); (try simp [go_sem]))); first | refine dCall.plain (hVi) (by simp [go_sem, hegb]) ?_ | refine dGC.plain _ (fun _ => hVi) (by simp [go_sem, hegb]) ?_))
     (repeat (first|with_reducible (first|refine wV fun _=>?_|refine wE ?_)|simp [go_sem, hegl, hi]))
     (first | refine ACallP.plain (hMi) (by simp [go_sem, hegb]) ?_ | refine aGC.plain _ (fun _ => hMi) (by simp [go_sem, hegb]) ?_ | ((try ((with_reducible refine wZ ?_); (try simp [go_sem]))); first | refine dCall.plain (hMi) (by simp [go_sem, hegb]) ?_ | refine dGC.plain _ (fun _ => hMi) (by simp [go_sem, hegb]) ?_))
     (repeat (first|with_reducible (first|refine wV fun _=>?_|refine wE ?_)|simp [go_sem, hegl, hi]))
     refine ALoop.start (ALoop.ind (α := Nat) (fun k => ⟨[(7, .v (.bool true)), (8, .ref 2 0 9 0 0), (10, .v (.int .i64 m)), (12, encPs sn), (16, .v (.int .i64 i)), (17, encPs mv), (18, .v (.int .i64 k))], [(2, .rows true 0 9 [eg])], 29⟩)
      (fun d k => k + d = mv.length) ?_ mv.length 0 ?_) ?_ ?_
     ·rintro d2 k k1 hrec2
      (repeat (first|with_reducible (first|refine wV fun _=>?_|refine wE ?_)|simp [go_sem, hegl]))
      refine aIf.mkL (fun hk => ?_) (fun hk => ?_) <;> simp at hk
      ·have hin := hfi _ (nth_mem hk)
       have hFk := hFi _ (hfit _ hin)
       have h0k := (hFm _).2 hin
       have hnk : (fndP sn (nth mv k) < 0) = False := eq_false (by omega)
       (repeat (first|with_reducible (first|refine wV fun _=>?_|refine wE ?_)|simp [go_sem, hegl, hk]))
       (first | refine ACallP.plain (hFk) (by simp [go_sem]) ?_ | refine aGC.plain _ (fun _ => hFk) (by simp [go_sem]) ?_ | ((try ((with_reducible refine wZ ?_); (try simp [go_sem]))); first | refine dCall.plain (hFk) (by simp [go_sem]) ?_ | refine dGC.plain _ (fun _ => hFk) (by simp [go_sem]) ?_))
       (repeat (first|with_reducible (first|refine wV fun _=>?_|refine wE ?_)|simp [go_sem, hegl, hnk]))
       refine ALoop.start (hrec2 (d2 - 1) (by omega) (k + 1) (by omega)) ?_ (by simp)
       simp [go_sem, Wk_eq, hegb]
      ·(repeat (first|with_reducible (first|refine wV fun _=>?_|refine wE ?_)|simp [go_sem, hegl]))
       refine ALoop.start (hrec (d - 1) (by omega) (i + 1) (by omega)) ?_ (by simp)
       simp [go_sem, Wk_eq, hegb]
     ·simp
     ·simp [go_sem, Wk_eq, hegb]
     ·simp
    ·(repeat (first|with_reducible (first|refine wV fun _=>?_|refine wE ?_)|simp [go_sem, hegl]))
     rw [show (decide ((sn.length : Int) ≤ if m < 0 then 0 else m)) = true from decide_eq_true hend2]
     exact .refl _
   ·simp
   ·simp [go_sem, Wk_eq, hegb]
   ·simp
end Go.Av
end
