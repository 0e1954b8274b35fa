/- Texts of ours, part 8: contracts and facts for this claim. -/
import Derived.Test.YtblaonmapofniaaGreatDoorB08
set_option linter.unusedSimpArgs false
set_option linter.unusedVariables false
set_option maxRecDepth 100000
set_option maxHeartbeats 40000000
section
open Go Go.Proofs
namespace Go.Av
def fndP (l : List PosD) (p : PosD) : Int := match l.findIdx? (fun q => decide (q = p)) with | some i => (i : Int) | none => -1
theorem fndP_at {l : List PosD} (h : Inc l) {j : Nat} (hj : j < l.length) : fndP l (nth l j) = j := by
 have : l.findIdx? (fun q => decide (q = nth l j)) = some j := by
  rw [List.findIdx?_eq_some_iff_getElem]
  refine ⟨hj, by rw [← nth_eq _ _ hj]; simp, fun i hi => ?_⟩
  rw [← nth_eq _ _ (by omega)]
  simp only [decide_eq_true_eq]
  intro e
  have := h.inj (by omega) hj e
  omega
 unfold fndP
 rw [this]
theorem fndP_none {l : List PosD} {p : PosD} (h : p ∉ l) : fndP l p = -1 := by
 have : l.findIdx? (fun q => decide (q = p)) = none := by
  rw [List.findIdx?_eq_none_iff]
  intro x hx
  simp only [decide_eq_false_iff_not]
  intro e
  exact h (e ▸ hx)
 unfold fndP
 rw [this]
theorem fndP_mem {l : List PosD} (h : Inc l) {p : PosD} : 0 ≤ fndP l p ↔ p ∈ l := by
 by_cases hp : p ∈ l
 ·obtain ⟨j, hj, rfl⟩ := mem_nth hp
  rw [fndP_at h hj]
  exact ⟨fun _ => hp, fun _ => by omega⟩
 ·rw [fndP_none hp]
  exact ⟨fun h => by omega, fun h => absurd h hp⟩
theorem fndP_low {l : List PosD} (hi : Inc l) (p : PosD) : fndP l p = if p ∈ l then (lowP l p : Int) else -1 := by
 split
 ·rename_i hp
  obtain ⟨h1, h2⟩ := (lowP_mem hi p).1 hp
  have := fndP_at hi h1
  rwa [h2] at this
 ·rename_i hp
  exact fndP_none hp
theorem movesP_inc (g : GameD) (p : PosD) : Inc (movesP g p) := by
 unfold movesP
 split
 ·exact .nil
 ·exact sortU_pw cmp_pos _
end Go.Av
end
section
open Go Go.Proofs
namespace Go.Av
theorem layersP_count (g : GameD) (b : Int) : ∀ (f : Nat) (known now : List PosD), (layersP g b f known now).length ≤ f
 | 0, known, now => by simp [layersP]
 | f + 1, known, now => by
  rw [layersP]
  split
  ·simp
  ·split
   ·simp
   ·have := layersP_count g b f (known ++ nextP g known now) (sortU cmpP (nextP g known now))
    simp only [List.length_cons]
    omega
theorem searchP_count (g : GameD) (p : PosD) (n : Int) : (searchP g p n).length ≤ 4002 := by
 have := layersP_count g (budP n) ((budP n).toNat + 2) [p] [p]
 have := budP_range n
 unfold searchP
 omega
end Go.Av
end
section
open Go Go.Proofs
namespace Go.Av
def frstP (g : GameD) (p : PosD) (l : List PosD) : Int := idxOfP (fun q => decide (q ∈ movesP g p)) l
theorem frstP_some {g : GameD} {p : PosD} {l : List PosD} (h : 0 ≤ frstP g p l) : (frstP g p l).toNat < l.length ∧ nth l (frstP g p l).toNat ∈ movesP g p ∧ ∀ j, j < (frstP g p l).toNat → nth l j ∉ movesP g p := by
 unfold frstP idxOfP at *
 cases hf : l.findIdx? (fun q => decide (q ∈ movesP g p)) with
 | none => rw [hf] at h; simp at h
 | some i =>
  obtain ⟨hi, h1, h2⟩ := List.findIdx?_eq_some_iff_getElem.1 hf
  simp only [Int.toNat_natCast]
  refine ⟨hi, by rw [nth_eq _ _ hi]; simpa using h1, fun j hj => ?_⟩
  rw [nth_eq _ _ (by omega)]
  simpa using h2 j hj
theorem frstP_iff {g : GameD} {p : PosD} {l : List PosD} : 0 ≤ frstP g p l ↔ ∃ q ∈ l, q ∈ movesP g p := by
 have := idxOfP_any (p := fun q => decide (q ∈ movesP g p)) (l := l)
 unfold frstP
 constructor
 ·intro h
  rw [decide_eq_true h] at this
  obtain ⟨q, h1, h2⟩ := List.any_eq_true.1 this.symm
  exact ⟨q, h1, by simpa using h2⟩
 ·rintro ⟨q, h1, h2⟩
  have h3 : (l.any fun q => decide (q ∈ movesP g p)) = true := List.any_eq_true.2 ⟨q, h1, by simpa using h2⟩
  rw [h3] at this
  simpa using this
def goodP (g : GameD) : List (List PosD) → PosD → List (List PosD)
 | [], _ => []
 | [_], goal => [[goal]]
 | l :: m :: ls, goal => (l.filter fun p => decide (0 ≤ frstP g p (nth (goodP g (m :: ls) goal) 0))) :: goodP g (m :: ls) goal
theorem goodP_last (g : GameD) (goal : PosD) : ∀ past : List (List PosD), past ≠ [] → nth (goodP g past goal) (past.length - 1) = [goal]
 | [], h => absurd rfl h
 | [_], _ => rfl
 | l :: m :: ls, _ => by
  have := goodP_last g goal (m :: ls) (by simp)
  rw [goodP]
  ·rw [show (l :: m :: ls).length - 1 = ((m :: ls).length - 1) + 1 by simp, nth_succ]
   exact this
theorem goodP_at (g : GameD) (goal : PosD) : ∀ (past : List (List PosD)) (i : Nat), i + 1 < past.length → nth (goodP g past goal) i = (nth past i).filter fun p => decide (0 ≤ frstP g p (nth (goodP g past goal) (i + 1)))
 | [], i, h => by simp at h
 | [_], i, h => by simp at h
 | l :: m :: ls, i, h => by
  rw [goodP]
  ·cases i with
   | zero => rfl
   | succ i =>
    rw [nth_succ, nth_succ, nth_succ]
    exact goodP_at g goal (m :: ls) i (by simpa using h)
structure ChainOk (g : GameD) (past : List (List PosD)) : Prop where
 ne : past ≠ []
 one : ∃ s, nth past 0 = [s]
 back : ∀ i, i + 1 < past.length → ∀ q ∈ nth past (i + 1), ∃ r ∈ nth past i, q ∈ movesP g r
theorem goodP_sub {g : GameD} {goal : PosD} {past : List (List PosD)} {i : Nat} (hi : i < past.length) (hg : goal ∈ nth past (past.length - 1)) : ∀ q ∈ nth (goodP g past goal) i, q ∈ nth past i := by
 intro q hq
 by_cases h : i + 1 < past.length
 ·rw [goodP_at g goal past i h] at hq
  exact (List.mem_filter.1 hq).1
 ·obtain rfl : i = past.length - 1 := by omega
  rw [goodP_last g goal past (by intro h; rw [h] at hi; simp at hi)] at hq
  simp only [List.mem_singleton] at hq
  subst hq
  exact hg
theorem goodP_ne {g : GameD} {goal : PosD} {past : List (List PosD)} (hc : ChainOk g past) (hg : goal ∈ nth past (past.length - 1)) : ∀ d i, i + d + 1 = past.length → ∃ q, q ∈ nth (goodP g past goal) i
 | 0, i, hi => by
  obtain rfl : i = past.length - 1 := by omega
  rw [goodP_last g goal past hc.ne]
  exact ⟨goal, by simp⟩
 | d + 1, i, hi => by
  obtain ⟨q, hq⟩ := goodP_ne hc hg d (i + 1) (by omega)
  obtain ⟨r, hr, hm⟩ := hc.back i (by omega) q (goodP_sub (by omega) hg q hq)
  refine ⟨r, ?_⟩
  rw [goodP_at g goal past i (by omega)]
  exact List.mem_filter.2 ⟨hr, by simpa using frstP_iff.2 ⟨q, hq, hm⟩⟩
theorem goodP_first {g : GameD} {goal : PosD} {past : List (List PosD)} (hc : ChainOk g past) (hg : goal ∈ nth past (past.length - 1)) : nth (nth past 0) 0 ∈ nth (goodP g past goal) 0 := by
 have hl := List.length_pos_iff.2 hc.ne
 obtain ⟨q, hq⟩ := goodP_ne hc hg (past.length - 1) 0 (by omega)
 have := goodP_sub (by omega) hg q hq
 obtain ⟨s, hs⟩ := hc.one
 rw [hs] at this ⊢
 simp only [List.mem_singleton] at this
 subst this
 exact hq
theorem goodP_step {g : GameD} {goal : PosD} {past : List (List PosD)} {i : Nat} (hi : i + 1 < past.length) {p : PosD} (hp : p ∈ nth (goodP g past goal) i) : 0 ≤ frstP g p (nth (goodP g past goal) (i + 1)) := by
 rw [goodP_at g goal past i hi] at hp
 simpa using (List.mem_filter.1 hp).2
def wayP (g : GameD) (past : List (List PosD)) (goal : PosD) : Nat → PosD
 | 0 => nth (nth past 0) 0
 | i + 1 => nth (nth (goodP g past goal) (i + 1)) (frstP g (wayP g past goal i) (nth (goodP g past goal) (i + 1))).toNat
def traceP (g : GameD) (past : List (List PosD)) (goal : PosD) : List PosD := (List.range past.length).map (wayP g past goal)
theorem wayP_mem {g : GameD} {goal : PosD} {past : List (List PosD)} (hc : ChainOk g past) (hg : goal ∈ nth past (past.length - 1)) : ∀ i, i < past.length → wayP g past goal i ∈ nth (goodP g past goal) i
 | 0, _ => goodP_first hc hg
 | i + 1, hi => by
  have h1 := wayP_mem hc hg i (by omega)
  exact nth_mem (frstP_some (goodP_step hi h1)).1
theorem wayP_first {g : GameD} {goal : PosD} {past : List (List PosD)} (hc : ChainOk g past) (hg : goal ∈ nth past (past.length - 1)) {i : Nat} (hi : i + 1 < past.length) :
  0 ≤ frstP g (wayP g past goal i) (nth (goodP g past goal) (i + 1)) := goodP_step hi (wayP_mem hc hg i (by omega))
def gameP (g : GameD) (p goal : PosD) (n : Int) : List PosD × Int :=
 match (searchP g p n).findIdx? (fun x => decide (goal ∈ x.1)) with
 | some d => (traceP g (((searchP g p n).take (d + 1)).map (·.1)) goal, 0)
 | none => ([], if fullP (searchP g p n) then 270 else 2)
theorem layersP_chain (g : GameD) (b : Int) : ∀ (f : Nat) (known now : List PosD) (i : Nat), i + 1 < (layersP g b f known now).length → ∀ q ∈ (nth (layersP g b f known now) (i + 1)).1, ∃ r ∈ (nth (layersP g b f known now) i).1, q ∈ movesP g r
 | 0, known, now, i, h => by simp [layersP] at h
 | f + 1, known, now, i, h => by
  rw [layersP] at h ⊢
  split at h
  ·simp at h
  ·rename_i hk
   rw [if_neg hk]
   split at h
   ·simp at h
   ·rename_i hz
    rw [if_neg hz]
    cases i with
    | succ i =>
     rw [nth_succ, nth_succ]
     exact layersP_chain g b f _ _ i (by simpa using h)
    | zero =>
     rw [nth_succ, nth_zero]
     intro q hq
     have hq2 : q ∈ sortU cmpP (nextP g known now) := by
      cases f with
      | zero => simp [layersP] at h
      | succ f =>
       rw [layersP] at hq
       split at hq
       ·exact hq
       ·split at hq
        ·exact hq
        ·exact hq
     exact (nextP_mem.1 (sortU_mem.1 hq2)).1
theorem layersP_zero (g : GameD) (b : Int) (f : Nat) (known now : List PosD) : (nth (layersP g b (f + 1) known now) 0).1 = now := by
 rw [layersP]
 split
 ·rfl
 ·split <;> rfl
theorem searchP_chain (g : GameD) (p : PosD) (n : Int) (d : Nat) : ChainOk g (((searchP g p n).take (d + 1)).map (·.1)) := by
 have hne := searchP_ne g p n
 have hz : (nth (searchP g p n) 0).1 = [p] := layersP_zero g _ _ _ _
 have hch : ∀ i, i + 1 < (searchP g p n).length → _ := layersP_chain g (budP n) ((budP n).toNat + 2) [p] [p]
 rw [show layersP g (budP n) ((budP n).toNat + 2) [p] [p] = searchP g p n from rfl] at hch
 generalize searchP g p n = L at *
 have hl := List.length_pos_iff.2 hne
 have hnth : ∀ i, i < (L.take (d + 1)).length → nth ((L.take (d + 1)).map (·.1)) i = (nth L i).1 := fun i hi => by
  rw [nth_map _ _ _ hi, nth_eq _ _ hi, nth_eq _ _ (by simp at hi; omega)]
  simp
 refine ⟨?_, ⟨p, ?_⟩, fun i hi q hq => ?_⟩
 ·intro h
  have := congrArg List.length h
  simp at this
  exact hne this
 ·rw [hnth 0 (by simp; omega), hz]
 ·rw [List.length_map] at hi
  rw [hnth (i + 1) hi] at hq
  rw [hnth i (by omega)]
  exact hch i (by simp at hi; omega) q hq
end Go.Av
end
section
open Go Go.Proofs
namespace Go.Av
theorem pFind_pure (l : List PosD) (hi : Inc l) (hl : l.length ≤ 17179869184) (hf : ∀ q ∈ l, FitsP q) (p : PosD) (hp : FitsP p) :
  Pure Tryz.prog 96 [encPs l, .agg (encPos p)] (.v (.int .i64 (fndP l p))) := by
 refine pF Tryz.func96 ?_
 have hB := BSearch_pure l hi hl hf p hp
 rw [fndP_low hi]
 (repeat (first|with_reducible refine wV fun _=>?_|simp [go_sem]))
 refine ACallP.plain hB (by simp [go_sem]) ?_
 (repeat (first|with_reducible refine wV fun _=>?_|simp [go_sem]))
 by_cases h : p ∈ l
 ·rw [if_pos h]
  (repeat (first|with_reducible refine wV fun _=>?_|simp [go_sem, h]))
 ·rw [if_neg h]
  (repeat (first|with_reducible refine wV fun _=>?_|simp [go_sem, h]))
end Go.Av
end
