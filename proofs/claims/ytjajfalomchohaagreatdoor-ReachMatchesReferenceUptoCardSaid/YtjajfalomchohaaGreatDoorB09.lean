/- Texts of ours, part 9: our library and contracts of functions. -/
import Derived.Test.YtjajfalomchohaaGreatDoorB08
set_option linter.unusedSimpArgs false
set_option linter.unusedVariables false
set_option maxRecDepth 100000
set_option maxHeartbeats 40000000
section
/- Plain: searches, layer by layer. -/
open Go Go.Proofs
namespace Go.Av
def addK (known nx : List PosD) (q : PosD) : List PosD := if q ∈ known ++ nx then nx else nx ++ [q]
def nextP (g : GameD) (known now : List PosD) : List PosD := (now.flatMap (movesP g)).foldl (addK known) []
def layersP (g : GameD) (b : Int) : Nat → List PosD → List PosD → List (List PosD × Bool)
 | 0, _, _ => []
 | f + 1, known, now => if b < known.length then [(now, false)] else if nextP g known now = [] then [(now, true)] else (now, false) :: layersP g b f (known ++ nextP g known now) (sortU cmpP (nextP g known now))
def budP (n : Int) : Int := if n < 0 then 0 else if 4000 < n then 4000 else n
def searchP (g : GameD) (p : PosD) (n : Int) : List (List PosD × Bool) := layersP g (budP n) ((budP n).toNat + 2) [p] [p]
theorem budP_range (n : Int) : 0 ≤ budP n ∧ budP n ≤ 4000 := by
 unfold budP
 split <;> (try split) <;> omega
theorem addK_fold_mem (known : List PosD) : ∀ (l nx : List PosD) (q : PosD), q ∈ l.foldl (addK known) nx ↔ q ∈ nx ∨ q ∈ l ∧ q ∉ known
 | [], nx, q => by simp
 | r :: l, nx, q => by
  rw [List.foldl_cons, addK_fold_mem known l]
  unfold addK
  by_cases hr : r ∈ known ++ nx
  ·rw [if_pos hr]
   rw [List.mem_append] at hr
   constructor
   ·rintro (h | ⟨h1, h2⟩)
    ·exact .inl h
    ·exact .inr ⟨List.mem_cons_of_mem _ h1, h2⟩
   ·rintro (h | ⟨h1, h2⟩)
    ·exact .inl h
    ·rcases List.mem_cons.1 h1 with rfl | h1
     ·rcases hr with hr | hr
      ·exact absurd hr h2
      ·exact .inl hr
     ·exact .inr ⟨h1, h2⟩
  ·rw [if_neg hr]
   rw [List.mem_append, not_or] at hr
   constructor
   ·rintro (h | ⟨h1, h2⟩)
    ·rcases List.mem_append.1 h with h | h
     ·exact .inl h
     ·simp only [List.mem_singleton] at h
      subst h
      exact .inr ⟨by simp, hr.1⟩
    ·exact .inr ⟨List.mem_cons_of_mem _ h1, h2⟩
   ·rintro (h | ⟨h1, h2⟩)
    ·exact .inl (List.mem_append.2 (.inl h))
    ·rcases List.mem_cons.1 h1 with rfl | h1
     ·exact .inl (by simp)
     ·exact .inr ⟨h1, h2⟩
theorem addK_fold_nodup (known : List PosD) : ∀ (l nx : List PosD), nx.Nodup → (l.foldl (addK known) nx).Nodup
 | [], nx, h => h
 | r :: l, nx, h => by
  rw [List.foldl_cons]
  refine addK_fold_nodup known l _ ?_
  unfold addK
  split
  ·exact h
  ·rename_i hr
   rw [List.mem_append, not_or] at hr
   refine List.nodup_append.2 ⟨h, by simp, ?_⟩
   intro a ha b hb e
   simp only [List.mem_singleton] at hb
   subst hb; subst e
   exact hr.2 ha
theorem addK_fold_len (known : List PosD) : ∀ (l nx : List PosD), (l.foldl (addK known) nx).length ≤ nx.length + l.length
 | [], nx => by simp
 | r :: l, nx => by
  rw [List.foldl_cons]
  have := addK_fold_len known l (addK known nx r)
  have h2 : (addK known nx r).length ≤ nx.length + 1 := by unfold addK; split <;> simp
  simp only [List.length_cons]
  omega
theorem nextP_mem {g : GameD} {known now : List PosD} {q : PosD} : q ∈ nextP g known now ↔ (∃ r ∈ now, q ∈ movesP g r) ∧ q ∉ known := by
 unfold nextP
 rw [addK_fold_mem, List.mem_flatMap]
 simp
theorem nextP_nodup (g : GameD) (known now : List PosD) : (nextP g known now).Nodup := addK_fold_nodup known _ [] (by simp)
theorem known_nodup {g : GameD} {known now : List PosD} (h : known.Nodup) : (known ++ nextP g known now).Nodup :=
 List.nodup_append.2 ⟨h, nextP_nodup g known now, fun a ha b hb e => (nextP_mem.1 hb).2 (e ▸ ha)⟩
theorem nextP_ok {g : GameD} (hg : GOk g) {known now : List PosD} (hn : ∀ p ∈ now, POk g p) : ∀ q ∈ nextP g known now, POk g q := fun q hq => by
 obtain ⟨⟨r, hr, hm⟩, _⟩ := nextP_mem.1 hq
 exact (movesP_ok hg (hn r hr) q hm).1
theorem flatMap_moves_len {g : GameD} (hg : GOk g) : ∀ {now : List PosD}, (∀ p ∈ now, POk g p) → (now.flatMap (movesP g)).length ≤ now.length * 472446
 | [], _ => by simp
 | p :: now, h => by
  have h1 := flatMap_moves_len hg (now := now) fun q hq => h q (by simp [hq])
  have h2 := movesP_len2 hg (h p (by simp))
  rw [List.flatMap_cons, List.length_append, List.length_cons, Nat.succ_mul]
  omega
theorem nextP_len {g : GameD} (hg : GOk g) {known now : List PosD} (hn : ∀ p ∈ now, POk g p) : (nextP g known now).length ≤ now.length * 472446 := by
 have h1 := addK_fold_len known (now.flatMap (movesP g)) []
 have h2 := flatMap_moves_len hg hn
 unfold nextP
 simp only [List.length_nil] at h1
 omega
theorem sortU_nodup_len {l : List PosD} (h : l.Nodup) : (sortU cmpP l).length = l.length := by
 refine Nat.le_antisymm (sortU_le _ _) (len_sub h fun x hx => sortU_mem.2 hx)
structure SearchOk (g : GameD) (known now : List PosD) : Prop where
 nd : known.Nodup
 sub : ∀ q ∈ now, q ∈ known
 inc : Inc now
 ok : ∀ q ∈ known, POk g q
theorem SearchOk.start {g : GameD} {p : PosD} (hp : POk g p) : SearchOk g [p] [p] :=
 ⟨by simp, fun q hq => hq, by simp [Inc], fun q hq => by simp only [List.mem_singleton] at hq; subst hq; exact hp⟩
theorem SearchOk.next {g : GameD} (hg : GOk g) {known now : List PosD} (h : SearchOk g known now) : SearchOk g (known ++ nextP g known now) (sortU cmpP (nextP g known now)) :=
 ⟨known_nodup h.nd, fun q hq => List.mem_append.2 (.inr (sortU_mem.1 hq)), sortU_pw cmp_pos _, fun q hq => by
  rcases List.mem_append.1 hq with hq | hq
  ·exact h.ok q hq
  ·exact nextP_ok hg (fun r hr => h.ok r (h.sub r hr)) q hq⟩
theorem SearchOk.now_len {g : GameD} {known now : List PosD} (h : SearchOk g known now) : now.length ≤ known.length := len_sub (by
  refine List.Pairwise.imp ?_ h.inc
  intro a b hab e
  have := (cmp_pos.eq a b).2 e
  omega) h.sub
theorem SearchOk.now_ok {g : GameD} {known now : List PosD} (h : SearchOk g known now) : ∀ q ∈ now, POk g q := fun q hq => h.ok q (h.sub q hq)
end Go.Av
end
section
/- Plain: what a search sees. -/
open Go Go.Proofs
namespace Go.Av
def fullP : List (List PosD × Bool) → Bool
 | [] => false
 | [x] => x.2
 | _ :: l => fullP l
theorem fullP_nth : ∀ {L : List (List PosD × Bool)}, L ≠ [] → fullP L = (nth L (L.length - 1)).2
 | [], h => absurd rfl h
 | [x], _ => rfl
 | x :: y :: l, _ => by
  have := fullP_nth (L := y :: l) (by simp)
  rw [fullP, this]
  ·simp only [List.length_cons, Nat.add_sub_cancel]
   rw [nth_succ]
  ·simp
theorem layersP_ne (g : GameD) (b : Int) (f : Nat) (known now : List PosD) : layersP g b (f + 1) known now ≠ [] := by
 rw [layersP]
 split
 ·simp
 ·split <;> simp
theorem layersP_ok {g : GameD} (hg : GOk g) (b : Int) : ∀ (f : Nat) {known now : List PosD}, SearchOk g known now → ∀ x ∈ layersP g b f known now, Inc x.1 ∧ ∀ q ∈ x.1, POk g q
 | 0, known, now, h, x, hx => by simp [layersP] at hx
 | f + 1, known, now, h, x, hx => by
  rw [layersP] at hx
  split at hx
  ·simp only [List.mem_singleton] at hx
   subst hx
   exact ⟨h.inc, h.now_ok⟩
  ·split at hx
   ·simp only [List.mem_singleton] at hx
    subst hx
    exact ⟨h.inc, h.now_ok⟩
   ·rcases List.mem_cons.1 hx with rfl | hx
    ·exact ⟨h.inc, h.now_ok⟩
    ·exact layersP_ok hg b f (h.next hg) x hx
def allOf (L : List (List PosD × Bool)) : List PosD := L.flatMap (·.1)
theorem layersP_all {g : GameD} (hg : GOk g) {b : Int} (hb : b ≤ 4000) : ∀ (f : Nat) {known now : List PosD}, SearchOk g known now →
  (allOf (layersP g b f known now)).length ≤ now.length + (if known.length ≤ b.toNat then 1889784000 + (b.toNat - known.length) else 0)
 | 0, known, now, h => by simp [layersP, allOf]
 | f + 1, known, now, h => by
  rw [layersP]
  split
  ·simp [allOf]
  ·rename_i hk
   split
   ·simp [allOf]
   ·have ih := layersP_all hg hb f (h.next hg)
    have e : allOf ((now, false) :: layersP g b f (known ++ nextP g known now) (sortU cmpP (nextP g known now))) = now ++ allOf (layersP g b f (known ++ nextP g known now) (sortU cmpP (nextP g known now))) := rfl
    rw [e, List.length_append]
    have hs := sortU_nodup_len (nextP_nodup g known now)
    have hl : (known ++ nextP g known now).length = known.length + (nextP g known now).length := List.length_append
    have hn := nextP_len hg (known := known) h.now_ok
    have hnl := h.now_len
    have h4 : now.length * 472446 ≤ 1889784000 := by omega
    rw [hs, hl] at ih
    rw [if_pos (by omega)]
    split at ih <;> omega
theorem searchP_len {g : GameD} (hg : GOk g) {p : PosD} (hp : POk g p) (n : Int) : (allOf (searchP g p n)).length ≤ 1889788001 := by
 have hb := budP_range n
 have := layersP_all hg hb.2 ((budP n).toNat + 2) (SearchOk.start hp)
 unfold searchP
 generalize layersP g (budP n) ((budP n).toNat + 2) [p] [p] = L at *
 simp only [List.length_singleton] at this
 split at this <;> omega
theorem searchP_ok {g : GameD} (hg : GOk g) {p : PosD} (hp : POk g p) (n : Int) : ∀ x ∈ searchP g p n, Inc x.1 ∧ ∀ q ∈ x.1, POk g q := layersP_ok hg _ _ (SearchOk.start hp)
theorem searchP_ne (g : GameD) (p : PosD) (n : Int) : searchP g p n ≠ [] := layersP_ne g _ _ _ _
theorem allOf_ok {g : GameD} (hg : GOk g) {p : PosD} (hp : POk g p) (n : Int) : ∀ q ∈ allOf (searchP g p n), POk g q := fun q hq => by
 obtain ⟨x, hx, hq⟩ := List.mem_flatMap.1 hq
 exact (searchP_ok hg hp n x hx).2 q hq
def seenP (g : GameD) (p : PosD) (n : Int) : List PosD := sortU cmpP (allOf (searchP g p n))
theorem layersP_count (g : GameD) (b : Int) : ∀ (f : Nat) (known now : List PosD), (layersP g b f known now).length ≤ f
 | 0, known, now => by simp [layersP]
 | f + 1, known, now => by
  rw [layersP]
  split
  ·simp
  ·split
   ·simp
   ·have := layersP_count g b f (known ++ nextP g known now) (sortU cmpP (nextP g known now))
    simp only [List.length_cons]
    omega
theorem searchP_count (g : GameD) (p : PosD) (n : Int) : (searchP g p n).length ≤ 4002 := by
 have := layersP_count g (budP n) ((budP n).toNat + 2) [p] [p]
 have := budP_range n
 unfold searchP
 omega
end Go.Av
end
section
/- Plain: the least game through layers of positions. -/
open Go Go.Proofs
namespace Go.Av
def frstP (g : GameD) (p : PosD) (l : List PosD) : Int := idxOfP (fun q => decide (q ∈ movesP g p)) l
theorem frstP_some {g : GameD} {p : PosD} {l : List PosD} (h : 0 ≤ frstP g p l) : (frstP g p l).toNat < l.length ∧ nth l (frstP g p l).toNat ∈ movesP g p ∧ ∀ j, j < (frstP g p l).toNat → nth l j ∉ movesP g p := by
 unfold frstP idxOfP at *
 cases hf : l.findIdx? (fun q => decide (q ∈ movesP g p)) with
 | none => rw [hf] at h; simp at h
 | some i =>
  obtain ⟨hi, h1, h2⟩ := List.findIdx?_eq_some_iff_getElem.1 hf
  simp only [Int.toNat_natCast]
  refine ⟨hi, by rw [nth_eq _ _ hi]; simpa using h1, fun j hj => ?_⟩
  rw [nth_eq _ _ (by omega)]
  simpa using h2 j hj
theorem frstP_iff {g : GameD} {p : PosD} {l : List PosD} : 0 ≤ frstP g p l ↔ ∃ q ∈ l, q ∈ movesP g p := by
 have := idxOfP_any (p := fun q => decide (q ∈ movesP g p)) (l := l)
 unfold frstP
 constructor
 ·intro h
  rw [decide_eq_true h] at this
  obtain ⟨q, h1, h2⟩ := List.any_eq_true.1 this.symm
  exact ⟨q, h1, by simpa using h2⟩
 ·rintro ⟨q, h1, h2⟩
  have h3 : (l.any fun q => decide (q ∈ movesP g p)) = true := List.any_eq_true.2 ⟨q, h1, by simpa using h2⟩
  rw [h3] at this
  simpa using this
def goodP (g : GameD) : List (List PosD) → PosD → List (List PosD)
 | [], _ => []
 | [_], goal => [[goal]]
 | l :: m :: ls, goal => (l.filter fun p => decide (0 ≤ frstP g p (nth (goodP g (m :: ls) goal) 0))) :: goodP g (m :: ls) goal
theorem goodP_last (g : GameD) (goal : PosD) : ∀ past : List (List PosD), past ≠ [] → nth (goodP g past goal) (past.length - 1) = [goal]
 | [], h => absurd rfl h
 | [_], _ => rfl
 | l :: m :: ls, _ => by
  have := goodP_last g goal (m :: ls) (by simp)
  rw [goodP]
  ·rw [show (l :: m :: ls).length - 1 = ((m :: ls).length - 1) + 1 by simp, nth_succ]
   exact this
theorem goodP_at (g : GameD) (goal : PosD) : ∀ (past : List (List PosD)) (i : Nat), i + 1 < past.length → nth (goodP g past goal) i = (nth past i).filter fun p => decide (0 ≤ frstP g p (nth (goodP g past goal) (i + 1)))
 | [], i, h => by simp at h
 | [_], i, h => by simp at h
 | l :: m :: ls, i, h => by
  rw [goodP]
  ·cases i with
   | zero => rfl
   | succ i =>
    rw [nth_succ, nth_succ, nth_succ]
    exact goodP_at g goal (m :: ls) i (by simpa using h)
structure ChainOk (g : GameD) (past : List (List PosD)) : Prop where
 ne : past ≠ []
 one : ∃ s, nth past 0 = [s]
 back : ∀ i, i + 1 < past.length → ∀ q ∈ nth past (i + 1), ∃ r ∈ nth past i, q ∈ movesP g r
theorem goodP_sub {g : GameD} {goal : PosD} {past : List (List PosD)} {i : Nat} (hi : i < past.length) (hg : goal ∈ nth past (past.length - 1)) : ∀ q ∈ nth (goodP g past goal) i, q ∈ nth past i := by
 intro q hq
 by_cases h : i + 1 < past.length
 ·rw [goodP_at g goal past i h] at hq
  exact (List.mem_filter.1 hq).1
 ·obtain rfl : i = past.length - 1 := by omega
  rw [goodP_last g goal past (by intro h; rw [h] at hi; simp at hi)] at hq
  simp only [List.mem_singleton] at hq
  subst hq
  exact hg
theorem goodP_ne {g : GameD} {goal : PosD} {past : List (List PosD)} (hc : ChainOk g past) (hg : goal ∈ nth past (past.length - 1)) : ∀ d i, i + d + 1 = past.length → ∃ q, q ∈ nth (goodP g past goal) i
 | 0, i, hi => by
  obtain rfl : i = past.length - 1 := by omega
  rw [goodP_last g goal past hc.ne]
  exact ⟨goal, by simp⟩
 | d + 1, i, hi => by
  obtain ⟨q, hq⟩ := goodP_ne hc hg d (i + 1) (by omega)
  obtain ⟨r, hr, hm⟩ := hc.back i (by omega) q (goodP_sub (by omega) hg q hq)
  refine ⟨r, ?_⟩
  rw [goodP_at g goal past i (by omega)]
  exact List.mem_filter.2 ⟨hr, by simpa using frstP_iff.2 ⟨q, hq, hm⟩⟩
theorem goodP_first {g : GameD} {goal : PosD} {past : List (List PosD)} (hc : ChainOk g past) (hg : goal ∈ nth past (past.length - 1)) : nth (nth past 0) 0 ∈ nth (goodP g past goal) 0 := by
 have hl := List.length_pos_iff.2 hc.ne
 obtain ⟨q, hq⟩ := goodP_ne hc hg (past.length - 1) 0 (by omega)
 have := goodP_sub (by omega) hg q hq
 obtain ⟨s, hs⟩ := hc.one
 rw [hs] at this ⊢
 simp only [List.mem_singleton] at this
 subst this
 exact hq
theorem goodP_step {g : GameD} {goal : PosD} {past : List (List PosD)} {i : Nat} (hi : i + 1 < past.length) {p : PosD} (hp : p ∈ nth (goodP g past goal) i) : 0 ≤ frstP g p (nth (goodP g past goal) (i + 1)) := by
 rw [goodP_at g goal past i hi] at hp
 simpa using (List.mem_filter.1 hp).2
def wayP (g : GameD) (past : List (List PosD)) (goal : PosD) : Nat → PosD
 | 0 => nth (nth past 0) 0
 | i + 1 => nth (nth (goodP g past goal) (i + 1)) (frstP g (wayP g past goal i) (nth (goodP g past goal) (i + 1))).toNat
def traceP (g : GameD) (past : List (List PosD)) (goal : PosD) : List PosD := (List.range past.length).map (wayP g past goal)
theorem wayP_mem {g : GameD} {goal : PosD} {past : List (List PosD)} (hc : ChainOk g past) (hg : goal ∈ nth past (past.length - 1)) : ∀ i, i < past.length → wayP g past goal i ∈ nth (goodP g past goal) i
 | 0, _ => goodP_first hc hg
 | i + 1, hi => by
  have h1 := wayP_mem hc hg i (by omega)
  exact nth_mem (frstP_some (goodP_step hi h1)).1
theorem wayP_first {g : GameD} {goal : PosD} {past : List (List PosD)} (hc : ChainOk g past) (hg : goal ∈ nth past (past.length - 1)) {i : Nat} (hi : i + 1 < past.length) :
  0 ≤ frstP g (wayP g past goal i) (nth (goodP g past goal) (i + 1)) := goodP_step hi (wayP_mem hc hg i (by omega))
def gameP (g : GameD) (p goal : PosD) (n : Int) : List PosD × Int :=
 match (searchP g p n).findIdx? (fun x => decide (goal ∈ x.1)) with
 | some d => (traceP g (((searchP g p n).take (d + 1)).map (·.1)) goal, 0)
 | none => ([], if fullP (searchP g p n) then 270 else 2)
theorem layersP_chain (g : GameD) (b : Int) : ∀ (f : Nat) (known now : List PosD) (i : Nat), i + 1 < (layersP g b f known now).length → ∀ q ∈ (nth (layersP g b f known now) (i + 1)).1, ∃ r ∈ (nth (layersP g b f known now) i).1, q ∈ movesP g r
 | 0, known, now, i, h => by simp [layersP] at h
 | f + 1, known, now, i, h => by
  rw [layersP] at h ⊢
  split at h
  ·simp at h
  ·rename_i hk
   rw [if_neg hk]
   split at h
   ·simp at h
   ·rename_i hz
    rw [if_neg hz]
    cases i with
    | succ i =>
     rw [nth_succ, nth_succ]
     exact layersP_chain g b f _ _ i (by simpa using h)
    | zero =>
     rw [nth_succ, nth_zero]
     intro q hq
     have hq2 : q ∈ sortU cmpP (nextP g known now) := by
      cases f with
      | zero => simp [layersP] at h
      | succ f =>
       rw [layersP] at hq
       split at hq
       ·exact hq
       ·split at hq
        ·exact hq
        ·exact hq
     exact (nextP_mem.1 (sortU_mem.1 hq2)).1
theorem layersP_zero (g : GameD) (b : Int) (f : Nat) (known now : List PosD) : (nth (layersP g b (f + 1) known now) 0).1 = now := by
 rw [layersP]
 split
 ·rfl
 ·split <;> rfl
theorem searchP_chain (g : GameD) (p : PosD) (n : Int) (d : Nat) : ChainOk g (((searchP g p n).take (d + 1)).map (·.1)) := by
 have hne := searchP_ne g p n
 have hz : (nth (searchP g p n) 0).1 = [p] := layersP_zero g _ _ _ _
 have hch : ∀ i, i + 1 < (searchP g p n).length → _ := layersP_chain g (budP n) ((budP n).toNat + 2) [p] [p]
 rw [show layersP g (budP n) ((budP n).toNat + 2) [p] [p] = searchP g p n from rfl] at hch
 generalize searchP g p n = L at *
 have hl := List.length_pos_iff.2 hne
 have hnth : ∀ i, i < (L.take (d + 1)).length → nth ((L.take (d + 1)).map (·.1)) i = (nth L i).1 := fun i hi => by
  rw [nth_map _ _ _ hi, nth_eq _ _ hi, nth_eq _ _ (by simp at hi; omega)]
  simp
 refine ⟨?_, ⟨p, ?_⟩, fun i hi q hq => ?_⟩
 ·intro h
  have := congrArg List.length h
  simp at this
  exact hne this
 ·rw [hnth 0 (by simp; omega), hz]
 ·rw [List.length_map] at hi
  rw [hnth (i + 1) hi] at hq
  rw [hnth i (by omega)]
  exact hch i (by simp at hi; omega) q hq
end Go.Av
end
section
/- Contracts: pos.Find (and the search by halves), Find of the reference, in sorted lists. -/
open Go Go.Proofs
namespace Go.Av
theorem BSearch_pure (l : List PosD) (hi : Inc l) (hl : l.length ≤ 17179869184) (hf : ∀ q ∈ l, FitsP q) (p : PosD) (hp : FitsP p) :
  Pure Tryz.prog 187 [encPs l, .agg (encPos p), .fn (.func 35) [] []] (.tup [.v (.int .i64 (lowP l p)), .v (.bool (decide (p ∈ l)))]) := by
 refine pF Tryz.func187 ?_
 have hle := lowP_le l p
 have hmem := lowP_mem hi p
 have hiff := fun h hn => lowP_iff hi p (h := h) hn
 generalize lowP l p = w at *
 (repeat (first|with_reducible (first|refine wV fun _=>?_|refine wE ?_)|simp [go_sem]))
 refine ALoop.start (ALoop.ind (α := Nat × Nat) (fun a => ⟨[(0, encPs l), (2, .fn (.func 35) [] []), (4, .ref 0 0 5 0 0), (8, .v (.int .i64 l.length)), (9, .v (.int .i64 a.1)), (10, .v (.int .i64 a.2))], [(0, .rows true 0 5 [encPos p])], 1⟩)
  (fun d a => a.2 - a.1 ≤ d ∧ a.1 ≤ w ∧ w ≤ a.2 ∧ a.2 ≤ l.length) ?_ l.length (0, l.length) ?_) ?_ ?_
 ·rintro d ⟨i, j⟩ ⟨i1, i2, i3, i4⟩ hrec
  simp only at i1 i2 i3 i4
  have hdiv : ((i : Int) + j).fdiv 2 = ((i + j) / 2 : Nat) := by rw [Int.fdiv_eq_ediv_of_nonneg _ (by omega)]; omega
  (repeat (first|with_reducible (first|refine wV fun _=>?_|refine wE ?_)|simp [go_sem]))
  refine aIf.mkL (fun hlt => ?_) (fun hlt => ?_) <;> simp at hlt
  ·have hm : (i + j) / 2 < l.length := by omega
   have hm2 : i ≤ (i + j) / 2 ∧ (i + j) / 2 < j := by omega
   generalize hmid : (i + j) / 2 = mid at *
   (repeat (first|with_reducible (first|refine wV fun _=>?_|refine wE ?_)|simp [go_sem, hdiv, hm]))
   refine dCall.plain (pCompare_pure (nth l mid) p (hf _ (nth_mem hm)) hp) (by simp [go_sem]) ?_
   have hi2 := hiff mid hm
   generalize cmpP (nth l mid) p = c at *
   (repeat (first|with_reducible (first|refine wV fun _=>?_|refine wE ?_)|simp [go_sem]))
   refine aIf.mkL (fun hc => ?_) (fun hc => ?_) <;> simp at hc
   ·have := hi2.1 hc
    (repeat (first|with_reducible (first|refine wV fun _=>?_|refine wE ?_)|simp [go_sem]))
    refine ALoop.start (hrec (d - 1) (by omega) (mid + 1, j) ⟨by simp only; omega, by simp only; omega, by simp only; omega, by simp only; omega⟩) ?_ (by simp)
    simp [go_sem, Wk_eq]
   ·have : ¬ mid < w := fun h => by have := hi2.2 h; omega
    (repeat (first|with_reducible (first|refine wV fun _=>?_|refine wE ?_)|simp [go_sem]))
    refine ALoop.start (hrec (d - 1) (by omega) (i, mid) ⟨by simp only; omega, by simp only; omega, by simp only; omega, by simp only; omega⟩) ?_ (by simp)
    simp [go_sem, Wk_eq]
  ·obtain rfl : i = w := by omega
   by_cases hw : i < l.length
   ·have hC := pCompare_pure (nth l i) p (hf _ (nth_mem hw)) hp
    have e : decide (p ∈ l) = decide (cmpP (nth l i) p = 0) := by
     rw [decide_eq_decide, hmem, cmp_pos.eq]
     exact ⟨fun h => h.2, fun h => ⟨hw, h⟩⟩
    rw [e]
    generalize cmpP (nth l i) p = c at *
    (repeat (first|with_reducible (first|refine wV fun _=>?_|refine wE ?_)|simp [go_sem, hw]))
    refine dGC.plain _ (fun _ => hC) (by simp [go_sem]) ?_
    (repeat (first|with_reducible (first|refine wV fun _=>?_|refine wE ?_)|simp [go_sem, hw]))
   ·have e : decide (p ∈ l) = false := decide_eq_false fun h => hw (hmem.1 h).1
    rw [e]
    (repeat (first|with_reducible (first|refine wV fun _=>?_|refine wE ?_)|simp [go_sem, hw]))
    refine dGC.skip (.v (.int .i64 0)) ?_
    (repeat (first|with_reducible (first|refine wV fun _=>?_|refine wE ?_)|simp [go_sem, hw]))
 ·exact ⟨by simp, by simp, hle, by simp⟩
 ·simp [go_sem, Wk_eq]
 ·simp
theorem pFind_pure (l : List PosD) (hi : Inc l) (hl : l.length ≤ 17179869184) (hf : ∀ q ∈ l, FitsP q) (p : PosD) (hp : FitsP p) :
  Pure Tryz.prog 143 [encPs l, .agg (encPos p)] (.v (.int .i64 (fndP l p))) := by
 refine pF Tryz.func143 ?_
 have hB := BSearch_pure l hi hl hf p hp
 rw [fndP_low hi]
 (repeat (first|with_reducible (first|refine wV fun _=>?_|refine wE ?_)|simp [go_sem]))
 refine ACallP.plain hB (by simp [go_sem]) ?_
 (repeat (first|with_reducible (first|refine wV fun _=>?_|refine wE ?_)|simp [go_sem]))
 by_cases h : p ∈ l
 ·rw [if_pos h]
  (repeat (first|with_reducible (first|refine wV fun _=>?_|refine wE ?_)|simp [go_sem, h]))
 ·rw [if_neg h]
  (repeat (first|with_reducible (first|refine wV fun _=>?_|refine wE ?_)|simp [go_sem, h]))
theorem rFind_pure (l : List PosD) (hi : Inc l) (hl : l.length ≤ 17179869184) (hf : ∀ q ∈ l, FitsP q) (p : PosD) (hp : FitsP p) :
  Pure Tryz.prog 31 [encPs l, .agg (encPos p)] (.v (.int .i64 (fndP l p))) := by
 rw [← findP_fnd hi]
 exact Find_pure l p (by omega) hf hp
end Go.Av
end
section
/- Contracts: the layers of a search (reach.layers). -/
open Go Go.Proofs
namespace Go.Av
theorem keyP_toList (p : PosD) : (keyP p).data.toList = (allP p).map fun n => UInt8.ofNat n.toNat := by
 unfold keyP
 simp [strOf_toList]
theorem keyP_inj {g : GameD} (hg : GOk g) {a b : PosD} (ha : POk g a) (hb : POk g b) (h : keyP a = keyP b) : a = b := by
 have h2 : allP a = allP b := map_u8_inj (allP_ok hg ha) (allP_ok hg hb) (by rw [← keyP_toList, ← keyP_toList, h])
 have a1 := ha.al
 have b1 := hb.al
 have a2 := ha.h0.len
 have b2 := hb.h0.len
 have a3 := ha.h1.len
 have b3 := hb.h1.len
 obtain ⟨pat, ph0, ph1, pr, ps⟩ := a
 obtain ⟨qat, qh0, qh1, qr, qs⟩ := b
 simp only [allP, List.append_assoc] at h2 a1 b1 a2 b2 a3 b3
 obtain ⟨e3, h3⟩ := List.append_inj h2 (by omega)
 obtain ⟨e4, h4⟩ := List.append_inj h3 (by omega)
 obtain ⟨e5, h5⟩ := List.append_inj h4 (by omega)
 simp only [List.cons.injEq, and_true] at h5
 rw [e3, e4, e5, h5.1, h5.2]
def kRowP (q : PosD) : List AV := [.v (.string (keyP q)), .v (.bool true)]
theorem bel_kRowP {n : Nat} {l : List PosD} : (∀ r ∈ l.map kRowP, ∀ c ∈ r, Bel n c) = True := by
 refine eq_true ?_
 intro r hr c hc
 obtain ⟨x, _, rfl⟩ := List.mem_map.1 hr
 simp only [kRowP, List.mem_cons, List.not_mem_nil, or_false] at hc
 rcases hc with rfl | rfl <;> exact .v _
attribute [go_sem ↓] bel_kRowP
theorem find_keysP (t : PosD) : ∀ (next : List PosD), (∀ s ∈ next, keyP t = keyP s → t = s) → mapFind .string (.v (.string (keyP t))) (next.map kRowP) = some (if t ∈ next then some (.v (.bool true)) else none)
 | [], _ => by simp [mapFind]
 | s :: next, h => by
  rw [List.map_cons, mapFind]
  have e : keyEq .string (.v (.string (keyP t))) (cel (kRowP s) 0) = some (keyP t == keyP s) := rfl
  rw [e, bytes_beq]
  by_cases hk : keyP t = keyP s
  ·have := h s (by simp) hk
   subst this
   simp [kRowP, cel]
  ·have hne : t ≠ s := fun e => hk (by rw [e])
   rw [decide_eq_false hk]
   simp only
   rw [find_keysP t next (fun u hu => h u (by simp [hu]))]
   simp [hne]
theorem put_keysP (t : PosD) : ∀ (next : List PosD), (∀ s ∈ next, keyP t = keyP s → t = s) → t ∉ next → mapPut .string (.v (.string (keyP t))) (.v (.bool true)) (next.map kRowP) = some ((next ++ [t]).map kRowP)
 | [], _, _ => by simp [mapPut, kRowP]
 | s :: next, h, hn => by
  rw [List.map_cons, mapPut]
  have e : keyEq .string (.v (.string (keyP t))) (cel (kRowP s) 0) = some (keyP t == keyP s) := rfl
  rw [e, bytes_beq]
  have hk : keyP t ≠ keyP s := fun e => hn (by rw [h s (by simp) e]; simp)
  rw [decide_eq_false hk]
  simp only
  rw [put_keysP t next (fun u hu => h u (by simp [hu])) (fun hm => hn (by simp [hm]))]
  simp
def rowL (x : List PosD × Bool) : List AV := [encPs x.1, .v (.bool x.2)]
theorem bel_rowL {n : Nat} {L : List (List PosD × Bool)} : (∀ r ∈ L.map rowL, ∀ c ∈ r, Bel n c) = True := by
 refine eq_true ?_
 intro r hr c hc
 obtain ⟨x, _, rfl⟩ := List.mem_map.1 hr
 simp only [rowL, List.mem_cons, List.not_mem_nil, or_false] at hc
 rcases hc with rfl | rfl
 ·exact of_eq_true bel_Ps
 ·exact .v _
attribute [go_sem ↓] bel_rowL
def nxI (g : GameD) (known now : List PosD) (i : Nat) : List PosD := ((now.take i).flatMap (movesP g)).foldl (addK known) []
theorem nxI_succ (g : GameD) (known now : List PosD) {i : Nat} (hi : i < now.length) : nxI g known now (i + 1) = (movesP g (nth now i)).foldl (addK known) (nxI g known now i) := by
 unfold nxI
 rw [List.take_add_one, List.getElem?_eq_getElem hi, nth_eq _ _ hi, Option.toList_some, List.flatMap_append, List.foldl_append]
 simp
theorem nxI_all (g : GameD) (known now : List PosD) : nxI g known now now.length = nextP g known now := by
 unfold nxI nextP
 rw [List.take_length]
theorem foldK_succ (known nx : List PosD) (l : List PosD) {j : Nat} (hj : j < l.length) : (l.take (j + 1)).foldl (addK known) nx = addK known ((l.take j).foldl (addK known) nx) (nth l j) := by
 rw [List.take_add_one, List.getElem?_eq_getElem hj, nth_eq _ _ hj, Option.toList_some, List.foldl_append]
 rfl
theorem kKey_pure {g : GameD} (hg : GOk g) {p : PosD} (hp : POk g p) : Pure Tryz.prog 186 [.agg (encPos p)] (.v (.string (keyP p))) := by
 have := hp.al
 have := hg.c9
 have := hg.k6
 have := hp.h0.len
 have := hp.h1.len
 exact Key_pure p (by omega) (by omega) (by omega) (allP_ok hg hp)
theorem layersF_seq (g : GameD) (hg : GOk g) (p : PosD) (hp : POk g p) (b : Int) (hb : 0 ≤ b ∧ b ≤ 4000) :
  PSeq Tryz.prog 185 [.fp (encPos p), .fp [.v (.int .i64 b)], .fp (encGame g)] 0 ((layersP g b (b.toNat + 2) [p] [p]).map rowL) := by
 refine PSeq.of_awp (by kernel_rfl) Tryz.func185 rfl rfl (Nat.le_of_ble_eq_true rfl) (by kernel_rfl) (fun l => ?_) (hm2 := by decide)
 have hgb : ∀ (n : Nat) (L : List (List PosD × Bool)), Bel n (ghost l 0 (L.map rowL)) := fun n L => by
  simp only [ghost, Bel_gd, Bel_tup, List.forall_mem_cons, Bel_v, Bel_lst]
  simp [go_sem]
 have hK0 := kKey_pure hg hp
 (repeat (first|with_reducible (first|refine wV fun _=>?_|refine wE ?_)|simp [go_sem, GH]))
 refine dCall.plain hK0 (by simp [go_sem]) ?_
 (repeat (first|with_reducible (first|refine wV fun _=>?_|refine wE ?_)|simp [go_sem, GH, mapPut]))
 refine ALoop.start (ALoop.ind (α := List PosD × List PosD × List (List PosD × Bool)) (fun a => ⟨[(0, .fn (.yield l) [] []), (2, .fp [.v (.int .i64 b)]), (3, .fp (encGame g)), (5, .mp 0), (6, encPs a.2.1), (1000000007, ghost l 0 (a.2.2.map rowL))], [(0, .rows true 0 2 (a.1.map kRowP))], 1⟩)
  (fun d a => SearchOk g a.1 a.2.1 ∧ 1 ≤ d ∧ b.toNat + 2 ≤ a.1.length + d ∧ a.1.length ≤ 4000 + 4000 * 472446 ∧ a.2.2 = layersP g b d a.1 a.2.1) ?_ (b.toNat + 2) ([p], [p], layersP g b (b.toNat + 2) [p] [p]) ?_) ?_ ?_
 ·rintro d ⟨known, now, L⟩ ⟨i1, i2, i3, i4, i5⟩ hrec
  simp only at i1 i2 i3 i4 i5
  obtain ⟨d, rfl⟩ : ∃ d', d = d' + 1 := ⟨d - 1, by omega⟩
  rw [layersP] at i5
  (repeat (first|with_reducible (first|refine wV fun _=>?_|refine wE ?_)|simp [go_sem, GH]))
  refine aIf.mkL (fun hk => ?_) (fun hk => ?_) <;> simp at hk
  ·rw [if_pos hk] at i5
   subst i5
   (repeat (first|with_reducible (first|refine wV fun _=>?_|refine wE ?_)|simp [go_sem, GH]))
   refine aYld.mk (more := 0) (xs := rowL (now, false)) (rs := []) _ (by simp [upd, GH]) (.refl _) (.refl _ _ _ _) (by simp [go_sem, rowL]) ?_ ?_
   ·(repeat (first|with_reducible (first|refine wV fun _=>?_|refine wE ?_)|simp [go_sem, GH]))
   ·(repeat (first|with_reducible (first|refine wV fun _=>?_|refine wE ?_)|simp [go_sem, GH]))
  ·rw [if_neg (by omega)] at i5
   have hn2 := i1.next hg
   have hnl := i1.now_len
   have hok := i1.now_ok
   have hnx := nextP_len hg (known := known) hok
   have hnb : now.length * 472446 ≤ 4000 * 472446 := Nat.mul_le_mul_right _ (by omega)
   have hnd : (known ++ nextP g known now).length = known.length + (nextP g known now).length := List.length_append
   obtain ⟨A, hA⟩ : ∃ A : Nat → List PosD, ∀ i, A i = nxI g known now i := ⟨_, fun _ => rfl⟩
   have hAl : ∀ i, (A i).length ≤ 4000 * 472446 := fun i => by
    rw [hA]
    have h1 := addK_fold_len known ((now.take i).flatMap (movesP g)) []
    have h2 := flatMap_moves_len hg (now := now.take i) (fun q hq => hok q (List.mem_of_mem_take hq))
    have h3 : (now.take i).length * 472446 ≤ 4000 * 472446 := Nat.mul_le_mul_right _ (by simp; omega)
    unfold nxI
    simp only [List.length_nil] at h1
    omega
   have hAo : ∀ i, ∀ q ∈ A i, POk g q := fun i q hq => by
    rw [hA] at hq
    unfold nxI at hq
    rw [addK_fold_mem, List.mem_flatMap] at hq
    rcases hq with h | ⟨⟨r, hr, hm⟩, _⟩
    ·simp at h
    ·exact (movesP_ok hg (hok r (List.mem_of_mem_take hr)) q hm).1
   have hA0 : A 0 = [] := by rw [hA]; rfl
   have hAs : ∀ i, i < now.length → A (i + 1) = (movesP g (nth now i)).foldl (addK known) (A i) := fun i hi => by rw [hA, hA, nxI_succ g known now hi]
   have hAn : A now.length = nextP g known now := by rw [hA, nxI_all]
   (repeat (first|with_reducible (first|refine wV fun _=>?_|refine wE ?_)|simp [go_sem, GH]))
   refine ALoop.start (ALoop.ind (α := Nat) (fun i => ⟨[(0, .fn (.yield l) [] []), (2, .fp [.v (.int .i64 b)]), (3, .fp (encGame g)), (5, .mp 0), (6, encPs now), (7, .sl 1 (A i).length 5 0 (A i).length), (26, encPs now), (27, .v (.int .i64 now.length)), (28, .v (.int .i64 i)), (1000000007, ghost l 0 (L.map rowL))], [(0, .rows true 0 2 ((known ++ A i).map kRowP)), (1, .rows true (A i).length 5 ((A i).map encPos))], 2⟩)
    (fun d i => i + d = now.length) ?_ now.length 0 ?_) ?_ ?_
   ·rintro d2 i i1' hrec2
    (repeat (first|with_reducible (first|refine wV fun _=>?_|refine wE ?_)|simp [go_sem, GH]))
    refine aIf.mkL (fun hi => ?_) (fun hi => ?_) <;> simp at hi
    ·have hp0 := hok _ (nth_mem hi)
     have hM := Moves_pure g hg _ hp0
     have hml := movesP_len2 hg hp0
     have hmo := fun m hm => (movesP_ok hg hp0 m hm).1
     have hAs := hAs i hi
     (repeat (first|with_reducible (first|refine wV fun _=>?_|refine wE ?_)|simp [go_sem, GH, hi]))
     refine ACallP.plain hM (by simp [go_sem]) ?_
     (repeat (first|with_reducible (first|refine wV fun _=>?_|refine wE ?_)|simp [go_sem, GH, hi]))
     generalize hmv : movesP g (nth now i) = mv at *
     have hAi := hAo i
     have hAil := hAl i
     generalize A i = a0 at *
     obtain ⟨C, hC⟩ : ∃ C : Nat → List PosD, ∀ j, C j = (mv.take j).foldl (addK known) a0 := ⟨_, fun _ => rfl⟩
     have hC0 : C 0 = a0 := by rw [hC]; rfl
     have hCs : ∀ j, j < mv.length → C (j + 1) = addK known (C j) (nth mv j) := fun j hj => by rw [hC, hC, foldK_succ known a0 mv hj]
     have hCn : C mv.length = A (i + 1) := by rw [hC, List.take_length, hAs]
     have hCl : ∀ j, (C j).length ≤ 4000 * 472446 + 472446 := fun j => by
      rw [hC]
      have h1 := addK_fold_len known (mv.take j) a0
      have h2 : (mv.take j).length ≤ mv.length := by simp; omega
      omega
     have hCo : ∀ j, ∀ q ∈ C j, POk g q := fun j q hq => by
      rw [hC, addK_fold_mem] at hq
      rcases hq with h | ⟨h, _⟩
      ·exact hAi q h
      ·exact hmo q (List.mem_of_mem_take h)
     have hA0' : ∀ q ∈ mv, POk g q := hmo
     refine ALoop.start (ALoop.ind (α := Nat) (fun j => ⟨[(0, .fn (.yield l) [] []), (2, .fp [.v (.int .i64 b)]), (3, .fp (encGame g)), (5, .mp 0), (6, encPs now), (7, .sl 1 (C j).length 5 0 (C j).length), (26, encPs now), (27, .v (.int .i64 now.length)), (28, .v (.int .i64 i)), (34, encPs mv), (35, .v (.int .i64 mv.length)), (36, .v (.int .i64 j)), (1000000007, ghost l 0 (L.map rowL))], [(0, .rows true 0 2 ((known ++ C j).map kRowP)), (1, .rows true (C j).length 5 ((C j).map encPos))], 2⟩)
      (fun d j => j + d = mv.length) ?_ mv.length 0 ?_) ?_ ?_
     ·rintro d3 j j1 hrec3
      (repeat (first|with_reducible (first|refine wV fun _=>?_|refine wE ?_)|simp [go_sem, GH]))
      refine aIf.mkL (fun hj => ?_) (fun hj => ?_) <;> simp at hj
      ·have hqo := hmo _ (nth_mem hj)
       have hKq := kKey_pure hg hqo
       have hCj := hCs j hj
       have hCb := hCl j
       have hin : ∀ u ∈ known ++ C j, keyP (nth mv j) = keyP u → nth mv j = u := fun u hu e => by
        rcases List.mem_append.1 hu with h | h
        ·exact keyP_inj hg hqo (i1.ok u h) e
        ·exact keyP_inj hg hqo (hCo j u h) e
       have hfind := find_keysP _ _ hin
       have hput := put_keysP _ _ hin
       rw [List.map_append] at hfind hput
       unfold addK at hCj
       generalize hq : nth mv j = q at *
       generalize C j = cj at *
       (repeat (first|with_reducible (first|refine wV fun _=>?_|refine wE ?_)|simp [go_sem, GH, hj, hq]))
       refine ACallP.plain hKq (by simp [go_sem]) ?_
       by_cases hmem : q ∈ known ++ cj
       ·rw [if_pos hmem] at hCj hfind
        (repeat (first|with_reducible (first|refine wV fun _=>?_|refine wE ?_)|simp [go_sem, GH, hfind]))
        refine ALoop.start (hrec3 (d3 - 1) (by omega) (j + 1) (by omega)) ?_ (by simp)
        simp [go_sem, Wk_eq, hgb, GH, hCj]
       ·rw [if_neg hmem] at hCj hfind
        have hput := hput hmem
        (repeat (first|with_reducible (first|refine wV fun _=>?_|refine wE ?_)|simp [go_sem, GH, hfind, hput]))
        refine ALoop.start (hrec3 (d3 - 1) (by omega) (j + 1) (by omega)) ?_ (by simp)
        simp [go_sem, Wk_eq, hgb, GH, hCj]
        intro c hc
        simp only [kRowP, List.mem_cons, List.not_mem_nil, or_false] at hc
        rcases hc with rfl | rfl <;> exact .v _
      ·obtain rfl : j = mv.length := by omega
       rw [hCn]
       (repeat (first|with_reducible (first|refine wV fun _=>?_|refine wE ?_)|simp [go_sem, GH]))
       refine ALoop.start (hrec2 (d2 - 1) (by omega) (i + 1) (by omega)) ?_ (by simp)
       simp [go_sem, Wk_eq, hgb, GH]
     ·simp
     ·simp [go_sem, Wk_eq, hgb, GH, hC0]
     ·simp
    ·obtain rfl : i = now.length := by omega
     rw [hAn]
     have hfit : ∀ q ∈ nextP g known now, FitsP q := fun q hq => (nextP_ok hg hok q hq).fits hg
     have hSo := pSort_pure (nextP g known now) (by omega) hfit
     generalize nextP g known now = nx at *
     by_cases hz : nx = []
     ·rw [if_pos hz] at i5
      subst hz
      subst i5
      (repeat (first|with_reducible (first|refine wV fun _=>?_|refine wE ?_)|simp [go_sem, GH]))
      refine aYld.mk (more := 0) (xs := rowL (now, true)) (rs := []) _ (by simp [upd, GH]) (.refl _) (.refl _ _ _ _) (by simp [go_sem, rowL]) ?_ ?_
      ·(repeat (first|with_reducible (first|refine wV fun _=>?_|refine wE ?_)|simp [go_sem, GH]))
      ·(repeat (first|with_reducible (first|refine wV fun _=>?_|refine wE ?_)|simp [go_sem, GH]))
     ·rw [if_neg hz] at i5
      have hzl : 0 < nx.length := List.length_pos_iff.2 hz
      have hz2 : (nx = []) = False := eq_false hz
      subst i5
      (repeat (first|with_reducible (first|refine wV fun _=>?_|refine wE ?_)|simp [go_sem, GH, hz2]))
      refine aYld.mk (more := 0) (xs := rowL (now, false)) (rs := (layersP g b d (known ++ nx) (sortU cmpP nx)).map rowL) _ (by simp [upd, GH]) (.refl _) (.refl _ _ _ _) (by simp [go_sem, rowL]) ?_ ?_
      ·(repeat (first|with_reducible (first|refine wV fun _=>?_|refine wE ?_)|simp [go_sem, GH, hz2]))
       refine ACallP.pureF [1] hSo ?_ (bel1 (bel_encPs _)) ?_
       ·exact agX
       (repeat (first|with_reducible (first|refine wV fun _=>?_|refine wE ?_)|simp [go_sem, GH]))
       refine ALoop.start (hrec d (by omega) (known ++ nx, sortU cmpP nx, layersP g b d (known ++ nx) (sortU cmpP nx)) ⟨hn2, by omega, by simp only; omega, by simp only; omega, rfl⟩) ?_ (by simp)
       simp [go_sem, Wk_eq, hgb, GH]
      ·(repeat (first|with_reducible (first|refine wV fun _=>?_|refine wE ?_)|simp [go_sem, GH, hz2]))
   ·simp
   ·simp [go_sem, Wk_eq, hgb, GH, hA0]
   ·simp
 ·exact ⟨SearchOk.start hp, by omega, by simp only [List.length_singleton]; omega, by simp, rfl⟩
 ·simp [go_sem, Wk_eq, hgb, GH, kRowP]
  exact leV_frz rfl (by simp) (by simp [noH, upd]) (by simp)
 ·simp
end Go.Av
end
section
/- Contracts: reach.layers, reach.Seen. -/
open Go Go.Proofs
namespace Go.Av
def layR (n : Nat) : AV := .fn (.func 185) [] [.ref (n + 1) 0 5 0 0, .ref (n + 2) 0 1 0 0, .ref n 0 9 0 0]
def layH (g : GameD) (p : PosD) (b : Int) (n : Nat) : List (Nat × AObj) := [(n, .rows true 0 9 [encGame g]), (n + 1, .rows true 0 5 [encPos p]), (n + 2, .rows true 0 1 [[.v (.int .i64 (budP b))]])]
theorem layers_owns (g : GameD) (p : PosD) (b : Int) : Owns Tryz.prog 142 [.agg (encGame g), .agg (encPos p), .v (.int .i64 b)] layR (layH g p b) 3 := by
 refine ⟨?_, fun n => ⟨by simp [go_sem, layR], by simp [go_sem, layH]⟩⟩
 have e : budP b = if 0 < (if 4000 < b then 4000 else b) then (if 4000 < b then 4000 else b) else 0 := by
  unfold budP
  split <;> split <;> (try split) <;> omega
 refine ACallP.of_awp (by kernel_rfl) Tryz.func142 rfl rfl (Nat.le_of_ble_eq_true rfl) (by kernel_rfl) ?_
 (repeat (first|with_reducible (first|refine wV fun _=>?_|refine wE ?_)|simp [go_sem, layR, layH]))
 simp [go_sem, Wk_eq, e]
theorem Seen_pure (g : GameD) (hg : GOk g) (p : PosD) (hp : POk g p) (b : Int) : Pure Tryz.prog 74 [.agg (encGame g), .agg (encPos p), .v (.int .i64 b)] (.tup [encPs (seenP g p b), .v (.bool (fullP (searchP g p b)))]) := by
 refine pF Tryz.func74 ?_
 have hS : Owns Tryz.prog 142 [.agg (encGame g), .agg (encPos p), .v (.int .i64 b)] (fun n => layR n) (fun n => layH g p b n) 3 := layers_owns g p b
 have hQ := layersF_seq g hg p hp (budP b) (budP_range b)
 simp only [layR, layH] at hS
 have hlen := searchP_len hg hp b
 have hok := allOf_ok hg hp b
 have hne := searchP_ne g p b
 rw [show layersP g (budP b) ((budP b).toNat + 2) [p] [p] = searchP g p b from rfl] at hQ
 unfold seenP
 have hfull := fullP_nth hne
 generalize searchP g p b = L at *
 (repeat (first|with_reducible (first|refine wV fun _=>?_|refine wE ?_)|simp [go_sem, GH]))
 refine ACallP.ownsPlain hS (by simp [go_sem]) ?_
 (repeat (first|with_reducible (first|refine wV fun _=>?_|refine wE ?_)|simp [go_sem, GH]))
 refine aRange.mk [.fp (encPos p), .fp [.v (.int .i64 (budP b))], .fp (encGame g)] (frzO _ [4, 5, 6]) hQ (frz_frzO _ _) ?_ (by simp [go_sem]) (fun xs hx => by obtain ⟨y, _, rfl⟩ := List.mem_map.1 hx; rfl) ?_
 ·refine LeRow.cons (.frzP rfl ?_ ?_ ?_ ?_) (LeRow.cons (.frzP rfl ?_ ?_ ?_ ?_) (LeRow.cons (.frzP rfl ?_ ?_ ?_ ?_) .nil)) <;> first | exact LeRow.refl _ _ _ _ | simp [frzO, frz1, upd]
 obtain ⟨al, hal⟩ : ∃ al : Nat → List PosD, al = fun k => allOf (L.take k) := ⟨_, rfl⟩
 have hall : ∀ k, (al k).length ≤ 1889788001 := fun k => by
  have e : allOf L = allOf (L.take k) ++ allOf (L.drop k) := by
   unfold allOf
   rw [← List.flatMap_append, List.take_append_drop]
  rw [e, List.length_append] at hlen
  rw [hal]
  simp only
  omega
 have hals : ∀ k, k < L.length → al (k + 1) = al k ++ (nth L k).1 := fun k hk => by rw [hal]; simp only; unfold allOf; rw [List.take_add_one, List.getElem?_eq_getElem hk, nth_eq _ _ hk, Option.toList_some, List.flatMap_append]; simp
 have hal0 : al 0 = [] := by rw [hal]; rfl
 have halE : al L.length = allOf L := by rw [hal]; simp
 obtain ⟨fl, hfl⟩ : ∃ fl : Nat → Bool, fl = fun k => if k = 0 then false else (nth L (k - 1)).2 := ⟨_, rfl⟩
 have hfl0 : fl 0 = false := by rw [hfl]; rfl
 have hfls : ∀ k, fl (k + 1) = (nth L k).2 := fun k => by rw [hfl]; rfl
 have hflE : fl L.length = fullP L := by
  have := List.length_pos_iff.2 hne
  rw [hfull, hfl]
  simp only
  rw [if_neg (by omega)]
 clear hal hfl
 refine Fgt.to (ARange.ind (α := Nat) (fun k => ([(8, .ref 2 0 1 0 0), (9, .ref 3 0 1 0 0)], [(2, .rows true 0 1 [[.sl 7 k 5 0 (al k).length]]), (3, .rows true 0 1 [[.v (.bool (fl k))]]), (7, .rows true k 5 ((al k).map encPos))], 8))
  (fun rows k => rows = (L.drop k).map rowL ∧ k ≤ L.length) ?_ ?_ _ 0 ?_) ?_ ?_
 ·rintro k ⟨i1, i2⟩
  have hk : k = L.length := by
   have := congrArg List.length i1
   simp at this
   omega
  subst hk
  refine ⟨rfl, ?_⟩
  have hla := hall L.length
  rw [halE, hflE] at *
  have hSo := pSort_pure (allOf L) (by omega) (fun q hq => (hok q hq).fits hg)
  generalize allOf L = all at *
  generalize fullP L = full at *
  (repeat (first|with_reducible (first|refine wV fun _=>?_|refine wE ?_)|simp [go_sem, GH]))
  refine dCall.frz [encPs all] _ [7] [(7, some (.rows false L.length 5 (all.map encPos)))] hSo ?_ ?_ (bel1 (bel_encPs _)) ?_
  ·intro q hq
   simp only [List.mem_singleton] at hq
   subst hq
   exact ⟨by simp, L.length, 5, _, rfl, by simp [upd]⟩
  ·intro h₁ hS
   have h6 := hS 7 (by simp)
   simp [upd] at h6
   exact .cons (leV_frz h6.symm (by simp) (by simp [applyW, upd]) (by simp; exact List.take_of_length_le (by simp))) .nil
  ·(repeat (first|with_reducible (first|refine wV fun _=>?_|refine wE ?_)|simp [go_sem, GH]))
 ·rintro xs rs k ⟨i1, i2⟩ hrec
  have hk : k < L.length := by
   have := congrArg List.length i1
   simp at this
   omega
  rw [dropG_cons hk, List.map_cons, List.cons.injEq] at i1
  obtain ⟨rfl, rfl⟩ := i1
  have hals := hals k hk
  have hfls := hfls k
  have h1 := hall k
  have h2 := hall (k + 1)
  have h3 : (al k).length + (nth L k).1.length ≤ 1889788001 := by rw [hals, List.length_append] at h2; exact h2
  generalize hrs : (L.drop (k + 1)).map rowL = rs at *
  refine ARange.go (Nat.zero_le _) ?_
  (repeat (first|with_reducible (first|refine wV fun _=>?_|refine wE ?_)|simp [go_sem, GH, rowL]))
  refine Fgt.to (hrec (k + 1) ⟨hrs.symm, by omega⟩) ?_ (by simp)
  simp [go_sem, Wk_eq, GH, hals, hfls]
 ·exact ⟨rfl, Nat.zero_le _⟩
 ·simp [go_sem, Wk_eq, hal0, hfl0]
 ·simp
end Go.Av
end
section
/- Contracts, moves: Moves of the reference. -/
open Go Go.Proofs
namespace Go.Av
def mustK (gm : Bool) (l : List OutD) (i : Nat) : Bool := gm && (l.take i).any (·.took)
theorem mustK_zero (gm : Bool) (l : List OutD) : mustK gm l 0 = false := by simp [mustK]
theorem mustK_succ (gm : Bool) (l : List OutD) {i : Nat} (h : i < l.length) : mustK gm l (i + 1) = (mustK gm l i || (gm && (nth l i).took)) := by
 unfold mustK
 rw [List.take_add_one, List.getElem?_eq_getElem h, nth_eq _ _ h, Option.toList_some, List.any_append]
 simp only [List.any_cons, List.any_nil, Bool.or_false, Bool.and_or_distrib_left]
def keepK (must : Bool) (l : List OutD) (i : Nat) : List PosD := ((l.take i).filter fun o => !must || o.took).map (·.pos)
theorem keepK_zero (must : Bool) (l : List OutD) : keepK must l 0 = [] := by simp [keepK]
theorem keepK_succ (must : Bool) (l : List OutD) {i : Nat} (h : i < l.length) : keepK must l (i + 1) = keepK must l i ++ (if (!must || (nth l i).took) = true then [(nth l i).pos] else []) := by
 unfold keepK
 rw [List.take_add_one, List.getElem?_eq_getElem h, nth_eq _ _ h, Option.toList_some, List.filter_append, List.map_append]
 congr 1
 by_cases hc : (!must || l[i].took) = true <;> simp [hc]
theorem keepK_len (must : Bool) (l : List OutD) (i : Nat) : (keepK must l i).length ≤ i := by
 unfold keepK
 rw [List.length_map]
 refine Nat.le_trans (List.length_filter_le _ _) ?_
 simp; omega
theorem R6Moves_pure (g : GameD) (hg : GOk g) (p : PosD) (hp : POk g p) : Pure Tryz.prog 55 [.agg (encGame g), .agg (encPos p)] (encPs (movesP g p)) := by
 refine pF Tryz.func55 ?_
 have hE := R6Ended_pure g hg p hp
 have hO := R6Outcomes_pure g hg p hp
 have hD := R5Drops_pure g hg p hp
 have hdl := dropsP_len hg hp
 have hol := outsP_len hg hp
 have hS := R4Sort_pure (movesL g p) (by have := movesL_len hg hp; omega) (fun q hq => (movesL_ok hg hp q hq).1.fits hg)
 have hml : movesL g p = keepK (mustP g p) (outsP g p) (outsP g p).length ++ (if mustP g p then [] else dropsP g p) := by unfold movesL keepK; rw [List.take_length]
 have hmu : mustP g p = mustK g.must (outsP g p) (outsP g p).length := by unfold mustP mustK; rw [List.take_length]
 have hmv : movesP g p = if 0 ≤ endedP g p then [] else sortU cmpP (movesL g p) := rfl
 obtain ⟨R, hR⟩ : ∃ R, R = movesP g p := ⟨_, rfl⟩
 rw [← hR] at hmv ⊢
 generalize outsP g p = l at *
 generalize dropsP g p = ds at *
 generalize movesL g p = ml at *
 generalize endedP g p = en at *
 (repeat (first|with_reducible (first|refine wV fun _=>?_|refine wE ?_)|simp [go_sem]))
 refine ACallP.plain hE (by simp [go_sem]) ?_
 (repeat (first|with_reducible (first|refine wV fun _=>?_|refine wE ?_)|simp [go_sem]))
 refine aIf.mkL (fun he => ?_) (fun he => ?_) <;> simp at he
 ·rw [if_pos he] at hmv
  rw [hmv]
  (repeat (first|with_reducible (first|refine wV fun _=>?_|refine wE ?_)|simp [go_sem]))
 ·rw [if_neg (by omega)] at hmv
  (repeat (first|with_reducible (first|refine wV fun _=>?_|refine wE ?_)|simp [go_sem]))
  refine ACallP.plain hO (by simp [go_sem]) ?_
  (repeat (first|with_reducible (first|refine wV fun _=>?_|refine wE ?_)|simp [go_sem]))
  refine ALoop.start (ALoop.ind (α := Nat) (fun i => ⟨[(2, .ref 0 0 9 0 0), (3, .ref 1 0 5 0 0), (5, encOs l), (6, .sl 2 0 5 0 0), (7, .v (.bool (mustK g.must l i))), (8, .v (.int .i64 i))], [(0, .rows true 0 9 [encGame g]), (1, .rows true 0 5 [encPos p]), (2, .rows true 0 5 [])], 3⟩)
   (fun d i => i + d = l.length) ?_ l.length 0 ?_) ?_ ?_
  ·rintro d i i1 hrec
   (repeat (first|with_reducible (first|refine wV fun _=>?_|refine wE ?_)|simp [go_sem]))
   refine aIf.mkL (fun hi => ?_) (fun hi => ?_) <;> simp at hi
   ·have hms := mustK_succ g.must l hi
    cases hmk : mustK g.must l i
    ·rw [hmk, Bool.false_or] at hms
     cases hgm : g.must
     ·rw [hgm, Bool.false_and] at hms
      (repeat (first|with_reducible (first|refine wV fun _=>?_|refine wE ?_)|simp [go_sem, hmk, hgm, hi]))
      refine ALoop.start (hrec (d - 1) (by omega) (i + 1) (by omega)) ?_ (by simp)
      simp [go_sem, Wk_eq, hms, hgm]
     ·rw [hgm, Bool.true_and] at hms
      (repeat (first|with_reducible (first|refine wV fun _=>?_|refine wE ?_)|simp [go_sem, hmk, hgm, hi]))
      refine ALoop.start (hrec (d - 1) (by omega) (i + 1) (by omega)) ?_ (by simp)
      simp [go_sem, Wk_eq, hms, hgm]
    ·rw [hmk, Bool.true_or] at hms
     (repeat (first|with_reducible (first|refine wV fun _=>?_|refine wE ?_)|simp [go_sem, hmk, hi]))
     refine ALoop.start (hrec (d - 1) (by omega) (i + 1) (by omega)) ?_ (by simp)
     simp [go_sem, Wk_eq, hms]
   ·have hil : i = l.length := by omega
    subst hil
    rw [← hmu]
    generalize mustP g p = must at *
    (repeat (first|with_reducible (first|refine wV fun _=>?_|refine wE ?_)|simp [go_sem]))
    refine ALoop.start (ALoop.ind (α := Nat) (fun i => ⟨[(2, .ref 0 0 9 0 0), (3, .ref 1 0 5 0 0), (5, encOs l), (6, .sl 2 (keepK must l i).length 5 0 (keepK must l i).length), (7, .v (.bool must)), (9, .v (.int .i64 i))], [(0, .rows true 0 9 [encGame g]), (1, .rows true 0 5 [encPos p]), (2, .rows true (keepK must l i).length 5 ((keepK must l i).map encPos))], 3⟩)
     (fun d i => i + d = l.length) ?_ l.length 0 ?_) ?_ ?_
    ·rintro d i i1 hrec2
     (repeat (first|with_reducible (first|refine wV fun _=>?_|refine wE ?_)|simp [go_sem]))
     refine aIf.mkL (fun hi => ?_) (fun hi => ?_) <;> simp at hi
     ·have hks := keepK_succ must l hi
      have hkl := keepK_len must l i
      cases must
      ·simp only [Bool.not_false, Bool.true_or, if_true] at hks
       (repeat (first|with_reducible (first|refine wV fun _=>?_|refine wE ?_)|simp [go_sem, hi]))
       refine ALoop.start (hrec2 (d - 1) (by omega) (i + 1) (by omega)) ?_ (by simp)
       simp [go_sem, Wk_eq, hks]
      ·cases ht : (nth l i).took
       ·simp [ht] at hks
        (repeat (first|with_reducible (first|refine wV fun _=>?_|refine wE ?_)|simp [go_sem, hi, ht]))
        refine ALoop.start (hrec2 (d - 1) (by omega) (i + 1) (by omega)) ?_ (by simp)
        simp [go_sem, Wk_eq, hks]
       ·simp [ht] at hks
        (repeat (first|with_reducible (first|refine wV fun _=>?_|refine wE ?_)|simp [go_sem, hi, ht]))
        refine ALoop.start (hrec2 (d - 1) (by omega) (i + 1) (by omega)) ?_ (by simp)
        simp [go_sem, Wk_eq, hks]
     ·have hil : i = l.length := by omega
      subst hil
      have hkl := keepK_len must l l.length
      rw [hmv]
      generalize keepK must l l.length = kk at *
      cases must
      ·simp only [Bool.false_eq_true, if_false] at hml
       (repeat (first|with_reducible (first|refine wV fun _=>?_|refine wE ?_)|simp [go_sem]))
       refine ACallP.plain hD (by simp [go_sem]) ?_
       (repeat (first|with_reducible (first|refine wV fun _=>?_|refine wE ?_)|simp [go_sem]))
       subst hml
       refine ACallP.pureF [2] hS ?_ (bel1 (bel_encPs _)) ?_
       ·exact agX
       ·(repeat (first|with_reducible (first|refine wV fun _=>?_|refine wE ?_)|simp [go_sem]))
      ·simp only [if_true, List.append_nil] at hml
       subst hml
       (repeat (first|with_reducible (first|refine wV fun _=>?_|refine wE ?_)|simp [go_sem]))
       refine ACallP.pureF [2] hS ?_ (bel1 (bel_encPs _)) ?_
       ·exact agX
       ·(repeat (first|with_reducible (first|refine wV fun _=>?_|refine wE ?_)|simp [go_sem]))
    ·omega
    ·simp [go_sem, Wk_eq, keepK_zero]
    ·simp
  ·omega
  ·simp [go_sem, Wk_eq, mustK_zero]
  ·simp
end Go.Av
end
section
/- Contracts: Status, Legal, SameLists of the reference; the law's status. -/
open Go Go.Proofs
namespace Go.Av
theorem SameLists_pure (a b : List PosD) (ha : a.length ≤ 17179869184) (hb : b.length ≤ 17179869184) (hfa : ∀ p ∈ a, FitsP p) (hfb : ∀ p ∈ b, FitsP p) : Pure Tryz.prog 16 [encPs a, encPs b] (.v (.bool (decide (a = b)))) := by
 refine pF Tryz.func16 ?_
 (repeat (first|with_reducible (first|refine wV fun _=>?_|refine wE ?_)|simp [go_sem]))
 refine aIf.mkL (fun hl => ?_) (fun hl => ?_) <;> simp at hl
 ·have e : decide (a = b) = false := decide_eq_false fun h => hl (by rw [h])
  rw [e]
  (repeat (first|with_reducible (first|refine wV fun _=>?_|refine wE ?_)|simp [go_sem]))
 ·(repeat (first|with_reducible (first|refine wV fun _=>?_|refine wE ?_)|simp [go_sem]))
  refine ALoop.start (ALoop.ind (α := Nat) (fun i => ⟨[(0, encPs a), (1, encPs b), (5, .v (.int .i64 i))], [], 0⟩)
   (fun d i => i + d = a.length ∧ ∀ j, j < i → nth a j = nth b j) ?_ a.length 0 ?_) ?_ ?_
  ·rintro d i ⟨i1, i2⟩ hrec
   (repeat (first|with_reducible (first|refine wV fun _=>?_|refine wE ?_)|simp [go_sem]))
   refine aIf.mkL (fun hi => ?_) (fun hi => ?_) <;> simp at hi
   ·have hi' : i < b.length := by omega
    have hS := R4Same_pure (nth a i) (nth b i) (hfa _ (nth_mem hi)) (hfb _ (nth_mem hi'))
    rw [show decide (cmpP (nth a i) (nth b i) = 0) = decide (nth a i = nth b i) by rw [decide_eq_decide]; exact cmp_pos.eq _ _] at hS
    (repeat (first|with_reducible (first|refine wV fun _=>?_|refine wE ?_)|simp [go_sem, hi, hi']))
    refine dCall.plain hS (by simp [go_sem]) ?_
    by_cases h : nth a i = nth b i
    ·(repeat (first|with_reducible (first|refine wV fun _=>?_|refine wE ?_)|simp [go_sem, h]))
     refine ALoop.start (hrec (d - 1) (by omega) (i + 1) ⟨by omega, fun j hj => ?_⟩) ?_ (by simp)
     ·rcases Nat.lt_or_ge j i with h' | h'
      ·exact i2 j h'
      ·obtain rfl : j = i := by omega
       exact h
     ·simp [go_sem, Wk_eq]
    ·have e : decide (a = b) = false := decide_eq_false fun h' => h (by rw [h'])
     rw [e]
     (repeat (first|with_reducible (first|refine wV fun _=>?_|refine wE ?_)|simp [go_sem, h]))
   ·have e : decide (a = b) = true := decide_eq_true (List.ext_getElem (by omega) fun j h1 h2 => by
     have := i2 j (by omega)
     rwa [nth_eq _ _ h1, nth_eq _ _ h2] at this)
    rw [e]
    (repeat (first|with_reducible (first|refine wV fun _=>?_|refine wE ?_)|simp [go_sem]))
  ·exact ⟨by simp, fun j hj => by omega⟩
  ·simp [go_sem, Wk_eq]
  ·simp
end Go.Av
end
section
/- Contracts: Walk of the reference, for any picks. -/
open Go Go.Proofs
namespace Go.Av
end Go.Av
end
section
/- Contracts, games: Made of the reference. -/
open Go Go.Proofs
namespace Go.Av
theorem R3Made_pure (x : RawG) (hx : RawOk x) (hl : x.c.length ≤ 1099511627776) (hl0 : x.k0.length ≤ 1099511627776) (hl1 : x.k1.length ≤ 1099511627776) : Pure Tryz.prog 62 [.agg (encRaw x)] (.agg (encGame (madeG x))) := by
 refine pF Tryz.func62 ?_
 obtain ⟨eg, heg⟩ : ∃ eg, eg = encGame (madeG x) := ⟨_, rfl⟩
 rw [← heg]
 have hB := R1Made_pure x.w x.h x.cut hx.w hx.h hx.cut
 have hok := boardOk_made hx.w.1 hx.h.1 x.cut
 have hb : madeB x.w x.h x.cut = x.board := rfl
 rw [hb] at hB hok
 have r0 := Int.tmod_nonneg 3 hx.f0.1
 have r1 := Int.tmod_lt_of_pos x.f0 (show (0 : Int) < 3 by decide)
 have f0 : 0 ≤ x.f0 ∧ x.f0 ≤ 255 := hx.f0
 have f1 : 0 ≤ x.f1 ∧ x.f1 ≤ 255 := hx.f1
 have f2 : 0 ≤ x.f2 ∧ x.f2 ≤ 255 := hx.f2
 have f3 : 0 ≤ x.f3 ∧ x.f3 ≤ 255 := hx.f3
 have f4 : 0 ≤ x.f4 ∧ x.f4 ≤ 255 := hx.f4
 have m1 := Int.tmod_nonneg 4 hx.f1.1
 have m3 := Int.tmod_nonneg 4 hx.f3.1
 have m4 := Int.tmod_nonneg 4 hx.f4.1
 have qq : ∀ n : Int, U8 n → (0 ≤ n.tdiv 4 ∧ n.tdiv 4 ≤ 63) ∧ 0 ≤ (n.tdiv 4).tmod 3 ∧ (n.tdiv 4).tmod 3 < 3 := fun n hn => by
  have h : n.tdiv 4 = n / 4 := Int.tdiv_eq_ediv_of_nonneg hn.1
  have h1 := hn.1
  have h2 := hn.2
  have h3 := Int.tmod_nonneg 3 (show 0 ≤ n.tdiv 4 by omega)
  have h4 := Int.tmod_lt_of_pos (n.tdiv 4) (show (0 : Int) < 3 by decide)
  omega
 obtain ⟨q3, q3'⟩ := qq _ hx.f3
 obtain ⟨q4, q4'⟩ := qq _ hx.f4
 obtain ⟨bl, hbl⟩ : ∃ bl, bl = if x.f3.tmod 4 = 3 then 1 + (x.f3.tdiv 4).tmod 3 else 3 := ⟨_, rfl⟩
 obtain ⟨en, hen⟩ : ∃ en, en = if x.f4.tmod 4 = 3 then 1 + (x.f4.tdiv 4).tmod 3 else 2 := ⟨_, rfl⟩
 obtain ⟨R, hR⟩ : ∃ R, R = x.rights := ⟨_, rfl⟩
 have hR' : x.f0.tmod 3 = R := by rw [hR]; rfl
 obtain ⟨b, hbb⟩ : ∃ b, b = x.board := ⟨_, rfl⟩
 rw [← hbb] at hB hok
 (repeat (first|with_reducible (first|refine wV fun _=>?_|refine wE ?_)|simp [go_sem]))
 refine dCall.plain hB (by simp [go_sem]) ?_
 (repeat (first|with_reducible (first|refine wV fun _=>?_|refine wE ?_)|simp [go_sem, hR']))
 have hd8 : b.next.length = 8 := by rw [hbb]; exact madeB_dirs _ _ _
 have hcell : 1 ≤ b.cells ∧ b.cells ≤ 9 := by rw [hbb]; exact madeB_cells hx.w.1 hx.h.1 _
 obtain ⟨K, hK⟩ : ∃ K : Nat, K = kindsN x := ⟨_, rfl⟩
 have hKn : kindsN x = if x.k1.length = 0 then 1 else 2 := by unfold kindsN; simp only [List.length_eq_zero_iff]
 have hKl : ∀ i, (x.ks i).length ≤ 1099511627776 := fun i => by unfold RawG.ks; split <;> assumption
 have hKv : ∀ i, ∀ n ∈ x.ks i, U8 n := fun i => by unfold RawG.ks; split; exact hx.k0; exact hx.k1
 refine aIf.mkL (fun hk1 => ?_) (fun hk1 => ?_) <;> simp at hk1
 ·have hK2 : kindsN x = 2 := by rw [hKn, if_neg (by omega)]
  rw [hK2] at hK
  (repeat (first|with_reducible (first|refine wV fun _=>?_|refine wE ?_)|simp [go_sem]))
  refine ALoop.start (ALoop.ind (α := Nat) (fun a => ⟨[(1, .ref 0 0 12 0 0), (2, .ref 1 0 9 0 0), (3, .ref 20 0 9 0 0), (4, .v (.int .i64 K)), (5, .v (.int .i64 a))],
   [(0, .rows true 0 12 [encRaw x]), (1, .rows true 0 9 [[.v (.int .i64 0), AV.nils, AV.nils, AV.nils, .v (.int .i64 0), .v (.bool false), AV.nils, .v (.int .i64 0), .v (.int .i64 0)]]), (20, .rows true 0 9 [[.v (.int .i64 b.cells), encIss b.next, encIs b.turn, .sl 22 a 3 0 a, .v (.int .i64 R), .v (.bool (decide (x.f1.tmod 4 = 3))), AV.nils, .v (.int .i64 3), .v (.int .i64 2)]]), (22, .rows true a 3 (ksR x a))], 23⟩)
   (fun d a => a + d = K) ?_ K 0 ?_) ?_ ?_
  ·rintro d0 i i1 hrec
   (repeat (first|with_reducible (first|refine wV fun _=>?_|refine wE ?_)|simp [go_sem]))
   refine aIf.mkL (fun hi => ?_) (fun hi => ?_) <;> simp at hi
   ·have hi2 : i = 0 ∨ i = 1 := by omega
    have hkl := hKl i
    have hkv := hKv i
    have hks : kindOf x i = ⟨if i = 0 then nameA else nameB, ((x.ks i).take 4).map (fun n => madeP n b.next.length K x.rights), bitU x.f2 i⟩ := by rw [hbb, hK, ← hK2]; rfl
    rcases hi2 with rfl | rfl
    ·obtain ⟨kk, hkk⟩ : ∃ kk, kk = x.ks 0 := ⟨_, rfl⟩
     have hk0 : x.k0 = kk := hkk.symm
     rw [← hkk] at hkl hkv hks
     have hbit : bitU x.f2 0 = decide (andN .u8 x.f2 1 = 1) := by simp [bitU]
     obtain ⟨f, hf⟩ : ∃ f, f = (fun n => madeP n b.next.length K x.rights) := ⟨_, rfl⟩
     have hfp : ∀ n, U8 n → Pure Tryz.prog 136 [.v (.int .u8 n), .v (.int .i64 b.next.length), .v (.int .i64 K), .v (.int .i64 R)] (encProg (f n)) := fun n hn => by
      rw [hf, ← hR]; exact R2Made_pure n _ _ _ hn (by omega) (by omega) (by omega)
     rw [← hf, hbit] at hks
     (repeat (first|with_reducible (first|refine wV fun _=>?_|refine wE ?_)|simp [go_sem, hk0]))
     refine ALoop.start (ALoop.ind (α := Nat) (fun n => ⟨[(1, .ref 0 0 12 0 0), (2, .ref 1 0 9 0 0), (3, .ref 20 0 9 0 0), (4, .v (.int .i64 K)), (5, .v (.int .i64 0)), (6, .ref 35 0 3 0 0), (7, .v (.int .i64 n))],
      [(0, .rows true 0 12 [encRaw x]), (1, .rows true 0 9 [[.v (.int .i64 0), AV.nils, AV.nils, AV.nils, .v (.int .i64 0), .v (.bool false), AV.nils, .v (.int .i64 0), .v (.int .i64 0)]]), (20, .rows true 0 9 [[.v (.int .i64 b.cells), encIss b.next, encIs b.turn, .sl 22 0 3 0 0, .v (.int .i64 R), .v (.bool (decide (x.f1.tmod 4 = 3))), AV.nils, .v (.int .i64 3), .v (.int .i64 2)]]), (22, .rows true 0 3 (ksR x 0)), (35, .rows true 0 3 [[.v (.string ⟨#[97]⟩), .sl 37 n 1 0 n, .v (.bool (decide (andN .u8 x.f2 1 = 1)))]]), (37, .rows true n 1 (psR f kk n))], 38⟩)
      (fun d n => n + d = min kk.length 4) ?_ (min kk.length 4) 0 ?_) ?_ ?_
     ·rintro d n n1 hrec1
      (repeat (first|with_reducible (first|refine wV fun _=>?_|refine wE ?_)|simp [go_sem, hk0]))
      refine aIf.mkL (fun hn => ?_) (fun hn => ?_) <;> simp at hn
      ·have hn1 : n < kk.length := by omega
       have hn2 := hkv _ (nth_mem hn1)
       have hpl := psR_len f kk (n := n) (by omega)
       (repeat (first|with_reducible (first|refine wV fun _=>?_|refine wE ?_)|simp [go_sem, hk0, hn1]))
       refine dCall.plain (hfp _ hn2) (by simp [go_sem]) ?_
       (repeat (first|with_reducible (first|refine wV fun _=>?_|refine wE ?_)|simp [go_sem, hk0, hn1, hpl]))
       refine ALoop.start (hrec1 (d - 1) (by omega) (n + 1) (by omega)) ?_ (by simp)
       simp [go_sem, Wk_eq, hk0, psR_succ f kk hn1]
      ·have hne : n = min kk.length 4 := by omega
       (repeat (first|with_reducible (first|refine wV fun _=>?_|refine wE ?_)|simp [go_sem]))
       refine ALoop.start (hrec (d0 - 1) (by omega) (0 + 1) (by omega)) ?_ (by simp)
       have hkx : kRow (kindOf x 0) = [.v (.string ⟨#[97]⟩), .lst 1 (psR f kk n), .v (.bool (decide (andN .u8 x.f2 1 = 1)))] := by rw [hks, show psR f kk n = psR f kk (min kk.length 4) by rw [← hne]]; simp [kRow, encKind, psR, nameA, nameB, encProg]; omega
       have hpl := psR_len f kk (n := n) (by omega)
       simp [go_sem, Wk_eq, hk0, ksR_succ x 0, hkx]
       (try refine leRows_append (.refl _) (.cons (.cons (.refl _) (.cons ?_ (.cons (.refl _) .nil))) .nil))
       refine LeV.frz rfl ?_ ?_ (LeRows.of_eq ?_) <;> simp [mkH, upd, hpl, List.take_of_length_le]
     ·omega
     ·simp [go_sem, Wk_eq, hk0]
     ·simp
    ·obtain ⟨kk, hkk⟩ : ∃ kk, kk = x.ks 1 := ⟨_, rfl⟩
     have hk0 : x.k1 = kk := hkk.symm
     rw [← hkk] at hkl hkv hks
     have hbit : bitU x.f2 1 = decide (andN .u8 (x.f2.fdiv 2) 1 = 1) := by simp [bitU]
     obtain ⟨f, hf⟩ : ∃ f, f = (fun n => madeP n b.next.length K x.rights) := ⟨_, rfl⟩
     have hfp : ∀ n, U8 n → Pure Tryz.prog 136 [.v (.int .u8 n), .v (.int .i64 b.next.length), .v (.int .i64 K), .v (.int .i64 R)] (encProg (f n)) := fun n hn => by
      rw [hf, ← hR]; exact R2Made_pure n _ _ _ hn (by omega) (by omega) (by omega)
     rw [← hf, hbit] at hks
     (repeat (first|with_reducible (first|refine wV fun _=>?_|refine wE ?_)|simp [go_sem, hk0]))
     refine ALoop.start (ALoop.ind (α := Nat) (fun n => ⟨[(1, .ref 0 0 12 0 0), (2, .ref 1 0 9 0 0), (3, .ref 20 0 9 0 0), (4, .v (.int .i64 K)), (5, .v (.int .i64 1)), (6, .ref 35 0 3 0 0), (7, .v (.int .i64 n))],
      [(0, .rows true 0 12 [encRaw x]), (1, .rows true 0 9 [[.v (.int .i64 0), AV.nils, AV.nils, AV.nils, .v (.int .i64 0), .v (.bool false), AV.nils, .v (.int .i64 0), .v (.int .i64 0)]]), (20, .rows true 0 9 [[.v (.int .i64 b.cells), encIss b.next, encIs b.turn, .sl 22 1 3 0 1, .v (.int .i64 R), .v (.bool (decide (x.f1.tmod 4 = 3))), AV.nils, .v (.int .i64 3), .v (.int .i64 2)]]), (22, .rows true 1 3 (ksR x 1)), (35, .rows true 0 3 [[.v (.string ⟨#[98, 101, 101]⟩), .sl 37 n 1 0 n, .v (.bool (decide (andN .u8 (x.f2.fdiv 2) 1 = 1)))]]), (37, .rows true n 1 (psR f kk n))], 38⟩)
      (fun d n => n + d = min kk.length 4) ?_ (min kk.length 4) 0 ?_) ?_ ?_
     ·rintro d n n1 hrec1
      (repeat (first|with_reducible (first|refine wV fun _=>?_|refine wE ?_)|simp [go_sem, hk0]))
      refine aIf.mkL (fun hn => ?_) (fun hn => ?_) <;> simp at hn
      ·have hn1 : n < kk.length := by omega
       have hn2 := hkv _ (nth_mem hn1)
       have hpl := psR_len f kk (n := n) (by omega)
       (repeat (first|with_reducible (first|refine wV fun _=>?_|refine wE ?_)|simp [go_sem, hk0, hn1]))
       refine dCall.plain (hfp _ hn2) (by simp [go_sem]) ?_
       (repeat (first|with_reducible (first|refine wV fun _=>?_|refine wE ?_)|simp [go_sem, hk0, hn1, hpl]))
       refine ALoop.start (hrec1 (d - 1) (by omega) (n + 1) (by omega)) ?_ (by simp)
       simp [go_sem, Wk_eq, hk0, psR_succ f kk hn1]
      ·have hne : n = min kk.length 4 := by omega
       (repeat (first|with_reducible (first|refine wV fun _=>?_|refine wE ?_)|simp [go_sem]))
       refine ALoop.start (hrec (d0 - 1) (by omega) (1 + 1) (by omega)) ?_ (by simp)
       have hkx : kRow (kindOf x 1) = [.v (.string ⟨#[98, 101, 101]⟩), .lst 1 (psR f kk n), .v (.bool (decide (andN .u8 (x.f2.fdiv 2) 1 = 1)))] := by rw [hks, show psR f kk n = psR f kk (min kk.length 4) by rw [← hne]]; simp [kRow, encKind, psR, nameA, nameB, encProg]; omega
       have hpl := psR_len f kk (n := n) (by omega)
       simp [go_sem, Wk_eq, hk0, ksR_succ x 1, hkx]
       (try refine leRows_append (.refl _) (.cons (.cons (.refl _) (.cons ?_ (.cons (.refl _) .nil))) .nil))
       refine LeV.frz rfl ?_ ?_ (LeRows.of_eq ?_) <;> simp [mkH, upd, hpl, List.take_of_length_le]
     ·omega
     ·simp [go_sem, Wk_eq, hk0]
     ·simp
   ·have hiK : i = K := by omega
    subst hiK
    (repeat (first|with_reducible (first|refine wV fun _=>?_|refine wE ?_)|simp [go_sem]))
    refine aIf.mkL (fun hb3 => ?_) (fun hb3 => ?_) <;> simp at hb3 <;> (repeat (first|with_reducible (first|refine wV fun _=>?_|refine wE ?_)|simp [go_sem]))
    all_goals refine aIf.mkL (fun hb4 => ?_) (fun hb4 => ?_) <;> simp at hb4 <;> (repeat (first|with_reducible (first|refine wV fun _=>?_|refine wE ?_)|simp [go_sem]))
    all_goals (
     refine ALoop.start (ALoop.ind (α := Nat) (fun a => ⟨[(1, .ref 0 0 12 0 0), (2, .ref 1 0 9 0 0), (3, .ref 20 0 9 0 0), (4, .v (.int .i64 i)), (8, .v (.int .i64 a))],
      [(0, .rows true 0 12 [encRaw x]), (1, .rows true 0 9 [[.v (.int .i64 0), AV.nils, AV.nils, AV.nils, .v (.int .i64 0), .v (.bool false), AV.nils, .v (.int .i64 0), .v (.int .i64 0)]]), (20, .rows true 0 9 [[.v (.int .i64 b.cells), encIss b.next, encIs b.turn, .sl 22 i 3 0 i, .v (.int .i64 R), .v (.bool (decide (x.f1.tmod 4 = 3))), .sl 23 a 4 0 a, .v (.int .i64 bl), .v (.int .i64 en)]]), (22, .rows true i 3 (ksR x i)), (23, .rows true a 4 (clR b.cells i x.c a))], 24⟩)
      (fun d a => a + d = min x.c.length 3) ?_ (min x.c.length 3) 0 ?_) ?_ ?_
     ·rintro d j j1 hrec2
      (repeat (first|with_reducible (first|refine wV fun _=>?_|refine wE ?_)|simp [go_sem]))
      refine aIf.mkL (fun hj => ?_) (fun hj => ?_) <;> simp at hj
      ·have hj1 : j < x.c.length := by omega
       have hjc := hx.c _ (nth_mem hj1)
       have hpl := clR_len b.cells i x.c (n := j) (by omega)
       have hsu := clR_succ b.cells i x.c hj1
       generalize hcx : nth x.c j = c at *
       obtain ⟨c0, c1, c2⟩ := c
       obtain ⟨u0, u1, u2⟩ := hjc
       obtain ⟨w0, w0'⟩ := qq _ u0
       obtain ⟨v0, v0'⟩ := u0
       obtain ⟨v1, v1'⟩ := u1
       obtain ⟨v2, v2'⟩ := u2
       simp only at v0 v0' v1 v1' v2 v2' w0 w0'
       have t0 := Int.tmod_nonneg 3 v0
       have t1 := Int.tmod_lt_of_pos c0 (show (0 : Int) < 3 by decide)
       have hip : (0 : Int) < i := by omega
       have k0 := Int.tmod_nonneg i v1
       have n0 := Int.tmod_nonneg b.cells v2
       have n1 := Int.tmod_nonneg 3 v2
       rcases (show c0.tmod 3 = 0 ∨ c0.tmod 3 = 1 ∨ c0.tmod 3 = 2 by omega) with ht | ht | ht
       ·have hr : cRow (clauseOf b.cells i (c0, c1, c2)) = [.v (.int .i64 1), .v (.int .i64 (c1.tmod i)), .v (.int .i64 0), .v (.int .i64 (1 + (c0.tdiv 4).tmod 3))] := by simp [cRow, clauseOf, encClause, ht]
        (repeat (first|with_reducible (first|refine wV fun _=>?_|refine wE ?_)|simp [go_sem, hj1, hcx, ht, hpl]))
        refine ALoop.start (hrec2 (d - 1) (by omega) (j + 1) (by omega)) ?_ (by simp)
        simp [go_sem, Wk_eq, hsu, hr]
       ·have hr : cRow (clauseOf b.cells i (c0, c1, c2)) = [.v (.int .i64 2), .v (.int .i64 (c1.tmod i)), .v (.int .i64 (c2.tmod b.cells)), .v (.int .i64 (1 + (c0.tdiv 4).tmod 3))] := by simp [cRow, clauseOf, encClause, ht]
        (repeat (first|with_reducible (first|refine wV fun _=>?_|refine wE ?_)|simp [go_sem, hj1, hcx, ht, hpl]))
        refine ALoop.start (hrec2 (d - 1) (by omega) (j + 1) (by omega)) ?_ (by simp)
        simp [go_sem, Wk_eq, hsu, hr]
       ·have hr : cRow (clauseOf b.cells i (c0, c1, c2)) = [.v (.int .i64 3), .v (.int .i64 0), .v (.int .i64 (c2.tmod 3)), .v (.int .i64 (1 + (c0.tdiv 4).tmod 3))] := by simp [cRow, clauseOf, encClause, ht]
        (repeat (first|with_reducible (first|refine wV fun _=>?_|refine wE ?_)|simp [go_sem, hj1, hcx, ht, hpl]))
        refine ALoop.start (hrec2 (d - 1) (by omega) (j + 1) (by omega)) ?_ (by simp)
        simp [go_sem, Wk_eq, hsu, hr]
      ·have hki : kindsN x = i := by rw [hK2, hK]
       have hjm : j = min x.c.length 3 := by omega
       have htk : x.c.take (min x.c.length 3) = x.c.take 3 := by rw [List.take_eq_take_iff]; omega
       have hpl := clR_len b.cells i x.c (n := j) (by omega)
       have hkl : (ksR x i).length = i := ksR_len x i
       have hcl : clR b.cells i x.c j = ((x.c.take 3).map (clauseOf b.cells i)).map encClause := by unfold clR; rw [hjm, htk]
       have hG : madeG x = { cells := b.cells, next := b.next, turn := b.turn, kinds := (List.range i).map (kindOf x), rights := R, must := decide (x.f1.tmod 4 = 3), clauses := (x.c.take 3).map (clauseOf b.cells i), blocked := bl, endless := en } := by
        unfold madeG; rw [hki, ← hbb, ← hR, ← hbl, ← hen]
       have hEnc : eg = [.v (.int .i64 b.cells), encIss b.next, encIs b.turn, .lst 3 (ksR x i), .v (.int .i64 R), .v (.bool (decide (x.f1.tmod 4 = 3))), .lst 4 (clR b.cells i x.c j), .v (.int .i64 bl), .v (.int .i64 en)] := by
        rw [heg, hG, hcl]; rfl
       (repeat (first|with_reducible (first|refine wV fun _=>?_|refine wE ?_)|simp [go_sem]))
       rw [hEnc]
       refine ⟨.cons (.refl _) (.cons (.refl _) (.cons (.refl _) (.cons (leV_frz rfl (by omega) (by simp [noH]) (by rw [List.drop_zero, List.take_of_length_le (by omega)])) (.cons (.refl _) (.cons (.refl _) (.cons (leV_frz rfl (by omega) (by simp [noH]) (by rw [List.drop_zero, List.take_of_length_le (by omega)])) (.cons (.refl _) (.cons (.refl _) .nil)))))))), ?_⟩
       intro c hc
       simp only [List.mem_cons, List.not_mem_nil, or_false] at hc
       rcases hc with rfl | rfl | rfl | rfl | rfl | rfl | rfl | rfl | rfl
       all_goals first | exact .v _ | simp [go_sem]
     ·omega
     ·simp [go_sem, Wk_eq, hbl, hen, hb3, hb4]
     ·simp)
  ·omega
  ·simp [go_sem, Wk_eq, hK]
  ·simp
 ·have hK2 : kindsN x = 1 := by rw [hKn, if_pos (by simp [hk1])]
  rw [hK2] at hK
  (repeat (first|with_reducible (first|refine wV fun _=>?_|refine wE ?_)|simp [go_sem]))
  refine ALoop.start (ALoop.ind (α := Nat) (fun a => ⟨[(1, .ref 0 0 12 0 0), (2, .ref 1 0 9 0 0), (3, .ref 20 0 9 0 0), (4, .v (.int .i64 K)), (5, .v (.int .i64 a))],
   [(0, .rows true 0 12 [encRaw x]), (1, .rows true 0 9 [[.v (.int .i64 0), AV.nils, AV.nils, AV.nils, .v (.int .i64 0), .v (.bool false), AV.nils, .v (.int .i64 0), .v (.int .i64 0)]]), (20, .rows true 0 9 [[.v (.int .i64 b.cells), encIss b.next, encIs b.turn, .sl 22 a 3 0 a, .v (.int .i64 R), .v (.bool (decide (x.f1.tmod 4 = 3))), AV.nils, .v (.int .i64 3), .v (.int .i64 2)]]), (22, .rows true a 3 (ksR x a))], 23⟩)
   (fun d a => a + d = K) ?_ K 0 ?_) ?_ ?_
  ·rintro d0 i i1 hrec
   (repeat (first|with_reducible (first|refine wV fun _=>?_|refine wE ?_)|simp [go_sem]))
   refine aIf.mkL (fun hi => ?_) (fun hi => ?_) <;> simp at hi
   ·have hi2 : i = 0 ∨ i = 1 := by omega
    have hkl := hKl i
    have hkv := hKv i
    have hks : kindOf x i = ⟨if i = 0 then nameA else nameB, ((x.ks i).take 4).map (fun n => madeP n b.next.length K x.rights), bitU x.f2 i⟩ := by rw [hbb, hK, ← hK2]; rfl
    rcases hi2 with rfl | rfl
    ·obtain ⟨kk, hkk⟩ : ∃ kk, kk = x.ks 0 := ⟨_, rfl⟩
     have hk0 : x.k0 = kk := hkk.symm
     rw [← hkk] at hkl hkv hks
     have hbit : bitU x.f2 0 = decide (andN .u8 x.f2 1 = 1) := by simp [bitU]
     obtain ⟨f, hf⟩ : ∃ f, f = (fun n => madeP n b.next.length K x.rights) := ⟨_, rfl⟩
     have hfp : ∀ n, U8 n → Pure Tryz.prog 136 [.v (.int .u8 n), .v (.int .i64 b.next.length), .v (.int .i64 K), .v (.int .i64 R)] (encProg (f n)) := fun n hn => by
      rw [hf, ← hR]; exact R2Made_pure n _ _ _ hn (by omega) (by omega) (by omega)
     rw [← hf, hbit] at hks
     (repeat (first|with_reducible (first|refine wV fun _=>?_|refine wE ?_)|simp [go_sem, hk0]))
     refine ALoop.start (ALoop.ind (α := Nat) (fun n => ⟨[(1, .ref 0 0 12 0 0), (2, .ref 1 0 9 0 0), (3, .ref 20 0 9 0 0), (4, .v (.int .i64 K)), (5, .v (.int .i64 0)), (6, .ref 35 0 3 0 0), (7, .v (.int .i64 n))],
      [(0, .rows true 0 12 [encRaw x]), (1, .rows true 0 9 [[.v (.int .i64 0), AV.nils, AV.nils, AV.nils, .v (.int .i64 0), .v (.bool false), AV.nils, .v (.int .i64 0), .v (.int .i64 0)]]), (20, .rows true 0 9 [[.v (.int .i64 b.cells), encIss b.next, encIs b.turn, .sl 22 0 3 0 0, .v (.int .i64 R), .v (.bool (decide (x.f1.tmod 4 = 3))), AV.nils, .v (.int .i64 3), .v (.int .i64 2)]]), (22, .rows true 0 3 (ksR x 0)), (35, .rows true 0 3 [[.v (.string ⟨#[97]⟩), .sl 37 n 1 0 n, .v (.bool (decide (andN .u8 x.f2 1 = 1)))]]), (37, .rows true n 1 (psR f kk n))], 38⟩)
      (fun d n => n + d = min kk.length 4) ?_ (min kk.length 4) 0 ?_) ?_ ?_
     ·rintro d n n1 hrec1
      (repeat (first|with_reducible (first|refine wV fun _=>?_|refine wE ?_)|simp [go_sem, hk0]))
      refine aIf.mkL (fun hn => ?_) (fun hn => ?_) <;> simp at hn
      ·have hn1 : n < kk.length := by omega
       have hn2 := hkv _ (nth_mem hn1)
       have hpl := psR_len f kk (n := n) (by omega)
       (repeat (first|with_reducible (first|refine wV fun _=>?_|refine wE ?_)|simp [go_sem, hk0, hn1]))
       refine dCall.plain (hfp _ hn2) (by simp [go_sem]) ?_
       (repeat (first|with_reducible (first|refine wV fun _=>?_|refine wE ?_)|simp [go_sem, hk0, hn1, hpl]))
       refine ALoop.start (hrec1 (d - 1) (by omega) (n + 1) (by omega)) ?_ (by simp)
       simp [go_sem, Wk_eq, hk0, psR_succ f kk hn1]
      ·have hne : n = min kk.length 4 := by omega
       (repeat (first|with_reducible (first|refine wV fun _=>?_|refine wE ?_)|simp [go_sem]))
       refine ALoop.start (hrec (d0 - 1) (by omega) (0 + 1) (by omega)) ?_ (by simp)
       have hkx : kRow (kindOf x 0) = [.v (.string ⟨#[97]⟩), .lst 1 (psR f kk n), .v (.bool (decide (andN .u8 x.f2 1 = 1)))] := by rw [hks, show psR f kk n = psR f kk (min kk.length 4) by rw [← hne]]; simp [kRow, encKind, psR, nameA, nameB, encProg]; omega
       have hpl := psR_len f kk (n := n) (by omega)
       simp [go_sem, Wk_eq, hk0, ksR_succ x 0, hkx]
       (try refine leRows_append (.refl _) (.cons (.cons (.refl _) (.cons ?_ (.cons (.refl _) .nil))) .nil))
       refine LeV.frz rfl ?_ ?_ (LeRows.of_eq ?_) <;> simp [mkH, upd, hpl, List.take_of_length_le]
     ·omega
     ·simp [go_sem, Wk_eq, hk0]
     ·simp
    ·obtain ⟨kk, hkk⟩ : ∃ kk, kk = x.ks 1 := ⟨_, rfl⟩
     have hk0 : x.k1 = kk := hkk.symm
     rw [← hkk] at hkl hkv hks
     have hbit : bitU x.f2 1 = decide (andN .u8 (x.f2.fdiv 2) 1 = 1) := by simp [bitU]
     obtain ⟨f, hf⟩ : ∃ f, f = (fun n => madeP n b.next.length K x.rights) := ⟨_, rfl⟩
     have hfp : ∀ n, U8 n → Pure Tryz.prog 136 [.v (.int .u8 n), .v (.int .i64 b.next.length), .v (.int .i64 K), .v (.int .i64 R)] (encProg (f n)) := fun n hn => by
      rw [hf, ← hR]; exact R2Made_pure n _ _ _ hn (by omega) (by omega) (by omega)
     rw [← hf, hbit] at hks
     (repeat (first|with_reducible (first|refine wV fun _=>?_|refine wE ?_)|simp [go_sem, hk0]))
     refine ALoop.start (ALoop.ind (α := Nat) (fun n => ⟨[(1, .ref 0 0 12 0 0), (2, .ref 1 0 9 0 0), (3, .ref 20 0 9 0 0), (4, .v (.int .i64 K)), (5, .v (.int .i64 1)), (6, .ref 35 0 3 0 0), (7, .v (.int .i64 n))],
      [(0, .rows true 0 12 [encRaw x]), (1, .rows true 0 9 [[.v (.int .i64 0), AV.nils, AV.nils, AV.nils, .v (.int .i64 0), .v (.bool false), AV.nils, .v (.int .i64 0), .v (.int .i64 0)]]), (20, .rows true 0 9 [[.v (.int .i64 b.cells), encIss b.next, encIs b.turn, .sl 22 1 3 0 1, .v (.int .i64 R), .v (.bool (decide (x.f1.tmod 4 = 3))), AV.nils, .v (.int .i64 3), .v (.int .i64 2)]]), (22, .rows true 1 3 (ksR x 1)), (35, .rows true 0 3 [[.v (.string ⟨#[98, 101, 101]⟩), .sl 37 n 1 0 n, .v (.bool (decide (andN .u8 (x.f2.fdiv 2) 1 = 1)))]]), (37, .rows true n 1 (psR f kk n))], 38⟩)
      (fun d n => n + d = min kk.length 4) ?_ (min kk.length 4) 0 ?_) ?_ ?_
     ·rintro d n n1 hrec1
      (repeat (first|with_reducible (first|refine wV fun _=>?_|refine wE ?_)|simp [go_sem, hk0]))
      refine aIf.mkL (fun hn => ?_) (fun hn => ?_) <;> simp at hn
      ·have hn1 : n < kk.length := by omega
       have hn2 := hkv _ (nth_mem hn1)
       have hpl := psR_len f kk (n := n) (by omega)
       (repeat (first|with_reducible (first|refine wV fun _=>?_|refine wE ?_)|simp [go_sem, hk0, hn1]))
       refine dCall.plain (hfp _ hn2) (by simp [go_sem]) ?_
       (repeat (first|with_reducible (first|refine wV fun _=>?_|refine wE ?_)|simp [go_sem, hk0, hn1, hpl]))
       refine ALoop.start (hrec1 (d - 1) (by omega) (n + 1) (by omega)) ?_ (by simp)
       simp [go_sem, Wk_eq, hk0, psR_succ f kk hn1]
      ·have hne : n = min kk.length 4 := by omega
       (repeat (first|with_reducible (first|refine wV fun _=>?_|refine wE ?_)|simp [go_sem]))
       refine ALoop.start (hrec (d0 - 1) (by omega) (1 + 1) (by omega)) ?_ (by simp)
       have hkx : kRow (kindOf x 1) = [.v (.string ⟨#[98, 101, 101]⟩), .lst 1 (psR f kk n), .v (.bool (decide (andN .u8 (x.f2.fdiv 2) 1 = 1)))] := by rw [hks, show psR f kk n = psR f kk (min kk.length 4) by rw [← hne]]; simp [kRow, encKind, psR, nameA, nameB, encProg]; omega
       have hpl := psR_len f kk (n := n) (by omega)
       simp [go_sem, Wk_eq, hk0, ksR_succ x 1, hkx]
       (try refine leRows_append (.refl _) (.cons (.cons (.refl _) (.cons ?_ (.cons (.refl _) .nil))) .nil))
       refine LeV.frz rfl ?_ ?_ (LeRows.of_eq ?_) <;> simp [mkH, upd, hpl, List.take_of_length_le]
     ·omega
     ·simp [go_sem, Wk_eq, hk0]
     ·simp
   ·have hiK : i = K := by omega
    subst hiK
    (repeat (first|with_reducible (first|refine wV fun _=>?_|refine wE ?_)|simp [go_sem]))
    refine aIf.mkL (fun hb3 => ?_) (fun hb3 => ?_) <;> simp at hb3 <;> (repeat (first|with_reducible (first|refine wV fun _=>?_|refine wE ?_)|simp [go_sem]))
    all_goals refine aIf.mkL (fun hb4 => ?_) (fun hb4 => ?_) <;> simp at hb4 <;> (repeat (first|with_reducible (first|refine wV fun _=>?_|refine wE ?_)|simp [go_sem]))
    all_goals (
     refine ALoop.start (ALoop.ind (α := Nat) (fun a => ⟨[(1, .ref 0 0 12 0 0), (2, .ref 1 0 9 0 0), (3, .ref 20 0 9 0 0), (4, .v (.int .i64 i)), (8, .v (.int .i64 a))],
      [(0, .rows true 0 12 [encRaw x]), (1, .rows true 0 9 [[.v (.int .i64 0), AV.nils, AV.nils, AV.nils, .v (.int .i64 0), .v (.bool false), AV.nils, .v (.int .i64 0), .v (.int .i64 0)]]), (20, .rows true 0 9 [[.v (.int .i64 b.cells), encIss b.next, encIs b.turn, .sl 22 i 3 0 i, .v (.int .i64 R), .v (.bool (decide (x.f1.tmod 4 = 3))), .sl 23 a 4 0 a, .v (.int .i64 bl), .v (.int .i64 en)]]), (22, .rows true i 3 (ksR x i)), (23, .rows true a 4 (clR b.cells i x.c a))], 24⟩)
      (fun d a => a + d = min x.c.length 3) ?_ (min x.c.length 3) 0 ?_) ?_ ?_
     ·rintro d j j1 hrec2
      (repeat (first|with_reducible (first|refine wV fun _=>?_|refine wE ?_)|simp [go_sem]))
      refine aIf.mkL (fun hj => ?_) (fun hj => ?_) <;> simp at hj
      ·have hj1 : j < x.c.length := by omega
       have hjc := hx.c _ (nth_mem hj1)
       have hpl := clR_len b.cells i x.c (n := j) (by omega)
       have hsu := clR_succ b.cells i x.c hj1
       generalize hcx : nth x.c j = c at *
       obtain ⟨c0, c1, c2⟩ := c
       obtain ⟨u0, u1, u2⟩ := hjc
       obtain ⟨w0, w0'⟩ := qq _ u0
       obtain ⟨v0, v0'⟩ := u0
       obtain ⟨v1, v1'⟩ := u1
       obtain ⟨v2, v2'⟩ := u2
       simp only at v0 v0' v1 v1' v2 v2' w0 w0'
       have t0 := Int.tmod_nonneg 3 v0
       have t1 := Int.tmod_lt_of_pos c0 (show (0 : Int) < 3 by decide)
       have hip : (0 : Int) < i := by omega
       have k0 := Int.tmod_nonneg i v1
       have n0 := Int.tmod_nonneg b.cells v2
       have n1 := Int.tmod_nonneg 3 v2
       rcases (show c0.tmod 3 = 0 ∨ c0.tmod 3 = 1 ∨ c0.tmod 3 = 2 by omega) with ht | ht | ht
       ·have hr : cRow (clauseOf b.cells i (c0, c1, c2)) = [.v (.int .i64 1), .v (.int .i64 (c1.tmod i)), .v (.int .i64 0), .v (.int .i64 (1 + (c0.tdiv 4).tmod 3))] := by simp [cRow, clauseOf, encClause, ht]
        (repeat (first|with_reducible (first|refine wV fun _=>?_|refine wE ?_)|simp [go_sem, hj1, hcx, ht, hpl]))
        refine ALoop.start (hrec2 (d - 1) (by omega) (j + 1) (by omega)) ?_ (by simp)
        simp [go_sem, Wk_eq, hsu, hr]
       ·have hr : cRow (clauseOf b.cells i (c0, c1, c2)) = [.v (.int .i64 2), .v (.int .i64 (c1.tmod i)), .v (.int .i64 (c2.tmod b.cells)), .v (.int .i64 (1 + (c0.tdiv 4).tmod 3))] := by simp [cRow, clauseOf, encClause, ht]
        (repeat (first|with_reducible (first|refine wV fun _=>?_|refine wE ?_)|simp [go_sem, hj1, hcx, ht, hpl]))
        refine ALoop.start (hrec2 (d - 1) (by omega) (j + 1) (by omega)) ?_ (by simp)
        simp [go_sem, Wk_eq, hsu, hr]
       ·have hr : cRow (clauseOf b.cells i (c0, c1, c2)) = [.v (.int .i64 3), .v (.int .i64 0), .v (.int .i64 (c2.tmod 3)), .v (.int .i64 (1 + (c0.tdiv 4).tmod 3))] := by simp [cRow, clauseOf, encClause, ht]
        (repeat (first|with_reducible (first|refine wV fun _=>?_|refine wE ?_)|simp [go_sem, hj1, hcx, ht, hpl]))
        refine ALoop.start (hrec2 (d - 1) (by omega) (j + 1) (by omega)) ?_ (by simp)
        simp [go_sem, Wk_eq, hsu, hr]
      ·have hki : kindsN x = i := by rw [hK2, hK]
       have hjm : j = min x.c.length 3 := by omega
       have htk : x.c.take (min x.c.length 3) = x.c.take 3 := by rw [List.take_eq_take_iff]; omega
       have hpl := clR_len b.cells i x.c (n := j) (by omega)
       have hkl : (ksR x i).length = i := ksR_len x i
       have hcl : clR b.cells i x.c j = ((x.c.take 3).map (clauseOf b.cells i)).map encClause := by unfold clR; rw [hjm, htk]
       have hG : madeG x = { cells := b.cells, next := b.next, turn := b.turn, kinds := (List.range i).map (kindOf x), rights := R, must := decide (x.f1.tmod 4 = 3), clauses := (x.c.take 3).map (clauseOf b.cells i), blocked := bl, endless := en } := by
        unfold madeG; rw [hki, ← hbb, ← hR, ← hbl, ← hen]
       have hEnc : eg = [.v (.int .i64 b.cells), encIss b.next, encIs b.turn, .lst 3 (ksR x i), .v (.int .i64 R), .v (.bool (decide (x.f1.tmod 4 = 3))), .lst 4 (clR b.cells i x.c j), .v (.int .i64 bl), .v (.int .i64 en)] := by
        rw [heg, hG, hcl]; rfl
       (repeat (first|with_reducible (first|refine wV fun _=>?_|refine wE ?_)|simp [go_sem]))
       rw [hEnc]
       refine ⟨.cons (.refl _) (.cons (.refl _) (.cons (.refl _) (.cons (leV_frz rfl (by omega) (by simp [noH]) (by rw [List.drop_zero, List.take_of_length_le (by omega)])) (.cons (.refl _) (.cons (.refl _) (.cons (leV_frz rfl (by omega) (by simp [noH]) (by rw [List.drop_zero, List.take_of_length_le (by omega)])) (.cons (.refl _) (.cons (.refl _) .nil)))))))), ?_⟩
       intro c hc
       simp only [List.mem_cons, List.not_mem_nil, or_false] at hc
       rcases hc with rfl | rfl | rfl | rfl | rfl | rfl | rfl | rfl | rfl
       all_goals first | exact .v _ | simp [go_sem]
     ·omega
     ·simp [go_sem, Wk_eq, hbl, hen, hb3, hb4]
     ·simp)
  ·omega
  ·simp [go_sem, Wk_eq, hK]
  ·simp
end Go.Av
end
section
/- Contracts, positions: Made of the reference. -/
open Go Go.Proofs
namespace Go.Av
theorem R4Made_pure (g : GameD) (hg : GOk g) (x : RawP) (hx : RawPOk x) : Pure Tryz.prog 21 [.agg (encGame g), .agg (encRawP x)] (.agg (encPos (madePos g x))) := by
 refine pF Tryz.func21 ?_
 obtain ⟨q, hq⟩ : ∃ q, q = madePos g x := ⟨_, rfl⟩
 have hrow := rawRow hx
 obtain ⟨er, her⟩ : ∃ er, er = encRawP x := ⟨_, rfl⟩
 rw [← hq, ← her]
 rw [← her] at hrow
 obtain ⟨rl, rc, rk, rh, rr, rs, rb⟩ := hrow
 have c1 := hg.c1
 have c9 := hg.c9
 have k1 := hg.k1
 have k6 := hg.k6
 have hr0 := hg.r0
 have hr4 := hg.r4
 obtain ⟨gc, hgc⟩ : ∃ gc : Nat, g.cells = gc := ⟨g.cells.toNat, by omega⟩
 have hpow : (1 : Int) ≤ 2 ^ g.rights.toNat ∧ (2 : Int) ^ g.rights.toNat ≤ 16 := by
  rcases (show g.rights.toNat = 0 ∨ g.rights.toNat = 1 ∨ g.rights.toNat = 2 ∨ g.rights.toNat = 3 ∨ g.rights.toNat = 4 by omega) with h | h | h | h | h <;> rw [h] <;> decide
 have hrt := hx.r
 have hsd := hx.s
 obtain ⟨rt, hrt'⟩ : ∃ rt, x.rights = rt := ⟨_, rfl⟩
 obtain ⟨pw, hpw⟩ : ∃ pw : Int, (2 : Int) ^ g.rights.toNat = pw := ⟨_, rfl⟩
 have r1 : 0 ≤ x.rights ∧ x.rights ≤ 255 := hx.r
 have s1 : 0 ≤ x.side ∧ x.side ≤ 255 := hx.s
 have s0 := Int.tmod_nonneg 2 s1.1
 have s2 := Int.tmod_lt_of_pos x.side (show (0 : Int) < 2 by decide)
 rw [hpw] at hpow
 generalize heg : encGame g = eg at *
 have hel : eg.length = 9 := by rw [← heg]; rfl
 have hbl : ∀ n, (∀ c' ∈ eg, Bel n c') = True := fun n => by rw [← heg]; simp [go_sem]
 have e0 : cel eg 0 = .v (.int .i64 g.cells) := by rw [← heg]; rfl
 have e3 : cel eg 3 = .lst 3 (g.kinds.map encKind) := by rw [← heg]; rfl
 have e4 : cel eg 4 = .v (.int .i64 g.rights) := by rw [← heg]; rfl
 (repeat (first|with_reducible (first|refine wV fun _=>?_|refine wE ?_)|simp [go_sem, hel, e0, e3, e4, rl, rr, rs, rb, hbl, hpw]))
 have hcz : g.cells.toNat = gc := by omega
 have hkne : g.kinds ≠ [] := by intro h; rw [h] at k1; simp at k1
 have hz : List.replicate gc [AV.v (.int .i64 0)] = (madeAt g x 0).map encI := by simp [madeAt, hcz, encI]
 refine ALoop.start (ALoop.ind (α := Nat) (fun i => ⟨[(2, .ref 0 0 9 0 0), (3, .ref 1 0 18 0 0), (4, .ref 2 0 5 0 0), (5, .ref 19 0 5 0 0), (6, .v (.int .i64 i))], [(0, .rows true 0 9 [eg]), (1, .rows true 0 18 [er]), (2, .rows true 0 5 [[AV.nils, AV.nils, AV.nils, .v (.int .i64 0), .v (.int .i64 0)]]), (6, .rows true 0 1 ((madeAt g x i).map encI)), (19, .rows true 0 5 [[.sl 6 0 1 0 gc, AV.nils, AV.nils, .v (.int .i64 (x.rights.tmod pw)), .v (.int .i64 (x.side.tmod 2))]])], 21⟩)
  (fun d i => i + d = 6) ?_ 6 0 ?_) ?_ ?_
 ·rintro d i i1 hrec
  (repeat (first|with_reducible (first|refine wV fun _=>?_|refine wE ?_)|simp [go_sem]))
  refine aIf.mkL (fun hi => ?_) (fun hi => ?_) <;> simp at hi
  ·have hci := hx.cv _ (nth_mem (l := x.cell) (i := i) (by rw [hx.c6]; omega))
   have hki := hx.kv _ (nth_mem (l := x.kind) (i := i) (by rw [hx.k6]; omega))
   have hci' : 0 ≤ nth x.cell i ∧ nth x.cell i ≤ 255 := hci
   have hki' : 0 ≤ nth x.kind i ∧ nth x.kind i ≤ 255 := hki
   have m0 := Int.tmod_nonneg (g.cells + 1) hci'.1
   have m1 := Int.tmod_nonneg (g.kinds.length : Int) hki'.1
   have m2 := Int.tmod_lt_of_pos (nth x.kind i) (show (0 : Int) < g.kinds.length by omega)
   have m3 := Int.tmod_nonneg 2 (show (0 : Int) ≤ i by omega)
   have m4 := Int.tmod_lt_of_pos (i : Int) (show (0 : Int) < 2 by decide)
   have hrc := rc i (by omega)
   have hrk := rk i (by omega)
   have hsu := madeAt_succ g x i
   have hal := madeAt_len g x i
   rw [hcz] at hal
   unfold atStep at hsu
   (repeat (first|with_reducible (first|refine wV fun _=>?_|refine wE ?_)|simp [go_sem, hel, e0, e3, e4, hrc, hrk]))
   refine aIf.mkL (fun hc => ?_) (fun hc => ?_) <;> simp at hc
   ·have hc1 := hc.1
    rw [if_pos hc1] at hsu
    (repeat (first|with_reducible (first|refine wV fun _=>?_|refine wE ?_)|simp [go_sem, hel, e0, e3, e4, hrc, hrk, hal]))
    refine ALoop.start (hrec (d - 1) (by omega) (i + 1) (by omega)) ?_ (by simp)
    simp [go_sem, Wk_eq, hsu, rb, hbl]
   ·have hc1 : ¬ (nth x.cell i).tmod (g.cells + 1) < g.cells := fun h => hkne (hc h)
    rw [if_neg hc1] at hsu
    (repeat (first|with_reducible (first|refine wV fun _=>?_|refine wE ?_)|simp [go_sem, hel, e0, e3, e4, hrc, hrk]))
    refine ALoop.start (hrec (d - 1) (by omega) (i + 1) (by omega)) ?_ (by simp)
    simp [go_sem, Wk_eq, hsu, rb, hbl]
  ·obtain rfl : i = 6 := by omega
   have hal := madeAt_len g x 6
   rw [hcz] at hal
   have hqe : q = ⟨madeAt g x 6, handL g x 0 (min g.kinds.length 2), handL g x 1 (min g.kinds.length 2), x.rights.tmod pw, x.side.tmod 2⟩ := by rw [hq, ← hpw]; rfl
   clear hq
   have hq := hqe
   (repeat (first|with_reducible (first|refine wV fun _=>?_|refine wE ?_)|simp [go_sem, hel, e0, e3, e4]))
   refine ALoop.unroll ?_
   (repeat (first|with_reducible (first|refine wV fun _=>?_|refine wE ?_)|simp [go_sem, hel, e0, e3, e4]))
   have hz0 := handL_zero g x 0
   refine ALoop.start (ALoop.ind (α := Nat) (fun k => ⟨[(2, .ref 0 0 9 0 0), (3, .ref 1 0 18 0 0), (4, .ref 2 0 5 0 0), (5, .ref 19 0 5 0 0), (8, .v (.int .i64 0)), (9, .v (.int .i64 k))], [(0, .rows true 0 9 [eg]), (1, .rows true 0 18 [er]), (2, .rows true 0 5 [[AV.nils, AV.nils, AV.nils, .v (.int .i64 0), .v (.int .i64 0)]]), (6, .rows true 0 1 ((madeAt g x 6).map encI)), (19, .rows true 0 5 [[.sl 6 0 1 0 gc, .sl 21 0 1 0 g.kinds.length, AV.nils, .v (.int .i64 (x.rights.tmod pw)), .v (.int .i64 (x.side.tmod 2))]]), (21, .rows true 0 1 ((handL g x 0 k).map encI))], 22⟩)
    (fun d k => k + d = min g.kinds.length 2) ?_ (min g.kinds.length 2) 0 ?_) ?_ ?_
   ·rintro d k j1 hrec0
    (repeat (first|with_reducible (first|refine wV fun _=>?_|refine wE ?_)|simp [go_sem, hel, e0, e3, e4]))
    refine aIf.mkL (fun hj => ?_) (fun hj => ?_) <;> simp at hj
    ·have hk2 : k < 2 := by omega
     have hkk : k < g.kinds.length := by omega
     have hhv := hx.hv _ (nth_mem (l := x.hand) (i := 2 * 0 + k) (by rw [hx.h4]; omega))
     have hh1 : 0 ≤ nth x.hand (2 * 0 + k) ∧ nth x.hand (2 * 0 + k) ≤ 255 := hhv
     have hrh := rh (2 * 0 + k) (by omega)
     have m0 := Int.tmod_nonneg 3 hh1.1
     have hsu := handL_succ g x 0 k
     have hsk := handL_skip g x 0 k
     have hhl := handL_len g x 0 k
     have hV : handV g x 0 k = if (nth g.kinds k).keep = true then (if 250 < nth x.hand (2 * 0 + k) then 8 else (nth x.hand (2 * 0 + k)).tmod 3) else 0 := rfl
     simp only [Nat.mul_zero, Nat.zero_add, Nat.mul_one] at hrh hh1 m0 hV
     (repeat (first|with_reducible (first|refine wV fun _=>?_|refine wE ?_)|simp [go_sem, hel, e0, e3, e4, hkk]))
     refine aIf.mkL (fun hkeep => ?_) (fun hkeep => ?_)
     ·rw [if_pos hkeep] at hV
      have eI : ((k : Int)).toNat = k := by omega
      have eI2 : (k : Int) < 4 := by omega
      (repeat (first|with_reducible (first|refine wV fun _=>?_|refine wE ?_)|simp [go_sem, hel, e0, e3, e4, hkk, hrh, hhl, eI, eI2]))
      refine aIf.mkL (fun hbig => ?_) (fun hbig => ?_) <;> simp at hbig
      ·rw [if_pos hbig] at hV
       rw [hV] at hsu
       (repeat (first|with_reducible (first|refine wV fun _=>?_|refine wE ?_)|simp [go_sem, hel, e0, e3, e4, hkk, hrh, hhl]))
       refine ALoop.start (hrec0 (d - 1) (by omega) (k + 1) (by omega)) ?_ (by simp)
       simp [go_sem, Wk_eq, hsu, rb, hbl]
      ·rw [if_neg (by omega)] at hV
       rw [hV] at hsu
       (repeat (first|with_reducible (first|refine wV fun _=>?_|refine wE ?_)|simp [go_sem, hel, e0, e3, e4, hkk, hrh, hhl]))
       refine ALoop.start (hrec0 (d - 1) (by omega) (k + 1) (by omega)) ?_ (by simp)
       simp [go_sem, Wk_eq, hsu, rb, hbl]
     ·rw [if_neg (by simpa using hkeep)] at hV
      have hsk' := hsk hV
      (repeat (first|with_reducible (first|refine wV fun _=>?_|refine wE ?_)|simp [go_sem, hel, e0, e3, e4]))
      refine ALoop.start (hrec0 (d - 1) (by omega) (k + 1) (by omega)) ?_ (by simp)
      simp [go_sem, Wk_eq, hsk', rb, hbl]
    ·have hkm : k = min g.kinds.length 2 := by omega
     subst hkm
     (repeat (first|with_reducible (first|refine wV fun _=>?_|refine wE ?_)|simp [go_sem, hel, e0, e3, e4]))
     refine ALoop.unroll ?_
     (repeat (first|with_reducible (first|refine wV fun _=>?_|refine wE ?_)|simp [go_sem, hel, e0, e3, e4]))
     have hz1 := handL_zero g x 1
     refine ALoop.start (ALoop.ind (α := Nat) (fun k => ⟨[(2, .ref 0 0 9 0 0), (3, .ref 1 0 18 0 0), (4, .ref 2 0 5 0 0), (5, .ref 19 0 5 0 0), (8, .v (.int .i64 1)), (9, .v (.int .i64 k))], [(0, .rows true 0 9 [eg]), (1, .rows true 0 18 [er]), (2, .rows true 0 5 [[AV.nils, AV.nils, AV.nils, .v (.int .i64 0), .v (.int .i64 0)]]), (6, .rows true 0 1 ((madeAt g x 6).map encI)), (19, .rows true 0 5 [[.sl 6 0 1 0 gc, .sl 21 0 1 0 g.kinds.length, .sl 22 0 1 0 g.kinds.length, .v (.int .i64 (x.rights.tmod pw)), .v (.int .i64 (x.side.tmod 2))]]), (21, .rows true 0 1 ((handL g x 0 (min g.kinds.length 2)).map encI)), (22, .rows true 0 1 ((handL g x 1 k).map encI))], 23⟩)
      (fun d k => k + d = min g.kinds.length 2) ?_ (min g.kinds.length 2) 0 ?_) ?_ ?_
     ·rintro d k j1 hrec1
      (repeat (first|with_reducible (first|refine wV fun _=>?_|refine wE ?_)|simp [go_sem, hel, e0, e3, e4]))
      refine aIf.mkL (fun hj => ?_) (fun hj => ?_) <;> simp at hj
      ·have hk2 : k < 2 := by omega
       have hkk : k < g.kinds.length := by omega
       have hhv := hx.hv _ (nth_mem (l := x.hand) (i := 2 * 1 + k) (by rw [hx.h4]; omega))
       have hh1 : 0 ≤ nth x.hand (2 * 1 + k) ∧ nth x.hand (2 * 1 + k) ≤ 255 := hhv
       have hrh := rh (2 * 1 + k) (by omega)
       have m0 := Int.tmod_nonneg 3 hh1.1
       have hsu := handL_succ g x 1 k
       have hsk := handL_skip g x 1 k
       have hhl := handL_len g x 1 k
       have hV : handV g x 1 k = if (nth g.kinds k).keep = true then (if 250 < nth x.hand (2 * 1 + k) then 8 else (nth x.hand (2 * 1 + k)).tmod 3) else 0 := rfl
       simp only [Nat.mul_zero, Nat.zero_add, Nat.mul_one] at hrh hh1 m0 hV
       (repeat (first|with_reducible (first|refine wV fun _=>?_|refine wE ?_)|simp [go_sem, hel, e0, e3, e4, hkk]))
       refine aIf.mkL (fun hkeep => ?_) (fun hkeep => ?_)
       ·rw [if_pos hkeep] at hV
        have eI : (2 + (k : Int)).toNat = 2 + k := by omega
        have eI2 : 2 + (k : Int) < 4 := by omega
        (repeat (first|with_reducible (first|refine wV fun _=>?_|refine wE ?_)|simp [go_sem, hel, e0, e3, e4, hkk, hrh, hhl, eI, eI2]))
        refine aIf.mkL (fun hbig => ?_) (fun hbig => ?_) <;> simp at hbig
        ·rw [if_pos hbig] at hV
         rw [hV] at hsu
         (repeat (first|with_reducible (first|refine wV fun _=>?_|refine wE ?_)|simp [go_sem, hel, e0, e3, e4, hkk, hrh, hhl]))
         refine ALoop.start (hrec1 (d - 1) (by omega) (k + 1) (by omega)) ?_ (by simp)
         simp [go_sem, Wk_eq, hsu, rb, hbl]
        ·rw [if_neg (by omega)] at hV
         rw [hV] at hsu
         (repeat (first|with_reducible (first|refine wV fun _=>?_|refine wE ?_)|simp [go_sem, hel, e0, e3, e4, hkk, hrh, hhl]))
         refine ALoop.start (hrec1 (d - 1) (by omega) (k + 1) (by omega)) ?_ (by simp)
         simp [go_sem, Wk_eq, hsu, rb, hbl]
       ·rw [if_neg (by simpa using hkeep)] at hV
        have hsk' := hsk hV
        (repeat (first|with_reducible (first|refine wV fun _=>?_|refine wE ?_)|simp [go_sem, hel, e0, e3, e4]))
        refine ALoop.start (hrec1 (d - 1) (by omega) (k + 1) (by omega)) ?_ (by simp)
        simp [go_sem, Wk_eq, hsk', rb, hbl]
      ·have hkm : k = min g.kinds.length 2 := by omega
       subst hkm
       (repeat (first|with_reducible (first|refine wV fun _=>?_|refine wE ?_)|simp [go_sem, hel, e0, e3, e4]))
       (repeat (first|with_reducible (first|refine wV fun _=>?_|refine wE ?_)|simp [go_sem, hel, e0, e3, e4]))
       refine ALoop.unroll ?_
       (repeat (first|with_reducible (first|refine wV fun _=>?_|refine wE ?_)|simp [go_sem, hel, e0, e3, e4]))
       rw [hq]
       exact ⟨leV_frz rfl (by simp [hal]) (by simp [noH]) (by simp [List.take_of_length_le, hal]), leV_frz rfl (by simp [handL_len]) (by simp [noH]) (by simp [List.take_of_length_le, handL_len]), leV_frz rfl (by simp [handL_len]) (by simp [noH]) (by simp [List.take_of_length_le, handL_len]), .refl _, .refl _⟩
     ·omega
     ·simp [go_sem, Wk_eq, rb, hbl, hz1]
     ·simp
   ·omega
   ·simp [go_sem, Wk_eq, rb, hbl, hz0]
   ·simp
 ·rfl
 ·simp [go_sem, Wk_eq, rb, hbl, hz, hcz]
 ·simp
end Go.Av
end
section
/- Contracts, moves: Walk, Made of the reference. -/
open Go Go.Proofs
namespace Go.Av
theorem R6Walk_pure (g : GameD) (hg : GOk g) (p : PosD) (hp : POk g p) (picks : List Int) (hl : picks.length ≤ 4294967296) (hk : ∀ k ∈ picks, 0 ≤ k ∧ k ≤ 9223372036854775807) :
    Pure Tryz.prog 20 [.agg (encGame g), .agg (encPos p), encIs picks] (encPs (walkP g p picks)) := by
  refine pF Tryz.func20 ?_
  generalize hR : walkP g p picks = R
  (repeat (first|with_reducible (first|refine wV fun _=>?_|refine wE ?_)|simp [go_sem]))
  refine ALoop.start (ALoop.ind (α := Nat × List PosD × PosD) (fun a => ⟨[(2, encIs picks), (3, .ref 0 0 9 0 0), (4, .ref 1 0 5 0 0), (7, .sl 2 a.2.1.length 5 0 (a.2.1.length + 1)), (8, .v (.int .i64 a.1))], [(0, .rows true 0 9 [encGame g]), (1, .rows true 0 5 [encPos a.2.2]), (2, .rows true a.2.1.length 5 ((a.2.1 ++ [a.2.2]).map encPos))], 3⟩)
    (fun d a => a.1 + d = picks.length ∧ a.2.1.length = a.1 ∧ POk g a.2.2 ∧ R = a.2.1 ++ walkP g a.2.2 (picks.drop a.1)) ?_ picks.length (0, [], p) ?_) ?_ ?_
  · rintro d ⟨i, pre, cur⟩ ⟨i1, i2, i3, i4⟩ hrec
    simp only at i1 i2 i3 i4
    (repeat (first|with_reducible (first|refine wV fun _=>?_|refine wE ?_)|simp [go_sem]))
    refine aIf.mkL (fun hi => ?_) (fun hi => ?_) <;> simp at hi
    · have hM := R6Moves_pure g hg cur i3
      have hki := hk _ (nth_mem hi)
      have hml := movesP_len hg i3
      have hmo := movesP_ok hg i3
      rw [dropG_cons hi, walkP] at i4
      generalize movesP g cur = l at *
      (repeat (first|with_reducible (first|refine wV fun _=>?_|refine wE ?_)|simp [go_sem]))
      refine ACallP.plain hM (by simp [go_sem]) ?_
      (repeat (first|with_reducible (first|refine wV fun _=>?_|refine wE ?_)|simp [go_sem]))
      by_cases hz : l = []
      · rw [if_pos hz] at i4
        subst hz
        (repeat (first|with_reducible (first|refine wV fun _=>?_|refine wE ?_)|simp [go_sem]))
        rw [i4]
        exact frX
      · rw [if_neg hz] at i4
        have hlp : 0 < l.length := List.length_pos_iff.2 hz
        have e1 : (nth picks i).tmod l.length = (nth picks i).emod l.length := Int.tmod_eq_emod_of_nonneg hki.1
        have e2 : 0 ≤ (nth picks i).emod l.length := Int.emod_nonneg _ (by omega)
        have e3 : (nth picks i).emod l.length < l.length := Int.emod_lt_of_pos _ (by omega)
        generalize (nth picks i).emod l.length = j at *
        have hjl : j.toNat < l.length := by omega
        (repeat (first|with_reducible (first|refine wV fun _=>?_|refine wE ?_)|simp [go_sem, hi, hz, e1, hjl]))
        (refine aIf.mkL (fun hF => by first | omega | (simp at hF; omega)) (fun hF => ?_); clear hF)
        (repeat (first|with_reducible (first|refine wV fun _=>?_|refine wE ?_)|simp [go_sem, hjl]))
        refine ALoop.start (hrec (d - 1) (by omega) (i + 1, pre ++ [cur], nth l j.toNat) ⟨by simp only; omega, by simp; omega, (hmo _ (nth_mem hjl)).1, by simpa using i4⟩) ?_ (by simp)
        simp [go_sem, Wk_eq]
    · rw [List.drop_eq_nil_of_le hi, walkP] at i4
      (repeat (first|with_reducible (first|refine wV fun _=>?_|refine wE ?_)|simp [go_sem]))
      rw [i4]
      exact frX
  · exact ⟨by simp, rfl, hp, by simp [hR]⟩
  · simp [go_sem, Wk_eq]
  · simp
structure Raw6 where
  g : RawG
  p : RawP
  picks : List Int
structure Raw6Ok (x : Raw6) : Prop where
  g : RawOk x.g
  p : RawPOk x.p
  k : ∀ n ∈ x.picks, U8 n
  lk : x.picks.length ≤ 1099511627776
  l0 : x.g.k0.length ≤ 1099511627776
  l1 : x.g.k1.length ≤ 1099511627776
  lc : x.g.c.length ≤ 1099511627776
def encRaw6 (x : Raw6) : List AV := encRaw x.g ++ (encRawP x.p ++ [encUs x.picks])
def game6 (x : Raw6) : GameD := madeG x.g
def walk6 (x : Raw6) : List PosD := walkP (game6 x) (madePos (game6 x) x.p) (x.picks.take 6)
def pos6 (x : Raw6) : PosD := nth (walk6 x) ((walk6 x).length - 1)
theorem game6_ok {x : Raw6} (hx : Raw6Ok x) : GOk (game6 x) := madeG_ok hx.g
theorem pos6_ok {x : Raw6} (hx : Raw6Ok x) : POk (game6 x) (pos6 x) := by
  have hne := List.length_pos_iff.2 (walkP_ne (game6 x) (madePos (game6 x) x.p) (x.picks.take 6))
  exact walkP_ok (game6_ok hx) _ (madePos_ok (game6_ok hx) hx.p) _ (nth_mem (by unfold walk6; omega))
theorem R6Made_pure (x : Raw6) (hx : Raw6Ok x) : Pure Tryz.prog 15 [.agg (encRaw6 x)] (.tup [.agg (encGame (game6 x)), .agg (encPos (pos6 x))]) := by
  refine pF Tryz.func15 ?_
  have hg := game6_ok hx
  have hG := R3Made_pure x.g hx.g hx.lc hx.l0 hx.l1
  have hP := R4Made_pure (game6 x) hg x.p hx.p
  have hlk := hx.lk
  have hW := R6Walk_pure (game6 x) hg (madePos (game6 x) x.p) (madePos_ok hg hx.p) (x.picks.take 6) (by simp; omega) (fun k hk => by have := hx.k k (List.mem_of_mem_take hk); have h0 := this.1; have h1 := this.2; omega)
  have hwl := walkP_len (game6 x) (x.picks.take 6) (madePos (game6 x) x.p)
  have hwp := List.length_pos_iff.2 (walkP_ne (game6 x) (madePos (game6 x) x.p) (x.picks.take 6))
  rw [show walkP (game6 x) (madePos (game6 x) x.p) (x.picks.take 6) = walk6 x from rfl] at hW hwl hwp
  have hq : pos6 x = nth (walk6 x) ((walk6 x).length - 1) := rfl
  rw [show madeG x.g = game6 x from rfl] at hG
  obtain ⟨eg, heg⟩ : ∃ eg, eg = encGame (game6 x) := ⟨_, rfl⟩
  have hegl : eg.length = 9 := by rw [heg]; rfl
  have hegb : ∀ n, (∀ c ∈ eg, Bel n c) = True := fun n => by rw [heg]; simp [go_sem]
  rw [← heg] at hG hP hW ⊢
  generalize walk6 x = w at *
  generalize pos6 x = q at *
  unfold encRaw6
  have hrow := rawRow hx.p
  obtain ⟨er, her⟩ : ∃ er, er = encRawP x.p := ⟨_, rfl⟩
  rw [← her] at hrow hP ⊢
  obtain ⟨rl, _, _, _, _, _, rb⟩ := hrow
  obtain ⟨er1, her1⟩ : ∃ er1, er1 = encRaw x.g := ⟨_, rfl⟩
  have er1l : er1.length = 12 := by rw [her1]; rfl
  have er1b : ∀ n, (∀ c ∈ er1, Bel n c) = True := fun n => by rw [her1]; simp [go_sem]
  rw [← her1] at hG ⊢
  have hc30 : cel (er1 ++ (er ++ [AV.lst 1 (x.picks.map encU)])) 30 = .lst 1 (x.picks.map encU) := by
    unfold cel
    rw [List.getD_eq_getElem?_getD, List.getElem?_append_right (by omega), List.getElem?_append_right (by omega)]
    simp [er1l, rl]
  have hd12 : List.take 18 (List.drop 12 (er1 ++ (er ++ [AV.lst 1 (x.picks.map encU)]))) = er := by
    rw [← er1l, List.drop_left, ← rl, List.take_left]
  (repeat (first|with_reducible (first|refine wV fun _=>?_|refine wE ?_)|simp [go_sem, rl, rb, er1l, er1b, hegl, hegb]))
  refine ACallP.plain hG (by simp [go_sem, er1b]) ?_
  (repeat (first|with_reducible (first|refine wV fun _=>?_|refine wE ?_)|simp [go_sem, rl, rb, er1l, er1b, hegl, hegb, hc30]))
  obtain ⟨pk, hpk⟩ : ∃ pk : Nat → List Int, ∀ i, pk i = x.picks.take i := ⟨_, fun _ => rfl⟩
  have htl : ∀ i, i ≤ x.picks.length → (pk i).length = i := fun i hi => by rw [hpk]; simp; omega
  have hts : ∀ i, i < x.picks.length → pk (i + 1) = pk i ++ [nth x.picks i] := fun i hi => by rw [hpk, hpk, List.take_add_one, List.getElem?_eq_getElem hi, nth_eq _ _ hi]; rfl
  have hp0 : pk 0 = [] := by rw [hpk]; rfl
  rw [← hpk] at hW
  refine ALoop.start (ALoop.ind (α := Nat) (fun i => ⟨[(1, .ref 0 0 31 0 0), (2, .ref 1 0 9 0 0), (3, .ref 2 0 5 0 0), (4, .ref 3 0 9 0 0), (5, .sl 4 i 1 0 i), (6, .v (.int .i64 i))],
      [(0, .rows true 0 31 [er1 ++ (er ++ [AV.lst 1 (x.picks.map encU)])]), (1, .rows true 0 9 [[.v (.int .i64 0), AV.nils, AV.nils, AV.nils, .v (.int .i64 0), .v (.bool false), AV.nils, .v (.int .i64 0), .v (.int .i64 0)]]),
       (2, .rows true 0 5 [[AV.nils, AV.nils, AV.nils, .v (.int .i64 0), .v (.int .i64 0)]]), (3, .rows true 0 9 [eg]), (4, .rows true i 1 ((pk i).map encI))], 5⟩)
    (fun d i => i + d = min x.picks.length 6) ?_ (min x.picks.length 6) 0 ?_) ?_ ?_
  · rintro d i i1 hrec
    (repeat (first|with_reducible (first|refine wV fun _=>?_|refine wE ?_)|simp [go_sem, rl, rb, er1l, er1b, hegl, hegb, hc30]))
    refine aIf.mkL (fun hi => ?_) (fun hi => ?_) <;> simp at hi
    · have hil : i < x.picks.length := by omega
      have hki := hx.k _ (nth_mem hil)
      have hk0 := hki.1
      have hk1 := hki.2
      have e1 := htl i (by omega)
      have e2 := hts i hil
      (repeat (first|with_reducible (first|refine wV fun _=>?_|refine wE ?_)|simp [go_sem, rl, er1l, hc30, hil, e1]))
      refine ALoop.start (hrec (d - 1) (by omega) (i + 1) (by omega)) ?_ (by simp)
      simp [go_sem, Wk_eq, e2, rb, er1b, hegb]
    · have hil : i = min x.picks.length 6 := by omega
      have e1 := htl i (by omega)
      have e2 : pk i = pk 6 := by rw [hpk, hpk, hil, List.take_eq_take_iff]; omega
      rw [← e2] at hW
      (repeat (first|with_reducible (first|refine wV fun _=>?_|refine wE ?_)|simp [go_sem, rl, rb, er1l, er1b, hegl, hegb, hd12]))
      refine dCall.plain hP (by simp [go_sem, hegb, rb]) ?_
      (repeat (first|with_reducible (first|refine wV fun _=>?_|refine wE ?_)|simp [go_sem, rl, rb, er1l, er1b, hegl, hegb]))
      refine dCall.frz [.agg eg, .agg (encPos (madePos (game6 x) x.p)), encIs (pk i)] _ [4] [(4, some (.rows false i 1 ((pk i).map encI)))] hW ?_ ?_ (by simp [go_sem, hegb]) ?_
      · intro p hp
        simp only [List.mem_singleton] at hp
        subst hp
        exact ⟨by simp, i, 1, _, rfl, by simp [upd]⟩
      · intro h₁ hS
        have h7 := hS 4 (by simp)
        simp [upd] at h7
        exact .cons (.refl _) (.cons (.refl _) (.cons (leV_frz h7.symm (by simp [e1]) (by simp [applyW, upd]) (by rw [List.drop_zero, List.take_of_length_le (by simp [e1])])) .nil))
      · have h6 : (x.picks.take 6).length ≤ 6 := by simp; omega
        have hw7 : w.length ≤ 7 := by omega
        have hwi : ((w.length : Int) - 1).toNat = w.length - 1 := by omega
        have hwn : w.length - 1 < w.length := by omega
        rw [hq]
        (repeat (first|with_reducible (first|refine wV fun _=>?_|refine wE ?_)|simp [go_sem, rl, rb, er1l, er1b, hegl, hegb, hwi, hwn]))
  · omega
  · simp [go_sem, Wk_eq, rb, er1b, hegb, hp0]
  · simp
theorem raw6_len {x : Raw6} (hx : Raw6Ok x) : (encRaw6 x).length = 31 := by
  obtain ⟨rl, _, _, _, _, _, rb⟩ := rawRow hx.p
  simp [encRaw6, encRaw, rl]
theorem raw6_bel {x : Raw6} (hx : Raw6Ok x) (n : Nat) : (∀ c ∈ encRaw6 x, Bel n c) = True := by
  obtain ⟨rl, _, _, _, _, _, rb⟩ := rawRow hx.p
  refine eq_true ?_
  intro c hc
  unfold encRaw6 at hc
  rcases List.mem_append.1 hc with h | h
  · have : (∀ c ∈ encRaw x.g, Bel n c) = True := by simp [go_sem]
    exact of_eq_true this c h
  · rcases List.mem_append.1 h with h | h
    · exact of_eq_true (rb n) c h
    · simp only [List.mem_singleton] at h
      subst h
      simp [go_sem]
end Go.Av
end
section
/- Contracts: the search of the reference (Budget, further, Go, Seen). -/
open Go Go.Proofs
namespace Go.Av
def encD (D : List (List PosD)) : List (List AV) := D.map fun l => [encPs l]
theorem bel_encD {n : Nat} {D : List (List PosD)} : (∀ r ∈ encD D, ∀ c ∈ r, Bel n c) = True := by
 refine eq_true ?_
 intro r hr c hc
 obtain ⟨x, _, rfl⟩ := List.mem_map.1 hr
 simp only [List.mem_cons, List.not_mem_nil, or_false] at hc
 subst hc
 exact bel_encPs _
attribute [go_sem ↓] bel_encD
@[go_sem] theorem encD_len (D : List (List PosD)) : (encD D).length = D.length := by simp [encD]
theorem encD_append (D E : List (List PosD)) : encD (D ++ E) = encD D ++ encD E := by simp [encD]
theorem nth_encD {D : List (List PosD)} {i : Nat} (h : i < D.length) : nth (encD D) i = [encPs (nth D i)] := nth_map _ _ _ h
end Go.Av
end
section
/- Contracts: the least game (reach.trace). -/
open Go Go.Proofs
namespace Go.Av
theorem trace11_pure (q : PosD) (hq : FitsP q) (mv : List PosD) (hi : Inc mv) (hl : mv.length ≤ 17179869184) (hf : ∀ r ∈ mv, FitsP r) :
  Pure Tryz.prog 189 [.agg (encPos q), .fp [encPs mv]] (.v (.bool (decide (q ∈ mv)))) := by
 refine pF Tryz.func189 ?_
 have hF := pFind_pure mv hi hl hf q hq
 have e : decide (q ∈ mv) = decide (0 ≤ fndP mv q) := by rw [decide_eq_decide]; exact (fndP_mem hi).symm
 rw [e]
 generalize fndP mv q = fi at *
 (repeat (first|with_reducible (first|refine wV fun _=>?_|refine wE ?_)|simp [go_sem]))
 refine ACallP.plain hF (by simp [go_sem]) ?_
 (repeat (first|with_reducible (first|refine wV fun _=>?_|refine wE ?_)|simp [go_sem]))
theorem trace1_pure (g : GameD) (hg : GOk g) (p : PosD) (hp : POk g p) (l : List PosD) (hl : l.length ≤ 17179869184) (hf : ∀ q ∈ l, FitsP q) :
  Pure Tryz.prog 188 [.agg (encPos p), encPs l, .fp (encGame g)] (.v (.int .i64 (frstP g p l))) := by
 refine pF Tryz.func188 ?_
 have hM := Moves_pure g hg p hp
 have hml := movesP_len2 hg hp
 have hmf := fun m hm => ((movesP_ok hg hp) m hm).1.fits hg
 have hinc := movesP_inc g p
 unfold frstP
 generalize movesP g p = mv at *
 have hC := IndexFuncP_pure l hl 189 [] [.fp [encPs mv]] (fun q => decide (q ∈ mv)) (fun q hq => trace11_pure q (hf q hq) mv hinc (by omega) hmf) (by simp) (by simp [go_sem])
 (repeat (first|with_reducible (first|refine wV fun _=>?_|refine wE ?_)|simp [go_sem]))
 refine ACallP.plain hM (by simp [go_sem]) ?_
 (repeat (first|with_reducible (first|refine wV fun _=>?_|refine wE ?_)|simp [go_sem]))
 refine ACallP.pureF [1] hC ?_ (by simp [go_sem]) ?_
 ·exact leX
 ·(repeat (first|with_reducible (first|refine wV fun _=>?_|refine wE ?_)|simp [go_sem]))
theorem leRows_setK {h h' : Heap} {n : Nat} {x y : List AV} (hx : LeRow h h' n x y) : ∀ (l : List (List AV)) (k : Nat), LeRows h h' n (l.set k x) (l.set k y)
 | [], _ => .nil
 | _ :: l, 0 => .cons hx (.refl _)
 | z :: l, k + 1 => .cons (.refl _ _ _ _) (leRows_setK hx l k)
theorem bel_setK {n : Nat} {l : List (List AV)} {k : Nat} {x : List AV} (h1 : ∀ r ∈ l, ∀ c ∈ r, Bel n c) (h2 : ∀ c ∈ x, Bel n c) : ∀ r ∈ l.set k x, ∀ c ∈ r, Bel n c := by
 intro r hr
 rcases List.mem_or_eq_of_mem_set hr with hr | rfl
 ·exact h1 r hr
 ·exact h2
theorem set_nth_self {α : Type} [Inhabited α] {l : List α} {k : Nat} (h : k < l.length) : l.set k (nth l k) = l := by
 rw [nth_eq _ _ h]
 exact List.set_getElem_self h
theorem leRows_ownK {h h' : Heap} {n o : Nat} {l : List (List AV)} {k : Nat} (hk : k < l.length) (e : nth l k = [AV.nils]) (hn : n ≤ o) (ho : h' o = some (.rows true 0 5 [])) : LeRows h h' n l (l.set k [.sl o 0 5 0 0]) := by
 have h1 : LeRow h h' n [AV.nils] [.sl o 0 5 0 0] := .cons (.own hn ho) .nil
 have := leRows_setK h1 l k
 rwa [← e, set_nth_self hk] at this
def backR (N : Nat) (G : List (List PosD)) (m : Nat) : List (List AV) := (List.range N).map fun j => if m ≤ j then [encPs (nth G j)] else [AV.nils]
@[go_sem] theorem backR_len (N : Nat) (G : List (List PosD)) (m : Nat) : (backR N G m).length = N := by simp [backR]
theorem nth_backR (N : Nat) (G : List (List PosD)) (m : Nat) {j : Nat} (hj : j < N) : nth (backR N G m) j = if m ≤ j then [encPs (nth G j)] else [AV.nils] := by
 rw [nth_eq _ _ (by rw [backR_len]; exact hj)]
 simp [backR]
theorem bel_backR {n N : Nat} {G : List (List PosD)} {m : Nat} : (∀ r ∈ backR N G m, ∀ c ∈ r, Bel n c) = True := by
 refine eq_true ?_
 intro r hr c hc
 obtain ⟨j, _, rfl⟩ := List.mem_map.1 hr
 split at hc
 ·simp only [List.mem_cons, List.not_mem_nil, or_false] at hc
  subst hc
  exact bel_encPs _
 ·simp only [List.mem_cons, List.not_mem_nil, or_false] at hc
  subst hc
  exact .v _
attribute [go_sem ↓] bel_backR
theorem backR_set {N : Nat} {G : List (List PosD)} {m : Nat} (hm : m < N) : (backR N G (m + 1)).set m [encPs (nth G m)] = backR N G m := by
 refine List.ext_getElem (by simp [backR]) fun j h1 h2 => ?_
 rw [List.getElem_set]
 simp only [backR, List.getElem_map, List.getElem_range]
 by_cases h : m = j
 ·subst h
  simp
 ·rw [if_neg h]
  by_cases h' : m ≤ j
  ·rw [if_pos h', if_pos (by omega)]
  ·rw [if_neg h', if_neg (by omega)]
theorem backR_last {N : Nat} {G : List (List PosD)} {goal : PosD} (hN : 1 ≤ N) (hG : nth G (N - 1) = [goal]) : (List.replicate N [AV.nils]).set (N - 1) [encPs [goal]] = backR N G (N - 1) := by
 refine List.ext_getElem (by simp [backR]) fun j h1 h2 => ?_
 rw [List.getElem_set]
 simp only [backR, List.getElem_map, List.getElem_range, List.getElem_replicate]
 simp only [backR_len] at h2
 by_cases h : N - 1 = j
 ·subst h
  rw [if_pos rfl, if_pos (by omega), hG]
 ·rw [if_neg h, if_neg (by omega)]
theorem trace_pure (g : GameD) (hg : GOk g) (past : List (List PosD)) (goal : PosD) (hN4 : past.length ≤ 4002) (hc : ChainOk g past) (hgo : goal ∈ nth past (past.length - 1)) (hok : ∀ l ∈ past, ∀ q ∈ l, POk g q) (hll : ∀ l ∈ past, l.length ≤ 1889788001) :
  Pure Tryz.prog 144 [.agg (encGame g), .lst 1 (encD past), .agg (encPos goal)] (encPs (traceP g past goal)) := by
 refine pF Tryz.func144 ?_
 have hN1 := List.length_pos_iff.2 hc.ne
 have hlast := goodP_last g goal past hc.ne
 have hsub := fun i (hi : i < past.length) => goodP_sub (g := g) (goal := goal) hi hgo
 have hat := goodP_at g goal past
 have hway := fun i (hi : i < past.length) => wayP_mem hc hgo i hi
 have hfst := fun i (hi : i + 1 < past.length) => wayP_first hc hgo hi
 have hw0 : wayP g past goal 0 = nth (nth past 0) 0 := rfl
 have hws : ∀ i, wayP g past goal (i + 1) = nth (nth (goodP g past goal) (i + 1)) (frstP g (wayP g past goal i) (nth (goodP g past goal) (i + 1))).toNat := fun i => rfl
 unfold traceP
 generalize goodP g past goal = G at *
 generalize wayP g past goal = way at *
 have hnth : ∀ j, j < past.length → nth (encD past) j = [encPs (nth past j)] := fun j hj => nth_encD hj
 have hNn : ((past.length : Int) - 1).toNat = past.length - 1 := by omega
 have hbl := backR_last (G := G) (goal := goal) hN1 hlast
 have hGo : ∀ i, i < past.length → ∀ q ∈ nth G i, POk g q := fun i hi q hq => hok _ (nth_mem hi) q (hsub i hi q hq)
 have hGf : ∀ i, i < past.length → ∀ q ∈ nth G i, FitsP q := fun i hi q hq => (hGo i hi q hq).fits hg
 have hGl : ∀ i, i < past.length → (nth G i).length ≤ 1889788001 := fun i hi => by
  by_cases h : i + 1 < past.length
  ·rw [hat i h]
   exact Nat.le_trans (List.length_filter_le _ _) (hll _ (nth_mem hi))
  ·obtain rfl : i = past.length - 1 := by omega
   rw [hlast]; simp
 obtain ⟨out, hout⟩ : ∃ out : Nat → List PosD, ∀ i, out i = (List.range i).map way := ⟨_, fun _ => rfl⟩
 have houtl : ∀ i, (out i).length = i := fun i => by rw [hout]; simp
 have houts : ∀ i, out (i + 1) = out i ++ [way i] := fun i => by rw [hout, hout, List.range_succ, List.map_append]; rfl
 have houtn : ∀ i j, j < i → nth (out i) j = way j := fun i j hj => by rw [hout, nth_map _ _ _ (by simpa using hj), nth_eq _ _ (by simpa using hj)]; simp
 have hout0 : out 0 = [] := by rw [hout]; rfl
 rw [← hout]
 clear hout
 have hegl : (encGame g).length = 9 := rfl
 have hegb : ∀ n, (∀ c ∈ encGame g, Bel n c) = True := fun n => by simp [go_sem]
 have hFi := fun p (hp : POk g p) i (hi : i < past.length) => trace1_pure g hg p hp (nth G i) (by have := hGl i hi; omega) (hGf i hi)
 generalize encGame g = eg at *
 (repeat (first|with_reducible (first|refine wV fun _=>?_|refine wE ?_)|simp [go_sem, hNn, hegl]))
 refine ALoop.start (ALoop.ind (α := Nat) (fun m => ⟨[(1, .lst 1 (encD past)), (7, .v (.int .i64 ((past.length : Int) - 1))), (8, .sl 2 0 1 0 past.length), (9, .fn (.func 188) [] [.ref 0 0 9 0 0]), (10, .v (.int .i64 ((m : Int) - 1)))], [(0, .rows false 0 9 [eg]), (2, .rows true 0 1 (backR past.length G m))], 4⟩)
  (fun d m => d = m ∧ m ≤ past.length - 1) ?_ (past.length - 1) (past.length - 1) ?_) ?_ ?_
 ·rintro d m ⟨rfl, i1⟩ hrec
  (repeat (first|with_reducible (first|refine wV fun _=>?_|refine wE ?_)|simp [go_sem]))
  refine aIf.mkL (fun hm => ?_) (fun hm => ?_) <;> simp at hm
  ·have e1 : ((d : Int) - 1).toNat = d - 1 := by omega
   have e2 : ((d : Int) - 1 + 1).toNat = d := by omega
   have hn := hnth (d - 1) (by omega)
   have hat := hat (d - 1) (by omega)
   rw [show d - 1 + 1 = d by omega] at hat
   have hly := hok _ (nth_mem (show d - 1 < past.length by omega))
   have hlyl := hll _ (nth_mem (show d - 1 < past.length by omega))
   generalize nth past (d - 1) = ly at *
   have hFd := fun p hp => hFi p hp d (by omega)
   obtain ⟨fl, hfl⟩ : ∃ fl : Nat → List PosD, ∀ k, fl k = (ly.take k).filter (fun p => decide (0 ≤ frstP g p (nth G d))) := ⟨_, fun _ => rfl⟩
   have hfll : ∀ k, (fl k).length ≤ 1889788001 := fun k => by
    have h1 : (fl k).length ≤ (ly.take k).length := by rw [hfl]; exact List.length_filter_le _ _
    have h2 : (ly.take k).length ≤ ly.length := by simp; omega
    omega
   have hfl0 : fl 0 = [] := by rw [hfl]; rfl
   have hfls : ∀ k, k < ly.length → fl (k + 1) = if 0 ≤ frstP g (nth ly k) (nth G d) then fl k ++ [nth ly k] else fl k := fun k hk => by
    rw [hfl, hfl, List.take_add_one, List.getElem?_eq_getElem hk, nth_eq _ _ hk, Option.toList_some, List.filter_append]
    by_cases h : 0 ≤ frstP g ly[k] (nth G d) <;> simp [h]
   have hflE : fl ly.length = nth G (d - 1) := by rw [hfl, List.take_length, hat]
   have hb1 : nth (backR past.length G d) d = [encPs (nth G d)] := by rw [nth_backR _ _ _ (by omega), if_pos (Nat.le_refl _)]
   have hb2 : nth (backR past.length G d) (d - 1) = [AV.nils] := by rw [nth_backR _ _ _ (by omega), if_neg (by omega)]
   have hb3 : ∀ r : List AV, nth ((backR past.length G d).set (d - 1) r) d = [encPs (nth G d)] := fun r => by
    rw [nth_setE, if_neg (by omega), hb1]
   have hdl : d - 1 < past.length := by omega
   have hdl2 : d < past.length := by omega
   clear hfl hat
   (repeat (first|with_reducible (first|refine wV fun _=>?_|refine wE ?_)|simp [go_sem, hn, e1]))
   refine ALoop.start (ALoop.ind (α := Nat) (fun j => ⟨[(1, .lst 1 (encD past)), (7, .v (.int .i64 ((past.length : Int) - 1))), (8, .sl 2 0 1 0 past.length), (9, .fn (.func 188) [] [.ref 0 0 9 0 0]), (10, .v (.int .i64 ((d : Int) - 1))), (36, encPs ly), (37, .v (.int .i64 ly.length)), (38, .v (.int .i64 j))],
     [(0, .rows false 0 9 [eg]), (2, .rows true 0 1 ((backR past.length G d).set (d - 1) [.sl 4 (fl j).length 5 0 (fl j).length])), (4, .rows true (fl j).length 5 ((fl j).map encPos))], 5⟩)
    (fun d j => j + d = ly.length) ?_ ly.length 0 ?_) ?_ ?_
   ·rintro d2 j j1 hrec2
    (repeat (first|with_reducible (first|refine wV fun _=>?_|refine wE ?_)|simp [go_sem]))
    refine aIf.mkL (fun hj => ?_) (fun hj => ?_) <;> simp at hj
    ·have hpo := hly _ (nth_mem hj)
     have hF := hFd _ hpo
     have hfls := hfls j hj
     have h1 := hfll j
     have h2 := hfll (j + 1)
     generalize hq : nth ly j = q at *
     generalize frstP g q (nth G d) = fi at *
     (repeat (first|with_reducible (first|refine wV fun _=>?_|refine wE ?_)|simp [go_sem, hj, hq, e2, hb3, hdl2]))
     refine dCall.frz [.agg (encPos q), encPs (nth G d), .fp eg] _ [0] [] hF (by simp) ?_ (by simp [go_sem, hegb]) ?_
     ·intro h₁ hS
      have h0 := hS 0 (by simp)
      simp [upd] at h0
      exact .cons (.refl _) (.cons (.refl _) (.cons (.frzP h0.symm (by simp) (by simp) (by simp [applyW, upd, ← h0]) (.refl _ _ _ _)) .nil))
     ·(repeat (first|with_reducible (first|refine wV fun _=>?_|refine wE ?_)|simp [go_sem]))
      refine aIf.mkL (fun hz => ?_) (fun hz => ?_) <;> simp at hz
      ·rw [if_pos hz] at hfls
       (repeat (first|with_reducible (first|refine wV fun _=>?_|refine wE ?_)|simp [go_sem, hdl, e1]))
       refine ALoop.start (hrec2 (d2 - 1) (by omega) (j + 1) (by omega)) ?_ (by simp)
       simp [go_sem, Wk_eq, hfls, hegb]
       exact bel_setK (of_eq_true bel_backR) (by simp [go_sem])
      ·rw [if_neg (by omega)] at hfls
       (repeat (first|with_reducible (first|refine wV fun _=>?_|refine wE ?_)|simp [go_sem]))
       refine ALoop.start (hrec2 (d2 - 1) (by omega) (j + 1) (by omega)) ?_ (by simp)
       simp [go_sem, Wk_eq, hfls, hegb]
       exact bel_setK (of_eq_true bel_backR) (by simp [go_sem])
    ·obtain rfl : j = ly.length := by omega
     rw [hflE]
     have hbs := backR_set (G := G) (N := past.length) (m := d - 1) (by omega)
     rw [show d - 1 + 1 = d by omega] at hbs
     have ec : ((d - 1 : Nat) : Int) = (d : Int) - 1 := by omega
     (repeat (first|with_reducible (first|refine wV fun _=>?_|refine wE ?_)|simp [go_sem]))
     refine ALoop.start (hrec (d - 1) (by omega) (d - 1) ⟨rfl, by omega⟩) ?_ (by simp)
     simp [go_sem, Wk_eq, hegb, ec]
     rw [← hbs]
     exact leRows_setK (.cons (leV_frz rfl (by simp) (by simp [upd, noH]) (by simp; exact List.take_of_length_le (by simp))) .nil) _ _
   ·simp
   ·simp [go_sem, Wk_eq, hfl0, hegb]
    refine ⟨?_, bel_setK (of_eq_true bel_backR) (by simp [go_sem])⟩
    exact leRows_ownK (by rw [backR_len]; omega) hb2 (by simp) (by simp [mkH, upd])
   ·simp
  ·obtain rfl : d = 0 := by omega
   have hn0 := hnth 0 (by omega)
   obtain ⟨st, hst⟩ := hc.one
   have hz1 : nth (nth past 0) 0 = st := by rw [hst]; rfl
   rw [hst] at hn0
   rw [hz1] at hw0
   have hg0 := fun j (hj : j < past.length) => nth_backR past.length G 0 hj
   simp only [Nat.zero_le, if_true] at hg0
   have hout1 : out 1 = [st] := by rw [houts 0, hout0, hw0]; rfl
   (repeat (first|with_reducible (first|refine wV fun _=>?_|refine wE ?_)|simp [go_sem, hn0]))
   refine ALoop.start (ALoop.ind (α := Nat) (fun i => ⟨[(7, .v (.int .i64 ((past.length : Int) - 1))), (8, .sl 2 0 1 0 past.length), (9, .fn (.func 188) [] [.ref 0 0 9 0 0]), (13, .sl 4 i 5 0 (i + 1)), (14, .v (.int .i64 ((i : Int) + 1)))], [(0, .rows false 0 9 [eg]), (2, .rows true 0 1 (backR past.length G 0)), (4, .rows true i 5 ((out (i + 1)).map encPos))], 5⟩)
    (fun d i => i + 1 + d = past.length) ?_ (past.length - 1) 0 ?_) ?_ ?_
   ·rintro d2 i i2 hrec2
    have hol := houtl (i + 1)
    (repeat (first|with_reducible (first|refine wV fun _=>?_|refine wE ?_)|simp [go_sem, hol]))
    refine aIf.mkL (fun hi => ?_) (fun hi => ?_) <;> simp at hi
    ·have e5 : ((i : Int) + 1).toNat = i + 1 := by omega
     have e6 : ((i : Int) + 1 - 1).toNat = i := by omega
     have hgi := hg0 (i + 1) (by omega)
     have hoi := houtn (i + 1) i (by omega)
     have hwi := hGo i (by omega) _ (hway i (by omega))
     have hF := hFi (way i) hwi (i + 1) (by omega)
     have hf1 := hfst i (by omega)
     have hf2 := (frstP_some hf1).1
     have hos := houts (i + 1)
     rw [hws i] at hos
     have hil : i + 1 < past.length := by omega
     generalize frstP g (way i) (nth G (i + 1)) = fi at *
     (repeat (first|with_reducible (first|refine wV fun _=>?_|refine wE ?_)|simp [go_sem, hol, e5, e6, hgi, hoi, hil]))
     refine dCall.frz [.agg (encPos (way i)), encPs (nth G (i + 1)), .fp eg] _ [0] [] hF (by simp) ?_ (by simp [go_sem, hegb]) ?_
     ·intro h₁ hS
      have h0 := hS 0 (by simp)
      simp [upd] at h0
      exact .cons (.refl _) (.cons (.refl _) (.cons (.frzP h0.symm (by simp) (by simp) (by simp [applyW, upd, ← h0]) (.refl _ _ _ _)) .nil))
     ·(repeat (first|with_reducible (first|refine wV fun _=>?_|refine wE ?_)|simp [go_sem, hol, hf2]))
      refine ALoop.start (hrec2 (d2 - 1) (by omega) (i + 1) (by omega)) ?_ (by simp)
      simp [go_sem, Wk_eq, hos, hegb]
    ·have e : out past.length = out (i + 1) := by rw [show past.length = i + 1 by omega]
     (repeat (first|with_reducible (first|refine wV fun _=>?_|refine wE ?_)|simp [go_sem]))
     rw [e]
     exact leV_frz rfl (by simp [hol]) (by simp [upd, noH]) (by simp; exact List.take_of_length_le (by simp [hol]))
   ·simp; omega
   ·simp [go_sem, Wk_eq, hegb, hout1]
   ·simp
 ·exact ⟨rfl, Nat.le_refl _⟩
 ·simp [go_sem, Wk_eq, hegb]
  refine ⟨?_, ?_⟩
  ·rw [show ((past.length - 1 : Nat) : Int) = (past.length : Int) - 1 by omega]
   exact .refl _
  ·rw [← hbl]
   exact leRows_setK (.cons (leV_frz rfl (by simp) (by simp [upd, noH]) (by simp [go_sem])) .nil) _ _
 ·simp
end Go.Av
end
