/- Texts of ours, part 9: contracts and facts for this claim. -/
import Derived.Test.YtblaonmapofniaaGreatDoorB09
import Derived.Test.YtblaonmapofniaaGreatDoorRUx06
set_option linter.unusedSimpArgs false
set_option linter.unusedVariables false
set_option maxRecDepth 100000
set_option maxHeartbeats 40000000
section
open Go Go.Proofs
namespace Go.Av
theorem addS_memK : ∀ {more l : List StD} {s : StD}, s ∈ addS l more ↔ s ∈ l ∨ s ∈ more
 | [], l, s => by simp [addS]
 | x :: more, l, s => by
  show s ∈ addS (if x ∈ l then l else l ++ [x]) more ↔ _
  rw [addS_memK]
  split
  ·rename_i h
   simp only [List.mem_cons]
   exact ⟨fun h => by rcases h with h | h <;> simp [h], fun h' => by rcases h' with h' | rfl | h' <;> simp [*]⟩
  ·simp [or_assoc]
theorem addS_nodup : ∀ {more l : List StD}, l.Nodup → (addS l more).Nodup
 | [], l, h => h
 | x :: more, l, h => by
  show (addS (if x ∈ l then l else l ++ [x]) more).Nodup
  split
  ·exact addS_nodup h
  ·rename_i hx
   refine addS_nodup (List.nodup_append.2 ⟨h, by simp, ?_⟩)
   intro a ha b hb e
   simp only [List.mem_singleton] at hb
   subst hb; subst e
   exact hx ha
theorem nextS_foldK (g : GameD) (x : Int × Int) : ∀ (now acc : List StD) (s : StD), s ∈ now.foldl (fun next s => addS next (stepS g s x)) acc ↔ s ∈ acc ∨ ∃ r ∈ now, s ∈ stepS g r x
 | [], acc, s => by simp
 | r :: now, acc, s => by
  rw [List.foldl_cons, nextS_foldK g x now, addS_memK]
  simp [or_assoc]
theorem nextS_memK {g : GameD} {x : Int × Int} {now : List StD} {s : StD} : s ∈ nextS g now x ↔ ∃ r ∈ now, s ∈ stepS g r x := by
 unfold nextS
 rw [nextS_foldK]
 simp
theorem nextS_nodupK (g : GameD) (x : Int × Int) : ∀ (now acc : List StD), acc.Nodup → (now.foldl (fun next s => addS next (stepS g s x)) acc).Nodup
 | [], acc, h => h
 | r :: now, acc, h => nextS_nodupK g x now _ (addS_nodup h)
theorem nextS_nodup (g : GameD) (now : List StD) (x : Int × Int) : (nextS g now x).Nodup := nextS_nodupK g x now [] (by simp)
theorem fold_nodup (g : GameD) : ∀ (prog : List (Int × Int)) (now : List StD), now.Nodup → (prog.foldl (nextS g) now).Nodup
 | [], now, h => h
 | x :: prog, now, _ => fold_nodup g prog _ (nextS_nodup g now x)
def curS (s : StD) (c : Int) : StD := { s with cursor := c }
def FewS (n : Nat) (l : List StD) : Prop := ∃ B : List StD, B.length ≤ n ∧ ∀ s ∈ l, ∃ t ∈ B, s = curS t s.cursor
theorem slideGo_cur {s : StD} : ∀ {l : List Int}, ∀ t ∈ slideGo s l, t = curS s t.cursor
 | [], t, h => by simp [slideGo] at h
 | c :: l, t, h => by
  rw [slideGo, List.mem_cons] at h
  rcases h with rfl | h
  ·rfl
  ·split at h
   ·exact slideGo_cur t h
   ·simp at h
def moveOp (x : Int × Int) : Bool := x.1 == 6 || x.1 == 7
theorem onlyS_mem {s t : StD} {b : Bool} (h : t ∈ onlyS s b) : t = s := by
 unfold onlyS at h
 split at h <;> simp at h
 exact h
theorem stepS_base (g : GameD) (x : Int × Int) (hx : moveOp x = false) : ∃ f : StD → StD, ∀ t c, ∀ u ∈ stepS g (curS t c) x, u = curS (f t) u.cursor := by
 simp only [moveOp, Bool.or_eq_false_iff, beq_eq_false_iff_ne] at hx
 by_cases h8 : x.1 = 8
 ·refine ⟨fun t => { t with kind := x.2 }, fun t c u hu => ?_⟩
  simp [stepS, h8] at hu
  subst hu; rfl
 by_cases h10 : x.1 = 10
 ·refine ⟨fun t => { t with p := { t.p with rights := andNotN .i64 t.p.rights (2 ^ x.2.toNat) } }, fun t c u hu => ?_⟩
  simp [stepS, h10] at hu
  subst hu; rfl
 refine ⟨id, fun t c u hu => ?_⟩
 unfold stepS at hu
 simp only [h8, h10, hx.1, hx.2, if_false] at hu
 repeat' split at hu
 ·have := onlyS_mem hu; subst this; rfl
 ·have := slideGo_cur u hu
  rw [this]; rfl
 ·have := onlyS_mem hu; subst this; rfl
 ·have := onlyS_mem hu; subst this; rfl
 ·have := onlyS_mem hu; subst this; rfl
 ·have := onlyS_mem hu; subst this; rfl
 ·simp at hu; subst hu; rfl
theorem stepS_one (g : GameD) (s : StD) (x : Int × Int) (hx : moveOp x = true) : (stepS g s x).length ≤ 1 := by
 simp only [moveOp, Bool.or_eq_true, beq_iff_eq] at hx
 unfold stepS
 rcases hx with h | h
 ·simp only [h]
  rw [if_neg (by decide), if_neg (by decide), if_neg (by decide), if_neg (by decide), if_neg (by decide), if_pos trivial]
  unfold takeS
  simp only
  split
  ·simp
  ·split
   ·split <;> simp
   ·simp
 ·simp only [h]
  rw [if_neg (by decide), if_neg (by decide), if_neg (by decide), if_neg (by decide), if_neg (by decide), if_neg (by decide), if_pos trivial]
  unfold pushS
  simp only
  split <;> simp
theorem flatMap_leK {α β : Type} (f : α → List β) (m : Nat) : ∀ (l : List α), (∀ x ∈ l, (f x).length ≤ m) → (l.flatMap f).length ≤ l.length * m
 | [], _ => by simp
 | x :: l, h => by
  have := flatMap_leK f m l (fun y hy => h y (by simp [hy]))
  have := h x (by simp)
  rw [List.flatMap_cons, List.length_append, List.length_cons, Nat.succ_mul]
  omega
theorem fewS_next {g : GameD} {now : List StD} {x : Int × Int} {n : Nat} (hc : ∀ s ∈ now, 0 ≤ s.cursor ∧ s.cursor < 9) (h : FewS n now) : FewS (n * (if moveOp x then 9 else 1)) (nextS g now x) := by
 obtain ⟨B, hB, hs⟩ := h
 by_cases hx : moveOp x = true
 ·refine ⟨B.flatMap fun t => (List.range 9).flatMap fun (c : Nat) => stepS g (curS t c) x, ?_, fun u hu => ?_⟩
  ·have h1 := flatMap_leK (fun t : StD => (List.range 9).flatMap fun (c : Nat) => stepS g (curS t c) x) 9 B (fun t _ => by
    have := flatMap_leK (fun (c : Nat) => stepS g (curS t c) x) 1 (List.range 9) (fun c _ => stepS_one g _ x hx)
    simpa using this)
   rw [if_pos hx]
   exact Nat.le_trans h1 (Nat.mul_le_mul_right 9 hB)
  ·obtain ⟨r, hr, hu⟩ := nextS_memK.1 hu
   obtain ⟨t, ht, e⟩ := hs r hr
   have := hc r hr
   refine ⟨u, List.mem_flatMap.2 ⟨t, ht, List.mem_flatMap.2 ⟨r.cursor.toNat, by simp; omega, ?_⟩⟩, rfl⟩
   rw [show ((r.cursor.toNat : Nat) : Int) = r.cursor by omega, ← e]
   exact hu
 ·simp only [Bool.not_eq_true] at hx
  obtain ⟨f, hf⟩ := stepS_base g x hx
  refine ⟨B.map f, by simp [hx]; exact hB, fun u hu => ?_⟩
  obtain ⟨r, hr, hu⟩ := nextS_memK.1 hu
  obtain ⟨t, ht, e⟩ := hs r hr
  rw [e] at hu
  exact ⟨f t, List.mem_map_of_mem ht, hf t _ u hu⟩
theorem next_ok {g : GameD} (hg : GOk g) {now : List StD} {x : Int × Int} (hx : StepOk g.next.length g.kinds.length g.rights x) (hn : ∀ s ∈ now, StOk g s) : ∀ s ∈ nextS g now x, StOk g s := by
 intro s hs
 obtain ⟨r, hr, hs⟩ := nextS_memK.1 hs
 exact (stepS_ok hg (hn r hr) hx s hs).1
theorem fewS_fold {g : GameD} (hg : GOk g) : ∀ (prog : List (Int × Int)) (now : List StD) (n : Nat), (∀ x ∈ prog, StepOk g.next.length g.kinds.length g.rights x) → (∀ s ∈ now, StOk g s) → FewS n now →
  FewS (n * 9 ^ prog.countP moveOp) (prog.foldl (nextS g) now)
 | [], now, n, _, _, h => by simpa using h
 | x :: prog, now, n, hp, hn, h => by
  have h9 := hg.c9
  have h1 := fewS_next (g := g) (x := x) (fun s hs => ⟨(hn s hs).c0, by have := (hn s hs).c1; omega⟩) h
  have h2 := fewS_fold hg prog _ _ (fun y hy => hp y (by simp [hy])) (next_ok hg (hp x (by simp)) hn) h1
  rw [List.foldl_cons, List.countP_cons]
  have e : n * (if moveOp x = true then 9 else 1) * 9 ^ prog.countP moveOp = n * 9 ^ (prog.countP moveOp + if moveOp x = true then 1 else 0) := by
   by_cases hx : moveOp x = true
   ·rw [if_pos hx, if_pos hx, Nat.pow_succ, Nat.mul_assoc, Nat.mul_comm 9]
   ·rw [if_neg hx, if_neg hx, Nat.mul_one, Nat.add_zero]
  rw [← e]
  exact h2
theorem fewS_len {l : List StD} {n : Nat} (hn : l.Nodup) (hc : ∀ s ∈ l, 0 ≤ s.cursor ∧ s.cursor < 9) (h : FewS n l) : l.length ≤ n * 9 := by
 obtain ⟨B, hB, hs⟩ := h
 have h1 := len_sub (r := B.flatMap fun t => (List.range 9).map fun (c : Nat) => curS t c) hn (fun s h => by
  obtain ⟨t, ht, e⟩ := hs s h
  have := hc s h
  refine List.mem_flatMap.2 ⟨t, ht, List.mem_map.2 ⟨s.cursor.toNat, by simp; omega, ?_⟩⟩
  rw [show ((s.cursor.toNat : Nat) : Int) = s.cursor by omega, ← e])
 have h2 := flatMap_leK (fun t : StD => (List.range 9).map fun (c : Nat) => curS t c) 9 B (fun t _ => by simp)
 exact Nat.le_trans h1 (Nat.le_trans h2 (Nat.mul_le_mul_right 9 hB))
theorem countP_move (prog : List (Int × Int)) : prog.countP moveOp ≤ countOp prog 6 + countOp prog 7 := by
 unfold countOp
 induction prog with
 | nil => simp
 | cons x l ih =>
  simp only [List.countP_cons, moveOp]
  by_cases h6 : x.1 = 6
  ·simp [h6]; omega
  ·by_cases h7 : x.1 = 7
   ·simp [h7]; omega
   ·simp [h6, h7]; omega
theorem lastS_len {g : GameD} (hg : GOk g) {p : PosD} (hp : POk g p) {cell i : Int} (hc : ChoiceOk g p cell i) : (lastS g p cell (progOf g p cell i)).length ≤ 6561 := by
 have hpg := prog_ok hg hp hc
 have hst := (startS_ok hg hp hc.c0 hc.c1 hc.man).1
 have h1 := fewS_fold hg (progOf g p cell i) [startS p cell] 1 hpg.st (fun s hs => by simp at hs; subst hs; exact hst) ⟨[startS p cell], by simp, fun s hs => ⟨s, hs, rfl⟩⟩
 have h9 := hg.c9
 have h2 := fewS_len (fold_nodup g (progOf g p cell i) [startS p cell] (by simp)) (fun s hs => by
  have := ((lastS_ok hg hp hc).1 s hs).1
  exact ⟨this.c0, by have := this.c1; omega⟩) h1
 have h3 : (progOf g p cell i).countP moveOp ≤ 3 := by
  have := countP_move (progOf g p cell i)
  have := hpg.take
  have := hpg.push
  omega
 have h4 : 9 ^ (progOf g p cell i).countP moveOp ≤ 9 ^ 3 := Nat.pow_le_pow_right (by omega) h3
 have h5 : (lastS g p cell (progOf g p cell i)).length ≤ 1 * 9 ^ (progOf g p cell i).countP moveOp * 9 := h2
 omega
theorem runsP_len2 {g : GameD} (hg : GOk g) {p : PosD} (hp : POk g p) {cell i : Int} (hc : ChoiceOk g p cell i) : (runsP g p cell i).length ≤ 6561 := by
 unfold runsP
 have h1 := sortU_le cmpO ((lastS g p cell (progOf g p cell i)).filterMap (putS p.side))
 have h2 : ((lastS g p cell (progOf g p cell i)).filterMap (putS p.side)).length ≤ (lastS g p cell (progOf g p cell i)).length := List.length_filterMap_le _ _
 have h3 := lastS_len hg hp hc
 omega
theorem outsAt_len2 {g : GameD} (hg : GOk g) {p : PosD} (hp : POk g p) {c : Nat} (hc : c < p.at_.length) : (outsAt g p c).length ≤ 52488 := by
 unfold outsAt
 split
 ·rename_i hm
  have hal := hp.al
  have hk := kind_lt hg hp (cell := c) (by omega) (by omega) (by simpa using hm.1)
  have hpn := hg.pn _ (nth_mem (by simpa using hk))
  have := flatMap_range_le (fun (i : Nat) => runsP g p c i) 6561 (nth g.kinds (manOf (nth p.at_ c)).1.toNat).progs.length (fun i hi => runsP_len2 hg hp (choice_of hp hc hm hi))
  omega
 ·simp
theorem outsK_len2 {g : GameD} (hg : GOk g) {p : PosD} (hp : POk g p) {k : Nat} (hk : k ≤ p.at_.length) : ((List.range k).flatMap (outsAt g p)).length ≤ 472392 := by
 have := flatMap_range_le (outsAt g p) 52488 k (fun c hc => outsAt_len2 hg hp (by omega))
 have h9 := hg.c9
 have hal := hp.al
 omega
theorem outsP_len2 {g : GameD} (hg : GOk g) {p : PosD} (hp : POk g p) : (outsP g p).length ≤ 472392 := outsK_len2 hg hp (Nat.le_refl _)
theorem movesL_len2 {g : GameD} (hg : GOk g) {p : PosD} (hp : POk g p) : (movesL g p).length ≤ 472446 := by
 unfold movesL
 have h1 := outsP_len2 hg hp
 have h2 := dropsP_len hg hp
 have h3 : ((outsP g p).filter fun o => !mustP g p || o.took).length ≤ (outsP g p).length := List.length_filter_le _ _
 rw [List.length_append, List.length_map]
 split <;> simp <;> omega
theorem movesP_len2 {g : GameD} (hg : GOk g) {p : PosD} (hp : POk g p) : (movesP g p).length ≤ 472446 := by
 unfold movesP
 split
 ·simp
 ·exact Nat.le_trans (sortU_le cmpP _) (movesL_len2 hg hp)
end Go.Av
end
section
open Go Go.Proofs
namespace Go.Av
theorem movesP_nil_of_ended {g : GameD} {p : PosD} (h : 0 ≤ endedP g p) : movesP g p = [] := if_pos h
end Go.Av
end
