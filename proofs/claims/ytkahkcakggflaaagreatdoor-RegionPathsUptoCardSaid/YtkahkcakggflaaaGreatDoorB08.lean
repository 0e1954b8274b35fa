/- Texts of ours, part 8: our library and contracts of functions. -/
import Derived.Test.YtkahkcakggflaaaGreatDoorB07
set_option linter.unusedSimpArgs false
set_option linter.unusedVariables false
set_option maxRecDepth 100000
set_option maxHeartbeats 40000000
section
/- Plain: paths of programs (layer 8). -/
open Go Go.Proofs
namespace Go.Av
abbrev ActD := Int × Int × Int
structure PathD where
 acts : List ActD
 to : Int
 deriving DecidableEq
instance : Inhabited PathD := ⟨⟨[], 0⟩⟩
def encAct (a : ActD) : List AV := [.v (.int .i64 a.1), .v (.int .i64 a.2.1), .v (.int .i64 a.2.2)]
def encAs (l : List ActD) : AV := .lst 3 (l.map encAct)
def encPath (p : PathD) : List AV := [encAs p.acts, .v (.int .i64 p.to)]
def encPt (l : List PathD) : AV := .lst 2 (l.map encPath)
def encCells (l : List (List PathD)) : AV := .lst 1 (l.map fun x => [encPt x])
def encSide (l : List (List (List PathD))) : AV := .lst 1 (l.map fun x => [encCells x])
abbrev CodeD := List (List (List PathD)) × List (List (List PathD))
def encCode (c : CodeD) : List AV := [encSide c.1, encSide c.2]
attribute [go_sem] encAct encAs encPath encPt encCells encSide encCode
theorem bel_A {n : Nat} {l : List ActD} : (∀ r ∈ l.map encAct, ∀ c ∈ r, Bel n c) = True := by
 refine eq_true ?_
 intro r hr c hc
 obtain ⟨x, _, rfl⟩ := List.mem_map.1 hr
 revert c
 simp [go_sem]
theorem bel_As {n : Nat} {l : List ActD} : Bel n (.lst 3 (l.map encAct)) = True := by rw [Bel_lst, bel_A]
theorem bel_Pa {n : Nat} {l : List PathD} : (∀ r ∈ l.map encPath, ∀ c ∈ r, Bel n c) = True := by
 refine eq_true ?_
 intro r hr c hc
 obtain ⟨x, _, rfl⟩ := List.mem_map.1 hr
 simp only [encPath, encAs, List.mem_cons, List.not_mem_nil, or_false] at hc
 rcases hc with rfl | rfl
 ·exact of_eq_true bel_As
 ·exact .v _
theorem bel_Pas {n : Nat} {l : List PathD} : Bel n (.lst 2 (l.map encPath)) = True := by rw [Bel_lst, bel_Pa]
theorem bel_Ce {n : Nat} {l : List (List PathD)} : (∀ r ∈ l.map (fun x => [AV.lst 2 (x.map encPath)]), ∀ c ∈ r, Bel n c) = True := by
 refine eq_true ?_
 intro r hr c hc
 obtain ⟨x, _, rfl⟩ := List.mem_map.1 hr
 simp only [List.mem_cons, List.not_mem_nil, or_false] at hc
 subst hc
 exact of_eq_true bel_Pas
theorem bel_Ces {n : Nat} {l : List (List PathD)} : Bel n (.lst 1 (l.map (fun x => [AV.lst 2 (x.map encPath)]))) = True := by rw [Bel_lst, bel_Ce]
theorem bel_Si {n : Nat} {l : List (List (List PathD))} : (∀ r ∈ l.map (fun x => [AV.lst 1 (x.map (fun x => [AV.lst 2 (x.map encPath)]))]), ∀ c ∈ r, Bel n c) = True := by
 refine eq_true ?_
 intro r hr c hc
 obtain ⟨x, _, rfl⟩ := List.mem_map.1 hr
 simp only [List.mem_cons, List.not_mem_nil, or_false] at hc
 subst hc
 exact of_eq_true bel_Ces
theorem bel_Sis {n : Nat} {l : List (List (List PathD))} : Bel n (.lst 1 (l.map (fun x => [AV.lst 1 (x.map (fun x => [AV.lst 2 (x.map encPath)]))]))) = True := by rw [Bel_lst, bel_Si]
attribute [go_sem high] bel_As bel_Pas bel_Ces bel_Sis
attribute [go_sem ↓] bel_A bel_Pa bel_Ce bel_Si
def onP (p : PathD) (to : Int) (more : List ActD) : PathD := ⟨p.acts ++ more, to⟩
def slideP (p : PathD) : List Int → List ActD → List PathD
 | [], _ => []
 | c :: l, passed => onP p c passed :: slideP p l (passed ++ [(3, c, 0)])
def extP (b : BoardD) (side : Int) (p : PathD) (x : Int × Int) : List PathD :=
 if x.1 = 1 ∨ x.1 = 7 then
  if toB b side x.2 p.to < 0 then [] else if x.1 = 1 then [onP p (toB b side x.2 p.to) []] else [onP p p.to [(7, p.to, toB b side x.2 p.to)]]
 else if x.1 = 2 then slideP p (lineB b side x.2 p.to) []
 else if x.1 = 8 ∨ x.1 = 9 ∨ x.1 = 10 then [onP p p.to [(x.1, x.2, 0)]]
 else [onP p p.to [(x.1, p.to, 0)]]
def stepP (b : BoardD) (side : Int) (now : List PathD) (x : Int × Int) : List PathD := now.flatMap fun w => extP b side w x
def pathsP (b : BoardD) (side : Int) (prog : List (Int × Int)) (cell : Int) : List PathD := prog.foldl (stepP b side) [⟨[], cell⟩]
def kindP (b : BoardD) (side : Int) (progs : List (List (Int × Int))) (cell : Int) : List PathD := progs.flatMap fun p => pathsP b side p cell
def cellsP (b : BoardD) (side : Int) (progs : List (List (Int × Int))) : List (List PathD) := (List.range b.cells.toNat).map fun (c : Nat) => kindP b side progs c
def sideP (g : GameD) (side : Int) : List (List (List PathD)) := g.kinds.map fun k => cellsP g.board side k.progs
def codeP (g : GameD) : CodeD := (sideP g 0, sideP g 1)
theorem lineGo_nodup {b : BoardD} {side d c : Int} : ∀ (f : Nat) (x : Int) (seen : List Int), seen.Nodup → (lineGo b side d c f x seen).Nodup
 | 0, x, seen, h => by simpa [lineGo] using h
 | f + 1, x, seen, h => by
  rw [lineGo]
  split
  ·rename_i hc
   refine lineGo_nodup f _ _ (List.nodup_append.2 ⟨h, by simp, ?_⟩)
   intro y hy z hz
   simp at hz
   subst hz
   rintro rfl
   exact hc.2.2 hy
  ·exact h
theorem lineB_le {b : BoardD} (hb : BoardOk b) {side d c : Int} : (lineB b side d c).length ≤ b.cells.toNat :=
 nodup_le _ _ (lineGo_nodup _ _ _ (by simp)) (fun y hy => by have := lineB_mem hb y hy; have := hb.c0; omega)
theorem slideP_len (p : PathD) : ∀ (l : List Int) (passed : List ActD), (slideP p l passed).length = l.length
 | [], _ => rfl
 | c :: l, passed => by simp [slideP, slideP_len p l]
theorem slideP_mem {p w : PathD} : ∀ {l : List Int} {passed : List ActD}, w ∈ slideP p l passed → ∃ more, w.acts = p.acts ++ passed ++ more ∧ more.length ≤ l.length ∧ w.to ∈ l ∧ ∀ a ∈ more, ∃ c ∈ l, a = (3, c, 0)
 | [], _, h => by simp [slideP] at h
 | c :: l, passed, h => by
  simp only [slideP, List.mem_cons] at h
  rcases h with rfl | h
  ·exact ⟨[], by simp [onP], by simp, by simp [onP], by simp⟩
  ·obtain ⟨more, h1, h2, h3, h4⟩ := slideP_mem h
   refine ⟨(3, c, 0) :: more, by rw [h1]; simp, by simp; omega, List.mem_cons_of_mem _ h3, fun a ha => ?_⟩
   rcases List.mem_cons.1 ha with rfl | ha
   ·exact ⟨c, by simp, rfl⟩
   ·obtain ⟨c', hc, e⟩ := h4 a ha
    exact ⟨c', List.mem_cons_of_mem _ hc, e⟩
theorem extP_len {b : BoardD} (hb : BoardOk b) (h1 : 1 ≤ b.cells) (side : Int) (p : PathD) (x : Int × Int) : (extP b side p x).length ≤ if x.1 = 2 then b.cells.toNat else 1 := by
 unfold extP
 by_cases h2 : x.1 = 2
 ·rw [if_neg (by omega), if_pos h2, if_pos h2, slideP_len]
  exact lineB_le hb
 ·rw [if_neg h2, if_neg h2]
  split
  ·split
   ·simp
   ·split <;> simp
  ·split <;> simp
theorem flatMap_le {α β : Type} (f : α → List β) (m : Nat) : ∀ (l : List α), (∀ x ∈ l, (f x).length ≤ m) → (l.flatMap f).length ≤ l.length * m
 | [], _ => by simp
 | x :: l, h => by
  have a := h x (by simp)
  have b := flatMap_le f m l (fun y hy => h y (by simp [hy]))
  simp only [List.flatMap_cons, List.length_append, List.length_cons, Nat.add_mul, Nat.one_mul]
  omega
theorem stepP_len {b : BoardD} (hb : BoardOk b) (h1 : 1 ≤ b.cells) (side : Int) (now : List PathD) (x : Int × Int) : (stepP b side now x).length ≤ now.length * if x.1 = 2 then b.cells.toNat else 1 :=
 flatMap_le _ _ _ (fun w _ => extP_len hb h1 side w x)
theorem foldP_len {b : BoardD} (hb : BoardOk b) (h1 : 1 ≤ b.cells) (side : Int) : ∀ (prog : List (Int × Int)) (now : List PathD), (prog.foldl (stepP b side) now).length ≤ now.length * b.cells.toNat ^ countOp prog 2
 | [], now => by simp [countOp]
 | x :: prog, now => by
  have h := foldP_len hb h1 side prog (stepP b side now x)
  have k := stepP_len hb h1 side now x
  rw [List.foldl_cons]
  refine Nat.le_trans h ?_
  refine Nat.le_trans (Nat.mul_le_mul_right _ k) ?_
  unfold countOp at *
  rw [List.countP_cons, Nat.mul_assoc]
  refine Nat.mul_le_mul_left _ ?_
  by_cases h2 : x.1 = 2
  ·simp [h2, Nat.pow_succ, Nat.mul_comm]
  ·simp [h2]
theorem pathsP_len {b : BoardD} (hb : BoardOk b) (h1 : 1 ≤ b.cells) (side : Int) (prog : List (Int × Int)) (cell : Int) : (pathsP b side prog cell).length ≤ b.cells.toNat ^ countOp prog 2 := by
 have := foldP_len hb h1 side prog [⟨[], cell⟩]
 simpa [pathsP] using this
def ActsLe (n : Nat) (l : List PathD) : Prop := ∀ w ∈ l, w.acts.length ≤ n
theorem extP_acts {b : BoardD} (hb : BoardOk b) (h9 : b.cells ≤ 9) (side : Int) (p : PathD) (x : Int × Int) : ActsLe (p.acts.length + 10) (extP b side p x) := by
 intro w hw
 unfold extP at hw
 split at hw
 ·split at hw
  ·simp at hw
  ·split at hw <;> simp only [List.mem_singleton] at hw <;> subst hw <;> simp [onP]
 ·split at hw
  ·obtain ⟨more, e1, e2, _, _⟩ := slideP_mem hw
   have := lineB_le hb (side := side) (d := x.2) (c := p.to)
   rw [e1]; simp; omega
  ·split at hw <;> simp only [List.mem_singleton] at hw <;> subst hw <;> simp [onP]
theorem stepP_acts {b : BoardD} (hb : BoardOk b) (h9 : b.cells ≤ 9) (side : Int) {n : Nat} {now : List PathD} (hn : ActsLe n now) (x : Int × Int) : ActsLe (n + 10) (stepP b side now x) := by
 intro w hw
 obtain ⟨p, hp, hw⟩ := List.mem_flatMap.1 hw
 have := extP_acts hb h9 side p x w hw
 have := hn p hp
 omega
end Go.Av
end
section
/- Plain: laws of paths (layer 8): they are valid, turned, counted. -/
open Go Go.Proofs
namespace Go.Av
def ActOk (cells kinds rights : Int) (a : ActD) : Prop :=
 (3 ≤ a.1 ∧ a.1 ≤ 6 ∧ (0 ≤ a.2.1 ∧ a.2.1 < cells) ∧ a.2.2 = 0) ∨ (a.1 = 7 ∧ (0 ≤ a.2.1 ∧ a.2.1 < cells) ∧ (0 ≤ a.2.2 ∧ a.2.2 < cells)) ∨
 (a.1 = 8 ∧ (0 ≤ a.2.1 ∧ a.2.1 < kinds) ∧ a.2.2 = 0) ∨ ((a.1 = 9 ∨ a.1 = 10) ∧ (0 ≤ a.2.1 ∧ a.2.1 < rights) ∧ a.2.2 = 0)
def countA (l : List ActD) (op : Int) : Nat := l.countP (fun a => a.1 == op)
structure PathOk (cells kinds rights : Int) (w : PathD) (t p b : Nat) : Prop where
 to : 0 ≤ w.to ∧ w.to < cells
 acts : ∀ a ∈ w.acts, ActOk cells kinds rights a
 take : countA w.acts 6 ≤ t
 push : countA w.acts 7 ≤ p
 become : countA w.acts 8 ≤ b
theorem countA_append (l m : List ActD) (op : Int) : countA (l ++ m) op = countA l op + countA m op := by simp [countA]
theorem countA_slide {l : List Int} {m : List ActD} (h : ∀ a ∈ m, ∃ c ∈ l, a = (3, c, 0)) {op : Int} (ho : op ≠ 3) : countA m op = 0 := by
 unfold countA
 rw [List.countP_eq_zero]
 intro a ha
 obtain ⟨c, _, rfl⟩ := h a ha
 simpa using ho.symm
theorem countA_one (a : ActD) (op : Int) : countA [a] op = if a.1 = op then 1 else 0 := by simp [countA, List.countP_cons]
def isOp (x : Int × Int) (op : Int) : Nat := if x.1 = op then 1 else 0
theorem extP_ok {b : BoardD} (hb : BoardOk b) {kinds rights : Int} {side : Int} {w : PathD} {t p be : Nat} (hw : PathOk b.cells kinds rights w t p be) {x : Int × Int} (hx : StepOk b.next.length kinds rights x) :
  ∀ v ∈ extP b side w x, PathOk b.cells kinds rights v (t + isOp x 6) (p + isOp x 7) (be + isOp x 8) := by
 intro v hv
 obtain ⟨w1, w2, w3, w4, w5⟩ := hw
 obtain ⟨x1, x2, x3, x4, x5⟩ := hx
 have ht := toB_lt hb side x.2 w.to
 unfold extP at hv
 unfold isOp
 split at hv
 ·rename_i h17
  split at hv
  ·simp at hv
  ·split at hv
   ·simp only [List.mem_singleton] at hv
    subst hv
    refine ⟨by simp only [onP]; omega, by simpa [onP] using w2, ?_, ?_, ?_⟩ <;> simp only [onP, List.append_nil] <;> omega
   ·have e7 : x.1 = 7 := by omega
    simp only [List.mem_singleton] at hv
    subst hv
    refine ⟨w1, fun a ha => ?_, ?_, ?_, ?_⟩
    ·simp only [onP, List.mem_append, List.mem_singleton] at ha
     rcases ha with ha | rfl
     ·exact w2 a ha
     ·exact .inr (.inl ⟨rfl, w1, by simp only; omega⟩)
    all_goals simp only [onP, countA_append, countA_one, e7]; simp only [show ((7 : Int) = 6) = False by decide, show ((7 : Int) = 8) = False by decide, if_true, if_false]; omega
 ·split at hv
  ·rename_i h2
   obtain ⟨more, e1, e2, e3, e4⟩ := slideP_mem hv
   rw [List.append_nil] at e1
   refine ⟨lineB_mem hb _ e3, fun a ha => ?_, ?_, ?_, ?_⟩
   ·rw [e1, List.mem_append] at ha
    rcases ha with ha | ha
    ·exact w2 a ha
    ·obtain ⟨c, hc, rfl⟩ := e4 a ha
     exact .inl ⟨by simp, by simp, lineB_mem hb _ hc, rfl⟩
   all_goals rw [e1, countA_append, countA_slide e4 (by omega)]; omega
  ·split at hv
   ·rename_i h17 h2 h8
    simp only [List.mem_singleton] at hv
    subst hv
    refine ⟨w1, fun a ha => ?_, ?_, ?_, ?_⟩
    ·simp only [onP, List.mem_append, List.mem_singleton] at ha
     rcases ha with ha | rfl
     ·exact w2 a ha
     ·rcases h8 with h | h | h
      ·exact .inr (.inr (.inl ⟨h, x4 h, rfl⟩))
      ·exact .inr (.inr (.inr ⟨.inl h, x5 (.inl h), rfl⟩))
      ·exact .inr (.inr (.inr ⟨.inr h, x5 (.inr h), rfl⟩))
    all_goals simp only [onP, countA_append, countA_one]; omega
   ·rename_i h17 h2 h8
    simp only [List.mem_singleton] at hv
    subst hv
    refine ⟨w1, fun a ha => ?_, ?_, ?_, ?_⟩
    ·simp only [onP, List.mem_append, List.mem_singleton] at ha
     rcases ha with ha | rfl
     ·exact w2 a ha
     ·exact .inl ⟨by simp only; omega, by simp only; omega, w1, rfl⟩
    all_goals simp only [onP, countA_append, countA_one]; omega
theorem foldP_ok {b : BoardD} (hb : BoardOk b) {kinds rights : Int} {side : Int} : ∀ {prog : List (Int × Int)} {now : List PathD} {t p be : Nat}, (∀ w ∈ now, PathOk b.cells kinds rights w t p be) → (∀ x ∈ prog, StepOk b.next.length kinds rights x) →
  ∀ w ∈ prog.foldl (stepP b side) now, PathOk b.cells kinds rights w (t + countOp prog 6) (p + countOp prog 7) (be + countOp prog 8)
 | [], now, t, p, be, h, _, w, hw => by simpa [countOp] using h w hw
 | x :: prog, now, t, p, be, h, hx, w, hw => by
  rw [List.foldl_cons] at hw
  have := foldP_ok hb (side := side) (prog := prog) (now := stepP b side now x) (t := t + isOp x 6) (p := p + isOp x 7) (be := be + isOp x 8) (fun v hv => by
   obtain ⟨u, hu, hv⟩ := List.mem_flatMap.1 hv
   exact extP_ok hb (h u hu) (hx x (by simp)) v hv) (fun y hy => hx y (by simp [hy])) w hw
  have e : ∀ op, countOp (x :: prog) op = countOp prog op + isOp x op := fun op => by simp [countOp, List.countP_cons, isOp]
  rw [e, e, e]
  simpa [Nat.add_assoc, Nat.add_comm, Nat.add_left_comm] using this
theorem pathsP_ok {b : BoardD} (hb : BoardOk b) {kinds rights side : Int} {prog : List (Int × Int)} (hp : ∀ x ∈ prog, StepOk b.next.length kinds rights x) {cell : Int} (hc : 0 ≤ cell ∧ cell < b.cells) :
  ∀ w ∈ pathsP b side prog cell, PathOk b.cells kinds rights w (countOp prog 6) (countOp prog 7) (countOp prog 8) := by
 intro w hw
 have := foldP_ok hb (side := side) (kinds := kinds) (rights := rights) (prog := prog) (now := [⟨[], cell⟩]) (t := 0) (p := 0) (be := 0) (fun v hv => by
  simp only [List.mem_singleton] at hv
  subst hv
  exact ⟨hc, by simp, by simp [countA], by simp [countA], by simp [countA]⟩) hp w hw
 simpa using this
theorem kindP_ok {g : GameD} (hg : GOk g) {side : Int} {k : KindD} (hk : k ∈ g.kinds) {cell : Int} (hc : 0 ≤ cell ∧ cell < g.cells) : ∀ w ∈ kindP g.board side k.progs cell, PathOk g.cells g.kinds.length g.rights w 2 1 1 := by
 intro w hw
 obtain ⟨p, hp, hw⟩ := List.mem_flatMap.1 hw
 have ok := hg.pr k hk p hp
 obtain ⟨a, b, c, d, e⟩ := pathsP_ok hg.board (side := side) ok.st hc w hw
 exact ⟨a, b, Nat.le_trans c ok.take, Nat.le_trans d ok.push, Nat.le_trans e ok.become⟩
def cntCells (l : List (List PathD)) : Nat := (l.map (·.length)).sum
def cntSide (l : List (List (List PathD))) : Nat := (l.map cntCells).sum
def countC (c : CodeD) : Nat := cntSide c.1 + cntSide c.2
def progN (b : BoardD) (side : Int) (p : List (Int × Int)) : Nat := ((List.range b.cells.toNat).map fun (c : Nat) => (pathsP b side p c).length).sum
theorem sum_map_add {α : Type} (f g : α → Nat) : ∀ l : List α, (l.map fun x => f x + g x).sum = (l.map f).sum + (l.map g).sum
 | [] => rfl
 | x :: l => by simp [sum_map_add f g l]; omega
theorem sum_map_zero {α : Type} : ∀ l : List α, (l.map fun _ => 0).sum = 0
 | [] => rfl
 | x :: l => by simpa using sum_map_zero l
theorem sum_map_le {α : Type} (f : α → Nat) (m : Nat) : ∀ l : List α, (∀ x ∈ l, f x ≤ m) → (l.map f).sum ≤ l.length * m
 | [], _ => by simp
 | x :: l, h => by
  have := sum_map_le f m l (fun y hy => h y (by simp [hy]))
  have := h x (by simp)
  simp [Nat.add_mul]; omega
theorem cntCells_eq (b : BoardD) (side : Int) : ∀ progs : List (List (Int × Int)), cntCells (cellsP b side progs) = (progs.map (progN b side)).sum
 | [] => by
  unfold cntCells cellsP kindP
  simp only [List.flatMap_nil, List.map_map, List.map_nil, List.sum_nil]
  exact sum_map_zero _
 | p :: progs => by
  have ih := cntCells_eq b side progs
  unfold cntCells cellsP kindP at *
  rw [List.map_map] at ih ⊢
  simp only [List.flatMap_cons, List.map_cons, List.sum_cons, ← ih]
  unfold progN
  rw [← sum_map_add]
  congr 1
  refine List.map_congr_left fun c _ => ?_
  simp
theorem cntSide_eq (g : GameD) (side : Int) : cntSide (sideP g side) = (g.kinds.map fun k => (k.progs.map (progN g.board side)).sum).sum := by
 unfold cntSide sideP
 rw [List.map_map]
 congr 1
 refine List.map_congr_left fun k _ => ?_
 exact cntCells_eq _ _ _
def progW (g : GameD) (p : List (Int × Int)) : Nat := progN g.board 0 p + progN g.board 1 p
theorem countC_eq (g : GameD) : countC (codeP g) = (g.kinds.map fun k => (k.progs.map (progW g)).sum).sum := by
 unfold countC codeP
 rw [cntSide_eq, cntSide_eq, ← sum_map_add]
 congr 1
 refine List.map_congr_left fun k _ => ?_
 rw [← sum_map_add]
 rfl
def OneSlide (g : GameD) : Prop := ∀ k ∈ g.kinds, ∀ p ∈ k.progs, countOp p 2 ≤ 1
theorem progN_le {g : GameD} (hg : GOk g) (side : Int) {p : List (Int × Int)} (hs : countOp p 2 ≤ 1) : progN g.board side p ≤ 81 := by
 have c9 := hg.c9
 have c1 := hg.c1
 have := sum_map_le (fun (c : Nat) => (pathsP g.board side p c).length) 9 (List.range g.board.cells.toNat) (fun c _ => by
  have h := pathsP_len hg.board hg.c1 side p c
  have h2 : g.board.cells.toNat ≤ 9 := by have : g.board.cells = g.cells := rfl; omega
  rcases (show countOp p 2 = 0 ∨ countOp p 2 = 1 by omega) with e | e <;> rw [e] at h <;> simp at h <;> omega)
 have h2 : g.board.cells.toNat ≤ 9 := by have : g.board.cells = g.cells := rfl; omega
 rw [List.length_range] at this
 unfold progN
 omega
theorem countC_le {g : GameD} (hg : GOk g) (hs : OneSlide g) : countC (codeP g) ≤ 10000 := by
 rw [countC_eq]
 have := sum_map_le (fun k : KindD => (k.progs.map (progW g)).sum) 1296 g.kinds (fun k hk => by
  have := sum_map_le (progW g) 162 k.progs (fun p hp => by
   have a := progN_le hg 0 (hs k hk p hp)
   have b := progN_le hg 1 (hs k hk p hp)
   unfold progW; omega)
  have := hg.pn k hk
  omega)
 have := hg.k6
 omega
end Go.Av
end
section
/- Contracts, runs: same, only, slide, take, push of the reference. -/
open Go Go.Proofs
namespace Go.Av
theorem R5same_pure (a b : StD) (ha : FitsP a.p) (hb : FitsP b.p) : Pure Tryz.prog 300 [.agg (encState a), .agg (encState b)] (.v (.bool (decide (a = b)))) := by
 refine pF Tryz.func300 ?_
 have hC := Compare_pure _ _ ha hb
 have he := cmpP_eq (p := a.p) (q := b.p)
 obtain ⟨pa, ka, ca, ta⟩ := a
 obtain ⟨pb, kb, cb, tb⟩ := b
 simp only at hC he
 (repeat (first|with_reducible refine wV fun _=>?_|simp [go_sem]))
 refine aGC.plain _ (fun _ => hC) (by simp [go_sem]) ?_
 (repeat (first|with_reducible refine wV fun _=>?_|simp [go_sem]))
 refine LeV.of_eq ?_
 by_cases h1 : pa = pb <;> by_cases h2 : ka = kb <;> by_cases h3 : ca = cb <;> cases ta <;> cases tb <;> simp_all
theorem R5only_pure (s : StD) (b : Bool) : Pure Tryz.prog 301 [.agg (encState s), .v (.bool b)] (encSs (onlyS s b)) := by
 refine pF Tryz.func301 ?_
 cases b
 ·(repeat (first|with_reducible refine wV fun _=>?_|simp [go_sem, onlyS]))
  exact frX
 ·(repeat (first|with_reducible refine wV fun _=>?_|simp [go_sem, onlyS]))
  exact frX
theorem R5slide_pure (g : GameD) (hg : GOk g) (s : StD) (hs : StOk g s) (n : Int) : Pure Tryz.prog 302 [.agg (encGame g), .agg (encState s), .v (.int .i64 n)] (encSs (slideS g.board s n)) := by
 refine pF Tryz.func302 ?_
 have hL := R1Line_pure g.board hg.board s.p.side n s.cursor
 have hlm := lineB_mem hg.board (side := s.p.side) (d := n) (c := s.cursor)
 have hll := lineB_len (b := g.board) (side := s.p.side) (d := n) (c := s.cursor)
 have c9 := hg.c9
 have c1 := hg.c1
 have hal := hs.p.al
 rw [show g.board.cells = g.cells from rfl] at hlm hll
 unfold slideS
 generalize lineB g.board s.p.side n s.cursor = line at *
 generalize hR : slideGo s line = R
 (repeat (first|with_reducible refine wV fun _=>?_|simp [go_sem]))
 refine ACallP.plain hL (by simp [go_sem]) ?_
 (repeat (first|with_reducible refine wV fun _=>?_|simp [go_sem]))
 refine ALoop.start (ALoop.ind (α := Nat × List StD) (fun a => ⟨[(4, .ref 1 0 8 0 0), (7, .sl 2 a.2.length 8 0 a.2.length), (8, encIs line), (9, .v (.int .i64 a.1))], [(1, .rows true 0 8 [encState s]), (2, .rows true a.2.length 8 (a.2.map encState))], 3⟩)
  (fun d a => a.1 + d = line.length ∧ a.2.length = a.1 ∧ R = a.2 ++ slideGo s (line.drop a.1)) ?_ line.length (0, []) ?_) ?_ ?_
 ·rintro d ⟨i, out⟩ ⟨i1, i2, i3⟩ hrec
  simp only at i1 i2 i3
  (repeat (first|with_reducible refine wV fun _=>?_|simp [go_sem]))
  refine aIf.mkL (fun hi => ?_) (fun hi => ?_) <;> simp at hi
  ·have hli := hlm _ (nth_mem hi)
   have hlt : (nth line i).toNat < s.p.at_.length := by omega
   rw [dropG_cons hi, slideGo] at i3
   (repeat (first|with_reducible refine wV fun _=>?_|simp [go_sem, hi, hlt]))
   refine aIf.mkL (fun hz => ?_) (fun hz => ?_) <;> simp at hz
   ·rw [if_neg (by simpa using hz)] at i3
    (repeat (first|with_reducible refine wV fun _=>?_|simp [go_sem]))
    rw [i3]
    exact frX
   ·rw [if_pos (by simpa using hz)] at i3
    (repeat (first|with_reducible refine wV fun _=>?_|simp [go_sem]))
    refine ALoop.start (hrec (d - 1) (by omega) (i + 1, out ++ [{ s with cursor := nth line i }]) ⟨by simp only; omega, by simp; omega, by simpa using i3⟩) ?_ (by simp)
    simp [go_sem, Wk_eq]
  ·rw [List.drop_eq_nil_of_le hi, slideGo] at i3
   (repeat (first|with_reducible refine wV fun _=>?_|simp [go_sem]))
   rw [i3]
   exact frX
 ·simp [hR]
 ·simp [go_sem, Wk_eq]
 ·simp
theorem R5take_pure (g : GameD) (hg : GOk g) (s : StD) (hs : StOk g s) : Pure Tryz.prog 303 [.agg (encGame g), .agg (encState s)] (encSs (takeS g s)) := by
 refine pF Tryz.func303 ?_
 have hal := hs.p.al
 have hc0 := hs.c0
 have hc1 := hs.c1
 have hcur : s.cursor.toNat < s.p.at_.length := by omega
 have hO := R3Of_pure (nth s.p.at_ s.cursor.toNat)
 have hat := hs.p.at (i := s.cursor.toNat) (by omega)
 have hman := manOf_cases hat.1 hat.2 hg.k6
 have hcp := copied_owns s.p (hs.p.fits hg)
 unfold takeS
 generalize hm : manOf (nth s.p.at_ s.cursor.toNat) = m at *
 obtain ⟨mk, ms⟩ := m
 simp only [Prod.mk.injEq] at hman
 (repeat (first|with_reducible refine wV fun _=>?_|simp [go_sem, hcur]))
 refine ACallP.plain hO (by simp [go_sem]) ?_
 (repeat (first|with_reducible refine wV fun _=>?_|simp [go_sem]))
 refine aIf.mkL (fun hc => ?_) (fun hc => ?_) <;> simp at hc
 ·rw [if_pos hc]
  (repeat (first|with_reducible refine wV fun _=>?_|simp [go_sem]))
  exact frX
 ·rw [if_neg (by omega)]
  (repeat (first|with_reducible refine wV fun _=>?_|simp [go_sem]))
  refine ACallP.ownsPlain hcp (by simp [go_sem]) ?_
  have hmk : mk.toNat < g.kinds.length := by omega
  (repeat (first|with_reducible refine wV fun _=>?_|simp [go_sem, hcur, hmk]))
  refine aIf.mkL (fun hk => ?_) (fun hk => ?_)
  ·rw [if_pos hk]
   have hl0 := hs.p.h0.len
   have hl1 := hs.p.h1.len
   rcases hs.p.s with hsd | hsd
   ·have hmk0 : mk.toNat < s.p.h0.length := by omega
    have hmk' : 0 ≤ mk := by omega
    have hv := hs.p.h0.v _ hmk0
    (repeat (first|with_reducible refine wV fun _=>?_|simp [go_sem, hsd, hmk0, hcur]))
    refine aIf.mkL (fun h8 => ?_) (fun h8 => ?_) <;> simp at h8
    ·rw [if_pos (by simpa [PosD.hand, hsd] using h8)]
     (repeat (first|with_reducible refine wV fun _=>?_|simp [go_sem]))
     exact frX
    ·rw [if_neg (by simpa [PosD.hand, hsd] using h8)]
     (repeat (first|with_reducible refine wV fun _=>?_|simp [go_sem, hsd, PosD.withHand, PosD.hand, clr]))
     (first|done|exact dpX)
   ·have hmk0 : mk.toNat < s.p.h1.length := by omega
    have hmk' : 0 ≤ mk := by omega
    have hv := hs.p.h1.v _ hmk0
    (repeat (first|with_reducible refine wV fun _=>?_|simp [go_sem, hsd, hmk0, hcur]))
    refine aIf.mkL (fun h8 => ?_) (fun h8 => ?_) <;> simp at h8
    ·rw [if_pos (by simpa [PosD.hand, hsd] using h8)]
     (repeat (first|with_reducible refine wV fun _=>?_|simp [go_sem]))
     exact frX
    ·rw [if_neg (by simpa [PosD.hand, hsd] using h8)]
     (repeat (first|with_reducible refine wV fun _=>?_|simp [go_sem, hsd, PosD.withHand, PosD.hand, clr]))
     (first|done|exact dpX)
  ·rw [if_neg (by simpa using hk)]
   (repeat (first|with_reducible refine wV fun _=>?_|simp [go_sem, clr]))
   (first|done|exact dpX)
theorem R5push_pure (g : GameD) (hg : GOk g) (s : StD) (hs : StOk g s) (n : Int) : Pure Tryz.prog 304 [.agg (encGame g), .agg (encState s), .v (.int .i64 n)] (encSs (pushS g s n)) := by
 refine pF Tryz.func304 ?_
 have hT := R1To_pure g.board hg.board s.p.side n s.cursor
 (repeat (first|with_reducible refine wV fun _=>?_|simp [go_sem]))
 refine ACallP.plain hT (by simp [go_sem]) ?_
 have hal := hs.p.al
 have hc0 := hs.c0
 have hc1 := hs.c1
 have hcur : s.cursor.toNat < s.p.at_.length := by omega
 have hcp := copied_owns s.p (hs.p.fits hg)
 have hto := toB_lt hg.board s.p.side n s.cursor
 rw [show g.board.cells = g.cells from rfl] at hto
 unfold pushS
 generalize toB g.board s.p.side n s.cursor = to at *
 by_cases ht : to < 0
 ·rw [if_pos (.inr (.inl ht))]
  have ht0 : to.toNat = 0 := by omega
  have h0l : 0 < s.p.at_.length := by omega
  (repeat (first|with_reducible refine wV fun _=>?_|simp [go_sem, hcur, ht, ht0, h0l]))
  exact frX
 ·have htl : to.toNat < s.p.at_.length := by omega
  have ht' : 0 ≤ to := by omega
  (repeat (first|with_reducible refine wV fun _=>?_|simp [go_sem, hcur, ht, htl]))
  refine aIf.mkL (fun hc => ?_) (fun hc => ?_) <;> simp at hc
  ·rw [if_pos (by by_cases h : nth s.p.at_ s.cursor.toNat = 0; exact .inl h; exact .inr (hc.resolve_left h))]
   (repeat (first|with_reducible refine wV fun _=>?_|simp [go_sem]))
   exact frX
  ·rw [if_neg (by rintro (h | h); exact hc.1 h; exact h hc.2)]
   (repeat (first|with_reducible refine wV fun _=>?_|simp [go_sem, hcur]))
   refine ACallP.ownsPlain hcp (by simp [go_sem]) ?_
   (repeat (first|with_reducible refine wV fun _=>?_|simp [go_sem, hcur, htl]))
   (first|done|exact dpX)
end Go.Av
end
section
/- Our library, part 17: calls of functions that are given objects of ours and turn them. -/
namespace Go.Av
open Go

mutual
inductive Rn (σ : Nat → Nat) : AV → AV → Prop
 | same {x : AV} (h : Bel 0 x) : Rn σ x x
 | ref {o o' g sz i off : Nat} (h : o' = σ o) : Rn σ (.ref o g sz i off) (.ref o' g sz i off)
 | sl {o o' g sz i len : Nat} (h : o' = σ o) : Rn σ (.sl o g sz i len) (.sl o' g sz i len)
 | agg {xs ys : List AV} (h : RnL σ xs ys) : Rn σ (.agg xs) (.agg ys)
 | tup {xs ys : List AV} (h : RnL σ xs ys) : Rn σ (.tup xs) (.tup ys)
 | fn {f : Fn} {a b a' b' : List AV} (h : RnL σ a a') (h' : RnL σ b b') : Rn σ (.fn f a b) (.fn f a' b')
inductive RnL (σ : Nat → Nat) : List AV → List AV → Prop
 | nil : RnL σ [] []
 | cons {x y : AV} {xs ys : List AV} (h : Rn σ x y) (t : RnL σ xs ys) : RnL σ (x :: xs) (y :: ys)
end
inductive RnLL (σ : Nat → Nat) : List (List AV) → List (List AV) → Prop
 | same {rs : List (List AV)} (h : ∀ r ∈ rs, ∀ c ∈ r, Bel 0 c) : RnLL σ rs rs
 | nil : RnLL σ [] []
 | cons {x y : List AV} {xs ys : List (List AV)} (h : RnL σ x y) (t : RnLL σ xs ys) : RnLL σ (x :: xs) (y :: ys)
inductive RnO (σ : Nat → Nat) : AObj → AObj → Prop
 | rows {mt : Bool} {g sz : Nat} {rs rs' : List (List AV)} (h : RnLL σ rs rs') : RnO σ (.rows mt g sz rs) (.rows mt g sz rs')
inductive RnH (σ : Nat → Nat) : List (Nat × AObj) → List (Nat × AObj) → Prop
 | nil : RnH σ [] []
 | cons {o o' : Nat} {x y : AObj} {l l' : List (Nat × AObj)} (e : o' = σ o) (h : RnO σ x y) (t : RnH σ l l') : RnH σ ((o, x) :: l) ((o', y) :: l')
section
variable {σ : Nat → Nat} {φ φ' : Place} {w : World} {M M' : Nat → Prop}
theorem Rn.rel (hφ : ∀ o, φ' (σ o) = φ o) (hM : ∀ k, M' k → M k) {x y : AV} (hs : Rn σ x y) : ∀ {v : Value}, Rel φ w M x v → Rel φ' w M' y v := by
 refine Rn.rec (σ := σ) (motive_1 := fun x y _ => ∀ {v : Value}, Rel φ w M x v → Rel φ' w M' y v) (motive_2 := fun xs ys _ => ∀ {vs : List Value}, RelL φ w M xs vs → RelL φ' w M' ys vs)
  ?_ ?_ ?_ ?_ ?_ ?_ ?_ ?_ hs
 ·intro x hb v hx; exact hx.closed hM hb
 ·intro o o' g sz i off e v hx
  subst e
  cases hx with | ref ho hg h => exact .ref (by rw [hφ]; exact ho) hg h
 ·intro o o' g sz i len e v hx
  subst e
  cases hx with | sl ho hg h => exact .sl (by rw [hφ]; exact ho) hg h
 ·intro xs ys _ ih v hx
  cases hx with | agg hv h => exact .agg hv (ih h)
 ·intro xs ys _ ih v hx
  cases hx with | tup h => exact .tup (ih h)
 ·intro f a b a' b' _ _ ih1 ih2 v hx
  cases hx with | fn h1 h2 => exact .fn (ih1 h1) (ih2 h2)
 ·intro vs hx; cases hx; exact .nil
 ·intro x y xs ys _ _ ih1 ih2 vs hx
  cases hx with | cons h t => exact .cons (ih1 h) (ih2 t)
theorem Rn.back {m : Nat} (hφ : ∀ o, o < m → φ o = φ' (σ o)) (hM : ∀ k, M k → M' k) {x y : AV} (hs : Rn σ x y) : Bel m x → ∀ {v : Value}, Rel φ' w M' y v → Rel φ w M x v := by
 refine Rn.rec (σ := σ) (motive_1 := fun x y _ => Bel m x → ∀ {v : Value}, Rel φ' w M' y v → Rel φ w M x v) (motive_2 := fun xs ys _ => (∀ c ∈ xs, Bel m c) → ∀ {vs : List Value}, RelL φ' w M' ys vs → RelL φ w M xs vs)
  ?_ ?_ ?_ ?_ ?_ ?_ ?_ ?_ hs
 ·intro x hb _ v hx; exact hx.closed hM hb
 ·intro o o' g sz i off e hb v hx
  subst e
  cases hb with | ref hb => cases hx with | ref ho hg h => exact .ref (by rw [hφ _ hb]; exact ho) hg h
 ·intro o o' g sz i len e hb v hx
  subst e
  cases hb with | sl hb => cases hx with | sl ho hg h => exact .sl (by rw [hφ _ hb]; exact ho) hg h
 ·intro xs ys _ ih hb v hx
  cases hb with | agg hb => cases hx with | agg hv h => exact .agg hv (ih hb h)
 ·intro xs ys _ ih hb v hx
  cases hb with | tup hb => cases hx with | tup h => exact .tup (ih hb h)
 ·intro f a b a' b' _ _ ih1 ih2 hb v hx
  cases hb with | fn hb hb' => cases hx with | fn h1 h2 => exact .fn (ih1 hb h1) (ih2 hb' h2)
 ·intro _ vs hx; cases hx; exact .nil
 ·intro x y xs ys _ _ ih1 ih2 hb vs hx
  cases hx with | cons h t => exact .cons (ih1 (hb _ (by simp)) h) (ih2 (fun c hc => hb c (by simp [hc])) t)
theorem RnL.rel (hφ : ∀ o, φ' (σ o) = φ o) (hM : ∀ k, M' k → M k) : ∀ {xs ys : List AV} {vs : List Value}, RnL σ xs ys → RelL φ w M xs vs → RelL φ' w M' ys vs
 | [], _, _, .nil, .nil => .nil
 | _ :: _, _, _, .cons h t, .cons h' t' => .cons (h.rel hφ hM h') (t.rel hφ hM t')
theorem RnL.back {m : Nat} (hφ : ∀ o, o < m → φ o = φ' (σ o)) (hM : ∀ k, M k → M' k) : ∀ {xs ys : List AV} {vs : List Value}, RnL σ xs ys → (∀ c ∈ xs, Bel m c) → RelL φ' w M' ys vs → RelL φ w M xs vs
 | [], _, _, .nil, _, .nil => .nil
 | _ :: _, _, _, .cons h t, hb, .cons h' t' => .cons (h.back hφ hM (hb _ (by simp)) h') (t.back hφ hM (fun c hc => hb c (by simp [hc])) t')
theorem RnL.length : ∀ {xs ys : List AV}, RnL σ xs ys → ys.length = xs.length
 | [], _, .nil => rfl
 | _ :: _, _, .cons _ t => by simp [t.length]
theorem RnLL.rel (hφ : ∀ o, φ' (σ o) = φ o) (hM : ∀ k, M' k → M k) {xs ys : List (List AV)} (hs : RnLL σ xs ys) :
  ∀ {vs : List Value}, RelL φ w M xs.flatten vs → RelL φ' w M' ys.flatten vs := by
 induction hs with
 | same h =>
  intro vs hx
  refine RelL.of_get hx.length fun k hk hk' => (hx.get k hk hk').closed hM ?_
  obtain ⟨r, hr, hc⟩ := List.mem_flatten.1 (List.getElem_mem hk)
  exact h r hr _ hc
 | nil => intro vs hx; cases hx; exact .nil
 | cons h _ ih =>
  intro vs hx
  rw [List.flatten_cons] at hx ⊢
  obtain ⟨us, ts, rfl, h1, h2⟩ := hx.split
  exact (h.rel hφ hM h1).append (ih h2)
theorem RnLL.back {m : Nat} (hφ : ∀ o, o < m → φ o = φ' (σ o)) (hM : ∀ k, M k → M' k) {xs ys : List (List AV)} (hs : RnLL σ xs ys) :
  (∀ r ∈ xs, ∀ c ∈ r, Bel m c) → ∀ {vs : List Value}, RelL φ' w M' ys.flatten vs → RelL φ w M xs.flatten vs := by
 induction hs with
 | same h =>
  intro _ vs hx
  refine RelL.of_get hx.length fun k hk hk' => (hx.get k hk hk').closed hM ?_
  obtain ⟨r, hr, hc⟩ := List.mem_flatten.1 (List.getElem_mem hk)
  exact h r hr _ hc
 | nil => intro _ vs hx; cases hx; exact .nil
 | cons h _ ih =>
  intro hb vs hx
  rw [List.flatten_cons] at hx ⊢
  obtain ⟨us, ts, rfl, h1, h2⟩ := hx.split
  exact (h.back hφ hM (hb _ (by simp)) h1).append (ih (fun r hr => hb r (by simp [hr])) h2)
theorem RnLL.shape {xs ys : List (List AV)} (hs : RnLL σ xs ys) : ys.length = xs.length ∧ (∀ sz, (∀ r ∈ xs, r.length = sz) → ∀ r ∈ ys, r.length = sz) ∧ ∀ sz, (∀ r ∈ ys, r.length = sz) → ∀ r ∈ xs, r.length = sz := by
 induction hs with
 | same h => exact ⟨rfl, fun _ h => h, fun _ h => h⟩
 | nil => exact ⟨rfl, fun _ h => h, fun _ h => h⟩
 | cons h _ ih =>
  refine ⟨by simp [ih.1], fun sz hr r hm => ?_, fun sz hr r hm => ?_⟩
  ·rcases List.mem_cons.1 hm with rfl | hm
   ·rw [h.length]; exact hr _ (by simp)
   ·exact ih.2.1 sz (fun r hr' => hr r (by simp [hr'])) r hm
  ·rcases List.mem_cons.1 hm with rfl | hm
   ·rw [← h.length]; exact hr _ (by simp)
   ·exact ih.2.2 sz (fun r hr' => hr r (by simp [hr'])) r hm
theorem RnH.at {l l' : List (Nat × AObj)} (hinj : ∀ a b, σ a = σ b → a = b) (hs : RnH σ l l') {o : Nat} {y : AObj} (ho : mkH l' o = some y) : ∃ o0 x, o = σ o0 ∧ mkH l o0 = some x ∧ RnO σ x y := by
 induction hs with
 | nil => cases ho
 | @cons o1 o1' x1 y1 l l' e1 h _ ih =>
  simp only [mkH, upd] at ho ⊢
  split at ho
  ·rename_i e
   cases ho
   exact ⟨o1, x1, e.trans e1, by simp, h⟩
  ·rename_i e
   obtain ⟨o0, x, rfl, h1, h2⟩ := ih ho
   refine ⟨o0, x, rfl, ?_, h2⟩
   rw [if_neg (fun h => e (by rw [h, e1]))]; exact h1
end
def ren (rs : List Nat) (n : Nat) (j : Nat) : Nat := if j < rs.length then rs.getD j 0 else n + (j - rs.length)
def remH : List Nat → Heap → Heap
 | [], h => h
 | o :: l, h => upd (remH l h) o none
theorem remH_eq (h : Heap) : ∀ (l : List Nat) (o : Nat), remH l h o = if o ∈ l then none else h o
 | [], o => by simp [remH]
 | a :: l, o => by
  simp only [remH, upd, List.mem_cons]
  by_cases e : o = a
  ·simp [e]
  ·simp [e, remH_eq h l o]
theorem ren_mem {rs : List Nat} {n j : Nat} (h : j < rs.length) : ren rs n j ∈ rs := by
 unfold ren; rw [if_pos h, List.getD_eq_getElem?_getD, List.getElem?_eq_getElem h]; exact List.getElem_mem h
theorem ren_inj {rs : List Nat} {n : Nat} (hd : rs.Nodup) (hlt : ∀ o ∈ rs, o < n) : ∀ a b, ren rs n a = ren rs n b → a = b := by
 intro a b he
 by_cases ha : a < rs.length <;> by_cases hb : b < rs.length
 ·unfold ren at he
  rw [if_pos ha, if_pos hb, List.getD_eq_getElem?_getD, List.getD_eq_getElem?_getD, List.getElem?_eq_getElem ha, List.getElem?_eq_getElem hb] at he
  exact (List.getElem_inj hd).1 (by simpa using he)
 ·have h1 := hlt _ (ren_mem (n := n) ha)
  rw [he] at h1
  unfold ren at h1
  rw [if_neg hb] at h1; omega
 ·have h1 := hlt _ (ren_mem (n := n) hb)
  rw [← he] at h1
  unfold ren at h1
  rw [if_neg ha] at h1; omega
 ·unfold ren at he
  rw [if_neg ha, if_neg hb] at he; omega
def OwnsA (P : Program) (f : FuncId) (args : List AV) (HA : List (Nat × AObj)) (m : Nat) (R0 : AV) (H0 : List (Nat × AObj)) (k2 : Nat) : Prop :=
 ACallP P f args (mkH HA) m (fun r h n' => Wk (fun _ => r) h n' [(0, R0)] H0 k2)
theorem ACallP.ownsA {P : Program} {f : FuncId} {args args' args0 : List AV} {h : Heap} {n m k2 : Nat} {K : CallK} {R0 R : AV} {HA H0 HH : List (Nat × AObj)} (rs : List Nat) (h' : Heap)
  (hp : OwnsA P f args0 HA m R0 H0 k2) (hd : rs.Nodup) (hlt : ∀ o ∈ rs, o < n) (hm : rs.length = m) (hmk : m ≤ k2) (hfz : Frz h h')
  (hA : ∀ j, j < m → ∃ x y, mkH HA j = some x ∧ h' (ren rs n j) = some y ∧ RnO (ren rs n) x y) (hAb : ∀ p ∈ HA, p.1 < m ∧ BelO m p.2)
  (hle : LeRow h h' n args args') (hb' : ∀ c ∈ args', Bel n c) (hargs0 : RnL (ren rs n) args0 args') (hb0 : ∀ c ∈ args0, Bel m c)
  (hR : Rn (ren rs n) R0 R) (hHH : RnH (ren rs n) H0 HH) (hk : K R (over HH (remH rs h')) (n + (k2 - m))) : ACallP P f args h n K := by
 refine ⟨hp.1, fun M0 φ w vs hH hargs => ?_⟩
 obtain ⟨hH', st0⟩ := hH.freeze hfz
 have hσ := ren_inj hd hlt
 have hmt : ∀ o g sz rs, h' o = some (.rows true g sz rs) → h o = some (.rows true g sz rs) := by
  intro o g sz rs ho
  rcases hfz o with h1 | ⟨g1, sz1, rs1, h1, h2⟩
  ·rw [← h1]; exact ho
  ·rw [h2] at ho; cases ho
 have hmut0 : ∀ k, Mut φ h' k → Mut φ h k := by
  rintro k ⟨o, g, sz, rs, g', a, bs, ho, hp, rfl⟩
  exact ⟨o, g, sz, rs, g', a, bs, hmt _ _ _ _ ho, hp, rfl⟩
 have hv : RelL φ w (Or M0 (Mut φ h')) args' vs := by
  refine LeRow.rel (φ' := φ) (n' := n) hH (fun {x v} _ hx => hx.keep φ.le_refl (fun _ _ _ => rfl) (fun k hk => .inl (hk.imp id (hmut0 k)))) ?_ (fun o g sz h1 _ h2 => by omega) hle hb' hargs
  rintro o mt g sz rs a bs ho hp ho' h0 (hk | ⟨o', g', sz', rs', g'', a', bs', ho1, hp1, he⟩)
  ·exact h0 hk
  ·have hne : o' ≠ o := fun e => by subst e; exact ho' _ _ _ ho1
   have ho0 := hmt _ _ _ _ ho1
   have hg : g'' = g' := by
    obtain ⟨A2, hA2, _⟩ := hH.obj _ _ _ _ _ ho0
    rw [hp1] at hA2
    simp only [Option.some.injEq, Prod.mk.injEq] at hA2
    exact hA2.1
   subst hg
   exact hH.inj _ _ _ _ _ _ _ _ _ _ _ _ _ _ ho0 ho hne (.inl rfl) hp1 hp he
 let hr : Heap := fun o => if o ∈ rs then none else h' o
 have hrmut : ∀ k, Mut φ hr k → Mut φ h' k := by
  rintro k ⟨o, g, sz, rs1, g', a, bs, ho, hp, rfl⟩
  simp only [hr] at ho
  split at ho
  ·cases ho
  ·exact ⟨o, g, sz, rs1, g', a, bs, ho, hp, rfl⟩
 let M1 : Nat → Prop := Or M0 (Mut φ hr)
 let φ0 : Place := fun j => if j < m then φ (ren rs n j) else none
 have hφ0 : ∀ j, j < m → φ0 j = φ (ren rs n j) := fun j hj => if_pos hj
 have hgiv : ∀ j mt g sz rws, mkH HA j = some (.rows mt g sz rws) → j < m ∧ ∃ rws', h' (ren rs n j) = some (.rows mt g sz rws') ∧ RnLL (ren rs n) rws rws' ∧ ∀ r ∈ rws, ∀ c ∈ r, Bel m c := by
  intro j mt g sz rws hj
  have hjm := hAb _ (mkH_mem hj)
  obtain ⟨x, y, h1, h2, h3⟩ := hA j hjm.1
  rw [hj] at h1
  cases h1
  cases h3 with
  | rows h3 => exact ⟨hjm.1, _, h2, h3, hjm.2⟩
 have hgmut : ∀ k, Mut φ0 (mkH HA) k → ∃ j, j < m ∧ ∃ g sz rws g' a bs, h' (ren rs n j) = some (.rows true g sz rws) ∧ φ (ren rs n j) = some (g', some (a, bs)) ∧ a.block = k := by
  rintro k ⟨j, g, sz, rws, g', a, bs, ho, hp, rfl⟩
  obtain ⟨hj, rws', h1, _⟩ := hgiv _ _ _ _ _ ho
  rw [hφ0 j hj] at hp
  exact ⟨j, hj, g, sz, rws', g', a, bs, h1, hp, rfl⟩
 have hgmut' : ∀ k, Mut φ0 (mkH HA) k → Mut φ h' k := fun k hk => by
  obtain ⟨j, _, g, sz, rws, g', a, bs, h1, h2, h3⟩ := hgmut k hk
  exact ⟨_, g, sz, rws, g', a, bs, h1, h2, h3⟩
 have hgen : ∀ {o mt g sz rws g' A}, h' o = some (.rows mt g sz rws) → φ o = some (g', A) → g' = g := by
  intro o mt g sz rws g' A ho hp
  obtain ⟨A2, hA2, _⟩ := hH'.obj _ _ _ _ _ ho
  rw [hp] at hA2
  simp only [Option.some.injEq, Prod.mk.injEq] at hA2
  exact hA2.1
 have hM1 : ∀ k, Or M1 (Mut φ0 (mkH HA)) k → Or M0 (Mut φ h') k := by
  rintro k ((hk | hk) | hk)
  ·exact .inl hk
  ·exact .inr (hrmut k hk)
  ·exact .inr (hgmut' k hk)
 have hH1 : HRel φ0 m w M1 (mkH HA) := by
  refine ⟨fun k hk => hH'.blk (hk.imp id (hrmut k)), fun o ho => if_neg (by omega), fun j mt g sz rws hj => ?_, fun o o' mt g sz rws mt' g' sz' rws' a a' b b' ho ho' hne hmm hp hp' => ?_, hH'.glob.keep (fun _ _ _ => rfl) (fun k hk => .inl (hM1 k hk))⟩
  ·obtain ⟨hjm, rws', h1, h2, h3⟩ := hgiv _ _ _ _ _ hj
   obtain ⟨A, hA1, hc⟩ := hH'.obj _ _ _ _ _ h1
   refine ⟨A, by rw [hφ0 j hjm]; exact hA1, hc.imp (fun h => ⟨h.1, ?_⟩) ?_⟩
   ·obtain ⟨_, rfl⟩ := h
    exact List.eq_nil_of_length_eq_zero h2.shape.1.symm
   ·rintro ⟨a, bs, c1, c3, hd⟩
    refine ⟨a, bs, c1, ?_, hd.turn rfl h2.shape.1.symm (h2.shape.2.2 sz) (fun c9 => h2.back hφ0 hM1 h3 c9)⟩
    ·rintro (hk | ⟨o', g1, sz1, rs1, g1', a', bs', ho1, hp1, he⟩)
     ·exact c3 hk
     ·simp only [hr] at ho1
      split at ho1
      ·cases ho1
      ·rename_i hni
       obtain rfl := hgen ho1 hp1
       subst c1
       exact hH'.inj _ _ _ _ _ _ _ _ _ _ _ _ _ _ ho1 h1 (fun e => hni (e ▸ ren_mem (by omega))) (.inl rfl) hp1 hA1 he
  ·obtain ⟨hj, r1, h1, _⟩ := hgiv _ _ _ _ _ ho
   obtain ⟨hj', r1', h1', _⟩ := hgiv _ _ _ _ _ ho'
   rw [hφ0 o hj] at hp
   rw [hφ0 o' hj'] at hp'
   exact hH'.inj _ _ _ _ _ _ _ _ _ _ _ _ _ _ h1 h1' (fun e => hne (hσ _ _ e)) hmm hp hp'
 have hargs1 : RelL φ0 w (Or M1 (Mut φ0 (mkH HA))) args0 vs := hargs0.back hφ0 hM1 hb0 hv
 refine (hp.2 _ φ0 w vs hH1 hargs1).mono ?_
 rintro e w' ⟨v, φ1, r, h1, n', rfl, hK, hH2, hx, st⟩
 obtain ⟨φ2, hH3, hx3, hm3, hst⟩ := hK.sound hH2 (tmps := fun _ => v) (fun _ => hx)
 have hx3 := hx3 0
 simp only [mkE, upd_same] at hx3
 have hlater : ∀ j x, j < m → φ (ren rs n j) = some x → ∃ x', φ2 j = some x' ∧ x.1 ≤ x'.1 ∧ (x'.1 = x.1 → x' = x) := by
  intro j x hj hx
  obtain ⟨x', h1, h2, h3⟩ := st.le j x (by rw [hφ0 j hj]; exact hx)
  exact ⟨x', hst j x' (by omega) h1, h2, h3⟩
 let φ3 : Place := fun o => if o ∈ rs then φ2 (rs.idxOf o) else if o < n then φ o else φ2 (o - n + m)
 have hidx : ∀ j, j < m → rs.idxOf (ren rs n j) = j := by
  intro j hj
  have h1 := List.idxOf_lt_length_of_mem (ren_mem (rs := rs) (n := n) (j := j) (by omega))
  refine hσ _ _ ?_
  have h2 := List.getElem_idxOf h1
  unfold ren at h1 h2 ⊢
  rw [if_pos h1, List.getD_eq_getElem?_getD, List.getElem?_eq_getElem h1]
  exact h2
 have e3 : ∀ o, φ3 (ren rs n o) = φ2 o := by
  intro o
  by_cases ho : o < m
  ·simp only [φ3]
   rw [if_pos (ren_mem (by omega)), hidx o ho]
  ·have hge : ren rs n o = n + (o - m) := by unfold ren; rw [if_neg (by omega), hm]
   simp only [φ3]
   rw [hge, if_neg (fun hmem => by have := hlt _ hmem; omega), if_neg (by omega)]
   congr 1; omega
 have e3' : ∀ o, o < n → o ∉ rs → φ3 o = φ o := fun o ho hni => by simp only [φ3]; rw [if_neg hni, if_pos ho]
 have hltn : ∀ o x, φ o = some x → o < n := fun o x ho => Nat.lt_of_not_le fun hle => by rw [hH.fresh o hle] at ho; cases ho
 have hren : ∀ o, o ∈ rs → ∃ j, j < m ∧ o = ren rs n j := by
  intro o ho
  obtain ⟨j, hj, rfl⟩ := List.getElem_of_mem ho
  exact ⟨j, by omega, by unfold ren; rw [if_pos hj, List.getD_eq_getElem?_getD, List.getElem?_eq_getElem hj]; rfl⟩
 have hle3 : φ.le φ3 := by
  intro o x ho
  by_cases hmem : o ∈ rs
  ·obtain ⟨j, hj, rfl⟩ := hren o hmem
   rw [e3]; exact hlater j x hj ho
  ·exact ⟨x, by rw [e3' o (hltn _ _ ho) hmem]; exact ho, Nat.le_refl _, fun _ => rfl⟩
 have hheap : ∀ k, k < w.heap.size → ¬ Mut φ0 (mkH HA) k → w'.heap[k]? = w.heap[k]? := fun k hk hn => st.fr.block k hk hn
 have hsrc : ∀ o y, over HH (remH rs h') o = some y → (∃ o0 x, o = ren rs n o0 ∧ mkH H0 o0 = some x ∧ RnO (ren rs n) x y) ∨ (o < n ∧ o ∉ rs ∧ h' o = some y) := by
  intro o x ho
  rw [over_eq] at ho
  split at ho
  ·rename_i y hy
   cases ho
   exact .inl (hHH.at hσ hy)
  ·rw [remH_eq] at ho
   split at ho
   ·cases ho
   ·rename_i hni
    cases x with
    | rows mt g sz rws =>
     obtain ⟨A, hA, _⟩ := hH'.obj _ _ _ _ _ ho
     exact .inr ⟨hltn _ _ hA, hni, ho⟩
 have hmut : ∀ k, Mut φ3 (over HH (remH rs h')) k → Mut φ2 (mkH H0) k ∨ Mut φ hr k := by
  rintro k ⟨o, g, sz, rws, g', a, bs, ho, hp, rfl⟩
  rcases hsrc o _ ho with ⟨o0, x, rfl, h1, h2⟩ | ⟨h1, hni, h2⟩
  ·cases h2 with
   | rows h2 => rw [e3] at hp; exact .inl ⟨o0, g, sz, _, g', a, bs, h1, hp, rfl⟩
  ·rw [e3' o h1 hni] at hp
   exact .inr ⟨o, g, sz, rws, g', a, bs, by simp only [hr]; rw [if_neg hni]; exact h2, hp, rfl⟩
 have hmnew : ∀ k, Mut φ2 (mkH H0) k → Mut φ0 (mkH HA) k ∨ w.heap.size ≤ k := fun k hk => st.mutd k (hm3 k hk)
 have hsub : ∀ k, Or M0 (Mut φ3 (over HH (remH rs h'))) k → Or M1 (Mut φ2 (mkH H0)) k := fun k hk => hk.elim (fun h => .inl (.inl h)) fun h => (hmut k h).elim .inr fun h => .inl (.inr h)
 have hmutd : ∀ k, Mut φ3 (over HH (remH rs h')) k → Mut φ h' k ∨ w.heap.size ≤ k := fun k hk =>
  (hmut k hk).elim (fun h => (hmnew k h).imp (hgmut' k) id) fun h => .inl (hrmut k h)
 have hsub' : ∀ k, Or M0 (Mut φ3 (over HH (remH rs h'))) k → Or M0 (Mut φ h') k ∨ w.heap.size ≤ k := fun k hk => hk.elim (fun h => .inl (.inl h)) fun h => (hmutd k h).imp .inr id
 have hblk : ∀ o x g' a bs, h' o = some x → φ o = some (g', some (a, bs)) → a.block < w.heap.size := by
  intro o x g' a bs ho hp
  cases x with
  | rows mt g sz rws =>
   obtain ⟨A, hA, hc⟩ := hH'.obj _ _ _ _ _ ho
   rw [hp] at hA
   simp only [Option.some.injEq, Prod.mk.injEq] at hA
   obtain ⟨rfl, rfl⟩ := hA
   rcases hc with ⟨h, _⟩ | ⟨a', bs', h, _, h2⟩
   ·cases h
   ·simp only [Option.some.injEq, Prod.mk.injEq] at h
    obtain ⟨rfl, rfl⟩ := h
    exact h2.blk
 have hkeep : ∀ o mt g sz rws g' a bs, o ∉ rs → h' o = some (.rows mt g sz rws) → φ o = some (g', some (a, bs)) → ¬ Mut φ0 (mkH HA) a.block := by
  intro o mt g sz rws g' a bs hni ho hp hk
  obtain ⟨j, hj, g1, sz1, rws1, g1', a1, bs1, q1, q2, q3⟩ := hgmut _ hk
  obtain rfl := hgen ho hp
  obtain rfl := hgen q1 q2
  exact hH'.inj _ _ _ _ _ _ _ _ _ _ _ _ _ _ q1 ho (fun e => hni (e ▸ ren_mem (by omega))) (.inl rfl) q2 hp q3
 have hfar : ∀ o0 mt g sz rws g' a bs o' y g1 a' b', mkH H0 o0 = some (.rows mt g sz rws) → φ2 o0 = some (g', some (a, bs)) → o' ∉ rs → h' o' = some y → φ o' = some (g1, some (a', b')) →
   (mt = true ∨ ∃ g sz rs, y = .rows true g sz rs) → a.block ≠ a'.block := by
  intro o0 mt g sz rws g' a bs o' y g1 a' b' q1 q2 hni q3 q4 hmm
  have hb1 := hblk _ _ _ _ _ q3 q4
  rcases hmm with rfl | ⟨g2, sz2, rs2, rfl⟩
  ·rcases hmnew a.block ⟨o0, g, sz, rws, _, a, bs, q1, q2, rfl⟩ with hk | hk
   ·intro he
    cases y with
    | rows mt1 g1' sz1 rws1 => exact hkeep _ _ _ _ _ _ _ _ hni q3 q4 (he ▸ hk)
   ·omega
  ·intro he
   obtain ⟨A, hA, hc⟩ := hH3.obj _ _ _ _ _ q1
   rw [q2] at hA
   simp only [Option.some.injEq, Prod.mk.injEq] at hA
   obtain ⟨_, rfl⟩ := hA
   rcases hc with ⟨h, _⟩ | ⟨a1, bs1, h, hn0, _⟩
   ·cases h
   ·simp only [Option.some.injEq, Prod.mk.injEq] at h
    obtain ⟨rfl, rfl⟩ := h
    exact hn0 (.inr ⟨o', g2, sz2, rs2, _, a', b', by simp only [hr]; rw [if_neg hni]; exact q3, q4, he.symm⟩)
 refine ⟨v, φ3, R, over HH (remH rs h'), n + (k2 - m), rfl, hk, ⟨fun k hk => Nat.lt_of_lt_of_le (hH.m0 k hk) st.fr.size, fun o ho => ?_, fun o mt g sz rws ho => ?_, fun o o' mt g sz rws mt' g' sz' rws' a a' b b' ho ho' hne hmm hp hp' => ?_,
   hH'.glob.keep (fun k hn hk => hheap k hk (fun hg => hn (.inr (hgmut' k hg)))) hsub'⟩,
  hR.rel e3 hsub hx3, st0.trans ⟨hle3, hsub', ⟨st.fr.os, st.fr.tape, st.fr.output, st.fr.drawn, st.fr.size, fun k hk hn => hheap k hk (fun hg => hn (hgmut' k hg))⟩, hmutd⟩⟩
 ·have h1 : ren rs n (o - n + m) = o := by unfold ren; rw [if_neg (by omega)]; omega
  rw [← h1, e3]; exact hH3.fresh _ (by omega)
 ·rcases hsrc o _ ho with ⟨o0, x, rfl, h1, h2⟩ | ⟨h1, hni, h2⟩
  ·cases h2 with
   | rows hs =>
    obtain ⟨A, hA, hc⟩ := hH3.obj _ _ _ _ _ h1
    refine ⟨A, by rw [e3]; exact hA, hc.imp (fun h => ⟨h.1, ?_⟩) ?_⟩
    ·obtain ⟨_, rfl⟩ := h
     exact List.eq_nil_of_length_eq_zero hs.shape.1
    ·rintro ⟨a, bs, c1, c3, hd⟩
     exact ⟨a, bs, c1, fun hk => c3 (.inl hk), hd.turn rfl hs.shape.1 (hs.shape.2.1 sz) (fun c9 => hs.rel e3 hsub c9)⟩
  ·obtain ⟨A, hA, hc⟩ := hH'.obj _ _ _ _ _ h2
   refine ⟨A, by rw [e3' o h1 hni]; exact hA, hc.imp id ?_⟩
   rintro ⟨a, bs, c1, c3, hd⟩
   exact ⟨a, bs, c1, c3, hd.keep (hheap _ hd.blk (hkeep _ _ _ _ _ _ _ _ hni h2 (by rw [hA, c1]))) (fun c9 => c9.keep hle3 (fun k hn hk => hheap k hk (fun hg => hn (.inr (hgmut' k hg)))) hsub')⟩
 ·rcases hsrc o _ ho with ⟨o0, x, rfl, q1, q2⟩ | ⟨q1, qn, q2⟩ <;> rcases hsrc o' _ ho' with ⟨o0', x', rfl, q1', q2'⟩ | ⟨q1', qn', q2'⟩
  ·cases q2; cases q2'
   rw [e3] at hp hp'
   exact hH3.inj _ _ _ _ _ _ _ _ _ _ _ _ _ _ q1 q1' (fun e => hne (by rw [e])) hmm hp hp'
  ·cases q2
   rw [e3] at hp; rw [e3' o' q1' qn'] at hp'
   exact hfar _ _ _ _ _ _ _ _ _ _ _ _ _ q1 hp qn' q2' hp' (hmm.imp id fun h => by subst h; exact ⟨_, _, _, rfl⟩)
  ·cases q2'
   rw [e3' o q1 qn] at hp; rw [e3] at hp'
   exact Ne.symm (hfar _ _ _ _ _ _ _ _ _ _ _ _ _ q1' hp' qn q2 hp (hmm.symm.imp id fun h => by subst h; exact ⟨_, _, _, rfl⟩))
  ·rw [e3' o q1 qn] at hp; rw [e3' o' q1' qn'] at hp'
   exact hH'.inj _ _ _ _ _ _ _ _ _ _ _ _ _ _ q2 q2' hne hmm hp hp'
theorem Bel.mono {n m : Nat} (hnm : n ≤ m) {x : AV} (h : Bel n x) : Bel m x := by
 induction h with
 | top => exact .top
 | v x => exact .v x
 | agg _ ih => exact .agg ih
 | tup _ ih => exact .tup ih
 | lst _ ih => exact .lst ih
 | fp _ ih => exact .fp ih
 | ref h => exact .ref (by omega)
 | sl h => exact .sl (by omega)
 | mp h => exact .mp (by omega)
 | fn _ _ ih1 ih2 => exact .fn ih1 ih2
 | gd _ ih => exact .gd ih
theorem dCall.own1 {P : Program} {n : Nat} {ops : List Oper} {Q : Post} {m i : Nat} {rest : List Oper} {e : Env} {h : Heap} {acc : List DRec} {dst : Option Tmp} {f : FuncId} {first caps args args0 : List AV} {R0 R : AV} {o : Nat} {mt : Bool} {g g' sz : Nat} {rws rws' : List (List AV)}
  (hp : OwnsA P f args0 [(0, .rows mt g sz rws)] 1 R0 [(0, .rows true g' sz rws')] 1) (ho : h o = some (.rows mt g sz rws)) (hcl : ∀ r ∈ rws, ∀ c ∈ r, Bel 0 c) (hcl' : ∀ r ∈ rws', ∀ c ∈ r, Bel 0 c)
  (hargs : ∀ n₁, RnL (ren [o] n₁) args0 (first ++ args ++ caps)) (hb0 : ∀ c ∈ args0, Bel 1 c) (hb : ∀ n₁, o < n₁ → ∀ c ∈ first ++ args ++ caps, Bel n₁ c)
  (hR : ∀ n₁, Rn (ren [o] n₁) R0 R) (hfl : Flat R ∨ ∃ g sz i len, R = .sl o g sz i len)
  (hk : adr P n ops Q m (i + 1) rest (put e dst R) (upd h o (some (.rows true g' sz rws'))) (acc ++ [([o], [o])])) : dCall P n ops Q m i rest dst (.fn (.func f) first caps) args e h acc := by
 refine ⟨R, [o], [(o, some (.rows true g' sz rws'))], .inr (.inr (.inl ⟨f, first, caps, rfl, ?_, ?_, ?_, fun h₁ n₁ hx hn => ?_⟩)), hk⟩
 ·intro o' ho'
  simp only [List.mem_singleton] at ho'
  subst ho'
  exact ⟨_, ho⟩
 ·intro p hp
  simp only [List.mem_singleton] at hp
  subst hp
  exact ⟨by simp, g', sz, rws', rfl, hcl'⟩
 ·exact hfl.imp id fun ⟨g, sz, i, len, h⟩ => ⟨o, g, sz, i, len, h, by simp⟩
 ·have hon := hn o (by simp)
  have r0 : ren [o] n₁ 0 = o := rfl
  refine ACallP.ownsA (args' := first ++ args ++ caps) (HH := [(o, .rows true g' sz rws')]) [o] h₁ hp (by simp) (by simpa using hon) rfl (Nat.le_refl _) (.refl _) ?_ ?_ (.refl _ _ _ _) (hb n₁ hon) (hargs n₁) hb0 (hR n₁)
   (.cons r0.symm (.rows (.same hcl')) .nil) ⟨rfl, ?_, rfl⟩
  ·intro j hj
   obtain rfl : j = 0 := by omega
   exact ⟨.rows mt g sz rws, .rows mt g sz rws, by simp [mkH, upd_same], by rw [r0, ← hx o (by simp)]; exact ho, .rows (.same hcl)⟩
  ·intro p hp
   simp only [List.mem_singleton] at hp
   subst hp
   refine ⟨by simp, fun r hr c hc => ?_⟩
   exact Bel.mono (Nat.zero_le _) (hcl r hr c hc)
  ·funext a
   simp only [over, remH, applyW, upd]
   split <;> rfl
theorem dCall.owns {P : Program} {n : Nat} {ops : List Oper} {Q : Post} {m i : Nat} {rest : List Oper} {e : Env} {h : Heap} {acc : List DRec} {dst : Option Tmp} {f : FuncId} {first caps args args' : List AV} {R : Nat → AV} {HH : Nat → List (Nat × AObj)} {k2 : Nat}
  (b : Nat) (hbb : b = n + ops.length + 16 * i) (hp : Owns P f args' R HH k2) (hk16 : k2 ≤ 16) (hnR : NoFz (R 0)) (hnH : ∀ p ∈ HH 0, NoFzO p.2) (hle : ∀ h₁ : Heap, LeRow h₁ noH 0 (first ++ args ++ caps) args') (hb : ∀ c ∈ args', Bel 0 c)
  (hnd : ((HH b).map (·.1)).Nodup) (hk : adr P n ops Q m (i + 1) rest (put e dst (R b)) (over (HH b) h) (acc ++ [([newMark], (HH b).map (·.1))])) : dCall P n ops Q m i rest dst (.fn (.func f) first caps) args e h acc := by
 subst hbb
 refine ⟨R _, [newMark], (HH (n + ops.length + 16 * i)).map (fun p => (p.1, some p.2)), .inr (.inr (.inr ⟨f, first, caps, args', R 0, HH 0, HH (n + ops.length + 16 * i), k2, rfl, by simp, hk16, hb, hp.1, hnR, hnH, (hp.2 _).1, (hp.2 _).2, hnd, rfl, fun h₁ _ => hle h₁⟩)), ?_⟩
 rw [applyW_over hnd, List.map_map]
 exact hk
theorem dCall.ownsR {P : Program} {n : Nat} {ops : List Oper} {Q : Post} {m i : Nat} {rest : List Oper} {e : Env} {h : Heap} {acc : List DRec} {dst : Option Tmp} {f : FuncId} {first caps args args' : List AV} {R : Nat → AV} {HH : Nat → List (Nat × AObj)} {k2 : Nat}
  (S : List Nat) (b : Nat) (hbb : b = n + ops.length + 16 * i) (hp : Owns P f args' R HH k2) (hk16 : k2 ≤ 16) (hnR : NoFz (R 0)) (hnH : ∀ p ∈ HH 0, NoFzO p.2) (hle : ∀ h₁ : Heap, (∀ o ∈ S, h o = h₁ o) → LeRow h₁ noH 0 (first ++ args ++ caps) args') (hb : ∀ c ∈ args', Bel 0 c)
  (hnd : ((HH b).map (·.1)).Nodup) (hk : adr P n ops Q m (i + 1) rest (put e dst (R b)) (over (HH b) h) (acc ++ [(newMark :: S, (HH b).map (·.1))])) : dCall P n ops Q m i rest dst (.fn (.func f) first caps) args e h acc := by
 subst hbb
 refine ⟨R _, newMark :: S, (HH (n + ops.length + 16 * i)).map (fun p => (p.1, some p.2)), .inr (.inr (.inr ⟨f, first, caps, args', R 0, HH 0, HH (n + ops.length + 16 * i), k2, rfl, by simp, hk16, hb, hp.1, hnR, hnH, (hp.2 _).1, (hp.2 _).2, hnd, rfl, fun h₁ h2 => hle h₁ fun o ho => h2 o (List.mem_cons_of_mem _ ho)⟩)), ?_⟩
 rw [applyW_over hnd, List.map_map]
 exact hk
end Go.Av
end
section
/- Contracts, runs: Step, add of the reference. -/
open Go Go.Proofs
namespace Go.Av
theorem addS_nil (l : List StD) : addS l [] = l := rfl
theorem addS_snoc (l more : List StD) (s : StD) : addS l (more ++ [s]) = if s ∈ addS l more then addS l more else addS l more ++ [s] := by
 unfold addS; rw [List.foldl_append]; rfl
theorem addS_take (l more : List StD) {i : Nat} (h : i < more.length) : addS l (more.take (i + 1)) = if nth more i ∈ addS l (more.take i) then addS l (more.take i) else addS l (more.take i) ++ [nth more i] := by
 rw [List.take_add_one, List.getElem?_eq_getElem h, nth_eq _ _ h, Option.toList_some, addS_snoc]
theorem addS_len : ∀ (more l : List StD), l.length ≤ (addS l more).length ∧ (addS l more).length ≤ l.length + more.length
 | [], l => by simp [addS]
 | s :: more, l => by
  have e : addS l (s :: more) = addS (if s ∈ l then l else l ++ [s]) more := rfl
  rw [e]
  by_cases h : s ∈ l
  ·have := addS_len more l
   rw [if_pos h]; simp; omega
  ·have := addS_len more (l ++ [s])
   rw [if_neg h]; simp at this ⊢; omega
theorem addS_all {P : StD → Prop} : ∀ {more l : List StD}, (∀ s ∈ l, P s) → (∀ s ∈ more, P s) → ∀ s ∈ addS l more, P s
 | [], l, h, _ => h
 | s :: more, l, h, h' => by
  have e : addS l (s :: more) = addS (if s ∈ l then l else l ++ [s]) more := rfl
  rw [e]
  refine addS_all (fun t ht => ?_) (fun t ht => h' t (List.mem_cons_of_mem _ ht))
  split at ht
  ·exact h t ht
  ·rcases List.mem_append.1 ht with ht | ht
   ·exact h t ht
   ·simp at ht; subst ht; exact h' _ (by simp)
theorem R5add_owns (l more : List StD) (hl : l.length + more.length ≤ 17179869184) (h1 : ∀ s ∈ l, FitsP s.p) (h2 : ∀ s ∈ more, FitsP s.p) :
  OwnsA Tryz.prog 293 [.sl 0 l.length 8 0 l.length, encSs more] [(0, .rows true l.length 8 (l.map encState))] 1 (.sl 0 (addS l more).length 8 0 (addS l more).length) [(0, .rows true (addS l more).length 8 ((addS l more).map encState))] 1 := by
 unfold OwnsA
 refine ACallP.of_awp (by kernel_rfl) Tryz.func293 rfl rfl (Nat.le_of_ble_eq_true rfl) (by kernel_rfl) ?_
 (repeat (first|with_reducible refine wV fun _=>?_|simp [go_sem]))
 refine ALoop.start (ALoop.ind (α := Nat × List StD) (fun a => ⟨[(0, .sl 0 a.2.length 8 0 a.2.length), (1, encSs more), (5, .v (.int .i64 a.1))], [(0, .rows true a.2.length 8 (a.2.map encState))], 1⟩)
  (fun d a => a.1 + d = more.length ∧ a.2 = addS l (more.take a.1)) ?_ more.length (0, l) ?_) ?_ ?_
 ·rintro d ⟨i, out⟩ ⟨i1, i2⟩ hrec
  simp only at i1 i2
  have hol := addS_len (more.take i) l
  rw [← i2] at hol
  have hof : ∀ s ∈ out, FitsP s.p := by rw [i2]; exact addS_all h1 (fun s hs => h2 s (List.mem_of_mem_take hs))
  (repeat (first|with_reducible refine wV fun _=>?_|simp [go_sem]))
  refine aIf.mkL (fun hi => ?_) (fun hi => ?_) <;> simp at hi
  ·have htl : (more.take i).length = i := by simp; omega
   have hfi := h2 _ (nth_mem hi)
   have hsu := addS_take l more hi
   rw [← i2] at hsu
   (repeat (first|with_reducible refine wV fun _=>?_|simp [go_sem]))
   refine ALoop.start (ALoop.ind (α := Nat) (fun k => ⟨[(0, .sl 0 out.length 8 0 out.length), (1, encSs more), (5, .v (.int .i64 i)), (6, .v (.bool (decide (nth more i ∈ out.take k)))), (7, .v (.int .i64 k))], [(0, .rows true out.length 8 (out.map encState))], 1⟩)
    (fun d k => k + d = out.length) ?_ out.length 0 ?_) ?_ ?_
   ·rintro d2 k k1 hrec2
    (repeat (first|with_reducible refine wV fun _=>?_|simp [go_sem]))
    refine aIf.mkL (fun hk => ?_) (fun hk => ?_) <;> simp at hk
    ·have hfk := hof _ (nth_mem hk)
     have htk : out.take (k + 1) = out.take k ++ [nth out k] := by rw [List.take_add_one, List.getElem?_eq_getElem hk, nth_eq _ _ hk]; rfl
     (repeat (first|with_reducible refine wV fun _=>?_|simp [go_sem, hi, hk]))
     refine dGC.plain _ (fun _ => R5same_pure _ _ hfk hfi) (by simp [go_sem]) ?_
     (repeat (first|with_reducible refine wV fun _=>?_|simp [go_sem, hi, hk]))
     refine ALoop.start (hrec2 (d2 - 1) (by omega) (k + 1) (by omega)) ?_ (by simp)
     simp [go_sem, Wk_eq, htk, eq_comm (a := nth more i) (b := nth out k)]
    ·have hkl : k = out.length := by omega
     subst hkl
     (repeat (first|with_reducible refine wV fun _=>?_|simp [go_sem]))
     by_cases hm : nth more i ∈ out
     ·rw [if_pos hm] at hsu
      (repeat (first|with_reducible refine wV fun _=>?_|simp [go_sem, hm]))
      refine ALoop.start (hrec (d - 1) (by omega) (i + 1, out) ⟨by simp only; omega, hsu.symm⟩) ?_ (by simp)
      simp [go_sem, Wk_eq]
     ·rw [if_neg hm] at hsu
      (repeat (first|with_reducible refine wV fun _=>?_|simp [go_sem, hm, hi]))
      refine ALoop.start (hrec (d - 1) (by omega) (i + 1, out ++ [nth more i]) ⟨by simp only; omega, hsu.symm⟩) ?_ (by simp)
      simp [go_sem, Wk_eq]
   ·omega
   ·simp [go_sem, Wk_eq]
   ·simp
  ·have hil : i = more.length := by omega
   subst hil
   rw [List.take_length] at i2
   rw [← i2]
   (repeat (first|with_reducible refine wV fun _=>?_|simp [go_sem]))
   simp [go_sem, Wk_eq]
 ·simp [addS_nil]
 ·simp [go_sem, Wk_eq]
 ·simp
theorem R5Step_pure (g : GameD) (hg : GOk g) (s : StD) (hs : StOk g s) (x : Int × Int) (hx : StepOk g.next.length g.kinds.length g.rights x) :
  Pure Tryz.prog 294 [.agg (encGame g), .agg (encState s), .agg (encStep x)] (encSs (stepS g s x)) := by
 refine pF Tryz.func294 ?_
 have hal := hs.p.al
 have hc0 := hs.c0
 have hc1 := hs.c1
 have hcur : s.cursor.toNat < s.p.at_.length := by omega
 have hat := hs.p.at (i := s.cursor.toNat) (by omega)
 have hO := R3Of_pure (nth s.p.at_ s.cursor.toNat)
 have hTo := fun n => R1To_pure g.board hg.board s.p.side n s.cursor
 have hOn := fun u b => R5only_pure u b
 have hSl := fun n => R5slide_pure g hg s hs n
 have hTk := R5take_pure g hg s hs
 have hPu := fun n => R5push_pure g hg s hs n
 have r0 := hg.r0
 have r4 := hg.r4
 obtain ⟨op, n⟩ := x
 obtain ⟨xo, xd, xz, xk, xr⟩ := hx
 simp only at xo xd xz xk xr
 unfold stepS
 generalize hm : manOf (nth s.p.at_ s.cursor.toNat) = m at *
 obtain ⟨mk, ms⟩ := m
 (repeat (first|with_reducible refine wV fun _=>?_|simp [go_sem, hcur]))
 refine ACallP.plain hO (by simp [go_sem]) ?_
 rcases (show op = 1 ∨ op = 2 ∨ op = 3 ∨ op = 4 ∨ op = 5 ∨ op = 6 ∨ op = 7 ∨ op = 8 ∨ op = 9 ∨ op = 10 by omega) with rfl | rfl | rfl | rfl | rfl | rfl | rfl | rfl | rfl | rfl
 ·(repeat (first|with_reducible refine wV fun _=>?_|simp [go_sem]))
  refine ACallP.plain (hTo n) (by simp [go_sem]) ?_
  (repeat (first|with_reducible refine wV fun _=>?_|simp [go_sem]))
  refine ACallP.plain (hOn { s with cursor := toB g.board s.p.side n s.cursor } _) (by simp [go_sem]) ?_
  (repeat (first|with_reducible refine wV fun _=>?_|simp [go_sem]))
 ·(repeat (first|with_reducible refine wV fun _=>?_|simp [go_sem]))
  refine ACallP.plain (hSl n) (by simp [go_sem]) ?_
  (repeat (first|with_reducible refine wV fun _=>?_|simp [go_sem]))
 ·(repeat (first|with_reducible refine wV fun _=>?_|simp [go_sem]))
  refine ACallP.plain (hOn s _) (by simp [go_sem]) ?_
  (repeat (first|with_reducible refine wV fun _=>?_|simp [go_sem]))
 ·(repeat (first|with_reducible refine wV fun _=>?_|simp [go_sem]))
  refine ACallP.plain (hOn s _) (by simp [go_sem]) ?_
  (repeat (first|with_reducible refine wV fun _=>?_|simp [go_sem]))
 ·(repeat (first|with_reducible refine wV fun _=>?_|simp [go_sem]))
  refine ACallP.plain (hOn s _) (by simp [go_sem]) ?_
  (repeat (first|with_reducible refine wV fun _=>?_|simp [go_sem]))
 ·(repeat (first|with_reducible refine wV fun _=>?_|simp [go_sem]))
  refine ACallP.plain hTk (by simp [go_sem]) ?_
  (repeat (first|with_reducible refine wV fun _=>?_|simp [go_sem]))
 ·(repeat (first|with_reducible refine wV fun _=>?_|simp [go_sem]))
  refine ACallP.plain (hPu n) (by simp [go_sem]) ?_
  (repeat (first|with_reducible refine wV fun _=>?_|simp [go_sem]))
 ·(repeat (first|with_reducible refine wV fun _=>?_|simp [go_sem]))
  exact frX
 ·have hn := xr (by omega)
  (repeat (first|with_reducible refine wV fun _=>?_|simp [go_sem]))
  refine dCall.plain (hOn s _) (by simp [go_sem]) ?_
  (repeat (first|with_reducible refine wV fun _=>?_|simp [go_sem]))
 ·have hn := xr (by omega)
  have hpn := pow_le16 hn.1 (show n ≤ 4 by omega)
  (repeat (first|with_reducible refine wV fun _=>?_|simp [go_sem]))
  exact frX
end Go.Av
end
section
/- Plain: runs of valid states. -/
open Go Go.Proofs
namespace Go.Av
def stageS (g : GameD) (p : PosD) (cell : Int) (prog : List (Int × Int)) (n : Nat) : List StD := (prog.take n).foldl (nextS g) [startS p cell]
theorem stageS_zero (g : GameD) (p : PosD) (cell : Int) (prog : List (Int × Int)) : stageS g p cell prog 0 = [startS p cell] := rfl
theorem stageS_succ (g : GameD) (p : PosD) (cell : Int) (prog : List (Int × Int)) {n : Nat} (h : n < prog.length) : stageS g p cell prog (n + 1) = nextS g (stageS g p cell prog n) (nth prog n) := by
 unfold stageS
 rw [List.take_add_one, List.getElem?_eq_getElem h, nth_eq _ _ h, Option.toList_some, List.foldl_append]; rfl
theorem stageS_last (g : GameD) (p : PosD) (cell : Int) (prog : List (Int × Int)) : stageS g p cell prog prog.length = lastS g p cell prog := by
 unfold stageS lastS; rw [List.take_length]
def partS (g : GameD) (now : List StD) (x : Int × Int) (n : Nat) : List StD := (now.take n).foldl (fun next s => addS next (stepS g s x)) []
theorem partS_zero (g : GameD) (now : List StD) (x : Int × Int) : partS g now x 0 = [] := rfl
theorem partS_succ (g : GameD) (now : List StD) (x : Int × Int) {n : Nat} (h : n < now.length) : partS g now x (n + 1) = addS (partS g now x n) (stepS g (nth now n) x) := by
 unfold partS
 rw [List.take_add_one, List.getElem?_eq_getElem h, nth_eq _ _ h, Option.toList_some, List.foldl_append]; rfl
theorem partS_all (g : GameD) (now : List StD) (x : Int × Int) : partS g now x now.length = nextS g now x := by
 unfold partS nextS; rw [List.take_length]
theorem partS_ok {g : GameD} (hg : GOk g) {now : List StD} {x : Int × Int} (hx : StepOk g.next.length g.kinds.length g.rights x) {side : Int} (hn : ∀ s ∈ now, StOk g s ∧ s.p.side = side) :
  ∀ n, n ≤ now.length → (∀ s ∈ partS g now x n, StOk g s ∧ s.p.side = side) ∧ (partS g now x n).length ≤ 10 * n := by
 intro n
 induction n with
 | zero => intro _; simp [partS]
 | succ n ih =>
  intro h
  obtain ⟨h1, h2⟩ := ih (by omega)
  have hs := hn _ (nth_mem (show n < now.length by omega))
  rw [partS_succ g now x (by omega)]
  refine ⟨addS_all h1 (fun s hs' => ?_), ?_⟩
  ·obtain ⟨k1, k2⟩ := stepS_ok hg hs.1 hx s hs'
   exact ⟨k1, k2.trans hs.2⟩
  ·have k1 := (addS_len (stepS g (nth now n) x) (partS g now x n)).2
   have k2 := stepS_len hg (nth now n) x
   omega
theorem startS_ok {g : GameD} (hg : GOk g) {p : PosD} (hp : POk g p) {cell : Int} (h0 : 0 ≤ cell) (h1 : cell < g.cells) (hm : 0 ≤ (manOf (nth p.at_ cell.toNat)).1) : StOk g (startS p cell) ∧ (startS p cell).p.side = p.side := by
 have hat := hp.at (i := cell.toNat) (by omega)
 have hk := manOf_cases hat.1 hat.2 hg.k6
 refine ⟨⟨hp.clr _, h0, h1, ?_⟩, rfl⟩
 simp only [startS]
 rcases hk with ⟨_, e⟩ | ⟨_, a, b, _⟩
 ·rw [e] at hm; simp at hm
 ·exact ⟨a, b⟩
theorem stageS_ok {g : GameD} (hg : GOk g) {p : PosD} (hp : POk g p) {cell : Int} (h0 : 0 ≤ cell) (h1 : cell < g.cells) (hm : 0 ≤ (manOf (nth p.at_ cell.toNat)).1)
  {prog : List (Int × Int)} (hpr : ∀ x ∈ prog, StepOk g.next.length g.kinds.length g.rights x) :
  ∀ n, n ≤ prog.length → (∀ s ∈ stageS g p cell prog n, StOk g s ∧ s.p.side = p.side) ∧ (stageS g p cell prog n).length ≤ 10 ^ n := by
 intro n
 induction n with
 | zero => intro _; rw [stageS_zero]; exact ⟨fun s hs => by simp at hs; subst hs; exact startS_ok hg hp h0 h1 hm, by simp⟩
 | succ n ih =>
  intro h
  obtain ⟨k1, k2⟩ := ih (by omega)
  rw [stageS_succ g p cell prog (by omega), ← partS_all]
  obtain ⟨j1, j2⟩ := partS_ok hg (hpr _ (nth_mem (show n < prog.length by omega))) k1 _ (Nat.le_refl _)
  refine ⟨j1, ?_⟩
  rw [Nat.pow_succ]
  omega
theorem pow10_le {n : Nat} (h : n ≤ 8) : 10 ^ n ≤ 100000000 := by
 have := Nat.pow_le_pow_right (n := 10) (by omega) h
 exact this
def stR (g : GameD) (p : PosD) (cell : Int) (prog : List (Int × Int)) (n : Nat) : List (List AV) := (List.range n).map fun j => [encSs (stageS g p cell prog j)]
theorem stR_succ (g : GameD) (p : PosD) (cell : Int) (prog : List (Int × Int)) (n : Nat) : stR g p cell prog (n + 1) = stR g p cell prog n ++ [[encSs (stageS g p cell prog n)]] := by simp [stR, List.range_succ]
@[go_sem] theorem stR_len (g : GameD) (p : PosD) (cell : Int) (prog : List (Int × Int)) (n : Nat) : (stR g p cell prog n).length = n := by simp [stR]
@[go_sem ↓] theorem bel_stR {m : Nat} {g : GameD} {p : PosD} {cell : Int} {prog : List (Int × Int)} {n : Nat} : (∀ r ∈ stR g p cell prog n, ∀ c ∈ r, Bel m c) = True := by
 refine eq_true fun r hr c hc => ?_
 obtain ⟨j, _, rfl⟩ := List.mem_map.1 hr
 simp only [List.mem_cons, List.not_mem_nil, or_false] at hc
 subst hc
 exact of_eq_true bel_Sts
theorem nth_stR (g : GameD) (p : PosD) (cell : Int) (prog : List (Int × Int)) {n j : Nat} (h : j < n) : nth (stR g p cell prog n) j = [encSs (stageS g p cell prog j)] := by
 unfold stR; rw [nth_map _ _ _ (by simpa using h)]; simp [nth, h]
theorem bel_encSs {n : Nat} (l : List StD) : Bel n (encSs l) := of_eq_true bel_Sts
structure ChoiceOk (g : GameD) (p : PosD) (cell i : Int) : Prop where
 c0 : 0 ≤ cell
 c1 : cell < g.cells
 man : 0 ≤ (manOf (nth p.at_ cell.toNat)).1
 side : (manOf (nth p.at_ cell.toNat)).2 = p.side
 i0 : 0 ≤ i
 i1 : i < (nth g.kinds (manOf (nth p.at_ cell.toNat)).1.toNat).progs.length
end Go.Av
end
section
/- Plain: the outcomes of paths are those of programs (layer 8). -/
open Go Go.Proofs
namespace Go.Av
structure TkD where
 p : PosD
 kind : Int
 took : Bool
 deriving DecidableEq
instance : Inhabited TkD := ⟨⟨default, 0, false⟩⟩
def takeA (g : GameD) (side : Int) (t : TkD) (a : Int) : TkD × Bool :=
 let m := manOf (nth t.p.at_ a.toNat)
 if m.2 ≠ 1 - side then (t, false) else
 if (nth g.kinds m.1.toNat).keep = true then
  (⟨(clr t.p a).withHand side ((t.p.hand side).set m.1.toNat (nth (t.p.hand side) m.1.toNat + 1)), t.kind, true⟩, decide (nth (t.p.hand side) m.1.toNat + 1 ≤ 8))
 else (⟨clr t.p a, t.kind, true⟩, true)
def pushA (t : TkD) (a b : Int) : TkD × Bool :=
 if nth t.p.at_ a.toNat = 0 ∨ nth t.p.at_ b.toNat ≠ 0 then (t, false)
 else (⟨{ t.p with at_ := (t.p.at_.set b.toNat (nth t.p.at_ a.toNat)).set a.toNat 0 }, t.kind, t.took⟩, true)
def doA (g : GameD) (side : Int) (t : TkD) (x : ActD) : TkD × Bool :=
 if x.1 = 3 then (t, decide (nth t.p.at_ x.2.1.toNat = 0))
 else if x.1 = 4 then (t, decide ((manOf (nth t.p.at_ x.2.1.toNat)).2 = 1 - side))
 else if x.1 = 5 then (t, decide ((manOf (nth t.p.at_ x.2.1.toNat)).2 = side))
 else if x.1 = 6 then takeA g side t x.2.1
 else if x.1 = 7 then pushA t x.2.1 x.2.2
 else if x.1 = 8 then (⟨t.p, x.2.1, t.took⟩, true)
 else if x.1 = 9 then (t, decide (andN .i64 (t.p.rights.fdiv (2 ^ x.2.1.toNat)) 1 = 1))
 else if x.1 = 10 then (⟨{ t.p with rights := andNotN .i64 t.p.rights (2 ^ x.2.1.toNat) }, t.kind, t.took⟩, true)
 else (t, true)
def doAs (g : GameD) (side : Int) : TkD → List ActD → Option TkD
 | t, [] => some t
 | t, x :: l => if (doA g side t x).2 = true then doAs g side (doA g side t x).1 l else none
theorem doAs_append (g : GameD) (side : Int) : ∀ (l m : List ActD) (t : TkD), doAs g side t (l ++ m) = (doAs g side t l).bind fun t => doAs g side t m
 | [], m, t => rfl
 | x :: l, m, t => by
  simp only [List.cons_append, doAs]
  split
  ·exact doAs_append g side l m _
  ·rfl
def stT (t : TkD) (c : Int) : StD := ⟨t.p, t.kind, c, t.took⟩
def stW (g : GameD) (side : Int) (t : TkD) (w : PathD) : Option StD := (doAs g side t w.acts).map fun t => stT t w.to
theorem stW_onP (g : GameD) (side : Int) (t : TkD) (w : PathD) (to : Int) (more : List ActD) :
  stW g side t (onP w to more) = ((doAs g side t w.acts).bind fun t => doAs g side t more).map fun t => stT t to := by
 unfold stW onP
 rw [doAs_append]
theorem doA_empty (g : GameD) (side : Int) (t : TkD) (c : Int) : doA g side t (3, c, 0) = (t, decide (nth t.p.at_ c.toNat = 0)) := by simp [doA]
theorem slide_none {g : GameD} {side : Int} {t : TkD} {w : PathD} : ∀ {l : List Int} {passed : List ActD}, ((doAs g side t w.acts).bind fun t => doAs g side t passed) = none → (slideP w l passed).filterMap (stW g side t) = []
 | [], _, _ => rfl
 | c :: l, passed, h => by
  rw [slideP, List.filterMap_cons, stW_onP, h]
  refine slide_none ?_
  cases hd : doAs g side t w.acts with
  | none => rfl
  | some u =>
   rw [hd] at h
   simp only [Option.bind_some] at h ⊢
   rw [doAs_append, h]; rfl
theorem slide_some {g : GameD} {side : Int} {t u : TkD} {w : PathD} (hd : doAs g side t w.acts = some u) : ∀ {l : List Int} {passed : List ActD}, doAs g side u passed = some u →
  (slideP w l passed).filterMap (stW g side t) = slideGo (stT u w.to) l
 | [], _, _ => rfl
 | c :: l, passed, h => by
  rw [slideP, List.filterMap_cons, stW_onP, hd, Option.bind_some, h, slideGo]
  simp only [Option.map_some]
  congr 1
  have he : doAs g side u (passed ++ [(3, c, 0)]) = if nth u.p.at_ c.toNat = 0 then some u else none := by
   rw [doAs_append, h, Option.bind_some]
   simp only [doAs, doA_empty, decide_eq_true_eq]
  show _ = if nth u.p.at_ c.toNat = 0 then _ else _
  split
  ·rename_i h0
   rw [if_pos h0] at he
   exact slide_some hd he
  ·rename_i h0
   rw [if_neg h0] at he
   refine slide_none ?_
   rw [hd, Option.bind_some, he]
theorem extP_none {g : GameD} {side : Int} {t : TkD} {w : PathD} (h : doAs g side t w.acts = none) (x : Int × Int) : (extP g.board side w x).filterMap (stW g side t) = [] := by
 have ho : ∀ to more, stW g side t (onP w to more) = none := fun to more => by rw [stW_onP, h]; rfl
 unfold extP
 split
 ·split
  ·rfl
  ·split <;> simp [ho]
 ·split
  ·exact slide_none (by rw [h]; rfl)
  ·split <;> simp [ho]
theorem extP_some {g : GameD} (hg : GOk g) {side : Int} {t u : TkD} {w : PathD} (hd : doAs g side t w.acts = some u) (hs : StOk g (stT u w.to)) (hside : u.p.side = side) {x : Int × Int}
  (hx : StepOk g.next.length g.kinds.length g.rights x) : (extP g.board side w x).filterMap (stW g side t) = stepS g (stT u w.to) x := by
 have ho : ∀ to more, stW g side t (onP w to more) = (doAs g side u more).map fun t => stT t to := fun to more => by rw [stW_onP, hd]; rfl
 have one : ∀ to a, stW g side t (onP w to [a]) = if (doA g side u a).2 = true then some (stT (doA g side u a).1 to) else none := fun to a => by
  rw [ho]; simp only [doAs]; split <;> rfl
 have hsl := hs.p.s
 have hat := hs.p.at (i := w.to.toNat) (by have := hs.c0; have := hs.c1; simp only [stT] at *; omega)
 have hm := manOf_cases hat.1 hat.2 hg.k6
 have hto := toB_lt hg.board side x.2 w.to
 have ht := hx.op
 simp only [stT] at hsl hat hm
 rw [hside] at hsl
 unfold stepS extP
 simp only [show (stT u w.to).p = u.p from rfl, show (stT u w.to).cursor = w.to from rfl, hside]
 by_cases h1 : x.1 = 1
 ·simp only [h1, true_or, if_true]
  by_cases hn : toB g.board side x.2 w.to < 0
  ·rw [if_pos hn, show decide (0 ≤ toB g.board side x.2 w.to) = false by simpa using hn]; rfl
  ·rw [if_neg hn, show decide (0 ≤ toB g.board side x.2 w.to) = true by simpa using hn]
   simp only [List.filterMap_cons, ho, doAs, Option.map_some, List.filterMap_nil, onlyS, if_true, stT]
 by_cases h7 : x.1 = 7
 ·simp only [h7, or_true, if_true, show ((7 : Int) = 1) = False by decide, show ((7 : Int) = 2) = False by decide, show ((7 : Int) = 3) = False by decide, show ((7 : Int) = 4) = False by decide,
   show ((7 : Int) = 5) = False by decide, show ((7 : Int) = 6) = False by decide, if_false, pushS]
  simp only [show (stT u w.to).p = u.p from rfl, show (stT u w.to).cursor = w.to from rfl, hside]
  by_cases hn : toB g.board side x.2 w.to < 0
  ·rw [if_pos hn, if_pos (.inr (.inl hn))]; rfl
  ·rw [if_neg hn]
   simp only [List.filterMap_cons, List.filterMap_nil, one, doA, show ((7 : Int) = 3) = False by decide, show ((7 : Int) = 4) = False by decide, show ((7 : Int) = 5) = False by decide,
    show ((7 : Int) = 6) = False by decide, if_false, if_true, pushA]
   by_cases hc : nth u.p.at_ w.to.toNat = 0 ∨ nth u.p.at_ (toB g.board side x.2 w.to).toNat ≠ 0
   ·have hc' : nth u.p.at_ w.to.toNat = 0 ∨ toB g.board side x.2 w.to < 0 ∨ nth u.p.at_ (toB g.board side x.2 w.to).toNat ≠ 0 := by rcases hc with h | h; exact .inl h; exact .inr (.inr h)
    simp only [if_pos hc, if_pos hc', Bool.false_eq_true, if_false]
   ·have hc' : ¬ (nth u.p.at_ w.to.toNat = 0 ∨ toB g.board side x.2 w.to < 0 ∨ nth u.p.at_ (toB g.board side x.2 w.to).toNat ≠ 0) := by rintro (h | h | h); exact hc (.inl h); exact hn h; exact hc (.inr h)
    simp only [if_neg hc, if_neg hc', if_true, stT, hside]
 rw [if_neg (by omega)]
 by_cases h2 : x.1 = 2
 ·simp only [h2, show ((2 : Int) = 1) = False by decide, if_true, if_false, slideS]
  simp only [show (stT u w.to).p = u.p from rfl, show (stT u w.to).cursor = w.to from rfl, hside]
  exact slide_some hd rfl
 rw [if_neg h2, if_neg h1, if_neg h2]
 by_cases h8 : x.1 = 8
 ·simp [h8, one, doA, stT]
 by_cases h9 : x.1 = 9
 ·simp only [h9, one, doA, onlyS, show ((9 : Int) = 8) = False by decide, show ((9 : Int) = 10) = False by decide, show ((9 : Int) = 3) = False by decide, show ((9 : Int) = 4) = False by decide, show ((9 : Int) = 5) = False by decide,
   show ((9 : Int) = 6) = False by decide, show ((9 : Int) = 7) = False by decide, if_true, if_false, or_true, true_or, false_or, or_false, List.filterMap_cons, List.filterMap_nil]
  split <;> simp_all [stT]
 by_cases h10 : x.1 = 10
 ·simp [h10, one, doA, stT, hside]
 rw [if_neg (by omega)]
 simp only [one, List.filterMap_cons, List.filterMap_nil]
 by_cases h3 : x.1 = 3
 ·simp only [h3, if_true, doA, onlyS]
  rcases hm with ⟨h0, e⟩ | ⟨h0, e1, e2, e3, e4⟩
  ·rw [e]; simp [h0, stT]
  ·rw [if_neg (by simpa using h0), if_neg (by simp; omega)]
 by_cases h4 : x.1 = 4
 ·simp only [h4, show ((4 : Int) = 3) = False by decide, if_true, if_false, doA, onlyS]
  rcases hm with ⟨h0, e⟩ | ⟨h0, e1, e2, e3, e4⟩
  ·rw [e, if_neg (by simp; omega), if_neg (by simp)]
  ·by_cases hs' : (manOf (nth u.p.at_ w.to.toNat)).2 = 1 - side
   ·rw [if_pos (by simpa using hs'), if_pos (by simp; omega)]
   ·rw [if_neg (by simpa using hs'), if_neg (by simp; omega)]
 by_cases h5 : x.1 = 5
 ·simp only [h5, show ((5 : Int) = 3) = False by decide, show ((5 : Int) = 4) = False by decide, if_true, if_false, doA, onlyS]
  rcases hm with ⟨h0, e⟩ | ⟨h0, e1, e2, e3, e4⟩
  ·rw [e, if_neg (by simp; omega), if_neg (by simp)]
  ·by_cases hs' : (manOf (nth u.p.at_ w.to.toNat)).2 = side
   ·rw [if_pos (by simpa using hs'), if_pos (by simp; omega)]
   ·rw [if_neg (by simpa using hs'), if_neg (by simp; omega)]
 have h6 : x.1 = 6 := by omega
 simp only [h6, show ((6 : Int) = 3) = False by decide, show ((6 : Int) = 4) = False by decide, show ((6 : Int) = 5) = False by decide, if_true, if_false, doA, takeA, takeS]
 simp only [show (stT u w.to).p = u.p from rfl, show (stT u w.to).cursor = w.to from rfl, hside]
 rcases hm with ⟨h0, e⟩ | ⟨h0, e1, e2, e3, e4⟩
 ·have hne : (-1 : Int) ≠ 1 - side := by omega
  rw [e]
  simp [hne]
 ·by_cases hs' : (manOf (nth u.p.at_ w.to.toNat)).2 = 1 - side
  ·rw [if_neg (not_not_intro hs'), if_neg (show ¬ ((manOf (nth u.p.at_ w.to.toNat)).1 < 0 ∨ (manOf (nth u.p.at_ w.to.toNat)).2 = side) by omega)]
   by_cases hk : (nth g.kinds (manOf (nth u.p.at_ w.to.toNat)).1.toNat).keep = true
   ·rw [if_pos hk, if_pos hk]
    by_cases h9 : nth (u.p.hand side) (manOf (nth u.p.at_ w.to.toNat)).1.toNat + 1 ≤ 8
    ·have h9' : ¬ 8 < nth (u.p.hand side) (manOf (nth u.p.at_ w.to.toNat)).1.toNat + 1 := by omega
     simp only [h9, h9', decide_true, if_true, if_false, stT]
    ·have h9' : 8 < nth (u.p.hand side) (manOf (nth u.p.at_ w.to.toNat)).1.toNat + 1 := by omega
     simp only [h9, h9', decide_false, if_true, Bool.false_eq_true, if_false]
   ·rw [if_neg hk, if_neg hk]; simp [stT]
  ·rw [if_pos hs', if_pos (show (manOf (nth u.p.at_ w.to.toNat)).1 < 0 ∨ (manOf (nth u.p.at_ w.to.toNat)).2 = side by omega)]; simp
theorem addS_mem : ∀ {more l : List StD} {s : StD}, s ∈ addS l more ↔ s ∈ l ∨ s ∈ more
 | [], l, s => by simp [addS]
 | m :: more, l, s => by
  show s ∈ addS (if m ∈ l then l else l ++ [m]) more ↔ _
  rw [addS_mem]
  split
  ·rename_i h
   simp only [List.mem_cons]
   exact ⟨fun h => by rcases h with h | h <;> simp [h], fun h => by rcases h with h | rfl | h; exact .inl h; exact .inl ‹_›; exact .inr h⟩
  ·simp only [List.mem_append, List.mem_cons, List.mem_singleton, List.not_mem_nil, or_false]
   exact or_assoc
theorem nextS_fold (g : GameD) (x : Int × Int) : ∀ (now acc : List StD) (s : StD), s ∈ now.foldl (fun next s => addS next (stepS g s x)) acc ↔ s ∈ acc ∨ ∃ r ∈ now, s ∈ stepS g r x
 | [], acc, s => by simp
 | r :: now, acc, s => by
  rw [List.foldl_cons, nextS_fold g x now, addS_mem]
  simp only [List.mem_cons, exists_eq_or_imp]
  exact or_assoc
theorem nextS_mem (g : GameD) (x : Int × Int) (now : List StD) (s : StD) : s ∈ nextS g now x ↔ ∃ r ∈ now, s ∈ stepS g r x := by
 unfold nextS
 rw [nextS_fold]; simp
theorem prog_mem {g : GameD} (hg : GOk g) {side : Int} {t : TkD} : ∀ (prog : List (Int × Int)) (nowP : List PathD) (nowS : List StD), (∀ x ∈ prog, StepOk g.next.length g.kinds.length g.rights x) →
  (∀ s, s ∈ nowP.filterMap (stW g side t) ↔ s ∈ nowS) → (∀ s ∈ nowS, StOk g s ∧ s.p.side = side) →
  ∀ s, s ∈ (prog.foldl (stepP g.board side) nowP).filterMap (stW g side t) ↔ s ∈ prog.foldl (nextS g) nowS
 | [], nowP, nowS, _, h, _, s => h s
 | x :: prog, nowP, nowS, hp, h, hk, s => by
  rw [List.foldl_cons, List.foldl_cons]
  have hx := hp x (by simp)
  refine prog_mem hg prog _ _ (fun y hy => hp y (by simp [hy])) (fun s => ?_) (fun s hs => ?_) s
  ·rw [nextS_mem]
   unfold stepP
   rw [List.filterMap_flatMap, List.mem_flatMap]
   constructor
   ·rintro ⟨w, hw, hs⟩
    cases hd : doAs g side t w.acts with
    | none => rw [extP_none hd] at hs; simp at hs
    | some u =>
     have hu : stT u w.to ∈ nowS := (h _).1 (List.mem_filterMap.2 ⟨w, hw, by simp [stW, hd]⟩)
     rw [extP_some hg hd (hk _ hu).1 (hk _ hu).2 hx] at hs
     exact ⟨_, hu, hs⟩
   ·rintro ⟨r, hr, hs⟩
    obtain ⟨w, hw, e⟩ := List.mem_filterMap.1 ((h r).2 hr)
    unfold stW at e
    cases hd : doAs g side t w.acts with
    | none => rw [hd] at e; simp at e
    | some u =>
     rw [hd] at e
     simp only [Option.map_some, Option.some.injEq] at e
     subst e
     exact ⟨w, hw, by rw [extP_some hg hd (hk _ hr).1 (hk _ hr).2 hx]; exact hs⟩
  ·obtain ⟨r, hr, hs⟩ := (nextS_mem g x nowS s).1 hs
   obtain ⟨k1, k2⟩ := stepS_ok hg (hk r hr).1 hx s hs
   exact ⟨k1, k2.trans (hk r hr).2⟩
def startT (p : PosD) (cell : Int) : TkD := ⟨clr p cell, (manOf (nth p.at_ cell.toNat)).1, false⟩
def outW (g : GameD) (side : Int) (t : TkD) (w : PathD) : Option OutD := (stW g side t w).bind (putS side)
def pathsAt (g : GameD) (p : PosD) (cell : Int) : List PathD :=
 kindP g.board (manOf (nth p.at_ cell.toNat)).2 (nth g.kinds (manOf (nth p.at_ cell.toNat)).1.toNat).progs cell
def outsL (g : GameD) (p : PosD) (cell : Int) : List OutD := (pathsAt g p cell).filterMap (outW g (manOf (nth p.at_ cell.toNat)).2 (startT p cell))
def runO (g : GameD) (p : PosD) (cell : Int) : List OutD := if nth p.at_ cell.toNat = 0 then [] else sortU cmpO (outsL g p cell)
def withSide (p : PosD) (s : Int) : PosD := { p with side := s }
def progsO (g : GameD) (p : PosD) (cell : Int) : List OutD :=
 if (manOf (nth p.at_ cell.toNat)).1 < 0 then [] else
 sortU cmpO ((List.range (nth g.kinds (manOf (nth p.at_ cell.toNat)).1.toNat).progs.length).flatMap fun (i : Nat) => runsP g (withSide p (manOf (nth p.at_ cell.toNat)).2) cell i)
def TkD.sd (t : TkD) (s : Int) : TkD := { t with p := withSide t.p s }
theorem hand_sd (p : PosD) (s side : Int) : (withSide p s).hand side = p.hand side := rfl
theorem withHand_sd (p : PosD) (s side : Int) (l : List Int) : (withSide p s).withHand side l = withSide (p.withHand side l) s := by unfold PosD.withHand; split <;> rfl
theorem doA_sd (g : GameD) (side : Int) (t : TkD) (s : Int) (x : ActD) : doA g side (t.sd s) x = ((doA g side t x).1.sd s, (doA g side t x).2) := by
 unfold doA takeA pushA
 simp only [TkD.sd, show (withSide t.p s).at_ = t.p.at_ from rfl, show (withSide t.p s).rights = t.p.rights from rfl, hand_sd]
 have hc : clr (withSide t.p s) x.2.1 = withSide (clr t.p x.2.1) s := rfl
 rw [hc, withHand_sd]
 split; · rfl
 split; · rfl
 split; · rfl
 split
 ·split; · rfl
  split <;> rfl
 split
 ·split <;> rfl
 split; · rfl
 split; · rfl
 split <;> rfl
theorem doAs_sd (g : GameD) (side : Int) (s : Int) : ∀ (l : List ActD) (t : TkD), doAs g side (t.sd s) l = (doAs g side t l).map fun t => t.sd s
 | [], t => rfl
 | x :: l, t => by
  simp only [doAs, doA_sd]
  split
  ·exact doAs_sd g side s l _
  ·rfl
theorem outW_sd (g : GameD) (side : Int) (t : TkD) (s : Int) (w : PathD) : outW g side (t.sd s) w = outW g side t w := by
 unfold outW stW
 rw [doAs_sd]
 cases doAs g side t w.acts with
 | none => rfl
 | some u => rfl
theorem run_progs {g : GameD} (hg : GOk g) {p : PosD} (hp : POk g p) {cell : Int} (h0 : 0 ≤ cell) (h1 : cell < g.cells) : runO g p cell = progsO g p cell := by
 have hat := hp.at (i := cell.toNat) (by omega)
 unfold runO progsO
 rcases manOf_cases hat.1 hat.2 hg.k6 with ⟨hz, e⟩ | ⟨hz, e1, e2, e3, e4⟩
 ·rw [if_pos hz, e, if_pos (by decide)]
 rw [if_neg hz, if_neg (by omega)]
 generalize hs : (manOf (nth p.at_ cell.toNat)).2 = side at e3 e4
 refine sortU_congr cmp_out fun o => ?_
 have hq : POk g (withSide p side) := hp.side e3
 have hst : startT p cell = startT p cell := rfl
 have hout : ∀ w, outW g side (startT p cell) w = outW g side ((startT p cell).sd side) w := fun w => (outW_sd g side _ side w).symm
 obtain ⟨progs, hpg⟩ : ∃ l, l = (nth g.kinds (manOf (nth p.at_ cell.toNat)).1.toNat).progs := ⟨_, rfl⟩
 have hkm : nth g.kinds (manOf (nth p.at_ cell.toNat)).1.toNat ∈ g.kinds := nth_mem (by omega)
 have key : ∀ prog ∈ progs, ∀ o, o ∈ (pathsP g.board side prog cell).filterMap (outW g side (startT p cell)) ↔ o ∈ (lastS g (withSide p side) cell prog).filterMap (putS side) := by
  intro prog hm o
  have hok := hg.pr _ hkm prog (hpg ▸ hm)
  have hs0 := startS_ok hg hq h0 h1 (show 0 ≤ (manOf (nth (withSide p side).at_ cell.toNat)).1 from e1)
  have hmem := prog_mem hg (side := side) (t := (startT p cell).sd side) prog [⟨[], cell⟩] [startS (withSide p side) cell] hok.st (fun s => by simp [stW, doAs, startT, stT, startS, TkD.sd, withSide, clr])
   (fun s hs => by rw [List.mem_singleton] at hs; subst hs; exact ⟨hs0.1, hs0.2⟩)
  rw [show outW g side (startT p cell) = outW g side ((startT p cell).sd side) from funext hout]
  simp only [List.mem_filterMap, outW, Option.bind_eq_some_iff]
  constructor
  ·rintro ⟨w, hw, s, h3, h4⟩
   exact ⟨s, (hmem s).1 (List.mem_filterMap.2 ⟨w, hw, h3⟩), h4⟩
  ·rintro ⟨s, h3, h4⟩
   obtain ⟨w, hw, h5⟩ := List.mem_filterMap.1 ((hmem s).2 h3)
   exact ⟨w, hw, s, h5, h4⟩
 have e5 : outsL g p cell = progs.flatMap fun prog => (pathsP g.board side prog cell).filterMap (outW g side (startT p cell)) := by
  unfold outsL pathsAt kindP
  rw [hs, ← hpg, List.filterMap_flatMap]
 have hr : ∀ i, i < progs.length → runsP g (withSide p side) cell (i : Int) = sortU cmpO ((lastS g (withSide p side) cell (nth progs i)).filterMap (putS side)) := fun i _ => by
  unfold runsP progOf
  rw [show nth (withSide p side).at_ cell.toNat = nth p.at_ cell.toNat from rfl, ← hpg]
  rfl
 rw [e5, List.mem_flatMap, List.mem_flatMap]
 rw [← hpg]
 constructor
 ·rintro ⟨prog, hm, h⟩
  obtain ⟨i, hi, rfl⟩ := List.mem_iff_getElem.1 hm
  refine ⟨i, List.mem_range.2 hi, ?_⟩
  rw [hr i hi, sortU_mem, nth_eq _ _ hi]
  exact (key _ hm o).1 h
 ·rintro ⟨i, hi, h⟩
  have hi' := List.mem_range.1 hi
  rw [hr i hi', sortU_mem, nth_eq _ _ hi'] at h
  exact ⟨_, List.getElem_mem hi', (key _ (List.getElem_mem hi') o).2 h⟩
end Go.Av
end
section
/- Plain: links of cells (layer 22): roots, joins. -/
open Go Go.Proofs
namespace Go.Av
structure LinkOk (l : List Int) : Prop where
 len : l.length = 64
 le : ∀ c, c < 64 → 0 ≤ nth l c ∧ nth l c ≤ c
def rootF (l : List Int) : Nat → Int → Int
 | 0, c => c
 | f + 1, c => if nth l c.toNat = c then c else rootF l f (nth l c.toNat)
def rootL (l : List Int) (c : Int) : Int := rootF l (c.toNat + 1) c
theorem rootF_spec {l : List Int} (hl : LinkOk l) : ∀ (f : Nat) (c : Int), 0 ≤ c → c < 64 → c.toNat < f → 0 ≤ rootF l f c ∧ rootF l f c ≤ c ∧ nth l (rootF l f c).toNat = rootF l f c
 | 0, c, _, _, h => by omega
 | f + 1, c, h0, h1, h2 => by
  have h := hl.le c.toNat (by omega)
  rw [rootF]
  split
  ·rename_i e; exact ⟨h0, Int.le_refl _, e⟩
  ·obtain ⟨a, b, d⟩ := rootF_spec hl f (nth l c.toNat) h.1 (by omega) (by omega)
   exact ⟨a, by omega, d⟩
theorem rootF_more {l : List Int} (hl : LinkOk l) : ∀ (f f' : Nat) (c : Int), 0 ≤ c → c < 64 → c.toNat < f → c.toNat < f' → rootF l f c = rootF l f' c
 | 0, _, c, _, _, h, _ => by omega
 | _, 0, c, _, _, _, h => by omega
 | f + 1, f' + 1, c, h0, h1, h2, h3 => by
  have h := hl.le c.toNat (by omega)
  rw [rootF, rootF]
  split
  ·rfl
  ·exact rootF_more hl f f' _ h.1 (by omega) (by omega) (by omega)
theorem rootL_spec {l : List Int} (hl : LinkOk l) {c : Int} (h0 : 0 ≤ c) (h1 : c < 64) : 0 ≤ rootL l c ∧ rootL l c ≤ c ∧ nth l (rootL l c).toNat = rootL l c := rootF_spec hl _ c h0 h1 (by omega)
theorem rootL_step {l : List Int} (hl : LinkOk l) {c : Int} (h0 : 0 ≤ c) (h1 : c < 64) : rootL l c = if nth l c.toNat = c then c else rootL l (nth l c.toNat) := by
 have h := hl.le c.toNat (by omega)
 unfold rootL
 rw [rootF]
 split
 ·rfl
 ·exact rootF_more hl _ _ _ h.1 (by omega) (by omega) (by omega)
def linkL (l : List Int) (a b : Int) : List Int := l.set (max a b).toNat (min a b)
theorem linkL_ok {l : List Int} (hl : LinkOk l) {a b : Int} (ha : 0 ≤ a) (hb : 0 ≤ b) : LinkOk (linkL l a b) := by
 refine ⟨by simpa [linkL] using hl.len, fun c hc => ?_⟩
 unfold linkL
 rw [nth_setE]
 split
 ·omega
 ·exact hl.le c hc
theorem rootL_link {l : List Int} (hl : LinkOk l) {a b : Int} (ha : 0 ≤ a) (hb : 0 ≤ b) (ha' : a < 64) (hb' : b < 64) (hra : nth l a.toNat = a) (hrb : nth l b.toNat = b) :
  ∀ (n : Nat) (c : Int), c.toNat < n → 0 ≤ c → c < 64 → rootL (linkL l a b) c = if rootL l c = max a b then min a b else rootL l c
 | 0, c, h, _, _ => by omega
 | n + 1, c, hn, h0, h1 => by
  have hk := linkL_ok hl ha hb
  have hle := hl.le c.toNat (by omega)
  have hn' : nth (linkL l a b) c.toNat = if c = max a b then min a b else nth l c.toNat := by
   unfold linkL
   rw [nth_setE]
   have := hl.len
   by_cases e : c = max a b
   ·rw [if_pos ⟨by omega, by omega⟩, if_pos e]
   ·rw [if_neg (by omega), if_neg e]
  have hmM : nth l (max a b).toNat = max a b := by
   rcases Int.le_total a b with h | h
   ·rw [Int.max_eq_right h]; exact hrb
   ·rw [Int.max_eq_left h]; exact hra
  have hmin : nth l (min a b).toNat = min a b := by
   rcases Int.le_total a b with h | h
   ·rw [Int.min_eq_left h]; exact hra
   ·rw [Int.min_eq_right h]; exact hrb
  rw [rootL_step hk h0 h1, hn', rootL_step hl h0 h1]
  by_cases e : c = max a b
  ·rw [if_pos e, e, if_pos hmM, if_pos rfl]
   by_cases e2 : min a b = max a b
   ·rw [if_pos e2]; exact e2.symm
   ·rw [if_neg e2, rootL_step hk (by omega) (by omega), if_pos]
    unfold linkL
    rw [nth_setE, if_neg (by omega)]
    exact hmin
  ·rw [if_neg e]
   by_cases e2 : nth l c.toNat = c
   ·rw [if_pos e2, if_pos e2, if_neg e]
   ·rw [if_neg e2, if_neg e2]
    exact rootL_link hl ha hb ha' hb' hra hrb n _ (by omega) hle.1 (by omega)
def joinsL (l : List Int) (first : Int) (others : List Int) : List Int := others.foldl (fun l c => linkL l (rootL l first) (rootL l c)) l
def leastL (l : List Int) (first : Int) (others : List Int) : Int := others.foldl (fun m c => min m (rootL l c)) (rootL l first)
theorem leastL_snoc (l : List Int) (first : Int) (others : List Int) (c : Int) : leastL l first (others ++ [c]) = min (leastL l first others) (rootL l c) := by
 unfold leastL; rw [List.foldl_append]; rfl
theorem joinsL_snoc (l : List Int) (first : Int) (others : List Int) (c : Int) : joinsL l first (others ++ [c]) = linkL (joinsL l first others) (rootL (joinsL l first others) first) (rootL (joinsL l first others) c) := by
 unfold joinsL; rw [List.foldl_append]; rfl
theorem snoc_ind {α : Type} {P : List α → Prop} (h0 : P []) (h1 : ∀ l a, P l → P (l ++ [a])) (l : List α) : P l := by
 rw [← List.reverse_reverse l]
 generalize l.reverse = r
 induction r with
 | nil => exact h0
 | cons a r ih => rw [List.reverse_cons]; exact h1 _ _ ih
theorem leastL_mem (l : List Int) (first : Int) : ∀ (others : List Int), (∃ c, (c = first ∨ c ∈ others) ∧ leastL l first others = rootL l c) ∧ ∀ c, (c = first ∨ c ∈ others) → leastL l first others ≤ rootL l c := by
 refine snoc_ind ?_ ?_
 case _ => exact ⟨⟨first, .inl rfl, rfl⟩, fun c hc => by rcases hc with rfl | hc; exact Int.le_refl _; simp at hc⟩
 case _ =>
  intro others d ih
  obtain ⟨⟨c, hc, e⟩, h⟩ := ih
  rw [leastL_snoc]
  refine ⟨?_, fun x hx => ?_⟩
  ·rcases Int.le_total (leastL l first others) (rootL l d) with h1 | h1
   ·rw [Int.min_eq_left h1]
    exact ⟨c, hc.imp id (fun h => by simp [h]), e⟩
   ·rw [Int.min_eq_right h1]
    exact ⟨d, .inr (by simp), rfl⟩
  ·rcases hx with rfl | hx
   ·have := h x (.inl rfl); omega
   ·rcases List.mem_append.1 hx with hx | hx
    ·have := h x (.inr hx); omega
    ·simp only [List.mem_singleton] at hx; subst hx; omega
theorem joinsL_spec {l : List Int} (hl : LinkOk l) {first : Int} (hf : 0 ≤ first ∧ first < 64) : ∀ (others : List Int), (∀ c ∈ others, 0 ≤ c ∧ c < 64) →
  LinkOk (joinsL l first others) ∧ ∀ x, 0 ≤ x → x < 64 → ((∃ c, (c = first ∨ c ∈ others) ∧ rootL l x = rootL l c) → rootL (joinsL l first others) x = leastL l first others) ∧
   ((¬ ∃ c, (c = first ∨ c ∈ others) ∧ rootL l x = rootL l c) → rootL (joinsL l first others) x = rootL l x) := by
 refine snoc_ind ?_ ?_
 case _ =>
  intro _
  refine ⟨hl, fun x _ _ => ⟨fun ⟨c, hc, e⟩ => ?_, fun _ => rfl⟩⟩
  rcases hc with rfl | hc
  ·exact e
  ·simp at hc
 case _ =>
  intro others d ih ho
  obtain ⟨h1, h2⟩ := ih (fun c hc => ho c (by simp [hc]))
  have hd := ho d (by simp)
  obtain ⟨⟨c0, hc0, e0⟩, hmin⟩ := leastL_mem l first others
  have hfr := (h2 first hf.1 hf.2).1 ⟨first, .inl rfl, rfl⟩
  rw [joinsL_snoc, leastL_snoc, hfr]
  generalize leastL l first others = m at *
  generalize joinsL l first others = l1 at *
  have sf := rootL_spec h1 hf.1 hf.2
  rw [hfr] at sf
  have sd := rootL_spec h1 hd.1 hd.2
  refine ⟨linkL_ok h1 sf.1 sd.1, fun x x0 x1 => ?_⟩
  have hr := rootL_link h1 sf.1 sd.1 (by omega) (by omega) sf.2.2 sd.2.2 (x.toNat + 1) x (by omega) x0 x1
  rw [hr]
  obtain ⟨g1, g2⟩ := h2 x x0 x1
  obtain ⟨k1, k2⟩ := h2 d hd.1 hd.2
  have hmem : ∀ c, (c = first ∨ c ∈ others ++ [d]) ↔ ((c = first ∨ c ∈ others) ∨ c = d) := fun c => by
   rw [List.mem_append, List.mem_singleton]; exact (or_assoc).symm
  by_cases hds : ∃ c, (c = first ∨ c ∈ others) ∧ rootL l d = rootL l c
  ·have kd := k1 hds
   obtain ⟨c1, hc1, e1⟩ := hds
   have hle := hmin c1 hc1
   rw [kd, Int.max_self, Int.min_self, Int.min_eq_left (by omega)]
   refine ⟨fun ⟨c, hc, e⟩ => ?_, fun hn => ?_⟩
   ·have hx : rootL l1 x = m := by
     rcases (hmem c).1 hc with hc | rfl
     ·exact g1 ⟨c, hc, e⟩
     ·exact g1 ⟨c1, hc1, e.trans e1⟩
    rw [if_pos hx]
   ·have hx := g2 (fun ⟨c, hc, e⟩ => hn ⟨c, (hmem c).2 (.inl hc), e⟩)
    rw [if_neg, hx]
    rw [hx]
    intro e
    exact hn ⟨c0, (hmem c0).2 (.inl hc0), e.trans e0⟩
  ·have kd := k2 hds
   rw [kd]
   refine ⟨fun ⟨c, hc, e⟩ => ?_, fun hn => ?_⟩
   ·rcases (hmem c).1 hc with hc | rfl
    ·rw [g1 ⟨c, hc, e⟩]
     split <;> omega
    ·have hx := g2 (fun ⟨c', hc', e'⟩ => hds ⟨c', hc', e.symm.trans e'⟩)
     rw [hx, e]
     split <;> omega
   ·have hx := g2 (fun ⟨c, hc, e⟩ => hn ⟨c, (hmem c).2 (.inl hc), e⟩)
    rw [hx, if_neg]
    intro e
    have h3 : rootL l x ≠ m := fun e' => hn ⟨c0, (hmem c0).2 (.inl hc0), e'.trans e0⟩
    have h4 : rootL l x ≠ rootL l d := fun e' => hn ⟨d, (hmem d).2 (.inr rfl), e'⟩
    omega
end Go.Av
end
section
/- Plain: the names of regions, as the reference joins them (layer 22). -/
open Go Go.Proofs
namespace Go.Av
def namesL (l : List Int) (n : Nat) : List Int := (List.range n).map fun (c : Nat) => rootL l c
theorem nth_namesL (l : List Int) {n : Nat} {c : Int} (h0 : 0 ≤ c) (h1 : c < n) : nth (namesL l n) c.toNat = rootL l c := by
 unfold namesL
 have h : c.toNat < (List.range n).length := by rw [List.length_range]; omega
 rw [nth_map _ _ _ h, nth_eq _ _ h, List.getElem_range, show ((c.toNat : Nat) : Int) = c by omega]
end Go.Av
end
section
/- Plain: the regions of a code (layer 22). -/
open Go Go.Proofs
namespace Go.Av
def cellsA (a : ActD) : List Int := if a.1 = 3 ∨ a.1 = 4 ∨ a.1 = 5 ∨ a.1 = 6 then [a.2.1] else if a.1 = 7 then [a.2.1, a.2.2] else []
theorem cellsA_len (a : ActD) : (cellsA a).length ≤ 2 := by
 unfold cellsA
 split
 ·simp
 ·split <;> simp
def joinedP (cell : Int) (p : PathD) : List Int := [cell, p.to] ++ p.acts.flatMap cellsA
def PathR (n : Nat) (p : PathD) : Prop := (0 ≤ p.to ∧ p.to < n) ∧ p.acts.length ≤ 1048576 ∧ ∀ a ∈ p.acts, ∀ c ∈ cellsA a, 0 ≤ c ∧ c < n
def SideR (n : Nat) (s : List (List (List PathD))) : Prop := s.length ≤ 6 ∧ ∀ k ∈ s, k.length = n ∧ ∀ x ∈ k, x.length ≤ 1099511627776 ∧ ∀ p ∈ x, PathR n p
def actsF (c : Int) (l : List Int) (acts : List ActD) : List Int := acts.foldl (fun l a => joinsL l c (cellsA a)) l
def pathF (c : Int) (l : List Int) (p : PathD) : List Int := actsF c (joinsL l c [p.to]) p.acts
def pathsF (c : Int) (l : List Int) (ps : List PathD) : List Int := ps.foldl (pathF c) l
def cellsF (l : List Int) : Nat → List (List PathD) → List Int
 | _, [] => l
 | c, ps :: k => cellsF (pathsF c l ps) (c + 1) k
def kindsF (l : List Int) (s : List (List (List PathD))) : List Int := s.foldl (fun l k => cellsF l 0 k) l
def idL : List Int := (List.range 64).map fun (c : Nat) => (c : Int)
def linksC (c : CodeD) : List Int := kindsF (kindsF idL c.1) c.2
theorem idL_ok : LinkOk idL := by
 refine ⟨by simp [idL], fun c hc => ?_⟩
 have : nth idL c = (c : Int) := by
  unfold idL
  rw [nth_map _ _ _ (by simpa using hc), nth_eq _ _ (by simpa using hc), List.getElem_range]
 omega
theorem joinsL_ok {l : List Int} (hl : LinkOk l) {n : Nat} (hn : n ≤ 64) {c : Int} (hc : 0 ≤ c ∧ c < n) {others : List Int} (ho : ∀ c ∈ others, 0 ≤ c ∧ c < n) : LinkOk (joinsL l c others) :=
 (joinsL_spec hl (first := c) ⟨hc.1, by omega⟩ others (fun d hd => by have := ho d hd; omega)).1
theorem actsF_ok {n : Nat} (hn : n ≤ 64) {c : Int} (hc : 0 ≤ c ∧ c < n) : ∀ (acts : List ActD) {l : List Int}, LinkOk l → (∀ a ∈ acts, ∀ c ∈ cellsA a, 0 ≤ c ∧ c < n) → LinkOk (actsF c l acts)
 | [], _, hl, _ => hl
 | a :: acts, l, hl, h => actsF_ok hn hc acts (joinsL_ok hl hn hc (h a (by simp))) (fun b hb => h b (by simp [hb]))
theorem pathF_ok {n : Nat} (hn : n ≤ 64) {c : Int} (hc : 0 ≤ c ∧ c < n) {p : PathD} (hp : PathR n p) {l : List Int} (hl : LinkOk l) : LinkOk (pathF c l p) :=
 actsF_ok hn hc p.acts (joinsL_ok hl hn hc (fun d hd => by rw [List.mem_singleton] at hd; subst hd; exact hp.1)) hp.2.2
theorem pathsF_ok {n : Nat} (hn : n ≤ 64) {c : Int} (hc : 0 ≤ c ∧ c < n) : ∀ (ps : List PathD) {l : List Int}, LinkOk l → (∀ p ∈ ps, PathR n p) → LinkOk (pathsF c l ps)
 | [], _, hl, _ => hl
 | p :: ps, l, hl, h => pathsF_ok hn hc ps (pathF_ok hn hc (h p (by simp)) hl) (fun q hq => h q (by simp [hq]))
theorem cellsF_ok {n : Nat} (hn : n ≤ 64) : ∀ (k : List (List PathD)) (c : Nat) {l : List Int}, LinkOk l → c + k.length ≤ n → (∀ x ∈ k, ∀ p ∈ x, PathR n p) → LinkOk (cellsF l c k)
 | [], _, _, hl, _, _ => hl
 | ps :: k, c, l, hl, hc, h => by
  rw [cellsF]
  simp only [List.length_cons] at hc
  exact cellsF_ok hn k (c + 1) (pathsF_ok hn ⟨by omega, by omega⟩ ps hl (h ps (by simp))) (by omega) (fun x hx => h x (by simp [hx]))
theorem kindsF_ok {n : Nat} (hn : n ≤ 64) : ∀ (s : List (List (List PathD))) {l : List Int}, LinkOk l → (∀ k ∈ s, k.length = n ∧ ∀ x ∈ k, x.length ≤ 1099511627776 ∧ ∀ p ∈ x, PathR n p) → LinkOk (kindsF l s)
 | [], _, hl, _ => hl
 | k :: s, l, hl, h => by
  have hk := h k (by simp)
  exact kindsF_ok hn s (cellsF_ok hn k 0 hl (by omega) (fun x hx => (hk.2 x hx).2)) (fun q hq => h q (by simp [hq]))
theorem linksC_ok {n : Nat} (hn : n ≤ 64) {c : CodeD} (h1 : SideR n c.1) (h2 : SideR n c.2) : LinkOk (linksC c) := kindsF_ok hn c.2 (kindsF_ok hn c.1 idL_ok h1.2) h2.2
theorem cellsA_ok {cells kinds rights : Int} {a : ActD} (ha : ActOk cells kinds rights a) : ∀ c ∈ cellsA a, 0 ≤ c ∧ c < cells := by
 intro c hc
 unfold ActOk at ha
 unfold cellsA at hc
 split at hc
 ·rw [List.mem_singleton] at hc
  subst hc
  omega
 ·split at hc
  ·simp only [List.mem_cons, List.not_mem_nil, or_false] at hc
   rcases hc with rfl | rfl <;> omega
  ·cases hc
end Go.Av
end
section
/- Plain: what the links of a code say of its paths (layer 22): least names, reached cells. -/
open Go Go.Proofs
namespace Go.Av
theorem joinsL_append (l : List Int) (c : Int) (xs ys : List Int) : joinsL l c (xs ++ ys) = joinsL (joinsL l c xs) c ys := by unfold joinsL; rw [List.foldl_append]
theorem actsF_eq (c : Int) : ∀ (acts : List ActD) (l : List Int), actsF c l acts = joinsL l c (acts.flatMap cellsA)
 | [], l => rfl
 | a :: acts, l => by
  rw [List.flatMap_cons, joinsL_append]
  exact actsF_eq c acts _
theorem pathF_eq (c : Int) (l : List Int) (p : PathD) : pathF c l p = joinsL l c (p.to :: p.acts.flatMap cellsA) := by
 unfold pathF
 rw [actsF_eq, ← joinsL_append]
 rfl
def joinJ (l : List Int) (j : List Int) : List Int := joinsL l (nth j 0) j.tail
def cellsJ : Nat → List (List PathD) → List (List Int)
 | _, [] => []
 | c, ps :: k => ps.map (fun p => joinedP (c : Int) p) ++ cellsJ (c + 1) k
def kindsJ (s : List (List (List PathD))) : List (List Int) := s.flatMap (cellsJ 0)
def allJ (c : CodeD) : List (List Int) := kindsJ c.1 ++ kindsJ c.2
theorem pathF_J (c : Int) (l : List Int) (p : PathD) : pathF c l p = joinJ l (joinedP c p) := by rw [pathF_eq]; rfl
theorem pathsF_J (c : Int) : ∀ (ps : List PathD) (l : List Int), pathsF c l ps = (ps.map (fun p => joinedP c p)).foldl joinJ l
 | [], l => rfl
 | p :: ps, l => by
  show pathsF c (pathF c l p) ps = _
  rw [pathsF_J c ps, pathF_J]; rfl
theorem cellsF_J : ∀ (k : List (List PathD)) (c : Nat) (l : List Int), cellsF l c k = (cellsJ c k).foldl joinJ l
 | [], _, _ => rfl
 | ps :: k, c, l => by
  rw [cellsF, cellsJ, List.foldl_append, cellsF_J k, pathsF_J]
theorem kindsF_J : ∀ (s : List (List (List PathD))) (l : List Int), kindsF l s = (kindsJ s).foldl joinJ l
 | [], _ => rfl
 | k :: s, l => by
  show kindsF (cellsF l 0 k) s = _
  rw [kindsF_J s, cellsF_J]
  unfold kindsJ
  rw [List.flatMap_cons, List.foldl_append]
theorem linksC_J (c : CodeD) : linksC c = (allJ c).foldl joinJ idL := by
 unfold linksC allJ
 rw [kindsF_J, kindsF_J, List.foldl_append]
def JOk (n : Nat) (j : List Int) : Prop := j ≠ [] ∧ ∀ c ∈ j, 0 ≤ c ∧ c < n
theorem joinedP_ok {n : Nat} {c : Int} (hc : 0 ≤ c ∧ c < n) {p : PathD} (hp : PathR n p) : JOk n (joinedP c p) := by
 refine ⟨by simp [joinedP], fun d hd => ?_⟩
 unfold joinedP at hd
 rw [List.mem_append, List.mem_flatMap] at hd
 rcases hd with hd | ⟨a, ha, hd⟩
 ·simp only [List.mem_cons, List.not_mem_nil, or_false] at hd
  rcases hd with rfl | rfl
  ·exact hc
  ·exact hp.1
 ·exact hp.2.2 a ha d hd
theorem cellsJ_ok {n : Nat} : ∀ (k : List (List PathD)) (c : Nat), c + k.length ≤ n → (∀ x ∈ k, ∀ p ∈ x, PathR n p) → ∀ j ∈ cellsJ c k, JOk n j
 | [], _, _, _, j, hj => by simp [cellsJ] at hj
 | ps :: k, c, hc, h, j, hj => by
  simp only [List.length_cons] at hc
  rw [cellsJ, List.mem_append] at hj
  rcases hj with hj | hj
  ·obtain ⟨p, hp, rfl⟩ := List.mem_map.1 hj
   exact joinedP_ok ⟨by omega, by omega⟩ (h ps (by simp) p hp)
  ·exact cellsJ_ok k (c + 1) (by omega) (fun x hx => h x (by simp [hx])) j hj
theorem kindsJ_ok {n : Nat} {s : List (List (List PathD))} (h : SideR n s) : ∀ j ∈ kindsJ s, JOk n j := by
 intro j hj
 obtain ⟨k, hk, hj⟩ := List.mem_flatMap.1 hj
 obtain ⟨h1, h2⟩ := h.2 k hk
 exact cellsJ_ok k 0 (by omega) (fun x hx => (h2 x hx).2) j hj
theorem allJ_ok {n : Nat} {c : CodeD} (h1 : SideR n c.1) (h2 : SideR n c.2) : ∀ j ∈ allJ c, JOk n j := by
 intro j hj
 rcases List.mem_append.1 hj with hj | hj
 ·exact kindsJ_ok h1 j hj
 ·exact kindsJ_ok h2 j hj
theorem joinJ_spec {l : List Int} (hl : LinkOk l) {n : Nat} (hn : n ≤ 64) {j : List Int} (hj : JOk n j) :
  LinkOk (joinJ l j) ∧ ∃ m, (∃ c ∈ j, m = rootL l c) ∧ ∀ x, 0 ≤ x → x < 64 → ((∃ c ∈ j, rootL l x = rootL l c) → rootL (joinJ l j) x = m) ∧
   ((¬ ∃ c ∈ j, rootL l x = rootL l c) → rootL (joinJ l j) x = rootL l x) := by
 obtain ⟨hne, hr⟩ := hj
 cases j with
 | nil => exact absurd rfl hne
 | cons a j =>
  have ha := hr a (by simp)
  obtain ⟨h1, h2⟩ := joinsL_spec hl (first := a) ⟨ha.1, by omega⟩ j (fun c hc => by have := hr c (by simp [hc]); omega)
  obtain ⟨⟨c0, hc0, e0⟩, _⟩ := leastL_mem l a j
  refine ⟨h1, leastL l a j, ⟨c0, List.mem_cons.2 hc0, e0⟩, fun x x0 x1 => ?_⟩
  obtain ⟨g1, g2⟩ := h2 x x0 x1
  exact ⟨fun ⟨c, hc, e⟩ => g1 ⟨c, List.mem_cons.1 hc, e⟩, fun h => g2 fun ⟨c, hc, e⟩ => h ⟨c, List.mem_cons.2 hc, e⟩⟩
theorem joinJ_keep {l : List Int} (hl : LinkOk l) {n : Nat} (hn : n ≤ 64) {j : List Int} (hj : JOk n j) {x y : Int} (x0 : 0 ≤ x) (x1 : x < 64) (y0 : 0 ≤ y) (y1 : y < 64)
  (h : rootL l x = rootL l y) : rootL (joinJ l j) x = rootL (joinJ l j) y := by
 obtain ⟨_, m, _, h2⟩ := joinJ_spec hl hn hj
 obtain ⟨a1, a2⟩ := h2 x x0 x1
 obtain ⟨b1, b2⟩ := h2 y y0 y1
 by_cases hc : ∃ c ∈ j, rootL l x = rootL l c
 ·rw [a1 hc, b1 (by rw [← h]; exact hc)]
 ·rw [a2 hc, b2 (by rw [← h]; exact hc), h]
theorem joinJ_same {l : List Int} (hl : LinkOk l) {n : Nat} (hn : n ≤ 64) {j : List Int} (hj : JOk n j) {x y : Int} (hx : x ∈ j) (hy : y ∈ j) : rootL (joinJ l j) x = rootL (joinJ l j) y := by
 obtain ⟨_, m, _, h2⟩ := joinJ_spec hl hn hj
 have a := hj.2 x hx
 have b := hj.2 y hy
 rw [(h2 x a.1 (by omega)).1 ⟨x, hx, rfl⟩, (h2 y b.1 (by omega)).1 ⟨y, hy, rfl⟩]
theorem foldJ_keep {n : Nat} (hn : n ≤ 64) {x y : Int} (x0 : 0 ≤ x) (x1 : x < 64) (y0 : 0 ≤ y) (y1 : y < 64) : ∀ (all : List (List Int)) {l : List Int}, LinkOk l → (∀ j ∈ all, JOk n j) →
  rootL l x = rootL l y → rootL (all.foldl joinJ l) x = rootL (all.foldl joinJ l) y
 | [], _, _, _, h => h
 | j :: all, l, hl, hj, h => foldJ_keep hn x0 x1 y0 y1 all (joinJ_spec hl hn (hj j (by simp))).1 (fun k hk => hj k (by simp [hk])) (joinJ_keep hl hn (hj j (by simp)) x0 x1 y0 y1 h)
theorem foldJ_same {n : Nat} (hn : n ≤ 64) : ∀ (all : List (List Int)) {l : List Int}, LinkOk l → (∀ j ∈ all, JOk n j) → ∀ j ∈ all, ∀ x ∈ j, ∀ y ∈ j, rootL (all.foldl joinJ l) x = rootL (all.foldl joinJ l) y
 | [], _, _, _, j, hj, _, _, _, _ => by simp at hj
 | k :: all, l, hl, h, j, hj, x, hx, y, hy => by
  have hk := h k (by simp)
  rw [List.foldl_cons]
  rcases List.mem_cons.1 hj with rfl | hj
  ·have a := hk.2 x hx
   have b := hk.2 y hy
   exact foldJ_keep hn a.1 (by omega) b.1 (by omega) all (joinJ_spec hl hn hk).1 (fun k hk => h k (by simp [hk])) (joinJ_same hl hn hk hx hy)
  ·exact foldJ_same hn all (joinJ_spec hl hn hk).1 (fun k hk => h k (by simp [hk])) j hj x hx y hy
theorem names_same {n : Nat} (hn : n ≤ 64) {c : CodeD} (h1 : SideR n c.1) (h2 : SideR n c.2) : ∀ j ∈ allJ c, ∀ x ∈ j, ∀ y ∈ j, nth (namesL (linksC c) n) x.toNat = nth (namesL (linksC c) n) y.toNat := by
 intro j hj x hx y hy
 have hJ := allJ_ok h1 h2
 have a := (hJ j hj).2 x hx
 have b := (hJ j hj).2 y hy
 rw [nth_namesL _ a.1 a.2, nth_namesL _ b.1 b.2, linksC_J]
 exact foldJ_same hn _ idL_ok hJ j hj x hx y hy
theorem names_least {n : Nat} (hn : n ≤ 64) {c : CodeD} (h1 : SideR n c.1) (h2 : SideR n c.2) {x : Int} (x0 : 0 ≤ x) (x1 : x < n) :
  0 ≤ nth (namesL (linksC c) n) x.toNat ∧ nth (namesL (linksC c) n) x.toNat ≤ x ∧ nth (namesL (linksC c) n) (nth (namesL (linksC c) n) x.toNat).toNat = nth (namesL (linksC c) n) x.toNat := by
 have hl := linksC_ok hn h1 h2
 obtain ⟨a, b, d⟩ := rootL_spec hl x0 (by omega)
 rw [nth_namesL _ x0 x1, nth_namesL _ a (by omega)]
 refine ⟨a, b, ?_⟩
 rw [rootL_step hl a (by omega), if_pos d]
end Go.Av
end
section
/- Contracts, runs: Run of the reference. -/
open Go Go.Proofs
namespace Go.Av
theorem R5Run_pure (g : GameD) (hg : GOk g) (p : PosD) (hp : POk g p) (cell i : Int) (hc : ChoiceOk g p cell i) :
  Pure Tryz.prog 285 [.agg (encGame g), .agg (encPos p), .v (.int .i64 cell), .v (.int .i64 i)]
   (.agg [.lst 1 (stR g p cell (progOf g p cell i) ((progOf g p cell i).length + 1)), .v (.int .i64 0)]) := by
 refine pF Tryz.func285 ?_
 have hal := hp.al
 obtain ⟨c0, c1, cm, cs, i0, i1⟩ := hc
 have hcur : cell.toNat < p.at_.length := by omega
 have hat := hp.at (i := cell.toNat) (by omega)
 have hO := R3Of_pure (nth p.at_ cell.toNat)
 have hman := manOf_cases hat.1 hat.2 hg.k6
 have hcp := copied_owns p (hp.fits hg)
 have hV := RValid_pure g (by have := hg.k6; unfold FitsG; omega) ⟨hg.r0, by have := hg.r4; omega⟩ p (hp.fits hg)
 rw [pOk_iff.2 hp] at hV
 have hkl : (manOf (nth p.at_ cell.toNat)).1.toNat < g.kinds.length := by
  rcases hman with ⟨_, e⟩ | ⟨_, a, b, _⟩
  ·rw [e] at cm; simp at cm
  ·omega
 have hil : i.toNat < (nth g.kinds (manOf (nth p.at_ cell.toNat)).1.toNat).progs.length := by omega
 have hpg := hg.pr _ (nth_mem hkl) _ (nth_mem hil)
 have hst := fun n hn => stageS_ok hg hp c0 c1 cm (prog := progOf g p cell i) hpg.st n hn
 have hz := stageS_zero g p cell (progOf g p cell i)
 have hsu := fun n hn => stageS_succ g p cell (progOf g p cell i) (n := n) hn
 have hR := fun n => stR_succ g p cell (progOf g p cell i) n
 have hp8 := hpg.len
 have hpst := hpg.st
 have hpe : progOf g p cell i = nth (nth g.kinds (manOf (nth p.at_ cell.toNat)).1.toNat).progs i.toNat := rfl
 rw [← hpe] at hp8 hpst
 obtain ⟨prog, hprog⟩ : ∃ q, q = progOf g p cell i := ⟨_, rfl⟩
 rw [← hprog] at hst hz hsu hR hp8 hpst hpe ⊢
 generalize hm : manOf (nth p.at_ cell.toNat) = m at *
 obtain ⟨mk, ms⟩ := m
 simp only at cm cs i1 hkl hil hpe
 (repeat (first|with_reducible refine wV fun _=>?_|simp [go_sem]))
 refine ACallP.plain hV (by simp [go_sem]) ?_
 (repeat (first|with_reducible refine wV fun _=>?_|simp [go_sem]))
 (refine aIf.mkL (fun hF => by first | omega | (simp at hF; omega)) (fun hF => ?_); clear hF)
 (repeat (first|with_reducible refine wV fun _=>?_|simp [go_sem, hcur]))
 refine ACallP.plain hO (by simp [go_sem]) ?_
 (repeat (first|with_reducible refine wV fun _=>?_|simp [go_sem, hkl, hil]))
 refine aIf.mkL (fun hF => by simp at hF; omega) (fun hF => ?_)
 clear hF
 (repeat (first|with_reducible refine wV fun _=>?_|simp [go_sem]))
 refine dCall.owns 28 (by rfl) (hcp) (by decide) (by simp [go_sem]) (by simp [go_sem]) (fun _ => LeRow.refl _ _ _ _) (by simp [go_sem]) (by simp [go_sem]) ?_
 ((repeat (first|with_reducible (first|refine wL fun _=>?_|refine wD fun _=>?_|refine wZ ?_)|simp [go_sem])); refine dEnd.mkN (by kernel_rfl) ?_)
 (repeat (first|with_reducible refine wV fun _=>?_|simp [go_sem, hcur, hkl, hil]))
 rw [← hpe]
 have hsz : ∀ n, n ≤ prog.length → (stageS g p cell prog n).length ≤ 100000000 := fun n hn => Nat.le_trans (hst n hn).2 (pow10_le (by omega))
 have hst0 : encSs (stageS g p cell prog 0) = .lst 8 [[.lst 1 ((p.at_.map encI).set cell.toNat [.v (.int .i64 0)]), encIs p.h0, encIs p.h1, .v (.int .i64 p.rights), .v (.int .i64 p.side), .v (.int .i64 mk), .v (.int .i64 cell), .v (.bool false)]] := by
  rw [hz]; simp [encSs, startS, encState, clr, hm, encIs, encI, List.map_set]
 have hR0 : stR g p cell prog 1 = [[encSs (stageS g p cell prog 0)]] := rfl
 refine ALoop.start (ALoop.ind (α := Nat) (fun k => ⟨[(4, .ref 0 0 9 0 0), (8, .ref 2 0 2 0 0), (11, .ref 146 0 2 0 0), (12, encSs (stageS g p cell prog k)), (13, encProg prog), (14, .v (.int .i64 k))],
   [(0, .rows true 0 9 [encGame g]), (2, .rows true 0 2 [[AV.nils, .v (.int .i64 0)]]), (142, .rows true k 1 (stR g p cell prog (k + 1))), (146, .rows true 0 2 [[.sl 142 k 1 0 (k + 1), .v (.int .i64 0)]])], 148⟩)
  (fun d k => k + d = prog.length) ?_ prog.length 0 ?_) ?_ ?_
 ·rintro d k k1 hrec
  (repeat (first|with_reducible refine wV fun _=>?_|simp [go_sem]))
  refine aIf.mkL (fun hk => ?_) (fun hk => ?_) <;> simp at hk
  ·have hkk := hst k (by omega)
   have hks := hsz k (by omega)
   have hks' := hsz (k + 1) (by omega)
   have hsk := hsu k hk
   have hxs := hpst _ (nth_mem hk)
   have hpo := fun n hn => partS_ok hg hxs hkk.1 n hn
   have hpa := partS_all g (stageS g p cell prog k) (nth prog k)
   have hpz := partS_zero g (stageS g p cell prog k) (nth prog k)
   have hps := fun n hn => partS_succ g (stageS g p cell prog k) (nth prog k) (n := n) hn
   rw [← hsk] at hpa
   obtain ⟨now, hnow⟩ : ∃ now, now = stageS g p cell prog k := ⟨_, rfl⟩
   rw [← hnow] at hkk hks hpo hpa hpz hps ⊢
   obtain ⟨x, hx⟩ : ∃ x, x = nth prog k := ⟨_, rfl⟩
   rw [← hx] at hxs hpo hpa hpz hps
   (repeat (first|with_reducible refine wV fun _=>?_|simp [go_sem]))
   refine ALoop.start (ALoop.ind (α := Nat) (fun n => ⟨[(4, .ref 0 0 9 0 0), (8, .ref 2 0 2 0 0), (11, .ref 146 0 2 0 0), (12, encSs now), (13, encProg prog), (14, .v (.int .i64 k)), (15, .sl 148 (partS g now x n).length 8 0 (partS g now x n).length), (16, .v (.int .i64 n))],
     [(0, .rows true 0 9 [encGame g]), (2, .rows true 0 2 [[AV.nils, .v (.int .i64 0)]]), (142, .rows true k 1 (stR g p cell prog (k + 1))), (146, .rows true 0 2 [[.sl 142 k 1 0 (k + 1), .v (.int .i64 0)]]), (148, .rows true (partS g now x n).length 8 ((partS g now x n).map encState))], 149⟩)
    (fun d n => n + d = now.length) ?_ now.length 0 ?_) ?_ ?_
   ·rintro d2 n n1 hrec2
    (repeat (first|with_reducible refine wV fun _=>?_|simp [go_sem]))
    refine aIf.mkL (fun hn => ?_) (fun hn => ?_) <;> simp at hn
    ·have hsn := hkk.1 _ (nth_mem hn)
     have hpn := hps n hn
     have hpoN := hpo n (by omega)
     have hpoS := hpo (n + 1) (by omega)
     have hSt := R5Step_pure g hg (nth now n) hsn.1 x hxs
     have hsl := stepS_len hg (nth now n) x
     have hso := stepS_ok hg hsn.1 hxs
     have hAd := R5add_owns (partS g now x n) (stepS g (nth now n) x) (by omega) (fun s hs => (hpoN.1 s hs).1.p.fits hg) (fun s hs => (hso s hs).1.p.fits hg)
     rw [← hpn] at hAd
     (repeat (first|with_reducible refine wV fun _=>?_|simp [go_sem, hn, hk, ← hx]))
     refine dCall.plain hSt (by simp [go_sem]) ?_
     (repeat (first|with_reducible refine wV fun _=>?_|simp [go_sem]))
     refine dCall.own1 (o := 148) hAd rfl (of_eq_true bel_St) (of_eq_true bel_St) (fun _ => .cons (.sl rfl) (.cons (.same (bel_encSs _)) .nil)) (by simp [go_sem]) (fun n₁ hn₁ => by simp [go_sem, hn₁]) (fun _ => .sl rfl) (.inr ⟨_, _, _, _, rfl⟩) ?_
     (repeat (first|with_reducible refine wV fun _=>?_|simp [go_sem]))
     refine ALoop.start (hrec2 (d2 - 1) (by omega) (n + 1) (by omega)) ?_ (by simp)
     simp [go_sem, Wk_eq]
    ·have hnl : n = now.length := by omega
     subst hnl
     rw [hpa]
     (repeat (first|with_reducible refine wV fun _=>?_|simp [go_sem]))
     have hRk := hR (k + 1)
     refine ALoop.start (hrec (d - 1) (by omega) (k + 1) (by omega)) ?_ (by simp)
     simp [go_sem, Wk_eq, hRk]
     refine ⟨?_, leRows_append (.refl _) (.cons (.cons ?_ .nil) .nil)⟩ <;> exact frX
   ·omega
   ·simp [go_sem, Wk_eq, hpz]
   ·simp
  ·have hkl' : k = prog.length := by omega
   subst hkl'
   (repeat (first|with_reducible refine wV fun _=>?_|simp [go_sem]))
   exact leV_frz rfl (by rw [stR_len]; omega) (by simp [noH, upd]) (by rw [List.drop_zero, List.take_of_length_le (by rw [stR_len]; omega)])
 ·omega
 ·simp [go_sem, Wk_eq, hR0]
  rw [show AV.lst 8 (List.map encState (stageS g p cell prog 0)) = _ from hst0]
  refine ⟨?_, ?_⟩
  ·(first|done|exact dpX)
  ·(first|done|exact dpX)
 ·simp
end Go.Av
end
section
/- Contracts, runs: Less, Insert, Runs of the reference. -/
open Go Go.Proofs
namespace Go.Av
theorem R5Less_pure (a b : OutD) (ha : FitsP a.pos) (hb : FitsP b.pos) : Pure Tryz.prog 295 [.agg (encOut a), .agg (encOut b)] (.v (.bool (lessO a b))) := by
 refine pF Tryz.func295 ?_
 have hC := Compare_pure _ _ ha hb
 unfold lessO
 obtain ⟨pa, ta⟩ := a
 obtain ⟨pb, tb⟩ := b
 simp only at hC ⊢
 generalize cmpP pa pb = c at *
 (repeat (first|with_reducible refine wV fun _=>?_|simp [go_sem]))
 refine ACallP.plain hC (by simp [go_sem]) ?_
 by_cases c1 : c < 0
 ·(repeat (first|with_reducible refine wV fun _=>?_|simp [go_sem, c1]))
 ·by_cases c2 : c = 0
  ·subst c2
   cases ta <;> cases tb <;> (repeat (first|with_reducible refine wV fun _=>?_|simp [go_sem]))
  ·cases ta <;> cases tb <;> (repeat (first|with_reducible refine wV fun _=>?_|simp [go_sem, c1, c2]))
def insAt (x : OutD) (l : List OutD) (dn : Bool) : List OutD := if dn then l else insertO x l
theorem R5Insert_pure (l : List OutD) (x : OutD) (hl : l.length ≤ 17179869184) (h1 : ∀ o ∈ l, FitsP o.pos) (h2 : FitsP x.pos) : Pure Tryz.prog 286 [encOs l, .agg (encOut x)] (encOs (insertO x l)) := by
 refine pF Tryz.func286 ?_
 obtain ⟨R, hR⟩ : ∃ R, R = insertO x l := ⟨_, rfl⟩
 rw [← hR]
 (repeat (first|with_reducible refine wV fun _=>?_|simp [go_sem]))
 refine ALoop.start (ALoop.ind (α := Nat × List OutD × Bool) (fun a => ⟨[(0, encOs l), (3, .ref 0 0 6 0 0), (5, .sl 1 a.2.1.length 6 0 a.2.1.length), (6, .v (.bool a.2.2)), (7, .v (.int .i64 a.1))], [(0, .rows true 0 6 [encOut x]), (1, .rows true a.2.1.length 6 (a.2.1.map encOut))], 2⟩)
  (fun d a => a.1 + d = l.length ∧ a.2.1.length ≤ a.1 + a.2.2.toNat ∧ R = a.2.1 ++ insAt x (l.drop a.1) a.2.2) ?_ l.length (0, [], false) ?_) ?_ ?_
 ·rintro d ⟨i, out, dn⟩ ⟨i1, i2, i3⟩ hrec
  simp only at i1 i2 i3
  (repeat (first|with_reducible refine wV fun _=>?_|simp [go_sem]))
  refine aIf.mkL (fun hi => ?_) (fun hi => ?_) <;> simp at hi
  ·have f1 := h1 _ (nth_mem hi)
   have hL1 := R5Less_pure (nth l i) x f1 h2
   have hL2 := R5Less_pure x (nth l i) h2 f1
   rw [dropG_cons hi] at i3
   cases dn
   ·simp only [insAt, insertO] at i3
    simp only [Bool.toNat_false] at i2
    (repeat (first|with_reducible refine wV fun _=>?_|simp [go_sem, hi]))
    refine dGC.plain _ (fun _ => hL1) (by simp [go_sem]) ?_
    (repeat (first|with_reducible refine wV fun _=>?_|simp [go_sem, hi]))
    by_cases l1 : lessO (nth l i) x = true
    ·rw [if_pos l1] at i3
     (repeat (first|with_reducible refine wV fun _=>?_|simp [go_sem, hi, l1]))
     refine ALoop.start (hrec (d - 1) (by omega) (i + 1, out ++ [nth l i], false) ⟨by simp only; omega, by simp; omega, by simpa [insAt] using i3⟩) ?_ (by simp)
     simp [go_sem, Wk_eq]
    ·rw [if_neg l1] at i3
     (repeat (first|with_reducible refine wV fun _=>?_|simp [go_sem, hi, l1]))
     refine dCall.plain hL2 (by simp [go_sem]) ?_
     (repeat (first|with_reducible refine wV fun _=>?_|simp [go_sem, hi]))
     by_cases l2 : lessO x (nth l i) = true
     ·rw [if_pos l2] at i3
      (repeat (first|with_reducible refine wV fun _=>?_|simp [go_sem, hi, l2]))
      refine ALoop.start (hrec (d - 1) (by omega) (i + 1, out ++ [x] ++ [nth l i], true) ⟨by simp only; omega, by simp; omega, by simpa [insAt] using i3⟩) ?_ (by simp)
      simp [go_sem, Wk_eq]
     ·rw [if_neg l2] at i3
      (repeat (first|with_reducible refine wV fun _=>?_|simp [go_sem, hi, l2]))
      refine ALoop.start (hrec (d - 1) (by omega) (i + 1, out ++ [nth l i], true) ⟨by simp only; omega, by simp; omega, by simpa [insAt] using i3⟩) ?_ (by simp)
      simp [go_sem, Wk_eq]
   ·simp only [insAt, if_true] at i3
    simp only [Bool.toNat_true] at i2
    (repeat (first|with_reducible refine wV fun _=>?_|simp [go_sem, hi]))
    refine dGC.skip (.v (.bool true)) ?_
    (repeat (first|with_reducible refine wV fun _=>?_|simp [go_sem, hi]))
    refine ALoop.start (hrec (d - 1) (by omega) (i + 1, out ++ [nth l i], true) ⟨by simp only; omega, by simp; omega, by simpa [insAt] using i3⟩) ?_ (by simp)
    simp [go_sem, Wk_eq]
  ·rw [List.drop_eq_nil_of_le hi] at i3
   cases dn
   ·simp [insAt, insertO] at i3
    simp only [Bool.toNat_false] at i2
    (repeat (first|with_reducible refine wV fun _=>?_|simp [go_sem]))
    rw [i3]
    exact frX
   ·simp [insAt] at i3
    simp only [Bool.toNat_true] at i2
    (repeat (first|with_reducible refine wV fun _=>?_|simp [go_sem]))
    rw [i3]
    exact frX
 ·simp [insAt, hR]
 ·simp [go_sem, Wk_eq]
 ·simp
end Go.Av
end
section
/- Contracts, lists of positions: half, Sort, Same of the reference. -/
open Go Go.Proofs
namespace Go.Av
theorem R4Same_pure (a b : PosD) (ha : FitsP a) (hb : FitsP b) : Pure Tryz.prog 64 [.agg (encPos a), .agg (encPos b)] (.v (.bool (decide (cmpP a b = 0)))) := by
 refine pF Tryz.func64 ?_
 (repeat (first|with_reducible refine wV fun _=>?_|simp [go_sem]))
 refine ACallP.plain (Compare_pure a b ha hb) (by simp [go_sem]) ?_
 (repeat (first|with_reducible refine wV fun _=>?_|simp [go_sem]))
attribute [go_sem ↓] bel_P bel_I List.forall_mem_append
theorem bel1 {x : AV} (h : Bel 0 x) : ∀ c ∈ [x], Bel 0 c := by simpa using h
theorem bel_encPs {n : Nat} (l : List PosD) : Bel n (encPs l) := of_eq_true bel_Ps
theorem half_pure : ∀ (f : Nat) (l : List PosD), l.length ≤ f + 1 → l.length ≤ 68719476736 → (∀ p ∈ l, FitsP p) → Pure Tryz.prog 79 [encPs l] (encPs (sortC cmpP l)) := by
 intro f
 induction f with
 | zero =>
  intro l h1 h2 h3
  rw [sortC_short (by omega)]
  refine pF Tryz.func79 ?_
  (repeat (first|with_reducible refine wV fun _=>?_|simp [go_sem]))
  (refine aIf.mkL (fun hT => ?_) (fun hT => by first | omega | (simp at hT; omega)); clear hT)
  (repeat (first|with_reducible refine wV fun _=>?_|simp [go_sem]))
 | succ f ih =>
  intro l h1 h2 h3
  by_cases hs : l.length < 2
  ·rw [sortC_short hs]
   refine pF Tryz.func79 ?_
   (repeat (first|with_reducible refine wV fun _=>?_|simp [go_sem]))
   (refine aIf.mkL (fun hT => ?_) (fun hT => by first | omega | (simp at hT; omega)); clear hT)
   (repeat (first|with_reducible refine wV fun _=>?_|simp [go_sem]))
  ·have hm := sortC_merge cmp_pos (l.take (l.length / 2)) (l.drop (l.length / 2))
   rw [List.take_append_drop] at hm
   have hA := ih (l.take (l.length / 2)) (by simp; omega) (by simp; omega) (fun p hp => h3 p (List.mem_of_mem_take hp))
   have hB := ih (l.drop (l.length / 2)) (by simp; omega) (by simp; omega) (fun p hp => h3 p (List.mem_of_mem_drop hp))
   have fA : ∀ p ∈ sortC cmpP (l.take (l.length / 2)), FitsP p := fun p hp => h3 p (List.mem_of_mem_take (sortC_mem.1 hp))
   have fB : ∀ p ∈ sortC cmpP (l.drop (l.length / 2)), FitsP p := fun p hp => h3 p (List.mem_of_mem_drop (sortC_mem.1 hp))
   have lA : (sortC cmpP (l.take (l.length / 2))).length = l.length / 2 := by rw [sortC_len]; simp; omega
   have lB : (sortC cmpP (l.drop (l.length / 2))).length = l.length - l.length / 2 := by rw [sortC_len]; simp
   rw [← hm]
   generalize sortC cmpP (l.take (l.length / 2)) = xs at *
   generalize sortC cmpP (l.drop (l.length / 2)) = ys at *
   have hq : ((l.length : Int) / 2).toNat = l.length / 2 := by omega
   have eA : AV.lst 5 (List.take (l.length / 2) (l.map encPos)) = encPs (l.take (l.length / 2)) := by simp [encPs, List.map_take]
   have eB : AV.lst 5 (List.take (l.length - l.length / 2) (List.drop (l.length / 2) (l.map encPos))) = encPs (l.drop (l.length / 2)) := by rw [List.take_of_length_le (by simp)]; simp [encPs, List.map_drop]
   generalize hR : List.merge xs ys (leC cmpP) = R
   refine pF Tryz.func79 ?_
   (repeat (first|with_reducible refine wV fun _=>?_|simp [go_sem]))
   (refine aIf.mkL (fun hF => by first | omega | (simp at hF; omega)) (fun hF => ?_); clear hF)
   (repeat (first|with_reducible refine wV fun _=>?_|simp [go_sem, hq]))
   rw [eA]
   refine ACallP.plain hA (bel1 (bel_encPs _)) ?_
   (repeat (first|with_reducible refine wV fun _=>?_|simp [go_sem, hq]))
   rw [eB]
   refine ACallP.plain hB (bel1 (bel_encPs _)) ?_
   (repeat (first|with_reducible refine wV fun _=>?_|simp [go_sem, hq]))
   refine ALoop.start (ALoop.ind (α := Nat × Nat × List PosD) (fun a => ⟨[(3, encPs xs), (4, encPs ys), (5, .sl 0 a.2.2.length 5 0 a.2.2.length), (6, .v (.int .i64 a.1)), (7, .v (.int .i64 a.2.1))], [(0, .rows true a.2.2.length 5 (a.2.2.map encPos))], 1⟩)
    (fun d a => a.1 + a.2.1 + d = xs.length + ys.length ∧ a.1 ≤ xs.length ∧ a.2.1 ≤ ys.length ∧ a.2.2.length = a.1 + a.2.1 ∧ R = a.2.2 ++ List.merge (xs.drop a.1) (ys.drop a.2.1) (leC cmpP)) ?_ (xs.length + ys.length) (0, 0, []) ?_) ?_ ?_
   ·rintro d ⟨i, k, out⟩ ⟨i1, i2, i3, i4, i5⟩ hrec
    simp only at i1 i2 i3 i4 i5
    (repeat (first|with_reducible refine wV fun _=>?_|simp [go_sem]))
    refine aIf.mkL (fun hj => ?_) (fun hj => ?_) <;> simp at hj
    ·by_cases hk : k < ys.length
     ·by_cases hi : i < xs.length
      ·have fa := fA _ (nth_mem hi)
       have fb := fB _ (nth_mem hk)
       rw [dropG_cons hi, dropG_cons hk, List.cons_merge_cons, ← dropG_cons hi, ← dropG_cons hk] at i5
       have hk' := Nat.not_le.2 hk
       (repeat (first|with_reducible refine wV fun _=>?_|simp [go_sem, hk, hk', hi]))
       refine dGC.plain _ (fun _ => Compare_pure _ _ fa fb) (by simp [go_sem]) ?_
       (repeat (first|with_reducible refine wV fun _=>?_|simp [go_sem, hk, hk', hi]))
       refine aIf.mkL (fun hc => ?_) (fun hc => ?_) <;> simp at hc
       ·rw [if_pos (by simpa [leC] using hc)] at i5
        (repeat (first|with_reducible refine wV fun _=>?_|simp [go_sem, hk, hi]))
        refine ALoop.start (hrec (d - 1) (by omega) (i + 1, k, out ++ [nth xs i]) ⟨by simp only; omega, by simp only; omega, i3, by simp; omega, by simpa using i5⟩) ?_ (by simp)
        simp [go_sem, Wk_eq]
       ·rw [if_neg (by simpa [leC] using hc)] at i5
        (repeat (first|with_reducible refine wV fun _=>?_|simp [go_sem, hk, hi]))
        refine ALoop.start (hrec (d - 1) (by omega) (i, k + 1, out ++ [nth ys k]) ⟨by simp only; omega, i2, by simp only; omega, by simp; omega, by simpa using i5⟩) ?_ (by simp)
        simp [go_sem, Wk_eq]
      ·rw [List.drop_eq_nil_of_le (show xs.length ≤ i by omega), List.nil_merge, dropG_cons hk] at i5
       have hk' := Nat.not_le.2 hk
       (repeat (first|with_reducible refine wV fun _=>?_|simp [go_sem, hk, hk', hi]))
       refine dGC.skip (.v (.int .i64 0)) ?_
       (repeat (first|with_reducible refine wV fun _=>?_|simp [go_sem, hk, hk', hi]))
       refine ALoop.start (hrec (d - 1) (by omega) (i, k + 1, out ++ [nth ys k]) ⟨by simp only; omega, i2, by simp only; omega, by simp; omega, by simp [List.drop_eq_nil_of_le (show xs.length ≤ i by omega), i5]⟩) ?_ (by simp)
       simp [go_sem, Wk_eq]
     ·have hi : i < xs.length := by omega
      rw [List.drop_eq_nil_of_le (show ys.length ≤ k by omega), List.merge_right, dropG_cons hi] at i5
      have hk' := Nat.not_lt.1 hk
      (repeat (first|with_reducible refine wV fun _=>?_|simp [go_sem, hk, hk', hi]))
      refine dGC.skip (.v (.int .i64 0)) ?_
      (repeat (first|with_reducible refine wV fun _=>?_|simp [go_sem, hk, hk', hi]))
      refine ALoop.start (hrec (d - 1) (by omega) (i + 1, k, out ++ [nth xs i]) ⟨by simp only; omega, by simp only; omega, i3, by simp; omega, by simp [List.drop_eq_nil_of_le (show ys.length ≤ k by omega), i5]⟩) ?_ (by simp)
      simp [go_sem, Wk_eq]
    ·rw [List.drop_eq_nil_of_le (show xs.length ≤ i by omega), List.drop_eq_nil_of_le (show ys.length ≤ k by omega)] at i5
     (repeat (first|with_reducible refine wV fun _=>?_|simp [go_sem]))
     rw [i5]
     exact frX
   ·simp [hR]
   ·simp [go_sem, Wk_eq]
   ·simp
end Go.Av
end
