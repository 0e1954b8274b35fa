/- Plain: paths of programs (layer 8). -/
import Derived.Test.YtpngjhfkaogdeaaDL
import Derived.Test.YtpngjhfkaogdeaaFC
section
set_option linter.unusedSimpArgs false
set_option linter.unusedVariables false
open Go Go.Proofs
namespace Go.Av
abbrev ActD := Int × Int × Int
structure PathD where
  acts : List ActD
  to : Int
  deriving DecidableEq
instance : Inhabited PathD := ⟨⟨[], 0⟩⟩
def encAct (a : ActD) : List AV := [.v (.int .i64 a.1), .v (.int .i64 a.2.1), .v (.int .i64 a.2.2)]
def encAs (l : List ActD) : AV := .lst 3 (l.map encAct)
def encPath (p : PathD) : List AV := [encAs p.acts, .v (.int .i64 p.to)]
def encPt (l : List PathD) : AV := .lst 2 (l.map encPath)
def encCells (l : List (List PathD)) : AV := .lst 1 (l.map fun x => [encPt x])
def encSide (l : List (List (List PathD))) : AV := .lst 1 (l.map fun x => [encCells x])
abbrev CodeD := List (List (List PathD)) × List (List (List PathD))
def encCode (c : CodeD) : List AV := [encSide c.1, encSide c.2]
attribute [go_sem] encAct encAs encPath encPt encCells encSide encCode
theorem bel_A {n : Nat} {l : List ActD} : (∀ r ∈ l.map encAct, ∀ c ∈ r, Bel n c) = True := by
  refine eq_true ?_
  intro r hr c hc
  obtain ⟨x, _, rfl⟩ := List.mem_map.1 hr
  revert c
  simp [go_sem]
theorem bel_As {n : Nat} {l : List ActD} : Bel n (.lst 3 (l.map encAct)) = True := by rw [Bel_lst, bel_A]
theorem bel_Pa {n : Nat} {l : List PathD} : (∀ r ∈ l.map encPath, ∀ c ∈ r, Bel n c) = True := by
  refine eq_true ?_
  intro r hr c hc
  obtain ⟨x, _, rfl⟩ := List.mem_map.1 hr
  simp only [encPath, encAs, List.mem_cons, List.not_mem_nil, or_false] at hc
  rcases hc with rfl | rfl
  · exact of_eq_true bel_As
  · exact .v _
theorem bel_Pas {n : Nat} {l : List PathD} : Bel n (.lst 2 (l.map encPath)) = True := by rw [Bel_lst, bel_Pa]
theorem bel_Ce {n : Nat} {l : List (List PathD)} : (∀ r ∈ l.map (fun x => [AV.lst 2 (x.map encPath)]), ∀ c ∈ r, Bel n c) = True := by
  refine eq_true ?_
  intro r hr c hc
  obtain ⟨x, _, rfl⟩ := List.mem_map.1 hr
  simp only [List.mem_cons, List.not_mem_nil, or_false] at hc
  subst hc
  exact of_eq_true bel_Pas
theorem bel_Ces {n : Nat} {l : List (List PathD)} : Bel n (.lst 1 (l.map (fun x => [AV.lst 2 (x.map encPath)]))) = True := by rw [Bel_lst, bel_Ce]
theorem bel_Si {n : Nat} {l : List (List (List PathD))} : (∀ r ∈ l.map (fun x => [AV.lst 1 (x.map (fun x => [AV.lst 2 (x.map encPath)]))]), ∀ c ∈ r, Bel n c) = True := by
  refine eq_true ?_
  intro r hr c hc
  obtain ⟨x, _, rfl⟩ := List.mem_map.1 hr
  simp only [List.mem_cons, List.not_mem_nil, or_false] at hc
  subst hc
  exact of_eq_true bel_Ces
theorem bel_Sis {n : Nat} {l : List (List (List PathD))} : Bel n (.lst 1 (l.map (fun x => [AV.lst 1 (x.map (fun x => [AV.lst 2 (x.map encPath)]))]))) = True := by rw [Bel_lst, bel_Si]
attribute [go_sem high] bel_As bel_Pas bel_Ces bel_Sis
attribute [go_sem ↓] bel_A bel_Pa bel_Ce bel_Si
/-! ### paths -/
def onP (p : PathD) (to : Int) (more : List ActD) : PathD := ⟨p.acts ++ more, to⟩
def slideP (p : PathD) : List Int → List ActD → List PathD
  | [], _ => []
  | c :: l, passed => onP p c passed :: slideP p l (passed ++ [(3, c, 0)])
def extP (b : BoardD) (side : Int) (p : PathD) (x : Int × Int) : List PathD :=
  if x.1 = 1 ∨ x.1 = 7 then
    if toB b side x.2 p.to < 0 then [] else if x.1 = 1 then [onP p (toB b side x.2 p.to) []] else [onP p p.to [(7, p.to, toB b side x.2 p.to)]]
  else if x.1 = 2 then slideP p (lineB b side x.2 p.to) []
  else if x.1 = 8 ∨ x.1 = 9 ∨ x.1 = 10 then [onP p p.to [(x.1, x.2, 0)]]
  else [onP p p.to [(x.1, p.to, 0)]]
def stepP (b : BoardD) (side : Int) (now : List PathD) (x : Int × Int) : List PathD := now.flatMap fun w => extP b side w x
def pathsP (b : BoardD) (side : Int) (prog : List (Int × Int)) (cell : Int) : List PathD := prog.foldl (stepP b side) [⟨[], cell⟩]
def kindP (b : BoardD) (side : Int) (progs : List (List (Int × Int))) (cell : Int) : List PathD := progs.flatMap fun p => pathsP b side p cell
def cellsP (b : BoardD) (side : Int) (progs : List (List (Int × Int))) : List (List PathD) := (List.range b.cells.toNat).map fun (c : Nat) => kindP b side progs c
def sideP (g : GameD) (side : Int) : List (List (List PathD)) := g.kinds.map fun k => cellsP g.board side k.progs
def codeP (g : GameD) : CodeD := (sideP g 0, sideP g 1)
/-! ### lengths -/
theorem lineGo_nodup {b : BoardD} {side d c : Int} : ∀ (f : Nat) (x : Int) (seen : List Int), seen.Nodup → (lineGo b side d c f x seen).Nodup
  | 0, x, seen, h => by simpa [lineGo] using h
  | f + 1, x, seen, h => by
    rw [lineGo]
    split
    · rename_i hc
      refine lineGo_nodup f _ _ (List.nodup_append.2 ⟨h, by simp, ?_⟩)
      intro y hy z hz
      simp at hz
      subst hz
      rintro rfl
      exact hc.2.2 hy
    · exact h
theorem lineB_le {b : BoardD} (hb : BoardOk b) {side d c : Int} : (lineB b side d c).length ≤ b.cells.toNat :=
  nodup_le _ _ (lineGo_nodup _ _ _ (by simp)) (fun y hy => by have := lineB_mem hb y hy; have := hb.c0; omega)
theorem slideP_len (p : PathD) : ∀ (l : List Int) (passed : List ActD), (slideP p l passed).length = l.length
  | [], _ => rfl
  | c :: l, passed => by simp [slideP, slideP_len p l]
theorem slideP_mem {p w : PathD} : ∀ {l : List Int} {passed : List ActD}, w ∈ slideP p l passed → ∃ more, w.acts = p.acts ++ passed ++ more ∧ more.length ≤ l.length ∧ w.to ∈ l ∧ ∀ a ∈ more, ∃ c ∈ l, a = (3, c, 0)
  | [], _, h => by simp [slideP] at h
  | c :: l, passed, h => by
    simp only [slideP, List.mem_cons] at h
    rcases h with rfl | h
    · exact ⟨[], by simp [onP], by simp, by simp [onP], by simp⟩
    · obtain ⟨more, h1, h2, h3, h4⟩ := slideP_mem h
      refine ⟨(3, c, 0) :: more, by rw [h1]; simp, by simp; omega, List.mem_cons_of_mem _ h3, fun a ha => ?_⟩
      rcases List.mem_cons.1 ha with rfl | ha
      · exact ⟨c, by simp, rfl⟩
      · obtain ⟨c', hc, e⟩ := h4 a ha
        exact ⟨c', List.mem_cons_of_mem _ hc, e⟩
theorem extP_len {b : BoardD} (hb : BoardOk b) (h1 : 1 ≤ b.cells) (side : Int) (p : PathD) (x : Int × Int) : (extP b side p x).length ≤ if x.1 = 2 then b.cells.toNat else 1 := by
  unfold extP
  by_cases h2 : x.1 = 2
  · rw [if_neg (by omega), if_pos h2, if_pos h2, slideP_len]
    exact lineB_le hb
  · rw [if_neg h2, if_neg h2]
    split
    · split
      · simp
      · split <;> simp
    · split <;> simp
theorem flatMap_le {α β : Type} (f : α → List β) (m : Nat) : ∀ (l : List α), (∀ x ∈ l, (f x).length ≤ m) → (l.flatMap f).length ≤ l.length * m
  | [], _ => by simp
  | x :: l, h => by
    have a := h x (by simp)
    have b := flatMap_le f m l (fun y hy => h y (by simp [hy]))
    simp only [List.flatMap_cons, List.length_append, List.length_cons, Nat.add_mul, Nat.one_mul]
    omega
theorem stepP_len {b : BoardD} (hb : BoardOk b) (h1 : 1 ≤ b.cells) (side : Int) (now : List PathD) (x : Int × Int) : (stepP b side now x).length ≤ now.length * if x.1 = 2 then b.cells.toNat else 1 :=
  flatMap_le _ _ _ (fun w _ => extP_len hb h1 side w x)
theorem foldP_len {b : BoardD} (hb : BoardOk b) (h1 : 1 ≤ b.cells) (side : Int) : ∀ (prog : List (Int × Int)) (now : List PathD), (prog.foldl (stepP b side) now).length ≤ now.length * b.cells.toNat ^ countOp prog 2
  | [], now => by simp [countOp]
  | x :: prog, now => by
    have h := foldP_len hb h1 side prog (stepP b side now x)
    have k := stepP_len hb h1 side now x
    rw [List.foldl_cons]
    refine Nat.le_trans h ?_
    refine Nat.le_trans (Nat.mul_le_mul_right _ k) ?_
    unfold countOp at *
    rw [List.countP_cons, Nat.mul_assoc]
    refine Nat.mul_le_mul_left _ ?_
    by_cases h2 : x.1 = 2
    · simp [h2, Nat.pow_succ, Nat.mul_comm]
    · simp [h2]
theorem pathsP_len {b : BoardD} (hb : BoardOk b) (h1 : 1 ≤ b.cells) (side : Int) (prog : List (Int × Int)) (cell : Int) : (pathsP b side prog cell).length ≤ b.cells.toNat ^ countOp prog 2 := by
  have := foldP_len hb h1 side prog [⟨[], cell⟩]
  simpa [pathsP] using this
/-- the acts of a path: not more than 10 a step -/
def ActsLe (n : Nat) (l : List PathD) : Prop := ∀ w ∈ l, w.acts.length ≤ n
theorem extP_acts {b : BoardD} (hb : BoardOk b) (h9 : b.cells ≤ 9) (side : Int) (p : PathD) (x : Int × Int) : ActsLe (p.acts.length + 10) (extP b side p x) := by
  intro w hw
  unfold extP at hw
  split at hw
  · split at hw
    · simp at hw
    · split at hw <;> simp only [List.mem_singleton] at hw <;> subst hw <;> simp [onP]
  · split at hw
    · obtain ⟨more, e1, e2, _, _⟩ := slideP_mem hw
      have := lineB_le hb (side := side) (d := x.2) (c := p.to)
      rw [e1]; simp; omega
    · split at hw <;> simp only [List.mem_singleton] at hw <;> subst hw <;> simp [onP]
theorem stepP_acts {b : BoardD} (hb : BoardOk b) (h9 : b.cells ≤ 9) (side : Int) {n : Nat} {now : List PathD} (hn : ActsLe n now) (x : Int × Int) : ActsLe (n + 10) (stepP b side now x) := by
  intro w hw
  obtain ⟨p, hp, hw⟩ := List.mem_flatMap.1 hw
  have := extP_acts hb h9 side p x w hw
  have := hn p hp
  omega
end Go.Av
end
section
set_option linter.unusedSimpArgs false
set_option linter.unusedVariables false
set_option maxRecDepth 8000
open Go Go.Proofs
namespace Go.Av
/-! ### valid -/
def ActOk (cells kinds rights : Int) (a : ActD) : Prop :=
  (3 ≤ a.1 ∧ a.1 ≤ 6 ∧ (0 ≤ a.2.1 ∧ a.2.1 < cells) ∧ a.2.2 = 0) ∨ (a.1 = 7 ∧ (0 ≤ a.2.1 ∧ a.2.1 < cells) ∧ (0 ≤ a.2.2 ∧ a.2.2 < cells)) ∨
  (a.1 = 8 ∧ (0 ≤ a.2.1 ∧ a.2.1 < kinds) ∧ a.2.2 = 0) ∨ ((a.1 = 9 ∨ a.1 = 10) ∧ (0 ≤ a.2.1 ∧ a.2.1 < rights) ∧ a.2.2 = 0)
def countA (l : List ActD) (op : Int) : Nat := l.countP (fun a => a.1 == op)
structure PathOk (cells kinds rights : Int) (w : PathD) (t p b : Nat) : Prop where
  to : 0 ≤ w.to ∧ w.to < cells
  acts : ∀ a ∈ w.acts, ActOk cells kinds rights a
  take : countA w.acts 6 ≤ t
  push : countA w.acts 7 ≤ p
  become : countA w.acts 8 ≤ b
theorem countA_append (l m : List ActD) (op : Int) : countA (l ++ m) op = countA l op + countA m op := by simp [countA]
theorem countA_slide {l : List Int} {m : List ActD} (h : ∀ a ∈ m, ∃ c ∈ l, a = (3, c, 0)) {op : Int} (ho : op ≠ 3) : countA m op = 0 := by
  unfold countA
  rw [List.countP_eq_zero]
  intro a ha
  obtain ⟨c, _, rfl⟩ := h a ha
  simpa using ho.symm
theorem countA_one (a : ActD) (op : Int) : countA [a] op = if a.1 = op then 1 else 0 := by simp [countA, List.countP_cons]
def isOp (x : Int × Int) (op : Int) : Nat := if x.1 = op then 1 else 0
theorem extP_ok {b : BoardD} (hb : BoardOk b) {kinds rights : Int} {side : Int} {w : PathD} {t p be : Nat} (hw : PathOk b.cells kinds rights w t p be) {x : Int × Int} (hx : StepOk b.next.length kinds rights x) :
    ∀ v ∈ extP b side w x, PathOk b.cells kinds rights v (t + isOp x 6) (p + isOp x 7) (be + isOp x 8) := by
  intro v hv
  obtain ⟨w1, w2, w3, w4, w5⟩ := hw
  obtain ⟨x1, x2, x3, x4, x5⟩ := hx
  have ht := toB_lt hb side x.2 w.to
  unfold extP at hv
  unfold isOp
  split at hv
  · rename_i h17
    split at hv
    · simp at hv
    · split at hv
      · simp only [List.mem_singleton] at hv
        subst hv
        refine ⟨by simp only [onP]; omega, by simpa [onP] using w2, ?_, ?_, ?_⟩ <;> simp only [onP, List.append_nil] <;> omega
      · have e7 : x.1 = 7 := by omega
        simp only [List.mem_singleton] at hv
        subst hv
        refine ⟨w1, fun a ha => ?_, ?_, ?_, ?_⟩
        · simp only [onP, List.mem_append, List.mem_singleton] at ha
          rcases ha with ha | rfl
          · exact w2 a ha
          · exact .inr (.inl ⟨rfl, w1, by simp only; omega⟩)
        all_goals simp only [onP, countA_append, countA_one, e7]; simp only [show ((7 : Int) = 6) = False by decide, show ((7 : Int) = 8) = False by decide, if_true, if_false]; omega
  · split at hv
    · rename_i h2
      obtain ⟨more, e1, e2, e3, e4⟩ := slideP_mem hv
      rw [List.append_nil] at e1
      refine ⟨lineB_mem hb _ e3, fun a ha => ?_, ?_, ?_, ?_⟩
      · rw [e1, List.mem_append] at ha
        rcases ha with ha | ha
        · exact w2 a ha
        · obtain ⟨c, hc, rfl⟩ := e4 a ha
          exact .inl ⟨by simp, by simp, lineB_mem hb _ hc, rfl⟩
      all_goals rw [e1, countA_append, countA_slide e4 (by omega)]; omega
    · split at hv
      · rename_i h17 h2 h8
        simp only [List.mem_singleton] at hv
        subst hv
        refine ⟨w1, fun a ha => ?_, ?_, ?_, ?_⟩
        · simp only [onP, List.mem_append, List.mem_singleton] at ha
          rcases ha with ha | rfl
          · exact w2 a ha
          · rcases h8 with h | h | h
            · exact .inr (.inr (.inl ⟨h, x4 h, rfl⟩))
            · exact .inr (.inr (.inr ⟨.inl h, x5 (.inl h), rfl⟩))
            · exact .inr (.inr (.inr ⟨.inr h, x5 (.inr h), rfl⟩))
        all_goals simp only [onP, countA_append, countA_one]; omega
      · rename_i h17 h2 h8
        simp only [List.mem_singleton] at hv
        subst hv
        refine ⟨w1, fun a ha => ?_, ?_, ?_, ?_⟩
        · simp only [onP, List.mem_append, List.mem_singleton] at ha
          rcases ha with ha | rfl
          · exact w2 a ha
          · exact .inl ⟨by simp only; omega, by simp only; omega, w1, rfl⟩
        all_goals simp only [onP, countA_append, countA_one]; omega
theorem foldP_ok {b : BoardD} (hb : BoardOk b) {kinds rights : Int} {side : Int} : ∀ {prog : List (Int × Int)} {now : List PathD} {t p be : Nat}, (∀ w ∈ now, PathOk b.cells kinds rights w t p be) → (∀ x ∈ prog, StepOk b.next.length kinds rights x) →
    ∀ w ∈ prog.foldl (stepP b side) now, PathOk b.cells kinds rights w (t + countOp prog 6) (p + countOp prog 7) (be + countOp prog 8)
  | [], now, t, p, be, h, _, w, hw => by simpa [countOp] using h w hw
  | x :: prog, now, t, p, be, h, hx, w, hw => by
    rw [List.foldl_cons] at hw
    have := foldP_ok hb (side := side) (prog := prog) (now := stepP b side now x) (t := t + isOp x 6) (p := p + isOp x 7) (be := be + isOp x 8) (fun v hv => by
      obtain ⟨u, hu, hv⟩ := List.mem_flatMap.1 hv
      exact extP_ok hb (h u hu) (hx x (by simp)) v hv) (fun y hy => hx y (by simp [hy])) w hw
    have e : ∀ op, countOp (x :: prog) op = countOp prog op + isOp x op := fun op => by simp [countOp, List.countP_cons, isOp]
    rw [e, e, e]
    simpa [Nat.add_assoc, Nat.add_comm, Nat.add_left_comm] using this
theorem pathsP_ok {b : BoardD} (hb : BoardOk b) {kinds rights side : Int} {prog : List (Int × Int)} (hp : ∀ x ∈ prog, StepOk b.next.length kinds rights x) {cell : Int} (hc : 0 ≤ cell ∧ cell < b.cells) :
    ∀ w ∈ pathsP b side prog cell, PathOk b.cells kinds rights w (countOp prog 6) (countOp prog 7) (countOp prog 8) := by
  intro w hw
  have := foldP_ok hb (side := side) (kinds := kinds) (rights := rights) (prog := prog) (now := [⟨[], cell⟩]) (t := 0) (p := 0) (be := 0) (fun v hv => by
    simp only [List.mem_singleton] at hv
    subst hv
    exact ⟨hc, by simp, by simp [countA], by simp [countA], by simp [countA]⟩) hp w hw
  simpa using this
theorem kindP_ok {g : GameD} (hg : GOk g) {side : Int} {k : KindD} (hk : k ∈ g.kinds) {cell : Int} (hc : 0 ≤ cell ∧ cell < g.cells) : ∀ w ∈ kindP g.board side k.progs cell, PathOk g.cells g.kinds.length g.rights w 2 1 1 := by
  intro w hw
  obtain ⟨p, hp, hw⟩ := List.mem_flatMap.1 hw
  have ok := hg.pr k hk p hp
  obtain ⟨a, b, c, d, e⟩ := pathsP_ok hg.board (side := side) ok.st hc w hw
  exact ⟨a, b, Nat.le_trans c ok.take, Nat.le_trans d ok.push, Nat.le_trans e ok.become⟩
/-! ### turned -/
def turnS (t : List Int) (x : Int × Int) : Int × Int := if x.1 = 1 ∨ x.1 = 2 ∨ x.1 = 7 then (x.1, nth t x.2.toNat) else x
def turnP (t : List Int) (p : List (Int × Int)) : List (Int × Int) := p.map (turnS t)
def turnK (t : List Int) (k : KindD) : KindD := { k with progs := k.progs.map (turnP t) }
def turnG (g : GameD) : GameD := { g with kinds := g.kinds.map (turnK g.turn) }
theorem toB_turn {b : BoardD} (hb : BoardOk b) (ht : ∀ d, d < b.turn.length → nth b.turn (nth b.turn d).toNat = d) {s : Int} (hs : s = 0 ∨ s = 1) {d : Int} (hd : 0 ≤ d ∧ d < b.next.length) (c : Int) :
    toB b (1 - s) (nth b.turn d.toNat) c = toB b s d c := by
  have hdt : d.toNat < b.turn.length := by have := hb.tl; omega
  have h1 := hb.tv _ (nth_mem hdt)
  have h2 := ht d.toNat hdt
  by_cases hc : c < 0 ∨ b.cells ≤ c
  · unfold toB
    rw [if_pos (by omega), if_pos (by omega)]
  have q0 : ∀ y : Int, 0 ≤ y → y < b.next.length → toB b 0 y c = nth (nth b.next y.toNat) c.toNat := fun y h0 h1 => by
    unfold toB
    rw [if_neg (by omega), if_neg (by omega)]
  have q1 : ∀ y : Int, 0 ≤ y → y < b.next.length → toB b 1 y c = nth (nth b.next (nth b.turn y.toNat).toNat) c.toNat := fun y h0 h1 => by
    unfold toB
    rw [if_neg (by omega), if_pos rfl]
  rcases hs with rfl | rfl
  · rw [show (1 : Int) - 0 = 1 from rfl, q1 _ h1.1 h1.2, q0 _ hd.1 hd.2, h2, Int.toNat_natCast]
  · rw [show (1 : Int) - 1 = 0 from rfl, q0 _ h1.1 h1.2, q1 _ hd.1 hd.2]
theorem lineGo_turn {b : BoardD} {s s' d d' : Int} (h : ∀ c, toB b s' d' c = toB b s d c) (c : Int) : ∀ (f : Nat) (x : Int) (seen : List Int), lineGo b s' d' c f x seen = lineGo b s d c f x seen
  | 0, _, _ => rfl
  | f + 1, x, seen => by
    rw [lineGo, lineGo, h, lineGo_turn h c f]
theorem lineB_turn {b : BoardD} {s s' d d' : Int} (h : ∀ c, toB b s' d' c = toB b s d c) (c : Int) : lineB b s' d' c = lineB b s d c := by
  unfold lineB
  rw [h, lineGo_turn h]
theorem extP_turn {b : BoardD} (hb : BoardOk b) (ht : ∀ d, d < b.turn.length → nth b.turn (nth b.turn d).toNat = d) {s : Int} (hs : s = 0 ∨ s = 1) {kinds rights : Int} {x : Int × Int} (hx : StepOk b.next.length kinds rights x) (w : PathD) :
    extP b (1 - s) w (turnS b.turn x) = extP b s w x := by
  have hd := hx.dir
  unfold turnS
  by_cases h : x.1 = 1 ∨ x.1 = 2 ∨ x.1 = 7
  · rw [if_pos h]
    have e := fun c => toB_turn hb ht hs (hd h) c
    have e2 := fun c => lineB_turn e c
    unfold extP
    simp only [e, e2]
    rcases h with h | h | h <;> simp [h]
  · rw [if_neg h]
    rw [not_or, not_or] at h
    unfold extP
    simp [h.1, h.2.1, h.2.2]
theorem foldP_turn {b : BoardD} (hb : BoardOk b) (ht : ∀ d, d < b.turn.length → nth b.turn (nth b.turn d).toNat = d) {s : Int} (hs : s = 0 ∨ s = 1) {kinds rights : Int} : ∀ {prog : List (Int × Int)} (now : List PathD), (∀ x ∈ prog, StepOk b.next.length kinds rights x) →
    (turnP b.turn prog).foldl (stepP b (1 - s)) now = prog.foldl (stepP b s) now
  | [], _, _ => rfl
  | x :: prog, now, h => by
    have e : stepP b (1 - s) now (turnS b.turn x) = stepP b s now x := by
      unfold stepP
      congr 1
      funext w
      exact extP_turn hb ht hs (h x (by simp)) w
    simp only [turnP, List.map_cons, List.foldl_cons]
    rw [e]
    exact foldP_turn hb ht hs _ (fun y hy => h y (by simp [hy]))
theorem cellsP_turn {g : GameD} (hg : GOk g) {s : Int} (hs : s = 0 ∨ s = 1) {k : KindD} (hk : k ∈ g.kinds) : cellsP g.board (1 - s) (k.progs.map (turnP g.turn)) = cellsP g.board s k.progs := by
  unfold cellsP kindP
  refine List.map_congr_left fun c _ => ?_
  rw [List.flatMap_map]
  rw [List.flatMap_def, List.flatMap_def]
  congr 1
  refine List.map_congr_left fun p hp => ?_
  exact foldP_turn hg.board hg.turn hs _ (hg.pr k hk p hp).st
theorem sideP_turn {g : GameD} (hg : GOk g) {s : Int} (hs : s = 0 ∨ s = 1) : sideP (turnG g) (1 - s) = sideP g s := by
  unfold sideP turnG
  simp only [List.map_map]
  refine List.map_congr_left fun k hk => ?_
  exact cellsP_turn hg hs hk
theorem turnS_ok {g : GameD} (hg : GOk g) {kinds rights : Int} {x : Int × Int} (hx : StepOk g.next.length kinds rights x) : StepOk g.next.length kinds rights (turnS g.turn x) := by
  obtain ⟨a, b, c, d, e⟩ := hx
  unfold turnS
  split
  · rename_i h
    have hb := b h
    have hl := hg.board.tl
    have hl' : g.turn.length = g.next.length := hl
    have := hg.board.tv _ (nth_mem (l := g.turn) (i := x.2.toNat) (by omega))
    have h' : 0 ≤ nth g.turn x.2.toNat ∧ nth g.turn x.2.toNat < g.next.length := this
    exact ⟨a, fun _ => h', by simp only; omega, by simp only; omega, by simp only; omega⟩
  · exact ⟨a, b, c, d, e⟩
theorem countOp_turn (t : List Int) (p : List (Int × Int)) (op : Int) : countOp (turnP t p) op = countOp p op := by
  unfold countOp turnP
  rw [List.countP_map]
  congr 1
  funext x
  simp only [Function.comp, turnS]
  split <;> rfl
theorem turnG_ok {g : GameD} (hg : GOk g) : GOk (turnG g) := by
  refine ⟨hg.board, hg.c1, hg.c9, hg.d1, hg.d8, hg.turn, by simpa [turnG] using hg.k1, by simpa [turnG] using hg.k6, ?_, ?_, hg.r0, hg.r4, ?_, hg.cn, hg.bl, hg.en⟩
  · intro k hk
    simp only [turnG, List.mem_map] at hk
    obtain ⟨k0, h0, rfl⟩ := hk
    simpa [turnK] using hg.pn k0 h0
  · intro k hk p hp
    simp only [turnG, List.mem_map] at hk
    obtain ⟨k0, h0, rfl⟩ := hk
    simp only [turnK, List.mem_map] at hp
    obtain ⟨p0, hp0, rfl⟩ := hp
    obtain ⟨a, b, c, d, e, f⟩ := hg.pr k0 h0 p0 hp0
    have hlen : (turnG g).kinds.length = g.kinds.length := by simp [turnG]
    rw [hlen]
    refine ⟨by simpa [turnP] using a, by simpa [turnP] using b, fun x hx => ?_, by rw [countOp_turn]; exact d, by rw [countOp_turn]; exact e, by rw [countOp_turn]; exact f⟩
    simp only [turnP, List.mem_map] at hx
    obtain ⟨x0, hx0, rfl⟩ := hx
    exact turnS_ok hg (c x0 hx0)
  · have hlen : (turnG g).kinds.length = g.kinds.length := by simp [turnG]
    rw [hlen]
    exact hg.cl
/-! ### counted -/
def cntCells (l : List (List PathD)) : Nat := (l.map (·.length)).sum
def cntSide (l : List (List (List PathD))) : Nat := (l.map cntCells).sum
def countC (c : CodeD) : Nat := cntSide c.1 + cntSide c.2
/-- the paths of a program from all cells -/
def progN (b : BoardD) (side : Int) (p : List (Int × Int)) : Nat := ((List.range b.cells.toNat).map fun (c : Nat) => (pathsP b side p c).length).sum
theorem sum_map_add {α : Type} (f g : α → Nat) : ∀ l : List α, (l.map fun x => f x + g x).sum = (l.map f).sum + (l.map g).sum
  | [] => rfl
  | x :: l => by simp [sum_map_add f g l]; omega
theorem sum_map_zero {α : Type} : ∀ l : List α, (l.map fun _ => 0).sum = 0
  | [] => rfl
  | x :: l => by simpa using sum_map_zero l
theorem sum_map_le {α : Type} (f : α → Nat) (m : Nat) : ∀ l : List α, (∀ x ∈ l, f x ≤ m) → (l.map f).sum ≤ l.length * m
  | [], _ => by simp
  | x :: l, h => by
    have := sum_map_le f m l (fun y hy => h y (by simp [hy]))
    have := h x (by simp)
    simp [Nat.add_mul]; omega
theorem cntCells_eq (b : BoardD) (side : Int) : ∀ progs : List (List (Int × Int)), cntCells (cellsP b side progs) = (progs.map (progN b side)).sum
  | [] => by
    unfold cntCells cellsP kindP
    simp only [List.flatMap_nil, List.map_map, List.map_nil, List.sum_nil]
    exact sum_map_zero _
  | p :: progs => by
    have ih := cntCells_eq b side progs
    unfold cntCells cellsP kindP at *
    rw [List.map_map] at ih ⊢
    simp only [List.flatMap_cons, List.map_cons, List.sum_cons, ← ih]
    unfold progN
    rw [← sum_map_add]
    congr 1
    refine List.map_congr_left fun c _ => ?_
    simp
theorem cntSide_eq (g : GameD) (side : Int) : cntSide (sideP g side) = (g.kinds.map fun k => (k.progs.map (progN g.board side)).sum).sum := by
  unfold cntSide sideP
  rw [List.map_map]
  congr 1
  refine List.map_congr_left fun k _ => ?_
  exact cntCells_eq _ _ _
def progW (g : GameD) (p : List (Int × Int)) : Nat := progN g.board 0 p + progN g.board 1 p
theorem countC_eq (g : GameD) : countC (codeP g) = (g.kinds.map fun k => (k.progs.map (progW g)).sum).sum := by
  unfold countC codeP
  rw [cntSide_eq, cntSide_eq, ← sum_map_add]
  congr 1
  refine List.map_congr_left fun k _ => ?_
  rw [← sum_map_add]
  rfl
def bareK (k : KindD) : KindD := { k with progs := [] }
def oneG (g : GameD) (k : Nat) (p : List (Int × Int)) : GameD := { g with kinds := (g.kinds.map bareK).set k { nth g.kinds k with progs := [p] } }
theorem sum_set {α : Type} (f : α → Nat) : ∀ (l : List α) (k : Nat) (x : α), (∀ y ∈ l, f y = 0) → k < l.length → ((l.set k x).map f).sum = f x
  | [], _, _, _, h => by simp at h
  | y :: l, 0, x, h, _ => by
    have : (l.map f).sum = 0 := by
      have := sum_map_le f 0 l (fun z hz => by rw [h z (by simp [hz])]; exact Nat.le_refl _)
      omega
    simp [this]
  | y :: l, k + 1, x, h, hk => by
    have := sum_set f l k x (fun z hz => h z (by simp [hz])) (by simpa using hk)
    rw [List.set_cons_succ, List.map_cons, List.sum_cons, this, h y (by simp), Nat.zero_add]
theorem countC_one {g : GameD} {k : Nat} (hk : k < g.kinds.length) (p : List (Int × Int)) : countC (codeP (oneG g k p)) = progW g p := by
  rw [countC_eq]
  unfold oneG
  simp only
  rw [sum_set]
  · simp only [List.map_cons, List.map_nil, List.sum_cons, List.sum_nil, Nat.add_zero]
    rfl
  · intro y hy
    obtain ⟨z, _, rfl⟩ := List.mem_map.1 hy
    rfl
  · simpa using hk
theorem oneG_ok {g : GameD} (hg : GOk g) {k : Nat} (hk : k < g.kinds.length) {p : List (Int × Int)} (hp : p ∈ (nth g.kinds k).progs) : GOk (oneG g k p) := by
  have hlen : (oneG g k p).kinds.length = g.kinds.length := by simp [oneG]
  refine ⟨hg.board, hg.c1, hg.c9, hg.d1, hg.d8, hg.turn, by rw [hlen]; exact hg.k1, by rw [hlen]; exact hg.k6, ?_, ?_, hg.r0, hg.r4, by rw [hlen]; exact hg.cl, hg.cn, hg.bl, hg.en⟩
  · intro k' hk'
    rcases List.mem_or_eq_of_mem_set hk' with h | rfl
    · obtain ⟨z, _, rfl⟩ := List.mem_map.1 h
      simp [bareK]
    · simp
  · intro k' hk' q hq
    rw [hlen]
    rcases List.mem_or_eq_of_mem_set hk' with h | rfl
    · obtain ⟨z, _, rfl⟩ := List.mem_map.1 h
      simp [bareK] at hq
    · simp only [List.mem_singleton] at hq
      subst hq
      exact hg.pr _ (nth_mem hk) _ hp
/-- at most one slide a program -/
def OneSlide (g : GameD) : Prop := ∀ k ∈ g.kinds, ∀ p ∈ k.progs, countOp p 2 ≤ 1
theorem progN_le {g : GameD} (hg : GOk g) (side : Int) {p : List (Int × Int)} (hs : countOp p 2 ≤ 1) : progN g.board side p ≤ 81 := by
  have c9 := hg.c9
  have c1 := hg.c1
  have := sum_map_le (fun (c : Nat) => (pathsP g.board side p c).length) 9 (List.range g.board.cells.toNat) (fun c _ => by
    have h := pathsP_len hg.board hg.c1 side p c
    have h2 : g.board.cells.toNat ≤ 9 := by have : g.board.cells = g.cells := rfl; omega
    rcases (show countOp p 2 = 0 ∨ countOp p 2 = 1 by omega) with e | e <;> rw [e] at h <;> simp at h <;> omega)
  have h2 : g.board.cells.toNat ≤ 9 := by have : g.board.cells = g.cells := rfl; omega
  rw [List.length_range] at this
  unfold progN
  omega
theorem countC_le {g : GameD} (hg : GOk g) (hs : OneSlide g) : countC (codeP g) ≤ 10000 := by
  rw [countC_eq]
  have := sum_map_le (fun k : KindD => (k.progs.map (progW g)).sum) 1296 g.kinds (fun k hk => by
    have := sum_map_le (progW g) 162 k.progs (fun p hp => by
      have a := progN_le hg 0 (hs k hk p hp)
      have b := progN_le hg 1 (hs k hk p hp)
      unfold progW; omega)
    have := hg.pn k hk
    omega)
  have := hg.k6
  omega
end Go.Av
end
section
set_option linter.unusedSimpArgs false
set_option linter.unusedVariables false
open Go Go.Proofs
set_option maxRecDepth 20000
set_option maxHeartbeats 4000000
namespace Go.Av
theorem nofz_A {l : List ActD} : (∀ r ∈ l.map encAct, ∀ c ∈ r, NoFz c) = True := by
  refine eq_true ?_
  intro r hr c hc
  obtain ⟨x, _, rfl⟩ := List.mem_map.1 hr
  revert c
  simp [go_sem]
attribute [go_sem ↓] nofz_A
theorem Grow_owns (m : Int) (h0 : 0 ≤ m) (h1 : m ≤ 17179869184) : Owns Try.prog 97 [AV.nils, .v (.int .i64 m)] (fun n => .sl n 0 3 0 0) (fun n => [(n, .rows true 0 3 [])]) 1 := by
  refine ⟨?_, fun n => ⟨by simp [go_sem], by simp [go_sem]⟩⟩
  by_cases hm : m = 0
  · subst hm
    refine ACallP.of_awp (by kernel_rfl) Try.func97 rfl rfl (Nat.le_of_ble_eq_true rfl) (by kernel_rfl) ?_
    (repeat (first | with_reducible (first | refine wL fun _ => ?_ | refine wD fun _ => ?_ | refine wE ?_ | refine adrZ.go ?_) | simp [go_sem]))
    simp [go_sem, Wk_eq]
  · refine ACallP.clear ?_
    refine ACallP.of_awp (by kernel_rfl) Try.func97 rfl rfl (Nat.le_of_ble_eq_true rfl) (by kernel_rfl) ?_
    (repeat (first | with_reducible (first | refine wL fun _ => ?_ | refine wD fun _ => ?_ | refine wE ?_ | refine adrZ.go ?_) | simp [go_sem]))
    (refine aIf.mkL (fun hF => by first | omega | (simp at hF; omega)) (fun hF => ?_); clear hF)
    (repeat (first | with_reducible (first | refine wL fun _ => ?_ | refine wD fun _ => ?_ | refine wE ?_ | refine adrZ.go ?_) | simp [go_sem]))
    (refine aIf.mkL (fun hT => ?_) (fun hT => by first | omega | (simp at hT; omega)); clear hT)
    (repeat (first | with_reducible (first | refine wL fun _ => ?_ | refine wD fun _ => ?_ | refine wE ?_ | refine adrZ.go ?_) | simp [go_sem]))
    refine ⟨0, 0, 3, ⟨rfl, rfl, rfl⟩, ?_⟩
    simp [go_sem, Wk_eq]
theorem Concat_owns (a b : List ActD) (ha : a.length ≤ 1048576) (hb : b.length ≤ 1048576) : Owns Try.prog 91 [.lst 1 [[encAs a], [encAs b]]]
    (fun n => .sl n 2 3 0 (a.length + b.length)) (fun n => [(n, .rows true 2 3 ((a ++ b).map encAct))]) 1 := by
  refine ⟨?_, fun n => ⟨by simp [go_sem], by simp [go_sem]⟩⟩
  refine ACallP.of_awp (by kernel_rfl) Try.func91 rfl rfl (Nat.le_of_ble_eq_true rfl) (by kernel_rfl) ?_
  (repeat (first | with_reducible (first | refine wL fun _ => ?_ | refine wD fun _ => ?_ | refine wE ?_ | refine adrZ.go ?_) | simp [go_sem]))
  refine ALoop.unroll ?_
  (repeat (first | with_reducible (first | refine wL fun _ => ?_ | refine wD fun _ => ?_ | refine wE ?_ | refine adrZ.go ?_) | simp [go_sem]))
  (refine aIf.mkL (fun hF => by first | omega | (simp at hF; omega)) (fun hF => ?_); clear hF)
  (repeat (first | with_reducible (first | refine wL fun _ => ?_ | refine wD fun _ => ?_ | refine wE ?_ | refine adrZ.go ?_) | simp [go_sem]))
  refine ALoop.unroll ?_
  (repeat (first | with_reducible (first | refine wL fun _ => ?_ | refine wD fun _ => ?_ | refine wE ?_ | refine adrZ.go ?_) | simp [go_sem]))
  (refine aIf.mkL (fun hF => by first | omega | (simp at hF; omega)) (fun hF => ?_); clear hF)
  (repeat (first | with_reducible (first | refine wL fun _ => ?_ | refine wD fun _ => ?_ | refine wE ?_ | refine adrZ.go ?_) | simp [go_sem]))
  refine ALoop.unroll ?_
  (repeat (first | with_reducible (first | refine wL fun _ => ?_ | refine wD fun _ => ?_ | refine wE ?_ | refine adrZ.go ?_) | simp [go_sem]))
  refine ACallP.ownsPlain (Grow_owns _ (by omega) (by omega)) (by simp [go_sem]) ?_
  (repeat (first | with_reducible (first | refine wL fun _ => ?_ | refine wD fun _ => ?_ | refine wE ?_ | refine adrZ.go ?_) | simp [go_sem]))
  refine ALoop.unroll ?_
  (repeat (first | with_reducible (first | refine wL fun _ => ?_ | refine wD fun _ => ?_ | refine wE ?_ | refine adrZ.go ?_) | simp [go_sem]))
  refine ALoop.unroll ?_
  (repeat (first | with_reducible (first | refine wL fun _ => ?_ | refine wD fun _ => ?_ | refine wE ?_ | refine adrZ.go ?_) | simp [go_sem]))
  refine ALoop.unroll ?_
  (repeat (first | with_reducible (first | refine wL fun _ => ?_ | refine wD fun _ => ?_ | refine wE ?_ | refine adrZ.go ?_) | simp [go_sem]))
  simp [go_sem, Wk_eq]
theorem ext1_owns (p : PathD) (to : Int) (more : List ActD) (ha : p.acts.length ≤ 1048576) (hb : more.length ≤ 1048576) : Owns Try.prog 90 [.v (.int .i64 to), encAs more, .fp (encPath p)]
    (fun n => .agg [.sl (n + 2) 2 3 0 (p.acts.length + more.length), .v (.int .i64 to)]) (fun n => [(n + 2, .rows true 2 3 ((p.acts ++ more).map encAct))]) 3 := by
  refine ⟨?_, fun n => ⟨by simp [go_sem], by simp [go_sem]⟩⟩
  refine ACallP.of_awp (by kernel_rfl) Try.func90 rfl rfl (Nat.le_of_ble_eq_true rfl) (by kernel_rfl) ?_
  (repeat (first | with_reducible (first | refine wL fun _ => ?_ | refine wD fun _ => ?_ | refine wE ?_ | refine adrZ.go ?_) | simp [go_sem]))
  refine ACallP.ownsN (Concat_owns p.acts more ha hb) (by simp [go_sem]) (by simp [go_sem]) ?_ (by simp [go_sem]) ?_
  · simp only [encAs]
    refine LeRow.cons ?_ LeRow.nil
    refine leV_frz rfl (by simp) (by simp [noH, upd]) ?_
    simp [go_sem]
  · (repeat (first | with_reducible (first | refine wL fun _ => ?_ | refine wD fun _ => ?_ | refine wE ?_ | refine adrZ.go ?_) | simp [go_sem]))
    simp [go_sem, Wk_eq]
end Go.Av
end
section
set_option linter.unusedSimpArgs false
set_option linter.unusedVariables false
open Go Go.Proofs
set_option maxRecDepth 20000
set_option maxHeartbeats 4000000
namespace Go.Av
theorem slideP_append (p : PathD) : ∀ (l : List Int) (passed : List ActD) (c : Int), slideP p (l ++ [c]) passed = slideP p l passed ++ [onP p c (passed ++ l.map fun c => (3, c, 0))]
  | [], passed, c => by simp [slideP, onP]
  | d :: l, passed, c => by simp [slideP, slideP_append p l]
def passK (l : List Int) : List ActD := l.map fun c => (3, c, 0)
theorem passK_append (l : List Int) (c : Int) : passK (l ++ [c]) = passK l ++ [(3, c, 0)] := by simp [passK]
theorem passK_len (l : List Int) : (passK l).length = l.length := by simp [passK]
theorem slideP_succ (p : PathD) (l : List Int) {i : Nat} (h : i < l.length) : slideP p (l.take (i + 1)) [] = slideP p (l.take i) [] ++ [onP p (nth l i) (passK (l.take i))] ∧ passK (l.take (i + 1)) = passK (l.take i) ++ [(3, nth l i, 0)] := by
  rw [List.take_add_one, List.getElem?_eq_getElem h, nth_eq _ _ h, Option.toList_some, slideP_append, passK_append]
  exact ⟨by simp [passK], rfl⟩
theorem extend_pure (b : BoardD) (hb : BoardOk b) (h9 : b.cells ≤ 9) (side : Int) (p : PathD) (hp : p.acts.length ≤ 1000000) (x : Int × Int) :
    Pure Try.prog 75 [.agg (encB b), .v (.int .i64 side), .agg (encPath p), .agg [.v (.int .i64 x.1), .v (.int .i64 x.2)]] (encPt (extP b side p x)) := by
  refine Pure.of (ACallP.of_awp (by kernel_rfl) Try.func75 rfl rfl (Nat.le_of_ble_eq_true rfl) (by kernel_rfl) ?_)
  obtain ⟨op, N⟩ := x
  have hT := bTo_pure b hb side N p.to
  have hL := bLine_pure b hb side N p.to
  have hll := lineB_le hb (side := side) (d := N) (c := p.to)
  have hO := fun to more (h : more.length ≤ 1048576) => ext1_owns p to more (by omega) h
  have hE : extP b side p (op, N) = if op = 1 ∨ op = 7 then
    if toB b side N p.to < 0 then [] else if op = 1 then [onP p (toB b side N p.to) []] else [onP p p.to [(7, p.to, toB b side N p.to)]]
    else if op = 2 then slideP p (lineB b side N p.to) []
    else if op = 8 ∨ op = 9 ∨ op = 10 then [onP p p.to [(op, N, 0)]]
    else [onP p p.to [(op, p.to, 0)]] := rfl
  generalize toB b side N p.to = to at *
  generalize lineB b side N p.to = line at *
  generalize extP b side p (op, N) = R at *
  have hbl : ∀ n, (∀ c' ∈ encB b, Bel n c') = True := fun n => by simp [go_sem]
  have hel : (encB b).length = 3 := rfl
  have hte : (encB b).take 3 = encB b := rfl
  obtain ⟨eb, heb⟩ : ∃ eb, eb = encB b := ⟨_, rfl⟩
  rw [← heb] at hbl hel hT hL hte ⊢
  (repeat (first | with_reducible (first | refine wL fun _ => ?_ | refine wD fun _ => ?_ | refine wE ?_ | refine adrZ.go ?_) | simp [go_sem, hel, hte]))
  refine aIf.mkL (fun h1 => ?_) (fun h1 => ?_) <;> simp at h1
  · subst h1
    (repeat (first | with_reducible (first | refine wL fun _ => ?_ | refine wD fun _ => ?_ | refine wE ?_ | refine adrZ.go ?_) | simp [go_sem, hel, hte]))
    refine ACallP.plain hT (by simp [go_sem, hbl]) ?_
    (repeat (first | with_reducible (first | refine wL fun _ => ?_ | refine wD fun _ => ?_ | refine wE ?_ | refine adrZ.go ?_) | simp [go_sem, hel, hte]))
    refine aIf.mkL (fun ht => ?_) (fun ht => ?_) <;> simp at ht
    · rw [if_pos (by omega), if_pos ht] at hE
      rw [hE]
      (repeat (first | with_reducible (first | refine wL fun _ => ?_ | refine wD fun _ => ?_ | refine wE ?_ | refine adrZ.go ?_) | simp [go_sem, hel, hte]))
    · rw [if_pos (by omega), if_neg (by omega), if_pos rfl] at hE
      rw [hE]
      (repeat (first | with_reducible (first | refine wL fun _ => ?_ | refine wD fun _ => ?_ | refine wE ?_ | refine adrZ.go ?_) | simp [go_sem, hel, hte]))
      refine ACallP.ownsN (hO to [] (by simp)) (by simp [go_sem]) (by simp [go_sem]) ?_ (by simp [go_sem]) ?_
      · ((try simp only [encProg, encStep, encAct, encAs, encPath, encPt, encOut, encState, encPos, encOs, encSs, encPs, encIs, encGame, List.map_cons, List.map_nil, List.nil_append, List.append_nil, List.cons_append]); (repeat (first | (with_reducible exact LeRow.nil) | (with_reducible exact LeRows.nil) | (with_reducible exact LeV.refl _) | (with_reducible exact LeRow.refl _ _ _ _) | (with_reducible exact LeRows.refl _) | (with_reducible refine LeRow.cons ?_ ?_) | (with_reducible refine LeRows.cons ?_ ?_) | (with_reducible refine LeV.agg ?_) | (with_reducible refine LeV.tup ?_) | (with_reducible refine LeV.fn ?_ ?_) | (with_reducible exact LeV.nil _) | (with_reducible refine leRows_append (LeRows.refl _) ?_) | ((refine leV_frz rfl (by simp) (by simp [frzO, frz1, upd, noH]) ?_); (first | (simp [go_sem]; done) | (simp [go_sem]; exact List.take_of_length_le (by simp)))) | ((refine LeV.frz rfl (by simp) (by simp [frzO, frz1, upd, noH]) ?_); (simp only [List.drop_zero, List.take_succ_cons, List.take_zero, List.map_cons, List.map_nil])) | ((refine LeV.frzP rfl (by simp) (by simp) (by simp [frzO, frz1, upd, noH]) ?_); (simp only [nth_zero, List.drop_zero])))))
      · (repeat (first | with_reducible (first | refine wL fun _ => ?_ | refine wD fun _ => ?_ | refine wE ?_ | refine adrZ.go ?_) | simp [go_sem, hel, hte, onP]))
        ((try simp only [encProg, encStep, encAct, encAs, encPath, encPt, encOut, encState, encPos, encOs, encSs, encPs, encIs, encGame, List.map_cons, List.map_nil, List.nil_append, List.append_nil, List.cons_append]); (repeat (first | (with_reducible exact LeRow.nil) | (with_reducible exact LeRows.nil) | (with_reducible exact LeV.refl _) | (with_reducible exact LeRow.refl _ _ _ _) | (with_reducible exact LeRows.refl _) | (with_reducible refine LeRow.cons ?_ ?_) | (with_reducible refine LeRows.cons ?_ ?_) | (with_reducible refine LeV.agg ?_) | (with_reducible refine LeV.tup ?_) | (with_reducible refine LeV.fn ?_ ?_) | (with_reducible exact LeV.nil _) | (with_reducible refine leRows_append (LeRows.refl _) ?_) | ((refine leV_frz rfl (by simp) (by simp [frzO, frz1, upd, noH]) ?_); (first | (simp [go_sem]; done) | (simp [go_sem]; exact List.take_of_length_le (by simp)))) | ((refine LeV.frz rfl (by simp) (by simp [frzO, frz1, upd, noH]) ?_); (simp only [List.drop_zero, List.take_succ_cons, List.take_zero, List.map_cons, List.map_nil])) | ((refine LeV.frzP rfl (by simp) (by simp) (by simp [frzO, frz1, upd, noH]) ?_); (simp only [nth_zero, List.drop_zero])))))
  · (repeat (first | with_reducible (first | refine wL fun _ => ?_ | refine wD fun _ => ?_ | refine wE ?_ | refine adrZ.go ?_) | simp [go_sem, hel, hte]))
    refine aIf.mkL (fun h7 => ?_) (fun h7 => ?_) <;> simp at h7
    · subst h7
      (repeat (first | with_reducible (first | refine wL fun _ => ?_ | refine wD fun _ => ?_ | refine wE ?_ | refine adrZ.go ?_) | simp [go_sem, hel, hte]))
      refine ACallP.plain hT (by simp [go_sem, hbl]) ?_
      (repeat (first | with_reducible (first | refine wL fun _ => ?_ | refine wD fun _ => ?_ | refine wE ?_ | refine adrZ.go ?_) | simp [go_sem, hel, hte]))
      refine aIf.mkL (fun ht => ?_) (fun ht => ?_) <;> simp at ht
      · rw [if_pos (by omega), if_pos ht] at hE
        rw [hE]
        (repeat (first | with_reducible (first | refine wL fun _ => ?_ | refine wD fun _ => ?_ | refine wE ?_ | refine adrZ.go ?_) | simp [go_sem, hel, hte]))
      · rw [if_pos (by omega), if_neg (by omega), if_neg (by omega)] at hE
        rw [hE]
        (repeat (first | with_reducible (first | refine wL fun _ => ?_ | refine wD fun _ => ?_ | refine wE ?_ | refine adrZ.go ?_) | simp [go_sem, hel, hte]))
        refine ACallP.ownsN (hO p.to [(7, p.to, to)] (by simp)) (by simp [go_sem]) (by simp [go_sem]) ?_ (by simp [go_sem]) ?_
        · ((try simp only [encProg, encStep, encAct, encAs, encPath, encPt, encOut, encState, encPos, encOs, encSs, encPs, encIs, encGame, List.map_cons, List.map_nil, List.nil_append, List.append_nil, List.cons_append]); (repeat (first | (with_reducible exact LeRow.nil) | (with_reducible exact LeRows.nil) | (with_reducible exact LeV.refl _) | (with_reducible exact LeRow.refl _ _ _ _) | (with_reducible exact LeRows.refl _) | (with_reducible refine LeRow.cons ?_ ?_) | (with_reducible refine LeRows.cons ?_ ?_) | (with_reducible refine LeV.agg ?_) | (with_reducible refine LeV.tup ?_) | (with_reducible refine LeV.fn ?_ ?_) | (with_reducible exact LeV.nil _) | (with_reducible refine leRows_append (LeRows.refl _) ?_) | ((refine leV_frz rfl (by simp) (by simp [frzO, frz1, upd, noH]) ?_); (first | (simp [go_sem]; done) | (simp [go_sem]; exact List.take_of_length_le (by simp)))) | ((refine LeV.frz rfl (by simp) (by simp [frzO, frz1, upd, noH]) ?_); (simp only [List.drop_zero, List.take_succ_cons, List.take_zero, List.map_cons, List.map_nil])) | ((refine LeV.frzP rfl (by simp) (by simp) (by simp [frzO, frz1, upd, noH]) ?_); (simp only [nth_zero, List.drop_zero])))))
        · (repeat (first | with_reducible (first | refine wL fun _ => ?_ | refine wD fun _ => ?_ | refine wE ?_ | refine adrZ.go ?_) | simp [go_sem, hel, hte, onP]))
          ((try simp only [encProg, encStep, encAct, encAs, encPath, encPt, encOut, encState, encPos, encOs, encSs, encPs, encIs, encGame, List.map_cons, List.map_nil, List.nil_append, List.append_nil, List.cons_append]); (repeat (first | (with_reducible exact LeRow.nil) | (with_reducible exact LeRows.nil) | (with_reducible exact LeV.refl _) | (with_reducible exact LeRow.refl _ _ _ _) | (with_reducible exact LeRows.refl _) | (with_reducible refine LeRow.cons ?_ ?_) | (with_reducible refine LeRows.cons ?_ ?_) | (with_reducible refine LeV.agg ?_) | (with_reducible refine LeV.tup ?_) | (with_reducible refine LeV.fn ?_ ?_) | (with_reducible exact LeV.nil _) | (with_reducible refine leRows_append (LeRows.refl _) ?_) | ((refine leV_frz rfl (by simp) (by simp [frzO, frz1, upd, noH]) ?_); (first | (simp [go_sem]; done) | (simp [go_sem]; exact List.take_of_length_le (by simp)))) | ((refine LeV.frz rfl (by simp) (by simp [frzO, frz1, upd, noH]) ?_); (simp only [List.drop_zero, List.take_succ_cons, List.take_zero, List.map_cons, List.map_nil])) | ((refine LeV.frzP rfl (by simp) (by simp) (by simp [frzO, frz1, upd, noH]) ?_); (simp only [nth_zero, List.drop_zero])))))
    · rw [if_neg (by omega)] at hE
      (repeat (first | with_reducible (first | refine wL fun _ => ?_ | refine wD fun _ => ?_ | refine wE ?_ | refine adrZ.go ?_) | simp [go_sem, hel, hte]))
      refine aIf.mkL (fun h2 => ?_) (fun h2 => ?_) <;> simp at h2
      · subst h2
        rw [if_pos rfl] at hE
        (repeat (first | with_reducible (first | refine wL fun _ => ?_ | refine wD fun _ => ?_ | refine wE ?_ | refine adrZ.go ?_) | simp [go_sem, hel, hte]))
        refine ACallP.plain hL (by simp [go_sem, hbl]) ?_
        (repeat (first | with_reducible (first | refine wL fun _ => ?_ | refine wD fun _ => ?_ | refine wE ?_ | refine adrZ.go ?_) | simp [go_sem, hel, hte]))
        refine ALoop.start (ALoop.ind (α := Nat) (fun i => ⟨[(9, .fn (.func 90) [] [.ref 1 0 2 0 0]), (11, .sl 3 i 2 0 i), (12, .sl 4 i 3 0 i), (55, encIs line), (56, .v (.int .i64 line.length)), (57, .v (.int .i64 i))],
            [(1, .rows true 0 2 [encPath p]), (3, .rows true i 2 ((slideP p (line.take i) []).map encPath)), (4, .rows true i 3 ((passK (line.take i)).map encAct))], 5⟩)
          (fun d i => i + d = line.length) ?_ line.length 0 ?_) ?_ ?_
        · rintro d i i1 hrec
          have hsl : (slideP p (line.take i) []).length = i := by rw [slideP_len]; simp; omega
          have hpl : (passK (line.take i)).length = i := by rw [passK_len]; simp; omega
          (repeat (first | with_reducible (first | refine wL fun _ => ?_ | refine wD fun _ => ?_ | refine wE ?_ | refine adrZ.go ?_) | simp [go_sem, hel, hte]))
          refine aIf.mkL (fun hi => ?_) (fun hi => ?_) <;> simp at hi
          · obtain ⟨s1, s2⟩ := slideP_succ p line hi
            (repeat (first | with_reducible (first | refine wL fun _ => ?_ | refine wD fun _ => ?_ | refine wE ?_ | refine adrZ.go ?_) | simp [go_sem, hi]))
            refine ACallP.ownsN (hO (nth line i) (passK (line.take i)) (by omega)) (by simp [go_sem]) (by simp [go_sem]) ?_ (by simp [go_sem]) ?_
            · ((try simp only [encProg, encStep, encAct, encAs, encPath, encPt, encOut, encState, encPos, encOs, encSs, encPs, encIs, encGame, List.map_cons, List.map_nil, List.nil_append, List.append_nil, List.cons_append]); (repeat (first | (with_reducible exact LeRow.nil) | (with_reducible exact LeRows.nil) | (with_reducible exact LeV.refl _) | (with_reducible exact LeRow.refl _ _ _ _) | (with_reducible exact LeRows.refl _) | (with_reducible refine LeRow.cons ?_ ?_) | (with_reducible refine LeRows.cons ?_ ?_) | (with_reducible refine LeV.agg ?_) | (with_reducible refine LeV.tup ?_) | (with_reducible refine LeV.fn ?_ ?_) | (with_reducible exact LeV.nil _) | (with_reducible refine leRows_append (LeRows.refl _) ?_) | ((refine leV_frz rfl (by simp [hpl]) (by simp [frzO, frz1, upd, noH]) ?_); (first | (simp [go_sem, hpl]; done) | (simp [go_sem, hpl]; exact List.take_of_length_le (by simp [hpl])))) | ((refine LeV.frz rfl (by simp [hpl]) (by simp [frzO, frz1, upd, noH]) ?_); (simp only [List.drop_zero, List.take_succ_cons, List.take_zero, List.map_cons, List.map_nil])) | ((refine LeV.frzP rfl (by simp [hpl]) (by simp) (by simp [frzO, frz1, upd, noH]) ?_); (simp only [nth_zero, List.drop_zero])))))
            · (repeat (first | with_reducible (first | refine wL fun _ => ?_ | refine wD fun _ => ?_ | refine wE ?_ | refine adrZ.go ?_) | simp [go_sem, hi, hsl, hpl]))
              refine ALoop.start (hrec (d - 1) (by omega) (i + 1) (by omega)) ?_ (by simp)
              simp [go_sem, Wk_eq, s1, s2, onP, hpl]
              ((try simp only [encProg, encStep, encAct, encAs, encPath, encPt, encOut, encState, encPos, encOs, encSs, encPs, encIs, encGame, List.map_cons, List.map_nil, List.nil_append, List.append_nil, List.cons_append]); (repeat (first | (with_reducible exact LeRow.nil) | (with_reducible exact LeRows.nil) | (with_reducible exact LeV.refl _) | (with_reducible exact LeRow.refl _ _ _ _) | (with_reducible exact LeRows.refl _) | (with_reducible refine LeRow.cons ?_ ?_) | (with_reducible refine LeRows.cons ?_ ?_) | (with_reducible refine LeV.agg ?_) | (with_reducible refine LeV.tup ?_) | (with_reducible refine LeV.fn ?_ ?_) | (with_reducible exact LeV.nil _) | (with_reducible refine leRows_append (LeRows.refl _) ?_) | ((refine leV_frz rfl (by simp [hpl]) (by simp [frzO, frz1, upd, noH]) ?_); (first | (simp [go_sem, hpl]; done) | (simp [go_sem, hpl]; exact List.take_of_length_le (by simp [hpl])))) | ((refine LeV.frz rfl (by simp [hpl]) (by simp [frzO, frz1, upd, noH]) ?_); (simp only [List.drop_zero, List.take_succ_cons, List.take_zero, List.map_cons, List.map_nil])) | ((refine LeV.frzP rfl (by simp [hpl]) (by simp) (by simp [frzO, frz1, upd, noH]) ?_); (simp only [nth_zero, List.drop_zero])))))
          · have hil : i = line.length := by omega
            subst hil
            rw [List.take_length] at hsl ⊢
            rw [hE]
            (repeat (first | with_reducible (first | refine wL fun _ => ?_ | refine wD fun _ => ?_ | refine wE ?_ | refine adrZ.go ?_) | simp [go_sem, hsl]))
            ((try simp only [encProg, encStep, encAct, encAs, encPath, encPt, encOut, encState, encPos, encOs, encSs, encPs, encIs, encGame, List.map_cons, List.map_nil, List.nil_append, List.append_nil, List.cons_append]); (repeat (first | (with_reducible exact LeRow.nil) | (with_reducible exact LeRows.nil) | (with_reducible exact LeV.refl _) | (with_reducible exact LeRow.refl _ _ _ _) | (with_reducible exact LeRows.refl _) | (with_reducible refine LeRow.cons ?_ ?_) | (with_reducible refine LeRows.cons ?_ ?_) | (with_reducible refine LeV.agg ?_) | (with_reducible refine LeV.tup ?_) | (with_reducible refine LeV.fn ?_ ?_) | (with_reducible exact LeV.nil _) | (with_reducible refine leRows_append (LeRows.refl _) ?_) | ((refine leV_frz rfl (by simp [hsl]) (by simp [frzO, frz1, upd, noH]) ?_); (first | (simp [go_sem, hsl]; done) | (simp [go_sem, hsl]; exact List.take_of_length_le (by simp [hsl])))) | ((refine LeV.frz rfl (by simp [hsl]) (by simp [frzO, frz1, upd, noH]) ?_); (simp only [List.drop_zero, List.take_succ_cons, List.take_zero, List.map_cons, List.map_nil])) | ((refine LeV.frzP rfl (by simp [hsl]) (by simp) (by simp [frzO, frz1, upd, noH]) ?_); (simp only [nth_zero, List.drop_zero])))))
        · simp
        · simp [go_sem, Wk_eq, slideP, passK]
        · simp
      · rw [if_neg h2] at hE
        (repeat (first | with_reducible (first | refine wL fun _ => ?_ | refine wD fun _ => ?_ | refine wE ?_ | refine adrZ.go ?_) | simp [go_sem, hel, hte]))
        refine aIf.mkL (fun h8 => ?_) (fun h8 => ?_) <;> simp at h8
        · subst h8
          rw [if_pos (by omega)] at hE
          rw [hE]
          (repeat (first | with_reducible (first | refine wL fun _ => ?_ | refine wD fun _ => ?_ | refine wE ?_ | refine adrZ.go ?_) | simp [go_sem, hel, hte]))
          refine ACallP.ownsN (hO p.to [(8, N, 0)] (by simp)) (by simp [go_sem]) (by simp [go_sem]) ?_ (by simp [go_sem]) ?_
          · ((try simp only [encProg, encStep, encAct, encAs, encPath, encPt, encOut, encState, encPos, encOs, encSs, encPs, encIs, encGame, List.map_cons, List.map_nil, List.nil_append, List.append_nil, List.cons_append]); (repeat (first | (with_reducible exact LeRow.nil) | (with_reducible exact LeRows.nil) | (with_reducible exact LeV.refl _) | (with_reducible exact LeRow.refl _ _ _ _) | (with_reducible exact LeRows.refl _) | (with_reducible refine LeRow.cons ?_ ?_) | (with_reducible refine LeRows.cons ?_ ?_) | (with_reducible refine LeV.agg ?_) | (with_reducible refine LeV.tup ?_) | (with_reducible refine LeV.fn ?_ ?_) | (with_reducible exact LeV.nil _) | (with_reducible refine leRows_append (LeRows.refl _) ?_) | ((refine leV_frz rfl (by simp) (by simp [frzO, frz1, upd, noH]) ?_); (first | (simp [go_sem]; done) | (simp [go_sem]; exact List.take_of_length_le (by simp)))) | ((refine LeV.frz rfl (by simp) (by simp [frzO, frz1, upd, noH]) ?_); (simp only [List.drop_zero, List.take_succ_cons, List.take_zero, List.map_cons, List.map_nil])) | ((refine LeV.frzP rfl (by simp) (by simp) (by simp [frzO, frz1, upd, noH]) ?_); (simp only [nth_zero, List.drop_zero])))))
          · (repeat (first | with_reducible (first | refine wL fun _ => ?_ | refine wD fun _ => ?_ | refine wE ?_ | refine adrZ.go ?_) | simp [go_sem, hel, hte, onP]))
            ((try simp only [encProg, encStep, encAct, encAs, encPath, encPt, encOut, encState, encPos, encOs, encSs, encPs, encIs, encGame, List.map_cons, List.map_nil, List.nil_append, List.append_nil, List.cons_append]); (repeat (first | (with_reducible exact LeRow.nil) | (with_reducible exact LeRows.nil) | (with_reducible exact LeV.refl _) | (with_reducible exact LeRow.refl _ _ _ _) | (with_reducible exact LeRows.refl _) | (with_reducible refine LeRow.cons ?_ ?_) | (with_reducible refine LeRows.cons ?_ ?_) | (with_reducible refine LeV.agg ?_) | (with_reducible refine LeV.tup ?_) | (with_reducible refine LeV.fn ?_ ?_) | (with_reducible exact LeV.nil _) | (with_reducible refine leRows_append (LeRows.refl _) ?_) | ((refine leV_frz rfl (by simp) (by simp [frzO, frz1, upd, noH]) ?_); (first | (simp [go_sem]; done) | (simp [go_sem]; exact List.take_of_length_le (by simp)))) | ((refine LeV.frz rfl (by simp) (by simp [frzO, frz1, upd, noH]) ?_); (simp only [List.drop_zero, List.take_succ_cons, List.take_zero, List.map_cons, List.map_nil])) | ((refine LeV.frzP rfl (by simp) (by simp) (by simp [frzO, frz1, upd, noH]) ?_); (simp only [nth_zero, List.drop_zero])))))
        · (repeat (first | with_reducible (first | refine wL fun _ => ?_ | refine wD fun _ => ?_ | refine wE ?_ | refine adrZ.go ?_) | simp [go_sem, hel, hte]))
          refine aIf.mkL (fun h99 => ?_) (fun h99 => ?_) <;> simp at h99
          · subst h99
            rw [if_pos (by omega)] at hE
            rw [hE]
            (repeat (first | with_reducible (first | refine wL fun _ => ?_ | refine wD fun _ => ?_ | refine wE ?_ | refine adrZ.go ?_) | simp [go_sem, hel, hte]))
            refine ACallP.ownsN (hO p.to [(9, N, 0)] (by simp)) (by simp [go_sem]) (by simp [go_sem]) ?_ (by simp [go_sem]) ?_
            · ((try simp only [encProg, encStep, encAct, encAs, encPath, encPt, encOut, encState, encPos, encOs, encSs, encPs, encIs, encGame, List.map_cons, List.map_nil, List.nil_append, List.append_nil, List.cons_append]); (repeat (first | (with_reducible exact LeRow.nil) | (with_reducible exact LeRows.nil) | (with_reducible exact LeV.refl _) | (with_reducible exact LeRow.refl _ _ _ _) | (with_reducible exact LeRows.refl _) | (with_reducible refine LeRow.cons ?_ ?_) | (with_reducible refine LeRows.cons ?_ ?_) | (with_reducible refine LeV.agg ?_) | (with_reducible refine LeV.tup ?_) | (with_reducible refine LeV.fn ?_ ?_) | (with_reducible exact LeV.nil _) | (with_reducible refine leRows_append (LeRows.refl _) ?_) | ((refine leV_frz rfl (by simp) (by simp [frzO, frz1, upd, noH]) ?_); (first | (simp [go_sem]; done) | (simp [go_sem]; exact List.take_of_length_le (by simp)))) | ((refine LeV.frz rfl (by simp) (by simp [frzO, frz1, upd, noH]) ?_); (simp only [List.drop_zero, List.take_succ_cons, List.take_zero, List.map_cons, List.map_nil])) | ((refine LeV.frzP rfl (by simp) (by simp) (by simp [frzO, frz1, upd, noH]) ?_); (simp only [nth_zero, List.drop_zero])))))
            · (repeat (first | with_reducible (first | refine wL fun _ => ?_ | refine wD fun _ => ?_ | refine wE ?_ | refine adrZ.go ?_) | simp [go_sem, hel, hte, onP]))
              ((try simp only [encProg, encStep, encAct, encAs, encPath, encPt, encOut, encState, encPos, encOs, encSs, encPs, encIs, encGame, List.map_cons, List.map_nil, List.nil_append, List.append_nil, List.cons_append]); (repeat (first | (with_reducible exact LeRow.nil) | (with_reducible exact LeRows.nil) | (with_reducible exact LeV.refl _) | (with_reducible exact LeRow.refl _ _ _ _) | (with_reducible exact LeRows.refl _) | (with_reducible refine LeRow.cons ?_ ?_) | (with_reducible refine LeRows.cons ?_ ?_) | (with_reducible refine LeV.agg ?_) | (with_reducible refine LeV.tup ?_) | (with_reducible refine LeV.fn ?_ ?_) | (with_reducible exact LeV.nil _) | (with_reducible refine leRows_append (LeRows.refl _) ?_) | ((refine leV_frz rfl (by simp) (by simp [frzO, frz1, upd, noH]) ?_); (first | (simp [go_sem]; done) | (simp [go_sem]; exact List.take_of_length_le (by simp)))) | ((refine LeV.frz rfl (by simp) (by simp [frzO, frz1, upd, noH]) ?_); (simp only [List.drop_zero, List.take_succ_cons, List.take_zero, List.map_cons, List.map_nil])) | ((refine LeV.frzP rfl (by simp) (by simp) (by simp [frzO, frz1, upd, noH]) ?_); (simp only [nth_zero, List.drop_zero])))))
          · (repeat (first | with_reducible (first | refine wL fun _ => ?_ | refine wD fun _ => ?_ | refine wE ?_ | refine adrZ.go ?_) | simp [go_sem, hel, hte]))
            refine aIf.mkL (fun h10 => ?_) (fun h10 => ?_) <;> simp at h10
            · subst h10
              rw [if_pos (by omega)] at hE
              rw [hE]
              (repeat (first | with_reducible (first | refine wL fun _ => ?_ | refine wD fun _ => ?_ | refine wE ?_ | refine adrZ.go ?_) | simp [go_sem, hel, hte]))
              refine ACallP.ownsN (hO p.to [(10, N, 0)] (by simp)) (by simp [go_sem]) (by simp [go_sem]) ?_ (by simp [go_sem]) ?_
              · ((try simp only [encProg, encStep, encAct, encAs, encPath, encPt, encOut, encState, encPos, encOs, encSs, encPs, encIs, encGame, List.map_cons, List.map_nil, List.nil_append, List.append_nil, List.cons_append]); (repeat (first | (with_reducible exact LeRow.nil) | (with_reducible exact LeRows.nil) | (with_reducible exact LeV.refl _) | (with_reducible exact LeRow.refl _ _ _ _) | (with_reducible exact LeRows.refl _) | (with_reducible refine LeRow.cons ?_ ?_) | (with_reducible refine LeRows.cons ?_ ?_) | (with_reducible refine LeV.agg ?_) | (with_reducible refine LeV.tup ?_) | (with_reducible refine LeV.fn ?_ ?_) | (with_reducible exact LeV.nil _) | (with_reducible refine leRows_append (LeRows.refl _) ?_) | ((refine leV_frz rfl (by simp) (by simp [frzO, frz1, upd, noH]) ?_); (first | (simp [go_sem]; done) | (simp [go_sem]; exact List.take_of_length_le (by simp)))) | ((refine LeV.frz rfl (by simp) (by simp [frzO, frz1, upd, noH]) ?_); (simp only [List.drop_zero, List.take_succ_cons, List.take_zero, List.map_cons, List.map_nil])) | ((refine LeV.frzP rfl (by simp) (by simp) (by simp [frzO, frz1, upd, noH]) ?_); (simp only [nth_zero, List.drop_zero])))))
              · (repeat (first | with_reducible (first | refine wL fun _ => ?_ | refine wD fun _ => ?_ | refine wE ?_ | refine adrZ.go ?_) | simp [go_sem, hel, hte, onP]))
                ((try simp only [encProg, encStep, encAct, encAs, encPath, encPt, encOut, encState, encPos, encOs, encSs, encPs, encIs, encGame, List.map_cons, List.map_nil, List.nil_append, List.append_nil, List.cons_append]); (repeat (first | (with_reducible exact LeRow.nil) | (with_reducible exact LeRows.nil) | (with_reducible exact LeV.refl _) | (with_reducible exact LeRow.refl _ _ _ _) | (with_reducible exact LeRows.refl _) | (with_reducible refine LeRow.cons ?_ ?_) | (with_reducible refine LeRows.cons ?_ ?_) | (with_reducible refine LeV.agg ?_) | (with_reducible refine LeV.tup ?_) | (with_reducible refine LeV.fn ?_ ?_) | (with_reducible exact LeV.nil _) | (with_reducible refine leRows_append (LeRows.refl _) ?_) | ((refine leV_frz rfl (by simp) (by simp [frzO, frz1, upd, noH]) ?_); (first | (simp [go_sem]; done) | (simp [go_sem]; exact List.take_of_length_le (by simp)))) | ((refine LeV.frz rfl (by simp) (by simp [frzO, frz1, upd, noH]) ?_); (simp only [List.drop_zero, List.take_succ_cons, List.take_zero, List.map_cons, List.map_nil])) | ((refine LeV.frzP rfl (by simp) (by simp) (by simp [frzO, frz1, upd, noH]) ?_); (simp only [nth_zero, List.drop_zero])))))
            · rw [if_neg (by omega)] at hE
              rw [hE]
              (repeat (first | with_reducible (first | refine wL fun _ => ?_ | refine wD fun _ => ?_ | refine wE ?_ | refine adrZ.go ?_) | simp [go_sem, hel, hte]))
              refine ACallP.ownsN (hO p.to [(op, p.to, 0)] (by simp)) (by simp [go_sem]) (by simp [go_sem]) ?_ (by simp [go_sem]) ?_
              · ((try simp only [encProg, encStep, encAct, encAs, encPath, encPt, encOut, encState, encPos, encOs, encSs, encPs, encIs, encGame, List.map_cons, List.map_nil, List.nil_append, List.append_nil, List.cons_append]); (repeat (first | (with_reducible exact LeRow.nil) | (with_reducible exact LeRows.nil) | (with_reducible exact LeV.refl _) | (with_reducible exact LeRow.refl _ _ _ _) | (with_reducible exact LeRows.refl _) | (with_reducible refine LeRow.cons ?_ ?_) | (with_reducible refine LeRows.cons ?_ ?_) | (with_reducible refine LeV.agg ?_) | (with_reducible refine LeV.tup ?_) | (with_reducible refine LeV.fn ?_ ?_) | (with_reducible exact LeV.nil _) | (with_reducible refine leRows_append (LeRows.refl _) ?_) | ((refine leV_frz rfl (by simp) (by simp [frzO, frz1, upd, noH]) ?_); (first | (simp [go_sem]; done) | (simp [go_sem]; exact List.take_of_length_le (by simp)))) | ((refine LeV.frz rfl (by simp) (by simp [frzO, frz1, upd, noH]) ?_); (simp only [List.drop_zero, List.take_succ_cons, List.take_zero, List.map_cons, List.map_nil])) | ((refine LeV.frzP rfl (by simp) (by simp) (by simp [frzO, frz1, upd, noH]) ?_); (simp only [nth_zero, List.drop_zero])))))
              · (repeat (first | with_reducible (first | refine wL fun _ => ?_ | refine wD fun _ => ?_ | refine wE ?_ | refine adrZ.go ?_) | simp [go_sem, hel, hte, onP]))
                ((try simp only [encProg, encStep, encAct, encAs, encPath, encPt, encOut, encState, encPos, encOs, encSs, encPs, encIs, encGame, List.map_cons, List.map_nil, List.nil_append, List.append_nil, List.cons_append]); (repeat (first | (with_reducible exact LeRow.nil) | (with_reducible exact LeRows.nil) | (with_reducible exact LeV.refl _) | (with_reducible exact LeRow.refl _ _ _ _) | (with_reducible exact LeRows.refl _) | (with_reducible refine LeRow.cons ?_ ?_) | (with_reducible refine LeRows.cons ?_ ?_) | (with_reducible refine LeV.agg ?_) | (with_reducible refine LeV.tup ?_) | (with_reducible refine LeV.fn ?_ ?_) | (with_reducible exact LeV.nil _) | (with_reducible refine leRows_append (LeRows.refl _) ?_) | ((refine leV_frz rfl (by simp) (by simp [frzO, frz1, upd, noH]) ?_); (first | (simp [go_sem]; done) | (simp [go_sem]; exact List.take_of_length_le (by simp)))) | ((refine LeV.frz rfl (by simp) (by simp [frzO, frz1, upd, noH]) ?_); (simp only [List.drop_zero, List.take_succ_cons, List.take_zero, List.map_cons, List.map_nil])) | ((refine LeV.frzP rfl (by simp) (by simp) (by simp [frzO, frz1, upd, noH]) ?_); (simp only [nth_zero, List.drop_zero])))))
end Go.Av
end
section
set_option linter.unusedSimpArgs false
set_option linter.unusedVariables false
open Go Go.Proofs
set_option maxRecDepth 20000
set_option maxHeartbeats 4000000
namespace Go.Av
def flatK {α β : Type} (F : α → List β) (l : List α) (i : Nat) : List β := (l.take i).flatMap F
theorem flatK_succ {α β : Type} [Inhabited α] (F : α → List β) (l : List α) {i : Nat} (h : i < l.length) : flatK F l (i + 1) = flatK F l i ++ F (nth l i) := by
  unfold flatK
  rw [List.take_add_one, List.getElem?_eq_getElem h, nth_eq _ _ h, Option.toList_some, List.flatMap_append]
  simp
theorem flatK_zero {α β : Type} (F : α → List β) (l : List α) : flatK F l 0 = [] := by simp [flatK]
theorem flatK_all {α β : Type} (F : α → List β) (l : List α) : flatK F l l.length = l.flatMap F := by simp [flatK]
theorem flatK_le {α β : Type} (F : α → List β) (l : List α) (i : Nat) : (flatK F l i).length ≤ (l.flatMap F).length := by
  unfold flatK
  conv => rhs; rw [← List.take_append_drop i l]
  rw [List.flatMap_append, List.length_append]
  omega
theorem flatQ_pure (l : List (List (Int × Int))) (hl : l.length ≤ 1048576) (f : FuncId) (caps : List AV) (F : List (Int × Int) → List PathD) (hF : ∀ x ∈ l, Pure Try.prog f (encProg x :: caps) (encPt (F x))) (hb : ∀ c ∈ caps, Bel 0 c)
    (hn : (l.flatMap F).length ≤ 8589934592) : Pure Try.prog 55 [.lst 1 (l.map fun p => [encProg p]), .fn (.func f) [] caps] (encPt (l.flatMap F)) := by
  refine Pure.of (ACallP.of_awp (by kernel_rfl) Try.func55 rfl rfl (Nat.le_of_ble_eq_true rfl) (by kernel_rfl) ?_)
  rw [← flatK_all F l] at hn ⊢
  (repeat (first | with_reducible (first | refine wL fun _ => ?_ | refine wD fun _ => ?_ | refine wE ?_ | refine adrZ.go ?_) | simp [go_sem]))
  refine ALoop.start (ALoop.ind (α := Nat) (fun i => ⟨[(1, .fn (.func f) [] caps), (5, .sl 0 i 2 0 (flatK F l i).length), (8, .lst 1 (l.map fun p => [encProg p])), (9, .v (.int .i64 l.length)), (10, .v (.int .i64 i))], [(0, .rows true i 2 ((flatK F l i).map encPath))], 1⟩)
    (fun d i => i + d = l.length) ?_ l.length 0 ?_) ?_ ?_
  · rintro d i i1 hrec
    have hni := flatK_le F l i
    (repeat (first | with_reducible (first | refine wL fun _ => ?_ | refine wD fun _ => ?_ | refine wE ?_ | refine adrZ.go ?_) | simp [go_sem]))
    refine aIf.mkL (fun hi => ?_) (fun hi => ?_) <;> simp at hi
    · have hs := flatK_succ F l hi
      have hns := flatK_le F l (i + 1)
      rw [hs, List.length_append] at hns
      rw [flatK_all] at hn
      (repeat (first | with_reducible (first | refine wL fun _ => ?_ | refine wD fun _ => ?_ | refine wE ?_ | refine adrZ.go ?_) | simp [go_sem, hi]))
      refine ACallP.plain (hF _ (nth_mem hi)) (by simp [go_sem]; exact hb) ?_
      (repeat (first | with_reducible (first | refine wL fun _ => ?_ | refine wD fun _ => ?_ | refine wE ?_ | refine adrZ.go ?_) | simp [go_sem, hi]))
      refine ALoop.start (hrec (d - 1) (by omega) (i + 1) (by omega)) ?_ (by simp)
      simp [go_sem, Wk_eq, hs]
      exact fun c hc => (hb c hc).mono (Nat.zero_le _)
    · have hil : i = l.length := by omega
      subst hil
      generalize flatK F l l.length = R at *
      (repeat (first | with_reducible (first | refine wL fun _ => ?_ | refine wD fun _ => ?_ | refine wE ?_ | refine adrZ.go ?_) | simp [go_sem]))
      ((try simp only [encProg, encStep, encAct, encAs, encPath, encPt, encOut, encState, encPos, encOs, encSs, encPs, encIs, encGame, List.map_cons, List.map_nil, List.nil_append, List.append_nil, List.cons_append]); (repeat (first | (with_reducible exact LeRow.nil) | (with_reducible exact LeRows.nil) | (with_reducible exact LeV.refl _) | (with_reducible exact LeRow.refl _ _ _ _) | (with_reducible exact LeRows.refl _) | (with_reducible refine LeRow.cons ?_ ?_) | (with_reducible refine LeRows.cons ?_ ?_) | (with_reducible refine LeV.agg ?_) | (with_reducible refine LeV.tup ?_) | (with_reducible refine LeV.fn ?_ ?_) | (with_reducible exact LeV.nil _) | (with_reducible refine leRows_append (LeRows.refl _) ?_) | ((refine leV_frz rfl (by simp) (by simp [frzO, frz1, upd, noH]) ?_); (first | (simp [go_sem]; done) | (simp [go_sem]; exact List.take_of_length_le (by simp)))) | ((refine LeV.frz rfl (by simp) (by simp [frzO, frz1, upd, noH]) ?_); (simp only [List.drop_zero, List.take_succ_cons, List.take_zero, List.map_cons, List.map_nil])) | ((refine LeV.frzP rfl (by simp) (by simp) (by simp [frzO, frz1, upd, noH]) ?_); (simp only [nth_zero, List.drop_zero])))))
  · simp
  · simp [go_sem, Wk_eq, flatK_zero]
    exact fun c hc => (hb c hc).mono (Nat.zero_le _)
  · simp
theorem flatP_pure (l : List PathD) (hl : l.length ≤ 1073741824) (f : FuncId) (caps : List AV) (F : PathD → List PathD) (hF : ∀ x ∈ l, Pure Try.prog f (.agg (encPath x) :: caps) (encPt (F x))) (hb : ∀ c ∈ caps, Bel 0 c)
    (hn : (l.flatMap F).length ≤ 8589934592) : Pure Try.prog 73 [encPt l, .fn (.func f) [] caps] (encPt (l.flatMap F)) := by
  refine Pure.of (ACallP.of_awp (by kernel_rfl) Try.func73 rfl rfl (Nat.le_of_ble_eq_true rfl) (by kernel_rfl) ?_)
  rw [← flatK_all F l] at hn ⊢
  (repeat (first | with_reducible (first | refine wL fun _ => ?_ | refine wD fun _ => ?_ | refine wE ?_ | refine adrZ.go ?_) | simp [go_sem]))
  refine ALoop.start (ALoop.ind (α := Nat) (fun i => ⟨[(1, .fn (.func f) [] caps), (5, .sl 0 i 2 0 (flatK F l i).length), (8, encPt l), (9, .v (.int .i64 l.length)), (10, .v (.int .i64 i))], [(0, .rows true i 2 ((flatK F l i).map encPath))], 1⟩)
    (fun d i => i + d = l.length) ?_ l.length 0 ?_) ?_ ?_
  · rintro d i i1 hrec
    have hni := flatK_le F l i
    (repeat (first | with_reducible (first | refine wL fun _ => ?_ | refine wD fun _ => ?_ | refine wE ?_ | refine adrZ.go ?_) | simp [go_sem]))
    refine aIf.mkL (fun hi => ?_) (fun hi => ?_) <;> simp at hi
    · have hs := flatK_succ F l hi
      have hns := flatK_le F l (i + 1)
      rw [hs, List.length_append] at hns
      rw [flatK_all] at hn
      (repeat (first | with_reducible (first | refine wL fun _ => ?_ | refine wD fun _ => ?_ | refine wE ?_ | refine adrZ.go ?_) | simp [go_sem, hi]))
      refine ACallP.plain (hF _ (nth_mem hi)) (by simp [go_sem]; exact hb) ?_
      (repeat (first | with_reducible (first | refine wL fun _ => ?_ | refine wD fun _ => ?_ | refine wE ?_ | refine adrZ.go ?_) | simp [go_sem, hi]))
      refine ALoop.start (hrec (d - 1) (by omega) (i + 1) (by omega)) ?_ (by simp)
      simp [go_sem, Wk_eq, hs]
      exact fun c hc => (hb c hc).mono (Nat.zero_le _)
    · have hil : i = l.length := by omega
      subst hil
      generalize flatK F l l.length = R at *
      (repeat (first | with_reducible (first | refine wL fun _ => ?_ | refine wD fun _ => ?_ | refine wE ?_ | refine adrZ.go ?_) | simp [go_sem]))
      ((try simp only [encProg, encStep, encAct, encAs, encPath, encPt, encOut, encState, encPos, encOs, encSs, encPs, encIs, encGame, List.map_cons, List.map_nil, List.nil_append, List.append_nil, List.cons_append]); (repeat (first | (with_reducible exact LeRow.nil) | (with_reducible exact LeRows.nil) | (with_reducible exact LeV.refl _) | (with_reducible exact LeRow.refl _ _ _ _) | (with_reducible exact LeRows.refl _) | (with_reducible refine LeRow.cons ?_ ?_) | (with_reducible refine LeRows.cons ?_ ?_) | (with_reducible refine LeV.agg ?_) | (with_reducible refine LeV.tup ?_) | (with_reducible refine LeV.fn ?_ ?_) | (with_reducible exact LeV.nil _) | (with_reducible refine leRows_append (LeRows.refl _) ?_) | ((refine leV_frz rfl (by simp) (by simp [frzO, frz1, upd, noH]) ?_); (first | (simp [go_sem]; done) | (simp [go_sem]; exact List.take_of_length_le (by simp)))) | ((refine LeV.frz rfl (by simp) (by simp [frzO, frz1, upd, noH]) ?_); (simp only [List.drop_zero, List.take_succ_cons, List.take_zero, List.map_cons, List.map_nil])) | ((refine LeV.frzP rfl (by simp) (by simp) (by simp [frzO, frz1, upd, noH]) ?_); (simp only [nth_zero, List.drop_zero])))))
  · simp
  · simp [go_sem, Wk_eq, flatK_zero]
    exact fun c hc => (hb c hc).mono (Nat.zero_le _)
  · simp
theorem paths1_pure (b : BoardD) (hb : BoardOk b) (h9 : b.cells ≤ 9) (side : Int) (p : PathD) (hp : p.acts.length ≤ 1000000) (x : Int × Int) :
    Pure Try.prog 74 [.agg (encPath p), .fp (encB b), .fp [.v (.int .i64 side)], .fp [.v (.int .i64 x.1), .v (.int .i64 x.2)]] (encPt (extP b side p x)) := by
  refine Pure.of (ACallP.of_awp (by kernel_rfl) Try.func74 rfl rfl (Nat.le_of_ble_eq_true rfl) (by kernel_rfl) ?_)
  have hE := extend_pure b hb h9 side p hp x
  generalize extP b side p x = R at *
  (repeat (first | with_reducible (first | refine wL fun _ => ?_ | refine wD fun _ => ?_ | refine wE ?_ | refine adrZ.go ?_) | simp [go_sem]))
  refine ACallP.plain hE (by simp [go_sem]) ?_
  (repeat (first | with_reducible (first | refine wL fun _ => ?_ | refine wD fun _ => ?_ | refine wE ?_ | refine adrZ.go ?_) | simp [go_sem]))
def pathsK (b : BoardD) (side : Int) (prog : List (Int × Int)) (cell : Int) (i : Nat) : List PathD := pathsP b side (prog.take i) cell
theorem pathsK_succ (b : BoardD) (side : Int) (prog : List (Int × Int)) (cell : Int) {i : Nat} (h : i < prog.length) : pathsK b side prog cell (i + 1) = (pathsK b side prog cell i).flatMap fun w => extP b side w (nth prog i) := by
  unfold pathsK pathsP
  rw [List.take_add_one, List.getElem?_eq_getElem h, nth_eq _ _ h, Option.toList_some, List.foldl_append]
  rfl
theorem pathsK_acts {b : BoardD} (hb : BoardOk b) (h9 : b.cells ≤ 9) (side : Int) (prog : List (Int × Int)) (cell : Int) : ∀ i, i ≤ prog.length → ActsLe (10 * i) (pathsK b side prog cell i)
  | 0, _ => by
    intro w hw
    simp [pathsK, pathsP] at hw
    subst hw
    simp
  | i + 1, h => by
    rw [pathsK_succ b side prog cell (by omega)]
    exact stepP_acts hb h9 side (pathsK_acts hb h9 side prog cell i (by omega)) _
theorem pathsK_len {b : BoardD} (hb : BoardOk b) (h1 : 1 ≤ b.cells) (h9 : b.cells ≤ 9) (side : Int) (prog : List (Int × Int)) (hp : prog.length ≤ 8) (cell : Int) (i : Nat) : (pathsK b side prog cell i).length ≤ 43046721 := by
  have h := pathsP_len hb h1 side (prog.take i) cell
  have hc : countOp (prog.take i) 2 ≤ 8 := by
    unfold countOp
    have := List.countP_le_length (p := fun x : Int × Int => x.1 == 2) (l := prog.take i)
    simp at this
    omega
  have h2 : b.cells.toNat ^ countOp (prog.take i) 2 ≤ 9 ^ countOp (prog.take i) 2 := Nat.pow_le_pow_left (by omega) _
  have h3 : 9 ^ countOp (prog.take i) 2 ≤ 9 ^ 8 := Nat.pow_le_pow_right (by omega) hc
  unfold pathsK
  omega
theorem paths_pure (b : BoardD) (hb : BoardOk b) (h1 : 1 ≤ b.cells) (h9 : b.cells ≤ 9) (side : Int) (prog : List (Int × Int)) (hp : prog.length ≤ 8) (cell : Int) :
    Pure Try.prog 57 [.agg (encB b), .v (.int .i64 side), encProg prog, .v (.int .i64 cell)] (encPt (pathsP b side prog cell)) := by
  refine Pure.of (ACallP.of_awp (by kernel_rfl) Try.func57 rfl rfl (Nat.le_of_ble_eq_true rfl) (by kernel_rfl) ?_)
  have hR : pathsP b side prog cell = pathsK b side prog cell prog.length := by unfold pathsK; rw [List.take_length]
  have hl := pathsK_len hb h1 h9 side prog hp cell
  have ha := pathsK_acts hb h9 side prog cell
  have hs := fun (i : Nat) (h : i < prog.length) => pathsK_succ b side prog cell h
  have h0 : pathsK b side prog cell 0 = [⟨[], cell⟩] := rfl
  rw [hR]
  have hP := fun w hw x => paths1_pure b hb h9 side w hw x
  generalize pathsK b side prog cell = K at *
  generalize hXb : extP b side = E at *
  have hbl : ∀ n, (∀ c' ∈ encB b, Bel n c') = True := fun n => by simp [go_sem]
  have hel : (encB b).length = 3 := rfl
  have hte : (encB b).take 3 = encB b := rfl
  obtain ⟨eb, heb⟩ : ∃ eb, eb = encB b := ⟨_, rfl⟩
  rw [← heb] at hbl hel hte ⊢
  have hP' : ∀ w : PathD, w.acts.length ≤ 1000000 → ∀ x : Int × Int, Pure Try.prog 74 [.agg (encPath w), .fp eb, .fp [.v (.int .i64 side)], .fp [.v (.int .i64 x.1), .v (.int .i64 x.2)]] (encPt (E w x)) := fun w hw x => by rw [heb]; exact hP w hw x
  clear hP
  (repeat (first | with_reducible (first | refine wL fun _ => ?_ | refine wD fun _ => ?_ | refine wE ?_ | refine adrZ.go ?_) | simp [go_sem, hel, hte]))
  refine ALoop.start (ALoop.ind (α := Nat) (fun i => ⟨[(4, .ref 0 0 3 0 0), (5, .ref 1 0 1 0 0), (9, encPt (K i)), (15, encProg prog), (16, .v (.int .i64 prog.length)), (17, .v (.int .i64 i))], [(0, .rows false 0 3 [eb]), (1, .rows false 0 1 [[.v (.int .i64 side)]])], 2⟩)
    (fun d i => i + d = prog.length) ?_ prog.length 0 ?_) ?_ ?_
  · rintro d i i1 hrec
    have hli := hl i
    (repeat (first | with_reducible (first | refine wL fun _ => ?_ | refine wD fun _ => ?_ | refine wE ?_ | refine adrZ.go ?_) | simp [go_sem, hel, hte]))
    refine aIf.mkL (fun hi => ?_) (fun hi => ?_) <;> simp at hi
    · have hsi := hs i hi
      have hls := hl (i + 1)
      have hai := ha i (by omega)
      (repeat (first | with_reducible (first | refine wL fun _ => ?_ | refine wD fun _ => ?_ | refine wE ?_ | refine adrZ.go ?_) | simp [go_sem, hel, hte, hi]))
      refine ACallP.pureF [2] (flatP_pure (K i) (by omega) 74 [.fp eb, .fp [.v (.int .i64 side)], .fp [.v (.int .i64 (nth prog i).1), .v (.int .i64 (nth prog i).2)]] (fun w => E w (nth prog i)) (fun w hw => hP' w (by have := hai w hw; omega) _) (by simp [go_sem, hbl]) (by rw [← hsi]; omega)) ?_ (by simp [go_sem, hbl]) ?_
      · ((try simp only [encProg, encStep, encAct, encAs, encPath, encPt, encOut, encState, encPos, encOs, encSs, encPs, encIs, encGame, List.map_cons, List.map_nil, List.nil_append, List.append_nil, List.cons_append]); (repeat (first | (with_reducible exact LeRow.nil) | (with_reducible exact LeRows.nil) | (with_reducible exact LeV.refl _) | (with_reducible exact LeRow.refl _ _ _ _) | (with_reducible exact LeRows.refl _) | (with_reducible refine LeRow.cons ?_ ?_) | (with_reducible refine LeRows.cons ?_ ?_) | (with_reducible refine LeV.agg ?_) | (with_reducible refine LeV.tup ?_) | (with_reducible refine LeV.fn ?_ ?_) | (with_reducible exact LeV.nil _) | (with_reducible refine leRows_append (LeRows.refl _) ?_) | ((refine leV_frz rfl (by simp) (by simp [frzO, frz1, upd, noH]) ?_); (first | (simp [go_sem]; done) | (simp [go_sem]; exact List.take_of_length_le (by simp)))) | ((refine LeV.frz rfl (by simp) (by simp [frzO, frz1, upd, noH]) ?_); (simp only [List.drop_zero, List.take_succ_cons, List.take_zero, List.map_cons, List.map_nil])) | ((refine LeV.frzP rfl (by simp) (by simp) (by simp [frzO, frz1, upd, noH]) ?_); (simp only [nth_zero, List.drop_zero])))))
      · rw [← hsi]
        (repeat (first | with_reducible (first | refine wL fun _ => ?_ | refine wD fun _ => ?_ | refine wE ?_ | refine adrZ.go ?_) | simp [go_sem, hel, hte]))
        refine ALoop.start (hrec (d - 1) (by omega) (i + 1) (by omega)) ?_ (by simp)
        simp [go_sem, Wk_eq, hbl]
    · have hil : i = prog.length := by omega
      subst hil
      generalize K prog.length = R at *
      (repeat (first | with_reducible (first | refine wL fun _ => ?_ | refine wD fun _ => ?_ | refine wE ?_ | refine adrZ.go ?_) | simp [go_sem]))
  · simp
  · simp [go_sem, Wk_eq, h0, hbl]
    ((try simp only [encProg, encStep, encAct, encAs, encPath, encPt, encOut, encState, encPos, encOs, encSs, encPs, encIs, encGame, List.map_cons, List.map_nil, List.nil_append, List.append_nil, List.cons_append]); (repeat (first | (with_reducible exact LeRow.nil) | (with_reducible exact LeRows.nil) | (with_reducible exact LeV.refl _) | (with_reducible exact LeRow.refl _ _ _ _) | (with_reducible exact LeRows.refl _) | (with_reducible refine LeRow.cons ?_ ?_) | (with_reducible refine LeRows.cons ?_ ?_) | (with_reducible refine LeV.agg ?_) | (with_reducible refine LeV.tup ?_) | (with_reducible refine LeV.fn ?_ ?_) | (with_reducible exact LeV.nil _) | (with_reducible refine leRows_append (LeRows.refl _) ?_) | ((refine leV_frz rfl (by simp) (by simp [frzO, frz1, upd, noH]) ?_); (first | (simp [go_sem]; done) | (simp [go_sem]; exact List.take_of_length_le (by simp)))) | ((refine LeV.frz rfl (by simp) (by simp [frzO, frz1, upd, noH]) ?_); (simp only [List.drop_zero, List.take_succ_cons, List.take_zero, List.map_cons, List.map_nil])) | ((refine LeV.frzP rfl (by simp) (by simp) (by simp [frzO, frz1, upd, noH]) ?_); (simp only [nth_zero, List.drop_zero])))))
  · simp
end Go.Av
end
