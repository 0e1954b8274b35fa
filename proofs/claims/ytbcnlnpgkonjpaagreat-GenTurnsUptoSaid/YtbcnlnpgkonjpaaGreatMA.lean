/- Contracts, programs: Fit, Made of the reference. -/
import Derived.Test.YtbcnlnpgkonjpaaGreatD4
section
set_option linter.unusedSimpArgs false
set_option linter.unusedVariables false
open Go Go.Proofs
set_option maxRecDepth 20000
set_option maxHeartbeats 4000000
namespace Go.Av
def fitStep (dirs kinds rights : Int) (x : Int × Int) : Option (Int × Int) :=
  if x.1 = 1 ∨ x.1 = 2 ∨ x.1 = 7 then some (x.1, x.2.tmod dirs) else if x.1 = 8 then some (x.1, x.2.tmod kinds)
  else if x.1 = 9 ∨ x.1 = 10 then (if rights = 0 then none else some (x.1, x.2.tmod rights)) else some x
def fitP (dirs kinds rights : Int) (p : List (Int × Int)) : List (Int × Int) := if p.filterMap (fitStep dirs kinds rights) = [] then [(3, 0)] else p.filterMap (fitStep dirs kinds rights)
theorem fm_take {α β : Type} [Inhabited α] (f : α → Option β) (l : List α) (j : Nat) (h : j < l.length) : (l.take (j + 1)).filterMap f = (l.take j).filterMap f ++ (f (nth l j)).toList := by
  rw [List.take_add_one, List.filterMap_append, List.getElem?_eq_getElem h, nth_eq _ _ h]
  cases hf : f l[j] <;> simp [hf]
theorem R2Fit_pure (p : List (Int × Int)) (hp : p.length ≤ 1048576) (dirs kinds rights : Int) (hd : 1 ≤ dirs) (hk : 1 ≤ kinds) (hr : 0 ≤ rights) :
    Pure Tryz.prog 58 [encProg p, .v (.int .i64 dirs), .v (.int .i64 kinds), .v (.int .i64 rights)] (encProg (fitP dirs kinds rights p)) := by
  refine Pure.of (ACallP.of_awp (by kernel_rfl) Tryz.func58 rfl rfl (Nat.le_of_ble_eq_true rfl) (by kernel_rfl) ?_)
  (repeat (first | with_reducible (first | refine wL fun _ => ?_ | refine wD fun _ => ?_ | refine wE ?_ | refine adrZ.go ?_) | simp [go_sem]))
  refine ALoop.start (ALoop.ind (α := Nat × List (Int × Int)) (fun a => ⟨[(0, encProg p), (1, .v (.int .i64 dirs)), (2, .v (.int .i64 kinds)), (3, .v (.int .i64 rights)), (9, .sl 0 a.2.length 2 0 a.2.length), (10, .v (.int .i64 a.1))], [(0, .rows true a.2.length 2 (a.2.map encStep))], 1⟩)
    (fun d a => a.1 + d = p.length ∧ a.2 = (p.take a.1).filterMap (fitStep dirs kinds rights) ∧ a.2.length ≤ a.1) ?_ p.length (0, []) ?_) ?_ ?_
  · rintro d ⟨j, out⟩ ⟨i1, i2, i3⟩ hrec
    simp only at i1 i2 i3
    (repeat (first | with_reducible (first | refine wL fun _ => ?_ | refine wD fun _ => ?_ | refine wE ?_ | refine adrZ.go ?_) | simp [go_sem]))
    refine aIf.mkL (fun hj => ?_) (fun hj => ?_) <;> simp at hj
    · have hs := fm_take (fitStep dirs kinds rights) p j hj
      rw [← i2] at hs
      generalize hx : nth p j = x at *
      obtain ⟨op, n⟩ := x
      have hgo : ∀ y, fitStep dirs kinds rights (op, n) = some y → out ++ [y] = (p.take (j + 1)).filterMap (fitStep dirs kinds rights) ∧ (out ++ [y]).length ≤ j + 1 := fun y hy => by rw [hs, hy]; simp; omega
      have hbel : ∀ y : Int × Int, ∀ r ∈ (out ++ [y]).map encStep, ∀ c ∈ r, Bel 1 c := fun y => of_eq_true bel_S
      rcases (show (op = 1 ∨ op = 2 ∨ op = 7) ∨ op = 8 ∨ (op = 9 ∨ op = 10) ∨ (op ≠ 1 ∧ op ≠ 2 ∧ op ≠ 7 ∧ op ≠ 8 ∧ op ≠ 9 ∧ op ≠ 10) by omega) with c1 | c1 | c1 | ⟨c1, c2, c3, c4, c5, c6⟩
      · have hf : fitStep dirs kinds rights (op, n) = some (op, n.tmod dirs) := by unfold fitStep; rw [if_pos c1]
        obtain ⟨k1, k2⟩ := hgo _ hf
        have hb := hbel (op, n.tmod dirs)
        rcases c1 with rfl | rfl | rfl <;>
        · (repeat (first | with_reducible (first | refine wL fun _ => ?_ | refine wD fun _ => ?_ | refine wE ?_ | refine adrZ.go ?_) | simp [go_sem, hj, hx]))
          refine ALoop.start (hrec (d - 1) (by omega) (j + 1, out ++ [(_, n.tmod dirs)]) ⟨by simp only; omega, k1, k2⟩) ?_ (by simp)
          simp [go_sem, Wk_eq] at hb ⊢
          try exact hb
      · have hf : fitStep dirs kinds rights (op, n) = some (op, n.tmod kinds) := by unfold fitStep; rw [if_neg (by omega), if_pos c1]
        obtain ⟨k1, k2⟩ := hgo _ hf
        have hb := hbel (op, n.tmod kinds)
        subst c1
        (repeat (first | with_reducible (first | refine wL fun _ => ?_ | refine wD fun _ => ?_ | refine wE ?_ | refine adrZ.go ?_) | simp [go_sem, hj, hx]))
        refine ALoop.start (hrec (d - 1) (by omega) (j + 1, out ++ [(_, n.tmod kinds)]) ⟨by simp only; omega, k1, k2⟩) ?_ (by simp)
        simp [go_sem, Wk_eq] at hb ⊢
        try exact hb
      · by_cases hr0 : rights = 0
        · have hf : fitStep dirs kinds rights (op, n) = none := by unfold fitStep; rw [if_neg (by omega), if_neg (by omega), if_pos c1, if_pos hr0]
          rw [hf, Option.toList_none, List.append_nil] at hs
          have hb := hbel (op, n)
          subst hr0
          rcases c1 with rfl | rfl <;>
          · (repeat (first | with_reducible (first | refine wL fun _ => ?_ | refine wD fun _ => ?_ | refine wE ?_ | refine adrZ.go ?_) | simp [go_sem, hj, hx]))
            refine ALoop.start (hrec (d - 1) (by omega) (j + 1, out) ⟨by simp only; omega, hs.symm, by simp only; omega⟩) ?_ (by simp)
            simp [go_sem, Wk_eq]
            rintro r x y _ rfl c hc
            simp at hc
            rcases hc with rfl | rfl <;> exact .v _
        · have hf : fitStep dirs kinds rights (op, n) = some (op, n.tmod rights) := by unfold fitStep; rw [if_neg (by omega), if_neg (by omega), if_pos c1, if_neg hr0]
          obtain ⟨k1, k2⟩ := hgo _ hf
          have hb := hbel (op, n.tmod rights)
          rcases c1 with rfl | rfl <;>
          · (repeat (first | with_reducible (first | refine wL fun _ => ?_ | refine wD fun _ => ?_ | refine wE ?_ | refine adrZ.go ?_) | simp [go_sem, hj, hx, hr0]))
            refine ALoop.start (hrec (d - 1) (by omega) (j + 1, out ++ [(_, n.tmod rights)]) ⟨by simp only; omega, k1, k2⟩) ?_ (by simp)
            simp [go_sem, Wk_eq] at hb ⊢
            try exact hb
      · have hf : fitStep dirs kinds rights (op, n) = some (op, n) := by unfold fitStep; rw [if_neg (by omega), if_neg (by omega), if_neg (by omega)]
        obtain ⟨k1, k2⟩ := hgo _ hf
        have hb := hbel (op, n)
        (repeat (first | with_reducible (first | refine wL fun _ => ?_ | refine wD fun _ => ?_ | refine wE ?_ | refine adrZ.go ?_) | simp [go_sem, hj, hx, c1, c2, c3, c4, c5, c6]))
        refine ALoop.start (hrec (d - 1) (by omega) (j + 1, out ++ [(op, n)]) ⟨by simp only; omega, k1, k2⟩) ?_ (by simp)
        simp [go_sem, Wk_eq] at hb ⊢
        try exact hb
    · have hout : fitP dirs kinds rights p = if out = [] then [(3, 0)] else out := by
        unfold fitP
        rw [i2, List.take_of_length_le hj]
      rw [hout]
      (repeat (first | with_reducible (first | refine wL fun _ => ?_ | refine wD fun _ => ?_ | refine wE ?_ | refine adrZ.go ?_) | simp [go_sem]))
      refine aIf.mkL (fun ho => ?_) (fun ho => ?_) <;> simp at ho
      · rw [if_pos ho]
        (repeat (first | with_reducible (first | refine wL fun _ => ?_ | refine wD fun _ => ?_ | refine wE ?_ | refine adrZ.go ?_) | simp [go_sem]))
        refine LeV.frz rfl ?_ ?_ (LeRows.of_eq ?_) <;> simp [noH]
      · rw [if_neg ho]
        (repeat (first | with_reducible (first | refine wL fun _ => ?_ | refine wD fun _ => ?_ | refine wE ?_ | refine adrZ.go ?_) | simp [go_sem]))
        refine LeV.frz rfl ?_ ?_ (LeRows.of_eq ?_) <;> simp [noH, List.take_of_length_le]
  · simp
  · simp [go_sem, Wk_eq]
  · simp
/-! ### Made -/
def madeP (n dirs kinds rights : Int) : List (Int × Int) :=
  fitP dirs kinds rights (nth (libL ((n.tdiv 16).tmod 8) ((n.tdiv 16 + n.tmod 5).tmod 8) ((n.tdiv 3).tmod 6) (n.tmod 4)) (n.tmod 16).toNat)
theorem libL_len (d e k r : Int) (i : Nat) : (nth (libL d e k r) i).length ≤ 6 := by
  rcases Nat.lt_or_ge i 16 with h | h
  · have : ∀ l ∈ libL d e k r, l.length ≤ 6 := by simp [libL]
    exact this _ (nth_mem h)
  · have : nth (libL d e k r) i = [] := by
      unfold nth
      rw [List.getD_eq_getElem?_getD, List.getElem?_eq_none (by exact h)]; rfl
    rw [this]; simp
theorem R2Made_pure (n dirs kinds rights : Int) (hn : 0 ≤ n ∧ n ≤ 255) (hd : 1 ≤ dirs) (hk : 1 ≤ kinds) (hr : 0 ≤ rights) :
    Pure Tryz.prog 39 [.v (.int .u8 n), .v (.int .i64 dirs), .v (.int .i64 kinds), .v (.int .i64 rights)] (encProg (madeP n dirs kinds rights)) := by
  refine Pure.of (ACallP.of_awp (by kernel_rfl) Tryz.func39 rfl rfl (Nat.le_of_ble_eq_true rfl) (by kernel_rfl) ?_)
  have q0 : 0 ≤ n.tdiv 16 ∧ n.tdiv 16 ≤ 15 := by rw [Int.tdiv_eq_ediv_of_nonneg hn.1]; omega
  have q1 : 0 ≤ n.tdiv 3 ∧ n.tdiv 3 ≤ 255 := by rw [Int.tdiv_eq_ediv_of_nonneg hn.1]; omega
  have m0 := Int.tmod_nonneg 5 hn.1
  have m1 := Int.tmod_lt_of_pos n (show (0 : Int) < 5 by decide)
  have hL := R2Lib_pure n (n.tdiv 16) (n.tdiv 16 + n.tmod 5) (n.tdiv 3) n (by simp; omega)
  unfold madeP
  have hpl := libL_len ((n.tdiv 16).tmod 8) ((n.tdiv 16 + n.tmod 5).tmod 8) ((n.tdiv 3).tmod 6) (n.tmod 4) (n.tmod 16).toNat
  generalize nth (libL ((n.tdiv 16).tmod 8) ((n.tdiv 16 + n.tmod 5).tmod 8) ((n.tdiv 3).tmod 6) (n.tmod 4)) (n.tmod 16).toNat = p at *
  have hF := R2Fit_pure p (by omega) dirs kinds rights hd hk hr
  generalize hqa : n.tdiv 16 = qa at *
  generalize hqb : n.tdiv 3 = qb at *
  generalize hmc : n.tmod 5 = mc at *
  (repeat (first | with_reducible (first | refine wL fun _ => ?_ | refine wD fun _ => ?_ | refine wE ?_ | refine adrZ.go ?_) | simp [go_sem, hqa, hqb, hmc]))
  refine ACallP.pureF [0] hL ?_ (by simp [go_sem]) ?_
  · refine LeRow.cons ?_ LeRow.nil
    refine LeV.frz rfl ?_ ?_ (LeRows.of_eq ?_) <;> simp [frzO, frz1, upd, encU]
  · (repeat (first | with_reducible (first | refine wL fun _ => ?_ | refine wD fun _ => ?_ | refine wE ?_ | refine adrZ.go ?_) | simp [go_sem]))
    refine ACallP.plain hF (by simp [go_sem]) ?_
    (repeat (first | with_reducible (first | refine wL fun _ => ?_ | refine wD fun _ => ?_ | refine wE ?_ | refine adrZ.go ?_) | simp [go_sem]))
end Go.Av
end
section
set_option linter.unusedSimpArgs false
set_option linter.unusedVariables false
open Go Go.Proofs
set_option maxRecDepth 20000
set_option maxHeartbeats 4000000
namespace Go.Av
theorem R3in_pure (n a b : Int) : Pure Tryz.prog 37 [.v (.int .i64 n), .v (.int .i64 a), .v (.int .i64 b)] (.v (.bool (decide (a ≤ n ∧ n ≤ b)))) := by
  refine Pure.of (ACallP.of_awp (by kernel_rfl) Tryz.func37 rfl rfl (Nat.le_of_ble_eq_true rfl) (by kernel_rfl) ?_)
  (repeat (first | with_reducible (first | refine wL fun _ => ?_ | refine wD fun _ => ?_ | refine wE ?_ | refine adrZ.go ?_) | simp [go_sem]))
/-- the kind and the side of a content -/
def manOf (c : Int) : Int × Int := if 1 ≤ c ∧ c ≤ 12 then ((c - 1).tdiv 2, (c - 1).tmod 2) else (-1, -1)
theorem R3Of_pure (c : Int) : Pure Tryz.prog 13 [.v (.int .i64 c)] (.agg [.v (.int .i64 (manOf c).1), .v (.int .i64 (manOf c).2)]) := by
  refine Pure.of (ACallP.of_awp (by kernel_rfl) Tryz.func13 rfl rfl (Nat.le_of_ble_eq_true rfl) (by kernel_rfl) ?_)
  (repeat (first | with_reducible (first | refine wL fun _ => ?_ | refine wD fun _ => ?_ | refine wE ?_ | refine adrZ.go ?_) | simp [go_sem]))
  refine ACallP.plain (R3in_pure c 1 12) (by simp [go_sem]) ?_
  by_cases h : 1 ≤ c ∧ c ≤ 12
  · have e : manOf c = ((c - 1).tdiv 2, (c - 1).tmod 2) := by unfold manOf; rw [if_pos h]
    have q : (c - 1).tdiv 2 = (c - 1) / 2 := Int.tdiv_eq_ediv_of_nonneg (by omega)
    rw [e]
    (repeat (first | with_reducible (first | refine wL fun _ => ?_ | refine wD fun _ => ?_ | refine wE ?_ | refine adrZ.go ?_) | simp [go_sem, h, q]))
  · have e : manOf c = (-1, -1) := by unfold manOf; rw [if_neg h]
    rw [e]
    (repeat (first | with_reducible (first | refine wL fun _ => ?_ | refine wD fun _ => ?_ | refine wE ?_ | refine adrZ.go ?_) | simp [go_sem, h]))
def codeOf (k s : Int) : Int := if (0 ≤ k ∧ k ≤ 5) ∧ 0 ≤ s ∧ s ≤ 1 then 2 * k + 1 + s else 0
theorem R3Code_pure (k s : Int) : Pure Tryz.prog 55 [.v (.int .i64 k), .v (.int .i64 s)] (.v (.int .i64 (codeOf k s))) := by
  refine Pure.of (ACallP.of_awp (by kernel_rfl) Tryz.func55 rfl rfl (Nat.le_of_ble_eq_true rfl) (by kernel_rfl) ?_)
  (repeat (first | with_reducible (first | refine wL fun _ => ?_ | refine wD fun _ => ?_ | refine wE ?_ | refine adrZ.go ?_) | simp [go_sem]))
  refine ACallP.plain (R3in_pure k 0 5) (by simp [go_sem]) ?_
  (repeat (first | with_reducible (first | refine wL fun _ => ?_ | refine wD fun _ => ?_ | refine wE ?_ | refine adrZ.go ?_) | simp [go_sem]))
  refine aGC.plain _ (fun _ => R3in_pure s 0 1) (by simp [go_sem]) ?_
  (repeat (first | with_reducible (first | refine wL fun _ => ?_ | refine wD fun _ => ?_ | refine wE ?_ | refine adrZ.go ?_) | simp [go_sem]))
  refine aIf.mkL (fun h => ?_) (fun h => ?_) <;> simp at h
  · have e : codeOf k s = 0 := by unfold codeOf; rw [if_neg (by omega)]
    rw [e]
    (repeat (first | with_reducible (first | refine wL fun _ => ?_ | refine wD fun _ => ?_ | refine wE ?_ | refine adrZ.go ?_) | simp [go_sem]))
  · have e : codeOf k s = 2 * k + 1 + s := by unfold codeOf; rw [if_pos (by omega)]
    rw [e]
    (repeat (first | with_reducible (first | refine wL fun _ => ?_ | refine wD fun _ => ?_ | refine wE ?_ | refine adrZ.go ?_) | simp [go_sem]))
    exact LeV.of_eq (by congr 2; omega)
end Go.Av
end
section
set_option linter.unusedSimpArgs false
set_option linter.unusedVariables false
open Go Go.Proofs
namespace Go.Av
/-! ### data -/
structure StD where
  p : PosD
  kind : Int
  cursor : Int
  took : Bool
  deriving DecidableEq
structure OutD where
  pos : PosD
  took : Bool
  deriving DecidableEq
instance : Inhabited StD := ⟨⟨default, 0, 0, false⟩⟩
instance : Inhabited OutD := ⟨⟨default, false⟩⟩
def encState (s : StD) : List AV := [encIs s.p.at_, encIs s.p.h0, encIs s.p.h1, .v (.int .i64 s.p.rights), .v (.int .i64 s.p.side), .v (.int .i64 s.kind), .v (.int .i64 s.cursor), .v (.bool s.took)]
def encSs (l : List StD) : AV := .lst 8 (l.map encState)
def encOut (o : OutD) : List AV := [encIs o.pos.at_, encIs o.pos.h0, encIs o.pos.h1, .v (.int .i64 o.pos.rights), .v (.int .i64 o.pos.side), .v (.bool o.took)]
def encOs (l : List OutD) : AV := .lst 6 (l.map encOut)
attribute [go_sem] encState encSs encOut encOs
theorem bel_St {n : Nat} {l : List StD} : (∀ r ∈ l.map encState, ∀ c ∈ r, Bel n c) = True := by
  refine eq_true ?_
  intro r hr c hc
  obtain ⟨x, _, rfl⟩ := List.mem_map.1 hr
  revert c
  simp [go_sem]
theorem bel_Sts {n : Nat} {l : List StD} : Bel n (.lst 8 (l.map encState)) = True := by rw [Bel_lst, bel_St]
theorem bel_Ou {n : Nat} {l : List OutD} : (∀ r ∈ l.map encOut, ∀ c ∈ r, Bel n c) = True := by
  refine eq_true ?_
  intro r hr c hc
  obtain ⟨x, _, rfl⟩ := List.mem_map.1 hr
  revert c
  simp [go_sem]
theorem bel_Ous {n : Nat} {l : List OutD} : Bel n (.lst 6 (l.map encOut)) = True := by rw [Bel_lst, bel_Ou]
attribute [go_sem high] bel_Sts bel_Ous
def PosD.hand (p : PosD) (side : Int) : List Int := if side = 0 then p.h0 else p.h1
def PosD.withHand (p : PosD) (side : Int) (l : List Int) : PosD := if side = 0 then { p with h0 := l } else { p with h1 := l }
/-- a game, and what it is made of -/
structure StepOk (dirs kinds rights : Int) (x : Int × Int) : Prop where
  op : 1 ≤ x.1 ∧ x.1 ≤ 10
  dir : x.1 = 1 ∨ x.1 = 2 ∨ x.1 = 7 → 0 ≤ x.2 ∧ x.2 < dirs
  zero : x.1 = 3 ∨ x.1 = 4 ∨ x.1 = 5 ∨ x.1 = 6 → x.2 = 0
  kind : x.1 = 8 → 0 ≤ x.2 ∧ x.2 < kinds
  right : x.1 = 9 ∨ x.1 = 10 → 0 ≤ x.2 ∧ x.2 < rights
def countOp (p : List (Int × Int)) (op : Int) : Nat := p.countP (fun x => x.1 == op)
structure ProgOk (dirs kinds rights : Int) (p : List (Int × Int)) : Prop where
  ne : 1 ≤ p.length
  len : p.length ≤ 8
  st : ∀ x ∈ p, StepOk dirs kinds rights x
  take : countOp p 6 ≤ 2
  push : countOp p 7 ≤ 1
  become : countOp p 8 ≤ 1
structure ClauseOk (cells kinds : Int) (c : Int × Int × Int × Int) : Prop where
  cond : c.1 = 1 ∨ c.1 = 2 ∨ c.1 = 3
  kind : 0 ≤ c.2.1 ∧ c.2.1 < kinds
  n : 0 ≤ c.2.2.1 ∧ (c.1 = 2 → c.2.2.1 < cells) ∧ (c.1 = 1 → c.2.2.1 = 0) ∧ c.2.2.1 ≤ 64
  then_ : 1 ≤ c.2.2.2 ∧ c.2.2.2 ≤ 3
  few : c.1 = 3 → c.2.1 = 0
structure GOk (g : GameD) : Prop where
  board : BoardOk g.board
  c1 : 1 ≤ g.cells
  c9 : g.cells ≤ 9
  d1 : 1 ≤ g.next.length
  d8 : g.next.length ≤ 8
  turn : ∀ d, d < g.turn.length → nth g.turn (nth g.turn d).toNat = d
  k1 : 1 ≤ g.kinds.length
  k6 : g.kinds.length ≤ 6
  pn : ∀ k ∈ g.kinds, k.progs.length ≤ 8
  pr : ∀ k ∈ g.kinds, ∀ p ∈ k.progs, ProgOk g.next.length g.kinds.length g.rights p
  r0 : 0 ≤ g.rights
  r4 : g.rights ≤ 4
  cl : ∀ c ∈ g.clauses, ClauseOk g.cells g.kinds.length c
  cn : g.clauses.length ≤ 6
  bl : 1 ≤ g.blocked ∧ g.blocked ≤ 3
  en : 1 ≤ g.endless ∧ g.endless ≤ 3
/-! ### one step -/
def slideGo (s : StD) : List Int → List StD
  | [] => []
  | c :: l => { s with cursor := c } :: (if nth s.p.at_ c.toNat = 0 then slideGo s l else [])
def slideS (b : BoardD) (s : StD) (n : Int) : List StD := slideGo s (lineB b s.p.side n s.cursor)
/-- the position without a content -/
def clr (p : PosD) (c : Int) : PosD := { p with at_ := p.at_.set c.toNat 0 }
def takeS (g : GameD) (s : StD) : List StD :=
  let m := manOf (nth s.p.at_ s.cursor.toNat)
  if m.1 < 0 ∨ m.2 = s.p.side then [] else
  if (nth g.kinds m.1.toNat).keep = true then
    if 8 < nth (s.p.hand s.p.side) m.1.toNat + 1 then []
    else [{ s with p := (clr s.p s.cursor).withHand s.p.side ((s.p.hand s.p.side).set m.1.toNat (nth (s.p.hand s.p.side) m.1.toNat + 1)), took := true }]
  else [{ s with p := clr s.p s.cursor, took := true }]
def pushS (g : GameD) (s : StD) (n : Int) : List StD :=
  let to := toB g.board s.p.side n s.cursor
  if nth s.p.at_ s.cursor.toNat = 0 ∨ to < 0 ∨ nth s.p.at_ to.toNat ≠ 0 then []
  else [{ s with p := { s.p with at_ := (s.p.at_.set to.toNat (nth s.p.at_ s.cursor.toNat)).set s.cursor.toNat 0 } }]
def onlyS (s : StD) (b : Bool) : List StD := if b then [s] else []
def stepS (g : GameD) (s : StD) (x : Int × Int) : List StD :=
  let m := manOf (nth s.p.at_ s.cursor.toNat)
  if x.1 = 1 then onlyS { s with cursor := toB g.board s.p.side x.2 s.cursor } (decide (0 ≤ toB g.board s.p.side x.2 s.cursor))
  else if x.1 = 2 then slideS g.board s x.2
  else if x.1 = 3 then onlyS s (decide (m.1 < 0))
  else if x.1 = 4 then onlyS s (decide (0 ≤ m.1 ∧ m.2 ≠ s.p.side))
  else if x.1 = 5 then onlyS s (decide (0 ≤ m.1 ∧ m.2 = s.p.side))
  else if x.1 = 6 then takeS g s
  else if x.1 = 7 then pushS g s x.2
  else if x.1 = 8 then [{ s with kind := x.2 }]
  else if x.1 = 9 then onlyS s (decide (andN .i64 (s.p.rights.fdiv (2 ^ x.2.toNat)) 1 = 1))
  else if x.1 = 10 then [{ s with p := { s.p with rights := andNotN .i64 s.p.rights (2 ^ x.2.toNat) } }]
  else [s]
/-! ### a run -/
def addS (l : List StD) (more : List StD) : List StD := more.foldl (fun l s => if s ∈ l then l else l ++ [s]) l
def nextS (g : GameD) (now : List StD) (x : Int × Int) : List StD := now.foldl (fun next s => addS next (stepS g s x)) []
def startS (p : PosD) (cell : Int) : StD := ⟨clr p cell, (manOf (nth p.at_ cell.toNat)).1, cell, false⟩
def lastS (g : GameD) (p : PosD) (cell : Int) (prog : List (Int × Int)) : List StD := prog.foldl (nextS g) [startS p cell]
def progOf (g : GameD) (p : PosD) (cell i : Int) : List (Int × Int) := nth (nth g.kinds (manOf (nth p.at_ cell.toNat)).1.toNat).progs i.toNat
/-- the outcome of a state, where the man is put down -/
def putS (side : Int) (s : StD) : Option OutD :=
  if nth s.p.at_ s.cursor.toNat = 0 then some ⟨{ s.p with at_ := s.p.at_.set s.cursor.toNat (codeOf s.kind side), side := 1 - side }, s.took⟩ else none
def cmpO (a b : OutD) : Int := lexI (cmpP a.pos b.pos) (number (if a.took then 1 else 0) (if b.took then 1 else 0))
theorem cmp_out : Cmp cmpO := by
  have h : Cmp (fun (a b : Bool) => number (if a then 1 else 0) (if b then 1 else 0)) :=
    cmp_number.pull (fun b : Bool => if b then (1 : Int) else 0) (fun a b => by cases a <;> cases b <;> simp)
  exact (cmp_pos.prod h).pull (fun o : OutD => (o.pos, o.took)) (fun a b e => by cases a; cases b; simp at e; simp [e])
def lessO (a b : OutD) : Bool := decide (cmpP a.pos b.pos < 0) || (decide (cmpP a.pos b.pos = 0) && !a.took && b.took)
theorem lessO_eq (a b : OutD) : lessO a b = decide (cmpO a b < 0) := by
  unfold lessO cmpO lexI
  by_cases h : cmpP a.pos b.pos = 0
  · rw [if_neg (by simpa using h)]
    simp only [h]
    cases a.took <;> cases b.took <;> simp [number]
  · rw [if_pos h]
    simp [h]
def insertO (x : OutD) : List OutD → List OutD
  | [] => [x]
  | y :: l => if lessO y x then y :: insertO x l else if lessO x y then x :: y :: l else y :: l
theorem insertO_mem {x z : OutD} : ∀ {l : List OutD}, z ∈ insertO x l ↔ z = x ∨ z ∈ l
  | [] => by simp [insertO]
  | y :: l => by
    simp only [insertO]
    split
    · rw [List.mem_cons, insertO_mem, List.mem_cons]
      exact ⟨fun h => by rcases h with h | h | h <;> simp [h], fun h => by rcases h with h | h | h <;> simp [h]⟩
    · split
      · simp
      · rename_i h1 h2
        rw [lessO_eq] at h1 h2
        have := cmp_out.swap x y
        have e := (cmp_out.eq x y).1 (by simp at h1 h2; omega)
        subst e
        simp
theorem insertO_pw {x : OutD} : ∀ {l : List OutD}, l.Pairwise (fun a b => cmpO a b < 0) → (insertO x l).Pairwise (fun a b => cmpO a b < 0)
  | [], _ => by simp [insertO]
  | y :: l, h => by
    rw [List.pairwise_cons] at h
    simp only [insertO]
    split
    · rename_i h1
      rw [lessO_eq] at h1
      rw [List.pairwise_cons]
      refine ⟨fun z hz => ?_, insertO_pw h.2⟩
      rcases insertO_mem.1 hz with rfl | hz
      · simpa using h1
      · exact h.1 z hz
    · split
      · rename_i h1
        rw [lessO_eq] at h1
        have hxy : cmpO x y < 0 := by simpa using h1
        refine List.pairwise_cons.2 ⟨fun z hz => ?_, List.pairwise_cons.2 h⟩
        rcases List.mem_cons.1 hz with rfl | hz
        · exact hxy
        · have hyz := h.1 z hz
          have t := cmp_out.tr x y z (by omega) (by omega)
          rcases Int.lt_or_eq_of_le t with h | h
          · exact h
          · have e := (cmp_out.eq _ _).1 h
            subst e
            have := cmp_out.swap x y
            omega
      · exact List.pairwise_cons.2 h
theorem insertO_fold : ∀ (l acc : List OutD), acc.Pairwise (fun a b => cmpO a b < 0) →
    (l.foldl (fun a x => insertO x a) acc).Pairwise (fun a b => cmpO a b < 0) ∧ ∀ z, z ∈ l.foldl (fun a x => insertO x a) acc ↔ z ∈ l ∨ z ∈ acc
  | [], acc, h => ⟨h, fun z => by simp⟩
  | x :: l, acc, h => by
    obtain ⟨h1, h2⟩ := insertO_fold l (insertO x acc) (insertO_pw h)
    refine ⟨h1, fun z => ?_⟩
    rw [List.foldl_cons, h2, insertO_mem, List.mem_cons]
    exact ⟨fun h => by rcases h with h | h | h <;> simp [h], fun h => by rcases h with (h | h) | h <;> simp [h]⟩
theorem insertO_all (l : List OutD) : l.foldl (fun a x => insertO x a) [] = sortU cmpO l :=
  (sortU_unique cmp_out (insertO_fold l [] (by simp)).1 (fun z => by rw [(insertO_fold l [] (by simp)).2]; simp)).symm
def runsP (g : GameD) (p : PosD) (cell i : Int) : List OutD := sortU cmpO ((lastS g p cell (progOf g p cell i)).filterMap (putS p.side))
/-! ### drops -/
def dropP (g : GameD) (p : PosD) (k c : Nat) : Option PosD :=
  if nth (p.hand p.side) k = 0 ∨ nth p.at_ c ≠ 0 then none
  else some { ({ p with at_ := p.at_.set c (codeOf k p.side) }.withHand p.side ((p.hand p.side).set k (nth (p.hand p.side) k - 1))) with side := 1 - p.side }
def dropsL (g : GameD) (p : PosD) : List PosD := (List.range g.kinds.length).flatMap fun k => (List.range p.at_.length).filterMap fun c => dropP g p k c
def dropsP (g : GameD) (p : PosD) : List PosD := sortU cmpP (dropsL g p)
/-! ### moves -/
def isMan (p : PosD) (side kind : Int) (c : Int) : Bool := decide (0 ≤ (manOf c).1) && decide ((manOf c).2 = side) && (decide (kind < 0) || decide ((manOf c).1 = kind))
def menP (p : PosD) (side kind : Int) : Nat := p.at_.countP (isMan p side kind)
def condP (c : Int × Int × Int × Int) (p : PosD) : Bool :=
  if c.1 = 1 then decide (menP p p.side c.2.1 = 0)
  else if c.1 = 2 then decide (nth p.at_ c.2.2.1.toNat = codeOf c.2.1 (1 - p.side))
  else decide ((menP p p.side (-1) : Int) ≤ c.2.2.1)
def endedP (g : GameD) (p : PosD) : Int := match g.clauses.findIdx? (fun c => condP c p) with | some i => (i : Int) | none => -1
def outsAt (g : GameD) (p : PosD) (c : Nat) : List OutD :=
  if 0 ≤ (manOf (nth p.at_ c)).1 ∧ (manOf (nth p.at_ c)).2 = p.side then
    (List.range (nth g.kinds (manOf (nth p.at_ c)).1.toNat).progs.length).flatMap fun (i : Nat) => runsP g p c i
  else []
def outsP (g : GameD) (p : PosD) : List OutD := (List.range p.at_.length).flatMap (outsAt g p)
def mustP (g : GameD) (p : PosD) : Bool := g.must && (outsP g p).any (·.took)
def movesL (g : GameD) (p : PosD) : List PosD := ((outsP g p).filter fun o => !mustP g p || o.took).map (·.pos) ++ (if mustP g p then [] else dropsP g p)
def movesP (g : GameD) (p : PosD) : List PosD := if 0 ≤ endedP g p then [] else sortU cmpP (movesL g p)
def walkP (g : GameD) : PosD → List Int → List PosD
  | p, [] => [p]
  | p, k :: l => if movesP g p = [] then [p] else p :: walkP g (nth (movesP g p) (k.emod (movesP g p).length).toNat) l
end Go.Av
end
section
set_option linter.unusedSimpArgs false
set_option linter.unusedVariables false
open Go Go.Proofs
namespace Go.Av
structure RawG where
  w : Int
  h : Int
  cut : Int
  k0 : List Int
  k1 : List Int
  c : List (Int × Int × Int)
  f0 : Int
  f1 : Int
  f2 : Int
  f3 : Int
  f4 : Int
  f5 : Int
def U8 (n : Int) : Prop := 0 ≤ n ∧ n ≤ 255
structure RawOk (x : RawG) : Prop where
  w : U8 x.w
  h : U8 x.h
  cut : U8 x.cut
  k0 : ∀ n ∈ x.k0, U8 n
  k1 : ∀ n ∈ x.k1, U8 n
  c : ∀ t ∈ x.c, U8 t.1 ∧ U8 t.2.1 ∧ U8 t.2.2
  f0 : U8 x.f0
  f1 : U8 x.f1
  f2 : U8 x.f2
  f3 : U8 x.f3
  f4 : U8 x.f4
  f5 : U8 x.f5
def encC3 (c : Int × Int × Int) : List AV := [.v (.int .u8 c.1), .v (.int .u8 c.2.1), .v (.int .u8 c.2.2)]
def encRaw (x : RawG) : List AV := [.v (.int .u8 x.w), .v (.int .u8 x.h), .v (.int .u8 x.cut), encUs x.k0, encUs x.k1, .lst 3 (x.c.map encC3),
  .v (.int .u8 x.f0), .v (.int .u8 x.f1), .v (.int .u8 x.f2), .v (.int .u8 x.f3), .v (.int .u8 x.f4), .v (.int .u8 x.f5)]
attribute [go_sem] encC3 encRaw
theorem bel_C3 {n : Nat} {l : List (Int × Int × Int)} : (∀ r ∈ l.map encC3, ∀ c ∈ r, Bel n c) = True := by
  refine eq_true ?_
  intro r hr c hc
  obtain ⟨x, _, rfl⟩ := List.mem_map.1 hr
  revert c
  simp [go_sem]
theorem bel_C3s {n : Nat} {l : List (Int × Int × Int)} : Bel n (.lst 3 (l.map encC3)) = True := by rw [Bel_lst, bel_C3]
theorem bel_K {n : Nat} {l : List KindD} : (∀ r ∈ l.map encKind, ∀ c ∈ r, Bel n c) = True := by
  refine eq_true ?_
  intro r hr c hc
  obtain ⟨x, _, rfl⟩ := List.mem_map.1 hr
  simp only [encKind, List.mem_cons, List.not_mem_nil, or_false] at hc
  rcases hc with rfl | rfl | rfl
  · exact .v _
  · refine .lst fun r hr c hc => ?_
    obtain ⟨p, _, rfl⟩ := List.mem_map.1 hr
    simp only [List.mem_cons, List.not_mem_nil, or_false] at hc
    subst hc
    exact of_eq_true bel_Prog
  · exact .v _
theorem bel_Ks {n : Nat} {l : List KindD} : Bel n (.lst 3 (l.map encKind)) = True := by rw [Bel_lst, bel_K]
theorem bel_Cl {n : Nat} {l : List (Int × Int × Int × Int)} : (∀ r ∈ l.map encClause, ∀ c ∈ r, Bel n c) = True := by
  refine eq_true ?_
  intro r hr c hc
  obtain ⟨x, _, rfl⟩ := List.mem_map.1 hr
  revert c
  simp [go_sem]
theorem bel_Cls {n : Nat} {l : List (Int × Int × Int × Int)} : Bel n (.lst 4 (l.map encClause)) = True := by rw [Bel_lst, bel_Cl]
theorem bel_Pr {n : Nat} {l : List (List (Int × Int))} : (∀ r ∈ l.map (fun p => [encProg p]), ∀ c ∈ r, Bel n c) = True := by
  refine eq_true ?_
  intro r hr c hc
  obtain ⟨p, _, rfl⟩ := List.mem_map.1 hr
  simp only [List.mem_cons, List.not_mem_nil, or_false] at hc
  subst hc
  exact of_eq_true bel_Prog
theorem bel_Prs {n : Nat} {l : List (List (Int × Int))} : Bel n (.lst 1 (l.map (fun p => [encProg p]))) = True := by rw [Bel_lst, bel_Pr]
attribute [go_sem high] bel_C3s bel_Ks bel_Cls bel_Prs
attribute [go_sem ↓] bel_C3 bel_K bel_Cl bel_Pr bel_P bel_I bel_St bel_Ou List.forall_mem_append
def nameA : ByteArray := ⟨#[97]⟩
def nameB : ByteArray := ⟨#[98, 101, 101]⟩
def bitU (f : Int) (i : Nat) : Bool := decide (andN .u8 (f.fdiv (2 ^ i)) 1 = 1)
def kindsN (x : RawG) : Nat := if x.k1 = [] then 1 else 2
def RawG.board (x : RawG) : BoardD := madeB x.w x.h x.cut
def RawG.rights (x : RawG) : Int := x.f0.tmod 3
def RawG.ks (x : RawG) (i : Nat) : List Int := if i = 0 then x.k0 else x.k1
def kindOf (x : RawG) (i : Nat) : KindD :=
  ⟨if i = 0 then nameA else nameB, ((x.ks i).take 4).map (fun n => madeP n x.board.next.length (kindsN x) x.rights), bitU x.f2 i⟩
def clauseOf (cells kinds : Int) (c : Int × Int × Int) : Int × Int × Int × Int :=
  (1 + c.1.tmod 3, (if 1 + c.1.tmod 3 ≠ 3 then c.2.1.tmod kinds else 0), (if 1 + c.1.tmod 3 = 2 then c.2.2.tmod cells else if 1 + c.1.tmod 3 = 3 then c.2.2.tmod 3 else 0), 1 + (c.1.tdiv 4).tmod 3)
def madeG (x : RawG) : GameD :=
  { cells := x.board.cells, next := x.board.next, turn := x.board.turn, kinds := (List.range (kindsN x)).map (kindOf x), rights := x.rights, must := decide (x.f1.tmod 4 = 3),
    clauses := (x.c.take 3).map (clauseOf x.board.cells (kindsN x)), blocked := if x.f3.tmod 4 = 3 then 1 + (x.f3.tdiv 4).tmod 3 else 3, endless := if x.f4.tmod 4 = 3 then 1 + (x.f4.tdiv 4).tmod 3 else 2 }
@[go_sem] theorem oneCell_string (s : ByteArray) : (Value.string s).oneCell' = true := rfl
def ksR (x : RawG) (i : Nat) : List (List AV) := ((List.range i).map (kindOf x)).map encKind
def kRow (k : KindD) : List AV := encKind k
theorem ksR_succ (x : RawG) (i : Nat) : ksR x (i + 1) = ksR x i ++ [kRow (kindOf x i)] := by simp [ksR, List.range_succ, kRow]
@[go_sem] theorem ksR_zero (x : RawG) : ksR x 0 = [] := rfl
@[go_sem] theorem ksR_len (x : RawG) (i : Nat) : (ksR x i).length = i := by simp [ksR]
@[go_sem ↓] theorem bel_ksR {n : Nat} {x : RawG} {i : Nat} : (∀ r ∈ ksR x i, ∀ c ∈ r, Bel n c) = True := bel_K
def psR (f : Int → List (Int × Int)) (l : List Int) (n : Nat) : List (List AV) := ((l.take n).map f).map fun p => [encProg p]
theorem psR_succ (f : Int → List (Int × Int)) (l : List Int) {n : Nat} (h : n < l.length) : psR f l (n + 1) = psR f l n ++ [[encProg (f (nth l n))]] := by
  unfold psR
  rw [List.take_add_one, List.getElem?_eq_getElem h, nth_eq _ _ h, Option.toList_some, List.map_append, List.map_append]
  rfl
theorem psR_len (f : Int → List (Int × Int)) (l : List Int) {n : Nat} (h : n ≤ l.length) : (psR f l n).length = n := by simp [psR]; omega
@[go_sem] theorem psR_zero (f : Int → List (Int × Int)) (l : List Int) : psR f l 0 = [] := rfl
@[go_sem ↓] theorem bel_psR {m : Nat} {f : Int → List (Int × Int)} {l : List Int} {n : Nat} : (∀ r ∈ psR f l n, ∀ c ∈ r, Bel m c) = True := bel_Pr
def clR (cells kinds : Int) (l : List (Int × Int × Int)) (n : Nat) : List (List AV) := ((l.take n).map (clauseOf cells kinds)).map encClause
def cRow (c : Int × Int × Int × Int) : List AV := encClause c
theorem clR_succ (cells kinds : Int) (l : List (Int × Int × Int)) {n : Nat} (h : n < l.length) : clR cells kinds l (n + 1) = clR cells kinds l n ++ [cRow (clauseOf cells kinds (nth l n))] := by
  unfold clR
  rw [List.take_add_one, List.getElem?_eq_getElem h, nth_eq _ _ h, Option.toList_some, List.map_append, List.map_append]
  rfl
theorem clR_len (cells kinds : Int) (l : List (Int × Int × Int)) {n : Nat} (h : n ≤ l.length) : (clR cells kinds l n).length = n := by simp [clR]; omega
@[go_sem] theorem clR_zero (cells kinds : Int) (l : List (Int × Int × Int)) : clR cells kinds l 0 = [] := rfl
@[go_sem ↓] theorem bel_clR {m : Nat} {cells kinds : Int} {l : List (Int × Int × Int)} {n : Nat} : (∀ r ∈ clR cells kinds l n, ∀ c ∈ r, Bel m c) = True := bel_Cl
theorem madeB_dirs (w h cut : Int) : (madeB w h cut).next.length = 8 := by
  unfold madeB
  split <;> simp [withoutB, withoutNext, gridB, gridNext]
theorem madeB_cells {w h : Int} (hw : 0 ≤ w) (hh : 0 ≤ h) (cut : Int) : 1 ≤ (madeB w h cut).cells ∧ (madeB w h cut).cells ≤ 9 := by
  have a0 := Int.tmod_nonneg 3 hw
  have a1 := Int.tmod_lt_of_pos w (show (0 : Int) < 3 by decide)
  have b0 := Int.tmod_nonneg 3 hh
  have b1 := Int.tmod_lt_of_pos h (show (0 : Int) < 3 by decide)
  have e : (madeB w h cut).cells = ((1 + w.tmod 3).toNat : Int) * ((1 + h.tmod 3).toNat : Int) := by
    unfold madeB
    split <;> simp [withoutB, gridB]
  rw [e]
  obtain ⟨W, hW⟩ : ∃ W : Nat, 1 + w.tmod 3 = W := ⟨(1 + w.tmod 3).toNat, by omega⟩
  obtain ⟨H, hH⟩ : ∃ H : Nat, 1 + h.tmod 3 = H := ⟨(1 + h.tmod 3).toNat, by omega⟩
  rw [hW, hH, Int.toNat_natCast, Int.toNat_natCast]
  rcases (show W = 1 ∨ W = 2 ∨ W = 3 by omega) with rfl | rfl | rfl <;> omega
end Go.Av
end
section
set_option linter.unusedSimpArgs false
set_option linter.unusedVariables false
open Go Go.Proofs
namespace Go.Av
@[go_sem ↓] theorem bel_setI {n k : Nat} {l : List Int} {v : Value} : (∀ r ∈ (l.map encI).set k [.v v], ∀ c ∈ r, Bel n c) = True := by
  refine eq_true fun r hr c hc => ?_
  rcases List.mem_or_eq_of_mem_set hr with hr | rfl
  · exact of_eq_true bel_I r hr c hc
  · simp only [List.mem_cons, List.not_mem_nil, or_false] at hc; subst hc; exact .v _
structure RawP where
  cell : List Int
  kind : List Int
  hand : List Int
  rights : Int
  side : Int
structure RawPOk (x : RawP) : Prop where
  c6 : x.cell.length = 6
  k6 : x.kind.length = 6
  h4 : x.hand.length = 4
  cv : ∀ n ∈ x.cell, U8 n
  kv : ∀ n ∈ x.kind, U8 n
  hv : ∀ n ∈ x.hand, U8 n
  r : U8 x.rights
  s : U8 x.side
def encRawP (x : RawP) : List AV := x.cell.map (fun n => .v (.int .u8 n)) ++ (x.kind.map (fun n => .v (.int .u8 n)) ++ (x.hand.map (fun n => .v (.int .u8 n)) ++ [.v (.int .u8 x.rights), .v (.int .u8 x.side)]))
theorem cel_u8 (l : List Int) (r : List AV) (i : Nat) (h : i < l.length) : cel (l.map (fun n => AV.v (.int .u8 n)) ++ r) i = .v (.int .u8 (nth l i)) := by
  unfold cel nth
  rw [List.getD_eq_getElem?_getD, List.getD_eq_getElem?_getD, List.getElem?_append_left (by simpa using h), List.getElem?_map, List.getElem?_eq_getElem h]
  rfl
theorem cel_u8s (l : List Int) (r : List AV) (i : Nat) : cel (l.map (fun n => AV.v (.int .u8 n)) ++ r) (l.length + i) = cel r i := by
  unfold cel
  rw [List.getD_eq_getElem?_getD, List.getD_eq_getElem?_getD, List.getElem?_append_right (by simp)]
  simp
structure RawRow (x : RawP) (er : List AV) : Prop where
  len : er.length = 18
  c : ∀ i, i < 6 → cel er i = .v (.int .u8 (nth x.cell i))
  k : ∀ i, i < 6 → cel er (6 + i) = .v (.int .u8 (nth x.kind i))
  h : ∀ i, i < 4 → cel er (12 + i) = .v (.int .u8 (nth x.hand i))
  r : cel er 16 = .v (.int .u8 x.rights)
  s : cel er 17 = .v (.int .u8 x.side)
  b : ∀ n, (∀ c ∈ er, Bel n c) = True
theorem rawRow {x : RawP} (hx : RawPOk x) : RawRow x (encRawP x) := by
  obtain ⟨a, b, c, _, _, _, _, _⟩ := hx
  have e1 : ∀ i, cel (encRawP x) (6 + i) = cel (x.kind.map (fun n => AV.v (.int .u8 n)) ++ (x.hand.map (fun n => AV.v (.int .u8 n)) ++ [.v (.int .u8 x.rights), .v (.int .u8 x.side)])) i := fun i => by
    have := cel_u8s x.cell (x.kind.map (fun n => .v (.int .u8 n)) ++ (x.hand.map (fun n => .v (.int .u8 n)) ++ [.v (.int .u8 x.rights), .v (.int .u8 x.side)])) i
    rw [a] at this; exact this
  have e2 : ∀ i, cel (encRawP x) (12 + i) = cel (x.hand.map (fun n => AV.v (.int .u8 n)) ++ [.v (.int .u8 x.rights), .v (.int .u8 x.side)]) i := fun i => by
    have := cel_u8s x.kind (x.hand.map (fun n => .v (.int .u8 n)) ++ [.v (.int .u8 x.rights), .v (.int .u8 x.side)]) i
    rw [b] at this
    rw [show 12 + i = 6 + (6 + i) by omega, e1, this]
  have e3 : ∀ i, cel (encRawP x) (16 + i) = cel [AV.v (.int .u8 x.rights), .v (.int .u8 x.side)] i := fun i => by
    have := cel_u8s x.hand [.v (.int .u8 x.rights), .v (.int .u8 x.side)] i
    rw [c] at this
    rw [show 16 + i = 12 + (4 + i) by omega, e2, this]
  refine ⟨by simp [encRawP, a, b, c], fun i hi => cel_u8 x.cell _ i (by omega), fun i hi => ?_, fun i hi => ?_, e3 0, e3 1, fun n => eq_true ?_⟩
  · rw [e1]; exact cel_u8 x.kind _ i (by omega)
  · rw [e2]; exact cel_u8 x.hand _ i (by omega)
  · intro c hc
    simp only [encRawP, List.mem_append, List.mem_map, List.mem_cons, List.not_mem_nil, or_false] at hc
    rcases hc with ⟨_, _, rfl⟩ | ⟨_, _, rfl⟩ | ⟨_, _, rfl⟩ | rfl | rfl <;> exact .v _
def atStep (g : GameD) (x : RawP) (l : List Int) (i : Nat) : List Int :=
  if (nth x.cell i).tmod (g.cells + 1) < g.cells then l.set ((nth x.cell i).tmod (g.cells + 1)).toNat (1 + 2 * (nth x.kind i).tmod g.kinds.length + (i : Int).tmod 2) else l
def madeAt (g : GameD) (x : RawP) (n : Nat) : List Int := (List.range n).foldl (atStep g x) (List.replicate g.cells.toNat 0)
theorem madeAt_succ (g : GameD) (x : RawP) (n : Nat) : madeAt g x (n + 1) = atStep g x (madeAt g x n) n := by simp [madeAt, List.range_succ]
theorem atStep_len (g : GameD) (x : RawP) (l : List Int) (i : Nat) : (atStep g x l i).length = l.length := by unfold atStep; split <;> simp
theorem madeAt_len (g : GameD) (x : RawP) (n : Nat) : (madeAt g x n).length = g.cells.toNat := by
  induction n with
  | zero => simp [madeAt]
  | succ n ih => rw [madeAt_succ, atStep_len, ih]
def handV (g : GameD) (x : RawP) (s k : Nat) : Int :=
  if (nth g.kinds k).keep = true then (if 250 < nth x.hand (2 * s + k) then 8 else (nth x.hand (2 * s + k)).tmod 3) else 0
def handL (g : GameD) (x : RawP) (s n : Nat) : List Int := (List.range g.kinds.length).map fun j => if j < n then handV g x s j else 0
theorem handL_len (g : GameD) (x : RawP) (s n : Nat) : (handL g x s n).length = g.kinds.length := by simp [handL]
theorem handL_zero (g : GameD) (x : RawP) (s : Nat) : handL g x s 0 = List.replicate g.kinds.length 0 := by
  unfold handL
  apply List.ext_getElem <;> simp
theorem handL_succ (g : GameD) (x : RawP) (s n : Nat) : handL g x s (n + 1) = (handL g x s n).set n (handV g x s n) := by
  apply List.ext_getElem
  · simp [handL]
  · intro i h1 h2
    simp only [handL, List.getElem_map, List.getElem_range, List.getElem_set]
    by_cases h : n = i
    · subst h; simp
    · rw [if_neg h]
      by_cases h' : i < n
      · rw [if_pos h', if_pos (by omega)]
      · rw [if_neg h', if_neg (by omega)]
theorem handL_skip (g : GameD) (x : RawP) (s n : Nat) (h : handV g x s n = 0) : handL g x s (n + 1) = handL g x s n := by
  unfold handL
  apply List.map_congr_left
  intro j _
  by_cases h' : j < n
  · rw [if_pos h', if_pos (by omega)]
  · rw [if_neg h']
    split
    · obtain rfl : j = n := by omega
      exact h
    · rfl
def madePos (g : GameD) (x : RawP) : PosD := ⟨madeAt g x 6, handL g x 0 (min g.kinds.length 2), handL g x 1 (min g.kinds.length 2), x.rights.tmod (2 ^ g.rights.toNat), x.side.tmod 2⟩
end Go.Av
end
section
set_option linter.unusedSimpArgs false
set_option linter.unusedVariables false
open Go Go.Proofs
namespace Go.Av
theorem nth_z {α : Type} [Inhabited α] (x : α) (l : List α) : nth (x :: l) 0 = x := rfl
theorem nth_s {α : Type} [Inhabited α] (x : α) (l : List α) (i : Nat) : nth (x :: l) (i + 1) = nth l i := rfl
theorem nth_setE {α : Type} [Inhabited α] (l : List α) (i j : Nat) (v : α) : nth (l.set i v) j = if i = j ∧ j < l.length then v else nth l j := by
  unfold nth
  rw [List.getD_eq_getElem?_getD, List.getD_eq_getElem?_getD, List.getElem?_set]
  by_cases h : i = j
  · subst h
    by_cases h2 : i < l.length
    · simp [h2]
    · simp [h2, List.getElem?_eq_none (Nat.not_lt.1 h2)]
  · simp [h]
structure HandOk (g : GameD) (l : List Int) : Prop where
  len : l.length = g.kinds.length
  v : ∀ i, i < l.length → 0 ≤ nth l i ∧ nth l i ≤ 8 ∧ (0 < nth l i → (nth g.kinds i).keep = true)
theorem handGo_iff : ∀ (l : List Int) (ks : List KindD), l.length = ks.length → (handGo l ks = true ↔ ∀ i, i < l.length → 0 ≤ nth l i ∧ nth l i ≤ 8 ∧ (0 < nth l i → (nth ks i).keep = true))
  | [], [], _ => by simp [handGo]
  | x :: l, k :: ks, h => by
    have ih := handGo_iff l ks (by simpa using h)
    rw [handGo]
    simp only [Bool.and_eq_true, decide_eq_true_eq, Bool.or_eq_true, Bool.not_eq_true']
    rw [ih]
    constructor
    · rintro ⟨⟨⟨h1, h2⟩, h3⟩, h4⟩ i hi
      cases i with
      | zero =>
        refine ⟨h1, h2, fun h => ?_⟩
        rcases h3 with h3 | h3
        · rw [nth_z] at h; simp at h3; omega
        · exact h3
      | succ i => exact h4 i (by simpa using hi)
    · intro h
      have h0 := h 0 (by simp)
      refine ⟨⟨⟨h0.1, h0.2.1⟩, ?_⟩, fun i hi => h (i + 1) (by simpa using hi)⟩
      by_cases hx : 0 < x
      · exact .inr (h0.2.2 hx)
      · exact .inl (by simpa using hx)
theorem handOk_iff {g : GameD} {l : List Int} : handOk g l = true ↔ HandOk g l := by
  unfold handOk
  rw [Bool.and_eq_true, decide_eq_true_eq]
  exact ⟨fun ⟨a, b⟩ => ⟨a, (handGo_iff _ _ a).1 b⟩, fun ⟨a, b⟩ => ⟨a, (handGo_iff _ _ a).2 b⟩⟩
structure POk (g : GameD) (p : PosD) : Prop where
  al : (p.at_.length : Int) = g.cells
  av : ∀ c ∈ p.at_, 0 ≤ c ∧ c ≤ 2 * g.kinds.length
  h0 : HandOk g p.h0
  h1 : HandOk g p.h1
  r0 : 0 ≤ p.rights
  r1 : p.rights < 2 ^ g.rights.toNat
  s : p.side = 0 ∨ p.side = 1
theorem pOk_iff {g : GameD} {p : PosD} : posOk g p = true ↔ POk g p := by
  rw [posOk_iff, handOk_iff, handOk_iff]
  exact ⟨fun ⟨a, b, c, d, e, f, g⟩ => ⟨a, b, c, d, e, f, g⟩, fun ⟨a, b, c, d, e, f, g⟩ => ⟨a, b, c, d, e, f, g⟩⟩
theorem POk.fits {g : GameD} (hg : GOk g) {p : PosD} (h : POk g p) : FitsP p := by
  have := hg.c9
  have := hg.k6
  have a := h.al
  have b := h.h0.len
  have c := h.h1.len
  unfold FitsP Fits
  omega
structure StOk (g : GameD) (s : StD) : Prop where
  p : POk g s.p
  c0 : 0 ≤ s.cursor
  c1 : s.cursor < g.cells
  k : 0 ≤ s.kind ∧ s.kind < g.kinds.length
/-! ### contents -/
theorem manOf_cases {c : Int} {K : Nat} (h0 : 0 ≤ c) (h1 : c ≤ 2 * K) (hK : K ≤ 6) :
    (c = 0 ∧ manOf c = (-1, -1)) ∨ (c ≠ 0 ∧ 0 ≤ (manOf c).1 ∧ (manOf c).1 < K ∧ ((manOf c).2 = 0 ∨ (manOf c).2 = 1) ∧ c = 1 + 2 * (manOf c).1 + (manOf c).2) := by
  unfold manOf
  by_cases hc : c = 0
  · left; rw [if_neg (by omega)]; exact ⟨hc, rfl⟩
  · right
    rw [if_pos (by omega)]
    have e1 : (c - 1).tdiv 2 = (c - 1) / 2 := Int.tdiv_eq_ediv_of_nonneg (by omega)
    have e2 : (c - 1).tmod 2 = (c - 1) % 2 := Int.tmod_eq_emod_of_nonneg (by omega)
    simp only [e1, e2]
    omega
theorem codeOf_ok {k s : Int} {K : Nat} (hk : 0 ≤ k ∧ k < K) (hK : K ≤ 6) (hs : s = 0 ∨ s = 1) : codeOf k s = 1 + 2 * k + s := by
  unfold codeOf
  rw [if_pos (by omega)]; omega
theorem andNot_small : ∀ (r : Fin 16) (m : Fin 4), 0 ≤ andNotN .i64 (r.val : Int) (2 ^ m.val) ∧ andNotN .i64 (r.val : Int) (2 ^ m.val) ≤ (r.val : Int) := by decide
theorem andNot_le {r : Int} {m : Nat} (h0 : 0 ≤ r) (h1 : r < 16) (hm : m < 4) : 0 ≤ andNotN .i64 r (2 ^ m) ∧ andNotN .i64 r (2 ^ m) ≤ r := by
  have := andNot_small ⟨r.toNat, by omega⟩ ⟨m, hm⟩
  simp only [Int.toNat_of_nonneg h0] at this
  exact this
theorem pow_le16 {r : Int} (h0 : 0 ≤ r) (h4 : r ≤ 4) : (1 : Int) ≤ 2 ^ r.toNat ∧ (2 : Int) ^ r.toNat ≤ 16 := by
  rcases (show r.toNat = 0 ∨ r.toNat = 1 ∨ r.toNat = 2 ∨ r.toNat = 3 ∨ r.toNat = 4 by omega) with h | h | h | h | h <;> rw [h] <;> decide
/-! ### lines -/
theorem lineGo_mem {b : BoardD} (hb : BoardOk b) {side d c : Int} : ∀ (f : Nat) (x : Int) (seen : List Int), x < b.cells → (∀ y ∈ seen, 0 ≤ y ∧ y < b.cells) → ∀ y ∈ lineGo b side d c f x seen, 0 ≤ y ∧ y < b.cells
  | 0, x, seen, _, h, y, hy => h y hy
  | f + 1, x, seen, hx, h, y, hy => by
    rw [lineGo] at hy
    split at hy
    · rename_i hc
      refine lineGo_mem hb f _ _ (toB_lt hb _ _ _) (fun z hz => ?_) y hy
      rcases List.mem_append.1 hz with hz | hz
      · exact h z hz
      · simp at hz; omega
    · exact h y hy
theorem lineB_mem {b : BoardD} (hb : BoardOk b) {side d c : Int} : ∀ y ∈ lineB b side d c, 0 ≤ y ∧ y < b.cells :=
  lineGo_mem hb _ _ _ (toB_lt hb _ _ _) (by simp)
theorem lineGo_len {b : BoardD} {side d c : Int} : ∀ (f : Nat) (x : Int) (seen : List Int), (lineGo b side d c f x seen).length ≤ seen.length + f
  | 0, x, seen => by simp [lineGo]
  | f + 1, x, seen => by
    rw [lineGo]
    split
    · have := lineGo_len (b := b) (side := side) (d := d) (c := c) f (toB b side d x) (seen ++ [x])
      simp at this; omega
    · omega
theorem lineB_len {b : BoardD} {side d c : Int} : (lineB b side d c).length ≤ b.cells.toNat + 1 := by
  have := lineGo_len (b := b) (side := side) (d := d) (c := c) (b.cells.toNat + 1) (toB b side d c) []
  simpa [lineB] using this
/-! ### positions -/
theorem POk.setAt {g : GameD} {p : PosD} (h : POk g p) (i : Nat) {v : Int} (hv : 0 ≤ v ∧ v ≤ 2 * g.kinds.length) : POk g { p with at_ := p.at_.set i v } :=
  ⟨by simpa using h.al, fun c hc => by rcases List.mem_or_eq_of_mem_set hc with hc | rfl; exact h.av c hc; exact hv, h.h0, h.h1, h.r0, h.r1, h.s⟩
theorem POk.hand {g : GameD} {p : PosD} (h : POk g p) (side : Int) : HandOk g (p.hand side) := by unfold PosD.hand; split; exact h.h0; exact h.h1
theorem POk.withHand {g : GameD} {p : PosD} (h : POk g p) (side : Int) {l : List Int} (hl : HandOk g l) : POk g (p.withHand side l) := by
  unfold PosD.withHand
  split
  · exact ⟨h.al, h.av, hl, h.h1, h.r0, h.r1, h.s⟩
  · exact ⟨h.al, h.av, h.h0, hl, h.r0, h.r1, h.s⟩
theorem HandOk.set {g : GameD} {l : List Int} (h : HandOk g l) (i : Nat) {v : Int} (hv : 0 ≤ v ∧ v ≤ 8) (hk : 0 < v → (nth g.kinds i).keep = true) : HandOk g (l.set i v) := by
  refine ⟨by simpa using h.len, fun j hj => ?_⟩
  have hj' : j < l.length := by simpa using hj
  rw [nth_setE]
  split
  · rename_i e
    obtain ⟨rfl, _⟩ := e
    exact ⟨hv.1, hv.2, hk⟩
  · exact h.v j hj'
theorem POk.at {g : GameD} {p : PosD} (h : POk g p) {i : Nat} (hi : (i : Int) < g.cells) : 0 ≤ nth p.at_ i ∧ nth p.at_ i ≤ 2 * g.kinds.length :=
  h.av _ (nth_mem (by have := h.al; omega))
theorem POk.side {g : GameD} {p : PosD} (h : POk g p) {s : Int} (hs : s = 0 ∨ s = 1) : POk g { p with side := s } := ⟨h.al, h.av, h.h0, h.h1, h.r0, h.r1, hs⟩
theorem withHand_side (p : PosD) (s : Int) (l : List Int) : (p.withHand s l).side = p.side := by unfold PosD.withHand; split <;> rfl
theorem clr_side (p : PosD) (c : Int) : (clr p c).side = p.side := rfl
theorem POk.clr {g : GameD} {p : PosD} (h : POk g p) (c : Int) : POk g (clr p c) := h.setAt _ (by omega)
theorem slideGo_ok {g : GameD} {s : StD} (h : StOk g s) : ∀ {l : List Int}, (∀ y ∈ l, 0 ≤ y ∧ y < g.cells) → ∀ t ∈ slideGo s l, StOk g t ∧ t.p.side = s.p.side
  | [], _, t, ht => by simp [slideGo] at ht
  | c :: l, hl, t, ht => by
    rw [slideGo, List.mem_cons] at ht
    rcases ht with rfl | ht
    · have := hl c (by simp)
      exact ⟨⟨h.p, this.1, this.2, h.k⟩, rfl⟩
    · split at ht
      · exact slideGo_ok h (fun y hy => hl y (List.mem_cons_of_mem _ hy)) t ht
      · simp at ht
theorem slideGo_len {s : StD} : ∀ (l : List Int), (slideGo s l).length ≤ l.length
  | [] => by simp [slideGo]
  | c :: l => by
    rw [slideGo]
    have := slideGo_len (s := s) l
    split <;> simp <;> omega
theorem stepS_ok {g : GameD} (hg : GOk g) {s : StD} (h : StOk g s) {x : Int × Int} (hx : StepOk g.next.length g.kinds.length g.rights x) : ∀ t ∈ stepS g s x, StOk g t ∧ t.p.side = s.p.side := by
  intro t ht
  have hb := hg.board
  have hcur : (s.cursor.toNat : Int) < g.cells := by have := h.c0; have := h.c1; omega
  have hat := h.p.at hcur
  have only : ∀ {u : StD} {b : Bool}, t ∈ onlyS u b → b = true ∧ t = u := fun {u b} hu => by
    unfold onlyS at hu
    split at hu
    · rename_i hb'; exact ⟨hb', by simpa using hu⟩
    · simp at hu
  have hbc : g.board.cells = g.cells := rfl
  unfold stepS at ht
  simp only at ht
  split at ht
  · obtain ⟨h1, rfl⟩ := only ht
    have := toB_lt hb s.p.side x.2 s.cursor
    exact ⟨⟨h.p, by simpa using h1, by rw [hbc] at this; exact this, h.k⟩, rfl⟩
  split at ht
  · exact slideGo_ok h (fun y hy => lineB_mem hb y hy) t ht
  split at ht
  · obtain ⟨h1, rfl⟩ := only ht; exact ⟨h, rfl⟩
  split at ht
  · obtain ⟨h1, rfl⟩ := only ht; exact ⟨h, rfl⟩
  split at ht
  · obtain ⟨h1, rfl⟩ := only ht; exact ⟨h, rfl⟩
  split at ht
  · unfold takeS at ht
    simp only at ht
    split at ht
    · simp at ht
    · rename_i hm
      split at ht
      · rename_i hkeep
        split at ht
        · simp at ht
        · rename_i h8
          simp only [List.mem_singleton] at ht
          subst ht
          refine ⟨⟨(h.p.clr _).withHand _ ((h.p.hand _).set _ ?_ (fun _ => hkeep)), h.c0, h.c1, h.k⟩, withHand_side _ _ _⟩
          have hh := h.p.hand s.p.side
          rcases manOf_cases hat.1 hat.2 hg.k6 with ⟨e, e2⟩ | ⟨e, e2, e3, _⟩
          · rw [e2] at hm; simp at hm
          · have := hh.v (manOf (nth s.p.at_ s.cursor.toNat)).1.toNat (by rw [hh.len]; omega)
            omega
      · simp only [List.mem_singleton] at ht
        subst ht
        exact ⟨⟨h.p.clr _, h.c0, h.c1, h.k⟩, rfl⟩
  split at ht
  · unfold pushS at ht
    simp only at ht
    split at ht
    · simp at ht
    · simp only [List.mem_singleton] at ht
      subst ht
      exact ⟨⟨(h.p.setAt _ hat).setAt _ (by omega), h.c0, h.c1, h.k⟩, rfl⟩
  split at ht
  · rename_i e
    simp only [List.mem_singleton] at ht
    subst ht
    exact ⟨⟨h.p, h.c0, h.c1, hx.kind e⟩, rfl⟩
  split at ht
  · obtain ⟨h1, rfl⟩ := only ht; exact ⟨h, rfl⟩
  split at ht
  · rename_i e
    simp only [List.mem_singleton] at ht
    subst ht
    have hr := hx.right (.inr e)
    have hp := pow_le16 hg.r0 hg.r4
    have a := h.p.r0
    have b := h.p.r1
    have c := hg.r4
    obtain ⟨k1, k2⟩ := andNot_le (r := s.p.rights) (m := x.2.toNat) a (by omega) (by omega)
    exact ⟨⟨⟨h.p.al, h.p.av, h.p.h0, h.p.h1, k1, by simp only; omega, h.p.s⟩, h.c0, h.c1, h.k⟩, rfl⟩
  · simp only [List.mem_singleton] at ht
    subst ht
    exact ⟨h, rfl⟩
theorem stepS_len {g : GameD} (hg : GOk g) (s : StD) (x : Int × Int) : (stepS g s x).length ≤ 10 := by
  have c9 := hg.c9
  have on : ∀ (u : StD) (b : Bool), (onlyS u b).length ≤ 10 := fun u b => by unfold onlyS; split <;> simp
  unfold stepS
  simp only
  split; exact on _ _
  split
  · have h1 := slideGo_len (s := s) (lineB g.board s.p.side x.2 s.cursor)
    have h2 := lineB_len (b := g.board) (side := s.p.side) (d := x.2) (c := s.cursor)
    have : g.board.cells = g.cells := rfl
    unfold slideS; omega
  split; exact on _ _
  split; exact on _ _
  split; exact on _ _
  split
  · unfold takeS; simp only; (repeat' split) <;> simp
  split
  · unfold pushS; simp only; (repeat' split) <;> simp
  split; simp
  split; exact on _ _
  split <;> simp
end Go.Av
end
section
set_option linter.unusedSimpArgs false
set_option linter.unusedVariables false
set_option maxRecDepth 8000
open Go Go.Proofs
namespace Go.Av
/-- what a program of the library is made of -/
structure LibOk (p : List (Int × Int)) : Prop where
  len : p.length ≤ 6
  st : ∀ x ∈ p, 1 ≤ x.1 ∧ x.1 ≤ 10 ∧ 0 ≤ x.2 ∧ (x.1 = 3 ∨ x.1 = 4 ∨ x.1 = 5 ∨ x.1 = 6 → x.2 = 0)
  take : countOp p 6 ≤ 2
  push : countOp p 7 ≤ 1
  become : countOp p 8 ≤ 1
theorem libL_ok {d e k r : Int} (hd : 0 ≤ d) (he : 0 ≤ e) (hk : 0 ≤ k) (hr : 0 ≤ r) (i : Nat) : LibOk (nth (libL d e k r) i) := by
  have h4 := Int.tmod_nonneg 8 (show 0 ≤ d + 4 by omega)
  rcases Nat.lt_or_ge i 16 with h | h
  · have : ∀ p ∈ libL d e k r, LibOk p := by
      intro p hp
      simp only [libL, List.mem_cons, List.not_mem_nil, or_false] at hp
      rcases hp with rfl | rfl | rfl | rfl | rfl | rfl | rfl | rfl | rfl | rfl | rfl | rfl | rfl | rfl | rfl | rfl <;>
        exact ⟨by simp, by simp <;> omega, by simp [countOp], by simp [countOp], by simp [countOp]⟩
    exact this _ (nth_mem h)
  · have e : nth (libL d e k r) i = [] := by
      unfold nth
      rw [List.getD_eq_getElem?_getD, List.getElem?_eq_none (by exact h)]; rfl
    rw [e]
    exact ⟨by simp, by simp, by simp [countOp], by simp [countOp], by simp [countOp]⟩
theorem fitStep_op {dirs kinds rights : Int} {x y : Int × Int} (h : fitStep dirs kinds rights x = some y) : y.1 = x.1 := by
  unfold fitStep at h
  split at h
  · simp only [Option.some.injEq] at h; rw [← h]
  · split at h
    · simp only [Option.some.injEq] at h; rw [← h]
    · split at h
      · split at h
        · cases h
        · simp only [Option.some.injEq] at h; rw [← h]
      · simp only [Option.some.injEq] at h; rw [← h]
theorem fit_count {dirs kinds rights : Int} (op : Int) : ∀ p : List (Int × Int), countOp (p.filterMap (fitStep dirs kinds rights)) op ≤ countOp p op
  | [] => by simp [countOp]
  | x :: p => by
    have ih := fit_count (dirs := dirs) (kinds := kinds) (rights := rights) op p
    unfold countOp at *
    rw [List.filterMap_cons]
    cases hf : fitStep dirs kinds rights x with
    | none => simp only [List.countP_cons]; omega
    | some y =>
      have := fitStep_op hf
      simp only [List.countP_cons, this]
      omega
theorem fitP_ok {dirs kinds rights : Int} (hd : 1 ≤ dirs) (hk : 1 ≤ kinds) (hr : 0 ≤ rights) {p : List (Int × Int)} (hp : LibOk p) : ProgOk dirs kinds rights (fitP dirs kinds rights p) := by
  have h0 : ProgOk dirs kinds rights [(3, 0)] := by
    refine ⟨by simp, by simp, fun x hx => ?_, by simp [countOp], by simp [countOp], by simp [countOp]⟩
    simp only [List.mem_singleton] at hx
    subst hx
    exact ⟨by simp, by simp, by simp, by simp, by simp⟩
  unfold fitP
  split
  · exact h0
  · rename_i hne
    have hl : (p.filterMap (fitStep dirs kinds rights)).length ≤ p.length := List.length_filterMap_le _ _
    have hpos := List.length_pos_iff.2 hne
    refine ⟨by omega, by have := hp.len; omega, fun y hy => ?_, Nat.le_trans (fit_count 6 p) hp.take, Nat.le_trans (fit_count 7 p) hp.push, Nat.le_trans (fit_count 8 p) hp.become⟩
    obtain ⟨x, hx, hf⟩ := List.mem_filterMap.1 hy
    obtain ⟨a, b, c, d⟩ := hp.st x hx
    have m1 := Int.tmod_nonneg dirs c
    have m2 := Int.tmod_lt_of_pos x.2 (show 0 < dirs by omega)
    have m3 := Int.tmod_nonneg kinds c
    have m4 := Int.tmod_lt_of_pos x.2 (show 0 < kinds by omega)
    have m5 := Int.tmod_nonneg rights c
    unfold fitStep at hf
    split at hf
    · simp only [Option.some.injEq] at hf; subst hf
      exact ⟨by simp only; omega, by simp only; omega, by simp only; omega, by simp only; omega, by simp only; omega⟩
    · split at hf
      · simp only [Option.some.injEq] at hf; subst hf
        exact ⟨by simp only; omega, by simp only; omega, by simp only; omega, by simp only; omega, by simp only; omega⟩
      · split at hf
        · split at hf
          · cases hf
          · rename_i hr0
            have m6 := Int.tmod_lt_of_pos x.2 (show 0 < rights by omega)
            simp only [Option.some.injEq] at hf; subst hf
            exact ⟨by simp only; omega, by simp only; omega, by simp only; omega, by simp only; omega, by simp only; omega⟩
        · simp only [Option.some.injEq] at hf; subst hf
          exact ⟨by omega, by omega, by omega, by omega, by omega⟩
theorem madeP_ok {n dirs kinds rights : Int} (hn : U8 n) (hd : 1 ≤ dirs) (hk : 1 ≤ kinds) (hr : 0 ≤ rights) : ProgOk dirs kinds rights (madeP n dirs kinds rights) := by
  obtain ⟨n0, n1⟩ := hn
  have q0 : 0 ≤ n.tdiv 16 := by rw [Int.tdiv_eq_ediv_of_nonneg n0]; omega
  have q1 : 0 ≤ n.tdiv 3 := by rw [Int.tdiv_eq_ediv_of_nonneg n0]; omega
  have q2 := Int.tmod_nonneg 5 n0
  exact fitP_ok hd hk hr (libL_ok (Int.tmod_nonneg _ q0) (Int.tmod_nonneg _ (by omega)) (Int.tmod_nonneg _ q1) (Int.tmod_nonneg _ n0) _)
theorem madeB_turn (w h cut : Int) (d : Nat) (hd : d < (madeB w h cut).turn.length) : nth (madeB w h cut).turn (nth (madeB w h cut).turn d).toNat = d := by
  have ht : (madeB w h cut).turn = gridTurn 8 := by unfold madeB; split <;> rfl
  rw [ht] at hd ⊢
  have h8 : d < 8 := by simpa [gridTurn] using hd
  have : ∀ d : Fin 8, nth (gridTurn 8) (nth (gridTurn 8) d.val).toNat = (d.val : Int) := by decide
  exact this ⟨d, h8⟩
theorem madeG_ok {x : RawG} (hx : RawOk x) : GOk (madeG x) := by
  have hb : BoardOk x.board := boardOk_made hx.w.1 hx.h.1 x.cut
  have hc := madeB_cells hx.w.1 hx.h.1 x.cut
  have hd : x.board.next.length = 8 := madeB_dirs x.w x.h x.cut
  have hK : kindsN x = 1 ∨ kindsN x = 2 := by unfold kindsN; split <;> simp
  have hkl : (madeG x).kinds.length = kindsN x := by simp [madeG]
  have r0 : 0 ≤ x.rights := Int.tmod_nonneg 3 hx.f0.1
  have r1 : x.rights < 3 := Int.tmod_lt_of_pos x.f0 (show (0 : Int) < 3 by decide)
  have t : ∀ n : Int, U8 n → 0 ≤ (n.tdiv 4).tmod 3 ∧ (n.tdiv 4).tmod 3 < 3 := fun n hn => by
    have : 0 ≤ n.tdiv 4 := by rw [Int.tdiv_eq_ediv_of_nonneg hn.1]; have := hn.1; omega
    exact ⟨Int.tmod_nonneg 3 this, Int.tmod_lt_of_pos _ (by decide)⟩
  have t3 := t _ hx.f3
  have t4 := t _ hx.f4
  have hcl : x.board.cells = (madeG x).cells := rfl
  have hc' : 1 ≤ x.board.cells ∧ x.board.cells ≤ 9 := hc
  refine ⟨hb, hc'.1, hc'.2, by show 1 ≤ x.board.next.length; omega, by show x.board.next.length ≤ 8; omega, madeB_turn x.w x.h x.cut, by omega, by omega, fun k hk => ?_, fun k hk p hp => ?_, r0, ?_, fun c hcm => ?_, ?_, ?_, ?_⟩
  · obtain ⟨i, _, rfl⟩ := List.mem_map.1 hk
    simp only [kindOf, List.length_map, List.length_take]; omega
  · rw [hkl]
    obtain ⟨i, _, rfl⟩ := List.mem_map.1 hk
    obtain ⟨n, hn, rfl⟩ := List.mem_map.1 hp
    have hn' := List.mem_of_mem_take hn
    have hu : U8 n := by
      unfold RawG.ks at hn'
      split at hn'
      · exact hx.k0 n hn'
      · exact hx.k1 n hn'
    exact madeP_ok hu (show (1 : Int) ≤ x.board.next.length by omega) (show (1 : Int) ≤ kindsN x by omega) r0
  · show x.rights ≤ 4; omega
  · rw [hkl]
    obtain ⟨c0, h0, rfl⟩ := List.mem_map.1 hcm
    obtain ⟨u0, u1, u2⟩ := hx.c _ (List.mem_of_mem_take h0)
    have a0 := Int.tmod_nonneg 3 u0.1
    have a1 := Int.tmod_lt_of_pos c0.1 (show (0 : Int) < 3 by decide)
    have b0 := Int.tmod_nonneg (kindsN x : Int) u1.1
    have b1 := Int.tmod_lt_of_pos c0.2.1 (show (0 : Int) < kindsN x by omega)
    have d0 := Int.tmod_nonneg x.board.cells u2.1
    have d1 := Int.tmod_lt_of_pos c0.2.2 (show (0 : Int) < x.board.cells by omega)
    have e0 := Int.tmod_nonneg 3 u2.1
    have e1 := Int.tmod_lt_of_pos c0.2.2 (show (0 : Int) < 3 by decide)
    have t0 := t _ u0
    rw [← hcl]
    refine ⟨?_, ?_, ?_, ?_, ?_⟩ <;> simp only [clauseOf]
    · omega
    · split <;> omega
    · split
      · omega
      · split <;> omega
    · omega
    · intro h; rw [if_neg (by omega)]
  · show ((x.c.take 3).map _).length ≤ 6
    simp; omega
  · show 1 ≤ (if x.f3.tmod 4 = 3 then 1 + (x.f3.tdiv 4).tmod 3 else 3) ∧ (if x.f3.tmod 4 = 3 then 1 + (x.f3.tdiv 4).tmod 3 else 3) ≤ 3
    split <;> omega
  · show 1 ≤ (if x.f4.tmod 4 = 3 then 1 + (x.f4.tdiv 4).tmod 3 else 2) ∧ (if x.f4.tmod 4 = 3 then 1 + (x.f4.tdiv 4).tmod 3 else 2) ≤ 3
    split <;> omega
theorem madePos_ok {g : GameD} (hg : GOk g) {x : RawP} (hx : RawPOk x) : POk g (madePos g x) := by
  have c1 := hg.c1
  have k1 := hg.k1
  have hat : ∀ n, n ≤ 6 → ∀ c ∈ madeAt g x n, 0 ≤ c ∧ c ≤ 2 * g.kinds.length := by
    intro n
    induction n with
    | zero => intro _ c hc; simp [madeAt] at hc; omega
    | succ n ih =>
      intro hn c hc
      rw [madeAt_succ] at hc
      unfold atStep at hc
      split at hc
      · rcases List.mem_or_eq_of_mem_set hc with hc | rfl
        · exact ih (by omega) c hc
        · have hkv : U8 (nth x.kind n) := hx.kv _ (nth_mem (by rw [hx.k6]; omega))
          have a := Int.tmod_nonneg (g.kinds.length : Int) hkv.1
          have b := Int.tmod_lt_of_pos (nth x.kind n) (show (0 : Int) < g.kinds.length by omega)
          have c := Int.tmod_nonneg 2 (show (0 : Int) ≤ n by omega)
          have d := Int.tmod_lt_of_pos (n : Int) (show (0 : Int) < 2 by decide)
          omega
      · exact ih (by omega) c hc
  have hh : ∀ s, s < 2 → HandOk g (handL g x s (min g.kinds.length 2)) := by
    intro s hs
    refine ⟨handL_len _ _ _ _, fun i hi => ?_⟩
    rw [handL_len] at hi
    have e : nth (handL g x s (min g.kinds.length 2)) i = if i < min g.kinds.length 2 then handV g x s i else 0 := by
      unfold handL
      rw [nth_map _ _ _ (by simpa using hi)]
      simp [nth, hi]
    rw [e]
    split
    · have hv : U8 (nth x.hand (2 * s + i)) := hx.hv _ (nth_mem (by rw [hx.h4]; omega))
      have a := Int.tmod_nonneg 3 hv.1
      have b := Int.tmod_lt_of_pos (nth x.hand (2 * s + i)) (show (0 : Int) < 3 by decide)
      unfold handV
      split
      · rename_i hk
        split <;> exact ⟨by omega, by omega, fun _ => hk⟩
      · exact ⟨by omega, by omega, fun h => by omega⟩
    · exact ⟨by omega, by omega, fun h => by omega⟩
  have hp := pow_le16 hg.r0 hg.r4
  refine ⟨?_, hat 6 (Nat.le_refl _), hh 0 (by omega), hh 1 (by omega), Int.tmod_nonneg _ hx.r.1, Int.tmod_lt_of_pos _ (by omega), ?_⟩
  · show ((madeAt g x 6).length : Int) = g.cells
    rw [madeAt_len]; omega
  · have a := Int.tmod_nonneg 2 hx.s.1
    have b := Int.tmod_lt_of_pos x.side (show (0 : Int) < 2 by decide)
    show x.side.tmod 2 = 0 ∨ x.side.tmod 2 = 1
    omega
end Go.Av
end
section
set_option linter.unusedSimpArgs false
set_option linter.unusedVariables false
open Go Go.Proofs
namespace Go.Av
abbrev ActD := Int × Int × Int
structure PathD where
  acts : List ActD
  to : Int
  deriving DecidableEq
instance : Inhabited PathD := ⟨⟨[], 0⟩⟩
def encAct (a : ActD) : List AV := [.v (.int .i64 a.1), .v (.int .i64 a.2.1), .v (.int .i64 a.2.2)]
def encAs (l : List ActD) : AV := .lst 3 (l.map encAct)
def encPath (p : PathD) : List AV := [encAs p.acts, .v (.int .i64 p.to)]
def encPt (l : List PathD) : AV := .lst 2 (l.map encPath)
def encCells (l : List (List PathD)) : AV := .lst 1 (l.map fun x => [encPt x])
def encSide (l : List (List (List PathD))) : AV := .lst 1 (l.map fun x => [encCells x])
abbrev CodeD := List (List (List PathD)) × List (List (List PathD))
def encCode (c : CodeD) : List AV := [encSide c.1, encSide c.2]
attribute [go_sem] encAct encAs encPath encPt encCells encSide encCode
theorem bel_A {n : Nat} {l : List ActD} : (∀ r ∈ l.map encAct, ∀ c ∈ r, Bel n c) = True := by
  refine eq_true ?_
  intro r hr c hc
  obtain ⟨x, _, rfl⟩ := List.mem_map.1 hr
  revert c
  simp [go_sem]
theorem bel_As {n : Nat} {l : List ActD} : Bel n (.lst 3 (l.map encAct)) = True := by rw [Bel_lst, bel_A]
theorem bel_Pa {n : Nat} {l : List PathD} : (∀ r ∈ l.map encPath, ∀ c ∈ r, Bel n c) = True := by
  refine eq_true ?_
  intro r hr c hc
  obtain ⟨x, _, rfl⟩ := List.mem_map.1 hr
  simp only [encPath, encAs, List.mem_cons, List.not_mem_nil, or_false] at hc
  rcases hc with rfl | rfl
  · exact of_eq_true bel_As
  · exact .v _
theorem bel_Pas {n : Nat} {l : List PathD} : Bel n (.lst 2 (l.map encPath)) = True := by rw [Bel_lst, bel_Pa]
theorem bel_Ce {n : Nat} {l : List (List PathD)} : (∀ r ∈ l.map (fun x => [AV.lst 2 (x.map encPath)]), ∀ c ∈ r, Bel n c) = True := by
  refine eq_true ?_
  intro r hr c hc
  obtain ⟨x, _, rfl⟩ := List.mem_map.1 hr
  simp only [List.mem_cons, List.not_mem_nil, or_false] at hc
  subst hc
  exact of_eq_true bel_Pas
theorem bel_Ces {n : Nat} {l : List (List PathD)} : Bel n (.lst 1 (l.map (fun x => [AV.lst 2 (x.map encPath)]))) = True := by rw [Bel_lst, bel_Ce]
theorem bel_Si {n : Nat} {l : List (List (List PathD))} : (∀ r ∈ l.map (fun x => [AV.lst 1 (x.map (fun x => [AV.lst 2 (x.map encPath)]))]), ∀ c ∈ r, Bel n c) = True := by
  refine eq_true ?_
  intro r hr c hc
  obtain ⟨x, _, rfl⟩ := List.mem_map.1 hr
  simp only [List.mem_cons, List.not_mem_nil, or_false] at hc
  subst hc
  exact of_eq_true bel_Ces
theorem bel_Sis {n : Nat} {l : List (List (List PathD))} : Bel n (.lst 1 (l.map (fun x => [AV.lst 1 (x.map (fun x => [AV.lst 2 (x.map encPath)]))]))) = True := by rw [Bel_lst, bel_Si]
attribute [go_sem high] bel_As bel_Pas bel_Ces bel_Sis
attribute [go_sem ↓] bel_A bel_Pa bel_Ce bel_Si
/-! ### paths -/
def onP (p : PathD) (to : Int) (more : List ActD) : PathD := ⟨p.acts ++ more, to⟩
def slideP (p : PathD) : List Int → List ActD → List PathD
  | [], _ => []
  | c :: l, passed => onP p c passed :: slideP p l (passed ++ [(3, c, 0)])
def extP (b : BoardD) (side : Int) (p : PathD) (x : Int × Int) : List PathD :=
  if x.1 = 1 ∨ x.1 = 7 then
    if toB b side x.2 p.to < 0 then [] else if x.1 = 1 then [onP p (toB b side x.2 p.to) []] else [onP p p.to [(7, p.to, toB b side x.2 p.to)]]
  else if x.1 = 2 then slideP p (lineB b side x.2 p.to) []
  else if x.1 = 8 ∨ x.1 = 9 ∨ x.1 = 10 then [onP p p.to [(x.1, x.2, 0)]]
  else [onP p p.to [(x.1, p.to, 0)]]
def stepP (b : BoardD) (side : Int) (now : List PathD) (x : Int × Int) : List PathD := now.flatMap fun w => extP b side w x
def pathsP (b : BoardD) (side : Int) (prog : List (Int × Int)) (cell : Int) : List PathD := prog.foldl (stepP b side) [⟨[], cell⟩]
def kindP (b : BoardD) (side : Int) (progs : List (List (Int × Int))) (cell : Int) : List PathD := progs.flatMap fun p => pathsP b side p cell
def cellsP (b : BoardD) (side : Int) (progs : List (List (Int × Int))) : List (List PathD) := (List.range b.cells.toNat).map fun (c : Nat) => kindP b side progs c
def sideP (g : GameD) (side : Int) : List (List (List PathD)) := g.kinds.map fun k => cellsP g.board side k.progs
def codeP (g : GameD) : CodeD := (sideP g 0, sideP g 1)
/-! ### lengths -/
theorem lineGo_nodup {b : BoardD} {side d c : Int} : ∀ (f : Nat) (x : Int) (seen : List Int), seen.Nodup → (lineGo b side d c f x seen).Nodup
  | 0, x, seen, h => by simpa [lineGo] using h
  | f + 1, x, seen, h => by
    rw [lineGo]
    split
    · rename_i hc
      refine lineGo_nodup f _ _ (List.nodup_append.2 ⟨h, by simp, ?_⟩)
      intro y hy z hz
      simp at hz
      subst hz
      rintro rfl
      exact hc.2.2 hy
    · exact h
theorem lineB_le {b : BoardD} (hb : BoardOk b) {side d c : Int} : (lineB b side d c).length ≤ b.cells.toNat :=
  nodup_le _ _ (lineGo_nodup _ _ _ (by simp)) (fun y hy => by have := lineB_mem hb y hy; have := hb.c0; omega)
theorem slideP_len (p : PathD) : ∀ (l : List Int) (passed : List ActD), (slideP p l passed).length = l.length
  | [], _ => rfl
  | c :: l, passed => by simp [slideP, slideP_len p l]
theorem slideP_mem {p w : PathD} : ∀ {l : List Int} {passed : List ActD}, w ∈ slideP p l passed → ∃ more, w.acts = p.acts ++ passed ++ more ∧ more.length ≤ l.length ∧ w.to ∈ l ∧ ∀ a ∈ more, ∃ c ∈ l, a = (3, c, 0)
  | [], _, h => by simp [slideP] at h
  | c :: l, passed, h => by
    simp only [slideP, List.mem_cons] at h
    rcases h with rfl | h
    · exact ⟨[], by simp [onP], by simp, by simp [onP], by simp⟩
    · obtain ⟨more, h1, h2, h3, h4⟩ := slideP_mem h
      refine ⟨(3, c, 0) :: more, by rw [h1]; simp, by simp; omega, List.mem_cons_of_mem _ h3, fun a ha => ?_⟩
      rcases List.mem_cons.1 ha with rfl | ha
      · exact ⟨c, by simp, rfl⟩
      · obtain ⟨c', hc, e⟩ := h4 a ha
        exact ⟨c', List.mem_cons_of_mem _ hc, e⟩
theorem extP_len {b : BoardD} (hb : BoardOk b) (h1 : 1 ≤ b.cells) (side : Int) (p : PathD) (x : Int × Int) : (extP b side p x).length ≤ if x.1 = 2 then b.cells.toNat else 1 := by
  unfold extP
  by_cases h2 : x.1 = 2
  · rw [if_neg (by omega), if_pos h2, if_pos h2, slideP_len]
    exact lineB_le hb
  · rw [if_neg h2, if_neg h2]
    split
    · split
      · simp
      · split <;> simp
    · split <;> simp
theorem flatMap_le {α β : Type} (f : α → List β) (m : Nat) : ∀ (l : List α), (∀ x ∈ l, (f x).length ≤ m) → (l.flatMap f).length ≤ l.length * m
  | [], _ => by simp
  | x :: l, h => by
    have a := h x (by simp)
    have b := flatMap_le f m l (fun y hy => h y (by simp [hy]))
    simp only [List.flatMap_cons, List.length_append, List.length_cons, Nat.add_mul, Nat.one_mul]
    omega
theorem stepP_len {b : BoardD} (hb : BoardOk b) (h1 : 1 ≤ b.cells) (side : Int) (now : List PathD) (x : Int × Int) : (stepP b side now x).length ≤ now.length * if x.1 = 2 then b.cells.toNat else 1 :=
  flatMap_le _ _ _ (fun w _ => extP_len hb h1 side w x)
theorem foldP_len {b : BoardD} (hb : BoardOk b) (h1 : 1 ≤ b.cells) (side : Int) : ∀ (prog : List (Int × Int)) (now : List PathD), (prog.foldl (stepP b side) now).length ≤ now.length * b.cells.toNat ^ countOp prog 2
  | [], now => by simp [countOp]
  | x :: prog, now => by
    have h := foldP_len hb h1 side prog (stepP b side now x)
    have k := stepP_len hb h1 side now x
    rw [List.foldl_cons]
    refine Nat.le_trans h ?_
    refine Nat.le_trans (Nat.mul_le_mul_right _ k) ?_
    unfold countOp at *
    rw [List.countP_cons, Nat.mul_assoc]
    refine Nat.mul_le_mul_left _ ?_
    by_cases h2 : x.1 = 2
    · simp [h2, Nat.pow_succ, Nat.mul_comm]
    · simp [h2]
theorem pathsP_len {b : BoardD} (hb : BoardOk b) (h1 : 1 ≤ b.cells) (side : Int) (prog : List (Int × Int)) (cell : Int) : (pathsP b side prog cell).length ≤ b.cells.toNat ^ countOp prog 2 := by
  have := foldP_len hb h1 side prog [⟨[], cell⟩]
  simpa [pathsP] using this
/-- the acts of a path: not more than 10 a step -/
def ActsLe (n : Nat) (l : List PathD) : Prop := ∀ w ∈ l, w.acts.length ≤ n
theorem extP_acts {b : BoardD} (hb : BoardOk b) (h9 : b.cells ≤ 9) (side : Int) (p : PathD) (x : Int × Int) : ActsLe (p.acts.length + 10) (extP b side p x) := by
  intro w hw
  unfold extP at hw
  split at hw
  · split at hw
    · simp at hw
    · split at hw <;> simp only [List.mem_singleton] at hw <;> subst hw <;> simp [onP]
  · split at hw
    · obtain ⟨more, e1, e2, _, _⟩ := slideP_mem hw
      have := lineB_le hb (side := side) (d := x.2) (c := p.to)
      rw [e1]; simp; omega
    · split at hw <;> simp only [List.mem_singleton] at hw <;> subst hw <;> simp [onP]
theorem stepP_acts {b : BoardD} (hb : BoardOk b) (h9 : b.cells ≤ 9) (side : Int) {n : Nat} {now : List PathD} (hn : ActsLe n now) (x : Int × Int) : ActsLe (n + 10) (stepP b side now x) := by
  intro w hw
  obtain ⟨p, hp, hw⟩ := List.mem_flatMap.1 hw
  have := extP_acts hb h9 side p x w hw
  have := hn p hp
  omega
end Go.Av
end
section
set_option linter.unusedSimpArgs false
set_option linter.unusedVariables false
set_option maxRecDepth 8000
open Go Go.Proofs
namespace Go.Av
/-! ### valid -/
def ActOk (cells kinds rights : Int) (a : ActD) : Prop :=
  (3 ≤ a.1 ∧ a.1 ≤ 6 ∧ (0 ≤ a.2.1 ∧ a.2.1 < cells) ∧ a.2.2 = 0) ∨ (a.1 = 7 ∧ (0 ≤ a.2.1 ∧ a.2.1 < cells) ∧ (0 ≤ a.2.2 ∧ a.2.2 < cells)) ∨
  (a.1 = 8 ∧ (0 ≤ a.2.1 ∧ a.2.1 < kinds) ∧ a.2.2 = 0) ∨ ((a.1 = 9 ∨ a.1 = 10) ∧ (0 ≤ a.2.1 ∧ a.2.1 < rights) ∧ a.2.2 = 0)
def countA (l : List ActD) (op : Int) : Nat := l.countP (fun a => a.1 == op)
structure PathOk (cells kinds rights : Int) (w : PathD) (t p b : Nat) : Prop where
  to : 0 ≤ w.to ∧ w.to < cells
  acts : ∀ a ∈ w.acts, ActOk cells kinds rights a
  take : countA w.acts 6 ≤ t
  push : countA w.acts 7 ≤ p
  become : countA w.acts 8 ≤ b
theorem countA_append (l m : List ActD) (op : Int) : countA (l ++ m) op = countA l op + countA m op := by simp [countA]
theorem countA_slide {l : List Int} {m : List ActD} (h : ∀ a ∈ m, ∃ c ∈ l, a = (3, c, 0)) {op : Int} (ho : op ≠ 3) : countA m op = 0 := by
  unfold countA
  rw [List.countP_eq_zero]
  intro a ha
  obtain ⟨c, _, rfl⟩ := h a ha
  simpa using ho.symm
theorem countA_one (a : ActD) (op : Int) : countA [a] op = if a.1 = op then 1 else 0 := by simp [countA, List.countP_cons]
def isOp (x : Int × Int) (op : Int) : Nat := if x.1 = op then 1 else 0
theorem extP_ok {b : BoardD} (hb : BoardOk b) {kinds rights : Int} {side : Int} {w : PathD} {t p be : Nat} (hw : PathOk b.cells kinds rights w t p be) {x : Int × Int} (hx : StepOk b.next.length kinds rights x) :
    ∀ v ∈ extP b side w x, PathOk b.cells kinds rights v (t + isOp x 6) (p + isOp x 7) (be + isOp x 8) := by
  intro v hv
  obtain ⟨w1, w2, w3, w4, w5⟩ := hw
  obtain ⟨x1, x2, x3, x4, x5⟩ := hx
  have ht := toB_lt hb side x.2 w.to
  unfold extP at hv
  unfold isOp
  split at hv
  · rename_i h17
    split at hv
    · simp at hv
    · split at hv
      · simp only [List.mem_singleton] at hv
        subst hv
        refine ⟨by simp only [onP]; omega, by simpa [onP] using w2, ?_, ?_, ?_⟩ <;> simp only [onP, List.append_nil] <;> omega
      · have e7 : x.1 = 7 := by omega
        simp only [List.mem_singleton] at hv
        subst hv
        refine ⟨w1, fun a ha => ?_, ?_, ?_, ?_⟩
        · simp only [onP, List.mem_append, List.mem_singleton] at ha
          rcases ha with ha | rfl
          · exact w2 a ha
          · exact .inr (.inl ⟨rfl, w1, by simp only; omega⟩)
        all_goals simp only [onP, countA_append, countA_one, e7]; simp only [show ((7 : Int) = 6) = False by decide, show ((7 : Int) = 8) = False by decide, if_true, if_false]; omega
  · split at hv
    · rename_i h2
      obtain ⟨more, e1, e2, e3, e4⟩ := slideP_mem hv
      rw [List.append_nil] at e1
      refine ⟨lineB_mem hb _ e3, fun a ha => ?_, ?_, ?_, ?_⟩
      · rw [e1, List.mem_append] at ha
        rcases ha with ha | ha
        · exact w2 a ha
        · obtain ⟨c, hc, rfl⟩ := e4 a ha
          exact .inl ⟨by simp, by simp, lineB_mem hb _ hc, rfl⟩
      all_goals rw [e1, countA_append, countA_slide e4 (by omega)]; omega
    · split at hv
      · rename_i h17 h2 h8
        simp only [List.mem_singleton] at hv
        subst hv
        refine ⟨w1, fun a ha => ?_, ?_, ?_, ?_⟩
        · simp only [onP, List.mem_append, List.mem_singleton] at ha
          rcases ha with ha | rfl
          · exact w2 a ha
          · rcases h8 with h | h | h
            · exact .inr (.inr (.inl ⟨h, x4 h, rfl⟩))
            · exact .inr (.inr (.inr ⟨.inl h, x5 (.inl h), rfl⟩))
            · exact .inr (.inr (.inr ⟨.inr h, x5 (.inr h), rfl⟩))
        all_goals simp only [onP, countA_append, countA_one]; omega
      · rename_i h17 h2 h8
        simp only [List.mem_singleton] at hv
        subst hv
        refine ⟨w1, fun a ha => ?_, ?_, ?_, ?_⟩
        · simp only [onP, List.mem_append, List.mem_singleton] at ha
          rcases ha with ha | rfl
          · exact w2 a ha
          · exact .inl ⟨by simp only; omega, by simp only; omega, w1, rfl⟩
        all_goals simp only [onP, countA_append, countA_one]; omega
theorem foldP_ok {b : BoardD} (hb : BoardOk b) {kinds rights : Int} {side : Int} : ∀ {prog : List (Int × Int)} {now : List PathD} {t p be : Nat}, (∀ w ∈ now, PathOk b.cells kinds rights w t p be) → (∀ x ∈ prog, StepOk b.next.length kinds rights x) →
    ∀ w ∈ prog.foldl (stepP b side) now, PathOk b.cells kinds rights w (t + countOp prog 6) (p + countOp prog 7) (be + countOp prog 8)
  | [], now, t, p, be, h, _, w, hw => by simpa [countOp] using h w hw
  | x :: prog, now, t, p, be, h, hx, w, hw => by
    rw [List.foldl_cons] at hw
    have := foldP_ok hb (side := side) (prog := prog) (now := stepP b side now x) (t := t + isOp x 6) (p := p + isOp x 7) (be := be + isOp x 8) (fun v hv => by
      obtain ⟨u, hu, hv⟩ := List.mem_flatMap.1 hv
      exact extP_ok hb (h u hu) (hx x (by simp)) v hv) (fun y hy => hx y (by simp [hy])) w hw
    have e : ∀ op, countOp (x :: prog) op = countOp prog op + isOp x op := fun op => by simp [countOp, List.countP_cons, isOp]
    rw [e, e, e]
    simpa [Nat.add_assoc, Nat.add_comm, Nat.add_left_comm] using this
theorem pathsP_ok {b : BoardD} (hb : BoardOk b) {kinds rights side : Int} {prog : List (Int × Int)} (hp : ∀ x ∈ prog, StepOk b.next.length kinds rights x) {cell : Int} (hc : 0 ≤ cell ∧ cell < b.cells) :
    ∀ w ∈ pathsP b side prog cell, PathOk b.cells kinds rights w (countOp prog 6) (countOp prog 7) (countOp prog 8) := by
  intro w hw
  have := foldP_ok hb (side := side) (kinds := kinds) (rights := rights) (prog := prog) (now := [⟨[], cell⟩]) (t := 0) (p := 0) (be := 0) (fun v hv => by
    simp only [List.mem_singleton] at hv
    subst hv
    exact ⟨hc, by simp, by simp [countA], by simp [countA], by simp [countA]⟩) hp w hw
  simpa using this
theorem kindP_ok {g : GameD} (hg : GOk g) {side : Int} {k : KindD} (hk : k ∈ g.kinds) {cell : Int} (hc : 0 ≤ cell ∧ cell < g.cells) : ∀ w ∈ kindP g.board side k.progs cell, PathOk g.cells g.kinds.length g.rights w 2 1 1 := by
  intro w hw
  obtain ⟨p, hp, hw⟩ := List.mem_flatMap.1 hw
  have ok := hg.pr k hk p hp
  obtain ⟨a, b, c, d, e⟩ := pathsP_ok hg.board (side := side) ok.st hc w hw
  exact ⟨a, b, Nat.le_trans c ok.take, Nat.le_trans d ok.push, Nat.le_trans e ok.become⟩
/-! ### turned -/
def turnS (t : List Int) (x : Int × Int) : Int × Int := if x.1 = 1 ∨ x.1 = 2 ∨ x.1 = 7 then (x.1, nth t x.2.toNat) else x
def turnP (t : List Int) (p : List (Int × Int)) : List (Int × Int) := p.map (turnS t)
def turnK (t : List Int) (k : KindD) : KindD := { k with progs := k.progs.map (turnP t) }
def turnG (g : GameD) : GameD := { g with kinds := g.kinds.map (turnK g.turn) }
theorem toB_turn {b : BoardD} (hb : BoardOk b) (ht : ∀ d, d < b.turn.length → nth b.turn (nth b.turn d).toNat = d) {s : Int} (hs : s = 0 ∨ s = 1) {d : Int} (hd : 0 ≤ d ∧ d < b.next.length) (c : Int) :
    toB b (1 - s) (nth b.turn d.toNat) c = toB b s d c := by
  have hdt : d.toNat < b.turn.length := by have := hb.tl; omega
  have h1 := hb.tv _ (nth_mem hdt)
  have h2 := ht d.toNat hdt
  by_cases hc : c < 0 ∨ b.cells ≤ c
  · unfold toB
    rw [if_pos (by omega), if_pos (by omega)]
  have q0 : ∀ y : Int, 0 ≤ y → y < b.next.length → toB b 0 y c = nth (nth b.next y.toNat) c.toNat := fun y h0 h1 => by
    unfold toB
    rw [if_neg (by omega), if_neg (by omega)]
  have q1 : ∀ y : Int, 0 ≤ y → y < b.next.length → toB b 1 y c = nth (nth b.next (nth b.turn y.toNat).toNat) c.toNat := fun y h0 h1 => by
    unfold toB
    rw [if_neg (by omega), if_pos rfl]
  rcases hs with rfl | rfl
  · rw [show (1 : Int) - 0 = 1 from rfl, q1 _ h1.1 h1.2, q0 _ hd.1 hd.2, h2, Int.toNat_natCast]
  · rw [show (1 : Int) - 1 = 0 from rfl, q0 _ h1.1 h1.2, q1 _ hd.1 hd.2]
theorem lineGo_turn {b : BoardD} {s s' d d' : Int} (h : ∀ c, toB b s' d' c = toB b s d c) (c : Int) : ∀ (f : Nat) (x : Int) (seen : List Int), lineGo b s' d' c f x seen = lineGo b s d c f x seen
  | 0, _, _ => rfl
  | f + 1, x, seen => by
    rw [lineGo, lineGo, h, lineGo_turn h c f]
theorem lineB_turn {b : BoardD} {s s' d d' : Int} (h : ∀ c, toB b s' d' c = toB b s d c) (c : Int) : lineB b s' d' c = lineB b s d c := by
  unfold lineB
  rw [h, lineGo_turn h]
theorem extP_turn {b : BoardD} (hb : BoardOk b) (ht : ∀ d, d < b.turn.length → nth b.turn (nth b.turn d).toNat = d) {s : Int} (hs : s = 0 ∨ s = 1) {kinds rights : Int} {x : Int × Int} (hx : StepOk b.next.length kinds rights x) (w : PathD) :
    extP b (1 - s) w (turnS b.turn x) = extP b s w x := by
  have hd := hx.dir
  unfold turnS
  by_cases h : x.1 = 1 ∨ x.1 = 2 ∨ x.1 = 7
  · rw [if_pos h]
    have e := fun c => toB_turn hb ht hs (hd h) c
    have e2 := fun c => lineB_turn e c
    unfold extP
    simp only [e, e2]
    rcases h with h | h | h <;> simp [h]
  · rw [if_neg h]
    rw [not_or, not_or] at h
    unfold extP
    simp [h.1, h.2.1, h.2.2]
theorem foldP_turn {b : BoardD} (hb : BoardOk b) (ht : ∀ d, d < b.turn.length → nth b.turn (nth b.turn d).toNat = d) {s : Int} (hs : s = 0 ∨ s = 1) {kinds rights : Int} : ∀ {prog : List (Int × Int)} (now : List PathD), (∀ x ∈ prog, StepOk b.next.length kinds rights x) →
    (turnP b.turn prog).foldl (stepP b (1 - s)) now = prog.foldl (stepP b s) now
  | [], _, _ => rfl
  | x :: prog, now, h => by
    have e : stepP b (1 - s) now (turnS b.turn x) = stepP b s now x := by
      unfold stepP
      congr 1
      funext w
      exact extP_turn hb ht hs (h x (by simp)) w
    simp only [turnP, List.map_cons, List.foldl_cons]
    rw [e]
    exact foldP_turn hb ht hs _ (fun y hy => h y (by simp [hy]))
theorem cellsP_turn {g : GameD} (hg : GOk g) {s : Int} (hs : s = 0 ∨ s = 1) {k : KindD} (hk : k ∈ g.kinds) : cellsP g.board (1 - s) (k.progs.map (turnP g.turn)) = cellsP g.board s k.progs := by
  unfold cellsP kindP
  refine List.map_congr_left fun c _ => ?_
  rw [List.flatMap_map]
  rw [List.flatMap_def, List.flatMap_def]
  congr 1
  refine List.map_congr_left fun p hp => ?_
  exact foldP_turn hg.board hg.turn hs _ (hg.pr k hk p hp).st
theorem sideP_turn {g : GameD} (hg : GOk g) {s : Int} (hs : s = 0 ∨ s = 1) : sideP (turnG g) (1 - s) = sideP g s := by
  unfold sideP turnG
  simp only [List.map_map]
  refine List.map_congr_left fun k hk => ?_
  exact cellsP_turn hg hs hk
theorem turnS_ok {g : GameD} (hg : GOk g) {kinds rights : Int} {x : Int × Int} (hx : StepOk g.next.length kinds rights x) : StepOk g.next.length kinds rights (turnS g.turn x) := by
  obtain ⟨a, b, c, d, e⟩ := hx
  unfold turnS
  split
  · rename_i h
    have hb := b h
    have hl := hg.board.tl
    have hl' : g.turn.length = g.next.length := hl
    have := hg.board.tv _ (nth_mem (l := g.turn) (i := x.2.toNat) (by omega))
    have h' : 0 ≤ nth g.turn x.2.toNat ∧ nth g.turn x.2.toNat < g.next.length := this
    exact ⟨a, fun _ => h', by simp only; omega, by simp only; omega, by simp only; omega⟩
  · exact ⟨a, b, c, d, e⟩
theorem countOp_turn (t : List Int) (p : List (Int × Int)) (op : Int) : countOp (turnP t p) op = countOp p op := by
  unfold countOp turnP
  rw [List.countP_map]
  congr 1
  funext x
  simp only [Function.comp, turnS]
  split <;> rfl
theorem turnG_ok {g : GameD} (hg : GOk g) : GOk (turnG g) := by
  refine ⟨hg.board, hg.c1, hg.c9, hg.d1, hg.d8, hg.turn, by simpa [turnG] using hg.k1, by simpa [turnG] using hg.k6, ?_, ?_, hg.r0, hg.r4, ?_, hg.cn, hg.bl, hg.en⟩
  · intro k hk
    simp only [turnG, List.mem_map] at hk
    obtain ⟨k0, h0, rfl⟩ := hk
    simpa [turnK] using hg.pn k0 h0
  · intro k hk p hp
    simp only [turnG, List.mem_map] at hk
    obtain ⟨k0, h0, rfl⟩ := hk
    simp only [turnK, List.mem_map] at hp
    obtain ⟨p0, hp0, rfl⟩ := hp
    obtain ⟨a, b, c, d, e, f⟩ := hg.pr k0 h0 p0 hp0
    have hlen : (turnG g).kinds.length = g.kinds.length := by simp [turnG]
    rw [hlen]
    refine ⟨by simpa [turnP] using a, by simpa [turnP] using b, fun x hx => ?_, by rw [countOp_turn]; exact d, by rw [countOp_turn]; exact e, by rw [countOp_turn]; exact f⟩
    simp only [turnP, List.mem_map] at hx
    obtain ⟨x0, hx0, rfl⟩ := hx
    exact turnS_ok hg (c x0 hx0)
  · have hlen : (turnG g).kinds.length = g.kinds.length := by simp [turnG]
    rw [hlen]
    exact hg.cl
/-! ### counted -/
def cntCells (l : List (List PathD)) : Nat := (l.map (·.length)).sum
def cntSide (l : List (List (List PathD))) : Nat := (l.map cntCells).sum
def countC (c : CodeD) : Nat := cntSide c.1 + cntSide c.2
/-- the paths of a program from all cells -/
def progN (b : BoardD) (side : Int) (p : List (Int × Int)) : Nat := ((List.range b.cells.toNat).map fun (c : Nat) => (pathsP b side p c).length).sum
theorem sum_map_add {α : Type} (f g : α → Nat) : ∀ l : List α, (l.map fun x => f x + g x).sum = (l.map f).sum + (l.map g).sum
  | [] => rfl
  | x :: l => by simp [sum_map_add f g l]; omega
theorem sum_map_zero {α : Type} : ∀ l : List α, (l.map fun _ => 0).sum = 0
  | [] => rfl
  | x :: l => by simpa using sum_map_zero l
theorem sum_map_le {α : Type} (f : α → Nat) (m : Nat) : ∀ l : List α, (∀ x ∈ l, f x ≤ m) → (l.map f).sum ≤ l.length * m
  | [], _ => by simp
  | x :: l, h => by
    have := sum_map_le f m l (fun y hy => h y (by simp [hy]))
    have := h x (by simp)
    simp [Nat.add_mul]; omega
theorem cntCells_eq (b : BoardD) (side : Int) : ∀ progs : List (List (Int × Int)), cntCells (cellsP b side progs) = (progs.map (progN b side)).sum
  | [] => by
    unfold cntCells cellsP kindP
    simp only [List.flatMap_nil, List.map_map, List.map_nil, List.sum_nil]
    exact sum_map_zero _
  | p :: progs => by
    have ih := cntCells_eq b side progs
    unfold cntCells cellsP kindP at *
    rw [List.map_map] at ih ⊢
    simp only [List.flatMap_cons, List.map_cons, List.sum_cons, ← ih]
    unfold progN
    rw [← sum_map_add]
    congr 1
    refine List.map_congr_left fun c _ => ?_
    simp
theorem cntSide_eq (g : GameD) (side : Int) : cntSide (sideP g side) = (g.kinds.map fun k => (k.progs.map (progN g.board side)).sum).sum := by
  unfold cntSide sideP
  rw [List.map_map]
  congr 1
  refine List.map_congr_left fun k _ => ?_
  exact cntCells_eq _ _ _
def progW (g : GameD) (p : List (Int × Int)) : Nat := progN g.board 0 p + progN g.board 1 p
theorem countC_eq (g : GameD) : countC (codeP g) = (g.kinds.map fun k => (k.progs.map (progW g)).sum).sum := by
  unfold countC codeP
  rw [cntSide_eq, cntSide_eq, ← sum_map_add]
  congr 1
  refine List.map_congr_left fun k _ => ?_
  rw [← sum_map_add]
  rfl
def bareK (k : KindD) : KindD := { k with progs := [] }
def oneG (g : GameD) (k : Nat) (p : List (Int × Int)) : GameD := { g with kinds := (g.kinds.map bareK).set k { nth g.kinds k with progs := [p] } }
theorem sum_set {α : Type} (f : α → Nat) : ∀ (l : List α) (k : Nat) (x : α), (∀ y ∈ l, f y = 0) → k < l.length → ((l.set k x).map f).sum = f x
  | [], _, _, _, h => by simp at h
  | y :: l, 0, x, h, _ => by
    have : (l.map f).sum = 0 := by
      have := sum_map_le f 0 l (fun z hz => by rw [h z (by simp [hz])]; exact Nat.le_refl _)
      omega
    simp [this]
  | y :: l, k + 1, x, h, hk => by
    have := sum_set f l k x (fun z hz => h z (by simp [hz])) (by simpa using hk)
    rw [List.set_cons_succ, List.map_cons, List.sum_cons, this, h y (by simp), Nat.zero_add]
theorem countC_one {g : GameD} {k : Nat} (hk : k < g.kinds.length) (p : List (Int × Int)) : countC (codeP (oneG g k p)) = progW g p := by
  rw [countC_eq]
  unfold oneG
  simp only
  rw [sum_set]
  · simp only [List.map_cons, List.map_nil, List.sum_cons, List.sum_nil, Nat.add_zero]
    rfl
  · intro y hy
    obtain ⟨z, _, rfl⟩ := List.mem_map.1 hy
    rfl
  · simpa using hk
theorem oneG_ok {g : GameD} (hg : GOk g) {k : Nat} (hk : k < g.kinds.length) {p : List (Int × Int)} (hp : p ∈ (nth g.kinds k).progs) : GOk (oneG g k p) := by
  have hlen : (oneG g k p).kinds.length = g.kinds.length := by simp [oneG]
  refine ⟨hg.board, hg.c1, hg.c9, hg.d1, hg.d8, hg.turn, by rw [hlen]; exact hg.k1, by rw [hlen]; exact hg.k6, ?_, ?_, hg.r0, hg.r4, by rw [hlen]; exact hg.cl, hg.cn, hg.bl, hg.en⟩
  · intro k' hk'
    rcases List.mem_or_eq_of_mem_set hk' with h | rfl
    · obtain ⟨z, _, rfl⟩ := List.mem_map.1 h
      simp [bareK]
    · simp
  · intro k' hk' q hq
    rw [hlen]
    rcases List.mem_or_eq_of_mem_set hk' with h | rfl
    · obtain ⟨z, _, rfl⟩ := List.mem_map.1 h
      simp [bareK] at hq
    · simp only [List.mem_singleton] at hq
      subst hq
      exact hg.pr _ (nth_mem hk) _ hp
/-- at most one slide a program -/
def OneSlide (g : GameD) : Prop := ∀ k ∈ g.kinds, ∀ p ∈ k.progs, countOp p 2 ≤ 1
theorem progN_le {g : GameD} (hg : GOk g) (side : Int) {p : List (Int × Int)} (hs : countOp p 2 ≤ 1) : progN g.board side p ≤ 81 := by
  have c9 := hg.c9
  have c1 := hg.c1
  have := sum_map_le (fun (c : Nat) => (pathsP g.board side p c).length) 9 (List.range g.board.cells.toNat) (fun c _ => by
    have h := pathsP_len hg.board hg.c1 side p c
    have h2 : g.board.cells.toNat ≤ 9 := by have : g.board.cells = g.cells := rfl; omega
    rcases (show countOp p 2 = 0 ∨ countOp p 2 = 1 by omega) with e | e <;> rw [e] at h <;> simp at h <;> omega)
  have h2 : g.board.cells.toNat ≤ 9 := by have : g.board.cells = g.cells := rfl; omega
  rw [List.length_range] at this
  unfold progN
  omega
theorem countC_le {g : GameD} (hg : GOk g) (hs : OneSlide g) : countC (codeP g) ≤ 10000 := by
  rw [countC_eq]
  have := sum_map_le (fun k : KindD => (k.progs.map (progW g)).sum) 1296 g.kinds (fun k hk => by
    have := sum_map_le (progW g) 162 k.progs (fun p hp => by
      have a := progN_le hg 0 (hs k hk p hp)
      have b := progN_le hg 1 (hs k hk p hp)
      unfold progW; omega)
    have := hg.pn k hk
    omega)
  have := hg.k6
  omega
end Go.Av
end
