/- Contracts, the reference of layer 8: counts, codes. -/
import Derived.Test.YtpngjhfkaogdeaaDQ
import Derived.Test.YtpngjhfkaogdeaaF3
import Derived.Test.YtpngjhfkaogdeaaDL
import Derived.Test.YtpngjhfkaogdeaaD9
import Derived.Test.YtpngjhfkaogdeaaD2
section
set_option linter.unusedSimpArgs false
set_option linter.unusedVariables false
open Go Go.Proofs
set_option maxRecDepth 20000
set_option maxHeartbeats 4000000
namespace Go.Av
theorem Count8_pure (c : CodeD) (hc : countC c ≤ 4611686018427387904) (h1 : c.1.length ≤ 1048576) (h2 : c.2.length ≤ 1048576) (hl : ∀ x ∈ c.1 ++ c.2, x.length ≤ 1048576) :
    Pure Try.prog 26 [.agg (encCode c)] (.v (.int .i64 (countC c))) := by
  refine Pure.of (ACallP.of_awp (by kernel_rfl) Try.func26 rfl rfl (Nat.le_of_ble_eq_true rfl) (by kernel_rfl) ?_)
  obtain ⟨a, b⟩ := c
  simp only at h1 h2 hl
  have hT : countC (a, b) = cntSide a + cntSide b := rfl
  rw [hT] at hc ⊢
  (repeat (first | with_reducible (first | refine wL fun _ => ?_ | refine wD fun _ => ?_ | refine wE ?_ | refine adrZ.go ?_) | simp [go_sem]))
  refine ALoop.start (ALoop.ind (α := Nat × Nat) (fun x => ⟨[(1, .ref 0 0 2 0 0), (3, .v (.int .i64 x.2)), (4, .v (.int .i64 x.1))], [(0, .rows true 0 2 [[encSide a, encSide b]])], 1⟩)
    (fun d x => x.1 + d = 2 ∧ x.2 = (if x.1 = 0 then 0 else if x.1 = 1 then cntSide a else cntSide a + cntSide b)) ?_ 2 (0, 0) ?_) ?_ ?_
  · rintro d ⟨s, n⟩ ⟨s1, s2⟩ hrec
    simp only at s1 s2
    rcases (show s = 2 ∨ s < 2 by omega) with rfl | hs2
    · simp at s2
      subst s2
      (repeat (first | with_reducible (first | refine wL fun _ => ?_ | refine wD fun _ => ?_ | refine wE ?_ | refine adrZ.go ?_) | simp [go_sem]))
    · obtain ⟨l, hl0, hl1, hl2, hl3⟩ : ∃ l : List (List (List PathD)), cel [encSide a, encSide b] s = encSide l ∧ l.length ≤ 1048576 ∧ (∀ x ∈ l, x.length ≤ 1048576) ∧ (if s + 1 = 0 then 0 else if s + 1 = 1 then cntSide a else cntSide a + cntSide b) = n + cntSide l := by
        rcases (show s = 0 ∨ s = 1 by omega) with rfl | rfl
        · simp at s2
          exact ⟨a, rfl, h1, fun x hx => hl x (by simp [hx]), by simp [s2]⟩
        · simp at s2
          exact ⟨b, rfl, h2, fun x hx => hl x (by simp [hx]), by simp [s2]⟩
      have hcap : n + cntSide l ≤ 4611686018427387904 := by rw [← hl3]; split <;> (try split) <;> omega
      simp only [encSide, encCells, encPt] at hl0
      (repeat (first | with_reducible (first | refine wL fun _ => ?_ | refine wD fun _ => ?_ | refine wE ?_ | refine adrZ.go ?_) | simp [go_sem, hl0]))
      (refine aIf.mkL (fun hT => ?_) (fun hT => by first | omega | (simp at hT; omega)); clear hT)
      (repeat (first | with_reducible (first | refine wL fun _ => ?_ | refine wD fun _ => ?_ | refine wE ?_ | refine adrZ.go ?_) | simp [go_sem, hl0]))
      refine ALoop.start (ALoop.ind (α := Nat × Nat) (fun x => ⟨[(1, .ref 0 0 2 0 0), (3, .v (.int .i64 x.2)), (4, .v (.int .i64 s)), (5, .v (.int .i64 x.1))], [(0, .rows true 0 2 [[encSide a, encSide b]])], 1⟩)
        (fun d x => x.1 + d = l.length ∧ x.2 + cntSide (l.drop x.1) = n + cntSide l) ?_ l.length (0, n) ?_) ?_ ?_
      · rintro d2 ⟨j, m⟩ ⟨j1, j2⟩ hrec2
        simp only at j1 j2
        (repeat (first | with_reducible (first | refine wL fun _ => ?_ | refine wD fun _ => ?_ | refine wE ?_ | refine adrZ.go ?_) | simp [go_sem, hl0]))
        refine aIf.mkL (fun hj => ?_) (fun hj => ?_) <;> simp at hj
        · have hll := hl2 _ (nth_mem hj)
          rw [cntSide_drop l hj] at j2
          (repeat (first | with_reducible (first | refine wL fun _ => ?_ | refine wD fun _ => ?_ | refine wE ?_ | refine adrZ.go ?_) | simp [go_sem, hj, hl0]))
          refine ALoop.start (ALoop.ind (α := Nat × Nat) (fun x => ⟨[(1, .ref 0 0 2 0 0), (3, .v (.int .i64 x.2)), (4, .v (.int .i64 s)), (5, .v (.int .i64 j)), (6, .v (.int .i64 x.1))], [(0, .rows true 0 2 [[encSide a, encSide b]])], 1⟩)
            (fun d x => x.1 + d = (nth l j).length ∧ x.2 + cntCells ((nth l j).drop x.1) = m + cntCells (nth l j)) ?_ (nth l j).length (0, m) ?_) ?_ ?_
          · rintro d3 ⟨k, q⟩ ⟨k1, k2⟩ hrec3
            simp only at k1 k2
            (repeat (first | with_reducible (first | refine wL fun _ => ?_ | refine wD fun _ => ?_ | refine wE ?_ | refine adrZ.go ?_) | simp [go_sem, hl0, hj]))
            refine aIf.mkL (fun hk => ?_) (fun hk => ?_) <;> simp at hk
            · rw [cntCells_drop _ hk] at k2
              (repeat (first | with_reducible (first | refine wL fun _ => ?_ | refine wD fun _ => ?_ | refine wE ?_ | refine adrZ.go ?_) | simp [go_sem, hk, hl0, hj]))
              refine ALoop.start (hrec3 (d3 - 1) (by omega) (k + 1, q + (nth (nth l j) k).length) ⟨by simp only; omega, by simp only; omega⟩) ?_ (by simp)
              simp [go_sem, Wk_eq]
            · rw [List.drop_eq_nil_of_le hk] at k2
              simp [cntCells] at k2
              (repeat (first | with_reducible (first | refine wL fun _ => ?_ | refine wD fun _ => ?_ | refine wE ?_ | refine adrZ.go ?_) | simp [go_sem]))
              refine ALoop.start (hrec2 (d2 - 1) (by omega) (j + 1, q) ⟨by simp only; omega, by simp only [cntCells] at j2 ⊢; omega⟩) ?_ (by simp)
              simp [go_sem, Wk_eq]
          · exact ⟨by simp, by simp⟩
          · simp [go_sem, Wk_eq]
          · simp
        · rw [List.drop_eq_nil_of_le hj] at j2
          simp [cntSide] at j2
          (repeat (first | with_reducible (first | refine wL fun _ => ?_ | refine wD fun _ => ?_ | refine wE ?_ | refine adrZ.go ?_) | simp [go_sem]))
          refine ALoop.start (hrec (d - 1) (by omega) (s + 1, m) ⟨by simp only; omega, ?_⟩) ?_ (by simp)
          · simp only
            rw [hl3, j2]
            rfl
          · simp [go_sem, Wk_eq]
      · exact ⟨by simp, by simp⟩
      · simp [go_sem, Wk_eq]
      · simp
  · exact ⟨rfl, rfl⟩
  · simp [go_sem, Wk_eq]
  · simp
/-- the two lists of a code, of which that of the side s is x -/
def rowS (a : AV) (s : Nat) (x : AV) : List AV := if s = 0 then [x, .v (.slice none 0 0)] else [a, x]
theorem rowS_len (a : AV) (s : Nat) (x : AV) : (rowS a s x).length = 2 := by unfold rowS; split <;> rfl
theorem rowS_cel (a : AV) {s : Nat} (hs : s < 2) (x : AV) : cel (rowS a s x) s = x := by
  rcases (show s = 0 ∨ s = 1 by omega) with rfl | rfl <;> rfl
theorem rowS_set (a : AV) {s : Nat} (hs : s < 2) (x y : AV) : (rowS a s x).set s y = rowS a s y := by
  rcases (show s = 0 ∨ s = 1 by omega) with rfl | rfl <;> rfl
theorem rowS_le {h h' : Heap} {n : Nat} {a : AV} {s : Nat} {x y : AV} (hx : LeV h h' n x y) : LeRow h h' n (rowS a s x) (rowS a s y) := by
  unfold rowS
  split
  · exact .cons hx (.refl _ _ _ _)
  · exact .cons (.refl _) (.cons hx .nil)
theorem rowS_bel {n : Nat} {a : AV} {s : Nat} {x : AV} (ha : Bel n a) (hx : Bel n x) : ∀ c ∈ rowS a s x, Bel n c := by
  unfold rowS
  split <;> intro c hc <;> simp only [List.mem_cons, List.not_mem_nil, or_false] at hc <;> rcases hc with rfl | rfl
  · exact hx
  · exact .v _
  · exact ha
  · exact hx
def cellsK (b : BoardD) (s : Int) (ps : List (List (Int × Int))) (c : Nat) : List (List PathD) := (List.range c).map fun (c : Nat) => kindP b s ps c
theorem cellsK_succ (b : BoardD) (s : Int) (ps : List (List (Int × Int))) (c : Nat) : cellsK b s ps (c + 1) = cellsK b s ps c ++ [kindP b s ps c] := by simp [cellsK, List.range_succ]
theorem cellsK_len (b : BoardD) (s : Int) (ps : List (List (Int × Int))) (c : Nat) : (cellsK b s ps c).length = c := by simp [cellsK]
def rowA (a b : AV) (s : Nat) : List AV := [if s = 0 then AV.v (.slice none 0 0) else a, if s < 2 then AV.v (.slice none 0 0) else b]
theorem Compile8_pure (g : GameD) (hg : GOk g) : Pure Try.prog 17 [.agg (encGame g)] (.agg (encCode (codeP g))) := by
  refine Pure.of (ACallP.of_awp (by kernel_rfl) Try.func17 rfl rfl (Nat.le_of_ble_eq_true rfl) (by kernel_rfl) ?_)
  have hc1 := hg.c1
  have hc9 := hg.c9
  have hk6 := hg.k6
  have hP : ∀ k ∈ g.kinds, ∀ p ∈ k.progs, ∀ (side c : Int), Pure Try.prog 37 [.agg (encB g.board), .v (.int .i64 side), encProg p, .v (.int .i64 c)] (encPt (pathsP g.board side p c)) :=
    fun k hk p hp side c => by
      have hpo := hg.pr k hk p hp
      exact Paths8_pure g.board hg.board hg.c1 hg.c9 side p hpo.len (fun x hx => (hpo.st x hx).op) c
  have hR : encCode (codeP g) = [encSide (sideP g 0), encSide (sideP g 1)] := rfl
  rw [hR]
  clear hR
  obtain ⟨C, hC⟩ : ∃ C : Nat, g.cells = C := ⟨g.cells.toNat, by omega⟩
  have hcells : ∀ (s : Int) (j : Nat), cellsP g.board s (nth g.kinds j).progs = cellsK g.board s (nth g.kinds j).progs C := fun s j => by
    unfold cellsP cellsK
    rw [show g.board.cells.toNat = C by have : g.board.cells = g.cells := rfl; omega]
  have hbl : ∀ n, (∀ c' ∈ encGame g, Bel n c') = True := fun n => by simp [go_sem]
  have hel : (encGame g).length = 9 := rfl
  obtain ⟨eB, heB⟩ : ∃ eB, eB = encB g.board := ⟨_, rfl⟩
  have hg1 : (encGame g).take 3 = eB := by rw [heB]; rfl
  have hg2 : cel (encGame g) 3 = .lst 3 (g.kinds.map encKind) := rfl
  have hg3 : cel (encGame g) 0 = .v (.int .i64 C) := by rw [← hC]; rfl
  have heBb : ∀ n, (∀ c' ∈ eB, Bel n c') = True := fun n => by rw [heB]; simp [go_sem]
  rw [← heB] at hP
  clear heB
  generalize encGame g = eg at *
  obtain ⟨S0, hS0⟩ : ∃ S0, S0 = encSide (sideP g 0) := ⟨_, rfl⟩
  obtain ⟨S1, hS1⟩ : ∃ S1, S1 = encSide (sideP g 1) := ⟨_, rfl⟩
  have hSb0 : ∀ n, Bel n S0 = True := fun n => by rw [hS0]; simp [go_sem]
  have hSb1 : ∀ n, Bel n S1 = True := fun n => by rw [hS1]; simp [go_sem]
  rw [← hS0, ← hS1]
  (repeat (first | with_reducible (first | refine wL fun _ => ?_ | refine wD fun _ => ?_ | refine wE ?_ | refine adrZ.go ?_) | simp [go_sem, hel]))
  refine ALoop.start (ALoop.ind (α := Nat) (fun s => ⟨[(1, .ref 0 0 9 0 0), (2, .ref 1 0 2 0 0), (3, .ref 2 0 2 0 0), (4, .v (.int .i64 s))],
      [(0, .rows true 0 9 [eg]), (1, .rows true 0 2 [[AV.v (.slice none 0 0), AV.v (.slice none 0 0)]]), (2, .rows true 0 2 [rowA S0 S1 s])], 3⟩)
    (fun d s => s + d = 2) ?_ 2 0 ?_) ?_ ?_
  · rintro d0 s s1 hrec
    rcases (show s = 2 ∨ s < 2 by omega) with rfl | hs2
    · simp only [rowA]
      (repeat (first | with_reducible (first | refine wL fun _ => ?_ | refine wD fun _ => ?_ | refine wE ?_ | refine adrZ.go ?_) | simp [go_sem]))
      exact ⟨of_eq_true (hSb0 0), of_eq_true (hSb1 0)⟩
    have hAS : rowA S0 S1 s = rowS S0 s (.v (.slice none 0 0)) := by rcases (show s = 0 ∨ s = 1 by omega) with rfl | rfl <;> rfl
    rw [hAS]
    have hrl := rowS_len S0 s
    have hrc := rowS_cel S0 hs2
    have hrs := rowS_set S0 hs2
    (repeat (first | with_reducible (first | refine wL fun _ => ?_ | refine wD fun _ => ?_ | refine wE ?_ | refine adrZ.go ?_) | simp [go_sem, hel]))
    (refine aIf.mkL (fun hT => ?_) (fun hT => by first | omega | (simp at hT; omega)); clear hT)
    (repeat (first | with_reducible (first | refine wL fun _ => ?_ | refine wD fun _ => ?_ | refine wE ?_ | refine adrZ.go ?_) | simp [go_sem, hel]))
    refine ALoop.start (ALoop.ind (α := Nat) (fun j => ⟨[(1, .ref 0 0 9 0 0), (2, .ref 1 0 2 0 0), (3, .ref 2 0 2 0 0), (4, .v (.int .i64 s)), (5, .v (.int .i64 j))],
        [(0, .rows true 0 9 [eg]), (1, .rows true 0 2 [[AV.v (.slice none 0 0), AV.v (.slice none 0 0)]]), (2, .rows true 0 2 [rowS S0 s (.sl 3 j 1 0 j)]), (3, .rows true j 1 ((sideK g s j).map fun x => [encCells x]))], 4⟩)
      (fun d j => j + d = g.kinds.length) ?_ g.kinds.length 0 ?_) ?_ ?_
    · rintro d j j1 hrec2
      have hlj := sideK_len g s (show j ≤ g.kinds.length by omega)
      (repeat (first | with_reducible (first | refine wL fun _ => ?_ | refine wD fun _ => ?_ | refine wE ?_ | refine adrZ.go ?_) | simp [go_sem, hel, hg2]))
      refine aIf.mkL (fun hj => ?_) (fun hj => ?_) <;> simp at hj
      · have hkm := nth_mem hj
        have hpn := hg.pn _ hkm
        have hPk := hP _ hkm
        have hsj := sideK_succ g s hj
        have hcj := hcells s j
        have hlj1 := sideK_len g s (show j + 1 ≤ g.kinds.length by omega)
        have hkl := kindP_len hg s hkm
        have hks : ∀ c : Nat, kindP g.board s (nth g.kinds j).progs c = (nth g.kinds j).progs.flatMap fun p => pathsP g.board s p c := fun c => rfl
        obtain ⟨k, hk⟩ : ∃ k, k = nth g.kinds j := ⟨_, rfl⟩
        rw [← hk] at hpn hPk hsj hcj hkl hks
        rw [hcj] at hsj
        have hcs := cellsK_succ g.board s k.progs
        have hcl := cellsK_len g.board s k.progs
        have hc0 : cellsK g.board s k.progs 0 = [] := rfl
        generalize cellsK g.board s k.progs = CK at *
        generalize kindP g.board s k.progs = KP at *
        (repeat (first | with_reducible (first | refine wL fun _ => ?_ | refine wD fun _ => ?_ | refine wE ?_ | refine adrZ.go ?_) | simp [go_sem, hel, hg2]))
        refine ALoop.start (ALoop.ind (α := Nat) (fun c => ⟨[(1, .ref 0 0 9 0 0), (2, .ref 1 0 2 0 0), (3, .ref 2 0 2 0 0), (4, .v (.int .i64 s)), (5, .v (.int .i64 j)), (6, .sl 4 c 1 0 c), (7, .v (.int .i64 c))],
            [(0, .rows true 0 9 [eg]), (1, .rows true 0 2 [[AV.v (.slice none 0 0), AV.v (.slice none 0 0)]]), (2, .rows true 0 2 [rowS S0 s (.sl 3 j 1 0 j)]), (3, .rows true j 1 ((sideK g s j).map fun x => [encCells x])), (4, .rows true c 1 ((CK c).map fun x => [encPt x]))], 5⟩)
          (fun d c => c + d = C) ?_ C 0 ?_) ?_ ?_
        · rintro d2 c c1' hrec3
          have hclc := hcl c
          (repeat (first | with_reducible (first | refine wL fun _ => ?_ | refine wD fun _ => ?_ | refine wE ?_ | refine adrZ.go ?_) | simp [go_sem, hel, hg3]))
          refine aIf.mkL (fun hc => ?_) (fun hc => ?_) <;> simp at hc
          · have hklc := hkl c
            have hcsc := hcs c
            rw [hks c] at hcsc
            have hks' : ((k.progs.flatMap fun p => pathsP g.board s p c)).length ≤ 8589934592 := by rw [← hks c]; exact hklc
            obtain ⟨R, hR⟩ : ∃ R, R = k.progs.flatMap fun p => pathsP g.board s p c := ⟨_, rfl⟩
            rw [← hR] at hcsc hks'
            (repeat (first | with_reducible (first | refine wL fun _ => ?_ | refine wD fun _ => ?_ | refine wE ?_ | refine adrZ.go ?_) | simp [go_sem, hel]))
            refine ALoop.start (ALoop.ind (α := Nat × List PathD) (fun a => ⟨[(1, .ref 0 0 9 0 0), (2, .ref 1 0 2 0 0), (3, .ref 2 0 2 0 0), (4, .v (.int .i64 s)), (5, .v (.int .i64 j)), (6, .sl 4 c 1 0 c), (7, .v (.int .i64 c)), (8, .sl 5 a.1 2 0 a.2.length), (9, .v (.int .i64 a.1))],
                [(0, .rows true 0 9 [eg]), (1, .rows true 0 2 [[AV.v (.slice none 0 0), AV.v (.slice none 0 0)]]), (2, .rows true 0 2 [rowS S0 s (.sl 3 j 1 0 j)]), (3, .rows true j 1 ((sideK g s j).map fun x => [encCells x])), (4, .rows true c 1 ((CK c).map fun x => [encPt x])), (5, .rows true a.1 2 (a.2.map encPath))], 6⟩)
              (fun d a => a.1 + d = k.progs.length ∧ a.2 ++ ((k.progs.drop a.1).flatMap fun p => pathsP g.board s p c) = R) ?_ k.progs.length (0, []) ?_) ?_ ?_
            · rintro d3 ⟨i, l⟩ ⟨i1, i2⟩ hrec4
              simp only at i1 i2
              (repeat (first | with_reducible (first | refine wL fun _ => ?_ | refine wD fun _ => ?_ | refine wE ?_ | refine adrZ.go ?_) | simp [go_sem, hel, hg2, hj, ← hk]))
              refine aIf.mkL (fun hi => ?_) (fun hi => ?_) <;> simp at hi
              · rw [dropG_cons hi, List.flatMap_cons, ← List.append_assoc] at i2
                have hlR : l.length + (pathsP g.board s (nth k.progs i) c).length ≤ 8589934592 := by
                  have := hks'
                  rw [← i2] at this
                  simp only [List.length_append] at this
                  omega
                have hPi := hPk _ (nth_mem hi) s c
                have hgo := hrec4 (d3 - 1) (by omega) (i + 1, l ++ pathsP g.board s (nth k.progs i) c) ⟨by simp only; omega, i2⟩
                simp only [List.length_append] at hgo
                generalize pathsP g.board s (nth k.progs i) c = X at *
                (repeat (first | with_reducible (first | refine wL fun _ => ?_ | refine wD fun _ => ?_ | refine wE ?_ | refine adrZ.go ?_) | simp [go_sem, hel, hg1, hg2, hj, hi, ← hk]))
                try ((with_reducible refine adrZ.go ?_); (try simp [go_sem]))
                refine dCall.plain hPi (by simp [go_sem, heBb]) ?_
                (repeat (first | with_reducible (first | refine wL fun _ => ?_ | refine wD fun _ => ?_ | refine wE ?_ | refine adrZ.go ?_) | simp [go_sem]))
                refine ALoop.start hgo ?_ (by simp)
                simp [go_sem, Wk_eq, hbl]
                exact rowS_bel (of_eq_true (hSb0 _)) (.sl (by omega))
              · rw [List.drop_eq_nil_of_le hi, List.flatMap_nil, List.append_nil] at i2
                subst i2
                (repeat (first | with_reducible (first | refine wL fun _ => ?_ | refine wD fun _ => ?_ | refine wE ?_ | refine adrZ.go ?_) | simp [go_sem]))
                refine ALoop.start (hrec3 (d2 - 1) (by omega) (c + 1) (by omega)) ?_ (by simp)
                simp [go_sem, Wk_eq, hbl, hcsc]
                refine ⟨rowS_bel (of_eq_true (hSb0 _)) (.sl (by omega)), ?_⟩
                ((try simp only [encProg, encStep, encAct, encAs, encPath, encPt, encOut, encState, encPos, encOs, encSs, encPs, encIs, encGame, List.map_cons, List.map_nil, List.nil_append, List.append_nil, List.cons_append]); (repeat (first | (with_reducible exact LeRow.nil) | (with_reducible exact LeRows.nil) | (with_reducible exact LeV.refl _) | (with_reducible exact LeRow.refl _ _ _ _) | (with_reducible exact LeRows.refl _) | (with_reducible refine LeRow.cons ?_ ?_) | (with_reducible refine LeRows.cons ?_ ?_) | (with_reducible refine LeV.agg ?_) | (with_reducible refine LeV.tup ?_) | (with_reducible refine LeV.fn ?_ ?_) | (with_reducible exact LeV.nil _) | (with_reducible refine leRows_append (LeRows.refl _) ?_) | ((refine leV_frz rfl (by simp) (by simp [frzO, frz1, upd, noH]) ?_); (first | (simp [go_sem]; done) | (simp [go_sem]; exact List.take_of_length_le (by simp)))) | ((refine LeV.frz rfl (by simp) (by simp [frzO, frz1, upd, noH]) ?_); (simp only [List.drop_zero, List.take_succ_cons, List.take_zero, List.map_cons, List.map_nil])) | ((refine LeV.frzP rfl (by simp) (by simp) (by simp [frzO, frz1, upd, noH]) ?_); (simp only [nth_zero, List.drop_zero])))))
            · exact ⟨by simp, by rw [hR]; rfl⟩
            · simp [go_sem, Wk_eq, hbl]
              exact rowS_bel (of_eq_true (hSb0 _)) (.sl (by omega))
            · simp
          · have hcC : c = C := by omega
            subst hcC
            (repeat (first | with_reducible (first | refine wL fun _ => ?_ | refine wD fun _ => ?_ | refine wE ?_ | refine adrZ.go ?_) | simp [go_sem, hel, hrl, hrc, hrs, hlj]))
            refine ALoop.start (hrec2 (d - 1) (by omega) (j + 1) (by omega)) ?_ (by simp)
            simp [go_sem, Wk_eq, hbl, hsj]
            refine ⟨rowS_bel (of_eq_true (hSb0 _)) (.sl (by omega)), ?_⟩
            ((try simp only [encProg, encStep, encAct, encAs, encPath, encPt, encOut, encState, encPos, encOs, encSs, encPs, encIs, encGame, List.map_cons, List.map_nil, List.nil_append, List.append_nil, List.cons_append]); (repeat (first | (with_reducible exact LeRow.nil) | (with_reducible exact LeRows.nil) | (with_reducible exact LeV.refl _) | (with_reducible exact LeRow.refl _ _ _ _) | (with_reducible exact LeRows.refl _) | (with_reducible refine LeRow.cons ?_ ?_) | (with_reducible refine LeRows.cons ?_ ?_) | (with_reducible refine LeV.agg ?_) | (with_reducible refine LeV.tup ?_) | (with_reducible refine LeV.fn ?_ ?_) | (with_reducible exact LeV.nil _) | (with_reducible refine leRows_append (LeRows.refl _) ?_) | ((refine leV_frz rfl (by simp [hclc]) (by simp [frzO, frz1, upd, noH]) ?_); (first | (simp [go_sem, hclc]; done) | (simp [go_sem, hclc]; exact List.take_of_length_le (by simp [hclc])))) | ((refine LeV.frz rfl (by simp [hclc]) (by simp [frzO, frz1, upd, noH]) ?_); (simp only [List.drop_zero, List.take_succ_cons, List.take_zero, List.map_cons, List.map_nil])) | ((refine LeV.frzP rfl (by simp [hclc]) (by simp) (by simp [frzO, frz1, upd, noH]) ?_); (simp only [nth_zero, List.drop_zero])))))
        · simp
        · simp [go_sem, Wk_eq, hbl, hc0]
          exact rowS_bel (of_eq_true (hSb0 _)) (.sl (by omega))
        · simp
      · have hjk : j = g.kinds.length := by omega
        subst hjk
        rw [sideK_all] at *
        (repeat (first | with_reducible (first | refine wL fun _ => ?_ | refine wD fun _ => ?_ | refine wE ?_ | refine adrZ.go ?_) | simp [go_sem]))
        refine ALoop.start (hrec (d0 - 1) (by omega) (s + 1) (by omega)) ?_ (by simp)
        simp [go_sem, Wk_eq, hbl]
        refine ⟨?_, ?_⟩
        · rcases (show s = 0 ∨ s = 1 by omega) with rfl | rfl
          · have hl0 : (sideP g 0).length = g.kinds.length := by simp [sideP]
            simp only [rowA, rowS, hS0, encSide, encCells, encPt]
            simp
            ((try simp only [encProg, encStep, encAct, encAs, encPath, encPt, encOut, encState, encPos, encOs, encSs, encPs, encIs, encGame, List.map_cons, List.map_nil, List.nil_append, List.append_nil, List.cons_append]); (repeat (first | (with_reducible exact LeRow.nil) | (with_reducible exact LeRows.nil) | (with_reducible exact LeV.refl _) | (with_reducible exact LeRow.refl _ _ _ _) | (with_reducible exact LeRows.refl _) | (with_reducible refine LeRow.cons ?_ ?_) | (with_reducible refine LeRows.cons ?_ ?_) | (with_reducible refine LeV.agg ?_) | (with_reducible refine LeV.tup ?_) | (with_reducible refine LeV.fn ?_ ?_) | (with_reducible exact LeV.nil _) | (with_reducible refine leRows_append (LeRows.refl _) ?_) | ((refine leV_frz rfl (by simp [hl0]) (by simp [frzO, frz1, upd, noH]) ?_); (first | (simp [go_sem, hl0]; done) | (simp [go_sem, hl0]; exact List.take_of_length_le (by simp [hl0])))) | ((refine LeV.frz rfl (by simp [hl0]) (by simp [frzO, frz1, upd, noH]) ?_); (simp only [List.drop_zero, List.take_succ_cons, List.take_zero, List.map_cons, List.map_nil])) | ((refine LeV.frzP rfl (by simp [hl0]) (by simp) (by simp [frzO, frz1, upd, noH]) ?_); (simp only [nth_zero, List.drop_zero])))))
          · have hl0 : (sideP g 1).length = g.kinds.length := by simp [sideP]
            simp only [rowA, rowS, hS1, encSide, encCells, encPt]
            simp
            ((try simp only [encProg, encStep, encAct, encAs, encPath, encPt, encOut, encState, encPos, encOs, encSs, encPs, encIs, encGame, List.map_cons, List.map_nil, List.nil_append, List.append_nil, List.cons_append]); (repeat (first | (with_reducible exact LeRow.nil) | (with_reducible exact LeRows.nil) | (with_reducible exact LeV.refl _) | (with_reducible exact LeRow.refl _ _ _ _) | (with_reducible exact LeRows.refl _) | (with_reducible refine LeRow.cons ?_ ?_) | (with_reducible refine LeRows.cons ?_ ?_) | (with_reducible refine LeV.agg ?_) | (with_reducible refine LeV.tup ?_) | (with_reducible refine LeV.fn ?_ ?_) | (with_reducible exact LeV.nil _) | (with_reducible refine leRows_append (LeRows.refl _) ?_) | ((refine leV_frz rfl (by simp [hl0]) (by simp [frzO, frz1, upd, noH]) ?_); (first | (simp [go_sem, hl0]; done) | (simp [go_sem, hl0]; exact List.take_of_length_le (by simp [hl0])))) | ((refine LeV.frz rfl (by simp [hl0]) (by simp [frzO, frz1, upd, noH]) ?_); (simp only [List.drop_zero, List.take_succ_cons, List.take_zero, List.map_cons, List.map_nil])) | ((refine LeV.frzP rfl (by simp [hl0]) (by simp) (by simp [frzO, frz1, upd, noH]) ?_); (simp only [nth_zero, List.drop_zero])))))
        · intro x hx
          unfold rowA at hx
          simp only [List.mem_cons, List.not_mem_nil, or_false] at hx
          rcases hx with rfl | rfl
          · exact of_eq_true (hSb0 _)
          · split
            · exact .v _
            · exact of_eq_true (hSb1 _)
    · simp
    · have h0 := sideK_zero g s
      simp [go_sem, Wk_eq, h0]
      refine ⟨of_eq_true (hbl _), rowS_le ?_, rowS_bel (of_eq_true (hSb0 _)) (.sl (by omega))⟩
      simp [go_sem]
    · simp
  · simp
  · simp [go_sem, Wk_eq, hbl, rowA]
  · simp
end Go.Av
end
section
set_option linter.unusedSimpArgs false
set_option linter.unusedVariables false
set_option maxRecDepth 8000
open Go Go.Proofs
namespace Go.Av
theorem joinsL_append (l : List Int) (c : Int) (xs ys : List Int) : joinsL l c (xs ++ ys) = joinsL (joinsL l c xs) c ys := by unfold joinsL; rw [List.foldl_append]
theorem actsF_eq (c : Int) : ∀ (acts : List ActD) (l : List Int), actsF c l acts = joinsL l c (acts.flatMap cellsA)
  | [], l => rfl
  | a :: acts, l => by
    rw [List.flatMap_cons, joinsL_append]
    exact actsF_eq c acts _
theorem pathF_eq (c : Int) (l : List Int) (p : PathD) : pathF c l p = joinsL l c (p.to :: p.acts.flatMap cellsA) := by
  unfold pathF
  rw [actsF_eq, ← joinsL_append]
  rfl
theorem pathsF_append (c : Int) (l : List Int) (xs ys : List PathD) : pathsF c l (xs ++ ys) = pathsF c (pathsF c l xs) ys := by unfold pathsF; rw [List.foldl_append]
theorem flatMap_mem_len {α β : Type} (f : α → List β) : ∀ {l : List α} {x : α}, x ∈ l → (f x).length ≤ (l.flatMap f).length
  | y :: l, x, h => by
    rw [List.flatMap_cons, List.length_append]
    rcases List.mem_cons.1 h with rfl | h
    · omega
    · have := flatMap_mem_len f h; omega
def idN (c : Nat) : List Int := (List.range c).map fun (c : Nat) => (c : Int)
theorem idN_succ (c : Nat) : idN (c + 1) = idN c ++ [(c : Int)] := by simp [idN, List.range_succ]
theorem idN_len (c : Nat) : (idN c).length = c := by simp [idN]
theorem rootL_id {c : Nat} (h : c < 64) : rootL idL c = c := by
  have hn : nth idL c = (c : Int) := by
    unfold idL
    rw [nth_map _ _ _ (by simpa using h), nth_eq _ _ (by simpa using h), List.getElem_range]
  rw [rootL_step idL_ok (by omega) (by omega), show ((c : Int)).toNat = c by omega, if_pos hn]
theorem namesL_id {n : Nat} (h : n ≤ 64) : namesL idL n = idN n := by
  unfold namesL idN
  refine List.map_congr_left fun c hc => ?_
  exact rootL_id (by have := List.mem_range.1 hc; omega)
/-! ### the links of a code are joins of what its paths join -/
def joinJ (l : List Int) (j : List Int) : List Int := joinsL l (nth j 0) j.tail
def cellsJ : Nat → List (List PathD) → List (List Int)
  | _, [] => []
  | c, ps :: k => ps.map (fun p => joinedP (c : Int) p) ++ cellsJ (c + 1) k
def kindsJ (s : List (List (List PathD))) : List (List Int) := s.flatMap (cellsJ 0)
def allJ (c : CodeD) : List (List Int) := kindsJ c.1 ++ kindsJ c.2
theorem pathF_J (c : Int) (l : List Int) (p : PathD) : pathF c l p = joinJ l (joinedP c p) := by rw [pathF_eq]; rfl
theorem pathsF_J (c : Int) : ∀ (ps : List PathD) (l : List Int), pathsF c l ps = (ps.map (fun p => joinedP c p)).foldl joinJ l
  | [], l => rfl
  | p :: ps, l => by
    show pathsF c (pathF c l p) ps = _
    rw [pathsF_J c ps, pathF_J]; rfl
theorem cellsF_J : ∀ (k : List (List PathD)) (c : Nat) (l : List Int), cellsF l c k = (cellsJ c k).foldl joinJ l
  | [], _, _ => rfl
  | ps :: k, c, l => by
    rw [cellsF, cellsJ, List.foldl_append, cellsF_J k, pathsF_J]
theorem kindsF_J : ∀ (s : List (List (List PathD))) (l : List Int), kindsF l s = (kindsJ s).foldl joinJ l
  | [], _ => rfl
  | k :: s, l => by
    show kindsF (cellsF l 0 k) s = _
    rw [kindsF_J s, cellsF_J]
    unfold kindsJ
    rw [List.flatMap_cons, List.foldl_append]
theorem linksC_J (c : CodeD) : linksC c = (allJ c).foldl joinJ idL := by
  unfold linksC allJ
  rw [kindsF_J, kindsF_J, List.foldl_append]
/-- a list of joined cells, none empty, all on the board -/
def JOk (n : Nat) (j : List Int) : Prop := j ≠ [] ∧ ∀ c ∈ j, 0 ≤ c ∧ c < n
theorem joinedP_ok {n : Nat} {c : Int} (hc : 0 ≤ c ∧ c < n) {p : PathD} (hp : PathR n p) : JOk n (joinedP c p) := by
  refine ⟨by simp [joinedP], fun d hd => ?_⟩
  unfold joinedP at hd
  rw [List.mem_append, List.mem_flatMap] at hd
  rcases hd with hd | ⟨a, ha, hd⟩
  · simp only [List.mem_cons, List.not_mem_nil, or_false] at hd
    rcases hd with rfl | rfl
    · exact hc
    · exact hp.1
  · exact hp.2.2 a ha d hd
theorem cellsJ_ok {n : Nat} : ∀ (k : List (List PathD)) (c : Nat), c + k.length ≤ n → (∀ x ∈ k, ∀ p ∈ x, PathR n p) → ∀ j ∈ cellsJ c k, JOk n j
  | [], _, _, _, j, hj => by simp [cellsJ] at hj
  | ps :: k, c, hc, h, j, hj => by
    simp only [List.length_cons] at hc
    rw [cellsJ, List.mem_append] at hj
    rcases hj with hj | hj
    · obtain ⟨p, hp, rfl⟩ := List.mem_map.1 hj
      exact joinedP_ok ⟨by omega, by omega⟩ (h ps (by simp) p hp)
    · exact cellsJ_ok k (c + 1) (by omega) (fun x hx => h x (by simp [hx])) j hj
theorem kindsJ_ok {n : Nat} {s : List (List (List PathD))} (h : SideR n s) : ∀ j ∈ kindsJ s, JOk n j := by
  intro j hj
  obtain ⟨k, hk, hj⟩ := List.mem_flatMap.1 hj
  obtain ⟨h1, h2⟩ := h.2 k hk
  exact cellsJ_ok k 0 (by omega) (fun x hx => (h2 x hx).2) j hj
theorem allJ_ok {n : Nat} {c : CodeD} (h1 : SideR n c.1) (h2 : SideR n c.2) : ∀ j ∈ allJ c, JOk n j := by
  intro j hj
  rcases List.mem_append.1 hj with hj | hj
  · exact kindsJ_ok h1 j hj
  · exact kindsJ_ok h2 j hj
/-! ### one join -/
theorem joinJ_spec {l : List Int} (hl : LinkOk l) {n : Nat} (hn : n ≤ 64) {j : List Int} (hj : JOk n j) :
    LinkOk (joinJ l j) ∧ ∃ m, (∃ c ∈ j, m = rootL l c) ∧ ∀ x, 0 ≤ x → x < 64 → ((∃ c ∈ j, rootL l x = rootL l c) → rootL (joinJ l j) x = m) ∧
      ((¬ ∃ c ∈ j, rootL l x = rootL l c) → rootL (joinJ l j) x = rootL l x) := by
  obtain ⟨hne, hr⟩ := hj
  cases j with
  | nil => exact absurd rfl hne
  | cons a j =>
    have ha := hr a (by simp)
    obtain ⟨h1, h2⟩ := joinsL_spec hl (first := a) ⟨ha.1, by omega⟩ j (fun c hc => by have := hr c (by simp [hc]); omega)
    obtain ⟨⟨c0, hc0, e0⟩, _⟩ := leastL_mem l a j
    refine ⟨h1, leastL l a j, ⟨c0, List.mem_cons.2 hc0, e0⟩, fun x x0 x1 => ?_⟩
    obtain ⟨g1, g2⟩ := h2 x x0 x1
    exact ⟨fun ⟨c, hc, e⟩ => g1 ⟨c, List.mem_cons.1 hc, e⟩, fun h => g2 fun ⟨c, hc, e⟩ => h ⟨c, List.mem_cons.2 hc, e⟩⟩
theorem joinJ_keep {l : List Int} (hl : LinkOk l) {n : Nat} (hn : n ≤ 64) {j : List Int} (hj : JOk n j) {x y : Int} (x0 : 0 ≤ x) (x1 : x < 64) (y0 : 0 ≤ y) (y1 : y < 64)
    (h : rootL l x = rootL l y) : rootL (joinJ l j) x = rootL (joinJ l j) y := by
  obtain ⟨_, m, _, h2⟩ := joinJ_spec hl hn hj
  obtain ⟨a1, a2⟩ := h2 x x0 x1
  obtain ⟨b1, b2⟩ := h2 y y0 y1
  by_cases hc : ∃ c ∈ j, rootL l x = rootL l c
  · rw [a1 hc, b1 (by rw [← h]; exact hc)]
  · rw [a2 hc, b2 (by rw [← h]; exact hc), h]
theorem joinJ_same {l : List Int} (hl : LinkOk l) {n : Nat} (hn : n ≤ 64) {j : List Int} (hj : JOk n j) {x y : Int} (hx : x ∈ j) (hy : y ∈ j) : rootL (joinJ l j) x = rootL (joinJ l j) y := by
  obtain ⟨_, m, _, h2⟩ := joinJ_spec hl hn hj
  have a := hj.2 x hx
  have b := hj.2 y hy
  rw [(h2 x a.1 (by omega)).1 ⟨x, hx, rfl⟩, (h2 y b.1 (by omega)).1 ⟨y, hy, rfl⟩]
/-- a set of cells that has all cells of a list, or none -/
def Closed (S : Int → Prop) (all : List (List Int)) : Prop := ∀ j ∈ all, ∀ x ∈ j, ∀ y ∈ j, S x → S y
theorem joinJ_closed {S : Int → Prop} {l : List Int} (hl : LinkOk l) {n : Nat} (hn : n ≤ 64) {j : List Int} (hj : JOk n j) (hS : ∀ x ∈ j, ∀ y ∈ j, S x → S y)
    (hP : ∀ x y, 0 ≤ x → x < 64 → 0 ≤ y → y < 64 → rootL l x = rootL l y → S x → S y) :
    ∀ x y, 0 ≤ x → x < 64 → 0 ≤ y → y < 64 → rootL (joinJ l j) x = rootL (joinJ l j) y → S x → S y := by
  intro x y x0 x1 y0 y1 h hx
  obtain ⟨_, m, ⟨c0, hc0, em⟩, h2⟩ := joinJ_spec hl hn hj
  obtain ⟨a1, a2⟩ := h2 x x0 x1
  obtain ⟨b1, b2⟩ := h2 y y0 y1
  have hb := hj.2
  by_cases hc : ∃ c ∈ j, rootL l x = rootL l c
  · by_cases hd : ∃ d ∈ j, rootL l y = rootL l d
    · obtain ⟨c, hc, e⟩ := hc
      obtain ⟨d, hd, f⟩ := hd
      have c1 := hb c hc
      have d1 := hb d hd
      have s1 := hP x c x0 x1 c1.1 (by omega) e hx
      exact hP d y d1.1 (by omega) y0 y1 f.symm (hS c hc d hd s1)
    · rw [a1 hc, b2 hd] at h
      exact absurd ⟨c0, hc0, by rw [← h, em]⟩ hd
  · by_cases hd : ∃ d ∈ j, rootL l y = rootL l d
    · rw [a2 hc, b1 hd] at h
      exact absurd ⟨c0, hc0, by rw [h, em]⟩ hc
    · rw [a2 hc, b2 hd] at h
      exact hP x y x0 x1 y0 y1 h hx
/-! ### all joins -/
theorem foldJ_ok {n : Nat} (hn : n ≤ 64) : ∀ (all : List (List Int)) {l : List Int}, LinkOk l → (∀ j ∈ all, JOk n j) → LinkOk (all.foldl joinJ l)
  | [], _, hl, _ => hl
  | j :: all, l, hl, h => foldJ_ok hn all (joinJ_spec hl hn (h j (by simp))).1 (fun k hk => h k (by simp [hk]))
theorem foldJ_keep {n : Nat} (hn : n ≤ 64) {x y : Int} (x0 : 0 ≤ x) (x1 : x < 64) (y0 : 0 ≤ y) (y1 : y < 64) : ∀ (all : List (List Int)) {l : List Int}, LinkOk l → (∀ j ∈ all, JOk n j) →
    rootL l x = rootL l y → rootL (all.foldl joinJ l) x = rootL (all.foldl joinJ l) y
  | [], _, _, _, h => h
  | j :: all, l, hl, hj, h => foldJ_keep hn x0 x1 y0 y1 all (joinJ_spec hl hn (hj j (by simp))).1 (fun k hk => hj k (by simp [hk])) (joinJ_keep hl hn (hj j (by simp)) x0 x1 y0 y1 h)
theorem foldJ_same {n : Nat} (hn : n ≤ 64) : ∀ (all : List (List Int)) {l : List Int}, LinkOk l → (∀ j ∈ all, JOk n j) → ∀ j ∈ all, ∀ x ∈ j, ∀ y ∈ j, rootL (all.foldl joinJ l) x = rootL (all.foldl joinJ l) y
  | [], _, _, _, j, hj, _, _, _, _ => by simp at hj
  | k :: all, l, hl, h, j, hj, x, hx, y, hy => by
    have hk := h k (by simp)
    rw [List.foldl_cons]
    rcases List.mem_cons.1 hj with rfl | hj
    · have a := hk.2 x hx
      have b := hk.2 y hy
      exact foldJ_keep hn a.1 (by omega) b.1 (by omega) all (joinJ_spec hl hn hk).1 (fun k hk => h k (by simp [hk])) (joinJ_same hl hn hk hx hy)
    · exact foldJ_same hn all (joinJ_spec hl hn hk).1 (fun k hk => h k (by simp [hk])) j hj x hx y hy
theorem foldJ_closed {S : Int → Prop} {n : Nat} (hn : n ≤ 64) : ∀ (all : List (List Int)) {l : List Int}, LinkOk l → (∀ j ∈ all, JOk n j) → Closed S all →
    (∀ x y, 0 ≤ x → x < 64 → 0 ≤ y → y < 64 → rootL l x = rootL l y → S x → S y) →
    ∀ x y, 0 ≤ x → x < 64 → 0 ≤ y → y < 64 → rootL (all.foldl joinJ l) x = rootL (all.foldl joinJ l) y → S x → S y
  | [], _, _, _, _, hP => hP
  | j :: all, l, hl, hj, hS, hP => foldJ_closed hn all (joinJ_spec hl hn (hj j (by simp))).1 (fun k hk => hj k (by simp [hk])) (fun k hk => hS k (by simp [hk]))
      (joinJ_closed hl hn (hj j (by simp)) (hS j (by simp)) hP)
/-! ### the names of regions -/
theorem names_same {n : Nat} (hn : n ≤ 64) {c : CodeD} (h1 : SideR n c.1) (h2 : SideR n c.2) : ∀ j ∈ allJ c, ∀ x ∈ j, ∀ y ∈ j, nth (namesL (linksC c) n) x.toNat = nth (namesL (linksC c) n) y.toNat := by
  intro j hj x hx y hy
  have hJ := allJ_ok h1 h2
  have a := (hJ j hj).2 x hx
  have b := (hJ j hj).2 y hy
  rw [nth_namesL _ a.1 a.2, nth_namesL _ b.1 b.2, linksC_J]
  exact foldJ_same hn _ idL_ok hJ j hj x hx y hy
theorem names_least {n : Nat} (hn : n ≤ 64) {c : CodeD} (h1 : SideR n c.1) (h2 : SideR n c.2) {x : Int} (x0 : 0 ≤ x) (x1 : x < n) :
    0 ≤ nth (namesL (linksC c) n) x.toNat ∧ nth (namesL (linksC c) n) x.toNat ≤ x ∧ nth (namesL (linksC c) n) (nth (namesL (linksC c) n) x.toNat).toNat = nth (namesL (linksC c) n) x.toNat := by
  have hl := linksC_ok hn h1 h2
  obtain ⟨a, b, d⟩ := rootL_spec hl x0 (by omega)
  rw [nth_namesL _ x0 x1, nth_namesL _ a (by omega)]
  refine ⟨a, b, ?_⟩
  rw [rootL_step hl a (by omega), if_pos d]
theorem names_reach {S : Int → Prop} {n : Nat} (hn : n ≤ 64) {c : CodeD} (h1 : SideR n c.1) (h2 : SideR n c.2) (hS : Closed S (allJ c)) {x : Int} (x0 : 0 ≤ x) (x1 : x < n)
    (h : S (nth (namesL (linksC c) n) x.toNat)) : S x := by
  obtain ⟨a, b, d⟩ := names_least hn h1 h2 x0 x1
  refine foldJ_closed (S := S) hn (allJ c) idL_ok (allJ_ok h1 h2) hS (fun u v u0 u1 v0 v1 e hu => ?_) _ _ a (by omega) x0 (by omega) ?_ h
  · have e1 := rootL_id (c := u.toNat) (by omega)
    have e2 := rootL_id (c := v.toNat) (by omega)
    rw [show ((u.toNat : Nat) : Int) = u by omega] at e1
    rw [show ((v.toNat : Nat) : Int) = v by omega] at e2
    rw [e1, e2] at e
    rw [← e]; exact hu
  · rw [← linksC_J, ← nth_namesL (linksC c) a (show nth (namesL (linksC c) n) x.toNat < n by omega), ← nth_namesL (linksC c) x0 x1]
    exact d
/-! ### reached cells -/
def addAll (out l : List Int) : List Int := l.foldl (fun out c => if c ∈ out then out else out ++ [c]) out
def meets (out l : List Int) : Bool := l.any fun c => decide (c ∈ out)
def growR (out l : List Int) : List Int := if meets out l then addAll out l else out
def passR (all : List (List Int)) (out : List Int) : List Int := all.foldl growR out
def reachF (all : List (List Int)) : Nat → List Int → List Int
  | 0, out => out
  | f + 1, out => if (passR all out).length = out.length then out else reachF all f (passR all out)
theorem addAll_pre (l : List Int) : ∀ out : List Int, ∃ t, addAll out l = out ++ t := by
  induction l with
  | nil => intro out; exact ⟨[], by simp [addAll]⟩
  | cons c l ih =>
    intro out
    show ∃ t, addAll (if c ∈ out then out else out ++ [c]) l = out ++ t
    split
    · exact ih out
    · obtain ⟨t, e⟩ := ih (out ++ [c])
      exact ⟨c :: t, by rw [e]; simp⟩
theorem addAll_all (l : List Int) : ∀ out : List Int, ∀ c ∈ l, c ∈ addAll out l := by
  induction l with
  | nil => intro out c hc; simp at hc
  | cons d l ih =>
    intro out c hc
    show c ∈ addAll (if d ∈ out then out else out ++ [d]) l
    rcases List.mem_cons.1 hc with rfl | hc
    · obtain ⟨t, e⟩ := addAll_pre l (if c ∈ out then out else out ++ [c])
      rw [e]
      split
      · rename_i h; exact List.mem_append_left _ h
      · simp
    · exact ih _ c hc
theorem growR_pre (l out : List Int) : ∃ t, growR out l = out ++ t := by
  unfold growR
  split
  · exact addAll_pre l out
  · exact ⟨[], by simp⟩
theorem passR_pre (all : List (List Int)) : ∀ out : List Int, ∃ t, passR all out = out ++ t := by
  induction all with
  | nil => intro out; exact ⟨[], by simp [passR]⟩
  | cons l all ih =>
    intro out
    show ∃ t, passR all (growR out l) = out ++ t
    obtain ⟨t, e⟩ := growR_pre l out
    obtain ⟨u, f⟩ := ih (growR out l)
    exact ⟨t ++ u, by rw [f, e]; simp⟩
theorem pre_len {out t r : List Int} (h : r = out ++ t) (hl : r.length = out.length) : r = out := by
  rw [h, List.length_append] at hl
  rw [h, List.length_eq_zero_iff.1 (show t.length = 0 by omega), List.append_nil]
theorem passR_len (all : List (List Int)) (out : List Int) : out.length ≤ (passR all out).length := by
  obtain ⟨t, e⟩ := passR_pre all out
  rw [e, List.length_append]; omega
theorem growR_len (out l : List Int) : out.length ≤ (growR out l).length := by
  obtain ⟨t, e⟩ := growR_pre l out
  rw [e, List.length_append]; omega
theorem addAll_len (out l : List Int) : out.length ≤ (addAll out l).length := by
  obtain ⟨t, e⟩ := addAll_pre l out
  rw [e, List.length_append]; omega
theorem passR_closed (all : List (List Int)) : ∀ out : List Int, (passR all out).length = out.length → Closed (fun c => c ∈ out) all := by
  induction all with
  | nil => intro out _ j hj; simp at hj
  | cons l all ih =>
    intro out h
    obtain ⟨t, e⟩ := growR_pre l out
    obtain ⟨u, f⟩ := passR_pre all (growR out l)
    have h' : (passR all (growR out l)).length = out.length := h
    rw [f, e] at h'
    simp only [List.length_append] at h'
    have ht : t = [] := List.length_eq_zero_iff.1 (by omega)
    have hg : growR out l = out := by rw [e, ht, List.append_nil]
    intro j hj x hx y hy hxo
    rcases List.mem_cons.1 hj with rfl | hj
    · have hm : meets out j = true := List.any_eq_true.2 ⟨x, hx, by simpa using hxo⟩
      unfold growR at hg
      rw [if_pos hm] at hg
      show y ∈ out
      rw [← hg]
      exact addAll_all j out y hy
    · have h2 : (passR all (growR out l)).length = out.length := h
      rw [hg] at h2
      exact ih out h2 j hj x hx y hy hxo
/-- distinct cells of a board -/
def CellsN (n : Nat) (out : List Int) : Prop := out.Nodup ∧ ∀ c ∈ out, 0 ≤ c ∧ c < n
theorem addAll_cells {n : Nat} (l : List Int) : ∀ out : List Int, CellsN n out → (∀ c ∈ l, 0 ≤ c ∧ c < n) → CellsN n (addAll out l) := by
  induction l with
  | nil => intro out h _; exact h
  | cons d l ih =>
    intro out h hl
    show CellsN n (addAll (if d ∈ out then out else out ++ [d]) l)
    refine ih _ ?_ (fun c hc => hl c (by simp [hc]))
    split
    · exact h
    · rename_i hd
      refine ⟨?_, fun c hc => ?_⟩
      · rw [List.nodup_append]
        refine ⟨h.1, by simp, fun a ha b hb => ?_⟩
        simp only [List.mem_singleton] at hb
        subst hb
        rintro rfl
        exact hd ha
      · rcases List.mem_append.1 hc with hc | hc
        · exact h.2 c hc
        · simp only [List.mem_singleton] at hc
          subst hc
          exact hl c (by simp)
theorem growR_cells {n : Nat} {l out : List Int} (h : CellsN n out) (hl : ∀ c ∈ l, 0 ≤ c ∧ c < n) : CellsN n (growR out l) := by
  unfold growR
  split
  · exact addAll_cells l out h hl
  · exact h
theorem passR_cells {n : Nat} (all : List (List Int)) : ∀ out : List Int, CellsN n out → (∀ l ∈ all, ∀ c ∈ l, 0 ≤ c ∧ c < n) → CellsN n (passR all out) := by
  induction all with
  | nil => intro out h _; exact h
  | cons l all ih => intro out h hl; exact ih _ (growR_cells h (hl l (by simp))) (fun k hk => hl k (by simp [hk]))
theorem cells_len {n : Nat} {out : List Int} (h : CellsN n out) : out.length ≤ n := nodup_le n out h.1 h.2
theorem reachF_spec {n : Nat} (all : List (List Int)) (hl : ∀ l ∈ all, ∀ c ∈ l, 0 ≤ c ∧ c < n) : ∀ (f : Nat) (out : List Int), CellsN n out → n < f + out.length →
    Closed (fun c => c ∈ reachF all f out) all ∧ ∀ c ∈ out, c ∈ reachF all f out
  | 0, out, h, hf => by have := cells_len h; omega
  | f + 1, out, h, hf => by
    rw [reachF]
    split
    · rename_i e
      exact ⟨passR_closed all out e, fun c hc => hc⟩
    · rename_i e
      have := passR_len all out
      obtain ⟨a, b⟩ := reachF_spec all hl f (passR all out) (passR_cells all out h hl) (by omega)
      refine ⟨a, fun c hc => b c ?_⟩
      obtain ⟨t, e⟩ := passR_pre all out
      rw [e]
      exact List.mem_append_left _ hc
end Go.Av
end
section
set_option linter.unusedSimpArgs false
set_option linter.unusedVariables false
open Go Go.Proofs
set_option maxRecDepth 20000
set_option maxHeartbeats 4000000
namespace Go.Av
end Go.Av
end
section
set_option linter.unusedSimpArgs false
set_option linter.unusedVariables false
set_option maxRecDepth 8000
open Go Go.Proofs
namespace Go.Av
/-- names of regions -/
structure OfOk (of : List Int) : Prop where
  r : ∀ c, c < of.length → 0 ≤ nth of c ∧ nth of c ≤ c
  root : ∀ c, c < of.length → nth of (nth of c).toNat = nth of c
theorem ofOk_namesL {n : Nat} (hn : n ≤ 64) {c : CodeD} (h1 : SideR n c.1) (h2 : SideR n c.2) : OfOk (namesL (linksC c) n) := by
  refine ⟨fun x hx => ?_, fun x hx => ?_⟩ <;> rw [show (namesL (linksC c) n).length = n by simp [namesL]] at hx <;> obtain ⟨a, b, d⟩ := names_least hn h1 h2 (x := x) (by omega) (by omega) <;> rw [show ((x : Int)).toNat = x by omega] at *
  · exact ⟨a, b⟩
  · exact d
theorem mem_namesU {of : List Int} {c : Int} {n : Nat} : c ∈ namesU of n ↔ 0 ≤ c ∧ c < n ∧ nth of c.toNat = c := by
  unfold namesU
  rw [List.mem_map]
  constructor
  · rintro ⟨x, hx, rfl⟩
    obtain ⟨h1, h2⟩ := List.mem_filter.1 hx
    have := List.mem_range.1 h1
    refine ⟨by omega, by omega, by simpa using h2⟩
  · rintro ⟨h0, h1, h2⟩
    refine ⟨c.toNat, List.mem_filter.2 ⟨List.mem_range.2 (by omega), ?_⟩, by omega⟩
    rw [h2]
    simp; omega
theorem nodup_namesU (of : List Int) (n : Nat) : (namesU of n).Nodup := by
  unfold namesU
  have h : ((List.range n).filter fun (c : Nat) => decide (nth of c = (c : Int))).Nodup := List.Pairwise.filter _ List.nodup_range
  rw [List.Nodup, List.pairwise_map]
  exact h.imp fun hne e => hne (by omega)
theorem OfOk.mem {of : List Int} (h : OfOk of) {c : Nat} (hc : c < of.length) : nth of c ∈ namesU of of.length := by
  have a := h.r c hc
  exact mem_namesU.2 ⟨a.1, by omega, h.root c hc⟩
theorem OfOk.pos {of : List Int} (h : OfOk of) (hl : 1 ≤ of.length) : 1 ≤ (namesU of of.length).length := by
  have := h.mem (c := 0) (by omega)
  exact List.length_pos_of_mem this
theorem nodup_nth {l : List Int} (h : l.Nodup) {i j : Nat} (hi : i < l.length) (hj : j < l.length) (e : nth l i = nth l j) : i = j := by
  rw [nth_eq _ _ hi, nth_eq _ _ hj] at e
  have hp := List.pairwise_iff_getElem.1 h
  rcases Nat.lt_trichotomy i j with h1 | h1 | h1
  · exact absurd e (hp i j hi hj h1)
  · exact h1
  · exact absurd e.symm (hp j i hj hi h1)
theorem nth_rangeMap {α : Type} [Inhabited α] (f : Nat → α) {n c : Nat} (h : c < n) : nth ((List.range n).map f) c = f c := by
  have hl : c < (List.range n).length := by simpa using h
  rw [nth_map _ _ _ hl, nth_eq _ _ hl, List.getElem_range]
theorem nth_partL (of at_ : List Int) (name : Int) {k c : Nat} (h : c < k) : nth (partL of at_ name k) c = if nth of c = name then nth at_ c else 0 := nth_rangeMap _ h
theorem list_ext_nth {α : Type} [Inhabited α] {a b : List α} (hl : a.length = b.length) (h : ∀ i, i < a.length → nth a i = nth b i) : a = b := by
  refine List.ext_getElem hl fun i h1 h2 => ?_
  have := h i h1
  rwa [nth_eq _ _ h1, nth_eq _ _ h2] at this
/-- a part of a position is valid -/
theorem partP_ok {g : GameD} {p : PosD} (hp : POk g p) (of : List Int) (name : Int) : POk g (partP of p name) := by
  refine ⟨?_, fun c hc => ?_, hp.h0, hp.h1, hp.r0, hp.r1, hp.s⟩
  · show ((partL of p.at_ name p.at_.length).length : Int) = g.cells
    rw [partL_len]; exact hp.al
  · obtain ⟨i, hi, rfl⟩ := List.mem_map.1 hc
    split
    · exact hp.av _ (nth_mem (List.mem_range.1 hi))
    · omega
theorem partP_part (of : List Int) (p : PosD) (name : Int) : partP of (partP of p name) name = partP of p name := by
  unfold partP
  simp only [partL_len]
  congr 1
  refine List.map_congr_left fun c hc => ?_
  rw [nth_partL _ _ _ (List.mem_range.1 hc)]
  split <;> rfl
/-! ### joined positions -/
/-- is each the part of itself, with the side of the first -/
def okJ (of : List Int) (l : List PosD) (k : Nat) : Bool := (List.range k).all fun i => decide ((nth l i).side = (nth l 0).side) && decide (cmpP (nth l i) (partP of (nth l i) (nth (namesU of of.length) i)) = 0)
theorem okJ_succ (of : List Int) (l : List PosD) (k : Nat) : okJ of l (k + 1) = (okJ of l k && (decide ((nth l k).side = (nth l 0).side) && decide (cmpP (nth l k) (partP of (nth l k) (nth (namesU of of.length) k)) = 0))) := by
  unfold okJ; rw [List.range_succ, List.all_append]; simp
def sumA (l : List PosD) : Nat → Nat → Int
  | 0, _ => 0
  | k + 1, c => sumA l k c + nth (nth l k).at_ c
def refA (of names : List Int) (l : List PosD) : Nat → Nat → Int
  | 0, _ => 0
  | k + 1, c => if nth of c = nth names k then nth (nth l k).at_ c else refA of names l k c
def joinAt (l : List PosD) (n : Nat) : List Int := (List.range n).map (sumA l l.length)
def joinP (l : List PosD) (n : Nat) : PosD := { nth l 0 with at_ := joinAt l n }
theorem okJ_at {of : List Int} {l : List PosD} {k i : Nat} (h : okJ of l k = true) (hi : i < k) : (nth l i).side = (nth l 0).side ∧ nth l i = partP of (nth l i) (nth (namesU of of.length) i) := by
  have := List.all_eq_true.1 h i (List.mem_range.2 hi)
  simp only [Bool.and_eq_true, decide_eq_true_eq] at this
  exact ⟨this.1, cmpP_eq.1 this.2⟩
theorem okJ_cell {of : List Int} {l : List PosD} {k i : Nat} (h : okJ of l k = true) (hi : i < k) {c : Nat} (hc : c < (nth l i).at_.length) : nth (nth l i).at_ c = if nth of c = nth (namesU of of.length) i then nth (nth l i).at_ c else 0 := by
  have e := congrArg PosD.at_ (okJ_at h hi).2
  conv => lhs; rw [e]
  exact nth_partL of _ _ hc
theorem sumA_zero {of : List Int} {l : List PosD} {k n : Nat} (h : okJ of l k = true) (hl : ∀ p ∈ l, p.at_.length = n) (hk : k ≤ l.length) {c : Nat} (hc : c < n) :
    ∀ i, i ≤ k → (∀ j, j < i → nth of c ≠ nth (namesU of of.length) j) → sumA l i c = 0
  | 0, _, _ => rfl
  | i + 1, hi, hne => by
    have hlen := hl _ (nth_mem (show i < l.length by omega))
    rw [sumA, sumA_zero h hl hk hc i (by omega) (fun j hj => hne j (by omega)), okJ_cell h (show i < k by omega) (by omega), if_neg (hne i (by omega))]
    rfl
/-- what is added up is what the region's part has -/
theorem sumA_ref {of : List Int} {l : List PosD} {n : Nat} (hof : of.length = n) (hll : l.length ≤ (namesU of of.length).length) (h : okJ of l l.length = true) (hl : ∀ p ∈ l, p.at_.length = n) {c : Nat} (hc : c < n) :
    ∀ k, k ≤ l.length → sumA l k c = refA of (namesU of of.length) l k c
  | 0, _ => rfl
  | k + 1, hk => by
    have hlen := hl _ (nth_mem (show k < l.length by omega))
    have ih := sumA_ref hof hll h hl hc k (by omega)
    rw [sumA, refA, okJ_cell h (show k < l.length by omega) (by omega)]
    split
    · rename_i e
      rw [sumA_zero h hl (Nat.le_refl _) hc k (by omega) (fun j hj e' => ?_)]
      · omega
      · have := nodup_nth (nodup_namesU of of.length) (i := k) (j := j) (by omega) (by omega) (e.symm.trans e')
        omega
    · rw [ih]; omega
theorem refA_at {of names : List Int} {l : List PosD} (hnd : names.Nodup) {c : Nat} {i : Nat} (hn : i < names.length) (e : nth of c = nth names i) : ∀ k, i < k → k ≤ names.length → refA of names l k c = nth (nth l i).at_ c
  | 0, h, _ => by omega
  | k + 1, h, hk => by
    rw [refA]
    by_cases hik : i = k
    · subst hik; rw [if_pos e]
    · rw [if_neg, refA_at hnd hn e k (by omega) (by omega)]
      intro e'
      exact hik (nodup_nth hnd hn (by omega) (e.symm.trans e'))
/-- the parts of a position -/
def partsP (of : List Int) (p : PosD) : List PosD := (namesU of of.length).map (partP of p)
theorem nth_partsP {of : List Int} {p : PosD} {i : Nat} (hi : i < (namesU of of.length).length) : nth (partsP of p) i = partP of p (nth (namesU of of.length) i) := nth_map _ _ _ hi
/-- a list of parts, one for each region, all with the same side -/
structure PartsOk (g : GameD) (of : List Int) (l : List PosD) (side : Int) : Prop where
  len : l.length = (namesU of of.length).length
  ok : ∀ p ∈ l, POk g p
  sd : ∀ p ∈ l, p.side = side
  part : ∀ i, i < l.length → nth l i = partP of (nth l i) (nth (namesU of of.length) i)
theorem partsP_ok {g : GameD} {p : PosD} (hp : POk g p) (of : List Int) : PartsOk g of (partsP of p) p.side := by
  refine ⟨by simp [partsP], fun q hq => ?_, fun q hq => ?_, fun i hi => ?_⟩
  · obtain ⟨x, _, rfl⟩ := List.mem_map.1 hq; exact partP_ok hp of x
  · obtain ⟨x, _, rfl⟩ := List.mem_map.1 hq; rfl
  · have hi' : i < (namesU of of.length).length := by simpa [partsP] using hi
    rw [nth_partsP hi', partP_part]
theorem PartsOk.okJ {g : GameD} {of : List Int} {l : List PosD} {side : Int} (h : PartsOk g of l side) : okJ of l l.length = true := by
  refine List.all_eq_true.2 fun i hi => ?_
  have hi' := List.mem_range.1 hi
  simp only [Bool.and_eq_true, decide_eq_true_eq]
  refine ⟨?_, cmpP_eq.2 (h.part i hi')⟩
  rw [h.sd _ (nth_mem hi'), h.sd _ (nth_mem (by omega))]
/-- in a normal game nobody has men in hand, and there are no rights -/
def NoHand (g : GameD) : Prop := (∀ k ∈ g.kinds, k.keep = false) ∧ g.rights = 0
theorem hand_zero {g : GameD} (hn : NoHand g) {l : List Int} (h : HandOk g l) : l = List.replicate g.kinds.length 0 := by
  refine list_ext_nth (by rw [h.len, List.length_replicate]) fun i hi => ?_
  have hv := h.v i hi
  have hk := hn.1 _ (nth_mem (show i < g.kinds.length by have := h.len; omega))
  have : nth (List.replicate g.kinds.length (0 : Int)) i = 0 := by
    rw [nth_eq _ _ (by rw [List.length_replicate]; have := h.len; omega), List.getElem_replicate]
  rw [this]
  by_cases h0 : 0 < nth l i
  · rw [hv.2.2 h0] at hk; cases hk
  · omega
theorem POk.zero {g : GameD} (hn : NoHand g) {p : PosD} (hp : POk g p) : p.h0 = List.replicate g.kinds.length 0 ∧ p.h1 = List.replicate g.kinds.length 0 ∧ p.rights = 0 := by
  refine ⟨hand_zero hn hp.h0, hand_zero hn hp.h1, ?_⟩
  have a := hp.r0
  have b := hp.r1
  rw [hn.2] at b
  simp at b
  omega
/-- what is joined of parts is valid -/
theorem joinP_at {g : GameD} {of : List Int} (ho : OfOk of) (hof : (of.length : Int) = g.cells) {l : List PosD} {side : Int} (h : PartsOk g of l side) {c i : Nat} (hc : c < of.length) (hi : i < (namesU of of.length).length)
    (e : nth of c = nth (namesU of of.length) i) : nth (joinAt l of.length) c = nth (nth l i).at_ c := by
  unfold joinAt
  rw [nth_rangeMap _ hc, sumA_ref rfl (by rw [h.len]; omega) h.okJ (fun p hp => by have := (h.ok p hp).al; omega) hc _ (Nat.le_refl _)]
  exact refA_at (nodup_namesU _ _) hi e _ (by rw [h.len]; exact hi) (by rw [h.len]; omega)
theorem OfOk.idx {of : List Int} (ho : OfOk of) {c : Nat} (hc : c < of.length) : ∃ i, i < (namesU of of.length).length ∧ nth of c = nth (namesU of of.length) i := by
  obtain ⟨i, hi, e⟩ := List.getElem_of_mem (ho.mem hc)
  exact ⟨i, hi, by rw [nth_eq _ _ hi, e]⟩
theorem joinP_ok {g : GameD} {of : List Int} (ho : OfOk of) (hof : (of.length : Int) = g.cells) (h1 : 1 ≤ of.length) {l : List PosD} {side : Int} (h : PartsOk g of l side) : POk g (joinP l of.length) := by
  have hpos : 0 < l.length := by rw [h.len]; have := ho.pos h1; omega
  have hp := h.ok _ (nth_mem hpos)
  refine ⟨?_, fun x hx => ?_, hp.h0, hp.h1, hp.r0, hp.r1, hp.s⟩
  · show ((joinAt l of.length).length : Int) = g.cells
    simp [joinAt]; exact hof
  · obtain ⟨c, hc, rfl⟩ := List.getElem_of_mem hx
    have hc' : c < of.length := by
      have : (joinP l of.length).at_.length = of.length := by simp [joinP, joinAt]
      omega
    obtain ⟨i, hi, e⟩ := ho.idx hc'
    have := joinP_at ho hof h hc' hi e
    rw [nth_eq _ _ (by simpa [joinAt] using hc')] at this
    show 0 ≤ (joinAt l of.length)[c]'(by simpa [joinAt] using hc') ∧ (joinAt l of.length)[c]'(by simpa [joinAt] using hc') ≤ 2 * g.kinds.length
    rw [this]
    have hq := h.ok _ (nth_mem (show i < l.length by rw [h.len]; exact hi))
    exact hq.av _ (nth_mem (by have := hq.al; omega))
/-- the parts of what is joined are the parts -/
theorem parts_joinP {g : GameD} (hn : NoHand g) {of : List Int} (ho : OfOk of) (hof : (of.length : Int) = g.cells) {l : List PosD} {side : Int} (h : PartsOk g of l side) : partsP of (joinP l of.length) = l := by
  refine list_ext_nth (by simp [partsP, h.len]) fun i hi => ?_
  have hi' : i < (namesU of of.length).length := by simpa [partsP] using hi
  have hil : i < l.length := by rw [h.len]; exact hi'
  have hq := h.ok _ (nth_mem hil)
  have h0l : 0 < l.length := by omega
  have hq0 := h.ok _ (nth_mem h0l)
  obtain ⟨a1, a2, a3⟩ := hq.zero hn
  obtain ⟨b1, b2, b3⟩ := hq0.zero hn
  have hs : (nth l 0).side = (nth l i).side := by rw [h.sd _ (nth_mem h0l), h.sd _ (nth_mem hil)]
  rw [nth_partsP hi', h.part i hil]
  unfold partP joinP
  have hal := hq.al
  have hjl : (joinAt l of.length).length = of.length := by simp [joinAt]
  have hal' : (nth l i).at_.length = of.length := by omega
  simp only [hjl, hal']
  have eat : partL of (joinAt l of.length) (nth (namesU of of.length) i) of.length = partL of (nth l i).at_ (nth (namesU of of.length) i) of.length := by
    refine List.map_congr_left fun c hc => ?_
    have hc' := List.mem_range.1 hc
    by_cases e : nth of c = nth (namesU of of.length) i
    · rw [if_pos e, if_pos e, joinP_at ho hof h hc' hi' e]
    · rw [if_neg e, if_neg e]
  rw [eat, a1, a2, a3, b1, b2, b3, hs]
/-- the parts of a position make it again -/
theorem joinP_parts {g : GameD} {of : List Int} (ho : OfOk of) (hof : (of.length : Int) = g.cells) (h1 : 1 ≤ of.length) {p : PosD} (hp : POk g p) : joinP (partsP of p) of.length = p := by
  have h := partsP_ok hp of
  have hal := hp.al
  have hpos := ho.pos h1
  unfold joinP
  rw [nth_partsP (by omega)]
  have eat : joinAt (partsP of p) of.length = p.at_ := by
    refine list_ext_nth (by simp [joinAt]; omega) fun c hc => ?_
    have hc' : c < of.length := by simpa [joinAt] using hc
    obtain ⟨i, hi, e⟩ := ho.idx hc'
    rw [joinP_at ho hof h hc' hi e, nth_partsP hi]
    show nth (partL of p.at_ _ p.at_.length) c = _
    rw [nth_partL _ _ _ (by omega), if_pos e]
  rw [eat]
  rfl
end Go.Av
end
section
set_option linter.unusedSimpArgs false
set_option linter.unusedVariables false
open Go Go.Proofs
set_option maxRecDepth 20000
set_option maxHeartbeats 4000000
namespace Go.Av
theorem isNaN_pure (x : Int) : Pure Try.prog 72 [.v (.int .i64 x)] (.v (.bool false)) := by
  refine Pure.of (ACallP.of_awp (by kernel_rfl) Try.func72 rfl rfl (Nat.le_of_ble_eq_true rfl) (by kernel_rfl) ?_)
  (repeat (first | with_reducible (first | refine wL fun _ => ?_ | refine wD fun _ => ?_ | refine wE ?_ | refine adrZ.go ?_) | simp [go_sem]))
theorem cCompare_pure (a b : Int) : Pure Try.prog 52 [.v (.int .i64 a), .v (.int .i64 b)] (.v (.int .i64 (number a b))) := by
  refine Pure.of (ACallP.of_awp (by kernel_rfl) Try.func52 rfl rfl (Nat.le_of_ble_eq_true rfl) (by kernel_rfl) ?_)
  (repeat (first | with_reducible (first | refine wL fun _ => ?_ | refine wD fun _ => ?_ | refine wE ?_ | refine adrZ.go ?_) | simp [go_sem]))
  refine ACallP.plain (isNaN_pure a) (by simp [go_sem]) ?_
  (repeat (first | with_reducible (first | refine wL fun _ => ?_ | refine wD fun _ => ?_ | refine wE ?_ | refine adrZ.go ?_) | simp [go_sem]))
  refine ACallP.plain (isNaN_pure b) (by simp [go_sem]) ?_
  unfold number
  by_cases h1 : a < b
  · rw [if_pos h1]
    (repeat (first | with_reducible (first | refine wL fun _ => ?_ | refine wD fun _ => ?_ | refine wE ?_ | refine adrZ.go ?_) | simp [go_sem, h1]))
  · by_cases h2 : b < a
    · rw [if_neg h1, if_pos h2]
      (repeat (first | with_reducible (first | refine wL fun _ => ?_ | refine wD fun _ => ?_ | refine wE ?_ | refine adrZ.go ?_) | simp [go_sem, h1, h2]))
    · rw [if_neg h1, if_neg h2]
      (repeat (first | with_reducible (first | refine wL fun _ => ?_ | refine wD fun _ => ?_ | refine wE ?_ | refine adrZ.go ?_) | simp [go_sem, h1, h2]))
/-- the first that is not 0 -/
def orI : List Int → Int
  | [] => 0
  | x :: l => if x = 0 then orI l else x
theorem cOr_pure (l : List Int) (hl : Fits l) : Pure Try.prog 50 [encIs l] (.v (.int .i64 (orI l))) := by
  refine Pure.of (ACallP.of_awp (by kernel_rfl) Try.func50 rfl rfl (Nat.le_of_ble_eq_true rfl) (by kernel_rfl) ?_)
  unfold Fits at hl
  (repeat (first | with_reducible (first | refine wL fun _ => ?_ | refine wD fun _ => ?_ | refine wE ?_ | refine adrZ.go ?_) | simp [go_sem]))
  refine ALoop.start (ALoop.ind (α := Nat) (fun j => ⟨[(3, .v (.int .i64 0)), (6, encIs l), (7, .v (.int .i64 l.length)), (8, .v (.int .i64 j))], [], 0⟩)
    (fun d j => j + d = l.length ∧ orI l = orI (l.drop j)) ?_ l.length 0 ?_) ?_ ?_
  · rintro d j ⟨i1, i2⟩ hrec
    (repeat (first | with_reducible (first | refine wL fun _ => ?_ | refine wD fun _ => ?_ | refine wE ?_ | refine adrZ.go ?_) | simp [go_sem]))
    refine aIf.mkL (fun hj => ?_) (fun hj => ?_) <;> simp at hj
    · rw [drop_cons hj, orI] at i2
      (repeat (first | with_reducible (first | refine wL fun _ => ?_ | refine wD fun _ => ?_ | refine wE ?_ | refine adrZ.go ?_) | simp [go_sem, hj]))
      by_cases h0 : nth l j = 0
      · rw [if_pos h0] at i2
        (repeat (first | with_reducible (first | refine wL fun _ => ?_ | refine wD fun _ => ?_ | refine wE ?_ | refine adrZ.go ?_) | simp [go_sem, h0]))
        refine ALoop.start (hrec (d - 1) (by omega) (j + 1) ⟨by omega, i2⟩) ?_ (by simp)
        simp [go_sem, Wk_eq]
      · rw [if_neg h0] at i2
        rw [i2]
        (repeat (first | with_reducible (first | refine wL fun _ => ?_ | refine wD fun _ => ?_ | refine wE ?_ | refine adrZ.go ?_) | simp [go_sem, h0]))
    · rw [List.drop_eq_nil_of_le hj, orI] at i2
      rw [i2]
      (repeat (first | with_reducible (first | refine wL fun _ => ?_ | refine wD fun _ => ?_ | refine wE ?_ | refine adrZ.go ?_) | simp [go_sem]))
  · simp
  · simp [go_sem, Wk_eq]
  · simp
theorem sCompare_pure (a b : List Int) (ha : Fits a) (hb : Fits b) : Pure Try.prog 51 [encIs a, encIs b] (.v (.int .i64 (cmpL a b))) := by
  refine Pure.of (ACallP.of_awp (by kernel_rfl) Try.func51 rfl rfl (Nat.le_of_ble_eq_true rfl) (by kernel_rfl) ?_)
  unfold Fits at ha hb
  (repeat (first | with_reducible (first | refine wL fun _ => ?_ | refine wD fun _ => ?_ | refine wE ?_ | refine adrZ.go ?_) | simp [go_sem]))
  refine ALoop.start (ALoop.ind (α := Nat) (fun j => ⟨[(0, encIs a), (1, encIs b), (9, encIs a), (10, .v (.int .i64 a.length)), (11, .v (.int .i64 j))], [], 0⟩)
    (fun d j => j + d = a.length ∧ j ≤ b.length ∧ cmpL a b = cmpL (a.drop j) (b.drop j)) ?_ a.length 0 ?_) ?_ ?_
  · rintro d j ⟨i1, i2, i3⟩ hrec
    (repeat (first | with_reducible (first | refine wL fun _ => ?_ | refine wD fun _ => ?_ | refine wE ?_ | refine adrZ.go ?_) | simp [go_sem]))
    refine aIf.mkL (fun hj => ?_) (fun hj => ?_) <;> simp at hj
    · rw [drop_cons hj] at i3
      (repeat (first | with_reducible (first | refine wL fun _ => ?_ | refine wD fun _ => ?_ | refine wE ?_ | refine adrZ.go ?_) | simp [go_sem, hj]))
      by_cases hk : j < b.length
      · rw [drop_cons hk, cmpL] at i3
        have hk' : ¬ b.length ≤ j := by omega
        (repeat (first | with_reducible (first | refine wL fun _ => ?_ | refine wD fun _ => ?_ | refine wE ?_ | refine adrZ.go ?_) | simp [go_sem, hj, hk, hk']))
        refine ACallP.plain (cCompare_pure _ _) (by simp [go_sem]) ?_
        by_cases he : nth a j = nth b j
        · rw [if_pos he] at i3
          have hn : number (nth a j) (nth b j) = 0 := by simp [number, he]
          rw [hn]
          (repeat (first | with_reducible (first | refine wL fun _ => ?_ | refine wD fun _ => ?_ | refine wE ?_ | refine adrZ.go ?_) | simp [go_sem]))
          refine ALoop.start (hrec (d - 1) (by omega) (j + 1) ⟨by omega, by omega, i3⟩) ?_ (by simp)
          simp [go_sem, Wk_eq]
        · rw [if_neg he] at i3
          have hn : number (nth a j) (nth b j) ≠ 0 := by unfold number; split <;> (try split) <;> omega
          rw [i3]
          (repeat (first | with_reducible (first | refine wL fun _ => ?_ | refine wD fun _ => ?_ | refine wE ?_ | refine adrZ.go ?_) | simp [go_sem, hn]))
      · have hk' : b.length ≤ j := by omega
        rw [List.drop_eq_nil_of_le hk', cmpL_nil_right] at i3
        have : cmpL a b = 1 := by rw [i3]; unfold number; rw [if_neg (by simp only [List.length_cons]; omega), if_pos (by simp only [List.length_cons]; omega)]
        rw [this]
        (repeat (first | with_reducible (first | refine wL fun _ => ?_ | refine wD fun _ => ?_ | refine wE ?_ | refine adrZ.go ?_) | simp [go_sem, hj, hk, hk']))
    · have hja : j = a.length := by omega
      subst hja
      rw [List.drop_eq_nil_of_le (Nat.le_refl _), cmpL_nil_left] at i3
      rw [i3]
      unfold number
      by_cases hb' : a.length < b.length
      · rw [if_pos (by simp; omega)]
        (repeat (first | with_reducible (first | refine wL fun _ => ?_ | refine wD fun _ => ?_ | refine wE ?_ | refine adrZ.go ?_) | simp [go_sem, hb']))
      · rw [if_neg (by simp; omega), if_neg (by omega)]
        (repeat (first | with_reducible (first | refine wL fun _ => ?_ | refine wD fun _ => ?_ | refine wE ?_ | refine adrZ.go ?_) | simp [go_sem, hb']))
  · simp
  · simp [go_sem, Wk_eq]
  · simp
theorem cmpP_or (p q : PosD) : orI [cmpL p.at_ q.at_, cmpL p.h0 q.h0, cmpL p.h1 q.h1, number p.rights q.rights, number p.side q.side] = cmpP p q := by
  unfold cmpP
  simp only [orI]
  repeat' split
  all_goals first | rfl | omega
theorem pCompare_pure (p q : PosD) (hp : FitsP p) (hq : FitsP q) : Pure Try.prog 30 [.agg (encPos p), .agg (encPos q)] (.v (.int .i64 (cmpP p q))) := by
  refine Pure.of (ACallP.of_awp (by kernel_rfl) Try.func30 rfl rfl (Nat.le_of_ble_eq_true rfl) (by kernel_rfl) ?_)
  obtain ⟨p1, p2, p3⟩ := hp
  obtain ⟨q1, q2, q3⟩ := hq
  rw [← cmpP_or]
  have c1 := sCompare_pure _ _ p1 q1
  have c2 := sCompare_pure _ _ p2 q2
  have c3 := sCompare_pure _ _ p3 q3
  have c4 := cCompare_pure p.rights q.rights
  have c5 := cCompare_pure p.side q.side
  generalize cmpL p.at_ q.at_ = x1 at *
  generalize cmpL p.h0 q.h0 = x2 at *
  generalize cmpL p.h1 q.h1 = x3 at *
  generalize number p.rights q.rights = x4 at *
  generalize number p.side q.side = x5 at *
  (repeat (first | with_reducible (first | refine wL fun _ => ?_ | refine wD fun _ => ?_ | refine wE ?_ | refine adrZ.go ?_) | simp [go_sem]))
  try ((with_reducible refine adrZ.go ?_); (try simp [go_sem]))
  refine dCall.plain c1 (by simp [go_sem]) ?_
  (repeat (first | with_reducible (first | refine wL fun _ => ?_ | refine wD fun _ => ?_ | refine wE ?_ | refine adrZ.go ?_) | simp [go_sem]))
  try ((with_reducible refine adrZ.go ?_); (try simp [go_sem]))
  refine dCall.plain c2 (by simp [go_sem]) ?_
  (repeat (first | with_reducible (first | refine wL fun _ => ?_ | refine wD fun _ => ?_ | refine wE ?_ | refine adrZ.go ?_) | simp [go_sem]))
  try ((with_reducible refine adrZ.go ?_); (try simp [go_sem]))
  refine dCall.plain c3 (by simp [go_sem]) ?_
  (repeat (first | with_reducible (first | refine wL fun _ => ?_ | refine wD fun _ => ?_ | refine wE ?_ | refine adrZ.go ?_) | simp [go_sem]))
  try ((with_reducible refine adrZ.go ?_); (try simp [go_sem]))
  refine dCall.plain c4 (by simp [go_sem]) ?_
  (repeat (first | with_reducible (first | refine wL fun _ => ?_ | refine wD fun _ => ?_ | refine wE ?_ | refine adrZ.go ?_) | simp [go_sem]))
  try ((with_reducible refine adrZ.go ?_); (try simp [go_sem]))
  refine dCall.plain c5 (by simp [go_sem]) ?_
  (repeat (first | with_reducible (first | refine wL fun _ => ?_ | refine wD fun _ => ?_ | refine wE ?_ | refine adrZ.go ?_) | simp [go_sem]))
  try ((with_reducible refine adrZ.go ?_); (try simp [go_sem]))
  refine dCall.frz [encIs [x1, x2, x3, x4, x5]] _ [31] [(31, some (.rows false 0 1 ([x1, x2, x3, x4, x5].map encI)))] (cOr_pure _ (by unfold Fits; simp)) ?_ ?_ (by simp [go_sem]) ?_
  · intro p hp
    simp only [List.mem_singleton] at hp
    subst hp
    exact ⟨by simp, 0, 1, _, rfl, by simp [upd, go_sem]⟩
  · intro h₁ hS
    have h7 := hS 31 (by simp)
    simp [go_sem] at h7
    exact .cons (leV_frz h7.symm (by simp) (by simp [applyW, upd]) (by simp [go_sem])) .nil
  · (repeat (first | with_reducible (first | refine wL fun _ => ?_ | refine wD fun _ => ?_ | refine wE ?_ | refine adrZ.go ?_) | simp [go_sem]))
end Go.Av
end
section
set_option linter.unusedSimpArgs false
set_option linter.unusedVariables false
open Go Go.Proofs
set_option maxRecDepth 20000
set_option maxHeartbeats 4000000
namespace Go.Av
/-- the names of the regions of a game -/
def ofG (g : GameD) : List Int := namesL (linksC (codeP g)) g.cells.toNat
theorem ofG_len (g : GameD) : (ofG g).length = g.cells.toNat := by simp [ofG, namesL]
theorem ofG_ok {g : GameD} (hg : GOk g) : OfOk (ofG g) := by
  have := hg.c9
  exact ofOk_namesL (by omega) (sideR_codeP hg 0) (sideR_codeP hg 1)
theorem ofG_cells {g : GameD} (hg : GOk g) : ((ofG g).length : Int) = g.cells := by
  have := hg.c1
  rw [ofG_len]; omega
def nmG (g : GameD) : List Int := namesU (ofG g) (ofG g).length
theorem nmG_len {g : GameD} (hg : GOk g) : 1 ≤ (nmG g).length ∧ (nmG g).length ≤ 9 := by
  have h1 := hg.c1
  have h9 := hg.c9
  have hl := ofG_cells hg
  have := (ofG_ok hg).pos (by omega)
  have := namesU_len (ofG g) (ofG g).length
  unfold nmG
  omega
/-- the first parts -/
def partsI (of names : List Int) (p : PosD) (i : Nat) : List PosD := (names.take i).map (partP of p)
theorem partsI_succ {of names : List Int} {p : PosD} {i : Nat} (h : i < names.length) : partsI of names p (i + 1) = partsI of names p i ++ [partP of p (nth names i)] := by
  unfold partsI; rw [take_succG h]; simp
theorem partsI_len {of names : List Int} {p : PosD} {i : Nat} (h : i ≤ names.length) : (partsI of names p i).length = i := by simp [partsI]; omega
theorem rSplit_pure (g : GameD) (hg : GOk g) (hn : NamesOk g) (p : PosD) (hp : POk g p) : Pure Try.prog 10 [.agg (encGame g), .agg (encPos p)]
    (.tup [encPs (if normalB g then partsP (ofG g) p else []), .v (.int .i64 (if normalB g then 0 else 220))]) := by
  refine Pure.of (ACallP.of_awp (by kernel_rfl) Try.func10 rfl rfl (Nat.le_of_ble_eq_true rfl) (by kernel_rfl) ?_)
  have hN := rNormal_pure g hg hn
  have hO := rOf_pure g hg
  have hl := ofG_cells hg
  have h9 := hg.c9
  have hal := hp.al
  have hofl : (ofG g).length ≤ 1048576 := by omega
  have hM := rNames_pure (ofG g) hofl
  have hP := fun name => rPart_pure (ofG g) p name (by omega) (by omega)
  have hnl := nmG_len hg
  have hres : partsP (ofG g) p = partsI (ofG g) (nmG g) p (nmG g).length := by unfold partsI; rw [List.take_length]; rfl
  rw [hres]
  change Pure _ _ _ (encIs (ofG g)) at hO
  change Pure _ _ _ (encIs (nmG g)) at hM
  have hgb : ∀ n, (∀ c ∈ encGame g, Bel n c) = True := fun n => by simp [go_sem]
  generalize ofG g = of at *
  generalize nmG g = nm at *
  obtain ⟨eg, heg⟩ : ∃ eg, eg = encGame g := ⟨_, rfl⟩
  have hel : eg.length = 9 := by rw [heg]; rfl
  rw [← heg] at hN hO hgb ⊢
  clear heg hres
  cases hnb : normalB g
  · rw [hnb] at hN
    (repeat (first | with_reducible (first | refine wL fun _ => ?_ | refine wD fun _ => ?_ | refine wE ?_ | refine adrZ.go ?_) | simp [go_sem, hel]))
    refine ACallP.plain hN (by simp [go_sem, hgb]) ?_
    (repeat (first | with_reducible (first | refine wL fun _ => ?_ | refine wD fun _ => ?_ | refine wE ?_ | refine adrZ.go ?_) | simp [go_sem, hel]))
    ((try simp only [encProg, encStep, encAct, encAs, encPath, encPt, encOut, encState, encPos, encOs, encSs, encPs, encIs, encGame, List.map_cons, List.map_nil, List.nil_append, List.append_nil, List.cons_append]); (repeat (first | (with_reducible exact LeRow.nil) | (with_reducible exact LeRows.nil) | (with_reducible exact LeV.refl _) | (with_reducible exact LeRow.refl _ _ _ _) | (with_reducible exact LeRows.refl _) | (with_reducible refine LeRow.cons ?_ ?_) | (with_reducible refine LeRows.cons ?_ ?_) | (with_reducible refine LeV.agg ?_) | (with_reducible refine LeV.tup ?_) | (with_reducible refine LeV.fn ?_ ?_) | (with_reducible exact LeV.nil _) | (with_reducible refine leRows_append (LeRows.refl _) ?_) | ((refine leV_frz rfl (by simp) (by simp [frzO, frz1, upd, noH]) ?_); (first | (simp [go_sem]; done) | (simp [go_sem]; exact List.take_of_length_le (by simp)))) | ((refine LeV.frz rfl (by simp) (by simp [frzO, frz1, upd, noH]) ?_); (simp only [List.drop_zero, List.take_succ_cons, List.take_zero, List.map_cons, List.map_nil])) | ((refine LeV.frzP rfl (by simp) (by simp) (by simp [frzO, frz1, upd, noH]) ?_); (simp only [nth_zero, List.drop_zero])))))
  · rw [hnb] at hN
    (repeat (first | with_reducible (first | refine wL fun _ => ?_ | refine wD fun _ => ?_ | refine wE ?_ | refine adrZ.go ?_) | simp [go_sem, hel]))
    refine ACallP.plain hN (by simp [go_sem, hgb]) ?_
    (repeat (first | with_reducible (first | refine wL fun _ => ?_ | refine wD fun _ => ?_ | refine wE ?_ | refine adrZ.go ?_) | simp [go_sem, hel]))
    refine ACallP.plain hO (by simp [go_sem, hgb]) ?_
    (repeat (first | with_reducible (first | refine wL fun _ => ?_ | refine wD fun _ => ?_ | refine wE ?_ | refine adrZ.go ?_) | simp [go_sem, hel]))
    refine ACallP.plain hM (by simp [go_sem]) ?_
    (repeat (first | with_reducible (first | refine wL fun _ => ?_ | refine wD fun _ => ?_ | refine wE ?_ | refine adrZ.go ?_) | simp [go_sem, hel]))
    refine ALoop.start (ALoop.ind (α := Nat) (fun i => ⟨[(3, .ref 1 0 5 0 0), (6, encIs of), (7, .sl 2 i 5 0 i), (16, encIs nm), (17, .int nm.length), (18, .v (.int .i64 i))], [(1, .rows true 0 5 [encPos p]), (2, .rows true i 5 ((partsI of nm p i).map encPos))], 3⟩)
      (fun d i => i + d = nm.length) ?_ nm.length 0 ?_) ?_ ?_
    · rintro d i i1 hrec
      have lp : (partsI of nm p i).length = i := partsI_len (by omega)
      (repeat (first | with_reducible (first | refine wL fun _ => ?_ | refine wD fun _ => ?_ | refine wE ?_ | refine adrZ.go ?_) | simp [go_sem]))
      refine aIf.mkL (fun hi => ?_) (fun hi => ?_) <;> simp at hi
      · have hs := partsI_succ (of := of) (p := p) hi
        (repeat (first | with_reducible (first | refine wL fun _ => ?_ | refine wD fun _ => ?_ | refine wE ?_ | refine adrZ.go ?_) | simp [go_sem, hi]))
        refine ACallP.plain (hP _) (by simp [go_sem]) ?_
        (repeat (first | with_reducible (first | refine wL fun _ => ?_ | refine wD fun _ => ?_ | refine wE ?_ | refine adrZ.go ?_) | simp [go_sem, lp]))
        refine ALoop.start (hrec (d - 1) (by omega) (i + 1) (by omega)) ?_ (by simp)
        simp [go_sem, Wk_eq, hs]
      · have hil : i = nm.length := by omega
        subst hil
        (repeat (first | with_reducible (first | refine wL fun _ => ?_ | refine wD fun _ => ?_ | refine wE ?_ | refine adrZ.go ?_) | simp [go_sem]))
        ((try simp only [encProg, encStep, encAct, encAs, encPath, encPt, encOut, encState, encPos, encOs, encSs, encPs, encIs, encGame, List.map_cons, List.map_nil, List.nil_append, List.append_nil, List.cons_append]); (repeat (first | (with_reducible exact LeRow.nil) | (with_reducible exact LeRows.nil) | (with_reducible exact LeV.refl _) | (with_reducible exact LeRow.refl _ _ _ _) | (with_reducible exact LeRows.refl _) | (with_reducible refine LeRow.cons ?_ ?_) | (with_reducible refine LeRows.cons ?_ ?_) | (with_reducible refine LeV.agg ?_) | (with_reducible refine LeV.tup ?_) | (with_reducible refine LeV.fn ?_ ?_) | (with_reducible exact LeV.nil _) | (with_reducible refine leRows_append (LeRows.refl _) ?_) | ((refine leV_frz rfl (by simp [lp]) (by simp [frzO, frz1, upd, noH]) ?_); (first | (simp [go_sem, lp]; done) | (simp [go_sem, lp]; exact List.take_of_length_le (by simp [lp])))) | ((refine LeV.frz rfl (by simp [lp]) (by simp [frzO, frz1, upd, noH]) ?_); (simp only [List.drop_zero, List.take_succ_cons, List.take_zero, List.map_cons, List.map_nil])) | ((refine LeV.frzP rfl (by simp [lp]) (by simp) (by simp [frzO, frz1, upd, noH]) ?_); (simp only [nth_zero, List.drop_zero])))))
    · simp
    · simp [go_sem, Wk_eq, partsI]
    · simp
end Go.Av
end
section
set_option linter.unusedSimpArgs false
set_option linter.unusedVariables false
open Go Go.Proofs
set_option maxRecDepth 20000
set_option maxHeartbeats 4000000
namespace Go.Av
def zeroP : PosD := ⟨[], [], [], 0, 0⟩
/-- are these parts? -/
def joinOk (g : GameD) (l : List PosD) : Bool := normalB g && (decide (l.length = (nmG g).length) && okJ (ofG g) l l.length)
def joinRes (g : GameD) (l : List PosD) : PosD := if joinOk g l then joinP l (ofG g).length else zeroP
theorem sumA_bound {g : GameD} (hg : GOk g) {l : List PosD} (hl : ∀ p ∈ l, POk g p) {c : Nat} (hc : (c : Int) < g.cells) : ∀ k, k ≤ l.length → 0 ≤ sumA l k c ∧ sumA l k c ≤ 12 * k
  | 0, _ => by simp [sumA]
  | k + 1, hk => by
    have ih := sumA_bound hg hl hc k (by omega)
    have hp := hl _ (nth_mem (show k < l.length by omega))
    have hal := hp.al
    have := hp.av _ (nth_mem (show c < (nth l k).at_.length by omega))
    have k6 := hg.k6
    rw [sumA]
    omega
/-- what has been added up, in the part i up to the cell c -/
def sumQ (l : List PosD) (n i c : Nat) : List Int := (List.range n).map fun x => if x < c then sumA l (i + 1) x else sumA l i x
theorem sumQ_len (l : List PosD) (n i c : Nat) : (sumQ l n i c).length = n := by simp [sumQ]
theorem nth_sumQ (l : List PosD) {n : Nat} (i : Nat) {c : Nat} (hc : c < n) : nth (sumQ l n i c) c = sumA l i c := by
  unfold sumQ; rw [nth_rangeMap _ hc, if_neg (by omega)]
theorem sumQ_succ (l : List PosD) {n : Nat} (i : Nat) {c : Nat} (hc : c < n) : sumQ l n i (c + 1) = (sumQ l n i c).set c (sumA l i c + nth (nth l i).at_ c) := by
  refine list_ext_nth (by simp [sumQ]) fun x hx => ?_
  have hx' : x < n := by simpa [sumQ] using hx
  rw [nth_setE, sumQ_len]
  unfold sumQ
  rw [nth_rangeMap _ hx', nth_rangeMap _ hx']
  by_cases h : c = x
  · subst h
    rw [if_pos (show c < c + 1 by omega), if_pos (show c = c ∧ c < n from ⟨rfl, hc⟩)]; rfl
  · rw [if_neg (show ¬ (c = x ∧ x < n) from fun h' => h h'.1)]
    by_cases h2 : x < c
    · rw [if_pos (show x < c + 1 by omega), if_pos h2]
    · rw [if_neg (show ¬ x < c + 1 by omega), if_neg h2]
theorem sumQ_end (l : List PosD) (n i : Nat) : sumQ l n i n = sumQ l n (i + 1) 0 := by
  refine List.map_congr_left fun x hx => ?_
  have := List.mem_range.1 hx
  rw [if_pos this, if_neg (by omega)]
theorem sumQ_all (l : List PosD) (n : Nat) : sumQ l n l.length 0 = joinAt l n := by
  refine List.map_congr_left fun x hx => ?_
  rw [if_neg (by omega)]
theorem sumQ_zero (l : List PosD) (n : Nat) : sumQ l n 0 0 = List.replicate n 0 := by
  refine list_ext_nth (by simp [sumQ]) fun x hx => ?_
  have hx' : x < n := by simpa [sumQ] using hx
  unfold sumQ
  rw [nth_rangeMap _ hx', if_neg (by omega), nth_eq _ _ (by simpa using hx'), List.getElem_replicate]
  rfl
theorem okJ_false {of : List Int} {l : List PosD} {i : Nat} (hi : i < l.length) (h : (decide ((nth l i).side = (nth l 0).side) && decide (cmpP (nth l i) (partP of (nth l i) (nth (namesU of of.length) i)) = 0)) = false) : okJ of l l.length = false := by
  unfold okJ
  rw [List.all_eq_false]
  exact ⟨i, List.mem_range.2 hi, by simp [h]⟩
theorem rJoin_pure (g : GameD) (hg : GOk g) (hn : NamesOk g) (l : List PosD) (hl : ∀ p ∈ l, POk g p) (hll : l.length ≤ 1048576) : Pure Try.prog 12 [.agg (encGame g), encPs l]
    (.tup [.agg (encPos (joinRes g l)), .v (.int .i64 (if joinOk g l then 0 else 220))]) := by
  refine Pure.of (ACallP.of_awp (by kernel_rfl) Try.func12 rfl rfl (Nat.le_of_ble_eq_true rfl) (by kernel_rfl) ?_)
  have hN := rNormal_pure g hg hn
  have hO := rOf_pure g hg
  have hcl := ofG_cells hg
  have h9 := hg.c9
  have hofl : (ofG g).length ≤ 1048576 := by omega
  have hM := rNames_pure (ofG g) hofl
  have hP := fun (p : PosD) (hp : POk g p) name => rPart_pure (ofG g) p name (by have := hp.al; omega) (by have := hp.al; omega)
  have hV := fun (p : PosD) (hp : POk g p) => Valid_pure g (by have := hg.k6; unfold FitsG; omega) ⟨hg.r0, by have := hg.r4; omega⟩ p (hp.fits hg)
  have hC := fun (p q : PosD) (hp : POk g p) (hq : POk g q) => pCompare_pure p q (hp.fits hg) (hq.fits hg)
  have hnl := nmG_len hg
  change Pure _ _ _ (encIs (ofG g)) at hO
  change Pure _ _ _ (encIs (nmG g)) at hM
  have hgb : ∀ n, (∀ c ∈ encGame g, Bel n c) = True := fun n => by simp [go_sem]
  have hg0 : cel (encGame g) 0 = .v (.int .i64 g.cells) := rfl
  have hjo : joinOk g l = (normalB g && (decide (l.length = (nmG g).length) && okJ (ofG g) l l.length)) := rfl
  have hjr : joinRes g l = if joinOk g l then joinP l (ofG g).length else zeroP := rfl
  have hsb := fun (c : Nat) (hc : (c : Int) < g.cells) k hk => sumA_bound hg hl hc k hk
  have hnm : nmG g = namesU (ofG g) (ofG g).length := rfl
  have hokf := fun i hi h => okJ_false (of := ofG g) (l := l) (i := i) hi h
  have hoks := fun i => okJ_succ (ofG g) l i
  have hpo := fun (p : PosD) (hp : POk g p) name => partP_ok hp (ofG g) name
  have hal := fun p hp => (hl p hp).al
  rw [← hnm] at hokf hoks
  obtain ⟨n, hnn⟩ : ∃ n, n = (ofG g).length := ⟨_, rfl⟩
  rw [← hnn] at hcl hofl hjr
  have hofn := hnn.symm
  generalize ofG g = of at *
  generalize nmG g = nm at *
  obtain ⟨eg, heg⟩ : ∃ eg, eg = encGame g := ⟨_, rfl⟩
  have hel : eg.length = 9 := by rw [heg]; rfl
  have hpok : ∀ p : PosD, POk g p → posOk g p = true := fun p hp => pOk_iff.2 hp
  rw [← hcl] at hg0
  simp only [← hcl] at hal hsb
  rw [← heg] at hN hO hgb hV hg0 ⊢
  clear heg
  cases hnb : normalB g
  · rw [hnb] at hN hjo
    rw [hjr, hjo]
    (repeat (first | with_reducible (first | refine wL fun _ => ?_ | refine wD fun _ => ?_ | refine wE ?_ | refine adrZ.go ?_) | simp [go_sem, hel, zeroP]))
    refine ACallP.plain hN (by simp [go_sem, hgb]) ?_
    (repeat (first | with_reducible (first | refine wL fun _ => ?_ | refine wD fun _ => ?_ | refine wE ?_ | refine adrZ.go ?_) | simp [go_sem, hel]))
  · rw [hnb] at hN hjo
    (repeat (first | with_reducible (first | refine wL fun _ => ?_ | refine wD fun _ => ?_ | refine wE ?_ | refine adrZ.go ?_) | simp [go_sem, hel]))
    refine ACallP.plain hN (by simp [go_sem, hgb]) ?_
    (repeat (first | with_reducible (first | refine wL fun _ => ?_ | refine wD fun _ => ?_ | refine wE ?_ | refine adrZ.go ?_) | simp [go_sem, hel]))
    refine ACallP.plain hO (by simp [go_sem, hgb]) ?_
    (repeat (first | with_reducible (first | refine wL fun _ => ?_ | refine wD fun _ => ?_ | refine wE ?_ | refine adrZ.go ?_) | simp [go_sem, hel]))
    refine ACallP.plain hM (by simp [go_sem]) ?_
    (repeat (first | with_reducible (first | refine wL fun _ => ?_ | refine wD fun _ => ?_ | refine wE ?_ | refine adrZ.go ?_) | simp [go_sem, hel]))
    refine aIf.mkL (fun hlen => ?_) (fun hlen => ?_) <;> simp at hlen
    · have hlen' : ¬ l.length = nm.length := by omega
      have hf : joinOk g l = false := by rw [hjo]; simp [hlen']
      rw [hjr, hf]
      (repeat (first | with_reducible (first | refine wL fun _ => ?_ | refine wD fun _ => ?_ | refine wE ?_ | refine adrZ.go ?_) | simp [go_sem, hel, zeroP]))
    · have hlen' : l.length = nm.length := by omega
      have hl0 : 0 < l.length := by omega
      (repeat (first | with_reducible (first | refine wL fun _ => ?_ | refine wD fun _ => ?_ | refine wE ?_ | refine adrZ.go ?_) | simp [go_sem, hel, hl0, hg0]))
      refine ALoop.start (ALoop.ind (α := Nat) (fun i => ⟨[(2, .ref 0 0 9 0 0), (4, .ref 1 0 5 0 0), (6, encIs of), (7, encIs nm), (8, .ref 2 0 5 0 0), (35, encPs l), (36, .int l.length), (37, .v (.int .i64 i))],
          [(0, .rows true 0 9 [eg]), (1, .rows true 0 5 [[.v (.slice none 0 0), .v (.slice none 0 0), .v (.slice none 0 0), .v (.int .i64 0), .v (.int .i64 0)]]),
           (2, .rows true 0 5 [[.sl 3 0 1 0 n, encIs (nth l 0).h0, encIs (nth l 0).h1, .v (.int .i64 (nth l 0).rights), .v (.int .i64 (nth l 0).side)]]), (3, .rows true 0 1 ((sumQ l n i 0).map encI))], 4⟩)
        (fun d i => i + d = l.length ∧ okJ of l i = true) ?_ l.length 0 ?_) ?_ ?_
      · rintro d i ⟨i1, i2⟩ hrec
        have lq : (sumQ l n i 0).length = n := sumQ_len _ _ _ _
        (repeat (first | with_reducible (first | refine wL fun _ => ?_ | refine wD fun _ => ?_ | refine wE ?_ | refine adrZ.go ?_) | simp [go_sem]))
        refine aIf.mkL (fun hi => ?_) (fun hi => ?_) <;> simp at hi
        · have hm := nth_mem hi
          have hpi := hl _ hm
          have hin : i < nm.length := by omega
          have hVi := hV _ hpi
          rw [hpok _ hpi] at hVi
          have hCi := hC _ _ hpi (hpo _ hpi (nth nm i))
          have hPi := hP _ hpi (nth nm i)
          have hali := hal _ hm
          have hki := hoks i
          rw [i2] at hki
          have hfi := hokf i hi
          (repeat (first | with_reducible (first | refine wL fun _ => ?_ | refine wD fun _ => ?_ | refine wE ?_ | refine adrZ.go ?_) | simp [go_sem, hi, hel]))
          try ((with_reducible refine adrZ.go ?_); (try simp [go_sem]))
          refine dCall.plain hVi (by simp [go_sem, hgb]) ?_
          (repeat (first | with_reducible (first | refine wL fun _ => ?_ | refine wD fun _ => ?_ | refine wE ?_ | refine adrZ.go ?_) | simp [go_sem, hi, hin, hel]))
          try ((with_reducible refine adrZ.go ?_); (try simp [go_sem]))
          refine dGC.plain _ (fun _ => hPi) (by simp [go_sem]) ?_
          (repeat (first | with_reducible (first | refine wL fun _ => ?_ | refine wD fun _ => ?_ | refine wE ?_ | refine adrZ.go ?_) | simp [go_sem, hi, hin, hel]))
          try ((with_reducible refine adrZ.go ?_); (try simp [go_sem]))
          refine dGC.plain _ (fun _ => hCi) (by simp [go_sem]) ?_
          (repeat (first | with_reducible (first | refine wL fun _ => ?_ | refine wD fun _ => ?_ | refine wE ?_ | refine adrZ.go ?_) | simp [go_sem, hi, hin, hel]))
          refine aIf.mkL (fun hc => ?_) (fun hc => ?_)
          · have hf : joinOk g l = false := by
              rw [hjo, hfi (by rw [Bool.and_eq_false_iff]; simp at hc; rcases hc with h | h <;> simp [h])]; simp
            rw [hjr, hf]
            (repeat (first | with_reducible (first | refine wL fun _ => ?_ | refine wD fun _ => ?_ | refine wE ?_ | refine adrZ.go ?_) | simp [go_sem, zeroP]))
          · have hki' : okJ of l (i + 1) = true := by rw [hki]; simp at hc; simp [hc.1, hc.2]
            (repeat (first | with_reducible (first | refine wL fun _ => ?_ | refine wD fun _ => ?_ | refine wE ?_ | refine adrZ.go ?_) | simp [go_sem, hel]))
            refine ALoop.start (ALoop.ind (α := Nat) (fun c => ⟨[(2, .ref 0 0 9 0 0), (4, .ref 1 0 5 0 0), (6, encIs of), (7, encIs nm), (8, .ref 2 0 5 0 0), (35, encPs l), (36, .int l.length), (37, .v (.int .i64 i)), (67, encIs (nth l i).at_), (68, .int (nth l i).at_.length), (69, .v (.int .i64 c))],
                [(0, .rows true 0 9 [eg]), (1, .rows true 0 5 [[.v (.slice none 0 0), .v (.slice none 0 0), .v (.slice none 0 0), .v (.int .i64 0), .v (.int .i64 0)]]),
                 (2, .rows true 0 5 [[.sl 3 0 1 0 n, encIs (nth l 0).h0, encIs (nth l 0).h1, .v (.int .i64 (nth l 0).rights), .v (.int .i64 (nth l 0).side)]]), (3, .rows true 0 1 ((sumQ l n i c).map encI))], 4⟩)
              (fun s c => c + s = n) ?_ n 0 ?_) ?_ ?_
            · rintro s c j1 hrec2
              have lq : (sumQ l n i c).length = n := sumQ_len _ _ _ _
              (repeat (first | with_reducible (first | refine wL fun _ => ?_ | refine wD fun _ => ?_ | refine wE ?_ | refine adrZ.go ?_) | simp [go_sem]))
              refine aIf.mkL (fun hcc => ?_) (fun hcc => ?_) <;> simp at hcc
              · have hcn : c < n := by omega
                have hb := hsb c (by omega) i (by omega)
                have hb2 := hsb c (by omega) (i + 1) (by omega)
                rw [sumA] at hb2
                have hnq := nth_sumQ l i hcn
                have hsq := sumQ_succ l i hcn
                (repeat (first | with_reducible (first | refine wL fun _ => ?_ | refine wD fun _ => ?_ | refine wE ?_ | refine adrZ.go ?_) | simp [go_sem, hcc, hcn, lq, hnq]))
                refine ALoop.start (hrec2 (s - 1) (by omega) (c + 1) (by omega)) ?_ (by simp)
                simp [go_sem, Wk_eq, hsq]
                exact of_eq_true (hgb 4)
              · have hcD : c = n := by omega
                subst hcD
                have hse := sumQ_end l c i
                (repeat (first | with_reducible (first | refine wL fun _ => ?_ | refine wD fun _ => ?_ | refine wE ?_ | refine adrZ.go ?_) | simp [go_sem]))
                refine ALoop.start (hrec (d - 1) (by omega) (i + 1) ⟨by omega, hki'⟩) ?_ (by simp)
                simp [go_sem, Wk_eq, hse]
                exact of_eq_true (hgb 4)
            · simp
            · simp [go_sem, Wk_eq]
              exact of_eq_true (hgb 4)
            · simp
        · have hil : i = l.length := by omega
          subst hil
          have ht : joinOk g l = true := by rw [hjo, i2]; simp [hlen']
          have hjp : joinRes g l = ⟨sumQ l n l.length 0, (nth l 0).h0, (nth l 0).h1, (nth l 0).rights, (nth l 0).side⟩ := by
            rw [hjr, ht, if_pos rfl, sumQ_all]; rfl
          rw [hjp, ht]
          (repeat (first | with_reducible (first | refine wL fun _ => ?_ | refine wD fun _ => ?_ | refine wE ?_ | refine adrZ.go ?_) | simp [go_sem, lq]))
          ((try simp only [encProg, encStep, encAct, encAs, encPath, encPt, encOut, encState, encPos, encOs, encSs, encPs, encIs, encGame, List.map_cons, List.map_nil, List.nil_append, List.append_nil, List.cons_append]); (repeat (first | (with_reducible exact LeRow.nil) | (with_reducible exact LeRows.nil) | (with_reducible exact LeV.refl _) | (with_reducible exact LeRow.refl _ _ _ _) | (with_reducible exact LeRows.refl _) | (with_reducible refine LeRow.cons ?_ ?_) | (with_reducible refine LeRows.cons ?_ ?_) | (with_reducible refine LeV.agg ?_) | (with_reducible refine LeV.tup ?_) | (with_reducible refine LeV.fn ?_ ?_) | (with_reducible exact LeV.nil _) | (with_reducible refine leRows_append (LeRows.refl _) ?_) | ((refine leV_frz rfl (by simp [lq]) (by simp [frzO, frz1, upd, noH]) ?_); (first | (simp [go_sem, lq]; done) | (simp [go_sem, lq]; exact List.take_of_length_le (by simp [lq])))) | ((refine LeV.frz rfl (by simp [lq]) (by simp [frzO, frz1, upd, noH]) ?_); (simp only [List.drop_zero, List.take_succ_cons, List.take_zero, List.map_cons, List.map_nil])) | ((refine LeV.frzP rfl (by simp [lq]) (by simp) (by simp [frzO, frz1, upd, noH]) ?_); (simp only [nth_zero, List.drop_zero])))))
      · exact ⟨by omega, by simp [okJ]⟩
      · simp [go_sem, Wk_eq, sumQ_zero]
        exact of_eq_true (hgb 4)
      · simp
end Go.Av
end
