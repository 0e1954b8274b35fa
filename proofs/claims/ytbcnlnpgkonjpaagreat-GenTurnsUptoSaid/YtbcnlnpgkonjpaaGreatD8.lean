/- Contracts, paths: gen.Compile. -/
import Derived.Test.YtbcnlnpgkonjpaaGreatDO
import Derived.Test.YtbcnlnpgkonjpaaGreatD4
section
set_option linter.unusedSimpArgs false
set_option linter.unusedVariables false
open Go Go.Proofs
set_option maxRecDepth 20000
set_option maxHeartbeats 4000000
namespace Go.Av
theorem compile1_pure (g : GameD) (hg : GOk g) (side : Int) (cell : Int) (prog : List (Int × Int)) (hp : prog.length ≤ 8) :
    Pure Tryz.prog 23 [encProg prog, .fp (encGame g), .fp [.v (.int .i64 side)], .fp [.v (.int .i64 cell)]] (encPt (pathsP g.board side prog cell)) := by
  refine Pure.of (ACallP.of_awp (by kernel_rfl) Tryz.func23 rfl rfl (Nat.le_of_ble_eq_true rfl) (by kernel_rfl) ?_)
  have hP := paths_pure g.board hg.board hg.c1 hg.c9 side prog hp cell
  generalize pathsP g.board side prog cell = R at *
  rw [show encB g.board = [.v (.int .i64 g.cells), encIss g.next, encIs g.turn] from rfl] at hP
  (repeat (first | with_reducible (first | refine wL fun _ => ?_ | refine wD fun _ => ?_ | refine wE ?_ | refine adrZ.go ?_) | simp [go_sem]))
  refine ACallP.plain hP (by simp [go_sem]) ?_
  (repeat (first | with_reducible (first | refine wL fun _ => ?_ | refine wD fun _ => ?_ | refine wE ?_ | refine adrZ.go ?_) | simp [go_sem]))
/-- a list that is filled from its beginning on -/
def fillR (f : Nat → List AV) (z : List AV) (n c : Nat) : List (List AV) := (List.range n).map fun i => if i < c then f i else z
theorem fillR_len (f : Nat → List AV) (z : List AV) (n c : Nat) : (fillR f z n c).length = n := by simp [fillR]
theorem fillR_zero (f : Nat → List AV) (z : List AV) (n : Nat) : List.replicate n z = fillR f z n 0 := by
  unfold fillR
  refine List.ext_getElem (by simp) fun i h1 h2 => ?_
  simp
theorem fillR_set (f : Nat → List AV) (z : List AV) (n c : Nat) : (fillR f z n c).set c (f c) = fillR f z n (c + 1) := by
  unfold fillR
  refine List.ext_getElem (by simp) fun i h1 h2 => ?_
  simp only [List.getElem_set, List.getElem_map, List.getElem_range]
  by_cases h : c = i
  · subst h; simp
  · rw [if_neg h]
    by_cases hi : i < c
    · rw [if_pos hi, if_pos (by omega)]
    · rw [if_neg hi, if_neg (by omega)]
theorem fillR_all (f : Nat → List AV) (z : List AV) (n : Nat) : fillR f z n n = (List.range n).map f := by
  unfold fillR
  refine List.map_congr_left fun i hi => ?_
  rw [if_pos (List.mem_range.1 hi)]
theorem fillR_bel {f : Nat → List AV} {z : List AV} {n c m : Nat} (hf : ∀ i, ∀ x ∈ f i, Bel m x) (hz : ∀ x ∈ z, Bel m x) : ∀ r ∈ fillR f z n c, ∀ x ∈ r, Bel m x := by
  intro r hr x hx
  unfold fillR at hr
  obtain ⟨i, _, rfl⟩ := List.mem_map.1 hr
  split at hx
  · exact hf i x hx
  · exact hz x hx
theorem frzO_upd (h : Heap) (o : Nat) (x : Option AObj) : frzO (upd h o x) [o] = upd h o (frz1 x) := by
  funext a
  unfold frzO upd
  by_cases e : a = o
  · subst e; simp
  · simp [e]
def sideK (g : GameD) (side : Int) (j : Nat) : List (List (List PathD)) := (g.kinds.take j).map fun k => cellsP g.board side k.progs
theorem sideK_succ (g : GameD) (side : Int) {j : Nat} (h : j < g.kinds.length) : sideK g side (j + 1) = sideK g side j ++ [cellsP g.board side (nth g.kinds j).progs] := by
  unfold sideK
  rw [List.take_add_one, List.getElem?_eq_getElem h, nth_eq _ _ h, Option.toList_some, List.map_append]
  rfl
theorem sideK_all (g : GameD) (side : Int) : sideK g side g.kinds.length = sideP g side := by unfold sideK sideP; rw [List.take_length]
theorem sideK_zero (g : GameD) (side : Int) : sideK g side 0 = [] := by simp [sideK]
theorem sideK_len (g : GameD) (side : Int) {j : Nat} (h : j ≤ g.kinds.length) : (sideK g side j).length = j := by simp [sideK]; omega
theorem kindP_len {g : GameD} (hg : GOk g) (side : Int) {k : KindD} (hk : k ∈ g.kinds) (cell : Int) : (kindP g.board side k.progs cell).length ≤ 8589934592 := by
  have h := flatMap_le (fun p => pathsP g.board side p cell) 43046721 k.progs (fun p hp => by
    have := pathsK_len hg.board hg.c1 hg.c9 side p (hg.pr k hk p hp).len cell p.length
    unfold pathsK at this
    rwa [List.take_length] at this)
  have := hg.pn k hk
  have h2 : k.progs.length * 43046721 ≤ 8 * 43046721 := Nat.mul_le_mul_right _ this
  unfold kindP
  omega
theorem Compile_pure (g : GameD) (hg : GOk g) : Pure Tryz.prog 7 [.agg (encGame g)] (.agg (encCode (codeP g))) := by
  refine Pure.of (ACallP.of_awp (by kernel_rfl) Tryz.func7 rfl rfl (Nat.le_of_ble_eq_true rfl) (by kernel_rfl) ?_)
  have hc9 := hg.c9
  have hc1 := hg.c1
  have hk6 := hg.k6
  have hF := fun (s : Int) (c : Int) (k : KindD) (hk : k ∈ g.kinds) => flatQ_pure k.progs (by have := hg.pn k hk; omega) 23 [.fp (encGame g), .fp [.v (.int .i64 s)], .fp [.v (.int .i64 c)]] (fun p => pathsP g.board s p c)
    (fun p hp => compile1_pure g hg s c p (hg.pr k hk p hp).len) (by simp [go_sem]) (kindP_len hg s hk c)
  have hkb : ∀ (s : Int) (k : KindD) (c : Nat), c < g.cells.toNat → True := fun _ _ _ _ => trivial
  have hR : encCode (codeP g) = [encSide (sideP g 0), encSide (sideP g 1)] := rfl
  rw [hR]
  clear hR
  have hsk := fun (s : Int) (j : Nat) (h : j < g.kinds.length) => sideK_succ g s h
  have hsa := fun s => sideK_all g s
  have hsz := fun s => sideK_zero g s
  have hsl := fun (s : Int) (j : Nat) (h : j ≤ g.kinds.length) => sideK_len g s h
  obtain ⟨C, hC⟩ : ∃ C : Nat, g.cells = C := ⟨g.cells.toNat, by omega⟩
  have hcells : ∀ (s : Int) (j : Nat), cellsP g.board s (nth g.kinds j).progs = (List.range C).map fun (c : Nat) => kindP g.board s (nth g.kinds j).progs c := fun s j => by
    unfold cellsP
    rw [show g.board.cells.toNat = C by have : g.board.cells = g.cells := rfl; omega]
  generalize sideK g = K at *
  have heg : encGame g = [.v (.int .i64 (C : Int)), encIss g.next, encIs g.turn, .lst 3 (g.kinds.map encKind), .v (.int .i64 g.rights), .v (.bool g.must), .lst 4 (g.clauses.map encClause), .v (.int .i64 g.blocked), .v (.int .i64 g.endless)] := by rw [← hC]; rfl
  rw [heg] at hF
  have hbl : ∀ n, (∀ c' ∈ encGame g, Bel n c') = True := fun n => by simp [go_sem]
  have hel : (encGame g).length = 9 := rfl
  (repeat (first | with_reducible (first | refine wL fun _ => ?_ | refine wD fun _ => ?_ | refine wE ?_ | refine adrZ.go ?_) | simp [go_sem, hel]))
  refine ALoop.start (ALoop.ind (α := Nat) (fun s => ⟨[(1, .ref 0 0 9 0 0), (2, .ref 1 0 2 0 0), (3, .ref 2 0 2 0 0), (9, .v (.int .i64 s))],
      [(0, .rows false 0 9 [encGame g]), (1, .rows true 0 2 [[AV.v (.slice none 0 0), AV.v (.slice none 0 0)]]), (2, .rows true 0 2 [[if s = 0 then AV.v (.slice none 0 0) else encSide (sideP g 0), if s < 2 then AV.v (.slice none 0 0) else encSide (sideP g 1)]])], 3⟩)
    (fun d s => s + d = 2) ?_ 2 0 ?_) ?_ ?_
  · rintro d0 s s1 hrec
    rcases (show s = 0 ∨ s = 1 ∨ s = 2 by omega) with rfl | rfl | rfl
    · have hFs := hF 0
      have hsk := hsk 0
      have hsa := hsa 0
      have hsz := hsz 0
      have hsl := hsl 0
      have hcells := hcells 0
      (repeat (first | with_reducible (first | refine wL fun _ => ?_ | refine wD fun _ => ?_ | refine wE ?_ | refine adrZ.go ?_) | simp [go_sem, hel, hC]))
      refine ALoop.start (ALoop.ind (α := Nat) (fun j => ⟨[(1, .ref 0 0 9 0 0), (2, .ref 1 0 2 0 0), (3, .ref 2 0 2 0 0), (4, .ref 3 0 1 0 0), (9, .v (.int .i64 0)), (13, .lst 3 (g.kinds.map encKind)), (14, .v (.int .i64 g.kinds.length)), (15, .v (.int .i64 j))],
          [(0, .rows false 0 9 [encGame g]), (1, .rows true 0 2 [[AV.v (.slice none 0 0), AV.v (.slice none 0 0)]]), (2, .rows true 0 2 [[.sl 4 j 1 0 j, AV.v (.slice none 0 0)]]), (3, .rows false 0 1 [[.v (.int .i64 0)]]), (4, .rows true j 1 ((K 0 j).map fun x => [encCells x]))], 5⟩)
        (fun d j => j + d = g.kinds.length) ?_ g.kinds.length 0 ?_) ?_ ?_
      · rintro d j j1 hrec2
        have hlj := hsl j (by omega)
        (repeat (first | with_reducible (first | refine wL fun _ => ?_ | refine wD fun _ => ?_ | refine wE ?_ | refine adrZ.go ?_) | simp [go_sem, hel, hC, hlj]))
        refine aIf.mkL (fun hj => ?_) (fun hj => ?_) <;> simp at hj
        · have hkm := nth_mem hj
          have hpn := hg.pn _ hkm
          have hFk := fun (c : Nat) => hFs c _ hkm
          have hsj := hsk j hj
          have hcj := hcells j
          have hlj1 := hsl (j + 1) (by omega)
          have hkp : ∀ c : Int, (nth g.kinds j).progs.flatMap (fun p => pathsP g.board 0 p c) = kindP g.board 0 (nth g.kinds j).progs c := fun c => rfl
          simp only [hkp] at hFk
          generalize kindP g.board 0 (nth g.kinds j).progs = KP at *
          (repeat (first | with_reducible (first | refine wL fun _ => ?_ | refine wD fun _ => ?_ | refine wE ?_ | refine adrZ.go ?_) | simp [go_sem, hel, hC, hj]))
          rw [fillR_zero (fun (i : Nat) => [.lst 2 ((KP i).map encPath)])]
          refine ALoop.start (ALoop.ind (α := Nat) (fun c => ⟨[(1, .ref 0 0 9 0 0), (2, .ref 1 0 2 0 0), (3, .ref 2 0 2 0 0), (4, .ref 3 0 1 0 0), (6, .ref 5 0 3 0 0), (7, .sl 6 0 1 0 C), (9, .v (.int .i64 0)), (13, .lst 3 (g.kinds.map encKind)), (14, .v (.int .i64 g.kinds.length)), (15, .v (.int .i64 j)), (24, .v (.int .i64 C)), (25, .v (.int .i64 c))],
              [(0, .rows false 0 9 [encGame g]), (1, .rows true 0 2 [[AV.v (.slice none 0 0), AV.v (.slice none 0 0)]]), (2, .rows true 0 2 [[.sl 4 j 1 0 j, AV.v (.slice none 0 0)]]), (3, .rows false 0 1 [[.v (.int .i64 0)]]), (4, .rows true j 1 ((K 0 j).map fun x => [encCells x])),
               (5, .rows true 0 3 [encKind (nth g.kinds j)]), (6, .rows true 0 1 (fillR (fun (i : Nat) => [.lst 2 ((KP i).map encPath)]) [AV.v (.slice none 0 0)] C c))], 7⟩)
            (fun d c => c + d = C) ?_ C 0 ?_) ?_ ?_
          · rintro d2 c c1' hrec3
            have hfl := fillR_len (fun (i : Nat) => [.lst 2 ((KP i).map encPath)]) [AV.v (.slice none 0 0)] C c
            have hfs := fillR_set (fun (i : Nat) => [.lst 2 ((KP i).map encPath)]) [AV.v (.slice none 0 0)] C c
            (repeat (first | with_reducible (first | refine wL fun _ => ?_ | refine wD fun _ => ?_ | refine wE ?_ | refine adrZ.go ?_) | simp [go_sem, hel, hC, hlj, hfl]))
            refine aIf.mkL (fun hc => ?_) (fun hc => ?_) <;> simp at hc
            · (repeat (first | with_reducible (first | refine wL fun _ => ?_ | refine wD fun _ => ?_ | refine wE ?_) | simp [go_sem, hel, hC, hj, hfl]))
              refine adrZ.frz (frzO _ [7]) (frz_frzO _ _) ?_
              simp only [frzO_upd]
              (repeat (first | with_reducible (first | refine wL fun _ => ?_ | refine wD fun _ => ?_ | refine wE ?_ | refine adrZ.go ?_) | simp [go_sem, hel, hC, hj, hfl]))
              try ((with_reducible refine adrZ.go ?_); (try simp [go_sem]))
              refine dCall.frz [.lst 1 ((nth g.kinds j).progs.map fun p => [encProg p]), _] _ [0, 3, 7] [] (hFk c) (by simp) ?_ (by simp [go_sem]) ?_
              · intro h₁ hS
                have h0 := hS 0 (by simp)
                have h3 := hS 3 (by simp)
                have h7 := hS 7 (by simp)
                simp [upd, frzO, frz1] at h0 h3 h7
                refine .cons (.refl _) (.cons (.fn .nil (.cons (.frzP h0.symm (by simp) (by simp) (by simp [applyW, upd, ← h0]) (.refl _ _ _ _)) (.cons (.frzP h3.symm (by simp) (by simp) (by simp [applyW, upd, ← h3]) (.refl _ _ _ _)) (.cons (.frzP h7.symm (by simp) (by simp) (by simp [applyW, upd, ← h7]) (.refl _ _ _ _)) .nil)))) .nil)
              · (repeat (first | with_reducible (first | refine wL fun _ => ?_ | refine wD fun _ => ?_ | refine wE ?_ | refine adrZ.go ?_) | simp [go_sem, hel, hC, hj, hfl]))
                refine ALoop.start (hrec3 (d2 - 1) (by omega) (c + 1) (by omega)) ?_ (by simp)
                simp [go_sem, Wk_eq, hfs, hC]
                exact fillR_bel (fun i x hx => by simp only [List.mem_singleton] at hx; subst hx; exact of_eq_true bel_Pas) (fun x hx => by simp only [List.mem_singleton] at hx; subst hx; exact .v _)
            · have hcC : c = C := by omega
              subst hcC
              rw [fillR_all]
              (repeat (first | with_reducible (first | refine wL fun _ => ?_ | refine wD fun _ => ?_ | refine wE ?_ | refine adrZ.go ?_) | simp [go_sem, hel, hC, hj]))
              refine ALoop.start (hrec2 (d - 1) (by omega) (j + 1) (by omega)) ?_ (by simp)
              simp [go_sem, Wk_eq, hsj, hcj, hC]
              ((try simp only [encProg, encStep, encAct, encAs, encPath, encPt, encOut, encState, encPos, encOs, encSs, encPs, encIs, encGame, List.map_cons, List.map_nil, List.nil_append, List.append_nil, List.cons_append]); (repeat (first | (with_reducible exact LeRow.nil) | (with_reducible exact LeRows.nil) | (with_reducible exact LeV.refl _) | (with_reducible exact LeRow.refl _ _ _ _) | (with_reducible exact LeRows.refl _) | (with_reducible refine LeRow.cons ?_ ?_) | (with_reducible refine LeRows.cons ?_ ?_) | (with_reducible refine LeV.agg ?_) | (with_reducible refine LeV.tup ?_) | (with_reducible refine LeV.fn ?_ ?_) | (with_reducible exact LeV.nil _) | (with_reducible refine leRows_append (LeRows.refl _) ?_) | ((refine leV_frz rfl (by simp) (by simp [frzO, frz1, upd, noH]) ?_); (first | (simp [go_sem]; done) | (simp [go_sem]; exact List.take_of_length_le (by simp)))) | ((refine LeV.frz rfl (by simp) (by simp [frzO, frz1, upd, noH]) ?_); (simp only [List.drop_zero, List.take_succ_cons, List.take_zero, List.map_cons, List.map_nil])) | ((refine LeV.frzP rfl (by simp) (by simp) (by simp [frzO, frz1, upd, noH]) ?_); (simp only [nth_zero, List.drop_zero])))))
          · simp
          · simp [go_sem, Wk_eq, hC]
            exact fillR_bel (fun i x hx => by simp only [List.mem_singleton] at hx; subst hx; exact of_eq_true bel_Pas) (fun x hx => by simp only [List.mem_singleton] at hx; subst hx; exact .v _)
          · simp
        · have hjl : j = g.kinds.length := by omega
          subst hjl
          rw [hsa]
          (repeat (first | with_reducible (first | refine wL fun _ => ?_ | refine wD fun _ => ?_ | refine wE ?_ | refine adrZ.go ?_) | simp [go_sem, hel, hC]))
          refine ALoop.start (hrec (d0 - 1) (by omega) (1) (by omega)) ?_ (by simp)
          have hsl' : (sideP g 0).length = g.kinds.length := by simp [sideP]
          simp [go_sem, Wk_eq, hC]
          ((try simp only [encProg, encStep, encAct, encAs, encPath, encPt, encOut, encState, encPos, encOs, encSs, encPs, encIs, encGame, List.map_cons, List.map_nil, List.nil_append, List.append_nil, List.cons_append]); (repeat (first | (with_reducible exact LeRow.nil) | (with_reducible exact LeRows.nil) | (with_reducible exact LeV.refl _) | (with_reducible exact LeRow.refl _ _ _ _) | (with_reducible exact LeRows.refl _) | (with_reducible refine LeRow.cons ?_ ?_) | (with_reducible refine LeRows.cons ?_ ?_) | (with_reducible refine LeV.agg ?_) | (with_reducible refine LeV.tup ?_) | (with_reducible refine LeV.fn ?_ ?_) | (with_reducible exact LeV.nil _) | (with_reducible refine leRows_append (LeRows.refl _) ?_) | ((refine leV_frz rfl (by simp [hsl']) (by simp [frzO, frz1, upd, noH]) ?_); (first | (simp [go_sem, hsl']; done) | (simp [go_sem, hsl']; exact List.take_of_length_le (by simp [hsl'])))) | ((refine LeV.frz rfl (by simp [hsl']) (by simp [frzO, frz1, upd, noH]) ?_); (simp only [List.drop_zero, List.take_succ_cons, List.take_zero, List.map_cons, List.map_nil])) | ((refine LeV.frzP rfl (by simp [hsl']) (by simp) (by simp [frzO, frz1, upd, noH]) ?_); (simp only [nth_zero, List.drop_zero])))))
      · simp
      · simp [go_sem, Wk_eq, hsz, hC]
      · simp
    · have hFs := hF 1
      have hsk := hsk 1
      have hsa := hsa 1
      have hsz := hsz 1
      have hsl := hsl 1
      have hcells := hcells 1
      (repeat (first | with_reducible (first | refine wL fun _ => ?_ | refine wD fun _ => ?_ | refine wE ?_ | refine adrZ.go ?_) | simp [go_sem, hel, hC]))
      refine ALoop.start (ALoop.ind (α := Nat) (fun j => ⟨[(1, .ref 0 0 9 0 0), (2, .ref 1 0 2 0 0), (3, .ref 2 0 2 0 0), (4, .ref 3 0 1 0 0), (9, .v (.int .i64 1)), (13, .lst 3 (g.kinds.map encKind)), (14, .v (.int .i64 g.kinds.length)), (15, .v (.int .i64 j))],
          [(0, .rows false 0 9 [encGame g]), (1, .rows true 0 2 [[AV.v (.slice none 0 0), AV.v (.slice none 0 0)]]), (2, .rows true 0 2 [[encSide (sideP g 0), .sl 4 j 1 0 j]]), (3, .rows false 0 1 [[.v (.int .i64 1)]]), (4, .rows true j 1 ((K 1 j).map fun x => [encCells x]))], 5⟩)
        (fun d j => j + d = g.kinds.length) ?_ g.kinds.length 0 ?_) ?_ ?_
      · rintro d j j1 hrec2
        have hlj := hsl j (by omega)
        (repeat (first | with_reducible (first | refine wL fun _ => ?_ | refine wD fun _ => ?_ | refine wE ?_ | refine adrZ.go ?_) | simp [go_sem, hel, hC, hlj]))
        refine aIf.mkL (fun hj => ?_) (fun hj => ?_) <;> simp at hj
        · have hkm := nth_mem hj
          have hpn := hg.pn _ hkm
          have hFk := fun (c : Nat) => hFs c _ hkm
          have hsj := hsk j hj
          have hcj := hcells j
          have hlj1 := hsl (j + 1) (by omega)
          have hkp : ∀ c : Int, (nth g.kinds j).progs.flatMap (fun p => pathsP g.board 1 p c) = kindP g.board 1 (nth g.kinds j).progs c := fun c => rfl
          simp only [hkp] at hFk
          generalize kindP g.board 1 (nth g.kinds j).progs = KP at *
          (repeat (first | with_reducible (first | refine wL fun _ => ?_ | refine wD fun _ => ?_ | refine wE ?_ | refine adrZ.go ?_) | simp [go_sem, hel, hC, hj]))
          rw [fillR_zero (fun (i : Nat) => [.lst 2 ((KP i).map encPath)])]
          refine ALoop.start (ALoop.ind (α := Nat) (fun c => ⟨[(1, .ref 0 0 9 0 0), (2, .ref 1 0 2 0 0), (3, .ref 2 0 2 0 0), (4, .ref 3 0 1 0 0), (6, .ref 5 0 3 0 0), (7, .sl 6 0 1 0 C), (9, .v (.int .i64 1)), (13, .lst 3 (g.kinds.map encKind)), (14, .v (.int .i64 g.kinds.length)), (15, .v (.int .i64 j)), (24, .v (.int .i64 C)), (25, .v (.int .i64 c))],
              [(0, .rows false 0 9 [encGame g]), (1, .rows true 0 2 [[AV.v (.slice none 0 0), AV.v (.slice none 0 0)]]), (2, .rows true 0 2 [[encSide (sideP g 0), .sl 4 j 1 0 j]]), (3, .rows false 0 1 [[.v (.int .i64 1)]]), (4, .rows true j 1 ((K 1 j).map fun x => [encCells x])),
               (5, .rows true 0 3 [encKind (nth g.kinds j)]), (6, .rows true 0 1 (fillR (fun (i : Nat) => [.lst 2 ((KP i).map encPath)]) [AV.v (.slice none 0 0)] C c))], 7⟩)
            (fun d c => c + d = C) ?_ C 0 ?_) ?_ ?_
          · rintro d2 c c1' hrec3
            have hfl := fillR_len (fun (i : Nat) => [.lst 2 ((KP i).map encPath)]) [AV.v (.slice none 0 0)] C c
            have hfs := fillR_set (fun (i : Nat) => [.lst 2 ((KP i).map encPath)]) [AV.v (.slice none 0 0)] C c
            (repeat (first | with_reducible (first | refine wL fun _ => ?_ | refine wD fun _ => ?_ | refine wE ?_ | refine adrZ.go ?_) | simp [go_sem, hel, hC, hlj, hfl]))
            refine aIf.mkL (fun hc => ?_) (fun hc => ?_) <;> simp at hc
            · (repeat (first | with_reducible (first | refine wL fun _ => ?_ | refine wD fun _ => ?_ | refine wE ?_) | simp [go_sem, hel, hC, hj, hfl]))
              refine adrZ.frz (frzO _ [7]) (frz_frzO _ _) ?_
              simp only [frzO_upd]
              (repeat (first | with_reducible (first | refine wL fun _ => ?_ | refine wD fun _ => ?_ | refine wE ?_ | refine adrZ.go ?_) | simp [go_sem, hel, hC, hj, hfl]))
              try ((with_reducible refine adrZ.go ?_); (try simp [go_sem]))
              refine dCall.frz [.lst 1 ((nth g.kinds j).progs.map fun p => [encProg p]), _] _ [0, 3, 7] [] (hFk c) (by simp) ?_ (by simp [go_sem]) ?_
              · intro h₁ hS
                have h0 := hS 0 (by simp)
                have h3 := hS 3 (by simp)
                have h7 := hS 7 (by simp)
                simp [upd, frzO, frz1] at h0 h3 h7
                refine .cons (.refl _) (.cons (.fn .nil (.cons (.frzP h0.symm (by simp) (by simp) (by simp [applyW, upd, ← h0]) (.refl _ _ _ _)) (.cons (.frzP h3.symm (by simp) (by simp) (by simp [applyW, upd, ← h3]) (.refl _ _ _ _)) (.cons (.frzP h7.symm (by simp) (by simp) (by simp [applyW, upd, ← h7]) (.refl _ _ _ _)) .nil)))) .nil)
              · (repeat (first | with_reducible (first | refine wL fun _ => ?_ | refine wD fun _ => ?_ | refine wE ?_ | refine adrZ.go ?_) | simp [go_sem, hel, hC, hj, hfl]))
                refine ALoop.start (hrec3 (d2 - 1) (by omega) (c + 1) (by omega)) ?_ (by simp)
                simp [go_sem, Wk_eq, hfs, hC]
                exact fillR_bel (fun i x hx => by simp only [List.mem_singleton] at hx; subst hx; exact of_eq_true bel_Pas) (fun x hx => by simp only [List.mem_singleton] at hx; subst hx; exact .v _)
            · have hcC : c = C := by omega
              subst hcC
              rw [fillR_all]
              (repeat (first | with_reducible (first | refine wL fun _ => ?_ | refine wD fun _ => ?_ | refine wE ?_ | refine adrZ.go ?_) | simp [go_sem, hel, hC, hj]))
              refine ALoop.start (hrec2 (d - 1) (by omega) (j + 1) (by omega)) ?_ (by simp)
              simp [go_sem, Wk_eq, hsj, hcj, hC]
              ((try simp only [encProg, encStep, encAct, encAs, encPath, encPt, encOut, encState, encPos, encOs, encSs, encPs, encIs, encGame, List.map_cons, List.map_nil, List.nil_append, List.append_nil, List.cons_append]); (repeat (first | (with_reducible exact LeRow.nil) | (with_reducible exact LeRows.nil) | (with_reducible exact LeV.refl _) | (with_reducible exact LeRow.refl _ _ _ _) | (with_reducible exact LeRows.refl _) | (with_reducible refine LeRow.cons ?_ ?_) | (with_reducible refine LeRows.cons ?_ ?_) | (with_reducible refine LeV.agg ?_) | (with_reducible refine LeV.tup ?_) | (with_reducible refine LeV.fn ?_ ?_) | (with_reducible exact LeV.nil _) | (with_reducible refine leRows_append (LeRows.refl _) ?_) | ((refine leV_frz rfl (by simp) (by simp [frzO, frz1, upd, noH]) ?_); (first | (simp [go_sem]; done) | (simp [go_sem]; exact List.take_of_length_le (by simp)))) | ((refine LeV.frz rfl (by simp) (by simp [frzO, frz1, upd, noH]) ?_); (simp only [List.drop_zero, List.take_succ_cons, List.take_zero, List.map_cons, List.map_nil])) | ((refine LeV.frzP rfl (by simp) (by simp) (by simp [frzO, frz1, upd, noH]) ?_); (simp only [nth_zero, List.drop_zero])))))
          · simp
          · simp [go_sem, Wk_eq, hC]
            exact fillR_bel (fun i x hx => by simp only [List.mem_singleton] at hx; subst hx; exact of_eq_true bel_Pas) (fun x hx => by simp only [List.mem_singleton] at hx; subst hx; exact .v _)
          · simp
        · have hjl : j = g.kinds.length := by omega
          subst hjl
          rw [hsa]
          (repeat (first | with_reducible (first | refine wL fun _ => ?_ | refine wD fun _ => ?_ | refine wE ?_ | refine adrZ.go ?_) | simp [go_sem, hel, hC]))
          refine ALoop.start (hrec (d0 - 1) (by omega) (2) (by omega)) ?_ (by simp)
          have hsl' : (sideP g 1).length = g.kinds.length := by simp [sideP]
          simp [go_sem, Wk_eq, hC]
          ((try simp only [encProg, encStep, encAct, encAs, encPath, encPt, encOut, encState, encPos, encOs, encSs, encPs, encIs, encGame, List.map_cons, List.map_nil, List.nil_append, List.append_nil, List.cons_append]); (repeat (first | (with_reducible exact LeRow.nil) | (with_reducible exact LeRows.nil) | (with_reducible exact LeV.refl _) | (with_reducible exact LeRow.refl _ _ _ _) | (with_reducible exact LeRows.refl _) | (with_reducible refine LeRow.cons ?_ ?_) | (with_reducible refine LeRows.cons ?_ ?_) | (with_reducible refine LeV.agg ?_) | (with_reducible refine LeV.tup ?_) | (with_reducible refine LeV.fn ?_ ?_) | (with_reducible exact LeV.nil _) | (with_reducible refine leRows_append (LeRows.refl _) ?_) | ((refine leV_frz rfl (by simp [hsl']) (by simp [frzO, frz1, upd, noH]) ?_); (first | (simp [go_sem, hsl']; done) | (simp [go_sem, hsl']; exact List.take_of_length_le (by simp [hsl'])))) | ((refine LeV.frz rfl (by simp [hsl']) (by simp [frzO, frz1, upd, noH]) ?_); (simp only [List.drop_zero, List.take_succ_cons, List.take_zero, List.map_cons, List.map_nil])) | ((refine LeV.frzP rfl (by simp [hsl']) (by simp) (by simp [frzO, frz1, upd, noH]) ?_); (simp only [nth_zero, List.drop_zero])))))
      · simp
      · simp [go_sem, Wk_eq, hsz, hC]
      · simp
    · (repeat (first | with_reducible (first | refine wL fun _ => ?_ | refine wD fun _ => ?_ | refine wE ?_ | refine adrZ.go ?_) | simp [go_sem]))
  · simp
  · simp [go_sem, Wk_eq]
  · simp
end Go.Av
end
section
set_option linter.unusedSimpArgs false
set_option linter.unusedVariables false
open Go Go.Proofs
set_option maxRecDepth 20000
set_option maxHeartbeats 4000000
namespace Go.Av
theorem bel_Steps {n : Nat} {l : List (Int × Int)} : (∀ r ∈ l.map encStep, ∀ c ∈ r, Bel n c) = True := by
  refine eq_true ?_
  intro r hr c hc
  obtain ⟨x, _, rfl⟩ := List.mem_map.1 hr
  revert c
  simp [go_sem]
attribute [go_sem ↓] bel_Steps
def turnL (t : List Int) (p : List (Int × Int)) (i : Nat) : List (Int × Int) := (p.take i).map (turnS t) ++ p.drop i
theorem turnL_zero (t : List Int) (p : List (Int × Int)) : turnL t p 0 = p := by simp [turnL]
theorem turnL_all (t : List Int) (p : List (Int × Int)) : turnL t p p.length = turnP t p := by simp [turnL, turnP]
theorem turnL_len (t : List Int) (p : List (Int × Int)) (i : Nat) : (turnL t p i).length = p.length := by simp [turnL]; omega
theorem turnL_nth (t : List Int) (p : List (Int × Int)) {i : Nat} (h : i < p.length) : nth (turnL t p i) i = nth p i := by
  rw [nth_eq _ _ (by rw [turnL_len]; exact h), nth_eq _ _ h]
  unfold turnL
  rw [List.getElem_append_right (by simp; omega)]
  simp [Nat.min_eq_left (Nat.le_of_lt h)]
theorem turnL_succ (t : List Int) (p : List (Int × Int)) {i : Nat} (h : i < p.length) : turnL t p (i + 1) = (turnL t p i).set i (turnS t (nth p i)) := by
  unfold turnL
  rw [List.take_add_one, List.getElem?_eq_getElem h, nth_eq _ _ h, Option.toList_some, List.map_append, List.set_append_right _ _ (by simp; omega)]
  have e : List.drop i p = p[i] :: List.drop (i + 1) p := List.drop_eq_getElem_cons h
  simp only [List.length_map, List.length_take, Nat.min_eq_left (Nat.le_of_lt h), Nat.sub_self, List.map_cons, List.map_nil]
  rw [e, List.set_cons_zero]
  simp
theorem turnL_same (t : List Int) (p : List (Int × Int)) {i : Nat} (h : i < p.length) (hs : turnS t (nth p i) = nth p i) : turnL t p (i + 1) = turnL t p i := by
  rw [turnL_succ t p h, hs]
  have h2 : i < (turnL t p i).length := by rw [turnL_len]; exact h
  have h3 := turnL_nth t p h
  rw [nth_eq _ _ h2] at h3
  rw [← h3, List.set_getElem_self]
/-! ### gen.Count -/
theorem cntCells_drop (l : List (List PathD)) {i : Nat} (h : i < l.length) : cntCells (l.drop i) = (nth l i).length + cntCells (l.drop (i + 1)) := by
  unfold cntCells
  rw [dropG_cons h, List.map_cons, List.sum_cons]
theorem cntSide_drop (l : List (List (List PathD))) {i : Nat} (h : i < l.length) : cntSide (l.drop i) = cntCells (nth l i) + cntSide (l.drop (i + 1)) := by
  unfold cntSide
  rw [dropG_cons h, List.map_cons, List.sum_cons]
theorem gCount_pure (c : CodeD) (hc : countC c ≤ 4611686018427387904) (h1 : c.1.length ≤ 1048576) (h2 : c.2.length ≤ 1048576) (hl : ∀ x ∈ c.1 ++ c.2, x.length ≤ 1048576) :
    Pure Tryz.prog 17 [.agg (encCode c)] (.v (.int .i64 (countC c))) := by
  refine Pure.of (ACallP.of_awp (by kernel_rfl) Tryz.func17 rfl rfl (Nat.le_of_ble_eq_true rfl) (by kernel_rfl) ?_)
  obtain ⟨a, b⟩ := c
  simp only at h1 h2 hl
  have hT : countC (a, b) = cntSide a + cntSide b := rfl
  rw [hT] at hc ⊢
  -- a side
  have key : ∀ (l : List (List (List PathD))) (s : Int) (n T : Nat) (Q : Post), l.length ≤ 1048576 → (∀ x ∈ l, x.length ≤ 1048576) → n + cntSide l = T → True := fun _ _ _ _ _ _ _ _ => trivial
  (repeat (first | with_reducible (first | refine wL fun _ => ?_ | refine wD fun _ => ?_ | refine wE ?_ | refine adrZ.go ?_) | simp [go_sem]))
  refine ALoop.start (ALoop.ind (α := Nat × Nat) (fun x => ⟨[(3, .v (.int .i64 x.2)), (11, .agg [encSide a, encSide b]), (12, .v (.int .i64 x.1))], [], 0⟩)
    (fun d x => x.1 + d = 2 ∧ x.2 = (if x.1 = 0 then 0 else if x.1 = 1 then cntSide a else cntSide a + cntSide b)) ?_ 2 (0, 0) ?_) ?_ ?_
  · rintro d ⟨s, n⟩ ⟨s1, s2⟩ hrec
    simp only at s1 s2
    rcases (show s = 2 ∨ s < 2 by omega) with rfl | hs2
    · simp at s2
      subst s2
      (repeat (first | with_reducible (first | refine wL fun _ => ?_ | refine wD fun _ => ?_ | refine wE ?_ | refine adrZ.go ?_) | simp [go_sem]))
    · obtain ⟨l, hl0, hl1, hl2, hl3⟩ : ∃ l : List (List (List PathD)), cel [encSide a, encSide b] s = encSide l ∧ l.length ≤ 1048576 ∧ (∀ x ∈ l, x.length ≤ 1048576) ∧ (if s + 1 = 0 then 0 else if s + 1 = 1 then cntSide a else cntSide a + cntSide b) = n + cntSide l := by
        rcases (show s = 0 ∨ s = 1 by omega) with rfl | rfl
        · simp at s2
          exact ⟨a, rfl, h1, fun x hx => hl x (by simp [hx]), by simp [s2]⟩
        · simp at s2
          exact ⟨b, rfl, h2, fun x hx => hl x (by simp [hx]), by simp [s2]⟩
      have hcap : n + cntSide l ≤ 4611686018427387904 := by rw [← hl3]; split <;> (try split) <;> omega
      simp only [encSide, encCells, encPt] at hl0
      (repeat (first | with_reducible (first | refine wL fun _ => ?_ | refine wD fun _ => ?_ | refine wE ?_ | refine adrZ.go ?_) | simp [go_sem, hl0]))
      (refine aIf.mkL (fun hT => ?_) (fun hT => by first | omega | (simp at hT; omega)); clear hT)
      (repeat (first | with_reducible (first | refine wL fun _ => ?_ | refine wD fun _ => ?_ | refine wE ?_ | refine adrZ.go ?_) | simp [go_sem, hl0]))
      refine ALoop.start (ALoop.ind (α := Nat × Nat) (fun x => ⟨[(3, .v (.int .i64 x.2)), (11, .agg [encSide a, encSide b]), (12, .v (.int .i64 s)), (15, encSide l), (16, .v (.int .i64 l.length)), (17, .v (.int .i64 x.1))], [], 0⟩)
        (fun d x => x.1 + d = l.length ∧ x.2 + cntSide (l.drop x.1) = n + cntSide l) ?_ l.length (0, n) ?_) ?_ ?_
      · rintro d2 ⟨j, m⟩ ⟨j1, j2⟩ hrec2
        simp only at j1 j2
        (repeat (first | with_reducible (first | refine wL fun _ => ?_ | refine wD fun _ => ?_ | refine wE ?_ | refine adrZ.go ?_) | simp [go_sem]))
        refine aIf.mkL (fun hj => ?_) (fun hj => ?_) <;> simp at hj
        · have hll := hl2 _ (nth_mem hj)
          rw [cntSide_drop l hj] at j2
          (repeat (first | with_reducible (first | refine wL fun _ => ?_ | refine wD fun _ => ?_ | refine wE ?_ | refine adrZ.go ?_) | simp [go_sem, hj]))
          refine ALoop.start (ALoop.ind (α := Nat × Nat) (fun x => ⟨[(3, .v (.int .i64 x.2)), (11, .agg [encSide a, encSide b]), (12, .v (.int .i64 s)), (15, encSide l), (16, .v (.int .i64 l.length)), (17, .v (.int .i64 j)), (21, encCells (nth l j)), (22, .v (.int .i64 (nth l j).length)), (23, .v (.int .i64 x.1))], [], 0⟩)
            (fun d x => x.1 + d = (nth l j).length ∧ x.2 + cntCells ((nth l j).drop x.1) = m + cntCells (nth l j)) ?_ (nth l j).length (0, m) ?_) ?_ ?_
          · rintro d3 ⟨k, q⟩ ⟨k1, k2⟩ hrec3
            simp only at k1 k2
            (repeat (first | with_reducible (first | refine wL fun _ => ?_ | refine wD fun _ => ?_ | refine wE ?_ | refine adrZ.go ?_) | simp [go_sem]))
            refine aIf.mkL (fun hk => ?_) (fun hk => ?_) <;> simp at hk
            · rw [cntCells_drop _ hk] at k2
              (repeat (first | with_reducible (first | refine wL fun _ => ?_ | refine wD fun _ => ?_ | refine wE ?_ | refine adrZ.go ?_) | simp [go_sem, hk]))
              refine ALoop.start (hrec3 (d3 - 1) (by omega) (k + 1, q + (nth (nth l j) k).length) ⟨by simp only; omega, by simp only; omega⟩) ?_ (by simp)
              simp [go_sem, Wk_eq]
            · rw [List.drop_eq_nil_of_le hk] at k2
              simp [cntCells] at k2
              (repeat (first | with_reducible (first | refine wL fun _ => ?_ | refine wD fun _ => ?_ | refine wE ?_ | refine adrZ.go ?_) | simp [go_sem]))
              refine ALoop.start (hrec2 (d2 - 1) (by omega) (j + 1, q) ⟨by simp only; omega, by simp only [cntCells] at j2 ⊢; omega⟩) ?_ (by simp)
              simp [go_sem, Wk_eq]
          · exact ⟨by simp, by simp⟩
          · simp [go_sem, Wk_eq]
          · simp
        · rw [List.drop_eq_nil_of_le hj] at j2
          simp [cntSide] at j2
          (repeat (first | with_reducible (first | refine wL fun _ => ?_ | refine wD fun _ => ?_ | refine wE ?_ | refine adrZ.go ?_) | simp [go_sem]))
          refine ALoop.start (hrec (d - 1) (by omega) (s + 1, m) ⟨by simp only; omega, ?_⟩) ?_ (by simp)
          · simp only
            rw [hl3, j2]
            rfl
          · simp [go_sem, Wk_eq]
      · exact ⟨by simp, by simp⟩
      · simp [go_sem, Wk_eq]
      · simp
  · exact ⟨rfl, rfl⟩
  · simp [go_sem, Wk_eq]
  · simp
/-! ### shapes, equality -/
structure ShapeOk (g : GameD) (c : CodeD) : Prop where
  l1 : c.1.length = g.kinds.length
  l2 : c.2.length = g.kinds.length
  c1 : ∀ x ∈ c.1, (x.length : Int) = g.cells
  c2 : ∀ x ∈ c.2, (x.length : Int) = g.cells
theorem ShapeOk.side {g : GameD} {c : CodeD} (h : ShapeOk g c) {s : Nat} (hs : s < 2) : ∃ l, cel [encSide c.1, encSide c.2] s = encSide l ∧ l.length = g.kinds.length ∧ ∀ x ∈ l, (x.length : Int) = g.cells := by
  rcases (show s = 0 ∨ s = 1 by omega) with rfl | rfl
  · exact ⟨_, rfl, h.l1, h.c1⟩
  · exact ⟨_, rfl, h.l2, h.c2⟩
theorem shape_codeP {g : GameD} (hg : GOk g) : ShapeOk g (codeP g) := by
  have h : ∀ s, ∀ x ∈ sideP g s, (x.length : Int) = g.cells := by
    intro s x hx
    obtain ⟨k, _, rfl⟩ := List.mem_map.1 hx
    have : g.board.cells = g.cells := rfl
    have := hg.c1
    simp [cellsP]
    omega
  exact ⟨by simp [codeP, sideP], by simp [codeP, sideP], h 0, h 1⟩
theorem Shaped_true (g : GameD) (hg : GOk g) (c : CodeD) (hc : ShapeOk g c) : Pure Tryz.prog 8 [.agg (encGame g), .agg (encCode c)] (.v (.bool true)) := by
  refine Pure.of (ACallP.of_awp (by kernel_rfl) Tryz.func8 rfl rfl (Nat.le_of_ble_eq_true rfl) (by kernel_rfl) ?_)
  have hk6 := hg.k6
  (repeat (first | with_reducible (first | refine wL fun _ => ?_ | refine wD fun _ => ?_ | refine wE ?_ | refine adrZ.go ?_) | simp [go_sem]))
  refine ALoop.start (ALoop.ind (α := Nat) (fun s => ⟨[(2, .ref 0 0 9 0 0), (3, .ref 1 0 2 0 0), (5, .v (.int .i64 s))], [(0, .rows true 0 9 [encGame g]), (1, .rows true 0 2 [[encSide c.1, encSide c.2]])], 2⟩)
    (fun d s => s + d = 2) ?_ 2 0 ?_) ?_ ?_
  · rintro d s s1 hrec
    rcases (show s = 2 ∨ s < 2 by omega) with rfl | hs2
    · (repeat (first | with_reducible (first | refine wL fun _ => ?_ | refine wD fun _ => ?_ | refine wE ?_ | refine adrZ.go ?_) | simp [go_sem]))
    · obtain ⟨l, hl0, hl1, hl2⟩ := hc.side hs2
      simp only [encSide, encCells, encPt] at hl0
      (repeat (first | with_reducible (first | refine wL fun _ => ?_ | refine wD fun _ => ?_ | refine wE ?_ | refine adrZ.go ?_) | simp [go_sem, hl0]))
      (refine aIf.mkL (fun hT => ?_) (fun hT => by first | omega | (simp at hT; omega)); clear hT)
      (repeat (first | with_reducible (first | refine wL fun _ => ?_ | refine wD fun _ => ?_ | refine wE ?_ | refine adrZ.go ?_) | simp [go_sem, hl0]))
      (refine aIf.mkL (fun hF => by first | omega | (simp at hF; omega)) (fun hF => ?_); clear hF)
      (repeat (first | with_reducible (first | refine wL fun _ => ?_ | refine wD fun _ => ?_ | refine wE ?_ | refine adrZ.go ?_) | simp [go_sem, hl0]))
      refine ALoop.start (ALoop.ind (α := Nat) (fun k => ⟨[(2, .ref 0 0 9 0 0), (3, .ref 1 0 2 0 0), (5, .v (.int .i64 s)), (6, .v (.int .i64 k))], [(0, .rows true 0 9 [encGame g]), (1, .rows true 0 2 [[encSide c.1, encSide c.2]])], 2⟩)
        (fun d k => k + d = g.kinds.length) ?_ g.kinds.length 0 ?_) ?_ ?_
      · rintro d2 k k1 hrec2
        (repeat (first | with_reducible (first | refine wL fun _ => ?_ | refine wD fun _ => ?_ | refine wE ?_ | refine adrZ.go ?_) | simp [go_sem]))
        refine aIf.mkL (fun hk => ?_) (fun hk => ?_) <;> simp at hk
        · have hkl : k < l.length := by omega
          have hx := hl2 _ (nth_mem hkl)
          (repeat (first | with_reducible (first | refine wL fun _ => ?_ | refine wD fun _ => ?_ | refine wE ?_ | refine adrZ.go ?_) | simp [go_sem, hl0, hkl]))
          (refine aIf.mkL (fun hF => by first | omega | (simp at hF; omega)) (fun hF => ?_); clear hF)
          (repeat (first | with_reducible (first | refine wL fun _ => ?_ | refine wD fun _ => ?_ | refine wE ?_ | refine adrZ.go ?_) | simp [go_sem]))
          refine ALoop.start (hrec2 (d2 - 1) (by omega) (k + 1) (by omega)) ?_ (by simp)
          simp [go_sem, Wk_eq]
        · (repeat (first | with_reducible (first | refine wL fun _ => ?_ | refine wD fun _ => ?_ | refine wE ?_ | refine adrZ.go ?_) | simp [go_sem]))
          refine ALoop.start (hrec (d - 1) (by omega) (s + 1) (by omega)) ?_ (by simp)
          simp [go_sem, Wk_eq]
      · simp
      · simp [go_sem, Wk_eq]
      · simp
  · simp
  · simp [go_sem, Wk_eq]
  · simp
theorem SamePaths_true (a : List PathD) (ha : a.length ≤ 1099511627776) (hb : ActsLe 1048576 a) : Pure Tryz.prog 15 [encPt a, encPt a] (.v (.bool true)) := by
  refine Pure.of (ACallP.of_awp (by kernel_rfl) Tryz.func15 rfl rfl (Nat.le_of_ble_eq_true rfl) (by kernel_rfl) ?_)
  (repeat (first | with_reducible (first | refine wL fun _ => ?_ | refine wD fun _ => ?_ | refine wE ?_ | refine adrZ.go ?_) | simp [go_sem]))
  refine ALoop.start (ALoop.ind (α := Nat) (fun i => ⟨[(0, encPt a), (1, encPt a), (5, .v (.int .i64 i))], [], 0⟩)
    (fun d i => i + d = a.length) ?_ a.length 0 ?_) ?_ ?_
  · rintro d i i1 hrec
    (repeat (first | with_reducible (first | refine wL fun _ => ?_ | refine wD fun _ => ?_ | refine wE ?_ | refine adrZ.go ?_) | simp [go_sem]))
    refine aIf.mkL (fun hi => ?_) (fun hi => ?_) <;> simp at hi
    · have hx := hb _ (nth_mem hi)
      (repeat (first | with_reducible (first | refine wL fun _ => ?_ | refine wD fun _ => ?_ | refine wE ?_ | refine adrZ.go ?_) | simp [go_sem, hi]))
      refine ALoop.start (ALoop.ind (α := Nat) (fun k => ⟨[(0, encPt a), (1, encPt a), (5, .v (.int .i64 i)), (6, .v (.int .i64 k))], [], 0⟩)
        (fun d k => k + d = (nth a i).acts.length) ?_ (nth a i).acts.length 0 ?_) ?_ ?_
      · rintro d2 k k1 hrec2
        (repeat (first | with_reducible (first | refine wL fun _ => ?_ | refine wD fun _ => ?_ | refine wE ?_ | refine adrZ.go ?_) | simp [go_sem, hi]))
        refine aIf.mkL (fun hk => ?_) (fun hk => ?_) <;> simp at hk
        · (repeat (first | with_reducible (first | refine wL fun _ => ?_ | refine wD fun _ => ?_ | refine wE ?_ | refine adrZ.go ?_) | simp [go_sem, hi, hk]))
          refine ALoop.start (hrec2 (d2 - 1) (by omega) (k + 1) (by omega)) ?_ (by simp)
          simp [go_sem, Wk_eq]
        · (repeat (first | with_reducible (first | refine wL fun _ => ?_ | refine wD fun _ => ?_ | refine wE ?_ | refine adrZ.go ?_) | simp [go_sem]))
          refine ALoop.start (hrec (d - 1) (by omega) (i + 1) (by omega)) ?_ (by simp)
          simp [go_sem, Wk_eq]
      · simp
      · simp [go_sem, Wk_eq]
      · simp
    · (repeat (first | with_reducible (first | refine wL fun _ => ?_ | refine wD fun _ => ?_ | refine wE ?_ | refine adrZ.go ?_) | simp [go_sem]))
  · simp
  · simp [go_sem, Wk_eq]
  · simp
end Go.Av
end
section
set_option linter.unusedSimpArgs false
set_option linter.unusedVariables false
open Go Go.Proofs
set_option maxRecDepth 20000
set_option maxHeartbeats 4000000
namespace Go.Av
def rowG (p : List (Int × Int)) : GameD := ⟨3, [[1, 2, -1], [-1, 0, 1]], [1, 0], [⟨nameA, [p], false⟩], 4, false, [], 3, 2⟩
theorem rowG_ok {p : List (Int × Int)} (hp : ProgOk 2 1 4 p) : GOk (rowG p) := by
  refine ⟨⟨rfl, ?_, ?_, ?_, by simp [rowG, GameD.board], by simp [rowG, GameD.board], by simp [rowG, GameD.board]⟩, by simp [rowG], by simp [rowG], by simp [rowG], by simp [rowG], ?_, by simp [rowG], by simp [rowG], ?_, ?_, by simp [rowG], by simp [rowG], by simp [rowG], by simp [rowG], by simp [rowG], by simp [rowG]⟩
  · intro t ht; simp [rowG, GameD.board] at ht ⊢; omega
  · intro l hl; simp [rowG, GameD.board] at hl ⊢; rcases hl with rfl | rfl <;> rfl
  · intro l hl x hx; simp [rowG, GameD.board] at hl ⊢; rcases hl with rfl | rfl <;> simp at hx <;> omega
  · intro d hd
    simp [rowG] at hd
    rcases (show d = 0 ∨ d = 1 by omega) with rfl | rfl <;> rfl
  · intro k hk; simp [rowG] at hk; subst hk; simp
  · intro k hk q hq; simp [rowG] at hk; subst hk; simp at hq; subst hq; exact hp
theorem row_pure (p : List (Int × Int)) : Pure Tryz.prog 18 [encProg p] (.agg (encGame (rowG p))) := by
  refine Pure.of (ACallP.of_awp (by kernel_rfl) Tryz.func18 rfl rfl (Nat.le_of_ble_eq_true rfl) (by kernel_rfl) ?_)
  unfold rowG
  simp only [nameA]
  (repeat (first | with_reducible (first | refine wL fun _ => ?_ | refine wD fun _ => ?_ | refine wE ?_ | refine adrZ.go ?_) | simp [go_sem]))
  refine ⟨?_, ?_, ?_⟩ <;> ((try simp only [encProg, encStep, encAct, encAs, encPath, encPt, encOut, encState, encPos, encOs, encSs, encPs, encIs, encGame, List.map_cons, List.map_nil, List.nil_append, List.append_nil, List.cons_append]); (repeat (first | (with_reducible exact LeRow.nil) | (with_reducible exact LeRows.nil) | (with_reducible exact LeV.refl _) | (with_reducible exact LeRow.refl _ _ _ _) | (with_reducible exact LeRows.refl _) | (with_reducible refine LeRow.cons ?_ ?_) | (with_reducible refine LeRows.cons ?_ ?_) | (with_reducible refine LeV.agg ?_) | (with_reducible refine LeV.tup ?_) | (with_reducible refine LeV.fn ?_ ?_) | (with_reducible exact LeV.nil _) | (with_reducible refine leRows_append (LeRows.refl _) ?_) | ((refine leV_frz rfl (by simp) (by simp [frzO, frz1, upd, noH]) ?_); (first | (simp [go_sem]; done) | (simp [go_sem]; exact List.take_of_length_le (by simp)))) | ((refine LeV.frz rfl (by simp) (by simp [frzO, frz1, upd, noH]) ?_); (simp only [List.drop_zero, List.take_succ_cons, List.take_zero, List.map_cons, List.map_nil])) | ((refine LeV.frzP rfl (by simp) (by simp) (by simp [frzO, frz1, upd, noH]) ?_); (simp only [nth_zero, List.drop_zero])))))
def rowP (p : List (Int × Int)) (side cell : Int) : List PathD := pathsP (rowG p).board side p cell
theorem kindP_one (b : BoardD) (side : Int) (p : List (Int × Int)) (cell : Int) : kindP b side [p] cell = pathsP b side p cell := by simp [kindP]
theorem paths8_pure (p : List (Int × Int)) (hp : ProgOk 2 1 4 p) (side cell : Nat) (hs : side < 2) (hc : cell < 3) : Pure Tryz.prog 16 [encProg p, .v (.int .i64 side), .v (.int .i64 cell)] (encPt (rowP p side cell)) := by
  refine Pure.of (ACallP.of_awp (by kernel_rfl) Tryz.func16 rfl rfl (Nat.le_of_ble_eq_true rfl) (by kernel_rfl) ?_)
  have hR := row_pure p
  have hg := rowG_ok hp
  have hC := Compile_pure (rowG p) hg
  have hS := Shaped_true (rowG p) hg (codeP (rowG p)) (shape_codeP hg)
  have hcel : cel (encCode (codeP (rowG p))) side = encSide (sideP (rowG p) side) := by
    rcases (show side = 0 ∨ side = 1 by omega) with rfl | rfl <;> rfl
  have hsd : sideP (rowG p) side = [(List.range 3).map fun (c : Nat) => rowP p side c] := by
    unfold sideP cellsP
    simp only [rowG, List.map_cons, List.map_nil, GameD.board, kindP_one]
    rfl
  have hcl : (encCode (codeP (rowG p))).length = 2 := rfl
  have hcb : ∀ n, (∀ c ∈ encCode (codeP (rowG p)), Bel n c) = True := fun n => by simp [go_sem]
  have hgl : (encGame (rowG p)).length = 9 := rfl
  have hgb : ∀ n, (∀ c ∈ encGame (rowG p), Bel n c) = True := fun n => by simp [go_sem]
  rw [hsd] at hcel
  have hne : nth ((List.range 3).map fun (c : Nat) => rowP p side c) cell = rowP p side cell := by
    rw [nth_map _ _ _ (by simpa using hc), nth_eq _ _ (by simpa using hc), List.getElem_range]
  generalize encCode (codeP (rowG p)) = ec at *
  generalize encGame (rowG p) = eg at *
  generalize hL : ((List.range 3).map fun (c : Nat) => rowP p side c) = L at *
  have hLl : L.length = 3 := by rw [← hL]; simp
  generalize rowP p side cell = R at *
  simp only [encSide, encCells, encPt, List.map_cons, List.map_nil] at hcel
  have hcL : cell < L.length := by omega
  (repeat (first | with_reducible (first | refine wL fun _ => ?_ | refine wD fun _ => ?_ | refine wE ?_ | refine adrZ.go ?_) | simp [go_sem, hcl, hgl]))
  refine ACallP.plain hR (by simp [go_sem]) ?_
  (repeat (first | with_reducible (first | refine wL fun _ => ?_ | refine wD fun _ => ?_ | refine wE ?_ | refine adrZ.go ?_) | simp [go_sem, hcl, hgl]))
  refine ACallP.plain hC (by simp [go_sem, hgb]) ?_
  (repeat (first | with_reducible (first | refine wL fun _ => ?_ | refine wD fun _ => ?_ | refine wE ?_ | refine adrZ.go ?_) | simp [go_sem, hcl, hgl]))
  try ((with_reducible refine adrZ.go ?_); (try simp [go_sem]))
  refine dCall.plain hR (by simp [go_sem]) ?_
  (repeat (first | with_reducible (first | refine wL fun _ => ?_ | refine wD fun _ => ?_ | refine wE ?_ | refine adrZ.go ?_) | simp [go_sem, hcl, hgl]))
  try ((with_reducible refine adrZ.go ?_); (try simp [go_sem]))
  refine dCall.plain hS (by simp [go_sem, hgb, hcb]) ?_
  (repeat (first | with_reducible (first | refine wL fun _ => ?_ | refine wD fun _ => ?_ | refine wE ?_ | refine adrZ.go ?_) | simp [go_sem, hcl, hgl, hcel, hcL, hne]))
/-! ### acts -/
end Go.Av
end
section
set_option linter.unusedSimpArgs false
set_option linter.unusedVariables false
open Go Go.Proofs
set_option maxRecDepth 20000
set_option maxHeartbeats 4000000
namespace Go.Av
theorem row_e1 : rowP [(2, 0)] 0 0 = [⟨[], 1⟩, ⟨[(3, 1, 0)], 2⟩] := by rfl
theorem row_e2 : rowP [(2, 0)] 1 0 = [] := by rfl
theorem row_e3 : rowP [(1, 0), (4, 0), (6, 0)] 0 1 = [⟨[(4, 2, 0), (6, 2, 0)], 2⟩] := by rfl
theorem row_e4 : rowP [(1, 0), (7, 0)] 0 0 = [⟨[(7, 1, 2)], 1⟩] := by rfl
theorem row_e5 : rowP [(1, 0), (7, 0)] 0 1 = [] := by rfl
theorem row_e6 : rowP [(9, 3), (1, 0)] 0 0 = [⟨[(9, 3, 0)], 1⟩] := by rfl
theorem row_e7 : countC (codeP (rowG [(2, 0)])) = 6 := by rfl
theorem okp (p : List (Int × Int)) (h1 : 1 ≤ p.length) (h2 : p.length ≤ 8) (h3 : ∀ x ∈ p, StepOk 2 1 4 x) (h4 : countOp p 6 ≤ 2) (h5 : countOp p 7 ≤ 1) (h6 : countOp p 8 ≤ 1) : ProgOk 2 1 4 p := ⟨h1, h2, h3, h4, h5, h6⟩
theorem okS : ProgOk 2 1 4 [(2, 0)] := ⟨by simp, by simp, by simp; exact ⟨by simp, by simp, by simp, by simp, by simp⟩, by decide, by decide, by decide⟩
theorem okT : ProgOk 2 1 4 [(1, 0), (4, 0), (6, 0)] := ⟨by simp, by simp, by simp; refine ⟨?_, ?_, ?_⟩ <;> exact ⟨by simp, by simp, by simp, by simp, by simp⟩, by decide, by decide, by decide⟩
theorem okP : ProgOk 2 1 4 [(1, 0), (7, 0)] := ⟨by simp, by simp, by simp; refine ⟨?_, ?_⟩ <;> exact ⟨by simp, by simp, by simp, by simp, by simp⟩, by decide, by decide, by decide⟩
theorem okN : ProgOk 2 1 4 [(9, 3), (1, 0)] := ⟨by simp, by simp, by simp; refine ⟨?_, ?_⟩ <;> exact ⟨by simp, by simp, by simp, by simp, by simp⟩, by decide, by decide, by decide⟩
theorem sanity8_pure : Pure Tryz.prog 5 [] (.v (.bool true)) := by
  refine Pure.of (ACallP.of_awp (by kernel_rfl) Tryz.func5 rfl rfl (Nat.le_of_ble_eq_true rfl) (by kernel_rfl) ?_)
  have p1 := paths8_pure _ okS 0 0 (by omega) (by omega)
  have p2 := paths8_pure _ okS 1 0 (by omega) (by omega)
  have p3 := paths8_pure _ okT 0 1 (by omega) (by omega)
  have p4 := paths8_pure _ okP 0 0 (by omega) (by omega)
  have p5 := paths8_pure _ okP 0 1 (by omega) (by omega)
  have p6 := paths8_pure _ okN 0 0 (by omega) (by omega)
  simp only [Int.natCast_zero, Int.natCast_one, row_e1, row_e2, row_e3, row_e4, row_e5, row_e6, Int.ofNat_eq_natCast, Int.cast_ofNat_Int] at p1 p2 p3 p4 p5 p6
  have s1 := SamePaths_true [⟨[], 1⟩, ⟨[(3, 1, 0)], 2⟩] (by simp) (by simp [ActsLe])
  have s3 := SamePaths_true [⟨[(4, 2, 0), (6, 2, 0)], 2⟩] (by simp) (by simp [ActsLe])
  have s4 := SamePaths_true [⟨[(7, 1, 2)], 1⟩] (by simp) (by simp [ActsLe])
  have s6 := SamePaths_true [⟨[(9, 3, 0)], 1⟩] (by simp) (by simp [ActsLe])
  have c0 := gCount_pure ([], []) (by decide) (by simp) (by simp) (by simp)
  have hRow := row_pure [(2, 0)]
  have hgok := rowG_ok okS
  have hCom := Compile_pure (rowG [(2, 0)]) hgok
  have hsh := shape_codeP hgok
  have hCnt := gCount_pure (codeP (rowG [(2, 0)])) (by rw [row_e7]; omega) (by rw [hsh.l1]; decide) (by rw [hsh.l2]; decide) (fun x hx => by
    have h3 : (rowG [(2, 0)]).cells = 3 := rfl
    rcases List.mem_append.1 hx with h | h
    · have := hsh.c1 x h; omega
    · have := hsh.c2 x h; omega)
  rw [row_e7] at hCnt
  have hegl : (encGame (rowG [(2, 0)])).length = 9 := rfl
  have hegb : ∀ n, (∀ c ∈ encGame (rowG [(2, 0)]), Bel n c) = True := fun n => by simp [go_sem]
  have hecl : (encCode (codeP (rowG [(2, 0)]))).length = 2 := rfl
  have hecb : ∀ n, (∀ c ∈ encCode (codeP (rowG [(2, 0)])), Bel n c) = True := fun n => by simp [go_sem]
  generalize encCode (codeP (rowG [(2, 0)])) = ec at *
  generalize encGame (rowG [(2, 0)]) = eg at *
  have hc0 : countC (([], []) : CodeD) = 0 := rfl
  rw [hc0] at c0
  (repeat (first | with_reducible (first | refine wL fun _ => ?_ | refine wD fun _ => ?_ | refine wE ?_ | refine adrZ.go ?_) | simp [go_sem]))
  refine ACallP.pureF [0] p1 ?_ (by simp [go_sem]) ?_
  · ((try simp only [encProg, encStep, encAct, encAs, encPath, encPt, encOut, encState, encPos, encOs, encSs, encPs, encIs, encGame, List.map_cons, List.map_nil, List.nil_append, List.append_nil, List.cons_append]); (repeat (first | (with_reducible exact LeRow.nil) | (with_reducible exact LeRows.nil) | (with_reducible exact LeV.refl _) | (with_reducible exact LeRow.refl _ _ _ _) | (with_reducible exact LeRows.refl _) | (with_reducible refine LeRow.cons ?_ ?_) | (with_reducible refine LeRows.cons ?_ ?_) | (with_reducible refine LeV.agg ?_) | (with_reducible refine LeV.tup ?_) | (with_reducible refine LeV.fn ?_ ?_) | (with_reducible exact LeV.nil _) | (with_reducible refine leRows_append (LeRows.refl _) ?_) | ((refine leV_frz rfl (by simp) (by simp [frzO, frz1, upd, noH]) ?_); (first | (simp [go_sem]; done) | (simp [go_sem]; exact List.take_of_length_le (by simp)))) | ((refine LeV.frz rfl (by simp) (by simp [frzO, frz1, upd, noH]) ?_); (simp only [List.drop_zero, List.take_succ_cons, List.take_zero, List.map_cons, List.map_nil])) | ((refine LeV.frzP rfl (by simp) (by simp) (by simp [frzO, frz1, upd, noH]) ?_); (simp only [nth_zero, List.drop_zero])))))
  (repeat (first | with_reducible (first | refine wL fun _ => ?_ | refine wD fun _ => ?_ | refine wE ?_ | refine adrZ.go ?_) | simp [go_sem]))
  refine ACallP.flat s1 (.v _) ?_ (by simp [go_sem]) ?_
  · ((try simp only [encProg, encStep, encAct, encAs, encPath, encPt, encOut, encState, encPos, encOs, encSs, encPs, encIs, encGame, List.map_cons, List.map_nil, List.nil_append, List.append_nil, List.cons_append]); (repeat (first | (with_reducible exact LeRow.nil) | (with_reducible exact LeRows.nil) | (with_reducible exact LeV.refl _) | (with_reducible exact LeRow.refl _ _ _ _) | (with_reducible exact LeRows.refl _) | (with_reducible refine LeRow.cons ?_ ?_) | (with_reducible refine LeRows.cons ?_ ?_) | (with_reducible refine LeV.agg ?_) | (with_reducible refine LeV.tup ?_) | (with_reducible refine LeV.fn ?_ ?_) | (with_reducible exact LeV.nil _) | (with_reducible refine leRows_append (LeRows.refl _) ?_) | ((refine leV_frz rfl (by simp) (by simp [frzO, frz1, upd, noH]) ?_); (first | (simp [go_sem]; done) | (simp [go_sem]; exact List.take_of_length_le (by simp)))) | ((refine LeV.frz rfl (by simp) (by simp [frzO, frz1, upd, noH]) ?_); (simp only [List.drop_zero, List.take_succ_cons, List.take_zero, List.map_cons, List.map_nil])) | ((refine LeV.frzP rfl (by simp) (by simp) (by simp [frzO, frz1, upd, noH]) ?_); (simp only [nth_zero, List.drop_zero])))))
  (repeat (first | with_reducible (first | refine wL fun _ => ?_ | refine wD fun _ => ?_ | refine wE ?_ | refine adrZ.go ?_) | simp [go_sem]))
  refine aGC.go ?_
  refine ACallP.pureF [0] p2 ?_ (by simp [go_sem]) ?_
  · ((try simp only [encProg, encStep, encAct, encAs, encPath, encPt, encOut, encState, encPos, encOs, encSs, encPs, encIs, encGame, List.map_cons, List.map_nil, List.nil_append, List.append_nil, List.cons_append]); (repeat (first | (with_reducible exact LeRow.nil) | (with_reducible exact LeRows.nil) | (with_reducible exact LeV.refl _) | (with_reducible exact LeRow.refl _ _ _ _) | (with_reducible exact LeRows.refl _) | (with_reducible refine LeRow.cons ?_ ?_) | (with_reducible refine LeRows.cons ?_ ?_) | (with_reducible refine LeV.agg ?_) | (with_reducible refine LeV.tup ?_) | (with_reducible refine LeV.fn ?_ ?_) | (with_reducible exact LeV.nil _) | (with_reducible refine leRows_append (LeRows.refl _) ?_) | ((refine leV_frz rfl (by simp) (by simp [frzO, frz1, upd, noH]) ?_); (first | (simp [go_sem]; done) | (simp [go_sem]; exact List.take_of_length_le (by simp)))) | ((refine LeV.frz rfl (by simp) (by simp [frzO, frz1, upd, noH]) ?_); (simp only [List.drop_zero, List.take_succ_cons, List.take_zero, List.map_cons, List.map_nil])) | ((refine LeV.frzP rfl (by simp) (by simp) (by simp [frzO, frz1, upd, noH]) ?_); (simp only [nth_zero, List.drop_zero])))))
  (repeat (first | with_reducible (first | refine wL fun _ => ?_ | refine wD fun _ => ?_ | refine wE ?_ | refine adrZ.go ?_) | simp [go_sem]))
  refine ACallP.pureF [2] p3 ?_ (by simp [go_sem]) ?_
  · ((try simp only [encProg, encStep, encAct, encAs, encPath, encPt, encOut, encState, encPos, encOs, encSs, encPs, encIs, encGame, List.map_cons, List.map_nil, List.nil_append, List.append_nil, List.cons_append]); (repeat (first | (with_reducible exact LeRow.nil) | (with_reducible exact LeRows.nil) | (with_reducible exact LeV.refl _) | (with_reducible exact LeRow.refl _ _ _ _) | (with_reducible exact LeRows.refl _) | (with_reducible refine LeRow.cons ?_ ?_) | (with_reducible refine LeRows.cons ?_ ?_) | (with_reducible refine LeV.agg ?_) | (with_reducible refine LeV.tup ?_) | (with_reducible refine LeV.fn ?_ ?_) | (with_reducible exact LeV.nil _) | (with_reducible refine leRows_append (LeRows.refl _) ?_) | ((refine leV_frz rfl (by simp) (by simp [frzO, frz1, upd, noH]) ?_); (first | (simp [go_sem]; done) | (simp [go_sem]; exact List.take_of_length_le (by simp)))) | ((refine LeV.frz rfl (by simp) (by simp [frzO, frz1, upd, noH]) ?_); (simp only [List.drop_zero, List.take_succ_cons, List.take_zero, List.map_cons, List.map_nil])) | ((refine LeV.frzP rfl (by simp) (by simp) (by simp [frzO, frz1, upd, noH]) ?_); (simp only [nth_zero, List.drop_zero])))))
  (repeat (first | with_reducible (first | refine wL fun _ => ?_ | refine wD fun _ => ?_ | refine wE ?_ | refine adrZ.go ?_) | simp [go_sem]))
  refine ACallP.flat s3 (.v _) ?_ (by simp [go_sem]) ?_
  · ((try simp only [encProg, encStep, encAct, encAs, encPath, encPt, encOut, encState, encPos, encOs, encSs, encPs, encIs, encGame, List.map_cons, List.map_nil, List.nil_append, List.append_nil, List.cons_append]); (repeat (first | (with_reducible exact LeRow.nil) | (with_reducible exact LeRows.nil) | (with_reducible exact LeV.refl _) | (with_reducible exact LeRow.refl _ _ _ _) | (with_reducible exact LeRows.refl _) | (with_reducible refine LeRow.cons ?_ ?_) | (with_reducible refine LeRows.cons ?_ ?_) | (with_reducible refine LeV.agg ?_) | (with_reducible refine LeV.tup ?_) | (with_reducible refine LeV.fn ?_ ?_) | (with_reducible exact LeV.nil _) | (with_reducible refine leRows_append (LeRows.refl _) ?_) | ((refine leV_frz rfl (by simp) (by simp [frzO, frz1, upd, noH]) ?_); (first | (simp [go_sem]; done) | (simp [go_sem]; exact List.take_of_length_le (by simp)))) | ((refine LeV.frz rfl (by simp) (by simp [frzO, frz1, upd, noH]) ?_); (simp only [List.drop_zero, List.take_succ_cons, List.take_zero, List.map_cons, List.map_nil])) | ((refine LeV.frzP rfl (by simp) (by simp) (by simp [frzO, frz1, upd, noH]) ?_); (simp only [nth_zero, List.drop_zero])))))
  (repeat (first | with_reducible (first | refine wL fun _ => ?_ | refine wD fun _ => ?_ | refine wE ?_ | refine adrZ.go ?_) | simp [go_sem]))
  refine ACallP.pureF [1] p4 ?_ (by simp [go_sem]) ?_
  · ((try simp only [encProg, encStep, encAct, encAs, encPath, encPt, encOut, encState, encPos, encOs, encSs, encPs, encIs, encGame, List.map_cons, List.map_nil, List.nil_append, List.append_nil, List.cons_append]); (repeat (first | (with_reducible exact LeRow.nil) | (with_reducible exact LeRows.nil) | (with_reducible exact LeV.refl _) | (with_reducible exact LeRow.refl _ _ _ _) | (with_reducible exact LeRows.refl _) | (with_reducible refine LeRow.cons ?_ ?_) | (with_reducible refine LeRows.cons ?_ ?_) | (with_reducible refine LeV.agg ?_) | (with_reducible refine LeV.tup ?_) | (with_reducible refine LeV.fn ?_ ?_) | (with_reducible exact LeV.nil _) | (with_reducible refine leRows_append (LeRows.refl _) ?_) | ((refine leV_frz rfl (by simp) (by simp [frzO, frz1, upd, noH]) ?_); (first | (simp [go_sem]; done) | (simp [go_sem]; exact List.take_of_length_le (by simp)))) | ((refine LeV.frz rfl (by simp) (by simp [frzO, frz1, upd, noH]) ?_); (simp only [List.drop_zero, List.take_succ_cons, List.take_zero, List.map_cons, List.map_nil])) | ((refine LeV.frzP rfl (by simp) (by simp) (by simp [frzO, frz1, upd, noH]) ?_); (simp only [nth_zero, List.drop_zero])))))
  (repeat (first | with_reducible (first | refine wL fun _ => ?_ | refine wD fun _ => ?_ | refine wE ?_ | refine adrZ.go ?_) | simp [go_sem]))
  refine ACallP.flat s4 (.v _) ?_ (by simp [go_sem]) ?_
  · ((try simp only [encProg, encStep, encAct, encAs, encPath, encPt, encOut, encState, encPos, encOs, encSs, encPs, encIs, encGame, List.map_cons, List.map_nil, List.nil_append, List.append_nil, List.cons_append]); (repeat (first | (with_reducible exact LeRow.nil) | (with_reducible exact LeRows.nil) | (with_reducible exact LeV.refl _) | (with_reducible exact LeRow.refl _ _ _ _) | (with_reducible exact LeRows.refl _) | (with_reducible refine LeRow.cons ?_ ?_) | (with_reducible refine LeRows.cons ?_ ?_) | (with_reducible refine LeV.agg ?_) | (with_reducible refine LeV.tup ?_) | (with_reducible refine LeV.fn ?_ ?_) | (with_reducible exact LeV.nil _) | (with_reducible refine leRows_append (LeRows.refl _) ?_) | ((refine leV_frz rfl (by simp) (by simp [frzO, frz1, upd, noH]) ?_); (first | (simp [go_sem]; done) | (simp [go_sem]; exact List.take_of_length_le (by simp)))) | ((refine LeV.frz rfl (by simp) (by simp [frzO, frz1, upd, noH]) ?_); (simp only [List.drop_zero, List.take_succ_cons, List.take_zero, List.map_cons, List.map_nil])) | ((refine LeV.frzP rfl (by simp) (by simp) (by simp [frzO, frz1, upd, noH]) ?_); (simp only [nth_zero, List.drop_zero])))))
  (repeat (first | with_reducible (first | refine wL fun _ => ?_ | refine wD fun _ => ?_ | refine wE ?_ | refine adrZ.go ?_) | simp [go_sem]))
  refine aGC.go ?_
  refine ACallP.pureF [1] p5 ?_ (by simp [go_sem]) ?_
  · ((try simp only [encProg, encStep, encAct, encAs, encPath, encPt, encOut, encState, encPos, encOs, encSs, encPs, encIs, encGame, List.map_cons, List.map_nil, List.nil_append, List.append_nil, List.cons_append]); (repeat (first | (with_reducible exact LeRow.nil) | (with_reducible exact LeRows.nil) | (with_reducible exact LeV.refl _) | (with_reducible exact LeRow.refl _ _ _ _) | (with_reducible exact LeRows.refl _) | (with_reducible refine LeRow.cons ?_ ?_) | (with_reducible refine LeRows.cons ?_ ?_) | (with_reducible refine LeV.agg ?_) | (with_reducible refine LeV.tup ?_) | (with_reducible refine LeV.fn ?_ ?_) | (with_reducible exact LeV.nil _) | (with_reducible refine leRows_append (LeRows.refl _) ?_) | ((refine leV_frz rfl (by simp) (by simp [frzO, frz1, upd, noH]) ?_); (first | (simp [go_sem]; done) | (simp [go_sem]; exact List.take_of_length_le (by simp)))) | ((refine LeV.frz rfl (by simp) (by simp [frzO, frz1, upd, noH]) ?_); (simp only [List.drop_zero, List.take_succ_cons, List.take_zero, List.map_cons, List.map_nil])) | ((refine LeV.frzP rfl (by simp) (by simp) (by simp [frzO, frz1, upd, noH]) ?_); (simp only [nth_zero, List.drop_zero])))))
  (repeat (first | with_reducible (first | refine wL fun _ => ?_ | refine wD fun _ => ?_ | refine wE ?_ | refine adrZ.go ?_) | simp [go_sem]))
  refine aGC.go ?_
  refine ACallP.pureF [3] p6 ?_ (by simp [go_sem]) ?_
  · ((try simp only [encProg, encStep, encAct, encAs, encPath, encPt, encOut, encState, encPos, encOs, encSs, encPs, encIs, encGame, List.map_cons, List.map_nil, List.nil_append, List.append_nil, List.cons_append]); (repeat (first | (with_reducible exact LeRow.nil) | (with_reducible exact LeRows.nil) | (with_reducible exact LeV.refl _) | (with_reducible exact LeRow.refl _ _ _ _) | (with_reducible exact LeRows.refl _) | (with_reducible refine LeRow.cons ?_ ?_) | (with_reducible refine LeRows.cons ?_ ?_) | (with_reducible refine LeV.agg ?_) | (with_reducible refine LeV.tup ?_) | (with_reducible refine LeV.fn ?_ ?_) | (with_reducible exact LeV.nil _) | (with_reducible refine leRows_append (LeRows.refl _) ?_) | ((refine leV_frz rfl (by simp) (by simp [frzO, frz1, upd, noH]) ?_); (first | (simp [go_sem]; done) | (simp [go_sem]; exact List.take_of_length_le (by simp)))) | ((refine LeV.frz rfl (by simp) (by simp [frzO, frz1, upd, noH]) ?_); (simp only [List.drop_zero, List.take_succ_cons, List.take_zero, List.map_cons, List.map_nil])) | ((refine LeV.frzP rfl (by simp) (by simp) (by simp [frzO, frz1, upd, noH]) ?_); (simp only [nth_zero, List.drop_zero])))))
  (repeat (first | with_reducible (first | refine wL fun _ => ?_ | refine wD fun _ => ?_ | refine wE ?_ | refine adrZ.go ?_) | simp [go_sem]))
  refine aGC.go ?_
  refine ACallP.flat s6 (.v _) ?_ (by simp [go_sem]) ?_
  · ((try simp only [encProg, encStep, encAct, encAs, encPath, encPt, encOut, encState, encPos, encOs, encSs, encPs, encIs, encGame, List.map_cons, List.map_nil, List.nil_append, List.append_nil, List.cons_append]); (repeat (first | (with_reducible exact LeRow.nil) | (with_reducible exact LeRows.nil) | (with_reducible exact LeV.refl _) | (with_reducible exact LeRow.refl _ _ _ _) | (with_reducible exact LeRows.refl _) | (with_reducible refine LeRow.cons ?_ ?_) | (with_reducible refine LeRows.cons ?_ ?_) | (with_reducible refine LeV.agg ?_) | (with_reducible refine LeV.tup ?_) | (with_reducible refine LeV.fn ?_ ?_) | (with_reducible exact LeV.nil _) | (with_reducible refine leRows_append (LeRows.refl _) ?_) | ((refine leV_frz rfl (by simp) (by simp [frzO, frz1, upd, noH]) ?_); (first | (simp [go_sem]; done) | (simp [go_sem]; exact List.take_of_length_le (by simp)))) | ((refine LeV.frz rfl (by simp) (by simp [frzO, frz1, upd, noH]) ?_); (simp only [List.drop_zero, List.take_succ_cons, List.take_zero, List.map_cons, List.map_nil])) | ((refine LeV.frzP rfl (by simp) (by simp) (by simp [frzO, frz1, upd, noH]) ?_); (simp only [nth_zero, List.drop_zero])))))
  (repeat (first | with_reducible (first | refine wL fun _ => ?_ | refine wD fun _ => ?_ | refine wE ?_ | refine adrZ.go ?_) | simp [go_sem]))
  refine aGC.go ?_
  refine ACallP.pureF [0] hRow ?_ (by simp [go_sem]) ?_
  · ((try simp only [encProg, encStep, encAct, encAs, encPath, encPt, encOut, encState, encPos, encOs, encSs, encPs, encIs, encGame, List.map_cons, List.map_nil, List.nil_append, List.append_nil, List.cons_append]); (repeat (first | (with_reducible exact LeRow.nil) | (with_reducible exact LeRows.nil) | (with_reducible exact LeV.refl _) | (with_reducible exact LeRow.refl _ _ _ _) | (with_reducible exact LeRows.refl _) | (with_reducible refine LeRow.cons ?_ ?_) | (with_reducible refine LeRows.cons ?_ ?_) | (with_reducible refine LeV.agg ?_) | (with_reducible refine LeV.tup ?_) | (with_reducible refine LeV.fn ?_ ?_) | (with_reducible exact LeV.nil _) | (with_reducible refine leRows_append (LeRows.refl _) ?_) | ((refine leV_frz rfl (by simp) (by simp [frzO, frz1, upd, noH]) ?_); (first | (simp [go_sem]; done) | (simp [go_sem]; exact List.take_of_length_le (by simp)))) | ((refine LeV.frz rfl (by simp) (by simp [frzO, frz1, upd, noH]) ?_); (simp only [List.drop_zero, List.take_succ_cons, List.take_zero, List.map_cons, List.map_nil])) | ((refine LeV.frzP rfl (by simp) (by simp) (by simp [frzO, frz1, upd, noH]) ?_); (simp only [nth_zero, List.drop_zero])))))
  (repeat (first | with_reducible (first | refine wL fun _ => ?_ | refine wD fun _ => ?_ | refine wE ?_ | refine adrZ.go ?_) | simp [go_sem, hegl]))
  refine aGC.plain _ (fun _ => hCom) (by simp [go_sem, hegb]) ?_
  (repeat (first | with_reducible (first | refine wL fun _ => ?_ | refine wD fun _ => ?_ | refine wE ?_ | refine adrZ.go ?_) | simp [go_sem, hegl, hecl]))
  refine aGC.plain _ (fun _ => hCnt) (by simp [go_sem, hecb]) ?_
  (repeat (first | with_reducible (first | refine wL fun _ => ?_ | refine wD fun _ => ?_ | refine wE ?_ | refine adrZ.go ?_) | simp [go_sem]))
  refine aGC.go ?_
  refine ACallP.flat c0 (.v _) ?_ (by simp [go_sem]) ?_
  · simp only [encCode, encSide, List.map_nil]
    ((try simp only [encProg, encStep, encAct, encAs, encPath, encPt, encOut, encState, encPos, encOs, encSs, encPs, encIs, encGame, List.map_cons, List.map_nil, List.nil_append, List.append_nil, List.cons_append]); (repeat (first | (with_reducible exact LeRow.nil) | (with_reducible exact LeRows.nil) | (with_reducible exact LeV.refl _) | (with_reducible exact LeRow.refl _ _ _ _) | (with_reducible exact LeRows.refl _) | (with_reducible refine LeRow.cons ?_ ?_) | (with_reducible refine LeRows.cons ?_ ?_) | (with_reducible refine LeV.agg ?_) | (with_reducible refine LeV.tup ?_) | (with_reducible refine LeV.fn ?_ ?_) | (with_reducible exact LeV.nil _) | (with_reducible refine leRows_append (LeRows.refl _) ?_) | ((refine leV_frz rfl (by simp) (by simp [frzO, frz1, upd, noH]) ?_); (first | (simp [go_sem]; done) | (simp [go_sem]; exact List.take_of_length_le (by simp)))) | ((refine LeV.frz rfl (by simp) (by simp [frzO, frz1, upd, noH]) ?_); (simp only [List.drop_zero, List.take_succ_cons, List.take_zero, List.map_cons, List.map_nil])) | ((refine LeV.frzP rfl (by simp) (by simp) (by simp [frzO, frz1, upd, noH]) ?_); (simp only [nth_zero, List.drop_zero])))))
  (repeat (first | with_reducible (first | refine wL fun _ => ?_ | refine wD fun _ => ?_ | refine wE ?_ | refine adrZ.go ?_) | simp [go_sem]))
end Go.Av
end
section
set_option linter.unusedSimpArgs false
set_option linter.unusedVariables false
open Go Go.Proofs
set_option maxRecDepth 20000
set_option maxHeartbeats 4000000
namespace Go.Av
theorem R4Same_pure (a b : PosD) (ha : FitsP a) (hb : FitsP b) : Pure Tryz.prog 86 [.agg (encPos a), .agg (encPos b)] (.v (.bool (decide (cmpP a b = 0)))) := by
  refine Pure.of (ACallP.of_awp (by kernel_rfl) Tryz.func86 rfl rfl (Nat.le_of_ble_eq_true rfl) (by kernel_rfl) ?_)
  (repeat (first | with_reducible (first | refine wL fun _ => ?_ | refine wD fun _ => ?_ | refine wE ?_ | refine adrZ.go ?_) | simp [go_sem]))
  refine ACallP.plain (Compare_pure a b ha hb) (by simp [go_sem]) ?_
  (repeat (first | with_reducible (first | refine wL fun _ => ?_ | refine wD fun _ => ?_ | refine wE ?_ | refine adrZ.go ?_) | simp [go_sem]))
attribute [go_sem ↓] bel_P bel_I List.forall_mem_append
theorem bel1 {x : AV} (h : Bel 0 x) : ∀ c ∈ [x], Bel 0 c := by simpa using h
theorem bel_encPs {n : Nat} (l : List PosD) : Bel n (encPs l) := of_eq_true bel_Ps
theorem half_pure : ∀ (f : Nat) (l : List PosD), l.length ≤ f + 1 → l.length ≤ 68719476736 → (∀ p ∈ l, FitsP p) → Pure Tryz.prog 85 [encPs l] (encPs (sortC cmpP l)) := by
  intro f
  induction f with
  | zero =>
    intro l h1 h2 h3
    rw [sortC_short (by omega)]
    refine Pure.of (ACallP.of_awp (by kernel_rfl) Tryz.func85 rfl rfl (Nat.le_of_ble_eq_true rfl) (by kernel_rfl) ?_)
    (repeat (first | with_reducible (first | refine wL fun _ => ?_ | refine wD fun _ => ?_ | refine wE ?_ | refine adrZ.go ?_) | simp [go_sem]))
    (refine aIf.mkL (fun hT => ?_) (fun hT => by first | omega | (simp at hT; omega)); clear hT)
    (repeat (first | with_reducible (first | refine wL fun _ => ?_ | refine wD fun _ => ?_ | refine wE ?_ | refine adrZ.go ?_) | simp [go_sem]))
  | succ f ih =>
    intro l h1 h2 h3
    by_cases hs : l.length < 2
    · rw [sortC_short hs]
      refine Pure.of (ACallP.of_awp (by kernel_rfl) Tryz.func85 rfl rfl (Nat.le_of_ble_eq_true rfl) (by kernel_rfl) ?_)
      (repeat (first | with_reducible (first | refine wL fun _ => ?_ | refine wD fun _ => ?_ | refine wE ?_ | refine adrZ.go ?_) | simp [go_sem]))
      (refine aIf.mkL (fun hT => ?_) (fun hT => by first | omega | (simp at hT; omega)); clear hT)
      (repeat (first | with_reducible (first | refine wL fun _ => ?_ | refine wD fun _ => ?_ | refine wE ?_ | refine adrZ.go ?_) | simp [go_sem]))
    · have hm := sortC_merge cmp_pos (l.take (l.length / 2)) (l.drop (l.length / 2))
      rw [List.take_append_drop] at hm
      have hA := ih (l.take (l.length / 2)) (by simp; omega) (by simp; omega) (fun p hp => h3 p (List.mem_of_mem_take hp))
      have hB := ih (l.drop (l.length / 2)) (by simp; omega) (by simp; omega) (fun p hp => h3 p (List.mem_of_mem_drop hp))
      have fA : ∀ p ∈ sortC cmpP (l.take (l.length / 2)), FitsP p := fun p hp => h3 p (List.mem_of_mem_take (sortC_mem.1 hp))
      have fB : ∀ p ∈ sortC cmpP (l.drop (l.length / 2)), FitsP p := fun p hp => h3 p (List.mem_of_mem_drop (sortC_mem.1 hp))
      have lA : (sortC cmpP (l.take (l.length / 2))).length = l.length / 2 := by rw [sortC_len]; simp; omega
      have lB : (sortC cmpP (l.drop (l.length / 2))).length = l.length - l.length / 2 := by rw [sortC_len]; simp
      rw [← hm]
      generalize sortC cmpP (l.take (l.length / 2)) = xs at *
      generalize sortC cmpP (l.drop (l.length / 2)) = ys at *
      have hq : ((l.length : Int) / 2).toNat = l.length / 2 := by omega
      have eA : AV.lst 5 (List.take (l.length / 2) (l.map encPos)) = encPs (l.take (l.length / 2)) := by simp [encPs, List.map_take]
      have eB : AV.lst 5 (List.take (l.length - l.length / 2) (List.drop (l.length / 2) (l.map encPos))) = encPs (l.drop (l.length / 2)) := by rw [List.take_of_length_le (by simp)]; simp [encPs, List.map_drop]
      generalize hR : List.merge xs ys (leC cmpP) = R
      refine Pure.of (ACallP.of_awp (by kernel_rfl) Tryz.func85 rfl rfl (Nat.le_of_ble_eq_true rfl) (by kernel_rfl) ?_)
      (repeat (first | with_reducible (first | refine wL fun _ => ?_ | refine wD fun _ => ?_ | refine wE ?_ | refine adrZ.go ?_) | simp [go_sem]))
      (refine aIf.mkL (fun hF => by first | omega | (simp at hF; omega)) (fun hF => ?_); clear hF)
      (repeat (first | with_reducible (first | refine wL fun _ => ?_ | refine wD fun _ => ?_ | refine wE ?_ | refine adrZ.go ?_) | simp [go_sem, hq]))
      rw [eA]
      refine ACallP.plain hA (bel1 (bel_encPs _)) ?_
      (repeat (first | with_reducible (first | refine wL fun _ => ?_ | refine wD fun _ => ?_ | refine wE ?_ | refine adrZ.go ?_) | simp [go_sem, hq]))
      rw [eB]
      refine ACallP.plain hB (bel1 (bel_encPs _)) ?_
      (repeat (first | with_reducible (first | refine wL fun _ => ?_ | refine wD fun _ => ?_ | refine wE ?_ | refine adrZ.go ?_) | simp [go_sem, hq]))
      refine ALoop.start (ALoop.ind (α := Nat × Nat × List PosD) (fun a => ⟨[(3, encPs xs), (4, encPs ys), (5, .sl 0 a.2.2.length 5 0 a.2.2.length), (6, .v (.int .i64 a.1)), (7, .v (.int .i64 a.2.1))], [(0, .rows true a.2.2.length 5 (a.2.2.map encPos))], 1⟩)
        (fun d a => a.1 + a.2.1 + d = xs.length + ys.length ∧ a.1 ≤ xs.length ∧ a.2.1 ≤ ys.length ∧ a.2.2.length = a.1 + a.2.1 ∧ R = a.2.2 ++ List.merge (xs.drop a.1) (ys.drop a.2.1) (leC cmpP)) ?_ (xs.length + ys.length) (0, 0, []) ?_) ?_ ?_
      · rintro d ⟨i, k, out⟩ ⟨i1, i2, i3, i4, i5⟩ hrec
        simp only at i1 i2 i3 i4 i5
        (repeat (first | with_reducible (first | refine wL fun _ => ?_ | refine wD fun _ => ?_ | refine wE ?_ | refine adrZ.go ?_) | simp [go_sem]))
        refine aIf.mkL (fun hj => ?_) (fun hj => ?_) <;> simp at hj
        · by_cases hk : k < ys.length
          · by_cases hi : i < xs.length
            · have fa := fA _ (nth_mem hi)
              have fb := fB _ (nth_mem hk)
              rw [dropG_cons hi, dropG_cons hk, List.cons_merge_cons, ← dropG_cons hi, ← dropG_cons hk] at i5
              have hk' := Nat.not_le.2 hk
              (repeat (first | with_reducible (first | refine wL fun _ => ?_ | refine wD fun _ => ?_ | refine wE ?_ | refine adrZ.go ?_) | simp [go_sem, hk, hk', hi]))
              try ((with_reducible refine adrZ.go ?_); (try simp [go_sem]))
              refine dGC.plain _ (fun _ => Compare_pure _ _ fa fb) (by simp [go_sem]) ?_
              (repeat (first | with_reducible (first | refine wL fun _ => ?_ | refine wD fun _ => ?_ | refine wE ?_ | refine adrZ.go ?_) | simp [go_sem, hk, hk', hi]))
              refine aIf.mkL (fun hc => ?_) (fun hc => ?_) <;> simp at hc
              · rw [if_pos (by simpa [leC] using hc)] at i5
                (repeat (first | with_reducible (first | refine wL fun _ => ?_ | refine wD fun _ => ?_ | refine wE ?_ | refine adrZ.go ?_) | simp [go_sem, hk, hi]))
                refine ALoop.start (hrec (d - 1) (by omega) (i + 1, k, out ++ [nth xs i]) ⟨by simp only; omega, by simp only; omega, i3, by simp; omega, by simpa using i5⟩) ?_ (by simp)
                simp [go_sem, Wk_eq]
              · rw [if_neg (by simpa [leC] using hc)] at i5
                (repeat (first | with_reducible (first | refine wL fun _ => ?_ | refine wD fun _ => ?_ | refine wE ?_ | refine adrZ.go ?_) | simp [go_sem, hk, hi]))
                refine ALoop.start (hrec (d - 1) (by omega) (i, k + 1, out ++ [nth ys k]) ⟨by simp only; omega, i2, by simp only; omega, by simp; omega, by simpa using i5⟩) ?_ (by simp)
                simp [go_sem, Wk_eq]
            · rw [List.drop_eq_nil_of_le (show xs.length ≤ i by omega), List.nil_merge, dropG_cons hk] at i5
              have hk' := Nat.not_le.2 hk
              (repeat (first | with_reducible (first | refine wL fun _ => ?_ | refine wD fun _ => ?_ | refine wE ?_ | refine adrZ.go ?_) | simp [go_sem, hk, hk', hi]))
              try ((with_reducible refine adrZ.go ?_); (try simp [go_sem]))
              refine dGC.skip (.v (.int .i64 0)) ?_
              (repeat (first | with_reducible (first | refine wL fun _ => ?_ | refine wD fun _ => ?_ | refine wE ?_ | refine adrZ.go ?_) | simp [go_sem, hk, hk', hi]))
              refine ALoop.start (hrec (d - 1) (by omega) (i, k + 1, out ++ [nth ys k]) ⟨by simp only; omega, i2, by simp only; omega, by simp; omega, by simp [List.drop_eq_nil_of_le (show xs.length ≤ i by omega), i5]⟩) ?_ (by simp)
              simp [go_sem, Wk_eq]
          · have hi : i < xs.length := by omega
            rw [List.drop_eq_nil_of_le (show ys.length ≤ k by omega), List.merge_right, dropG_cons hi] at i5
            have hk' := Nat.not_lt.1 hk
            (repeat (first | with_reducible (first | refine wL fun _ => ?_ | refine wD fun _ => ?_ | refine wE ?_ | refine adrZ.go ?_) | simp [go_sem, hk, hk', hi]))
            try ((with_reducible refine adrZ.go ?_); (try simp [go_sem]))
            refine dGC.skip (.v (.int .i64 0)) ?_
            (repeat (first | with_reducible (first | refine wL fun _ => ?_ | refine wD fun _ => ?_ | refine wE ?_ | refine adrZ.go ?_) | simp [go_sem, hk, hk', hi]))
            refine ALoop.start (hrec (d - 1) (by omega) (i + 1, k, out ++ [nth xs i]) ⟨by simp only; omega, by simp only; omega, i3, by simp; omega, by simp [List.drop_eq_nil_of_le (show ys.length ≤ k by omega), i5]⟩) ?_ (by simp)
            simp [go_sem, Wk_eq]
        · rw [List.drop_eq_nil_of_le (show xs.length ≤ i by omega), List.drop_eq_nil_of_le (show ys.length ≤ k by omega)] at i5
          (repeat (first | with_reducible (first | refine wL fun _ => ?_ | refine wD fun _ => ?_ | refine wE ?_ | refine adrZ.go ?_) | simp [go_sem]))
          rw [i5]
          (refine leV_frz rfl (by simp) (by simp [noH, upd]) ?_; first | (simp [go_sem]; done) | (simp [go_sem]; exact List.take_of_length_le (by simp)))
      · simp [hR]
      · simp [go_sem, Wk_eq]
      · simp
end Go.Av
end
section
set_option linter.unusedSimpArgs false
set_option linter.unusedVariables false
open Go Go.Proofs
set_option maxRecDepth 20000
set_option maxHeartbeats 4000000
namespace Go.Av
def ddAt (all : List PosD) (i : Nat) : List PosD := if i = 0 then dedup all else dedupGo (nth all (i - 1)) (all.drop i)
theorem ddAt_zero (all : List PosD) : ddAt all 0 = dedup all := rfl
theorem ddAt_end {all : List PosD} {i : Nat} (h : all.length ≤ i) : ddAt all i = [] := by
  unfold ddAt
  split
  · cases all with
    | nil => rfl
    | cons a l => simp at h; omega
  · rw [List.drop_eq_nil_of_le h]; rfl
theorem ddAt_keep {all : List PosD} {i : Nat} (h : i < all.length) (hk : i = 0 ∨ nth all i ≠ nth all (i - 1)) : ddAt all i = nth all i :: ddAt all (i + 1) := by
  unfold ddAt
  rw [if_neg (show ¬ i + 1 = 0 by omega), Nat.add_sub_cancel]
  split
  · rename_i h0
    subst h0
    cases all with
    | nil => simp at h
    | cons a l => rfl
  · rw [dropG_cons h, dedupGo, if_neg (by rcases hk with h | h; omega; exact h)]
theorem ddAt_skip {all : List PosD} {i : Nat} (h : i < all.length) (hi : i ≠ 0) (hk : nth all i = nth all (i - 1)) : ddAt all i = ddAt all (i + 1) := by
  unfold ddAt
  rw [if_neg (show ¬ i + 1 = 0 by omega), Nat.add_sub_cancel, if_neg hi, dropG_cons h, dedupGo, if_pos hk, hk]
theorem R4Sort_pure (l : List PosD) (hl : l.length ≤ 68719476736) (hf : ∀ p ∈ l, FitsP p) : Pure Tryz.prog 63 [encPs l] (encPs (sortU cmpP l)) := by
  have hH := half_pure l.length l (by omega) hl hf
  unfold sortU
  have fA : ∀ p ∈ sortC cmpP l, FitsP p := fun p hp => hf p (sortC_mem.1 hp)
  have lA : (sortC cmpP l).length = l.length := sortC_len l
  generalize sortC cmpP l = all at *
  generalize hR : dedup all = R
  refine Pure.of (ACallP.of_awp (by kernel_rfl) Tryz.func63 rfl rfl (Nat.le_of_ble_eq_true rfl) (by kernel_rfl) ?_)
  (repeat (first | with_reducible (first | refine wL fun _ => ?_ | refine wD fun _ => ?_ | refine wE ?_ | refine adrZ.go ?_) | simp [go_sem]))
  refine ACallP.plain hH (bel1 (bel_encPs _)) ?_
  (repeat (first | with_reducible (first | refine wL fun _ => ?_ | refine wD fun _ => ?_ | refine wE ?_ | refine adrZ.go ?_) | simp [go_sem]))
  refine ALoop.start (ALoop.ind (α := Nat × List PosD) (fun a => ⟨[(3, encPs all), (4, .sl 0 a.2.length 5 0 a.2.length), (5, .v (.int .i64 a.1))], [(0, .rows true a.2.length 5 (a.2.map encPos))], 1⟩)
    (fun d a => a.1 + d = all.length ∧ a.2.length ≤ a.1 ∧ R = a.2 ++ ddAt all a.1) ?_ all.length (0, []) ?_) ?_ ?_
  · rintro d ⟨i, out⟩ ⟨i1, i2, i3⟩ hrec
    simp only at i1 i2 i3
    (repeat (first | with_reducible (first | refine wL fun _ => ?_ | refine wD fun _ => ?_ | refine wE ?_ | refine adrZ.go ?_) | simp [go_sem]))
    refine aIf.mkL (fun hi => ?_) (fun hi => ?_) <;> simp at hi
    · by_cases h0 : i = 0
      · rw [ddAt_keep hi (.inl h0)] at i3
        subst h0
        (repeat (first | with_reducible (first | refine wL fun _ => ?_ | refine wD fun _ => ?_ | refine wE ?_ | refine adrZ.go ?_) | simp [go_sem, hi]))
        try ((with_reducible refine adrZ.go ?_); (try simp [go_sem]))
        refine dGC.skip (.v (.bool true)) ?_
        (repeat (first | with_reducible (first | refine wL fun _ => ?_ | refine wD fun _ => ?_ | refine wE ?_ | refine adrZ.go ?_) | simp [go_sem, hi]))
        refine ALoop.start (hrec (d - 1) (by omega) (0 + 1, out ++ [nth all 0]) ⟨by simp only; omega, by simp only [List.length_append, List.length_singleton]; omega, by simpa using i3⟩) ?_ (by simp)
        simp [go_sem, Wk_eq]
      · have fa := fA _ (nth_mem hi)
        have hi' : i - 1 < all.length := by omega
        have e1 : ((i : Int) - 1).toNat = i - 1 := by omega
        have fb := fA _ (nth_mem hi')
        (repeat (first | with_reducible (first | refine wL fun _ => ?_ | refine wD fun _ => ?_ | refine wE ?_ | refine adrZ.go ?_) | simp [go_sem, hi, h0, e1, hi']))
        try ((with_reducible refine adrZ.go ?_); (try simp [go_sem]))
        refine dGC.plain _ (fun _ => R4Same_pure _ _ fa fb) (by simp [go_sem]) ?_
        (repeat (first | with_reducible (first | refine wL fun _ => ?_ | refine wD fun _ => ?_ | refine wE ?_ | refine adrZ.go ?_) | simp [go_sem, hi, h0]))
        refine aIf.mkL (fun hc => ?_) (fun hc => ?_) <;> simp at hc
        · rw [cmpP_eq] at hc
          rw [ddAt_keep hi (.inr hc)] at i3
          (repeat (first | with_reducible (first | refine wL fun _ => ?_ | refine wD fun _ => ?_ | refine wE ?_ | refine adrZ.go ?_) | simp [go_sem, hi]))
          refine ALoop.start (hrec (d - 1) (by omega) (i + 1, out ++ [nth all i]) ⟨by simp only; omega, by simp; omega, by simpa using i3⟩) ?_ (by simp)
          simp [go_sem, Wk_eq]
        · rw [cmpP_eq] at hc
          rw [ddAt_skip hi h0 hc] at i3
          (repeat (first | with_reducible (first | refine wL fun _ => ?_ | refine wD fun _ => ?_ | refine wE ?_ | refine adrZ.go ?_) | simp [go_sem, hi]))
          refine ALoop.start (hrec (d - 1) (by omega) (i + 1, out) ⟨by simp only; omega, by simp only; omega, i3⟩) ?_ (by simp)
          simp [go_sem, Wk_eq]
    · rw [ddAt_end hi] at i3
      (repeat (first | with_reducible (first | refine wL fun _ => ?_ | refine wD fun _ => ?_ | refine wE ?_ | refine adrZ.go ?_) | simp [go_sem]))
      rw [i3]
      (refine leV_frz rfl (by simp) (by simp [noH, upd]) ?_; first | (simp [go_sem]; done) | (simp [go_sem]; exact List.take_of_length_le (by simp)))
  · simp [hR, ddAt_zero]
  · simp [go_sem, Wk_eq]
  · simp
end Go.Av
end
