/- Contracts, paths: gen.Compile. -/
import Derived.Test.YtpngjhfkaogdeaaDO
import Derived.Test.YtpngjhfkaogdeaaDL
section
set_option linter.unusedSimpArgs false
set_option linter.unusedVariables false
open Go Go.Proofs
set_option maxRecDepth 20000
set_option maxHeartbeats 4000000
namespace Go.Av
theorem compile1_pure (g : GameD) (hg : GOk g) (side : Int) (cell : Int) (prog : List (Int × Int)) (hp : prog.length ≤ 8) :
    Pure Try.prog 56 [encProg prog, .fp (encGame g), .fp [.v (.int .i64 side)], .fp [.v (.int .i64 cell)]] (encPt (pathsP g.board side prog cell)) := by
  refine Pure.of (ACallP.of_awp (by kernel_rfl) Try.func56 rfl rfl (Nat.le_of_ble_eq_true rfl) (by kernel_rfl) ?_)
  have hP := paths_pure g.board hg.board hg.c1 hg.c9 side prog hp cell
  generalize pathsP g.board side prog cell = R at *
  rw [show encB g.board = [.v (.int .i64 g.cells), encIss g.next, encIs g.turn] from rfl] at hP
  (repeat (first | with_reducible (first | refine wL fun _ => ?_ | refine wD fun _ => ?_ | refine wE ?_ | refine adrZ.go ?_) | simp [go_sem]))
  refine ACallP.plain hP (by simp [go_sem]) ?_
  (repeat (first | with_reducible (first | refine wL fun _ => ?_ | refine wD fun _ => ?_ | refine wE ?_ | refine adrZ.go ?_) | simp [go_sem]))
/-- a list that is filled from its beginning on -/
def fillR (f : Nat → List AV) (z : List AV) (n c : Nat) : List (List AV) := (List.range n).map fun i => if i < c then f i else z
theorem fillR_len (f : Nat → List AV) (z : List AV) (n c : Nat) : (fillR f z n c).length = n := by simp [fillR]
theorem fillR_zero (f : Nat → List AV) (z : List AV) (n : Nat) : List.replicate n z = fillR f z n 0 := by
  unfold fillR
  refine List.ext_getElem (by simp) fun i h1 h2 => ?_
  simp
theorem fillR_set (f : Nat → List AV) (z : List AV) (n c : Nat) : (fillR f z n c).set c (f c) = fillR f z n (c + 1) := by
  unfold fillR
  refine List.ext_getElem (by simp) fun i h1 h2 => ?_
  simp only [List.getElem_set, List.getElem_map, List.getElem_range]
  by_cases h : c = i
  · subst h; simp
  · rw [if_neg h]
    by_cases hi : i < c
    · rw [if_pos hi, if_pos (by omega)]
    · rw [if_neg hi, if_neg (by omega)]
theorem fillR_all (f : Nat → List AV) (z : List AV) (n : Nat) : fillR f z n n = (List.range n).map f := by
  unfold fillR
  refine List.map_congr_left fun i hi => ?_
  rw [if_pos (List.mem_range.1 hi)]
theorem fillR_bel {f : Nat → List AV} {z : List AV} {n c m : Nat} (hf : ∀ i, ∀ x ∈ f i, Bel m x) (hz : ∀ x ∈ z, Bel m x) : ∀ r ∈ fillR f z n c, ∀ x ∈ r, Bel m x := by
  intro r hr x hx
  unfold fillR at hr
  obtain ⟨i, _, rfl⟩ := List.mem_map.1 hr
  split at hx
  · exact hf i x hx
  · exact hz x hx
theorem frzO_upd (h : Heap) (o : Nat) (x : Option AObj) : frzO (upd h o x) [o] = upd h o (frz1 x) := by
  funext a
  unfold frzO upd
  by_cases e : a = o
  · subst e; simp
  · simp [e]
def sideK (g : GameD) (side : Int) (j : Nat) : List (List (List PathD)) := (g.kinds.take j).map fun k => cellsP g.board side k.progs
theorem sideK_succ (g : GameD) (side : Int) {j : Nat} (h : j < g.kinds.length) : sideK g side (j + 1) = sideK g side j ++ [cellsP g.board side (nth g.kinds j).progs] := by
  unfold sideK
  rw [List.take_add_one, List.getElem?_eq_getElem h, nth_eq _ _ h, Option.toList_some, List.map_append]
  rfl
theorem sideK_all (g : GameD) (side : Int) : sideK g side g.kinds.length = sideP g side := by unfold sideK sideP; rw [List.take_length]
theorem sideK_zero (g : GameD) (side : Int) : sideK g side 0 = [] := by simp [sideK]
theorem sideK_len (g : GameD) (side : Int) {j : Nat} (h : j ≤ g.kinds.length) : (sideK g side j).length = j := by simp [sideK]; omega
theorem kindP_len {g : GameD} (hg : GOk g) (side : Int) {k : KindD} (hk : k ∈ g.kinds) (cell : Int) : (kindP g.board side k.progs cell).length ≤ 8589934592 := by
  have h := flatMap_le (fun p => pathsP g.board side p cell) 43046721 k.progs (fun p hp => by
    have := pathsK_len hg.board hg.c1 hg.c9 side p (hg.pr k hk p hp).len cell p.length
    unfold pathsK at this
    rwa [List.take_length] at this)
  have := hg.pn k hk
  have h2 : k.progs.length * 43046721 ≤ 8 * 43046721 := Nat.mul_le_mul_right _ this
  unfold kindP
  omega
theorem kindP_acts {g : GameD} (hg : GOk g) (s : Int) {k : KindD} (hk : k ∈ g.kinds) (c : Int) : ActsLe 1048576 (kindP g.board s k.progs c) := by
  intro w hw
  obtain ⟨p, hp, hw⟩ := List.mem_flatMap.1 hw
  have := pathsK_acts hg.board hg.c9 s p c p.length (Nat.le_refl _) w (by unfold pathsK; rwa [List.take_length])
  have := (hg.pr k hk p hp).len
  omega
theorem Compile_pure (g : GameD) (hg : GOk g) : Pure Try.prog 33 [.agg (encGame g)] (.agg (encCode (codeP g))) := by
  refine Pure.of (ACallP.of_awp (by kernel_rfl) Try.func33 rfl rfl (Nat.le_of_ble_eq_true rfl) (by kernel_rfl) ?_)
  have hc9 := hg.c9
  have hc1 := hg.c1
  have hk6 := hg.k6
  have hF := fun (s : Int) (c : Int) (k : KindD) (hk : k ∈ g.kinds) => flatQ_pure k.progs (by have := hg.pn k hk; omega) 56 [.fp (encGame g), .fp [.v (.int .i64 s)], .fp [.v (.int .i64 c)]] (fun p => pathsP g.board s p c)
    (fun p hp => compile1_pure g hg s c p (hg.pr k hk p hp).len) (by simp [go_sem]) (kindP_len hg s hk c)
  have hkb : ∀ (s : Int) (k : KindD) (c : Nat), c < g.cells.toNat → True := fun _ _ _ _ => trivial
  have hR : encCode (codeP g) = [encSide (sideP g 0), encSide (sideP g 1)] := rfl
  rw [hR]
  clear hR
  have hsk := fun (s : Int) (j : Nat) (h : j < g.kinds.length) => sideK_succ g s h
  have hsa := fun s => sideK_all g s
  have hsz := fun s => sideK_zero g s
  have hsl := fun (s : Int) (j : Nat) (h : j ≤ g.kinds.length) => sideK_len g s h
  obtain ⟨C, hC⟩ : ∃ C : Nat, g.cells = C := ⟨g.cells.toNat, by omega⟩
  have hcells : ∀ (s : Int) (j : Nat), cellsP g.board s (nth g.kinds j).progs = (List.range C).map fun (c : Nat) => kindP g.board s (nth g.kinds j).progs c := fun s j => by
    unfold cellsP
    rw [show g.board.cells.toNat = C by have : g.board.cells = g.cells := rfl; omega]
  generalize sideK g = K at *
  have heg : encGame g = [.v (.int .i64 (C : Int)), encIss g.next, encIs g.turn, .lst 3 (g.kinds.map encKind), .v (.int .i64 g.rights), .v (.bool g.must), .lst 4 (g.clauses.map encClause), .v (.int .i64 g.blocked), .v (.int .i64 g.endless)] := by rw [← hC]; rfl
  rw [heg] at hF
  have hbl : ∀ n, (∀ c' ∈ encGame g, Bel n c') = True := fun n => by simp [go_sem]
  have hel : (encGame g).length = 9 := rfl
  (repeat (first | with_reducible (first | refine wL fun _ => ?_ | refine wD fun _ => ?_ | refine wE ?_ | refine adrZ.go ?_) | simp [go_sem, hel]))
  refine ALoop.start (ALoop.ind (α := Nat) (fun s => ⟨[(1, .ref 0 0 9 0 0), (2, .ref 1 0 2 0 0), (3, .ref 2 0 2 0 0), (9, .v (.int .i64 s))],
      [(0, .rows false 0 9 [encGame g]), (1, .rows true 0 2 [[AV.v (.slice none 0 0), AV.v (.slice none 0 0)]]), (2, .rows true 0 2 [[if s = 0 then AV.v (.slice none 0 0) else encSide (sideP g 0), if s < 2 then AV.v (.slice none 0 0) else encSide (sideP g 1)]])], 3⟩)
    (fun d s => s + d = 2) ?_ 2 0 ?_) ?_ ?_
  · rintro d0 s s1 hrec
    rcases (show s = 0 ∨ s = 1 ∨ s = 2 by omega) with rfl | rfl | rfl
    · have hFs := hF 0
      have hsk := hsk 0
      have hsa := hsa 0
      have hsz := hsz 0
      have hsl := hsl 0
      have hcells := hcells 0
      (repeat (first | with_reducible (first | refine wL fun _ => ?_ | refine wD fun _ => ?_ | refine wE ?_ | refine adrZ.go ?_) | simp [go_sem, hel, hC]))
      refine ALoop.start (ALoop.ind (α := Nat) (fun j => ⟨[(1, .ref 0 0 9 0 0), (2, .ref 1 0 2 0 0), (3, .ref 2 0 2 0 0), (4, .ref 3 0 1 0 0), (9, .v (.int .i64 0)), (13, .lst 3 (g.kinds.map encKind)), (14, .v (.int .i64 g.kinds.length)), (15, .v (.int .i64 j))],
          [(0, .rows false 0 9 [encGame g]), (1, .rows true 0 2 [[AV.v (.slice none 0 0), AV.v (.slice none 0 0)]]), (2, .rows true 0 2 [[.sl 4 j 1 0 j, AV.v (.slice none 0 0)]]), (3, .rows false 0 1 [[.v (.int .i64 0)]]), (4, .rows true j 1 ((K 0 j).map fun x => [encCells x]))], 5⟩)
        (fun d j => j + d = g.kinds.length) ?_ g.kinds.length 0 ?_) ?_ ?_
      · rintro d j j1 hrec2
        have hlj := hsl j (by omega)
        (repeat (first | with_reducible (first | refine wL fun _ => ?_ | refine wD fun _ => ?_ | refine wE ?_ | refine adrZ.go ?_) | simp [go_sem, hel, hC, hlj]))
        refine aIf.mkL (fun hj => ?_) (fun hj => ?_) <;> simp at hj
        · have hkm := nth_mem hj
          have hpn := hg.pn _ hkm
          have hFk := fun (c : Nat) => hFs c _ hkm
          have hsj := hsk j hj
          have hcj := hcells j
          have hlj1 := hsl (j + 1) (by omega)
          have hkp : ∀ c : Int, (nth g.kinds j).progs.flatMap (fun p => pathsP g.board 0 p c) = kindP g.board 0 (nth g.kinds j).progs c := fun c => rfl
          simp only [hkp] at hFk
          generalize kindP g.board 0 (nth g.kinds j).progs = KP at *
          (repeat (first | with_reducible (first | refine wL fun _ => ?_ | refine wD fun _ => ?_ | refine wE ?_ | refine adrZ.go ?_) | simp [go_sem, hel, hC, hj]))
          rw [fillR_zero (fun (i : Nat) => [.lst 2 ((KP i).map encPath)])]
          refine ALoop.start (ALoop.ind (α := Nat) (fun c => ⟨[(1, .ref 0 0 9 0 0), (2, .ref 1 0 2 0 0), (3, .ref 2 0 2 0 0), (4, .ref 3 0 1 0 0), (6, .ref 5 0 3 0 0), (7, .sl 6 0 1 0 C), (9, .v (.int .i64 0)), (13, .lst 3 (g.kinds.map encKind)), (14, .v (.int .i64 g.kinds.length)), (15, .v (.int .i64 j)), (24, .v (.int .i64 C)), (25, .v (.int .i64 c))],
              [(0, .rows false 0 9 [encGame g]), (1, .rows true 0 2 [[AV.v (.slice none 0 0), AV.v (.slice none 0 0)]]), (2, .rows true 0 2 [[.sl 4 j 1 0 j, AV.v (.slice none 0 0)]]), (3, .rows false 0 1 [[.v (.int .i64 0)]]), (4, .rows true j 1 ((K 0 j).map fun x => [encCells x])),
               (5, .rows true 0 3 [encKind (nth g.kinds j)]), (6, .rows true 0 1 (fillR (fun (i : Nat) => [.lst 2 ((KP i).map encPath)]) [AV.v (.slice none 0 0)] C c))], 7⟩)
            (fun d c => c + d = C) ?_ C 0 ?_) ?_ ?_
          · rintro d2 c c1' hrec3
            have hfl := fillR_len (fun (i : Nat) => [.lst 2 ((KP i).map encPath)]) [AV.v (.slice none 0 0)] C c
            have hfs := fillR_set (fun (i : Nat) => [.lst 2 ((KP i).map encPath)]) [AV.v (.slice none 0 0)] C c
            (repeat (first | with_reducible (first | refine wL fun _ => ?_ | refine wD fun _ => ?_ | refine wE ?_ | refine adrZ.go ?_) | simp [go_sem, hel, hC, hlj, hfl]))
            refine aIf.mkL (fun hc => ?_) (fun hc => ?_) <;> simp at hc
            · (repeat (first | with_reducible (first | refine wL fun _ => ?_ | refine wD fun _ => ?_ | refine wE ?_) | simp [go_sem, hel, hC, hj, hfl]))
              refine adrZ.frz (frzO _ [7]) (frz_frzO _ _) ?_
              simp only [frzO_upd]
              (repeat (first | with_reducible (first | refine wL fun _ => ?_ | refine wD fun _ => ?_ | refine wE ?_ | refine adrZ.go ?_) | simp [go_sem, hel, hC, hj, hfl]))
              try ((with_reducible refine adrZ.go ?_); (try simp [go_sem]))
              refine dCall.frz [.lst 1 ((nth g.kinds j).progs.map fun p => [encProg p]), _] _ [0, 3, 7] [] (hFk c) (by simp) ?_ (by simp [go_sem]) ?_
              · intro h₁ hS
                have h0 := hS 0 (by simp)
                have h3 := hS 3 (by simp)
                have h7 := hS 7 (by simp)
                simp [upd, frzO, frz1] at h0 h3 h7
                refine .cons (.refl _) (.cons (.fn .nil (.cons (.frzP h0.symm (by simp) (by simp) (by simp [applyW, upd, ← h0]) (.refl _ _ _ _)) (.cons (.frzP h3.symm (by simp) (by simp) (by simp [applyW, upd, ← h3]) (.refl _ _ _ _)) (.cons (.frzP h7.symm (by simp) (by simp) (by simp [applyW, upd, ← h7]) (.refl _ _ _ _)) .nil)))) .nil)
              · (repeat (first | with_reducible (first | refine wL fun _ => ?_ | refine wD fun _ => ?_ | refine wE ?_ | refine adrZ.go ?_) | simp [go_sem, hel, hC, hj, hfl]))
                refine ALoop.start (hrec3 (d2 - 1) (by omega) (c + 1) (by omega)) ?_ (by simp)
                simp [go_sem, Wk_eq, hfs, hC]
                exact fillR_bel (fun i x hx => by simp only [List.mem_singleton] at hx; subst hx; exact of_eq_true bel_Pas) (fun x hx => by simp only [List.mem_singleton] at hx; subst hx; exact .v _)
            · have hcC : c = C := by omega
              subst hcC
              rw [fillR_all]
              (repeat (first | with_reducible (first | refine wL fun _ => ?_ | refine wD fun _ => ?_ | refine wE ?_ | refine adrZ.go ?_) | simp [go_sem, hel, hC, hj]))
              refine ALoop.start (hrec2 (d - 1) (by omega) (j + 1) (by omega)) ?_ (by simp)
              simp [go_sem, Wk_eq, hsj, hcj, hC]
              ((try simp only [encProg, encStep, encAct, encAs, encPath, encPt, encOut, encState, encPos, encOs, encSs, encPs, encIs, encGame, List.map_cons, List.map_nil, List.nil_append, List.append_nil, List.cons_append]); (repeat (first | (with_reducible exact LeRow.nil) | (with_reducible exact LeRows.nil) | (with_reducible exact LeV.refl _) | (with_reducible exact LeRow.refl _ _ _ _) | (with_reducible exact LeRows.refl _) | (with_reducible refine LeRow.cons ?_ ?_) | (with_reducible refine LeRows.cons ?_ ?_) | (with_reducible refine LeV.agg ?_) | (with_reducible refine LeV.tup ?_) | (with_reducible refine LeV.fn ?_ ?_) | (with_reducible exact LeV.nil _) | (with_reducible refine leRows_append (LeRows.refl _) ?_) | ((refine leV_frz rfl (by simp) (by simp [frzO, frz1, upd, noH]) ?_); (first | (simp [go_sem]; done) | (simp [go_sem]; exact List.take_of_length_le (by simp)))) | ((refine LeV.frz rfl (by simp) (by simp [frzO, frz1, upd, noH]) ?_); (simp only [List.drop_zero, List.take_succ_cons, List.take_zero, List.map_cons, List.map_nil])) | ((refine LeV.frzP rfl (by simp) (by simp) (by simp [frzO, frz1, upd, noH]) ?_); (simp only [nth_zero, List.drop_zero])))))
          · simp
          · simp [go_sem, Wk_eq, hC]
            exact fillR_bel (fun i x hx => by simp only [List.mem_singleton] at hx; subst hx; exact of_eq_true bel_Pas) (fun x hx => by simp only [List.mem_singleton] at hx; subst hx; exact .v _)
          · simp
        · have hjl : j = g.kinds.length := by omega
          subst hjl
          rw [hsa]
          (repeat (first | with_reducible (first | refine wL fun _ => ?_ | refine wD fun _ => ?_ | refine wE ?_ | refine adrZ.go ?_) | simp [go_sem, hel, hC]))
          refine ALoop.start (hrec (d0 - 1) (by omega) (1) (by omega)) ?_ (by simp)
          have hsl' : (sideP g 0).length = g.kinds.length := by simp [sideP]
          simp [go_sem, Wk_eq, hC]
          ((try simp only [encProg, encStep, encAct, encAs, encPath, encPt, encOut, encState, encPos, encOs, encSs, encPs, encIs, encGame, List.map_cons, List.map_nil, List.nil_append, List.append_nil, List.cons_append]); (repeat (first | (with_reducible exact LeRow.nil) | (with_reducible exact LeRows.nil) | (with_reducible exact LeV.refl _) | (with_reducible exact LeRow.refl _ _ _ _) | (with_reducible exact LeRows.refl _) | (with_reducible refine LeRow.cons ?_ ?_) | (with_reducible refine LeRows.cons ?_ ?_) | (with_reducible refine LeV.agg ?_) | (with_reducible refine LeV.tup ?_) | (with_reducible refine LeV.fn ?_ ?_) | (with_reducible exact LeV.nil _) | (with_reducible refine leRows_append (LeRows.refl _) ?_) | ((refine leV_frz rfl (by simp [hsl']) (by simp [frzO, frz1, upd, noH]) ?_); (first | (simp [go_sem, hsl']; done) | (simp [go_sem, hsl']; exact List.take_of_length_le (by simp [hsl'])))) | ((refine LeV.frz rfl (by simp [hsl']) (by simp [frzO, frz1, upd, noH]) ?_); (simp only [List.drop_zero, List.take_succ_cons, List.take_zero, List.map_cons, List.map_nil])) | ((refine LeV.frzP rfl (by simp [hsl']) (by simp) (by simp [frzO, frz1, upd, noH]) ?_); (simp only [nth_zero, List.drop_zero])))))
      · simp
      · simp [go_sem, Wk_eq, hsz, hC]
      · simp
    · have hFs := hF 1
      have hsk := hsk 1
      have hsa := hsa 1
      have hsz := hsz 1
      have hsl := hsl 1
      have hcells := hcells 1
      (repeat (first | with_reducible (first | refine wL fun _ => ?_ | refine wD fun _ => ?_ | refine wE ?_ | refine adrZ.go ?_) | simp [go_sem, hel, hC]))
      refine ALoop.start (ALoop.ind (α := Nat) (fun j => ⟨[(1, .ref 0 0 9 0 0), (2, .ref 1 0 2 0 0), (3, .ref 2 0 2 0 0), (4, .ref 3 0 1 0 0), (9, .v (.int .i64 1)), (13, .lst 3 (g.kinds.map encKind)), (14, .v (.int .i64 g.kinds.length)), (15, .v (.int .i64 j))],
          [(0, .rows false 0 9 [encGame g]), (1, .rows true 0 2 [[AV.v (.slice none 0 0), AV.v (.slice none 0 0)]]), (2, .rows true 0 2 [[encSide (sideP g 0), .sl 4 j 1 0 j]]), (3, .rows false 0 1 [[.v (.int .i64 1)]]), (4, .rows true j 1 ((K 1 j).map fun x => [encCells x]))], 5⟩)
        (fun d j => j + d = g.kinds.length) ?_ g.kinds.length 0 ?_) ?_ ?_
      · rintro d j j1 hrec2
        have hlj := hsl j (by omega)
        (repeat (first | with_reducible (first | refine wL fun _ => ?_ | refine wD fun _ => ?_ | refine wE ?_ | refine adrZ.go ?_) | simp [go_sem, hel, hC, hlj]))
        refine aIf.mkL (fun hj => ?_) (fun hj => ?_) <;> simp at hj
        · have hkm := nth_mem hj
          have hpn := hg.pn _ hkm
          have hFk := fun (c : Nat) => hFs c _ hkm
          have hsj := hsk j hj
          have hcj := hcells j
          have hlj1 := hsl (j + 1) (by omega)
          have hkp : ∀ c : Int, (nth g.kinds j).progs.flatMap (fun p => pathsP g.board 1 p c) = kindP g.board 1 (nth g.kinds j).progs c := fun c => rfl
          simp only [hkp] at hFk
          generalize kindP g.board 1 (nth g.kinds j).progs = KP at *
          (repeat (first | with_reducible (first | refine wL fun _ => ?_ | refine wD fun _ => ?_ | refine wE ?_ | refine adrZ.go ?_) | simp [go_sem, hel, hC, hj]))
          rw [fillR_zero (fun (i : Nat) => [.lst 2 ((KP i).map encPath)])]
          refine ALoop.start (ALoop.ind (α := Nat) (fun c => ⟨[(1, .ref 0 0 9 0 0), (2, .ref 1 0 2 0 0), (3, .ref 2 0 2 0 0), (4, .ref 3 0 1 0 0), (6, .ref 5 0 3 0 0), (7, .sl 6 0 1 0 C), (9, .v (.int .i64 1)), (13, .lst 3 (g.kinds.map encKind)), (14, .v (.int .i64 g.kinds.length)), (15, .v (.int .i64 j)), (24, .v (.int .i64 C)), (25, .v (.int .i64 c))],
              [(0, .rows false 0 9 [encGame g]), (1, .rows true 0 2 [[AV.v (.slice none 0 0), AV.v (.slice none 0 0)]]), (2, .rows true 0 2 [[encSide (sideP g 0), .sl 4 j 1 0 j]]), (3, .rows false 0 1 [[.v (.int .i64 1)]]), (4, .rows true j 1 ((K 1 j).map fun x => [encCells x])),
               (5, .rows true 0 3 [encKind (nth g.kinds j)]), (6, .rows true 0 1 (fillR (fun (i : Nat) => [.lst 2 ((KP i).map encPath)]) [AV.v (.slice none 0 0)] C c))], 7⟩)
            (fun d c => c + d = C) ?_ C 0 ?_) ?_ ?_
          · rintro d2 c c1' hrec3
            have hfl := fillR_len (fun (i : Nat) => [.lst 2 ((KP i).map encPath)]) [AV.v (.slice none 0 0)] C c
            have hfs := fillR_set (fun (i : Nat) => [.lst 2 ((KP i).map encPath)]) [AV.v (.slice none 0 0)] C c
            (repeat (first | with_reducible (first | refine wL fun _ => ?_ | refine wD fun _ => ?_ | refine wE ?_ | refine adrZ.go ?_) | simp [go_sem, hel, hC, hlj, hfl]))
            refine aIf.mkL (fun hc => ?_) (fun hc => ?_) <;> simp at hc
            · (repeat (first | with_reducible (first | refine wL fun _ => ?_ | refine wD fun _ => ?_ | refine wE ?_) | simp [go_sem, hel, hC, hj, hfl]))
              refine adrZ.frz (frzO _ [7]) (frz_frzO _ _) ?_
              simp only [frzO_upd]
              (repeat (first | with_reducible (first | refine wL fun _ => ?_ | refine wD fun _ => ?_ | refine wE ?_ | refine adrZ.go ?_) | simp [go_sem, hel, hC, hj, hfl]))
              try ((with_reducible refine adrZ.go ?_); (try simp [go_sem]))
              refine dCall.frz [.lst 1 ((nth g.kinds j).progs.map fun p => [encProg p]), _] _ [0, 3, 7] [] (hFk c) (by simp) ?_ (by simp [go_sem]) ?_
              · intro h₁ hS
                have h0 := hS 0 (by simp)
                have h3 := hS 3 (by simp)
                have h7 := hS 7 (by simp)
                simp [upd, frzO, frz1] at h0 h3 h7
                refine .cons (.refl _) (.cons (.fn .nil (.cons (.frzP h0.symm (by simp) (by simp) (by simp [applyW, upd, ← h0]) (.refl _ _ _ _)) (.cons (.frzP h3.symm (by simp) (by simp) (by simp [applyW, upd, ← h3]) (.refl _ _ _ _)) (.cons (.frzP h7.symm (by simp) (by simp) (by simp [applyW, upd, ← h7]) (.refl _ _ _ _)) .nil)))) .nil)
              · (repeat (first | with_reducible (first | refine wL fun _ => ?_ | refine wD fun _ => ?_ | refine wE ?_ | refine adrZ.go ?_) | simp [go_sem, hel, hC, hj, hfl]))
                refine ALoop.start (hrec3 (d2 - 1) (by omega) (c + 1) (by omega)) ?_ (by simp)
                simp [go_sem, Wk_eq, hfs, hC]
                exact fillR_bel (fun i x hx => by simp only [List.mem_singleton] at hx; subst hx; exact of_eq_true bel_Pas) (fun x hx => by simp only [List.mem_singleton] at hx; subst hx; exact .v _)
            · have hcC : c = C := by omega
              subst hcC
              rw [fillR_all]
              (repeat (first | with_reducible (first | refine wL fun _ => ?_ | refine wD fun _ => ?_ | refine wE ?_ | refine adrZ.go ?_) | simp [go_sem, hel, hC, hj]))
              refine ALoop.start (hrec2 (d - 1) (by omega) (j + 1) (by omega)) ?_ (by simp)
              simp [go_sem, Wk_eq, hsj, hcj, hC]
              ((try simp only [encProg, encStep, encAct, encAs, encPath, encPt, encOut, encState, encPos, encOs, encSs, encPs, encIs, encGame, List.map_cons, List.map_nil, List.nil_append, List.append_nil, List.cons_append]); (repeat (first | (with_reducible exact LeRow.nil) | (with_reducible exact LeRows.nil) | (with_reducible exact LeV.refl _) | (with_reducible exact LeRow.refl _ _ _ _) | (with_reducible exact LeRows.refl _) | (with_reducible refine LeRow.cons ?_ ?_) | (with_reducible refine LeRows.cons ?_ ?_) | (with_reducible refine LeV.agg ?_) | (with_reducible refine LeV.tup ?_) | (with_reducible refine LeV.fn ?_ ?_) | (with_reducible exact LeV.nil _) | (with_reducible refine leRows_append (LeRows.refl _) ?_) | ((refine leV_frz rfl (by simp) (by simp [frzO, frz1, upd, noH]) ?_); (first | (simp [go_sem]; done) | (simp [go_sem]; exact List.take_of_length_le (by simp)))) | ((refine LeV.frz rfl (by simp) (by simp [frzO, frz1, upd, noH]) ?_); (simp only [List.drop_zero, List.take_succ_cons, List.take_zero, List.map_cons, List.map_nil])) | ((refine LeV.frzP rfl (by simp) (by simp) (by simp [frzO, frz1, upd, noH]) ?_); (simp only [nth_zero, List.drop_zero])))))
          · simp
          · simp [go_sem, Wk_eq, hC]
            exact fillR_bel (fun i x hx => by simp only [List.mem_singleton] at hx; subst hx; exact of_eq_true bel_Pas) (fun x hx => by simp only [List.mem_singleton] at hx; subst hx; exact .v _)
          · simp
        · have hjl : j = g.kinds.length := by omega
          subst hjl
          rw [hsa]
          (repeat (first | with_reducible (first | refine wL fun _ => ?_ | refine wD fun _ => ?_ | refine wE ?_ | refine adrZ.go ?_) | simp [go_sem, hel, hC]))
          refine ALoop.start (hrec (d0 - 1) (by omega) (2) (by omega)) ?_ (by simp)
          have hsl' : (sideP g 1).length = g.kinds.length := by simp [sideP]
          simp [go_sem, Wk_eq, hC]
          ((try simp only [encProg, encStep, encAct, encAs, encPath, encPt, encOut, encState, encPos, encOs, encSs, encPs, encIs, encGame, List.map_cons, List.map_nil, List.nil_append, List.append_nil, List.cons_append]); (repeat (first | (with_reducible exact LeRow.nil) | (with_reducible exact LeRows.nil) | (with_reducible exact LeV.refl _) | (with_reducible exact LeRow.refl _ _ _ _) | (with_reducible exact LeRows.refl _) | (with_reducible refine LeRow.cons ?_ ?_) | (with_reducible refine LeRows.cons ?_ ?_) | (with_reducible refine LeV.agg ?_) | (with_reducible refine LeV.tup ?_) | (with_reducible refine LeV.fn ?_ ?_) | (with_reducible exact LeV.nil _) | (with_reducible refine leRows_append (LeRows.refl _) ?_) | ((refine leV_frz rfl (by simp [hsl']) (by simp [frzO, frz1, upd, noH]) ?_); (first | (simp [go_sem, hsl']; done) | (simp [go_sem, hsl']; exact List.take_of_length_le (by simp [hsl'])))) | ((refine LeV.frz rfl (by simp [hsl']) (by simp [frzO, frz1, upd, noH]) ?_); (simp only [List.drop_zero, List.take_succ_cons, List.take_zero, List.map_cons, List.map_nil])) | ((refine LeV.frzP rfl (by simp [hsl']) (by simp) (by simp [frzO, frz1, upd, noH]) ?_); (simp only [nth_zero, List.drop_zero])))))
      · simp
      · simp [go_sem, Wk_eq, hsz, hC]
      · simp
    · (repeat (first | with_reducible (first | refine wL fun _ => ?_ | refine wD fun _ => ?_ | refine wE ?_ | refine adrZ.go ?_) | simp [go_sem]))
  · simp
  · simp [go_sem, Wk_eq]
  · simp
end Go.Av
end
section
set_option linter.unusedSimpArgs false
set_option linter.unusedVariables false
set_option maxRecDepth 8000
open Go Go.Proofs
namespace Go.Av
/-- each cell is linked to one that is not greater -/
structure LinkOk (l : List Int) : Prop where
  len : l.length = 64
  le : ∀ c, c < 64 → 0 ≤ nth l c ∧ nth l c ≤ c
def rootF (l : List Int) : Nat → Int → Int
  | 0, c => c
  | f + 1, c => if nth l c.toNat = c then c else rootF l f (nth l c.toNat)
/-- the root of a cell -/
def rootL (l : List Int) (c : Int) : Int := rootF l (c.toNat + 1) c
theorem rootF_spec {l : List Int} (hl : LinkOk l) : ∀ (f : Nat) (c : Int), 0 ≤ c → c < 64 → c.toNat < f → 0 ≤ rootF l f c ∧ rootF l f c ≤ c ∧ nth l (rootF l f c).toNat = rootF l f c
  | 0, c, _, _, h => by omega
  | f + 1, c, h0, h1, h2 => by
    have h := hl.le c.toNat (by omega)
    rw [rootF]
    split
    · rename_i e; exact ⟨h0, Int.le_refl _, e⟩
    · obtain ⟨a, b, d⟩ := rootF_spec hl f (nth l c.toNat) h.1 (by omega) (by omega)
      exact ⟨a, by omega, d⟩
theorem rootF_more {l : List Int} (hl : LinkOk l) : ∀ (f f' : Nat) (c : Int), 0 ≤ c → c < 64 → c.toNat < f → c.toNat < f' → rootF l f c = rootF l f' c
  | 0, _, c, _, _, h, _ => by omega
  | _, 0, c, _, _, _, h => by omega
  | f + 1, f' + 1, c, h0, h1, h2, h3 => by
    have h := hl.le c.toNat (by omega)
    rw [rootF, rootF]
    split
    · rfl
    · exact rootF_more hl f f' _ h.1 (by omega) (by omega) (by omega)
theorem rootL_spec {l : List Int} (hl : LinkOk l) {c : Int} (h0 : 0 ≤ c) (h1 : c < 64) : 0 ≤ rootL l c ∧ rootL l c ≤ c ∧ nth l (rootL l c).toNat = rootL l c := rootF_spec hl _ c h0 h1 (by omega)
theorem rootL_step {l : List Int} (hl : LinkOk l) {c : Int} (h0 : 0 ≤ c) (h1 : c < 64) : rootL l c = if nth l c.toNat = c then c else rootL l (nth l c.toNat) := by
  have h := hl.le c.toNat (by omega)
  unfold rootL
  rw [rootF]
  split
  · rfl
  · exact rootF_more hl _ _ _ h.1 (by omega) (by omega) (by omega)
/-- two roots are made one -/
def linkL (l : List Int) (a b : Int) : List Int := l.set (max a b).toNat (min a b)
theorem linkL_ok {l : List Int} (hl : LinkOk l) {a b : Int} (ha : 0 ≤ a) (hb : 0 ≤ b) : LinkOk (linkL l a b) := by
  refine ⟨by simpa [linkL] using hl.len, fun c hc => ?_⟩
  unfold linkL
  rw [nth_setE]
  split
  · omega
  · exact hl.le c hc
theorem rootL_link {l : List Int} (hl : LinkOk l) {a b : Int} (ha : 0 ≤ a) (hb : 0 ≤ b) (ha' : a < 64) (hb' : b < 64) (hra : nth l a.toNat = a) (hrb : nth l b.toNat = b) :
    ∀ (n : Nat) (c : Int), c.toNat < n → 0 ≤ c → c < 64 → rootL (linkL l a b) c = if rootL l c = max a b then min a b else rootL l c
  | 0, c, h, _, _ => by omega
  | n + 1, c, hn, h0, h1 => by
    have hk := linkL_ok hl ha hb
    have hle := hl.le c.toNat (by omega)
    have hn' : nth (linkL l a b) c.toNat = if c = max a b then min a b else nth l c.toNat := by
      unfold linkL
      rw [nth_setE]
      have := hl.len
      by_cases e : c = max a b
      · rw [if_pos ⟨by omega, by omega⟩, if_pos e]
      · rw [if_neg (by omega), if_neg e]
    have hmM : nth l (max a b).toNat = max a b := by
      rcases Int.le_total a b with h | h
      · rw [Int.max_eq_right h]; exact hrb
      · rw [Int.max_eq_left h]; exact hra
    have hmin : nth l (min a b).toNat = min a b := by
      rcases Int.le_total a b with h | h
      · rw [Int.min_eq_left h]; exact hra
      · rw [Int.min_eq_right h]; exact hrb
    rw [rootL_step hk h0 h1, hn', rootL_step hl h0 h1]
    by_cases e : c = max a b
    · rw [if_pos e, e, if_pos hmM, if_pos rfl]
      by_cases e2 : min a b = max a b
      · rw [if_pos e2]; exact e2.symm
      · rw [if_neg e2, rootL_step hk (by omega) (by omega), if_pos]
        unfold linkL
        rw [nth_setE, if_neg (by omega)]
        exact hmin
    · rw [if_neg e]
      by_cases e2 : nth l c.toNat = c
      · rw [if_pos e2, if_pos e2, if_neg e]
      · rw [if_neg e2, if_neg e2]
        exact rootL_link hl ha hb ha' hb' hra hrb n _ (by omega) hle.1 (by omega)
/-- the regions of cells are made one -/
def joinsL (l : List Int) (first : Int) (others : List Int) : List Int := others.foldl (fun l c => linkL l (rootL l first) (rootL l c)) l
/-- the least root of some cells -/
def leastL (l : List Int) (first : Int) (others : List Int) : Int := others.foldl (fun m c => min m (rootL l c)) (rootL l first)
theorem leastL_snoc (l : List Int) (first : Int) (others : List Int) (c : Int) : leastL l first (others ++ [c]) = min (leastL l first others) (rootL l c) := by
  unfold leastL; rw [List.foldl_append]; rfl
theorem joinsL_snoc (l : List Int) (first : Int) (others : List Int) (c : Int) : joinsL l first (others ++ [c]) = linkL (joinsL l first others) (rootL (joinsL l first others) first) (rootL (joinsL l first others) c) := by
  unfold joinsL; rw [List.foldl_append]; rfl
theorem snoc_ind {α : Type} {P : List α → Prop} (h0 : P []) (h1 : ∀ l a, P l → P (l ++ [a])) (l : List α) : P l := by
  rw [← List.reverse_reverse l]
  generalize l.reverse = r
  induction r with
  | nil => exact h0
  | cons a r ih => rw [List.reverse_cons]; exact h1 _ _ ih
theorem leastL_mem (l : List Int) (first : Int) : ∀ (others : List Int), (∃ c, (c = first ∨ c ∈ others) ∧ leastL l first others = rootL l c) ∧ ∀ c, (c = first ∨ c ∈ others) → leastL l first others ≤ rootL l c := by
  refine snoc_ind ?_ ?_
  case _ => exact ⟨⟨first, .inl rfl, rfl⟩, fun c hc => by rcases hc with rfl | hc; exact Int.le_refl _; simp at hc⟩
  case _ =>
    intro others d ih
    obtain ⟨⟨c, hc, e⟩, h⟩ := ih
    rw [leastL_snoc]
    refine ⟨?_, fun x hx => ?_⟩
    · rcases Int.le_total (leastL l first others) (rootL l d) with h1 | h1
      · rw [Int.min_eq_left h1]
        exact ⟨c, hc.imp id (fun h => by simp [h]), e⟩
      · rw [Int.min_eq_right h1]
        exact ⟨d, .inr (by simp), rfl⟩
    · rcases hx with rfl | hx
      · have := h x (.inl rfl); omega
      · rcases List.mem_append.1 hx with hx | hx
        · have := h x (.inr hx); omega
        · simp only [List.mem_singleton] at hx; subst hx; omega
theorem joinsL_spec {l : List Int} (hl : LinkOk l) {first : Int} (hf : 0 ≤ first ∧ first < 64) : ∀ (others : List Int), (∀ c ∈ others, 0 ≤ c ∧ c < 64) →
    LinkOk (joinsL l first others) ∧ ∀ x, 0 ≤ x → x < 64 → ((∃ c, (c = first ∨ c ∈ others) ∧ rootL l x = rootL l c) → rootL (joinsL l first others) x = leastL l first others) ∧
      ((¬ ∃ c, (c = first ∨ c ∈ others) ∧ rootL l x = rootL l c) → rootL (joinsL l first others) x = rootL l x) := by
  refine snoc_ind ?_ ?_
  case _ =>
    intro _
    refine ⟨hl, fun x _ _ => ⟨fun ⟨c, hc, e⟩ => ?_, fun _ => rfl⟩⟩
    rcases hc with rfl | hc
    · exact e
    · simp at hc
  case _ =>
    intro others d ih ho
    obtain ⟨h1, h2⟩ := ih (fun c hc => ho c (by simp [hc]))
    have hd := ho d (by simp)
    obtain ⟨⟨c0, hc0, e0⟩, hmin⟩ := leastL_mem l first others
    have hfr := (h2 first hf.1 hf.2).1 ⟨first, .inl rfl, rfl⟩
    rw [joinsL_snoc, leastL_snoc, hfr]
    generalize leastL l first others = m at *
    generalize joinsL l first others = l1 at *
    have sf := rootL_spec h1 hf.1 hf.2
    rw [hfr] at sf
    have sd := rootL_spec h1 hd.1 hd.2
    refine ⟨linkL_ok h1 sf.1 sd.1, fun x x0 x1 => ?_⟩
    have hr := rootL_link h1 sf.1 sd.1 (by omega) (by omega) sf.2.2 sd.2.2 (x.toNat + 1) x (by omega) x0 x1
    rw [hr]
    obtain ⟨g1, g2⟩ := h2 x x0 x1
    obtain ⟨k1, k2⟩ := h2 d hd.1 hd.2
    have hmem : ∀ c, (c = first ∨ c ∈ others ++ [d]) ↔ ((c = first ∨ c ∈ others) ∨ c = d) := fun c => by
      rw [List.mem_append, List.mem_singleton]; exact (or_assoc).symm
    by_cases hds : ∃ c, (c = first ∨ c ∈ others) ∧ rootL l d = rootL l c
    · have kd := k1 hds
      obtain ⟨c1, hc1, e1⟩ := hds
      have hle := hmin c1 hc1
      rw [kd, Int.max_self, Int.min_self, Int.min_eq_left (by omega)]
      refine ⟨fun ⟨c, hc, e⟩ => ?_, fun hn => ?_⟩
      · have hx : rootL l1 x = m := by
          rcases (hmem c).1 hc with hc | rfl
          · exact g1 ⟨c, hc, e⟩
          · exact g1 ⟨c1, hc1, e.trans e1⟩
        rw [if_pos hx]
      · have hx := g2 (fun ⟨c, hc, e⟩ => hn ⟨c, (hmem c).2 (.inl hc), e⟩)
        rw [if_neg, hx]
        rw [hx]
        intro e
        exact hn ⟨c0, (hmem c0).2 (.inl hc0), e.trans e0⟩
    · have kd := k2 hds
      rw [kd]
      refine ⟨fun ⟨c, hc, e⟩ => ?_, fun hn => ?_⟩
      · rcases (hmem c).1 hc with hc | rfl
        · rw [g1 ⟨c, hc, e⟩]
          split <;> omega
        · have hx := g2 (fun ⟨c', hc', e'⟩ => hds ⟨c', hc', e.symm.trans e'⟩)
          rw [hx, e]
          split <;> omega
      · have hx := g2 (fun ⟨c, hc, e⟩ => hn ⟨c, (hmem c).2 (.inl hc), e⟩)
        rw [hx, if_neg]
        intro e
        have h3 : rootL l x ≠ m := fun e' => hn ⟨c0, (hmem c0).2 (.inl hc0), e'.trans e0⟩
        have h4 : rootL l x ≠ rootL l d := fun e' => hn ⟨d, (hmem d).2 (.inr rfl), e'⟩
        omega
end Go.Av
end
section
set_option linter.unusedSimpArgs false
set_option linter.unusedVariables false
set_option maxRecDepth 8000
open Go Go.Proofs
namespace Go.Av
/-- the names of the regions of the first n cells -/
def namesL (l : List Int) (n : Nat) : List Int := (List.range n).map fun (c : Nat) => rootL l c
def leastN (names : List Int) (first : Int) (others : List Int) : Int := others.foldl (fun m c => min m (nth names c.toNat)) (nth names first.toNat)
/-- R22.join at the cells first, others -/
def joinN (names : List Int) (first : Int) (others : List Int) : List Int :=
  names.map fun v => if v ∈ (first :: others).map (fun c => nth names c.toNat) then leastN names first others else v
theorem nth_namesL (l : List Int) {n : Nat} {c : Int} (h0 : 0 ≤ c) (h1 : c < n) : nth (namesL l n) c.toNat = rootL l c := by
  unfold namesL
  have h : c.toNat < (List.range n).length := by rw [List.length_range]; omega
  rw [nth_map _ _ _ h, nth_eq _ _ h, List.getElem_range, show ((c.toNat : Nat) : Int) = c by omega]
theorem leastN_names (l : List Int) {n : Nat} {first : Int} (hf : 0 ≤ first ∧ first < n) : ∀ (others : List Int), (∀ c ∈ others, 0 ≤ c ∧ c < n) → leastN (namesL l n) first others = leastL l first others := by
  refine snoc_ind ?_ ?_
  case _ => intro _; exact nth_namesL l hf.1 hf.2
  case _ =>
    intro others d ih ho
    have hd := ho d (by simp)
    have e : leastN (namesL l n) first (others ++ [d]) = min (leastN (namesL l n) first others) (nth (namesL l n) d.toNat) := by unfold leastN; rw [List.foldl_append]; rfl
    rw [e, leastL_snoc, ih (fun c hc => ho c (by simp [hc])), nth_namesL l hd.1 hd.2]
theorem joinN_names {l : List Int} (hl : LinkOk l) {n : Nat} (hn : n ≤ 64) {first : Int} (hf : 0 ≤ first ∧ first < n) (others : List Int) (ho : ∀ c ∈ others, 0 ≤ c ∧ c < n) :
    joinN (namesL l n) first others = namesL (joinsL l first others) n := by
  obtain ⟨h1, h2⟩ := joinsL_spec hl (first := first) ⟨hf.1, by omega⟩ others (fun c hc => by have := ho c hc; omega)
  unfold joinN
  rw [leastN_names l hf others ho]
  conv => lhs; unfold namesL
  conv => rhs; unfold namesL
  rw [List.map_map]
  refine List.map_congr_left fun c hc => ?_
  have hc' := List.mem_range.1 hc
  obtain ⟨g1, g2⟩ := h2 (c : Int) (by omega) (by omega)
  simp only [Function.comp]
  have hiff : (rootL l (c : Int) ∈ (first :: others).map fun c => nth (namesL l n) c.toNat) ↔ ∃ d, (d = first ∨ d ∈ others) ∧ rootL l (c : Int) = rootL l d := by
    rw [List.mem_map]
    constructor
    · rintro ⟨d, hd, e⟩
      have hd' := List.mem_cons.1 hd
      have hb : 0 ≤ d ∧ d < n := by rcases hd' with rfl | h; exact hf; exact ho d h
      exact ⟨d, hd', by rw [← e, nth_namesL l hb.1 hb.2]⟩
    · rintro ⟨d, hd, e⟩
      have hb : 0 ≤ d ∧ d < n := by rcases hd with rfl | h; exact hf; exact ho d h
      exact ⟨d, List.mem_cons.2 hd, by rw [nth_namesL l hb.1 hb.2, e]⟩
  show (if rootL l (c : Int) ∈ (first :: others).map (fun c => nth (namesL l n) c.toNat) then _ else _) = _
  by_cases h : ∃ d, (d = first ∨ d ∈ others) ∧ rootL l (c : Int) = rootL l d
  · rw [if_pos (hiff.2 h), g1 h]
  · rw [if_neg (fun h' => h (hiff.1 h')), g2 h]
end Go.Av
end
section
set_option linter.unusedSimpArgs false
set_option linter.unusedVariables false
set_option maxRecDepth 8000
open Go Go.Proofs
namespace Go.Av
/-- the cells that an act looks at -/
def cellsA (a : ActD) : List Int := if a.1 = 3 ∨ a.1 = 4 ∨ a.1 = 5 ∨ a.1 = 6 then [a.2.1] else if a.1 = 7 then [a.2.1, a.2.2] else []
theorem cellsA_len (a : ActD) : (cellsA a).length ≤ 2 := by
  unfold cellsA
  split
  · simp
  · split <;> simp
def joinedP (cell : Int) (p : PathD) : List Int := [cell, p.to] ++ p.acts.flatMap cellsA
def PathR (n : Nat) (p : PathD) : Prop := (0 ≤ p.to ∧ p.to < n) ∧ p.acts.length ≤ 1048576 ∧ ∀ a ∈ p.acts, ∀ c ∈ cellsA a, 0 ≤ c ∧ c < n
def SideR (n : Nat) (s : List (List (List PathD))) : Prop := s.length ≤ 6 ∧ ∀ k ∈ s, k.length = n ∧ ∀ x ∈ k, x.length ≤ 1099511627776 ∧ ∀ p ∈ x, PathR n p
def actsF (c : Int) (l : List Int) (acts : List ActD) : List Int := acts.foldl (fun l a => joinsL l c (cellsA a)) l
def pathF (c : Int) (l : List Int) (p : PathD) : List Int := actsF c (joinsL l c [p.to]) p.acts
def pathsF (c : Int) (l : List Int) (ps : List PathD) : List Int := ps.foldl (pathF c) l
def cellsF (l : List Int) : Nat → List (List PathD) → List Int
  | _, [] => l
  | c, ps :: k => cellsF (pathsF c l ps) (c + 1) k
def kindsF (l : List Int) (s : List (List (List PathD))) : List Int := s.foldl (fun l k => cellsF l 0 k) l
def idL : List Int := (List.range 64).map fun (c : Nat) => (c : Int)
def linksC (c : CodeD) : List Int := kindsF (kindsF idL c.1) c.2
theorem idL_ok : LinkOk idL := by
  refine ⟨by simp [idL], fun c hc => ?_⟩
  have : nth idL c = (c : Int) := by
    unfold idL
    rw [nth_map _ _ _ (by simpa using hc), nth_eq _ _ (by simpa using hc), List.getElem_range]
  omega
theorem joinsL_ok {l : List Int} (hl : LinkOk l) {n : Nat} (hn : n ≤ 64) {c : Int} (hc : 0 ≤ c ∧ c < n) {others : List Int} (ho : ∀ c ∈ others, 0 ≤ c ∧ c < n) : LinkOk (joinsL l c others) :=
  (joinsL_spec hl (first := c) ⟨hc.1, by omega⟩ others (fun d hd => by have := ho d hd; omega)).1
theorem actsF_ok {n : Nat} (hn : n ≤ 64) {c : Int} (hc : 0 ≤ c ∧ c < n) : ∀ (acts : List ActD) {l : List Int}, LinkOk l → (∀ a ∈ acts, ∀ c ∈ cellsA a, 0 ≤ c ∧ c < n) → LinkOk (actsF c l acts)
  | [], _, hl, _ => hl
  | a :: acts, l, hl, h => actsF_ok hn hc acts (joinsL_ok hl hn hc (h a (by simp))) (fun b hb => h b (by simp [hb]))
theorem pathF_ok {n : Nat} (hn : n ≤ 64) {c : Int} (hc : 0 ≤ c ∧ c < n) {p : PathD} (hp : PathR n p) {l : List Int} (hl : LinkOk l) : LinkOk (pathF c l p) :=
  actsF_ok hn hc p.acts (joinsL_ok hl hn hc (fun d hd => by rw [List.mem_singleton] at hd; subst hd; exact hp.1)) hp.2.2
theorem pathsF_ok {n : Nat} (hn : n ≤ 64) {c : Int} (hc : 0 ≤ c ∧ c < n) : ∀ (ps : List PathD) {l : List Int}, LinkOk l → (∀ p ∈ ps, PathR n p) → LinkOk (pathsF c l ps)
  | [], _, hl, _ => hl
  | p :: ps, l, hl, h => pathsF_ok hn hc ps (pathF_ok hn hc (h p (by simp)) hl) (fun q hq => h q (by simp [hq]))
theorem cellsF_ok {n : Nat} (hn : n ≤ 64) : ∀ (k : List (List PathD)) (c : Nat) {l : List Int}, LinkOk l → c + k.length ≤ n → (∀ x ∈ k, ∀ p ∈ x, PathR n p) → LinkOk (cellsF l c k)
  | [], _, _, hl, _, _ => hl
  | ps :: k, c, l, hl, hc, h => by
    rw [cellsF]
    simp only [List.length_cons] at hc
    exact cellsF_ok hn k (c + 1) (pathsF_ok hn ⟨by omega, by omega⟩ ps hl (h ps (by simp))) (by omega) (fun x hx => h x (by simp [hx]))
theorem kindsF_ok {n : Nat} (hn : n ≤ 64) : ∀ (s : List (List (List PathD))) {l : List Int}, LinkOk l → (∀ k ∈ s, k.length = n ∧ ∀ x ∈ k, x.length ≤ 1099511627776 ∧ ∀ p ∈ x, PathR n p) → LinkOk (kindsF l s)
  | [], _, hl, _ => hl
  | k :: s, l, hl, h => by
    have hk := h k (by simp)
    exact kindsF_ok hn s (cellsF_ok hn k 0 hl (by omega) (fun x hx => (hk.2 x hx).2)) (fun q hq => h q (by simp [hq]))
theorem linksC_ok {n : Nat} (hn : n ≤ 64) {c : CodeD} (h1 : SideR n c.1) (h2 : SideR n c.2) : LinkOk (linksC c) := kindsF_ok hn c.2 (kindsF_ok hn c.1 idL_ok h1.2) h2.2
theorem cellsA_ok {cells kinds rights : Int} {a : ActD} (ha : ActOk cells kinds rights a) : ∀ c ∈ cellsA a, 0 ≤ c ∧ c < cells := by
  intro c hc
  unfold ActOk at ha
  unfold cellsA at hc
  split at hc
  · rw [List.mem_singleton] at hc
    subst hc
    omega
  · split at hc
    · simp only [List.mem_cons, List.not_mem_nil, or_false] at hc
      rcases hc with rfl | rfl <;> omega
    · cases hc
end Go.Av
end
section
set_option linter.unusedSimpArgs false
set_option linter.unusedVariables false
open Go Go.Proofs
set_option maxRecDepth 20000
set_option maxHeartbeats 4000000
namespace Go.Av
def namesU (of : List Int) (c : Nat) : List Int := ((List.range c).filter fun (c : Nat) => decide (nth of c = (c : Int))).map fun (c : Nat) => (c : Int)
theorem namesU_succ (of : List Int) (c : Nat) : namesU of (c + 1) = if nth of c = (c : Int) then namesU of c ++ [(c : Int)] else namesU of c := by
  unfold namesU
  rw [List.range_succ, List.filter_append]
  by_cases h : nth of c = (c : Int) <;> simp [h]
theorem namesU_len (of : List Int) (c : Nat) : (namesU of c).length ≤ c := by
  unfold namesU
  rw [List.length_map]
  exact Nat.le_trans (List.length_filter_le _ _) (by simp)
theorem R22Joined_pure (cell : Int) (p : PathD) (hp : p.acts.length ≤ 1048576) : Pure Try.prog 18 [.v (.int .i64 cell), .agg (encPath p)] (encIs (joinedP cell p)) := by
  refine Pure.of (ACallP.of_awp (by kernel_rfl) Try.func18 rfl rfl (Nat.le_of_ble_eq_true rfl) (by kernel_rfl) ?_)
  (repeat (first | with_reducible (first | refine wL fun _ => ?_ | refine wD fun _ => ?_ | refine wE ?_ | refine adrZ.go ?_) | simp [go_sem]))
  refine ALoop.start (ALoop.ind (α := Nat × List Int) (fun a => ⟨[(3, .ref 0 0 2 0 0), (5, .sl 1 (a.2.length - 2) 1 0 a.2.length), (6, .v (.int .i64 a.1))], [(0, .rows true 0 2 [encPath p]), (1, .rows true (a.2.length - 2) 1 (a.2.map encI))], 2⟩)
    (fun d a => a.1 + d = p.acts.length ∧ a.2 = [cell, p.to] ++ (p.acts.take a.1).flatMap cellsA) ?_ p.acts.length (0, [cell, p.to]) ?_) ?_ ?_
  · rintro d ⟨i, l⟩ ⟨i1, i2⟩ hrec
    simp only at i1 i2
    have hl2 : 2 ≤ l.length := by rw [i2]; simp
    have hfl : ∀ q : List ActD, (q.flatMap cellsA).length ≤ q.length * 2 := fun q => flatMap_le _ 2 _ (fun x _ => cellsA_len x)
    have hl3 : l.length ≤ 4194304 := by
      have := hfl (p.acts.take i)
      have h3 : (p.acts.take i).length ≤ i := List.length_take_le _ _
      rw [i2, List.length_append]
      simp only [List.length_cons, List.length_nil]
      omega
    (repeat (first | with_reducible (first | refine wL fun _ => ?_ | refine wD fun _ => ?_ | refine wE ?_ | refine adrZ.go ?_) | simp [go_sem]))
    refine aIf.mkL (fun hi => ?_) (fun hi => ?_) <;> simp at hi
    · have hs : [cell, p.to] ++ (p.acts.take (i + 1)).flatMap cellsA = l ++ cellsA (nth p.acts i) := by
        rw [List.take_add_one, List.getElem?_eq_getElem hi, Option.toList_some, List.flatMap_append, nth_eq _ _ hi, i2]
        simp
      have hgo := hrec (d - 1) (by omega) (i + 1, l ++ cellsA (nth p.acts i)) ⟨by simp only; omega, hs.symm⟩
      clear hs i2
      (repeat (first | with_reducible (first | refine wL fun _ => ?_ | refine wD fun _ => ?_ | refine wE ?_ | refine adrZ.go ?_) | simp [go_sem, hi]))
      generalize nth p.acts i = x at hgo ⊢
      obtain ⟨op, A, B⟩ := x
      simp only [cellsA] at hgo ⊢
      by_cases h7 : op = 7
      · subst h7
        simp at hgo
        (repeat (first | with_reducible (first | refine wL fun _ => ?_ | refine wD fun _ => ?_ | refine wE ?_ | refine adrZ.go ?_) | simp [go_sem]))
        refine ALoop.start hgo ?_ (by simp)
        simp [go_sem, Wk_eq, show l.length - 2 + 2 = l.length by omega]
      · by_cases h3 : op = 3 ∨ op = 4 ∨ op = 5 ∨ op = 6
        · rw [if_pos h3] at hgo
          have h3' : (decide (op = 3) || decide (op = 4) || decide (op = 5) || decide (op = 6) || decide (op = 7)) = true := by simp; omega
          simp only [h3']
          (repeat (first | with_reducible (first | refine wL fun _ => ?_ | refine wD fun _ => ?_ | refine wE ?_ | refine adrZ.go ?_) | simp [go_sem, h7]))
          refine ALoop.start hgo ?_ (by simp)
          simp [go_sem, Wk_eq, show l.length - 2 + 1 = l.length - 1 by omega]
        · rw [if_neg h3, if_neg h7] at hgo
          have h3' : (decide (op = 3) || decide (op = 4) || decide (op = 5) || decide (op = 6) || decide (op = 7)) = false := by simp; omega
          simp only [h3']
          (repeat (first | with_reducible (first | refine wL fun _ => ?_ | refine wD fun _ => ?_ | refine wE ?_ | refine adrZ.go ?_) | simp [go_sem, h7]))
          refine ALoop.start hgo ?_ (by simp)
          simp [go_sem, Wk_eq]
    · have hil : i = p.acts.length := by omega
      subst hil
      rw [List.take_length] at i2
      have i3 : l = joinedP cell p := i2
      subst i3
      (repeat (first | with_reducible (first | refine wL fun _ => ?_ | refine wD fun _ => ?_ | refine wE ?_ | refine adrZ.go ?_) | simp [go_sem]))
      ((try simp only [encProg, encStep, encAct, encAs, encPath, encPt, encOut, encState, encPos, encOs, encSs, encPs, encIs, encGame, List.map_cons, List.map_nil, List.nil_append, List.append_nil, List.cons_append]); (repeat (first | (with_reducible exact LeRow.nil) | (with_reducible exact LeRows.nil) | (with_reducible exact LeV.refl _) | (with_reducible exact LeRow.refl _ _ _ _) | (with_reducible exact LeRows.refl _) | (with_reducible refine LeRow.cons ?_ ?_) | (with_reducible refine LeRows.cons ?_ ?_) | (with_reducible refine LeV.agg ?_) | (with_reducible refine LeV.tup ?_) | (with_reducible refine LeV.fn ?_ ?_) | (with_reducible exact LeV.nil _) | (with_reducible refine leRows_append (LeRows.refl _) ?_) | ((refine leV_frz rfl (by simp) (by simp [frzO, frz1, upd, noH]) ?_); (first | (simp [go_sem]; done) | (simp [go_sem]; exact List.take_of_length_le (by simp)))) | ((refine LeV.frz rfl (by simp) (by simp [frzO, frz1, upd, noH]) ?_); (simp only [List.drop_zero, List.take_succ_cons, List.take_zero, List.map_cons, List.map_nil])) | ((refine LeV.frzP rfl (by simp) (by simp) (by simp [frzO, frz1, upd, noH]) ?_); (simp only [nth_zero, List.drop_zero])))))
  · simp
  · simp [go_sem, Wk_eq]
  · simp
theorem minE (a b : Int) : (if b < a then b else a) = min a b := by rw [Int.min_def]; split <;> split <;> omega
theorem maxE (a b : Int) : (if a < b then b else a) = max a b := by rw [Int.max_def]; split <;> split <;> omega
/-! ### R22.join -/
def outP (names : List Int) (L : Int) (p : Nat → Bool) : List Int := (List.range names.length).map fun j => if p j then L else nth names j
theorem outP_len (names : List Int) (L : Int) (p : Nat → Bool) : (outP names L p).length = names.length := by simp [outP]
theorem outP_congr {names : List Int} {L : Int} {p q : Nat → Bool} (h : ∀ j, j < names.length → p j = q j) : outP names L p = outP names L q := by
  unfold outP
  refine List.map_congr_left fun j hj => ?_
  rw [h j (List.mem_range.1 hj)]
theorem outP_set {names : List Int} {L : Int} {p q : Nat → Bool} {k : Nat} (hk : k < names.length) (h : ∀ j, j < names.length → q j = (p j || decide (j = k))) : outP names L q = (outP names L p).set k L := by
  refine List.ext_getElem (by simp [outP]) fun j h1 h2 => ?_
  have hj : j < names.length := by simpa [outP] using h1
  simp only [outP, List.getElem_map, List.getElem_range, List.getElem_set, List.length_map, List.length_range]
  rw [h j hj]
  by_cases e : k = j
  · subst e; simp
  · rw [if_neg e]
    have : decide (j = k) = false := by simp; omega
    rw [this, Bool.or_false]
theorem outP_none (names : List Int) (L : Int) : outP names L (fun _ => false) = names := by
  refine List.ext_getElem (by simp [outP]) fun j h1 h2 => ?_
  simp [outP, nth_eq _ _ h2]
def seenN (names : List Int) (cs : List Int) (i j : Nat) : Bool := decide (nth names j ∈ (cs.take i).map fun c => nth names c.toNat)
def inN (names : List Int) (cs : List Int) (i k j : Nat) : Bool := seenN names cs i j || (decide (j < k) && decide (nth names j = nth names (nth cs i).toNat))
theorem joinN_out (names : List Int) (first : Int) (others : List Int) : outP names (leastN names first others) (seenN names (first :: others) (first :: others).length) = joinN names first others := by
  unfold joinN
  refine List.ext_getElem (by simp [outP]) fun j h1 h2 => ?_
  have hj : j < names.length := by simpa [outP] using h1
  simp only [outP, List.getElem_map, List.getElem_range, seenN, List.take_length, decide_eq_true_eq, nth_eq _ _ hj]
def minsN (names : List Int) (first : Int) (cs : List Int) : Int := cs.foldl (fun m c => min m (nth names c.toNat)) (nth names first.toNat)
theorem minsN_all (names : List Int) (first : Int) (others : List Int) : minsN names first (first :: others) = leastN names first others := by
  unfold minsN leastN
  rw [List.foldl_cons, Int.min_self]
theorem minsN_succ (names : List Int) (first : Int) (cs : List Int) {i : Nat} (h : i < cs.length) : minsN names first (cs.take (i + 1)) = min (minsN names first (cs.take i)) (nth names (nth cs i).toNat) := by
  unfold minsN
  rw [List.take_add_one, List.getElem?_eq_getElem h, Option.toList_some, List.foldl_append, nth_eq _ _ h]
  rfl
end Go.Av
end
section
set_option linter.unusedSimpArgs false
set_option linter.unusedVariables false
open Go Go.Proofs
set_option maxRecDepth 20000
set_option maxHeartbeats 4000000
namespace Go.Av
theorem rNames_pure (of : List Int) (hl : of.length ≤ 1048576) : Pure Try.prog 27 [encIs of] (encIs (namesU of of.length)) := by
  refine Pure.of (ACallP.of_awp (by kernel_rfl) Try.func27 rfl rfl (Nat.le_of_ble_eq_true rfl) (by kernel_rfl) ?_)
  (repeat (first | with_reducible (first | refine wL fun _ => ?_ | refine wD fun _ => ?_ | refine wE ?_ | refine adrZ.go ?_) | simp [go_sem]))
  refine ALoop.start (ALoop.ind (α := Nat) (fun c => ⟨[(3, .sl 0 (namesU of c).length 1 0 (namesU of c).length), (6, encIs of), (7, .int of.length), (8, .v (.int .i64 c))], [(0, .rows true (namesU of c).length 1 ((namesU of c).map encI))], 1⟩)
    (fun d c => c + d = of.length) ?_ of.length 0 ?_) ?_ ?_
  · rintro d c i1 hrec
    have hs := namesU_succ of c
    have hn := namesU_len of c
    (repeat (first | with_reducible (first | refine wL fun _ => ?_ | refine wD fun _ => ?_ | refine wE ?_ | refine adrZ.go ?_) | simp [go_sem]))
    refine aIf.mkL (fun hc => ?_) (fun hc => ?_) <;> simp at hc
    · (repeat (first | with_reducible (first | refine wL fun _ => ?_ | refine wD fun _ => ?_ | refine wE ?_ | refine adrZ.go ?_) | simp [go_sem, hc]))
      refine aIf.mkL (fun he => ?_) (fun he => ?_) <;> simp at he
      · rw [if_pos he.symm] at hs
        (repeat (first | with_reducible (first | refine wL fun _ => ?_ | refine wD fun _ => ?_ | refine wE ?_ | refine adrZ.go ?_) | simp [go_sem]))
        refine ALoop.start (hrec (d - 1) (by omega) (c + 1) (by omega)) ?_ (by simp)
        simp [go_sem, Wk_eq, hs]
      · rw [if_neg (fun h => he h.symm)] at hs
        (repeat (first | with_reducible (first | refine wL fun _ => ?_ | refine wD fun _ => ?_ | refine wE ?_ | refine adrZ.go ?_) | simp [go_sem]))
        refine ALoop.start (hrec (d - 1) (by omega) (c + 1) (by omega)) ?_ (by simp)
        simp [go_sem, Wk_eq, hs]
    · have hil : c = of.length := by omega
      subst hil
      (repeat (first | with_reducible (first | refine wL fun _ => ?_ | refine wD fun _ => ?_ | refine wE ?_ | refine adrZ.go ?_) | simp [go_sem]))
      ((try simp only [encProg, encStep, encAct, encAs, encPath, encPt, encOut, encState, encPos, encOs, encSs, encPs, encIs, encGame, List.map_cons, List.map_nil, List.nil_append, List.append_nil, List.cons_append]); (repeat (first | (with_reducible exact LeRow.nil) | (with_reducible exact LeRows.nil) | (with_reducible exact LeV.refl _) | (with_reducible exact LeRow.refl _ _ _ _) | (with_reducible exact LeRows.refl _) | (with_reducible refine LeRow.cons ?_ ?_) | (with_reducible refine LeRows.cons ?_ ?_) | (with_reducible refine LeV.agg ?_) | (with_reducible refine LeV.tup ?_) | (with_reducible refine LeV.fn ?_ ?_) | (with_reducible exact LeV.nil _) | (with_reducible refine leRows_append (LeRows.refl _) ?_) | ((refine leV_frz rfl (by simp) (by simp [frzO, frz1, upd, noH]) ?_); (first | (simp [go_sem]; done) | (simp [go_sem]; exact List.take_of_length_le (by simp)))) | ((refine LeV.frz rfl (by simp) (by simp [frzO, frz1, upd, noH]) ?_); (simp only [List.drop_zero, List.take_succ_cons, List.take_zero, List.map_cons, List.map_nil])) | ((refine LeV.frzP rfl (by simp) (by simp) (by simp [frzO, frz1, upd, noH]) ?_); (simp only [nth_zero, List.drop_zero])))))
  · simp
  · simp [go_sem, Wk_eq, namesU]
  · simp
theorem rCells_pure (a : ActD) : Pure Try.prog 35 [.agg (encAct a)] (encIs (cellsA a)) := by
  refine Pure.of (ACallP.of_awp (by kernel_rfl) Try.func35 rfl rfl (Nat.le_of_ble_eq_true rfl) (by kernel_rfl) ?_)
  obtain ⟨op, A, B⟩ := a
  simp only [cellsA]
  by_cases h7 : op = 7
  · subst h7
    (repeat (first | with_reducible (first | refine wL fun _ => ?_ | refine wD fun _ => ?_ | refine wE ?_ | refine adrZ.go ?_) | simp [go_sem]))
    ((try simp only [encProg, encStep, encAct, encAs, encPath, encPt, encOut, encState, encPos, encOs, encSs, encPs, encIs, encGame, List.map_cons, List.map_nil, List.nil_append, List.append_nil, List.cons_append]); (repeat (first | (with_reducible exact LeRow.nil) | (with_reducible exact LeRows.nil) | (with_reducible exact LeV.refl _) | (with_reducible exact LeRow.refl _ _ _ _) | (with_reducible exact LeRows.refl _) | (with_reducible refine LeRow.cons ?_ ?_) | (with_reducible refine LeRows.cons ?_ ?_) | (with_reducible refine LeV.agg ?_) | (with_reducible refine LeV.tup ?_) | (with_reducible refine LeV.fn ?_ ?_) | (with_reducible exact LeV.nil _) | (with_reducible refine leRows_append (LeRows.refl _) ?_) | ((refine leV_frz rfl (by simp) (by simp [frzO, frz1, upd, noH]) ?_); (first | (simp [go_sem]; done) | (simp [go_sem]; exact List.take_of_length_le (by simp)))) | ((refine LeV.frz rfl (by simp) (by simp [frzO, frz1, upd, noH]) ?_); (simp only [List.drop_zero, List.take_succ_cons, List.take_zero, List.map_cons, List.map_nil])) | ((refine LeV.frzP rfl (by simp) (by simp) (by simp [frzO, frz1, upd, noH]) ?_); (simp only [nth_zero, List.drop_zero])))))
  · by_cases h3 : op = 3 ∨ op = 4 ∨ op = 5 ∨ op = 6
    · rw [if_pos h3]
      rcases h3 with rfl | rfl | rfl | rfl <;> (repeat (first | with_reducible (first | refine wL fun _ => ?_ | refine wD fun _ => ?_ | refine wE ?_ | refine adrZ.go ?_) | simp [go_sem])) <;> ((try simp only [encProg, encStep, encAct, encAs, encPath, encPt, encOut, encState, encPos, encOs, encSs, encPs, encIs, encGame, List.map_cons, List.map_nil, List.nil_append, List.append_nil, List.cons_append]); (repeat (first | (with_reducible exact LeRow.nil) | (with_reducible exact LeRows.nil) | (with_reducible exact LeV.refl _) | (with_reducible exact LeRow.refl _ _ _ _) | (with_reducible exact LeRows.refl _) | (with_reducible refine LeRow.cons ?_ ?_) | (with_reducible refine LeRows.cons ?_ ?_) | (with_reducible refine LeV.agg ?_) | (with_reducible refine LeV.tup ?_) | (with_reducible refine LeV.fn ?_ ?_) | (with_reducible exact LeV.nil _) | (with_reducible refine leRows_append (LeRows.refl _) ?_) | ((refine leV_frz rfl (by simp) (by simp [frzO, frz1, upd, noH]) ?_); (first | (simp [go_sem]; done) | (simp [go_sem]; exact List.take_of_length_le (by simp)))) | ((refine LeV.frz rfl (by simp) (by simp [frzO, frz1, upd, noH]) ?_); (simp only [List.drop_zero, List.take_succ_cons, List.take_zero, List.map_cons, List.map_nil])) | ((refine LeV.frzP rfl (by simp) (by simp) (by simp [frzO, frz1, upd, noH]) ?_); (simp only [nth_zero, List.drop_zero])))))
    · rw [if_neg h3, if_neg h7]
      have a3 : ¬ op = 3 := fun e => h3 (.inl e)
      have a4 : ¬ op = 4 := fun e => h3 (.inr (.inl e))
      have a5 : ¬ op = 5 := fun e => h3 (.inr (.inr (.inl e)))
      have a6 : ¬ op = 6 := fun e => h3 (.inr (.inr (.inr e)))
      (repeat (first | with_reducible (first | refine wL fun _ => ?_ | refine wD fun _ => ?_ | refine wE ?_ | refine adrZ.go ?_) | simp [go_sem, h7, a3, a4, a5, a6]))
      ((try simp only [encProg, encStep, encAct, encAs, encPath, encPt, encOut, encState, encPos, encOs, encSs, encPs, encIs, encGame, List.map_cons, List.map_nil, List.nil_append, List.append_nil, List.cons_append]); (repeat (first | (with_reducible exact LeRow.nil) | (with_reducible exact LeRows.nil) | (with_reducible exact LeV.refl _) | (with_reducible exact LeRow.refl _ _ _ _) | (with_reducible exact LeRows.refl _) | (with_reducible refine LeRow.cons ?_ ?_) | (with_reducible refine LeRows.cons ?_ ?_) | (with_reducible refine LeV.agg ?_) | (with_reducible refine LeV.tup ?_) | (with_reducible refine LeV.fn ?_ ?_) | (with_reducible exact LeV.nil _) | (with_reducible refine leRows_append (LeRows.refl _) ?_) | ((refine leV_frz rfl (by simp) (by simp [frzO, frz1, upd, noH]) ?_); (first | (simp [go_sem]; done) | (simp [go_sem]; exact List.take_of_length_le (by simp)))) | ((refine LeV.frz rfl (by simp) (by simp [frzO, frz1, upd, noH]) ?_); (simp only [List.drop_zero, List.take_succ_cons, List.take_zero, List.map_cons, List.map_nil])) | ((refine LeV.frzP rfl (by simp) (by simp) (by simp [frzO, frz1, upd, noH]) ?_); (simp only [nth_zero, List.drop_zero])))))
/-- the part of a list of contents in a region -/
def partL (of at_ : List Int) (name : Int) (k : Nat) : List Int := (List.range k).map fun c => if nth of c = name then nth at_ c else 0
theorem partL_succ (of at_ : List Int) (name : Int) (k : Nat) : partL of at_ name (k + 1) = partL of at_ name k ++ [if nth of k = name then nth at_ k else 0] := by simp [partL, List.range_succ]
theorem partL_len (of at_ : List Int) (name : Int) (k : Nat) : (partL of at_ name k).length = k := by simp [partL]
def hideL (of at_ : List Int) (name : Int) (c : Nat) : List Int := outP at_ 0 (fun j => decide (j < c) && decide (nth of j ≠ name))
theorem hideL_len (of at_ : List Int) (name : Int) (c : Nat) : (hideL of at_ name c).length = at_.length := outP_len _ _ _
theorem hideL_zero (of at_ : List Int) (name : Int) : hideL of at_ name 0 = at_ := (outP_congr fun j hj => by simp).trans (outP_none at_ 0)
theorem hideL_succ (of at_ : List Int) (name : Int) {c : Nat} (hc : c < at_.length) : hideL of at_ name (c + 1) = if nth of c = name then hideL of at_ name c else (hideL of at_ name c).set c 0 := by
  split
  · rename_i he
    refine outP_congr fun j hj => ?_
    by_cases hjc : j = c
    · subst hjc; simp [he]
    · have e1 : decide (j < c + 1) = decide (j < c) := by simp; omega
      rw [e1]
  · rename_i he
    refine outP_set hc fun j hj => ?_
    by_cases hjc : j = c
    · subst hjc; simp [he]
    · have e1 : decide (j < c + 1) = decide (j < c) := by simp; omega
      have e2 : decide (j = c) = false := by simp [hjc]
      rw [e1, e2, Bool.or_false]
theorem partL_out (of at_ : List Int) (name : Int) : hideL of at_ name at_.length = partL of at_ name at_.length := by
  unfold hideL outP partL
  refine List.map_congr_left fun j hj => ?_
  have hj' := List.mem_range.1 hj
  by_cases h : nth of j = name <;> simp [hj', h]
def partP (of : List Int) (p : PosD) (name : Int) : PosD := { p with at_ := partL of p.at_ name p.at_.length }
theorem rPart_pure (of : List Int) (p : PosD) (name : Int) (hof : of.length = p.at_.length) (hp : p.at_.length ≤ 1048576) :
    Pure Try.prog 28 [encIs of, .agg (encPos p), .v (.int .i64 name)] (.agg (encPos (partP of p name))) := by
  refine Pure.of (ACallP.of_awp (by kernel_rfl) Try.func28 rfl rfl (Nat.le_of_ble_eq_true rfl) (by kernel_rfl) ?_)
  unfold partP
  obtain ⟨at_, h0, h1, rt, sd⟩ := p
  simp only at hof hp ⊢
  rw [← partL_out]
  (repeat (first | with_reducible (first | refine wL fun _ => ?_ | refine wD fun _ => ?_ | refine wE ?_ | refine adrZ.go ?_) | simp [go_sem]))
  refine ACallP.ownsPlain (Clone_owns at_ (by unfold Fits; omega)) (by simp [go_sem]) ?_
  (repeat (first | with_reducible (first | refine wL fun _ => ?_ | refine wD fun _ => ?_ | refine wE ?_ | refine adrZ.go ?_) | simp [go_sem]))
  refine ALoop.start (ALoop.ind (α := Nat) (fun c => ⟨[(0, encIs of), (2, .v (.int .i64 name)), (4, .ref 0 0 5 0 0), (6, .ref 1 0 5 0 0), (14, .int at_.length), (15, .v (.int .i64 c))],
      [(0, .rows true 0 5 [[.sl 2 1 1 0 at_.length, encIs h0, encIs h1, .v (.int .i64 rt), .v (.int .i64 sd)]]), (1, .rows true 0 5 [[.v (.slice none 0 0), .v (.slice none 0 0), .v (.slice none 0 0), .v (.int .i64 0), .v (.int .i64 0)]]),
       (2, .rows true 1 1 ((hideL of at_ name c).map encI))], 3⟩)
    (fun d c => c + d = at_.length) ?_ at_.length 0 ?_) ?_ ?_
  · rintro d c i1 hrec
    have hn := hideL_len of at_ name c
    (repeat (first | with_reducible (first | refine wL fun _ => ?_ | refine wD fun _ => ?_ | refine wE ?_ | refine adrZ.go ?_) | simp [go_sem]))
    refine aIf.mkL (fun hc => ?_) (fun hc => ?_) <;> simp at hc
    · have hc' : c < of.length := by omega
      have hs := hideL_succ of at_ name hc
      (repeat (first | with_reducible (first | refine wL fun _ => ?_ | refine wD fun _ => ?_ | refine wE ?_ | refine adrZ.go ?_) | simp [go_sem, hc, hc', hn]))
      refine aIf.mkL (fun he => ?_) (fun he => ?_) <;> simp at he
      · rw [if_neg he] at hs
        (repeat (first | with_reducible (first | refine wL fun _ => ?_ | refine wD fun _ => ?_ | refine wE ?_ | refine adrZ.go ?_) | simp [go_sem, hn, hc]))
        refine ALoop.start (hrec (d - 1) (by omega) (c + 1) (by omega)) ?_ (by simp)
        simp [go_sem, Wk_eq, hs]
      · rw [if_pos he] at hs
        (repeat (first | with_reducible (first | refine wL fun _ => ?_ | refine wD fun _ => ?_ | refine wE ?_ | refine adrZ.go ?_) | simp [go_sem]))
        refine ALoop.start (hrec (d - 1) (by omega) (c + 1) (by omega)) ?_ (by simp)
        simp [go_sem, Wk_eq, hs]
    · have hil : c = at_.length := by omega
      subst hil
      (repeat (first | with_reducible (first | refine wL fun _ => ?_ | refine wD fun _ => ?_ | refine wE ?_ | refine adrZ.go ?_) | simp [go_sem, hn]))
      ((try simp only [encProg, encStep, encAct, encAs, encPath, encPt, encOut, encState, encPos, encOs, encSs, encPs, encIs, encGame, List.map_cons, List.map_nil, List.nil_append, List.append_nil, List.cons_append]); (repeat (first | (with_reducible exact LeRow.nil) | (with_reducible exact LeRows.nil) | (with_reducible exact LeV.refl _) | (with_reducible exact LeRow.refl _ _ _ _) | (with_reducible exact LeRows.refl _) | (with_reducible refine LeRow.cons ?_ ?_) | (with_reducible refine LeRows.cons ?_ ?_) | (with_reducible refine LeV.agg ?_) | (with_reducible refine LeV.tup ?_) | (with_reducible refine LeV.fn ?_ ?_) | (with_reducible exact LeV.nil _) | (with_reducible refine leRows_append (LeRows.refl _) ?_) | ((refine leV_frz rfl (by simp [hn]) (by simp [frzO, frz1, upd, noH]) ?_); (first | (simp [go_sem, hn]; done) | (simp [go_sem, hn]; exact List.take_of_length_le (by simp [hn])))) | ((refine LeV.frz rfl (by simp [hn]) (by simp [frzO, frz1, upd, noH]) ?_); (simp only [List.drop_zero, List.take_succ_cons, List.take_zero, List.map_cons, List.map_nil])) | ((refine LeV.frzP rfl (by simp [hn]) (by simp) (by simp [frzO, frz1, upd, noH]) ?_); (simp only [nth_zero, List.drop_zero])))))
  · simp
  · simp [go_sem, Wk_eq, hideL_zero]
  · simp
end Go.Av
end
section
set_option linter.unusedSimpArgs false
set_option linter.unusedVariables false
open Go Go.Proofs
set_option maxRecDepth 20000
set_option maxHeartbeats 4000000
namespace Go.Av
/-- the cells of links -/
def encL (l : List Int) : List AV := l.map fun x => .v (.int .i64 x)
theorem encL_len (l : List Int) : (encL l).length = l.length := by simp [encL]
theorem cel_encL {l : List Int} {c : Nat} (h : c < l.length) : cel (encL l) c = .v (.int .i64 (nth l c)) := by
  unfold cel encL
  simp [nth_eq _ _ h, h]
theorem cel_encL0 {l : List Int} {c : Nat} (h : c < l.length) : cel ((encL l).drop c) 0 = .v (.int .i64 (nth l c)) := by
  unfold cel encL
  simp [nth_eq _ _ h, h]
theorem bel_encL {n : Nat} {l : List Int} : (∀ c ∈ encL l, Bel n c) = True := by
  refine eq_true ?_
  intro c hc
  obtain ⟨x, _, rfl⟩ := List.mem_map.1 hc
  exact .v _
attribute [go_sem ↓] bel_encL
theorem root_pure (l : List Int) (hl : LinkOk l) (c : Int) (h0 : 0 ≤ c) (h1 : c < 64) : Pure Try.prog 36 [.fp (encL l), .v (.int .i64 c)] (.v (.int .i64 (rootL l c))) := by
  refine Pure.of (ACallP.of_awp (by kernel_rfl) Try.func36 rfl rfl (Nat.le_of_ble_eq_true rfl) (by kernel_rfl) ?_)
  have hlen : (encL l).length = 64 := by rw [encL_len, hl.len]
  have hcel : ∀ c, c < 64 → cel ((encL l).drop c) 0 = .v (.int .i64 (nth l c)) := fun c hc => cel_encL0 (by rw [hl.len]; exact hc)
  have hbl : ∀ n, (∀ c ∈ encL l, Bel n c) := fun n => of_eq_true bel_encL
  generalize hel : encL l = el at *
  (repeat (first | with_reducible (first | refine wL fun _ => ?_ | refine wD fun _ => ?_ | refine wE ?_ | refine adrZ.go ?_) | simp [go_sem, hlen]))
  refine ALoop.start (ALoop.ind (α := Int) (fun x => ⟨[(0, .fp el), (1, .v (.int .i64 x))], [], 0⟩)
    (fun d x => 0 ≤ x ∧ x < 64 ∧ d = x.toNat ∧ rootL l x = rootL l c) ?_ c.toNat c ?_) ?_ ?_
  · rintro d x ⟨i0, i1, i2, i3⟩ hrec
    have hx := hl.le x.toNat (by omega)
    have hs := rootL_step hl i0 i1
    have hcx := hcel x.toNat (by omega)
    (repeat (first | with_reducible (first | refine wL fun _ => ?_ | refine wD fun _ => ?_ | refine wE ?_ | refine adrZ.go ?_) | simp [go_sem, hlen, hcx]))
    refine aIf.mkL (fun he => ?_) (fun he => ?_) <;> simp at he
    · have hne : ¬ nth l x.toNat = x := he
      rw [if_neg hne] at hs
      (repeat (first | with_reducible (first | refine wL fun _ => ?_ | refine wD fun _ => ?_ | refine wE ?_ | refine adrZ.go ?_) | simp [go_sem, hlen, hcx]))
      refine ALoop.start (hrec (nth l x.toNat).toNat (by omega) (nth l x.toNat) ⟨by omega, by omega, rfl, by rw [← hs, i3]⟩) ?_ (by simp)
      simp [go_sem, Wk_eq]
      exact hbl 0
    · rw [if_pos he] at hs
      rw [hs] at i3
      subst i3
      (repeat (first | with_reducible (first | refine wL fun _ => ?_ | refine wD fun _ => ?_ | refine wE ?_ | refine adrZ.go ?_) | simp [go_sem]))
  · exact ⟨h0, h1, rfl, rfl⟩
  · simp [go_sem, Wk_eq]
    exact hbl 0
  · simp
theorem join_owns (l : List Int) (hl : LinkOk l) (first : Int) (h0 : 0 ≤ first ∧ first < 64) (others : List Int) (ho : ∀ c ∈ others, 0 ≤ c ∧ c < 64) (hlo : others.length ≤ 1048576) :
    OwnsA Try.prog 34 [.ref 0 0 64 0 0, .v (.int .i64 first), encIs others] [(0, .rows true 0 64 [encL l])] 1 (.tup []) [(0, .rows true 0 64 [encL (joinsL l first others)])] 1 := by
  unfold OwnsA
  refine ACallP.of_awp (by kernel_rfl) Try.func34 rfl rfl (Nat.le_of_ble_eq_true rfl) (by kernel_rfl) ?_
  (repeat (first | with_reducible (first | refine wL fun _ => ?_ | refine wD fun _ => ?_ | refine wE ?_ | refine adrZ.go ?_) | simp [go_sem]))
  refine ALoop.start (ALoop.ind (α := Nat) (fun i => ⟨[(0, .ref 0 0 64 0 0), (1, .v (.int .i64 first)), (10, encIs others), (11, .int others.length), (12, .v (.int .i64 i))], [(0, .rows true 0 64 [encL (joinsL l first (others.take i))])], 1⟩)
    (fun d i => i + d = others.length) ?_ others.length 0 ?_) ?_ ?_
  · rintro d i i1 hrec
    have htk : ∀ c ∈ others.take i, 0 ≤ c ∧ c < 64 := fun c hc => ho c (List.mem_of_mem_take hc)
    have hok := (joinsL_spec hl h0 (others.take i) htk).1
    have hel : (encL (joinsL l first (others.take i))).length = 64 := by rw [encL_len, hok.len]
    (repeat (first | with_reducible (first | refine wL fun _ => ?_ | refine wD fun _ => ?_ | refine wE ?_ | refine adrZ.go ?_) | simp [go_sem]))
    refine aIf.mkL (fun hi => ?_) (fun hi => ?_) <;> simp at hi
    · have hx := ho _ (nth_mem hi)
      have hs : joinsL l first (others.take (i + 1)) = linkL (joinsL l first (others.take i)) (rootL (joinsL l first (others.take i)) first) (rootL (joinsL l first (others.take i)) (nth others i)) := by
        rw [List.take_add_one, List.getElem?_eq_getElem hi, Option.toList_some, joinsL_snoc, nth_eq _ _ hi]
      generalize joinsL l first (others.take i) = l1 at hok hel hs ⊢
      have hr1 := root_pure l1 hok first h0.1 h0.2
      have hr2 := root_pure l1 hok (nth others i) hx.1 hx.2
      have ra := rootL_spec hok h0.1 h0.2
      have rb := rootL_spec hok hx.1 hx.2
      generalize rootL l1 first = a at hs hr1 ra
      generalize rootL l1 (nth others i) = b at hs hr2 rb
      (repeat (first | with_reducible (first | refine wL fun _ => ?_ | refine wD fun _ => ?_ | refine wE ?_ | refine adrZ.go ?_) | simp [go_sem, hi]))
      refine ACallP.flat (args' := [.fp (encL l1), .v (.int .i64 first)]) hr1 (.v _) ?_ (by simp [go_sem]) ?_
      · refine LeRow.cons (.frzP rfl ?_ ?_ ?_ ?_) (.refl _ _ _ _) <;> first | exact LeRow.refl _ _ _ _ | simp [hel, noH]
      (repeat (first | with_reducible (first | refine wL fun _ => ?_ | refine wD fun _ => ?_ | refine wE ?_ | refine adrZ.go ?_) | simp [go_sem]))
      refine ACallP.flat (args' := [.fp (encL l1), .v (.int .i64 (nth others i))]) hr2 (.v _) ?_ (by simp [go_sem]) ?_
      · refine LeRow.cons (.frzP rfl ?_ ?_ ?_ ?_) (.refl _ _ _ _) <;> first | exact LeRow.refl _ _ _ _ | simp [hel, noH]
      (repeat (first | with_reducible (first | refine wL fun _ => ?_ | refine wD fun _ => ?_ | refine wE ?_ | refine adrZ.go ?_) | simp [go_sem, hel]))
      refine ALoop.start (hrec (d - 1) (by omega) (i + 1) (by omega)) ?_ (by simp)
      have hst : encL (linkL l1 a b) = (encL l1).set (max a b).toNat (.v (.int .i64 (min a b))) := by simp [encL, linkL, List.map_set]
      simp [go_sem, Wk_eq, hs, minE, maxE, hst]
      rw [← hst]
      exact of_eq_true bel_encL
    · have hil : i = others.length := by omega
      subst hil
      rw [List.take_length] at *
      (repeat (first | with_reducible (first | refine wL fun _ => ?_ | refine wD fun _ => ?_ | refine wE ?_ | refine adrZ.go ?_) | simp [go_sem]))
      simp [go_sem, Wk_eq]
  · simp
  · simp [go_sem, Wk_eq, joinsL]
  · simp
theorem join_call (l : List Int) (hl : LinkOk l) (first : Int) (h0 : 0 ≤ first ∧ first < 64) (others : List Int) (ho : ∀ c ∈ others, 0 ≤ c ∧ c < 64) (hlo : others.length ≤ 1048576) {h h' : Heap} {n o : Nat} {A : AV} (hfz : Frz h h')
    (ho' : h' o = some (.rows true 0 64 [encL l])) (hon : o < n) (hA : LeV h h' n A (encIs others)) {K : CallK} (hK : K (.tup []) (upd h' o (some (.rows true 0 64 [encL (joinsL l first others)]))) n) :
    ACallP Try.prog 34 [.ref o 0 64 0 0, .v (.int .i64 first), A] h n K := by
  have hbo : ∀ m, Bel m (encIs others) := fun m => by simp [go_sem]
  have hbl : ∀ (l : List Int) m, ∀ r ∈ [encL l], ∀ c ∈ r, Bel m c := fun l m r hr c hc => by
    rw [List.mem_singleton] at hr; subst hr; exact of_eq_true bel_encL c hc
  refine ACallP.ownsA (args' := [.ref o 0 64 0 0, .v (.int .i64 first), encIs others]) (HH := [(o, .rows true 0 64 [encL (joinsL l first others)])])
    [o] h' (join_owns l hl first h0 others ho hlo) (by simp) (by simpa using hon) rfl (Nat.le_refl _) hfz ?_ ?_ (.cons (.refl _) (.cons (.refl _) (.cons hA .nil))) ?_ ?_ ?_ (.same (.tup fun _ h => by cases h)) ?_ ?_
  · intro j hj
    obtain rfl : j = 0 := by omega
    exact ⟨_, _, rfl, ho', .rows (.same (hbl _ _))⟩
  · intro p hp
    simp only [List.mem_cons, List.not_mem_nil, or_false] at hp
    subst hp
    exact ⟨Nat.le_refl _, hbl _ _⟩
  · intro y hy
    simp only [List.mem_cons, List.not_mem_nil, or_false] at hy
    rcases hy with rfl | rfl | rfl
    · exact .ref hon
    · exact .v _
    · exact hbo _
  · exact .cons (.ref rfl) (.cons (.same (.v _)) (.cons (.same (hbo _)) .nil))
  · intro y hy
    simp only [List.mem_cons, List.not_mem_nil, or_false] at hy
    rcases hy with rfl | rfl | rfl
    · exact .ref (by decide)
    · exact .v _
    · exact hbo _
  · exact .cons rfl (.rows (.same (hbl _ _))) .nil
  · have e : over [(o, .rows true 0 64 [encL (joinsL l first others)])] (remH [o] h') = upd h' o (some (.rows true 0 64 [encL (joinsL l first others)])) := by
      funext j
      simp only [over, remH, upd]
      by_cases j1 : j = o
      · subst j1; simp
      · simp [j1]
    rw [e, Nat.sub_self, Nat.add_zero]
    exact hK
end Go.Av
end
