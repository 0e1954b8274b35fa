/- Contracts, layer 22: the names of the regions of a game (region.Of). -/
import Derived.Test.YtpngjhfkaogdeaaF3
section
set_option linter.unusedSimpArgs false
set_option linter.unusedVariables false
open Go Go.Proofs
set_option maxRecDepth 20000
set_option maxHeartbeats 4000000
namespace Go.Av
theorem sideR_codeP {g : GameD} (hg : GOk g) (s : Int) : SideR g.cells.toNat (sideP g s) := by
  have hc1 := hg.c1
  refine ⟨by simp [sideP]; exact hg.k6, fun k hk => ?_⟩
  obtain ⟨kd, hkd, rfl⟩ := List.mem_map.1 hk
  refine ⟨by simp [cellsP, GameD.board], fun x hx => ?_⟩
  obtain ⟨c, hc, rfl⟩ := List.mem_map.1 hx
  have hc' := List.mem_range.1 hc
  have hcc : (0 : Int) ≤ (c : Int) ∧ (c : Int) < g.cells := by simp [GameD.board] at hc'; omega
  refine ⟨by have := kindP_len hg s hkd (c : Nat); omega, fun p hp => ?_⟩
  have ho := kindP_ok hg (side := s) hkd hcc p hp
  have e : ((g.cells.toNat : Nat) : Int) = g.cells := by omega
  refine ⟨by rw [e]; exact ho.to, kindP_acts hg s hkd _ p hp, fun a ha => by rw [e]; exact cellsA_ok (ho.acts a ha)⟩
def initL (i : Nat) : List Int := idL.take i ++ List.replicate (64 - i) 0
theorem initL_len {i : Nat} (h : i ≤ 64) : (initL i).length = 64 := by simp [initL, idL]; omega
theorem initL_succ : ∀ i, i < 64 → initL (i + 1) = (initL i).set i (i : Int) := by decide +kernel
theorem initL_all : initL 64 = idL := rfl
def zerosTo (l : List Int) (n c : Nat) : List Int := namesL l c ++ List.replicate (n - c) 0
theorem namesL_len (l : List Int) (n : Nat) : (namesL l n).length = n := by simp [namesL]
theorem zerosTo_len (l : List Int) {n c : Nat} (h : c ≤ n) : (zerosTo l n c).length = n := by simp [zerosTo, namesL_len]; omega
theorem zerosTo_all (l : List Int) (n : Nat) : zerosTo l n n = namesL l n := by simp [zerosTo]
theorem zerosTo_succ (l : List Int) {n c : Nat} (h : c < n) : zerosTo l n (c + 1) = (zerosTo l n c).set c (rootL l c) := by
  unfold zerosTo
  have e : namesL l (c + 1) = namesL l c ++ [rootL l c] := by simp [namesL, List.range_succ]
  have e2 : List.replicate (n - c) (0 : Int) = 0 :: List.replicate (n - (c + 1)) 0 := by rw [show n - c = (n - (c + 1)) + 1 by omega, List.replicate_succ]
  rw [e, e2, List.set_append_right _ _ (by rw [namesL_len]; omega), namesL_len, Nat.sub_self, List.set_cons_zero, List.append_assoc]
  rfl
theorem rOf_pure (g : GameD) (hg : GOk g) : Pure Try.prog 16 [.agg (encGame g)] (encIs (namesL (linksC (codeP g)) g.cells.toNat)) := by
  refine Pure.of (ACallP.of_awp (by kernel_rfl) Try.func16 rfl rfl (Nat.le_of_ble_eq_true rfl) (by kernel_rfl) ?_)
  have hC := Compile_pure g hg
  have hc1 := hg.c1
  have hc9 := hg.c9
  have hs1 := sideR_codeP hg 0
  have hs2 := sideR_codeP hg 1
  have hcc : codeP g = (sideP g 0, sideP g 1) := rfl
  rw [hcc] at hC ⊢
  generalize sideP g 0 = s0 at *
  generalize sideP g 1 = s1 at *
  have hgb : ∀ n, (∀ c ∈ encGame g, Bel n c) = True := fun n => by simp [go_sem]
  have hg0 : cel (encGame g) 0 = .v (.int .i64 g.cells) := rfl
  obtain ⟨eg, heg⟩ : ∃ eg, eg = encGame g := ⟨_, rfl⟩
  have hel : eg.length = 9 := by rw [heg]; rfl
  have hn64 : g.cells.toNat ≤ 64 := by omega
  rw [← heg] at hC hgb hg0 ⊢
  clear hcc heg
  obtain ⟨n, hn⟩ : ∃ n, n = g.cells.toNat := ⟨_, rfl⟩
  have hnc : g.cells = (n : Int) := by omega
  rw [← hn] at hs1 hs2 hn64 ⊢
  rw [hnc] at *
  (repeat (first | with_reducible (first | refine wL fun _ => ?_ | refine wD fun _ => ?_ | refine wE ?_ | refine adrZ.go ?_) | simp [go_sem, hel]))
  refine ALoop.start (ALoop.ind (α := Nat) (fun i => ⟨[(1, .ref 0 0 9 0 0), (3, .ref 1 0 64 0 0), (17, .v (.int .i64 i))], [(0, .rows true 0 9 [eg]), (1, .rows true 0 64 [encL (initL i)])], 2⟩)
    (fun d i => i + d = 64) ?_ 64 0 ?_) ?_ ?_
  · rintro d i i1 hrec
    have hell : (encL (initL i)).length = 64 := by rw [encL_len, initL_len (by omega)]
    (repeat (first | with_reducible (first | refine wL fun _ => ?_ | refine wD fun _ => ?_ | refine wE ?_ | refine adrZ.go ?_) | simp [go_sem]))
    refine aIf.mkL (fun hi => ?_) (fun hi => ?_) <;> simp at hi
    · have hst : encL (initL (i + 1)) = (encL (initL i)).set i (.v (.int .i64 i)) := by rw [initL_succ i (by omega)]; simp [encL, List.map_set]
      (repeat (first | with_reducible (first | refine wL fun _ => ?_ | refine wD fun _ => ?_ | refine wE ?_ | refine adrZ.go ?_) | simp [go_sem, hell]))
      refine ALoop.start (hrec (d - 1) (by omega) (i + 1) (by omega)) ?_ (by simp)
      simp [go_sem, Wk_eq, hst]
      exact ⟨of_eq_true (hgb 2), by rw [← hst]; exact of_eq_true bel_encL⟩
    · have hil : i = 64 := by omega
      subst hil
      rw [initL_all]
      have hcl : (encCode (s0, s1)).length = 2 := rfl
      have hcb : ∀ n, (∀ c ∈ encCode (s0, s1), Bel n c) = True := fun n => by simp [go_sem]
      have hct : (encCode (s0, s1)).take 2 = [encSide s0, encSide s1] := rfl
      generalize encCode (s0, s1) = ec at *
      (repeat (first | with_reducible (first | refine wL fun _ => ?_ | refine wD fun _ => ?_ | refine wE ?_ | refine adrZ.go ?_) | simp [go_sem]))
      refine ACallP.plain hC (by simp [go_sem, hgb]) ?_
      (repeat (first | with_reducible (first | refine wL fun _ => ?_ | refine wD fun _ => ?_ | refine wE ?_ | refine adrZ.go ?_) | simp [go_sem, hcl, hct]))
      obtain ⟨R, hR⟩ : ∃ R, R = linksC (s0, s1) := ⟨_, rfl⟩
      have hRok : LinkOk R := by rw [hR]; exact linksC_ok hn64 hs1 hs2
      rw [← hR]
      have hss : ∀ i : Nat, i < 2 → ∃ s, SideR n s ∧ cel [encSide s0, encSide s1] i = encSide s ∧ (i = 0 → s = s0) ∧ (i = 1 → s = s1) := by
        intro i hi
        rcases (show i = 0 ∨ i = 1 by omega) with rfl | rfl
        · exact ⟨s0, hs1, rfl, fun _ => rfl, fun h => by omega⟩
        · exact ⟨s1, hs2, rfl, fun h => by omega, fun _ => rfl⟩
      have hR' : R = kindsF (kindsF idL s0) s1 := hR
      clear hC
      refine ALoop.start (ALoop.ind (α := Nat × List Int) (fun a => ⟨[(1, .ref 0 0 9 0 0), (3, .ref 1 0 64 0 0), (26, .agg [encSide s0, encSide s1]), (27, .v (.int .i64 a.1))], [(0, .rows true 0 9 [eg]), (1, .rows true 0 64 [encL a.2])], 2⟩)
        (fun d a => a.1 + d = 2 ∧ LinkOk a.2 ∧ (a.1 = 0 → a.2 = idL) ∧ (a.1 = 1 → a.2 = kindsF idL s0) ∧ (a.1 = 2 → a.2 = R)) ?_ 2 (0, idL) ?_) ?_ ?_
      · rintro d ⟨i, l⟩ ⟨i1, i2, i3, i4, i5⟩ hrec
        simp only at i1 i2 i3 i4 i5
        (repeat (first | with_reducible (first | refine wL fun _ => ?_ | refine wD fun _ => ?_ | refine wE ?_ | refine adrZ.go ?_) | simp [go_sem]))
        refine aIf.mkL (fun hi => ?_) (fun hi => ?_) <;> simp at hi
        · obtain ⟨s, hs, hcs, hsa, hsb⟩ := hss i (by omega)
          obtain ⟨R2, hR2⟩ : ∃ R2, R2 = kindsF l s := ⟨_, rfl⟩
          have hgo := hrec (d - 1) (by omega) (i + 1, R2) ⟨by simp only; omega, by rw [hR2]; exact kindsF_ok hn64 s i2 hs.2, fun h => by omega, fun h => by simp only at h ⊢; rw [hR2, i3 (by omega), hsa (by omega)], fun h => by simp only at h ⊢; rw [hR2, i4 (by omega), hsb (by omega), hR']⟩
          obtain ⟨hs6, hsk⟩ := hs
          simp only [encSide, encCells, encPt] at hcs
          (repeat (first | with_reducible (first | refine wL fun _ => ?_ | refine wD fun _ => ?_ | refine wE ?_ | refine adrZ.go ?_) | simp [go_sem, hcs]))
          refine ALoop.start (ALoop.ind (α := Nat × List Int) (fun a => ⟨[(1, .ref 0 0 9 0 0), (3, .ref 1 0 64 0 0), (26, .agg [encSide s0, encSide s1]), (27, .v (.int .i64 i)), (30, encSide s), (31, .int s.length), (32, .v (.int .i64 a.1))], [(0, .rows true 0 9 [eg]), (1, .rows true 0 64 [encL a.2])], 2⟩)
            (fun d a => a.1 + d = s.length ∧ LinkOk a.2 ∧ kindsF a.2 (s.drop a.1) = R2) ?_ s.length (0, l) ?_) ?_ ?_
          · rintro d2 ⟨k, l2⟩ ⟨j1, j2, j3⟩ hrec2
            simp only at j1 j2 j3
            (repeat (first | with_reducible (first | refine wL fun _ => ?_ | refine wD fun _ => ?_ | refine wE ?_ | refine adrZ.go ?_) | simp [go_sem]))
            refine aIf.mkL (fun hk => ?_) (fun hk => ?_) <;> simp at hk
            · have hsk' := hsk _ (nth_mem hk)
              rw [dropG_cons hk] at j3
              obtain ⟨kl, hkl⟩ : ∃ kl, kl = nth s k := ⟨_, rfl⟩
              rw [← hkl] at hsk' j3
              obtain ⟨R3, hR3⟩ : ∃ R3, R3 = cellsF l2 0 kl := ⟨_, rfl⟩
              have hgo2 := hrec2 (d2 - 1) (by omega) (k + 1, R3) ⟨by simp only; omega, by rw [hR3]; exact cellsF_ok hn64 kl 0 j2 (by omega) (fun x hx => (hsk'.2 x hx).2), by rw [hR3]; exact j3⟩
              obtain ⟨hkn, hkx⟩ := hsk'
              (repeat (first | with_reducible (first | refine wL fun _ => ?_ | refine wD fun _ => ?_ | refine wE ?_ | refine adrZ.go ?_) | simp [go_sem, hk, ← hkl]))
              refine ALoop.start (ALoop.ind (α := Nat × List Int) (fun a => ⟨[(1, .ref 0 0 9 0 0), (3, .ref 1 0 64 0 0), (26, .agg [encSide s0, encSide s1]), (27, .v (.int .i64 i)), (30, encSide s), (31, .int s.length), (32, .v (.int .i64 k)), (36, encCells kl), (37, .int n), (38, .v (.int .i64 a.1))], [(0, .rows true 0 9 [eg]), (1, .rows true 0 64 [encL a.2])], 2⟩)
                (fun d a => a.1 + d = n ∧ LinkOk a.2 ∧ cellsF a.2 a.1 (kl.drop a.1) = R3) ?_ n (0, l2) ?_) ?_ ?_
              · rintro d3 ⟨c, l3⟩ ⟨m1, m2, m3⟩ hrec3
                simp only at m1 m2 m3
                (repeat (first | with_reducible (first | refine wL fun _ => ?_ | refine wD fun _ => ?_ | refine wE ?_ | refine adrZ.go ?_) | simp [go_sem]))
                refine aIf.mkL (fun hc => ?_) (fun hc => ?_) <;> simp at hc
                · have hck : c < kl.length := by omega
                  have hkx' := hkx _ (nth_mem hck)
                  rw [dropG_cons hck] at m3
                  rw [cellsF] at m3
                  obtain ⟨ps, hps⟩ : ∃ ps, ps = nth kl c := ⟨_, rfl⟩
                  rw [← hps] at hkx' m3
                  have hcn : (0 : Int) ≤ (c : Int) ∧ (c : Int) < (n : Int) := ⟨by omega, by omega⟩
                  obtain ⟨R4, hR4⟩ : ∃ R4, R4 = pathsF (c : Int) l3 ps := ⟨_, rfl⟩
                  have hgo3 := hrec3 (d3 - 1) (by omega) (c + 1, R4) ⟨by simp only; omega, by rw [hR4]; exact pathsF_ok hn64 hcn ps m2 hkx'.2, by rw [hR4]; exact m3⟩
                  obtain ⟨hpl, hpp⟩ := hkx'
                  (repeat (first | with_reducible (first | refine wL fun _ => ?_ | refine wD fun _ => ?_ | refine wE ?_ | refine adrZ.go ?_) | simp [go_sem, hck, ← hps]))
                  refine ALoop.start (ALoop.ind (α := Nat × List Int) (fun a => ⟨[(1, .ref 0 0 9 0 0), (3, .ref 1 0 64 0 0), (9, .v (.int .i64 c)), (26, .agg [encSide s0, encSide s1]), (27, .v (.int .i64 i)), (30, encSide s), (31, .int s.length), (32, .v (.int .i64 k)), (36, encCells kl), (37, .int n), (38, .v (.int .i64 c)), (43, encPt ps), (44, .int ps.length), (45, .v (.int .i64 a.1))], [(0, .rows true 0 9 [eg]), (1, .rows true 0 64 [encL a.2])], 2⟩)
                    (fun d a => a.1 + d = ps.length ∧ LinkOk a.2 ∧ pathsF c a.2 (ps.drop a.1) = R4) ?_ ps.length (0, l3) ?_) ?_ ?_
                  · rintro d4 ⟨j, l4⟩ ⟨o1, o2, o3⟩ hrec4
                    simp only at o1 o2 o3
                    (repeat (first | with_reducible (first | refine wL fun _ => ?_ | refine wD fun _ => ?_ | refine wE ?_ | refine adrZ.go ?_) | simp [go_sem]))
                    refine aIf.mkL (fun hj => ?_) (fun hj => ?_) <;> simp at hj
                    · have hpp' := hpp _ (nth_mem hj)
                      rw [dropG_cons hj] at o3
                      obtain ⟨p, hp⟩ : ∃ p, p = nth ps j := ⟨_, rfl⟩
                      rw [← hp] at hpp' o3
                      obtain ⟨R5, hR5⟩ : ∃ R5, R5 = pathF (c : Int) l4 p := ⟨_, rfl⟩
                      have hgo4 := hrec4 (d4 - 1) (by omega) (j + 1, R5) ⟨by simp only; omega, by rw [hR5]; exact pathF_ok hn64 hcn hpp' o2, by rw [hR5]; exact o3⟩
                      obtain ⟨hto, hal, hac⟩ := hpp'
                      have hl5 := joinsL_ok o2 hn64 hcn (others := [p.to]) (fun x hx => by rw [List.mem_singleton] at hx; subst hx; exact hto)
                      (repeat (first | with_reducible (first | refine wL fun _ => ?_ | refine wD fun _ => ?_ | refine wE ?_ | refine adrZ.go ?_) | simp [go_sem, hj, ← hp]))
                      refine join_call l4 o2 c ⟨hcn.1, by omega⟩ [p.to] (fun x hx => by rw [List.mem_singleton] at hx; subst hx; omega) (by simp) (frz_frzO _ [3]) rfl (by omega) ?_ ?_
                      · ((try simp only [encProg, encStep, encAct, encAs, encPath, encPt, encOut, encState, encPos, encOs, encSs, encPs, encIs, encGame, List.map_cons, List.map_nil, List.nil_append, List.append_nil, List.cons_append]); (repeat (first | (with_reducible exact LeRow.nil) | (with_reducible exact LeRows.nil) | (with_reducible exact LeV.refl _) | (with_reducible exact LeRow.refl _ _ _ _) | (with_reducible exact LeRows.refl _) | (with_reducible refine LeRow.cons ?_ ?_) | (with_reducible refine LeRows.cons ?_ ?_) | (with_reducible refine LeV.agg ?_) | (with_reducible refine LeV.tup ?_) | (with_reducible refine LeV.fn ?_ ?_) | (with_reducible exact LeV.nil _) | (with_reducible refine leRows_append (LeRows.refl _) ?_) | ((refine leV_frz rfl (by simp) (by simp [frzO, frz1, upd, noH]) ?_); (first | (simp [go_sem]; done) | (simp [go_sem]; exact List.take_of_length_le (by simp)))) | ((refine LeV.frz rfl (by simp) (by simp [frzO, frz1, upd, noH]) ?_); (simp only [List.drop_zero, List.take_succ_cons, List.take_zero, List.map_cons, List.map_nil])) | ((refine LeV.frzP rfl (by simp) (by simp) (by simp [frzO, frz1, upd, noH]) ?_); (simp only [nth_zero, List.drop_zero])))))
                      have hR5' : actsF (c : Int) (joinsL l4 c [p.to]) p.acts = R5 := hR5.symm
                      generalize joinsL l4 c [p.to] = l5 at hl5 hR5' ⊢
                      (repeat (first | with_reducible (first | refine wL fun _ => ?_ | refine wD fun _ => ?_ | refine wE ?_ | refine adrZ.go ?_) | simp [go_sem]))
                      refine ALoop.start (ALoop.ind (α := Nat × List Int) (fun a => ⟨[(1, .ref 0 0 9 0 0), (3, .ref 1 0 64 0 0), (9, .v (.int .i64 c)), (26, .agg [encSide s0, encSide s1]), (27, .v (.int .i64 i)), (30, encSide s), (31, .int s.length), (32, .v (.int .i64 k)), (36, encCells kl), (37, .int n), (38, .v (.int .i64 c)), (43, encPt ps), (44, .int ps.length), (45, .v (.int .i64 j)),
                          (55, encAs p.acts), (56, .int p.acts.length), (57, .v (.int .i64 a.1))], [(0, .rows true 0 9 [eg]), (1, .rows true 0 64 [encL a.2])], 2⟩)
                        (fun d a => a.1 + d = p.acts.length ∧ LinkOk a.2 ∧ actsF c a.2 (p.acts.drop a.1) = R5) ?_ p.acts.length (0, l5) ?_) ?_ ?_
                      · rintro d5 ⟨m, l6⟩ ⟨q1, q2, q3⟩ hrec5
                        simp only at q1 q2 q3
                        (repeat (first | with_reducible (first | refine wL fun _ => ?_ | refine wD fun _ => ?_ | refine wE ?_ | refine adrZ.go ?_) | simp [go_sem]))
                        refine aIf.mkL (fun hm => ?_) (fun hm => ?_) <;> simp at hm
                        · have hac' := hac _ (nth_mem hm)
                          rw [dropG_cons hm] at q3
                          obtain ⟨a, ha⟩ : ∃ a, a = nth p.acts m := ⟨_, rfl⟩
                          rw [← ha] at hac' q3
                          have hgo5 := hrec5 (d5 - 1) (by omega) (m + 1, joinsL l6 c (cellsA a)) ⟨by simp only; omega, joinsL_ok q2 hn64 hcn hac', q3⟩
                          have hra := rCells_pure a
                          (repeat (first | with_reducible (first | refine wL fun _ => ?_ | refine wD fun _ => ?_ | refine wE ?_ | refine adrZ.go ?_) | simp [go_sem, hm, ← ha]))
                          refine ACallP.plain hra (by simp [go_sem]) ?_
                          (repeat (first | with_reducible (first | refine wL fun _ => ?_ | refine wD fun _ => ?_ | refine wE ?_ | refine adrZ.go ?_) | simp [go_sem]))
                          refine join_call l6 q2 c ⟨hcn.1, by omega⟩ (cellsA a) (fun x hx => by have := hac' x hx; omega) (by have := cellsA_len a; omega) (.refl _) rfl (by omega) (.refl _) ?_
                          (repeat (first | with_reducible (first | refine wL fun _ => ?_ | refine wD fun _ => ?_ | refine wE ?_ | refine adrZ.go ?_) | simp [go_sem]))
                          refine ALoop.start hgo5 ?_ (by simp)
                          simp [go_sem, Wk_eq]
                          exact of_eq_true (hgb 2)
                        · rw [List.drop_eq_nil_of_le hm] at q3
                          have q3' : l6 = R5 := q3
                          subst q3'
                          (repeat (first | with_reducible (first | refine wL fun _ => ?_ | refine wD fun _ => ?_ | refine wE ?_ | refine adrZ.go ?_) | simp [go_sem]))
                          refine ALoop.start hgo4 ?_ (by simp)
                          simp [go_sem, Wk_eq]
                          exact of_eq_true (hgb 2)
                      · exact ⟨by simp, hl5, by rw [← hR5']; rfl⟩
                      · simp [go_sem, Wk_eq]
                        exact of_eq_true (hgb 2)
                      · simp
                    · rw [List.drop_eq_nil_of_le hj] at o3
                      have o3' : l4 = R4 := o3
                      subst o3'
                      (repeat (first | with_reducible (first | refine wL fun _ => ?_ | refine wD fun _ => ?_ | refine wE ?_ | refine adrZ.go ?_) | simp [go_sem]))
                      refine ALoop.start hgo3 ?_ (by simp)
                      simp [go_sem, Wk_eq]
                      exact of_eq_true (hgb 2)
                  · exact ⟨by simp, m2, by rw [hR4]; rfl⟩
                  · simp [go_sem, Wk_eq]
                    exact of_eq_true (hgb 2)
                  · simp
                · rw [List.drop_eq_nil_of_le (by omega)] at m3
                  have m3' : l3 = R3 := m3
                  subst m3'
                  (repeat (first | with_reducible (first | refine wL fun _ => ?_ | refine wD fun _ => ?_ | refine wE ?_ | refine adrZ.go ?_) | simp [go_sem]))
                  refine ALoop.start hgo2 ?_ (by simp)
                  simp [go_sem, Wk_eq]
                  exact of_eq_true (hgb 2)
              · exact ⟨by simp, j2, by rw [hR3]; rfl⟩
              · simp [go_sem, Wk_eq, hkn]
                exact of_eq_true (hgb 2)
              · simp
            · rw [List.drop_eq_nil_of_le hk] at j3
              have j3' : l2 = R2 := j3
              subst j3'
              (repeat (first | with_reducible (first | refine wL fun _ => ?_ | refine wD fun _ => ?_ | refine wE ?_ | refine adrZ.go ?_) | simp [go_sem]))
              refine ALoop.start hgo ?_ (by simp)
              simp [go_sem, Wk_eq]
              exact of_eq_true (hgb 2)
          · exact ⟨by simp, i2, by rw [hR2]; rfl⟩
          · simp [go_sem, Wk_eq]
            exact of_eq_true (hgb 2)
          · simp
        · have hi2 : i = 2 := by omega
          rw [i5 hi2]
          (repeat (first | with_reducible (first | refine wL fun _ => ?_ | refine wD fun _ => ?_ | refine wE ?_ | refine adrZ.go ?_) | simp [go_sem, hg0, ← hn]))
          refine ALoop.start (ALoop.ind (α := Nat) (fun c => ⟨[(3, .ref 1 0 64 0 0), (15, .sl 2 0 1 0 n), (75, .int n), (76, .v (.int .i64 c))], [(1, .rows true 0 64 [encL R]), (2, .rows true 0 1 ((zerosTo R n c).map encI))], 3⟩)
            (fun d c => c + d = n) ?_ n 0 ?_) ?_ ?_
          · rintro d2 c j1 hrec2
            have hzl := zerosTo_len R (show c ≤ n by omega)
            (repeat (first | with_reducible (first | refine wL fun _ => ?_ | refine wD fun _ => ?_ | refine wE ?_ | refine adrZ.go ?_) | simp [go_sem]))
            refine aIf.mkL (fun hc => ?_) (fun hc => ?_) <;> simp at hc
            · have hzs := zerosTo_succ R hc
              have hr := root_pure R hRok c (by omega) (by omega)
              (repeat (first | with_reducible (first | refine wL fun _ => ?_ | refine wD fun _ => ?_ | refine wE ?_ | refine adrZ.go ?_) | simp [go_sem]))
              refine ACallP.flat (args' := [.fp (encL R), .v (.int .i64 c)]) hr (.v _) ?_ (by simp [go_sem]) ?_
              · have hRl : (encL R).length = 64 := by rw [encL_len, hRok.len]
                refine LeRow.cons (.frzP rfl ?_ ?_ ?_ ?_) (.refl _ _ _ _) <;> first | exact LeRow.refl _ _ _ _ | simp [hRl, noH]
              (repeat (first | with_reducible (first | refine wL fun _ => ?_ | refine wD fun _ => ?_ | refine wE ?_ | refine adrZ.go ?_) | simp [go_sem, hzl]))
              refine ALoop.start (hrec2 (d2 - 1) (by omega) (c + 1) (by omega)) ?_ (by simp)
              simp [go_sem, Wk_eq, hzs]
            · have hcl : c = n := by omega
              subst hcl
              rw [zerosTo_all]
              (repeat (first | with_reducible (first | refine wL fun _ => ?_ | refine wD fun _ => ?_ | refine wE ?_ | refine adrZ.go ?_) | simp [go_sem, namesL_len]))
              ((try simp only [encProg, encStep, encAct, encAs, encPath, encPt, encOut, encState, encPos, encOs, encSs, encPs, encIs, encGame, List.map_cons, List.map_nil, List.nil_append, List.append_nil, List.cons_append]); (repeat (first | (with_reducible exact LeRow.nil) | (with_reducible exact LeRows.nil) | (with_reducible exact LeV.refl _) | (with_reducible exact LeRow.refl _ _ _ _) | (with_reducible exact LeRows.refl _) | (with_reducible refine LeRow.cons ?_ ?_) | (with_reducible refine LeRows.cons ?_ ?_) | (with_reducible refine LeV.agg ?_) | (with_reducible refine LeV.tup ?_) | (with_reducible refine LeV.fn ?_ ?_) | (with_reducible exact LeV.nil _) | (with_reducible refine leRows_append (LeRows.refl _) ?_) | ((refine leV_frz rfl (by simp [namesL_len]) (by simp [frzO, frz1, upd, noH]) ?_); (first | (simp [go_sem, namesL_len]; done) | (simp [go_sem, namesL_len]; exact List.take_of_length_le (by simp [namesL_len])))) | ((refine LeV.frz rfl (by simp [namesL_len]) (by simp [frzO, frz1, upd, noH]) ?_); (simp only [List.drop_zero, List.take_succ_cons, List.take_zero, List.map_cons, List.map_nil])) | ((refine LeV.frzP rfl (by simp [namesL_len]) (by simp) (by simp [frzO, frz1, upd, noH]) ?_); (simp only [nth_zero, List.drop_zero])))))
          · simp
          · have hz0 : zerosTo R n 0 = List.replicate n 0 := by simp [zerosTo, namesL]
            simp [go_sem, Wk_eq, hz0]
          · simp
      · exact ⟨by simp, idL_ok, fun _ => rfl, by intro h; simp at h, by intro h; simp at h⟩
      · simp [go_sem, Wk_eq]
        exact of_eq_true (hgb 2)
      · simp
  · simp
  · simp [go_sem, Wk_eq]
    exact ⟨of_eq_true (hgb 2), LeRow.of_eq rfl⟩
  · simp
end Go.Av
end
section
set_option linter.unusedSimpArgs false
set_option linter.unusedVariables false
open Go Go.Proofs
set_option maxRecDepth 20000
set_option maxHeartbeats 4000000
namespace Go.Av
theorem way_owns (p : PathD) (more : List ActD) (to : Int) (hp : p.acts.length ≤ 1048576) (hm : more.length ≤ 1048576) : Owns Try.prog 77 [.agg (encPath p), encAs more, .v (.int .i64 to)]
    (fun n => .agg [.sl (n + 2) 2 3 0 (p.acts.length + more.length), .v (.int .i64 to)]) (fun n => [(n + 2, .rows true 2 3 ((p.acts ++ more).map encAct))]) 3 := by
  refine ⟨ACallP.of_awp (by kernel_rfl) Try.func77 rfl rfl (Nat.le_of_ble_eq_true rfl) (by kernel_rfl) ?_, fun n => ⟨by simp [go_sem], by simp [go_sem]⟩⟩
  obtain ⟨acts, t⟩ := p
  simp only at hp
  (repeat (first | with_reducible (first | refine wL fun _ => ?_ | refine wD fun _ => ?_ | refine wE ?_ | refine adrZ.go ?_) | simp [go_sem]))
  simp [go_sem, Wk_eq]
theorem way_pure (p : PathD) (more : List ActD) (to : Int) (hp : p.acts.length ≤ 1048576) (hm : more.length ≤ 1048576) : Pure Try.prog 77 [.agg (encPath p), encAs more, .v (.int .i64 to)] (.agg (encPath (onP p to more))) := by
  refine (way_owns p more to hp hm).pure ?_ (by simp [go_sem])
  unfold onP
  ((try simp only [encProg, encStep, encAct, encAs, encPath, encPt, encOut, encState, encPos, encOs, encSs, encPs, encIs, encGame, List.map_cons, List.map_nil, List.nil_append, List.append_nil, List.cons_append]); (repeat (first | (with_reducible exact LeRow.nil) | (with_reducible exact LeRows.nil) | (with_reducible exact LeV.refl _) | (with_reducible exact LeRow.refl _ _ _ _) | (with_reducible exact LeRows.refl _) | (with_reducible refine LeRow.cons ?_ ?_) | (with_reducible refine LeRows.cons ?_ ?_) | (with_reducible refine LeV.agg ?_) | (with_reducible refine LeV.tup ?_) | (with_reducible refine LeV.fn ?_ ?_) | (with_reducible exact LeV.nil _) | (with_reducible refine leRows_append (LeRows.refl _) ?_) | ((refine leV_frz rfl (by simp) (by simp [frzO, frz1, upd, noH]) ?_); (first | (simp [go_sem]; done) | (simp [go_sem]; exact List.take_of_length_le (by simp)))) | ((refine LeV.frz rfl (by simp) (by simp [frzO, frz1, upd, noH]) ?_); (simp only [List.drop_zero, List.take_succ_cons, List.take_zero, List.map_cons, List.map_nil])) | ((refine LeV.frzP rfl (by simp) (by simp) (by simp [frzO, frz1, upd, noH]) ?_); (simp only [nth_zero, List.drop_zero])))))
theorem extend8_pure (b : BoardD) (hb : BoardOk b) (h9 : b.cells ≤ 9) (side : Int) (p : PathD) (hp : p.acts.length ≤ 1000000) (x : Int × Int) (hx : 1 ≤ x.1 ∧ x.1 ≤ 10) :
    Pure Try.prog 58 [.agg (encB b), .v (.int .i64 side), .agg (encPath p), .agg (encStep x)] (encPt (extP b side p x)) := by
  refine Pure.of (ACallP.of_awp (by kernel_rfl) Try.func58 rfl rfl (Nat.le_of_ble_eq_true rfl) (by kernel_rfl) ?_)
  have hT := R1To_pure b hb side x.2 p.to
  have hL := R1Line_pure b hb side x.2 p.to
  have hwg : ∀ to, Pure Try.prog 77 [.agg (encPath p), encAs [], .v (.int .i64 to)] (.agg (encPath (onP p to []))) := fun to => way_pure p [] to (by omega) (by simp)
  have hw1 : ∀ to a, Pure Try.prog 77 [.agg (encPath p), encAs [a], .v (.int .i64 to)] (.agg (encPath (onP p to [a]))) := fun to a => way_pure p [a] to (by omega) (by simp)
  have hbl : ∀ n, (∀ c' ∈ encB b, Bel n c') = True := fun n => by simp [go_sem]
  have hel : (encB b).length = 3 := rfl
  generalize encB b = eb at *
  obtain ⟨op, N⟩ := x
  simp only at hx hT hL
  unfold extP
  simp only
  by_cases h1 : op = 1
  · subst h1
    rw [if_pos (.inl rfl)]
    generalize toB b side N p.to = T at *
    by_cases ht : T < 0
    · rw [if_pos ht]
      (repeat (first | with_reducible (first | refine wL fun _ => ?_ | refine wD fun _ => ?_ | refine wE ?_ | refine adrZ.go ?_) | simp [go_sem, hel]))
      refine ACallP.plain hT (by simp [go_sem, hbl]) ?_
      (repeat (first | with_reducible (first | refine wL fun _ => ?_ | refine wD fun _ => ?_ | refine wE ?_ | refine adrZ.go ?_) | simp [go_sem, hel, ht]))
      ((try simp only [encProg, encStep, encAct, encAs, encPath, encPt, encOut, encState, encPos, encOs, encSs, encPs, encIs, encGame, List.map_cons, List.map_nil, List.nil_append, List.append_nil, List.cons_append]); (repeat (first | (with_reducible exact LeRow.nil) | (with_reducible exact LeRows.nil) | (with_reducible exact LeV.refl _) | (with_reducible exact LeRow.refl _ _ _ _) | (with_reducible exact LeRows.refl _) | (with_reducible refine LeRow.cons ?_ ?_) | (with_reducible refine LeRows.cons ?_ ?_) | (with_reducible refine LeV.agg ?_) | (with_reducible refine LeV.tup ?_) | (with_reducible refine LeV.fn ?_ ?_) | (with_reducible exact LeV.nil _) | (with_reducible refine leRows_append (LeRows.refl _) ?_) | ((refine leV_frz rfl (by simp) (by simp [frzO, frz1, upd, noH]) ?_); (first | (simp [go_sem]; done) | (simp [go_sem]; exact List.take_of_length_le (by simp)))) | ((refine LeV.frz rfl (by simp) (by simp [frzO, frz1, upd, noH]) ?_); (simp only [List.drop_zero, List.take_succ_cons, List.take_zero, List.map_cons, List.map_nil])) | ((refine LeV.frzP rfl (by simp) (by simp) (by simp [frzO, frz1, upd, noH]) ?_); (simp only [nth_zero, List.drop_zero])))))
    · rw [if_neg ht, if_pos rfl]
      (repeat (first | with_reducible (first | refine wL fun _ => ?_ | refine wD fun _ => ?_ | refine wE ?_ | refine adrZ.go ?_) | simp [go_sem, hel]))
      refine ACallP.plain hT (by simp [go_sem, hbl]) ?_
      (repeat (first | with_reducible (first | refine wL fun _ => ?_ | refine wD fun _ => ?_ | refine wE ?_ | refine adrZ.go ?_) | simp [go_sem, hel, ht]))
      refine ACallP.pureF [] (hwg T) (.cons (.refl _) (.cons (.nil _) (.refl _ _ _ _))) (by simp [go_sem]) ?_
      (repeat (first | with_reducible (first | refine wL fun _ => ?_ | refine wD fun _ => ?_ | refine wE ?_ | refine adrZ.go ?_) | simp [go_sem]))
      ((try simp only [encProg, encStep, encAct, encAs, encPath, encPt, encOut, encState, encPos, encOs, encSs, encPs, encIs, encGame, List.map_cons, List.map_nil, List.nil_append, List.append_nil, List.cons_append]); (repeat (first | (with_reducible exact LeRow.nil) | (with_reducible exact LeRows.nil) | (with_reducible exact LeV.refl _) | (with_reducible exact LeRow.refl _ _ _ _) | (with_reducible exact LeRows.refl _) | (with_reducible refine LeRow.cons ?_ ?_) | (with_reducible refine LeRows.cons ?_ ?_) | (with_reducible refine LeV.agg ?_) | (with_reducible refine LeV.tup ?_) | (with_reducible refine LeV.fn ?_ ?_) | (with_reducible exact LeV.nil _) | (with_reducible refine leRows_append (LeRows.refl _) ?_) | ((refine leV_frz rfl (by simp) (by simp [frzO, frz1, upd, noH]) ?_); (first | (simp [go_sem]; done) | (simp [go_sem]; exact List.take_of_length_le (by simp)))) | ((refine LeV.frz rfl (by simp) (by simp [frzO, frz1, upd, noH]) ?_); (simp only [List.drop_zero, List.take_succ_cons, List.take_zero, List.map_cons, List.map_nil])) | ((refine LeV.frzP rfl (by simp) (by simp) (by simp [frzO, frz1, upd, noH]) ?_); (simp only [nth_zero, List.drop_zero])))))
  by_cases h7 : op = 7
  · subst h7
    rw [if_pos (.inr rfl)]
    generalize toB b side N p.to = T at *
    by_cases ht : T < 0
    · rw [if_pos ht]
      (repeat (first | with_reducible (first | refine wL fun _ => ?_ | refine wD fun _ => ?_ | refine wE ?_ | refine adrZ.go ?_) | simp [go_sem, hel]))
      refine ACallP.plain hT (by simp [go_sem, hbl]) ?_
      (repeat (first | with_reducible (first | refine wL fun _ => ?_ | refine wD fun _ => ?_ | refine wE ?_ | refine adrZ.go ?_) | simp [go_sem, hel, ht]))
      ((try simp only [encProg, encStep, encAct, encAs, encPath, encPt, encOut, encState, encPos, encOs, encSs, encPs, encIs, encGame, List.map_cons, List.map_nil, List.nil_append, List.append_nil, List.cons_append]); (repeat (first | (with_reducible exact LeRow.nil) | (with_reducible exact LeRows.nil) | (with_reducible exact LeV.refl _) | (with_reducible exact LeRow.refl _ _ _ _) | (with_reducible exact LeRows.refl _) | (with_reducible refine LeRow.cons ?_ ?_) | (with_reducible refine LeRows.cons ?_ ?_) | (with_reducible refine LeV.agg ?_) | (with_reducible refine LeV.tup ?_) | (with_reducible refine LeV.fn ?_ ?_) | (with_reducible exact LeV.nil _) | (with_reducible refine leRows_append (LeRows.refl _) ?_) | ((refine leV_frz rfl (by simp) (by simp [frzO, frz1, upd, noH]) ?_); (first | (simp [go_sem]; done) | (simp [go_sem]; exact List.take_of_length_le (by simp)))) | ((refine LeV.frz rfl (by simp) (by simp [frzO, frz1, upd, noH]) ?_); (simp only [List.drop_zero, List.take_succ_cons, List.take_zero, List.map_cons, List.map_nil])) | ((refine LeV.frzP rfl (by simp) (by simp) (by simp [frzO, frz1, upd, noH]) ?_); (simp only [nth_zero, List.drop_zero])))))
    · rw [if_neg ht, if_neg (by omega)]
      (repeat (first | with_reducible (first | refine wL fun _ => ?_ | refine wD fun _ => ?_ | refine wE ?_ | refine adrZ.go ?_) | simp [go_sem, hel]))
      refine ACallP.plain hT (by simp [go_sem, hbl]) ?_
      (repeat (first | with_reducible (first | refine wL fun _ => ?_ | refine wD fun _ => ?_ | refine wE ?_ | refine adrZ.go ?_) | simp [go_sem, hel, ht]))
      refine ACallP.pureF [3] (hw1 p.to (7, p.to, T)) ?_ (by simp [go_sem]) ?_
      · ((try simp only [encProg, encStep, encAct, encAs, encPath, encPt, encOut, encState, encPos, encOs, encSs, encPs, encIs, encGame, List.map_cons, List.map_nil, List.nil_append, List.append_nil, List.cons_append]); (repeat (first | (with_reducible exact LeRow.nil) | (with_reducible exact LeRows.nil) | (with_reducible exact LeV.refl _) | (with_reducible exact LeRow.refl _ _ _ _) | (with_reducible exact LeRows.refl _) | (with_reducible refine LeRow.cons ?_ ?_) | (with_reducible refine LeRows.cons ?_ ?_) | (with_reducible refine LeV.agg ?_) | (with_reducible refine LeV.tup ?_) | (with_reducible refine LeV.fn ?_ ?_) | (with_reducible exact LeV.nil _) | (with_reducible refine leRows_append (LeRows.refl _) ?_) | ((refine leV_frz rfl (by simp) (by simp [frzO, frz1, upd, noH]) ?_); (first | (simp [go_sem]; done) | (simp [go_sem]; exact List.take_of_length_le (by simp)))) | ((refine LeV.frz rfl (by simp) (by simp [frzO, frz1, upd, noH]) ?_); (simp only [List.drop_zero, List.take_succ_cons, List.take_zero, List.map_cons, List.map_nil])) | ((refine LeV.frzP rfl (by simp) (by simp) (by simp [frzO, frz1, upd, noH]) ?_); (simp only [nth_zero, List.drop_zero])))))
      (repeat (first | with_reducible (first | refine wL fun _ => ?_ | refine wD fun _ => ?_ | refine wE ?_ | refine adrZ.go ?_) | simp [go_sem]))
      ((try simp only [encProg, encStep, encAct, encAs, encPath, encPt, encOut, encState, encPos, encOs, encSs, encPs, encIs, encGame, List.map_cons, List.map_nil, List.nil_append, List.append_nil, List.cons_append]); (repeat (first | (with_reducible exact LeRow.nil) | (with_reducible exact LeRows.nil) | (with_reducible exact LeV.refl _) | (with_reducible exact LeRow.refl _ _ _ _) | (with_reducible exact LeRows.refl _) | (with_reducible refine LeRow.cons ?_ ?_) | (with_reducible refine LeRows.cons ?_ ?_) | (with_reducible refine LeV.agg ?_) | (with_reducible refine LeV.tup ?_) | (with_reducible refine LeV.fn ?_ ?_) | (with_reducible exact LeV.nil _) | (with_reducible refine leRows_append (LeRows.refl _) ?_) | ((refine leV_frz rfl (by simp) (by simp [frzO, frz1, upd, noH]) ?_); (first | (simp [go_sem]; done) | (simp [go_sem]; exact List.take_of_length_le (by simp)))) | ((refine LeV.frz rfl (by simp) (by simp [frzO, frz1, upd, noH]) ?_); (simp only [List.drop_zero, List.take_succ_cons, List.take_zero, List.map_cons, List.map_nil])) | ((refine LeV.frzP rfl (by simp) (by simp) (by simp [frzO, frz1, upd, noH]) ?_); (simp only [nth_zero, List.drop_zero])))))
  rw [if_neg (by omega)]
  by_cases h2 : op = 2
  · subst h2
    rw [if_pos rfl]
    have hll : (lineB b side N p.to).length ≤ 9 := by have := lineB_le hb (side := side) (d := N) (c := p.to); omega
    generalize lineB b side N p.to = line at *
    (repeat (first | with_reducible (first | refine wL fun _ => ?_ | refine wD fun _ => ?_ | refine wE ?_ | refine adrZ.go ?_) | simp [go_sem, hel]))
    refine ACallP.plain hL (by simp [go_sem, hbl]) ?_
    (repeat (first | with_reducible (first | refine wL fun _ => ?_ | refine wD fun _ => ?_ | refine wE ?_ | refine adrZ.go ?_) | simp [go_sem, hel]))
    refine ALoop.start (ALoop.ind (α := Nat × List ActD × List PathD) (fun a => ⟨[(6, .ref 1 0 2 0 0), (10, .sl 3 a.1 2 0 a.2.2.length), (11, .sl 4 a.1 3 0 a.2.1.length), (12, encIs line), (13, .v (.int .i64 a.1))],
        [(1, .rows true 0 2 [encPath p]), (3, .rows true a.1 2 (a.2.2.map encPath)), (4, .rows true a.1 3 (a.2.1.map encAct))], 5⟩)
      (fun d a => a.1 + d = line.length ∧ a.2.1.length = a.1 ∧ a.2.2.length = a.1 ∧ a.2.2 ++ slideP p (line.drop a.1) a.2.1 = slideP p line []) ?_ line.length (0, [], []) ?_) ?_ ?_
    · rintro d ⟨i, passed, out⟩ ⟨i1, i2, i3, i4⟩ hrec
      simp only at i1 i2 i3 i4
      have hw := way_owns p passed (nth line i) (by omega) (by omega)
      (repeat (first | with_reducible (first | refine wL fun _ => ?_ | refine wD fun _ => ?_ | refine wE ?_ | refine adrZ.go ?_) | simp [go_sem]))
      refine aIf.mkL (fun hi => ?_) (fun hi => ?_) <;> simp at hi
      · rw [dropG_cons hi, slideP] at i4
        have hgo := hrec (d - 1) (by omega) (i + 1, passed ++ [(3, nth line i, 0)], out ++ [onP p (nth line i) passed]) ⟨by simp only; omega, by simp; omega, by simp; omega, by simp only; rw [← i4, List.append_assoc]; rfl⟩
        (repeat (first | with_reducible (first | refine wL fun _ => ?_ | refine wD fun _ => ?_ | refine wE ?_ | refine adrZ.go ?_) | simp [go_sem, hi]))
        try ((with_reducible refine adrZ.go ?_); (try simp [go_sem]))
        refine dCall.ownsR [4] 128 (by rfl) hw (by decide) (by simp [go_sem]) (by simp [go_sem]) ?_ (by simp [go_sem]) (by simp [go_sem]) ?_
        · intro h₁ hh
          exact LeRow.cons (.refl _) (LeRow.cons (leV_frz ((hh 4 (by simp)).symm.trans rfl) (by simp) (by simp [noH]) (by rw [List.drop_zero, List.take_of_length_le (by simp)])) (.refl _ _ _ _))
        ((repeat (first | with_reducible (first | refine wL fun _ => ?_ | refine wD fun _ => ?_ | refine adrZ.go ?_) | simp [go_sem, hi])); refine dEnd.mkN (by kernel_rfl) ?_)
        (repeat (first | with_reducible (first | refine wL fun _ => ?_ | refine wD fun _ => ?_ | refine wE ?_ | refine adrZ.go ?_) | simp [go_sem, hi]))
        refine ALoop.start hgo ?_ (by simp)
        simp [go_sem, Wk_eq]
        unfold onP
        ((refine leRows_append (.refl _) ?_); (repeat (first | (with_reducible exact LeRows.nil) | (with_reducible refine LeRows.cons ?_ ?_) | (with_reducible exact LeRow.nil) | (with_reducible refine LeRow.cons ?_ ?_) | (with_reducible exact LeV.refl _) | (refine leV_frz rfl (by simp) (by simp [noH, upd]) ?_; first | (simp [go_sem]; done) | (simp [go_sem]; exact List.take_of_length_le (by simp))))))
      · rw [List.drop_eq_nil_of_le hi, slideP, List.append_nil] at i4
        rw [← i4]
        (repeat (first | with_reducible (first | refine wL fun _ => ?_ | refine wD fun _ => ?_ | refine wE ?_ | refine adrZ.go ?_) | simp [go_sem]))
        ((try simp only [encProg, encStep, encAct, encAs, encPath, encPt, encOut, encState, encPos, encOs, encSs, encPs, encIs, encGame, List.map_cons, List.map_nil, List.nil_append, List.append_nil, List.cons_append]); (repeat (first | (with_reducible exact LeRow.nil) | (with_reducible exact LeRows.nil) | (with_reducible exact LeV.refl _) | (with_reducible exact LeRow.refl _ _ _ _) | (with_reducible exact LeRows.refl _) | (with_reducible refine LeRow.cons ?_ ?_) | (with_reducible refine LeRows.cons ?_ ?_) | (with_reducible refine LeV.agg ?_) | (with_reducible refine LeV.tup ?_) | (with_reducible refine LeV.fn ?_ ?_) | (with_reducible exact LeV.nil _) | (with_reducible refine leRows_append (LeRows.refl _) ?_) | ((refine leV_frz rfl (by simp) (by simp [frzO, frz1, upd, noH]) ?_); (first | (simp [go_sem]; done) | (simp [go_sem]; exact List.take_of_length_le (by simp)))) | ((refine LeV.frz rfl (by simp) (by simp [frzO, frz1, upd, noH]) ?_); (simp only [List.drop_zero, List.take_succ_cons, List.take_zero, List.map_cons, List.map_nil])) | ((refine LeV.frzP rfl (by simp) (by simp) (by simp [frzO, frz1, upd, noH]) ?_); (simp only [nth_zero, List.drop_zero])))))
    · exact ⟨by simp, rfl, rfl, rfl⟩
    · simp [go_sem, Wk_eq]
    · simp
  rw [if_neg h2]
  by_cases h8 : op = 8 ∨ op = 9 ∨ op = 10
  · rw [if_pos h8]
    rcases h8 with rfl | rfl | rfl
    · (repeat (first | with_reducible (first | refine wL fun _ => ?_ | refine wD fun _ => ?_ | refine wE ?_ | refine adrZ.go ?_) | simp [go_sem]))
      refine ACallP.pureF [3] (hw1 p.to (8, N, 0)) ?_ (by simp [go_sem]) ?_
      · ((try simp only [encProg, encStep, encAct, encAs, encPath, encPt, encOut, encState, encPos, encOs, encSs, encPs, encIs, encGame, List.map_cons, List.map_nil, List.nil_append, List.append_nil, List.cons_append]); (repeat (first | (with_reducible exact LeRow.nil) | (with_reducible exact LeRows.nil) | (with_reducible exact LeV.refl _) | (with_reducible exact LeRow.refl _ _ _ _) | (with_reducible exact LeRows.refl _) | (with_reducible refine LeRow.cons ?_ ?_) | (with_reducible refine LeRows.cons ?_ ?_) | (with_reducible refine LeV.agg ?_) | (with_reducible refine LeV.tup ?_) | (with_reducible refine LeV.fn ?_ ?_) | (with_reducible exact LeV.nil _) | (with_reducible refine leRows_append (LeRows.refl _) ?_) | ((refine leV_frz rfl (by simp) (by simp [frzO, frz1, upd, noH]) ?_); (first | (simp [go_sem]; done) | (simp [go_sem]; exact List.take_of_length_le (by simp)))) | ((refine LeV.frz rfl (by simp) (by simp [frzO, frz1, upd, noH]) ?_); (simp only [List.drop_zero, List.take_succ_cons, List.take_zero, List.map_cons, List.map_nil])) | ((refine LeV.frzP rfl (by simp) (by simp) (by simp [frzO, frz1, upd, noH]) ?_); (simp only [nth_zero, List.drop_zero])))))
      (repeat (first | with_reducible (first | refine wL fun _ => ?_ | refine wD fun _ => ?_ | refine wE ?_ | refine adrZ.go ?_) | simp [go_sem]))
      ((try simp only [encProg, encStep, encAct, encAs, encPath, encPt, encOut, encState, encPos, encOs, encSs, encPs, encIs, encGame, List.map_cons, List.map_nil, List.nil_append, List.append_nil, List.cons_append]); (repeat (first | (with_reducible exact LeRow.nil) | (with_reducible exact LeRows.nil) | (with_reducible exact LeV.refl _) | (with_reducible exact LeRow.refl _ _ _ _) | (with_reducible exact LeRows.refl _) | (with_reducible refine LeRow.cons ?_ ?_) | (with_reducible refine LeRows.cons ?_ ?_) | (with_reducible refine LeV.agg ?_) | (with_reducible refine LeV.tup ?_) | (with_reducible refine LeV.fn ?_ ?_) | (with_reducible exact LeV.nil _) | (with_reducible refine leRows_append (LeRows.refl _) ?_) | ((refine leV_frz rfl (by simp) (by simp [frzO, frz1, upd, noH]) ?_); (first | (simp [go_sem]; done) | (simp [go_sem]; exact List.take_of_length_le (by simp)))) | ((refine LeV.frz rfl (by simp) (by simp [frzO, frz1, upd, noH]) ?_); (simp only [List.drop_zero, List.take_succ_cons, List.take_zero, List.map_cons, List.map_nil])) | ((refine LeV.frzP rfl (by simp) (by simp) (by simp [frzO, frz1, upd, noH]) ?_); (simp only [nth_zero, List.drop_zero])))))
    · (repeat (first | with_reducible (first | refine wL fun _ => ?_ | refine wD fun _ => ?_ | refine wE ?_ | refine adrZ.go ?_) | simp [go_sem]))
      refine ACallP.pureF [3] (hw1 p.to (9, N, 0)) ?_ (by simp [go_sem]) ?_
      · ((try simp only [encProg, encStep, encAct, encAs, encPath, encPt, encOut, encState, encPos, encOs, encSs, encPs, encIs, encGame, List.map_cons, List.map_nil, List.nil_append, List.append_nil, List.cons_append]); (repeat (first | (with_reducible exact LeRow.nil) | (with_reducible exact LeRows.nil) | (with_reducible exact LeV.refl _) | (with_reducible exact LeRow.refl _ _ _ _) | (with_reducible exact LeRows.refl _) | (with_reducible refine LeRow.cons ?_ ?_) | (with_reducible refine LeRows.cons ?_ ?_) | (with_reducible refine LeV.agg ?_) | (with_reducible refine LeV.tup ?_) | (with_reducible refine LeV.fn ?_ ?_) | (with_reducible exact LeV.nil _) | (with_reducible refine leRows_append (LeRows.refl _) ?_) | ((refine leV_frz rfl (by simp) (by simp [frzO, frz1, upd, noH]) ?_); (first | (simp [go_sem]; done) | (simp [go_sem]; exact List.take_of_length_le (by simp)))) | ((refine LeV.frz rfl (by simp) (by simp [frzO, frz1, upd, noH]) ?_); (simp only [List.drop_zero, List.take_succ_cons, List.take_zero, List.map_cons, List.map_nil])) | ((refine LeV.frzP rfl (by simp) (by simp) (by simp [frzO, frz1, upd, noH]) ?_); (simp only [nth_zero, List.drop_zero])))))
      (repeat (first | with_reducible (first | refine wL fun _ => ?_ | refine wD fun _ => ?_ | refine wE ?_ | refine adrZ.go ?_) | simp [go_sem]))
      ((try simp only [encProg, encStep, encAct, encAs, encPath, encPt, encOut, encState, encPos, encOs, encSs, encPs, encIs, encGame, List.map_cons, List.map_nil, List.nil_append, List.append_nil, List.cons_append]); (repeat (first | (with_reducible exact LeRow.nil) | (with_reducible exact LeRows.nil) | (with_reducible exact LeV.refl _) | (with_reducible exact LeRow.refl _ _ _ _) | (with_reducible exact LeRows.refl _) | (with_reducible refine LeRow.cons ?_ ?_) | (with_reducible refine LeRows.cons ?_ ?_) | (with_reducible refine LeV.agg ?_) | (with_reducible refine LeV.tup ?_) | (with_reducible refine LeV.fn ?_ ?_) | (with_reducible exact LeV.nil _) | (with_reducible refine leRows_append (LeRows.refl _) ?_) | ((refine leV_frz rfl (by simp) (by simp [frzO, frz1, upd, noH]) ?_); (first | (simp [go_sem]; done) | (simp [go_sem]; exact List.take_of_length_le (by simp)))) | ((refine LeV.frz rfl (by simp) (by simp [frzO, frz1, upd, noH]) ?_); (simp only [List.drop_zero, List.take_succ_cons, List.take_zero, List.map_cons, List.map_nil])) | ((refine LeV.frzP rfl (by simp) (by simp) (by simp [frzO, frz1, upd, noH]) ?_); (simp only [nth_zero, List.drop_zero])))))
    · (repeat (first | with_reducible (first | refine wL fun _ => ?_ | refine wD fun _ => ?_ | refine wE ?_ | refine adrZ.go ?_) | simp [go_sem]))
      refine ACallP.pureF [3] (hw1 p.to (10, N, 0)) ?_ (by simp [go_sem]) ?_
      · ((try simp only [encProg, encStep, encAct, encAs, encPath, encPt, encOut, encState, encPos, encOs, encSs, encPs, encIs, encGame, List.map_cons, List.map_nil, List.nil_append, List.append_nil, List.cons_append]); (repeat (first | (with_reducible exact LeRow.nil) | (with_reducible exact LeRows.nil) | (with_reducible exact LeV.refl _) | (with_reducible exact LeRow.refl _ _ _ _) | (with_reducible exact LeRows.refl _) | (with_reducible refine LeRow.cons ?_ ?_) | (with_reducible refine LeRows.cons ?_ ?_) | (with_reducible refine LeV.agg ?_) | (with_reducible refine LeV.tup ?_) | (with_reducible refine LeV.fn ?_ ?_) | (with_reducible exact LeV.nil _) | (with_reducible refine leRows_append (LeRows.refl _) ?_) | ((refine leV_frz rfl (by simp) (by simp [frzO, frz1, upd, noH]) ?_); (first | (simp [go_sem]; done) | (simp [go_sem]; exact List.take_of_length_le (by simp)))) | ((refine LeV.frz rfl (by simp) (by simp [frzO, frz1, upd, noH]) ?_); (simp only [List.drop_zero, List.take_succ_cons, List.take_zero, List.map_cons, List.map_nil])) | ((refine LeV.frzP rfl (by simp) (by simp) (by simp [frzO, frz1, upd, noH]) ?_); (simp only [nth_zero, List.drop_zero])))))
      (repeat (first | with_reducible (first | refine wL fun _ => ?_ | refine wD fun _ => ?_ | refine wE ?_ | refine adrZ.go ?_) | simp [go_sem]))
      ((try simp only [encProg, encStep, encAct, encAs, encPath, encPt, encOut, encState, encPos, encOs, encSs, encPs, encIs, encGame, List.map_cons, List.map_nil, List.nil_append, List.append_nil, List.cons_append]); (repeat (first | (with_reducible exact LeRow.nil) | (with_reducible exact LeRows.nil) | (with_reducible exact LeV.refl _) | (with_reducible exact LeRow.refl _ _ _ _) | (with_reducible exact LeRows.refl _) | (with_reducible refine LeRow.cons ?_ ?_) | (with_reducible refine LeRows.cons ?_ ?_) | (with_reducible refine LeV.agg ?_) | (with_reducible refine LeV.tup ?_) | (with_reducible refine LeV.fn ?_ ?_) | (with_reducible exact LeV.nil _) | (with_reducible refine leRows_append (LeRows.refl _) ?_) | ((refine leV_frz rfl (by simp) (by simp [frzO, frz1, upd, noH]) ?_); (first | (simp [go_sem]; done) | (simp [go_sem]; exact List.take_of_length_le (by simp)))) | ((refine LeV.frz rfl (by simp) (by simp [frzO, frz1, upd, noH]) ?_); (simp only [List.drop_zero, List.take_succ_cons, List.take_zero, List.map_cons, List.map_nil])) | ((refine LeV.frzP rfl (by simp) (by simp) (by simp [frzO, frz1, upd, noH]) ?_); (simp only [nth_zero, List.drop_zero])))))
  · rw [if_neg h8]
    rcases (show op = 3 ∨ op = 4 ∨ op = 5 ∨ op = 6 by omega) with rfl | rfl | rfl | rfl
    · (repeat (first | with_reducible (first | refine wL fun _ => ?_ | refine wD fun _ => ?_ | refine wE ?_ | refine adrZ.go ?_) | simp [go_sem]))
      refine ACallP.pureF [3] (hw1 p.to (3, p.to, 0)) ?_ (by simp [go_sem]) ?_
      · ((try simp only [encProg, encStep, encAct, encAs, encPath, encPt, encOut, encState, encPos, encOs, encSs, encPs, encIs, encGame, List.map_cons, List.map_nil, List.nil_append, List.append_nil, List.cons_append]); (repeat (first | (with_reducible exact LeRow.nil) | (with_reducible exact LeRows.nil) | (with_reducible exact LeV.refl _) | (with_reducible exact LeRow.refl _ _ _ _) | (with_reducible exact LeRows.refl _) | (with_reducible refine LeRow.cons ?_ ?_) | (with_reducible refine LeRows.cons ?_ ?_) | (with_reducible refine LeV.agg ?_) | (with_reducible refine LeV.tup ?_) | (with_reducible refine LeV.fn ?_ ?_) | (with_reducible exact LeV.nil _) | (with_reducible refine leRows_append (LeRows.refl _) ?_) | ((refine leV_frz rfl (by simp) (by simp [frzO, frz1, upd, noH]) ?_); (first | (simp [go_sem]; done) | (simp [go_sem]; exact List.take_of_length_le (by simp)))) | ((refine LeV.frz rfl (by simp) (by simp [frzO, frz1, upd, noH]) ?_); (simp only [List.drop_zero, List.take_succ_cons, List.take_zero, List.map_cons, List.map_nil])) | ((refine LeV.frzP rfl (by simp) (by simp) (by simp [frzO, frz1, upd, noH]) ?_); (simp only [nth_zero, List.drop_zero])))))
      (repeat (first | with_reducible (first | refine wL fun _ => ?_ | refine wD fun _ => ?_ | refine wE ?_ | refine adrZ.go ?_) | simp [go_sem]))
      ((try simp only [encProg, encStep, encAct, encAs, encPath, encPt, encOut, encState, encPos, encOs, encSs, encPs, encIs, encGame, List.map_cons, List.map_nil, List.nil_append, List.append_nil, List.cons_append]); (repeat (first | (with_reducible exact LeRow.nil) | (with_reducible exact LeRows.nil) | (with_reducible exact LeV.refl _) | (with_reducible exact LeRow.refl _ _ _ _) | (with_reducible exact LeRows.refl _) | (with_reducible refine LeRow.cons ?_ ?_) | (with_reducible refine LeRows.cons ?_ ?_) | (with_reducible refine LeV.agg ?_) | (with_reducible refine LeV.tup ?_) | (with_reducible refine LeV.fn ?_ ?_) | (with_reducible exact LeV.nil _) | (with_reducible refine leRows_append (LeRows.refl _) ?_) | ((refine leV_frz rfl (by simp) (by simp [frzO, frz1, upd, noH]) ?_); (first | (simp [go_sem]; done) | (simp [go_sem]; exact List.take_of_length_le (by simp)))) | ((refine LeV.frz rfl (by simp) (by simp [frzO, frz1, upd, noH]) ?_); (simp only [List.drop_zero, List.take_succ_cons, List.take_zero, List.map_cons, List.map_nil])) | ((refine LeV.frzP rfl (by simp) (by simp) (by simp [frzO, frz1, upd, noH]) ?_); (simp only [nth_zero, List.drop_zero])))))
    · (repeat (first | with_reducible (first | refine wL fun _ => ?_ | refine wD fun _ => ?_ | refine wE ?_ | refine adrZ.go ?_) | simp [go_sem]))
      refine ACallP.pureF [3] (hw1 p.to (4, p.to, 0)) ?_ (by simp [go_sem]) ?_
      · ((try simp only [encProg, encStep, encAct, encAs, encPath, encPt, encOut, encState, encPos, encOs, encSs, encPs, encIs, encGame, List.map_cons, List.map_nil, List.nil_append, List.append_nil, List.cons_append]); (repeat (first | (with_reducible exact LeRow.nil) | (with_reducible exact LeRows.nil) | (with_reducible exact LeV.refl _) | (with_reducible exact LeRow.refl _ _ _ _) | (with_reducible exact LeRows.refl _) | (with_reducible refine LeRow.cons ?_ ?_) | (with_reducible refine LeRows.cons ?_ ?_) | (with_reducible refine LeV.agg ?_) | (with_reducible refine LeV.tup ?_) | (with_reducible refine LeV.fn ?_ ?_) | (with_reducible exact LeV.nil _) | (with_reducible refine leRows_append (LeRows.refl _) ?_) | ((refine leV_frz rfl (by simp) (by simp [frzO, frz1, upd, noH]) ?_); (first | (simp [go_sem]; done) | (simp [go_sem]; exact List.take_of_length_le (by simp)))) | ((refine LeV.frz rfl (by simp) (by simp [frzO, frz1, upd, noH]) ?_); (simp only [List.drop_zero, List.take_succ_cons, List.take_zero, List.map_cons, List.map_nil])) | ((refine LeV.frzP rfl (by simp) (by simp) (by simp [frzO, frz1, upd, noH]) ?_); (simp only [nth_zero, List.drop_zero])))))
      (repeat (first | with_reducible (first | refine wL fun _ => ?_ | refine wD fun _ => ?_ | refine wE ?_ | refine adrZ.go ?_) | simp [go_sem]))
      ((try simp only [encProg, encStep, encAct, encAs, encPath, encPt, encOut, encState, encPos, encOs, encSs, encPs, encIs, encGame, List.map_cons, List.map_nil, List.nil_append, List.append_nil, List.cons_append]); (repeat (first | (with_reducible exact LeRow.nil) | (with_reducible exact LeRows.nil) | (with_reducible exact LeV.refl _) | (with_reducible exact LeRow.refl _ _ _ _) | (with_reducible exact LeRows.refl _) | (with_reducible refine LeRow.cons ?_ ?_) | (with_reducible refine LeRows.cons ?_ ?_) | (with_reducible refine LeV.agg ?_) | (with_reducible refine LeV.tup ?_) | (with_reducible refine LeV.fn ?_ ?_) | (with_reducible exact LeV.nil _) | (with_reducible refine leRows_append (LeRows.refl _) ?_) | ((refine leV_frz rfl (by simp) (by simp [frzO, frz1, upd, noH]) ?_); (first | (simp [go_sem]; done) | (simp [go_sem]; exact List.take_of_length_le (by simp)))) | ((refine LeV.frz rfl (by simp) (by simp [frzO, frz1, upd, noH]) ?_); (simp only [List.drop_zero, List.take_succ_cons, List.take_zero, List.map_cons, List.map_nil])) | ((refine LeV.frzP rfl (by simp) (by simp) (by simp [frzO, frz1, upd, noH]) ?_); (simp only [nth_zero, List.drop_zero])))))
    · (repeat (first | with_reducible (first | refine wL fun _ => ?_ | refine wD fun _ => ?_ | refine wE ?_ | refine adrZ.go ?_) | simp [go_sem]))
      refine ACallP.pureF [3] (hw1 p.to (5, p.to, 0)) ?_ (by simp [go_sem]) ?_
      · ((try simp only [encProg, encStep, encAct, encAs, encPath, encPt, encOut, encState, encPos, encOs, encSs, encPs, encIs, encGame, List.map_cons, List.map_nil, List.nil_append, List.append_nil, List.cons_append]); (repeat (first | (with_reducible exact LeRow.nil) | (with_reducible exact LeRows.nil) | (with_reducible exact LeV.refl _) | (with_reducible exact LeRow.refl _ _ _ _) | (with_reducible exact LeRows.refl _) | (with_reducible refine LeRow.cons ?_ ?_) | (with_reducible refine LeRows.cons ?_ ?_) | (with_reducible refine LeV.agg ?_) | (with_reducible refine LeV.tup ?_) | (with_reducible refine LeV.fn ?_ ?_) | (with_reducible exact LeV.nil _) | (with_reducible refine leRows_append (LeRows.refl _) ?_) | ((refine leV_frz rfl (by simp) (by simp [frzO, frz1, upd, noH]) ?_); (first | (simp [go_sem]; done) | (simp [go_sem]; exact List.take_of_length_le (by simp)))) | ((refine LeV.frz rfl (by simp) (by simp [frzO, frz1, upd, noH]) ?_); (simp only [List.drop_zero, List.take_succ_cons, List.take_zero, List.map_cons, List.map_nil])) | ((refine LeV.frzP rfl (by simp) (by simp) (by simp [frzO, frz1, upd, noH]) ?_); (simp only [nth_zero, List.drop_zero])))))
      (repeat (first | with_reducible (first | refine wL fun _ => ?_ | refine wD fun _ => ?_ | refine wE ?_ | refine adrZ.go ?_) | simp [go_sem]))
      ((try simp only [encProg, encStep, encAct, encAs, encPath, encPt, encOut, encState, encPos, encOs, encSs, encPs, encIs, encGame, List.map_cons, List.map_nil, List.nil_append, List.append_nil, List.cons_append]); (repeat (first | (with_reducible exact LeRow.nil) | (with_reducible exact LeRows.nil) | (with_reducible exact LeV.refl _) | (with_reducible exact LeRow.refl _ _ _ _) | (with_reducible exact LeRows.refl _) | (with_reducible refine LeRow.cons ?_ ?_) | (with_reducible refine LeRows.cons ?_ ?_) | (with_reducible refine LeV.agg ?_) | (with_reducible refine LeV.tup ?_) | (with_reducible refine LeV.fn ?_ ?_) | (with_reducible exact LeV.nil _) | (with_reducible refine leRows_append (LeRows.refl _) ?_) | ((refine leV_frz rfl (by simp) (by simp [frzO, frz1, upd, noH]) ?_); (first | (simp [go_sem]; done) | (simp [go_sem]; exact List.take_of_length_le (by simp)))) | ((refine LeV.frz rfl (by simp) (by simp [frzO, frz1, upd, noH]) ?_); (simp only [List.drop_zero, List.take_succ_cons, List.take_zero, List.map_cons, List.map_nil])) | ((refine LeV.frzP rfl (by simp) (by simp) (by simp [frzO, frz1, upd, noH]) ?_); (simp only [nth_zero, List.drop_zero])))))
    · (repeat (first | with_reducible (first | refine wL fun _ => ?_ | refine wD fun _ => ?_ | refine wE ?_ | refine adrZ.go ?_) | simp [go_sem]))
      refine ACallP.pureF [3] (hw1 p.to (6, p.to, 0)) ?_ (by simp [go_sem]) ?_
      · ((try simp only [encProg, encStep, encAct, encAs, encPath, encPt, encOut, encState, encPos, encOs, encSs, encPs, encIs, encGame, List.map_cons, List.map_nil, List.nil_append, List.append_nil, List.cons_append]); (repeat (first | (with_reducible exact LeRow.nil) | (with_reducible exact LeRows.nil) | (with_reducible exact LeV.refl _) | (with_reducible exact LeRow.refl _ _ _ _) | (with_reducible exact LeRows.refl _) | (with_reducible refine LeRow.cons ?_ ?_) | (with_reducible refine LeRows.cons ?_ ?_) | (with_reducible refine LeV.agg ?_) | (with_reducible refine LeV.tup ?_) | (with_reducible refine LeV.fn ?_ ?_) | (with_reducible exact LeV.nil _) | (with_reducible refine leRows_append (LeRows.refl _) ?_) | ((refine leV_frz rfl (by simp) (by simp [frzO, frz1, upd, noH]) ?_); (first | (simp [go_sem]; done) | (simp [go_sem]; exact List.take_of_length_le (by simp)))) | ((refine LeV.frz rfl (by simp) (by simp [frzO, frz1, upd, noH]) ?_); (simp only [List.drop_zero, List.take_succ_cons, List.take_zero, List.map_cons, List.map_nil])) | ((refine LeV.frzP rfl (by simp) (by simp) (by simp [frzO, frz1, upd, noH]) ?_); (simp only [nth_zero, List.drop_zero])))))
      (repeat (first | with_reducible (first | refine wL fun _ => ?_ | refine wD fun _ => ?_ | refine wE ?_ | refine adrZ.go ?_) | simp [go_sem]))
      ((try simp only [encProg, encStep, encAct, encAs, encPath, encPt, encOut, encState, encPos, encOs, encSs, encPs, encIs, encGame, List.map_cons, List.map_nil, List.nil_append, List.append_nil, List.cons_append]); (repeat (first | (with_reducible exact LeRow.nil) | (with_reducible exact LeRows.nil) | (with_reducible exact LeV.refl _) | (with_reducible exact LeRow.refl _ _ _ _) | (with_reducible exact LeRows.refl _) | (with_reducible refine LeRow.cons ?_ ?_) | (with_reducible refine LeRows.cons ?_ ?_) | (with_reducible refine LeV.agg ?_) | (with_reducible refine LeV.tup ?_) | (with_reducible refine LeV.fn ?_ ?_) | (with_reducible exact LeV.nil _) | (with_reducible refine leRows_append (LeRows.refl _) ?_) | ((refine leV_frz rfl (by simp) (by simp [frzO, frz1, upd, noH]) ?_); (first | (simp [go_sem]; done) | (simp [go_sem]; exact List.take_of_length_le (by simp)))) | ((refine LeV.frz rfl (by simp) (by simp [frzO, frz1, upd, noH]) ?_); (simp only [List.drop_zero, List.take_succ_cons, List.take_zero, List.map_cons, List.map_nil])) | ((refine LeV.frzP rfl (by simp) (by simp) (by simp [frzO, frz1, upd, noH]) ?_); (simp only [nth_zero, List.drop_zero])))))
theorem Paths8_pure (b : BoardD) (hb : BoardOk b) (h1 : 1 ≤ b.cells) (h9 : b.cells ≤ 9) (side : Int) (prog : List (Int × Int)) (hp : prog.length ≤ 8) (hpo : ∀ x ∈ prog, 1 ≤ x.1 ∧ x.1 ≤ 10) (cell : Int) :
    Pure Try.prog 37 [.agg (encB b), .v (.int .i64 side), encProg prog, .v (.int .i64 cell)] (encPt (pathsP b side prog cell)) := by
  refine Pure.of (ACallP.of_awp (by kernel_rfl) Try.func37 rfl rfl (Nat.le_of_ble_eq_true rfl) (by kernel_rfl) ?_)
  have hR : pathsP b side prog cell = pathsK b side prog cell prog.length := by unfold pathsK; rw [List.take_length]
  have hl := pathsK_len hb h1 h9 side prog hp cell
  have ha := pathsK_acts hb h9 side prog cell
  have hs := fun (i : Nat) (h : i < prog.length) => pathsK_succ b side prog cell h
  have h0 : pathsK b side prog cell 0 = [⟨[], cell⟩] := rfl
  have hE : ∀ p x, p.acts.length ≤ 1000000 → (1 ≤ x.1 ∧ x.1 ≤ 10) → Pure Try.prog 58 [.agg (encB b), .v (.int .i64 side), .agg (encPath p), .agg (encStep x)] (encPt (extP b side p x)) := fun p x hp hx => extend8_pure b hb h9 side p hp x hx
  have hbl : ∀ n, (∀ c' ∈ encB b, Bel n c') = True := fun n => by simp [go_sem]
  have hel : (encB b).length = 3 := rfl
  rw [hR]
  generalize encB b = eb at *
  generalize pathsK b side prog cell = K at *
  generalize extP b side = X at *
  clear hR
  (repeat (first | with_reducible (first | refine wL fun _ => ?_ | refine wD fun _ => ?_ | refine wE ?_ | refine adrZ.go ?_) | simp [go_sem, hel]))
  refine ALoop.start (ALoop.ind (α := Nat) (fun i => ⟨[(1, .v (.int .i64 side)), (2, encProg prog), (4, .ref 0 0 3 0 0), (9, encPt (K i)), (10, .v (.int .i64 i))], [(0, .rows true 0 3 [eb])], 1⟩)
    (fun d i => i + d = prog.length) ?_ prog.length 0 ?_) ?_ ?_
  · rintro d i i1 hrec
    have hli := hl i
    (repeat (first | with_reducible (first | refine wL fun _ => ?_ | refine wD fun _ => ?_ | refine wE ?_ | refine adrZ.go ?_) | simp [go_sem]))
    refine aIf.mkL (fun hi => ?_) (fun hi => ?_) <;> simp at hi
    · have hai := ha i (by omega)
      have hsi := hs i hi
      have hx := hpo _ (nth_mem hi)
      have hl1 := hl (i + 1)
      have hgo := hrec (d - 1) (by omega) (i + 1) (by omega)
      rw [hsi] at hgo hl1
      generalize K i = now at *
      obtain ⟨R, hR⟩ : ∃ R, R = now.flatMap fun w => X w (nth prog i) := ⟨_, rfl⟩
      rw [← hR] at hgo hl1
      (repeat (first | with_reducible (first | refine wL fun _ => ?_ | refine wD fun _ => ?_ | refine wE ?_ | refine adrZ.go ?_) | simp [go_sem]))
      refine ALoop.start (ALoop.ind (α := Nat × List PathD) (fun a => ⟨[(1, .v (.int .i64 side)), (2, encProg prog), (4, .ref 0 0 3 0 0), (9, encPt now), (10, .v (.int .i64 i)), (11, .sl 1 a.1 2 0 a.2.length), (12, .v (.int .i64 a.1))],
          [(0, .rows true 0 3 [eb]), (1, .rows true a.1 2 (a.2.map encPath))], 2⟩)
        (fun d a => a.1 + d = now.length ∧ a.2 ++ ((now.drop a.1).flatMap fun w => X w (nth prog i)) = R) ?_ now.length (0, []) ?_) ?_ ?_
      · rintro d2 ⟨j, l⟩ ⟨j1, j2⟩ hrec2
        simp only at j1 j2
        (repeat (first | with_reducible (first | refine wL fun _ => ?_ | refine wD fun _ => ?_ | refine wE ?_ | refine adrZ.go ?_) | simp [go_sem]))
        refine aIf.mkL (fun hj => ?_) (fun hj => ?_) <;> simp at hj
        · have haj := hai _ (nth_mem hj)
          have hlR : l.length + (X (nth now j) (nth prog i)).length ≤ 43046721 := by
            rw [dropG_cons hj] at j2
            rw [← j2] at hl1
            simp only [List.flatMap_cons, List.length_append] at hl1
            omega
          rw [dropG_cons hj, List.flatMap_cons, ← List.append_assoc] at j2
          have hgo2 := hrec2 (d2 - 1) (by omega) (j + 1, l ++ X (nth now j) (nth prog i)) ⟨by simp only; omega, j2⟩
          have hEj := hE (nth now j) (nth prog i) (by omega) hx
          simp only [List.length_append] at hgo2
          (repeat (first | with_reducible (first | refine wL fun _ => ?_ | refine wD fun _ => ?_ | refine wE ?_ | refine adrZ.go ?_) | simp [go_sem, hel, hi, hj]))
          try ((with_reducible refine adrZ.go ?_); (try simp [go_sem]))
          refine dCall.plain hEj (by simp [go_sem, hbl]) ?_
          (repeat (first | with_reducible (first | refine wL fun _ => ?_ | refine wD fun _ => ?_ | refine wE ?_ | refine adrZ.go ?_) | simp [go_sem]))
          refine ALoop.start hgo2 ?_ (by simp)
          simp [go_sem, Wk_eq, hbl]
        · rw [List.drop_eq_nil_of_le hj, List.flatMap_nil, List.append_nil] at j2
          subst j2
          (repeat (first | with_reducible (first | refine wL fun _ => ?_ | refine wD fun _ => ?_ | refine wE ?_ | refine adrZ.go ?_) | simp [go_sem]))
          refine ALoop.start hgo ?_ (by simp)
          simp [go_sem, Wk_eq]
          refine ⟨?_, of_eq_true (hbl 1)⟩
          ((try simp only [encProg, encStep, encAct, encAs, encPath, encPt, encOut, encState, encPos, encOs, encSs, encPs, encIs, encGame, List.map_cons, List.map_nil, List.nil_append, List.append_nil, List.cons_append]); (repeat (first | (with_reducible exact LeRow.nil) | (with_reducible exact LeRows.nil) | (with_reducible exact LeV.refl _) | (with_reducible exact LeRow.refl _ _ _ _) | (with_reducible exact LeRows.refl _) | (with_reducible refine LeRow.cons ?_ ?_) | (with_reducible refine LeRows.cons ?_ ?_) | (with_reducible refine LeV.agg ?_) | (with_reducible refine LeV.tup ?_) | (with_reducible refine LeV.fn ?_ ?_) | (with_reducible exact LeV.nil _) | (with_reducible refine leRows_append (LeRows.refl _) ?_) | ((refine leV_frz rfl (by simp) (by simp [frzO, frz1, upd, noH]) ?_); (first | (simp [go_sem]; done) | (simp [go_sem]; exact List.take_of_length_le (by simp)))) | ((refine LeV.frz rfl (by simp) (by simp [frzO, frz1, upd, noH]) ?_); (simp only [List.drop_zero, List.take_succ_cons, List.take_zero, List.map_cons, List.map_nil])) | ((refine LeV.frzP rfl (by simp) (by simp) (by simp [frzO, frz1, upd, noH]) ?_); (simp only [nth_zero, List.drop_zero])))))
      · exact ⟨by simp, by rw [hR]; rfl⟩
      · simp [go_sem, Wk_eq, hbl]
      · simp
    · have hil : i = prog.length := by omega
      subst hil
      (repeat (first | with_reducible (first | refine wL fun _ => ?_ | refine wD fun _ => ?_ | refine wE ?_ | refine adrZ.go ?_) | simp [go_sem]))
  · simp
  · simp [go_sem, Wk_eq, hbl, h0]
    ((try simp only [encProg, encStep, encAct, encAs, encPath, encPt, encOut, encState, encPos, encOs, encSs, encPs, encIs, encGame, List.map_cons, List.map_nil, List.nil_append, List.append_nil, List.cons_append]); (repeat (first | (with_reducible exact LeRow.nil) | (with_reducible exact LeRows.nil) | (with_reducible exact LeV.refl _) | (with_reducible exact LeRow.refl _ _ _ _) | (with_reducible exact LeRows.refl _) | (with_reducible refine LeRow.cons ?_ ?_) | (with_reducible refine LeRows.cons ?_ ?_) | (with_reducible refine LeV.agg ?_) | (with_reducible refine LeV.tup ?_) | (with_reducible refine LeV.fn ?_ ?_) | (with_reducible exact LeV.nil _) | (with_reducible refine leRows_append (LeRows.refl _) ?_) | ((refine leV_frz rfl (by simp) (by simp [frzO, frz1, upd, noH]) ?_); (first | (simp [go_sem]; done) | (simp [go_sem]; exact List.take_of_length_le (by simp)))) | ((refine LeV.frz rfl (by simp) (by simp [frzO, frz1, upd, noH]) ?_); (simp only [List.drop_zero, List.take_succ_cons, List.take_zero, List.map_cons, List.map_nil])) | ((refine LeV.frzP rfl (by simp) (by simp) (by simp [frzO, frz1, upd, noH]) ?_); (simp only [nth_zero, List.drop_zero])))))
  · simp
end Go.Av
end
section
set_option linter.unusedSimpArgs false
set_option linter.unusedVariables false
open Go Go.Proofs
set_option maxRecDepth 20000
set_option maxHeartbeats 4000000
namespace Go.Av
theorem bel_Steps {n : Nat} {l : List (Int × Int)} : (∀ r ∈ l.map encStep, ∀ c ∈ r, Bel n c) = True := by
  refine eq_true ?_
  intro r hr c hc
  obtain ⟨x, _, rfl⟩ := List.mem_map.1 hr
  revert c
  simp [go_sem]
attribute [go_sem ↓] bel_Steps
def turnL (t : List Int) (p : List (Int × Int)) (i : Nat) : List (Int × Int) := (p.take i).map (turnS t) ++ p.drop i
theorem turnL_zero (t : List Int) (p : List (Int × Int)) : turnL t p 0 = p := by simp [turnL]
theorem turnL_all (t : List Int) (p : List (Int × Int)) : turnL t p p.length = turnP t p := by simp [turnL, turnP]
theorem turnL_len (t : List Int) (p : List (Int × Int)) (i : Nat) : (turnL t p i).length = p.length := by simp [turnL]; omega
theorem turnL_nth (t : List Int) (p : List (Int × Int)) {i : Nat} (h : i < p.length) : nth (turnL t p i) i = nth p i := by
  rw [nth_eq _ _ (by rw [turnL_len]; exact h), nth_eq _ _ h]
  unfold turnL
  rw [List.getElem_append_right (by simp; omega)]
  simp [Nat.min_eq_left (Nat.le_of_lt h)]
theorem turnL_succ (t : List Int) (p : List (Int × Int)) {i : Nat} (h : i < p.length) : turnL t p (i + 1) = (turnL t p i).set i (turnS t (nth p i)) := by
  unfold turnL
  rw [List.take_add_one, List.getElem?_eq_getElem h, nth_eq _ _ h, Option.toList_some, List.map_append, List.set_append_right _ _ (by simp; omega)]
  have e : List.drop i p = p[i] :: List.drop (i + 1) p := List.drop_eq_getElem_cons h
  simp only [List.length_map, List.length_take, Nat.min_eq_left (Nat.le_of_lt h), Nat.sub_self, List.map_cons, List.map_nil]
  rw [e, List.set_cons_zero]
  simp
theorem turnL_same (t : List Int) (p : List (Int × Int)) {i : Nat} (h : i < p.length) (hs : turnS t (nth p i) = nth p i) : turnL t p (i + 1) = turnL t p i := by
  rw [turnL_succ t p h, hs]
  have h2 : i < (turnL t p i).length := by rw [turnL_len]; exact h
  have h3 := turnL_nth t p h
  rw [nth_eq _ _ h2] at h3
  rw [← h3, List.set_getElem_self]
/-! ### gen.Count -/
theorem cntCells_drop (l : List (List PathD)) {i : Nat} (h : i < l.length) : cntCells (l.drop i) = (nth l i).length + cntCells (l.drop (i + 1)) := by
  unfold cntCells
  rw [dropG_cons h, List.map_cons, List.sum_cons]
theorem cntSide_drop (l : List (List (List PathD))) {i : Nat} (h : i < l.length) : cntSide (l.drop i) = cntCells (nth l i) + cntSide (l.drop (i + 1)) := by
  unfold cntSide
  rw [dropG_cons h, List.map_cons, List.sum_cons]
/-! ### shapes, equality -/
structure ShapeOk (g : GameD) (c : CodeD) : Prop where
  l1 : c.1.length = g.kinds.length
  l2 : c.2.length = g.kinds.length
  c1 : ∀ x ∈ c.1, (x.length : Int) = g.cells
  c2 : ∀ x ∈ c.2, (x.length : Int) = g.cells
theorem ShapeOk.side {g : GameD} {c : CodeD} (h : ShapeOk g c) {s : Nat} (hs : s < 2) : ∃ l, cel [encSide c.1, encSide c.2] s = encSide l ∧ l.length = g.kinds.length ∧ ∀ x ∈ l, (x.length : Int) = g.cells := by
  rcases (show s = 0 ∨ s = 1 by omega) with rfl | rfl
  · exact ⟨_, rfl, h.l1, h.c1⟩
  · exact ⟨_, rfl, h.l2, h.c2⟩
theorem shape_codeP {g : GameD} (hg : GOk g) : ShapeOk g (codeP g) := by
  have h : ∀ s, ∀ x ∈ sideP g s, (x.length : Int) = g.cells := by
    intro s x hx
    obtain ⟨k, _, rfl⟩ := List.mem_map.1 hx
    have : g.board.cells = g.cells := rfl
    have := hg.c1
    simp [cellsP]
    omega
  exact ⟨by simp [codeP, sideP], by simp [codeP, sideP], h 0, h 1⟩
end Go.Av
end
