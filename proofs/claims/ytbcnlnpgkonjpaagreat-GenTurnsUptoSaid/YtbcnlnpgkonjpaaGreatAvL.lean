/- Contracts, runs: Run of the reference. -/
import Derived.Test.YtbcnlnpgkonjpaaGreatMB
import Derived.Shelf.SlSortCmp.NoneTotal
section
set_option linter.unusedSimpArgs false
set_option linter.unusedVariables false
open Go Go.Proofs
set_option maxRecDepth 20000
set_option maxHeartbeats 4000000
namespace Go.Av
theorem R5Run_pure (g : GameD) (hg : GOk g) (p : PosD) (hp : POk g p) (cell i : Int) (hc : ChoiceOk g p cell i) :
    Pure Tryz.prog 53 [.agg (encGame g), .agg (encPos p), .v (.int .i64 cell), .v (.int .i64 i)]
      (.agg [.lst 1 (stR g p cell (progOf g p cell i) ((progOf g p cell i).length + 1)), .v (.int .i64 0)]) := by
  refine Pure.of (ACallP.of_awp (by kernel_rfl) Tryz.func53 rfl rfl (Nat.le_of_ble_eq_true rfl) (by kernel_rfl) ?_)
  have hal := hp.al
  obtain ⟨c0, c1, cm, cs, i0, i1⟩ := hc
  have hcur : cell.toNat < p.at_.length := by omega
  have hat := hp.at (i := cell.toNat) (by omega)
  have hO := R3Of_pure (nth p.at_ cell.toNat)
  have hman := manOf_cases hat.1 hat.2 hg.k6
  have hcp := copied_owns p (hp.fits hg)
  have hV := RValid_pure g (by have := hg.k6; unfold FitsG; omega) ⟨hg.r0, by have := hg.r4; omega⟩ p (hp.fits hg)
  rw [pOk_iff.2 hp] at hV
  have hkl : (manOf (nth p.at_ cell.toNat)).1.toNat < g.kinds.length := by
    rcases hman with ⟨_, e⟩ | ⟨_, a, b, _⟩
    · rw [e] at cm; simp at cm
    · omega
  have hil : i.toNat < (nth g.kinds (manOf (nth p.at_ cell.toNat)).1.toNat).progs.length := by omega
  have hpg := hg.pr _ (nth_mem hkl) _ (nth_mem hil)
  have hst := fun n hn => stageS_ok hg hp c0 c1 cm (prog := progOf g p cell i) hpg.st n hn
  have hz := stageS_zero g p cell (progOf g p cell i)
  have hsu := fun n hn => stageS_succ g p cell (progOf g p cell i) (n := n) hn
  have hR := fun n => stR_succ g p cell (progOf g p cell i) n
  have hp8 := hpg.len
  have hpst := hpg.st
  have hpe : progOf g p cell i = nth (nth g.kinds (manOf (nth p.at_ cell.toNat)).1.toNat).progs i.toNat := rfl
  rw [← hpe] at hp8 hpst
  obtain ⟨prog, hprog⟩ : ∃ q, q = progOf g p cell i := ⟨_, rfl⟩
  rw [← hprog] at hst hz hsu hR hp8 hpst hpe ⊢
  generalize hm : manOf (nth p.at_ cell.toNat) = m at *
  obtain ⟨mk, ms⟩ := m
  simp only at cm cs i1 hkl hil hpe
  (repeat (first | with_reducible (first | refine wL fun _ => ?_ | refine wD fun _ => ?_ | refine wE ?_ | refine adrZ.go ?_) | simp [go_sem]))
  refine ACallP.plain hV (by simp [go_sem]) ?_
  (repeat (first | with_reducible (first | refine wL fun _ => ?_ | refine wD fun _ => ?_ | refine wE ?_ | refine adrZ.go ?_) | simp [go_sem]))
  (refine aIf.mkL (fun hF => by first | omega | (simp at hF; omega)) (fun hF => ?_); clear hF)
  (repeat (first | with_reducible (first | refine wL fun _ => ?_ | refine wD fun _ => ?_ | refine wE ?_ | refine adrZ.go ?_) | simp [go_sem, hcur]))
  refine ACallP.plain hO (by simp [go_sem]) ?_
  (repeat (first | with_reducible (first | refine wL fun _ => ?_ | refine wD fun _ => ?_ | refine wE ?_ | refine adrZ.go ?_) | simp [go_sem, hkl, hil]))
  refine aIf.mkL (fun hF => by simp at hF; omega) (fun hF => ?_)
  clear hF
  (repeat (first | with_reducible (first | refine wL fun _ => ?_ | refine wD fun _ => ?_ | refine wE ?_ | refine adrZ.go ?_) | simp [go_sem]))
  refine dCall.owns 28 (by rfl) (hcp) (by decide) (by simp [go_sem]) (by simp [go_sem]) (fun _ => LeRow.refl _ _ _ _) (by simp [go_sem]) (by simp [go_sem]) ?_
  ((repeat (first | with_reducible (first | refine wL fun _ => ?_ | refine wD fun _ => ?_ | refine adrZ.go ?_) | simp [go_sem])); refine dEnd.mkN (by kernel_rfl) ?_)
  (repeat (first | with_reducible (first | refine wL fun _ => ?_ | refine wD fun _ => ?_ | refine wE ?_ | refine adrZ.go ?_) | simp [go_sem, hcur, hkl, hil]))
  rw [← hpe]
  have hsz : ∀ n, n ≤ prog.length → (stageS g p cell prog n).length ≤ 100000000 := fun n hn => Nat.le_trans (hst n hn).2 (pow10_le (by omega))
  have hst0 : encSs (stageS g p cell prog 0) = .lst 8 [[.lst 1 ((p.at_.map encI).set cell.toNat [.v (.int .i64 0)]), encIs p.h0, encIs p.h1, .v (.int .i64 p.rights), .v (.int .i64 p.side), .v (.int .i64 mk), .v (.int .i64 cell), .v (.bool false)]] := by
    rw [hz]; simp [encSs, startS, encState, clr, hm, encIs, encI, List.map_set]
  have hR0 : stR g p cell prog 1 = [[encSs (stageS g p cell prog 0)]] := rfl
  refine ALoop.start (ALoop.ind (α := Nat) (fun k => ⟨[(4, .ref 0 0 9 0 0), (8, .ref 2 0 2 0 0), (11, .ref 146 0 2 0 0), (12, encSs (stageS g p cell prog k)), (13, encProg prog), (14, .v (.int .i64 k))],
      [(0, .rows true 0 9 [encGame g]), (2, .rows true 0 2 [[AV.nils, .v (.int .i64 0)]]), (142, .rows true k 1 (stR g p cell prog (k + 1))), (146, .rows true 0 2 [[.sl 142 k 1 0 (k + 1), .v (.int .i64 0)]])], 148⟩)
    (fun d k => k + d = prog.length) ?_ prog.length 0 ?_) ?_ ?_
  · rintro d k k1 hrec
    (repeat (first | with_reducible (first | refine wL fun _ => ?_ | refine wD fun _ => ?_ | refine wE ?_ | refine adrZ.go ?_) | simp [go_sem]))
    refine aIf.mkL (fun hk => ?_) (fun hk => ?_) <;> simp at hk
    · have hkk := hst k (by omega)
      have hks := hsz k (by omega)
      have hks' := hsz (k + 1) (by omega)
      have hsk := hsu k hk
      have hxs := hpst _ (nth_mem hk)
      have hpo := fun n hn => partS_ok hg hxs hkk.1 n hn
      have hpa := partS_all g (stageS g p cell prog k) (nth prog k)
      have hpz := partS_zero g (stageS g p cell prog k) (nth prog k)
      have hps := fun n hn => partS_succ g (stageS g p cell prog k) (nth prog k) (n := n) hn
      rw [← hsk] at hpa
      obtain ⟨now, hnow⟩ : ∃ now, now = stageS g p cell prog k := ⟨_, rfl⟩
      rw [← hnow] at hkk hks hpo hpa hpz hps ⊢
      obtain ⟨x, hx⟩ : ∃ x, x = nth prog k := ⟨_, rfl⟩
      rw [← hx] at hxs hpo hpa hpz hps
      (repeat (first | with_reducible (first | refine wL fun _ => ?_ | refine wD fun _ => ?_ | refine wE ?_ | refine adrZ.go ?_) | simp [go_sem]))
      refine ALoop.start (ALoop.ind (α := Nat) (fun n => ⟨[(4, .ref 0 0 9 0 0), (8, .ref 2 0 2 0 0), (11, .ref 146 0 2 0 0), (12, encSs now), (13, encProg prog), (14, .v (.int .i64 k)), (15, .sl 148 (partS g now x n).length 8 0 (partS g now x n).length), (16, .v (.int .i64 n))],
          [(0, .rows true 0 9 [encGame g]), (2, .rows true 0 2 [[AV.nils, .v (.int .i64 0)]]), (142, .rows true k 1 (stR g p cell prog (k + 1))), (146, .rows true 0 2 [[.sl 142 k 1 0 (k + 1), .v (.int .i64 0)]]), (148, .rows true (partS g now x n).length 8 ((partS g now x n).map encState))], 149⟩)
        (fun d n => n + d = now.length) ?_ now.length 0 ?_) ?_ ?_
      · rintro d2 n n1 hrec2
        (repeat (first | with_reducible (first | refine wL fun _ => ?_ | refine wD fun _ => ?_ | refine wE ?_ | refine adrZ.go ?_) | simp [go_sem]))
        refine aIf.mkL (fun hn => ?_) (fun hn => ?_) <;> simp at hn
        · have hsn := hkk.1 _ (nth_mem hn)
          have hpn := hps n hn
          have hpoN := hpo n (by omega)
          have hpoS := hpo (n + 1) (by omega)
          have hSt := R5Step_pure g hg (nth now n) hsn.1 x hxs
          have hsl := stepS_len hg (nth now n) x
          have hso := stepS_ok hg hsn.1 hxs
          have hAd := R5add_owns (partS g now x n) (stepS g (nth now n) x) (by omega) (fun s hs => (hpoN.1 s hs).1.p.fits hg) (fun s hs => (hso s hs).1.p.fits hg)
          rw [← hpn] at hAd
          (repeat (first | with_reducible (first | refine wL fun _ => ?_ | refine wD fun _ => ?_ | refine wE ?_ | refine adrZ.go ?_) | simp [go_sem, hn, hk, ← hx]))
          try ((with_reducible refine adrZ.go ?_); (try simp [go_sem]))
          refine dCall.plain hSt (by simp [go_sem]) ?_
          (repeat (first | with_reducible (first | refine wL fun _ => ?_ | refine wD fun _ => ?_ | refine wE ?_ | refine adrZ.go ?_) | simp [go_sem]))
          try ((with_reducible refine adrZ.go ?_); (try simp [go_sem]))
          refine dCall.own1 (o := 148) hAd rfl (of_eq_true bel_St) (of_eq_true bel_St) (fun _ => .cons (.sl rfl) (.cons (.same (bel_encSs _)) .nil)) (by simp [go_sem]) (fun n₁ hn₁ => by simp [go_sem, hn₁]) (fun _ => .sl rfl) (.inr ⟨_, _, _, _, rfl⟩) ?_
          (repeat (first | with_reducible (first | refine wL fun _ => ?_ | refine wD fun _ => ?_ | refine wE ?_ | refine adrZ.go ?_) | simp [go_sem]))
          refine ALoop.start (hrec2 (d2 - 1) (by omega) (n + 1) (by omega)) ?_ (by simp)
          simp [go_sem, Wk_eq]
        · have hnl : n = now.length := by omega
          subst hnl
          rw [hpa]
          (repeat (first | with_reducible (first | refine wL fun _ => ?_ | refine wD fun _ => ?_ | refine wE ?_ | refine adrZ.go ?_) | simp [go_sem]))
          have hRk := hR (k + 1)
          refine ALoop.start (hrec (d - 1) (by omega) (k + 1) (by omega)) ?_ (by simp)
          simp [go_sem, Wk_eq, hRk]
          refine ⟨?_, leRows_append (.refl _) (.cons (.cons ?_ .nil) .nil)⟩ <;> (refine leV_frz rfl (by simp) (by simp [noH, upd]) ?_; first | (simp [go_sem]; done) | (simp [go_sem]; exact List.take_of_length_le (by simp)))
      · omega
      · simp [go_sem, Wk_eq, hpz]
      · simp
    · have hkl' : k = prog.length := by omega
      subst hkl'
      (repeat (first | with_reducible (first | refine wL fun _ => ?_ | refine wD fun _ => ?_ | refine wE ?_ | refine adrZ.go ?_) | simp [go_sem]))
      exact leV_frz rfl (by rw [stR_len]; omega) (by simp [noH, upd]) (by rw [List.drop_zero, List.take_of_length_le (by rw [stR_len]; omega)])
  · omega
  · simp [go_sem, Wk_eq, hR0]
    rw [show AV.lst 8 (List.map encState (stageS g p cell prog 0)) = _ from hst0]
    refine ⟨?_, ?_⟩
    · ((refine LeV.frz rfl (by simp) (by simp [noH, upd]) ?_); (try simp only [List.drop_zero, List.take_succ_cons, List.take_zero, List.map_cons, List.map_nil]); (repeat (first | (with_reducible exact LeRows.nil) | (with_reducible refine LeRows.cons ?_ ?_) | (with_reducible exact LeRow.nil) | (with_reducible refine LeRow.cons ?_ ?_) | (with_reducible exact LeV.refl _) | (refine leV_frz rfl (by simp) (by simp [noH, upd]) ?_; first | (simp [go_sem]; done) | (simp [go_sem]; exact List.take_of_length_le (by simp))))))
    · ((refine LeV.frz rfl (by simp) (by simp [noH, upd]) ?_); (try simp only [List.drop_zero, List.take_succ_cons, List.take_zero, List.map_cons, List.map_nil]); (repeat (first | (with_reducible exact LeRows.nil) | (with_reducible refine LeRows.cons ?_ ?_) | (with_reducible exact LeRow.nil) | (with_reducible refine LeRow.cons ?_ ?_) | (with_reducible exact LeV.refl _) | (refine leV_frz rfl (by simp) (by simp [noH, upd]) ?_; first | (simp [go_sem]; done) | (simp [go_sem]; exact List.take_of_length_le (by simp))))))
  · simp
end Go.Av
end
section
set_option linter.unusedSimpArgs false
set_option linter.unusedVariables false
open Go Go.Proofs
set_option maxRecDepth 20000
set_option maxHeartbeats 4000000
namespace Go.Av
theorem R5Less_pure (a b : OutD) (ha : FitsP a.pos) (hb : FitsP b.pos) : Pure Tryz.prog 14 [.agg (encOut a), .agg (encOut b)] (.v (.bool (lessO a b))) := by
  refine Pure.of (ACallP.of_awp (by kernel_rfl) Tryz.func14 rfl rfl (Nat.le_of_ble_eq_true rfl) (by kernel_rfl) ?_)
  have hC := Compare_pure _ _ ha hb
  unfold lessO
  obtain ⟨pa, ta⟩ := a
  obtain ⟨pb, tb⟩ := b
  simp only at hC ⊢
  generalize cmpP pa pb = c at *
  (repeat (first | with_reducible (first | refine wL fun _ => ?_ | refine wD fun _ => ?_ | refine wE ?_ | refine adrZ.go ?_) | simp [go_sem]))
  refine ACallP.plain hC (by simp [go_sem]) ?_
  by_cases c1 : c < 0
  · (repeat (first | with_reducible (first | refine wL fun _ => ?_ | refine wD fun _ => ?_ | refine wE ?_ | refine adrZ.go ?_) | simp [go_sem, c1]))
  · by_cases c2 : c = 0
    · subst c2
      cases ta <;> cases tb <;> (repeat (first | with_reducible (first | refine wL fun _ => ?_ | refine wD fun _ => ?_ | refine wE ?_ | refine adrZ.go ?_) | simp [go_sem]))
    · cases ta <;> cases tb <;> (repeat (first | with_reducible (first | refine wL fun _ => ?_ | refine wD fun _ => ?_ | refine wE ?_ | refine adrZ.go ?_) | simp [go_sem, c1, c2]))
def insAt (x : OutD) (l : List OutD) (dn : Bool) : List OutD := if dn then l else insertO x l
theorem R5Insert_pure (l : List OutD) (x : OutD) (hl : l.length ≤ 17179869184) (h1 : ∀ o ∈ l, FitsP o.pos) (h2 : FitsP x.pos) : Pure Tryz.prog 35 [encOs l, .agg (encOut x)] (encOs (insertO x l)) := by
  refine Pure.of (ACallP.of_awp (by kernel_rfl) Tryz.func35 rfl rfl (Nat.le_of_ble_eq_true rfl) (by kernel_rfl) ?_)
  obtain ⟨R, hR⟩ : ∃ R, R = insertO x l := ⟨_, rfl⟩
  rw [← hR]
  (repeat (first | with_reducible (first | refine wL fun _ => ?_ | refine wD fun _ => ?_ | refine wE ?_ | refine adrZ.go ?_) | simp [go_sem]))
  refine ALoop.start (ALoop.ind (α := Nat × List OutD × Bool) (fun a => ⟨[(0, encOs l), (3, .ref 0 0 6 0 0), (5, .sl 1 a.2.1.length 6 0 a.2.1.length), (6, .v (.bool a.2.2)), (7, .v (.int .i64 a.1))], [(0, .rows true 0 6 [encOut x]), (1, .rows true a.2.1.length 6 (a.2.1.map encOut))], 2⟩)
    (fun d a => a.1 + d = l.length ∧ a.2.1.length ≤ a.1 + a.2.2.toNat ∧ R = a.2.1 ++ insAt x (l.drop a.1) a.2.2) ?_ l.length (0, [], false) ?_) ?_ ?_
  · rintro d ⟨i, out, dn⟩ ⟨i1, i2, i3⟩ hrec
    simp only at i1 i2 i3
    (repeat (first | with_reducible (first | refine wL fun _ => ?_ | refine wD fun _ => ?_ | refine wE ?_ | refine adrZ.go ?_) | simp [go_sem]))
    refine aIf.mkL (fun hi => ?_) (fun hi => ?_) <;> simp at hi
    · have f1 := h1 _ (nth_mem hi)
      have hL1 := R5Less_pure (nth l i) x f1 h2
      have hL2 := R5Less_pure x (nth l i) h2 f1
      rw [dropG_cons hi] at i3
      cases dn
      · simp only [insAt, insertO] at i3
        simp only [Bool.toNat_false] at i2
        (repeat (first | with_reducible (first | refine wL fun _ => ?_ | refine wD fun _ => ?_ | refine wE ?_ | refine adrZ.go ?_) | simp [go_sem, hi]))
        try ((with_reducible refine adrZ.go ?_); (try simp [go_sem]))
        refine dGC.plain _ (fun _ => hL1) (by simp [go_sem]) ?_
        (repeat (first | with_reducible (first | refine wL fun _ => ?_ | refine wD fun _ => ?_ | refine wE ?_ | refine adrZ.go ?_) | simp [go_sem, hi]))
        by_cases l1 : lessO (nth l i) x = true
        · rw [if_pos l1] at i3
          (repeat (first | with_reducible (first | refine wL fun _ => ?_ | refine wD fun _ => ?_ | refine wE ?_ | refine adrZ.go ?_) | simp [go_sem, hi, l1]))
          refine ALoop.start (hrec (d - 1) (by omega) (i + 1, out ++ [nth l i], false) ⟨by simp only; omega, by simp; omega, by simpa [insAt] using i3⟩) ?_ (by simp)
          simp [go_sem, Wk_eq]
        · rw [if_neg l1] at i3
          (repeat (first | with_reducible (first | refine wL fun _ => ?_ | refine wD fun _ => ?_ | refine wE ?_ | refine adrZ.go ?_) | simp [go_sem, hi, l1]))
          try ((with_reducible refine adrZ.go ?_); (try simp [go_sem]))
          refine dCall.plain hL2 (by simp [go_sem]) ?_
          (repeat (first | with_reducible (first | refine wL fun _ => ?_ | refine wD fun _ => ?_ | refine wE ?_ | refine adrZ.go ?_) | simp [go_sem, hi]))
          by_cases l2 : lessO x (nth l i) = true
          · rw [if_pos l2] at i3
            (repeat (first | with_reducible (first | refine wL fun _ => ?_ | refine wD fun _ => ?_ | refine wE ?_ | refine adrZ.go ?_) | simp [go_sem, hi, l2]))
            refine ALoop.start (hrec (d - 1) (by omega) (i + 1, out ++ [x] ++ [nth l i], true) ⟨by simp only; omega, by simp; omega, by simpa [insAt] using i3⟩) ?_ (by simp)
            simp [go_sem, Wk_eq]
          · rw [if_neg l2] at i3
            (repeat (first | with_reducible (first | refine wL fun _ => ?_ | refine wD fun _ => ?_ | refine wE ?_ | refine adrZ.go ?_) | simp [go_sem, hi, l2]))
            refine ALoop.start (hrec (d - 1) (by omega) (i + 1, out ++ [nth l i], true) ⟨by simp only; omega, by simp; omega, by simpa [insAt] using i3⟩) ?_ (by simp)
            simp [go_sem, Wk_eq]
      · simp only [insAt, if_true] at i3
        simp only [Bool.toNat_true] at i2
        (repeat (first | with_reducible (first | refine wL fun _ => ?_ | refine wD fun _ => ?_ | refine wE ?_ | refine adrZ.go ?_) | simp [go_sem, hi]))
        try ((with_reducible refine adrZ.go ?_); (try simp [go_sem]))
        refine dGC.skip (.v (.bool true)) ?_
        (repeat (first | with_reducible (first | refine wL fun _ => ?_ | refine wD fun _ => ?_ | refine wE ?_ | refine adrZ.go ?_) | simp [go_sem, hi]))
        refine ALoop.start (hrec (d - 1) (by omega) (i + 1, out ++ [nth l i], true) ⟨by simp only; omega, by simp; omega, by simpa [insAt] using i3⟩) ?_ (by simp)
        simp [go_sem, Wk_eq]
    · rw [List.drop_eq_nil_of_le hi] at i3
      cases dn
      · simp [insAt, insertO] at i3
        simp only [Bool.toNat_false] at i2
        (repeat (first | with_reducible (first | refine wL fun _ => ?_ | refine wD fun _ => ?_ | refine wE ?_ | refine adrZ.go ?_) | simp [go_sem]))
        rw [i3]
        (refine leV_frz rfl (by simp) (by simp [noH, upd]) ?_; first | (simp [go_sem]; done) | (simp [go_sem]; exact List.take_of_length_le (by simp)))
      · simp [insAt] at i3
        simp only [Bool.toNat_true] at i2
        (repeat (first | with_reducible (first | refine wL fun _ => ?_ | refine wD fun _ => ?_ | refine wE ?_ | refine adrZ.go ?_) | simp [go_sem]))
        rw [i3]
        (refine leV_frz rfl (by simp) (by simp [noH, upd]) ?_; first | (simp [go_sem]; done) | (simp [go_sem]; exact List.take_of_length_le (by simp)))
  · simp [insAt, hR]
  · simp [go_sem, Wk_eq]
  · simp
end Go.Av
end
section
set_option linter.unusedSimpArgs false
set_option linter.unusedVariables false
open Go Go.Proofs
set_option maxRecDepth 20000
set_option maxHeartbeats 4000000
namespace Go.Av
theorem gMan_pure (c : Int) : Pure Tryz.prog 26 [.v (.int .i64 c)] (.tup [.v (.int .i64 (manOf c).1), .v (.int .i64 (manOf c).2)]) := by
  refine Pure.of (ACallP.of_awp (by kernel_rfl) Tryz.func26 rfl rfl (Nat.le_of_ble_eq_true rfl) (by kernel_rfl) ?_)
  unfold manOf
  by_cases h1 : c < 1
  · rw [if_neg (by omega)]
    (repeat (first | with_reducible (first | refine wL fun _ => ?_ | refine wD fun _ => ?_ | refine wE ?_ | refine adrZ.go ?_) | simp [go_sem, h1]))
  · by_cases h2 : 12 < c
    · rw [if_neg (by omega)]
      (repeat (first | with_reducible (first | refine wL fun _ => ?_ | refine wD fun _ => ?_ | refine wE ?_ | refine adrZ.go ?_) | simp [go_sem, h1, h2]))
    · rw [if_pos (by omega)]
      have e1 : (c - 1).tdiv 2 = (c - 1) / 2 := Int.tdiv_eq_ediv_of_nonneg (by omega)
      have e2 : (c - 1).tmod 2 = (c - 1) % 2 := Int.tmod_eq_emod_of_nonneg (by omega)
      have b1 : 0 ≤ (c - 1).tdiv 2 ∧ (c - 1).tdiv 2 ≤ 12 := by omega
      have b2 : 0 ≤ (c - 1).tmod 2 ∧ (c - 1).tmod 2 ≤ 12 := by omega
      clear e1 e2
      (repeat (first | with_reducible (first | refine wL fun _ => ?_ | refine wD fun _ => ?_ | refine wE ?_ | refine adrZ.go ?_) | simp [go_sem, h1, h2]))
theorem gCode_pure (k s : Int) : Pure Tryz.prog 29 [.v (.int .i64 k), .v (.int .i64 s)] (.v (.int .i64 (codeOf k s))) := by
  refine Pure.of (ACallP.of_awp (by kernel_rfl) Tryz.func29 rfl rfl (Nat.le_of_ble_eq_true rfl) (by kernel_rfl) ?_)
  unfold codeOf
  by_cases h1 : k < 0
  · rw [if_neg (by omega)]
    (repeat (first | with_reducible (first | refine wL fun _ => ?_ | refine wD fun _ => ?_ | refine wE ?_ | refine adrZ.go ?_) | simp [go_sem, h1]))
  by_cases h2 : 6 ≤ k
  · rw [if_neg (by omega)]
    (repeat (first | with_reducible (first | refine wL fun _ => ?_ | refine wD fun _ => ?_ | refine wE ?_ | refine adrZ.go ?_) | simp [go_sem, h1, h2]))
  by_cases h3 : s < 0
  · rw [if_neg (by omega)]
    (repeat (first | with_reducible (first | refine wL fun _ => ?_ | refine wD fun _ => ?_ | refine wE ?_ | refine adrZ.go ?_) | simp [go_sem, h1, h2, h3]))
  by_cases h4 : 1 < s
  · rw [if_neg (by omega)]
    (repeat (first | with_reducible (first | refine wL fun _ => ?_ | refine wD fun _ => ?_ | refine wE ?_ | refine adrZ.go ?_) | simp [go_sem, h1, h2, h3, h4]))
  · rw [if_pos (by omega), show 2 * k + 1 + s = 1 + 2 * k + s by omega]
    (repeat (first | with_reducible (first | refine wL fun _ => ?_ | refine wD fun _ => ?_ | refine wE ?_ | refine adrZ.go ?_) | simp [go_sem, h1, h2, h3, h4]))
theorem isNaN_pure (x : Int) : Pure Tryz.prog 79 [.v (.int .i64 x)] (.v (.bool false)) := by
  refine Pure.of (ACallP.of_awp (by kernel_rfl) Tryz.func79 rfl rfl (Nat.le_of_ble_eq_true rfl) (by kernel_rfl) ?_)
  (repeat (first | with_reducible (first | refine wL fun _ => ?_ | refine wD fun _ => ?_ | refine wE ?_ | refine adrZ.go ?_) | simp [go_sem]))
theorem cCompare_pure (a b : Int) : Pure Tryz.prog 52 [.v (.int .i64 a), .v (.int .i64 b)] (.v (.int .i64 (number a b))) := by
  refine Pure.of (ACallP.of_awp (by kernel_rfl) Tryz.func52 rfl rfl (Nat.le_of_ble_eq_true rfl) (by kernel_rfl) ?_)
  (repeat (first | with_reducible (first | refine wL fun _ => ?_ | refine wD fun _ => ?_ | refine wE ?_ | refine adrZ.go ?_) | simp [go_sem]))
  refine ACallP.plain (isNaN_pure a) (by simp [go_sem]) ?_
  (repeat (first | with_reducible (first | refine wL fun _ => ?_ | refine wD fun _ => ?_ | refine wE ?_ | refine adrZ.go ?_) | simp [go_sem]))
  refine ACallP.plain (isNaN_pure b) (by simp [go_sem]) ?_
  unfold number
  by_cases h1 : a < b
  · rw [if_pos h1]
    (repeat (first | with_reducible (first | refine wL fun _ => ?_ | refine wD fun _ => ?_ | refine wE ?_ | refine adrZ.go ?_) | simp [go_sem, h1]))
  · by_cases h2 : b < a
    · rw [if_neg h1, if_pos h2]
      (repeat (first | with_reducible (first | refine wL fun _ => ?_ | refine wD fun _ => ?_ | refine wE ?_ | refine adrZ.go ?_) | simp [go_sem, h1, h2]))
    · rw [if_neg h1, if_neg h2]
      (repeat (first | with_reducible (first | refine wL fun _ => ?_ | refine wD fun _ => ?_ | refine wE ?_ | refine adrZ.go ?_) | simp [go_sem, h1, h2]))
/-- the first that is not 0 -/
def orI : List Int → Int
  | [] => 0
  | x :: l => if x = 0 then orI l else x
theorem cOr_pure (l : List Int) (hl : Fits l) : Pure Tryz.prog 50 [encIs l] (.v (.int .i64 (orI l))) := by
  refine Pure.of (ACallP.of_awp (by kernel_rfl) Tryz.func50 rfl rfl (Nat.le_of_ble_eq_true rfl) (by kernel_rfl) ?_)
  unfold Fits at hl
  (repeat (first | with_reducible (first | refine wL fun _ => ?_ | refine wD fun _ => ?_ | refine wE ?_ | refine adrZ.go ?_) | simp [go_sem]))
  refine ALoop.start (ALoop.ind (α := Nat) (fun j => ⟨[(3, .v (.int .i64 0)), (6, encIs l), (7, .v (.int .i64 l.length)), (8, .v (.int .i64 j))], [], 0⟩)
    (fun d j => j + d = l.length ∧ orI l = orI (l.drop j)) ?_ l.length 0 ?_) ?_ ?_
  · rintro d j ⟨i1, i2⟩ hrec
    (repeat (first | with_reducible (first | refine wL fun _ => ?_ | refine wD fun _ => ?_ | refine wE ?_ | refine adrZ.go ?_) | simp [go_sem]))
    refine aIf.mkL (fun hj => ?_) (fun hj => ?_) <;> simp at hj
    · rw [drop_cons hj, orI] at i2
      (repeat (first | with_reducible (first | refine wL fun _ => ?_ | refine wD fun _ => ?_ | refine wE ?_ | refine adrZ.go ?_) | simp [go_sem, hj]))
      by_cases h0 : nth l j = 0
      · rw [if_pos h0] at i2
        (repeat (first | with_reducible (first | refine wL fun _ => ?_ | refine wD fun _ => ?_ | refine wE ?_ | refine adrZ.go ?_) | simp [go_sem, h0]))
        refine ALoop.start (hrec (d - 1) (by omega) (j + 1) ⟨by omega, i2⟩) ?_ (by simp)
        simp [go_sem, Wk_eq]
      · rw [if_neg h0] at i2
        rw [i2]
        (repeat (first | with_reducible (first | refine wL fun _ => ?_ | refine wD fun _ => ?_ | refine wE ?_ | refine adrZ.go ?_) | simp [go_sem, h0]))
    · rw [List.drop_eq_nil_of_le hj, orI] at i2
      rw [i2]
      (repeat (first | with_reducible (first | refine wL fun _ => ?_ | refine wD fun _ => ?_ | refine wE ?_ | refine adrZ.go ?_) | simp [go_sem]))
  · simp
  · simp [go_sem, Wk_eq]
  · simp
theorem sCompare_pure (a b : List Int) (ha : Fits a) (hb : Fits b) : Pure Tryz.prog 78 [encIs a, encIs b] (.v (.int .i64 (cmpL a b))) := by
  refine Pure.of (ACallP.of_awp (by kernel_rfl) Tryz.func78 rfl rfl (Nat.le_of_ble_eq_true rfl) (by kernel_rfl) ?_)
  unfold Fits at ha hb
  (repeat (first | with_reducible (first | refine wL fun _ => ?_ | refine wD fun _ => ?_ | refine wE ?_ | refine adrZ.go ?_) | simp [go_sem]))
  refine ALoop.start (ALoop.ind (α := Nat) (fun j => ⟨[(0, encIs a), (1, encIs b), (9, encIs a), (10, .v (.int .i64 a.length)), (11, .v (.int .i64 j))], [], 0⟩)
    (fun d j => j + d = a.length ∧ j ≤ b.length ∧ cmpL a b = cmpL (a.drop j) (b.drop j)) ?_ a.length 0 ?_) ?_ ?_
  · rintro d j ⟨i1, i2, i3⟩ hrec
    (repeat (first | with_reducible (first | refine wL fun _ => ?_ | refine wD fun _ => ?_ | refine wE ?_ | refine adrZ.go ?_) | simp [go_sem]))
    refine aIf.mkL (fun hj => ?_) (fun hj => ?_) <;> simp at hj
    · rw [drop_cons hj] at i3
      (repeat (first | with_reducible (first | refine wL fun _ => ?_ | refine wD fun _ => ?_ | refine wE ?_ | refine adrZ.go ?_) | simp [go_sem, hj]))
      by_cases hk : j < b.length
      · rw [drop_cons hk, cmpL] at i3
        have hk' : ¬ b.length ≤ j := by omega
        (repeat (first | with_reducible (first | refine wL fun _ => ?_ | refine wD fun _ => ?_ | refine wE ?_ | refine adrZ.go ?_) | simp [go_sem, hj, hk, hk']))
        refine ACallP.plain (cCompare_pure _ _) (by simp [go_sem]) ?_
        by_cases he : nth a j = nth b j
        · rw [if_pos he] at i3
          have hn : number (nth a j) (nth b j) = 0 := by simp [number, he]
          rw [hn]
          (repeat (first | with_reducible (first | refine wL fun _ => ?_ | refine wD fun _ => ?_ | refine wE ?_ | refine adrZ.go ?_) | simp [go_sem]))
          refine ALoop.start (hrec (d - 1) (by omega) (j + 1) ⟨by omega, by omega, i3⟩) ?_ (by simp)
          simp [go_sem, Wk_eq]
        · rw [if_neg he] at i3
          have hn : number (nth a j) (nth b j) ≠ 0 := by unfold number; split <;> (try split) <;> omega
          rw [i3]
          (repeat (first | with_reducible (first | refine wL fun _ => ?_ | refine wD fun _ => ?_ | refine wE ?_ | refine adrZ.go ?_) | simp [go_sem, hn]))
      · have hk' : b.length ≤ j := by omega
        rw [List.drop_eq_nil_of_le hk', cmpL_nil_right] at i3
        have : cmpL a b = 1 := by rw [i3]; unfold number; rw [if_neg (by simp only [List.length_cons]; omega), if_pos (by simp only [List.length_cons]; omega)]
        rw [this]
        (repeat (first | with_reducible (first | refine wL fun _ => ?_ | refine wD fun _ => ?_ | refine wE ?_ | refine adrZ.go ?_) | simp [go_sem, hj, hk, hk']))
    · have hja : j = a.length := by omega
      subst hja
      rw [List.drop_eq_nil_of_le (Nat.le_refl _), cmpL_nil_left] at i3
      rw [i3]
      unfold number
      by_cases hb' : a.length < b.length
      · rw [if_pos (by simp; omega)]
        (repeat (first | with_reducible (first | refine wL fun _ => ?_ | refine wD fun _ => ?_ | refine wE ?_ | refine adrZ.go ?_) | simp [go_sem, hb']))
      · rw [if_neg (by simp; omega), if_neg (by omega)]
        (repeat (first | with_reducible (first | refine wL fun _ => ?_ | refine wD fun _ => ?_ | refine wE ?_ | refine adrZ.go ?_) | simp [go_sem, hb']))
  · simp
  · simp [go_sem, Wk_eq]
  · simp
theorem cmpP_or (p q : PosD) : orI [cmpL p.at_ q.at_, cmpL p.h0 q.h0, cmpL p.h1 q.h1, number p.rights q.rights, number p.side q.side] = cmpP p q := by
  unfold cmpP
  simp only [orI]
  repeat' split
  all_goals first | rfl | omega
theorem pCompare_pure (p q : PosD) (hp : FitsP p) (hq : FitsP q) : Pure Tryz.prog 51 [.agg (encPos p), .agg (encPos q)] (.v (.int .i64 (cmpP p q))) := by
  refine Pure.of (ACallP.of_awp (by kernel_rfl) Tryz.func51 rfl rfl (Nat.le_of_ble_eq_true rfl) (by kernel_rfl) ?_)
  obtain ⟨p1, p2, p3⟩ := hp
  obtain ⟨q1, q2, q3⟩ := hq
  rw [← cmpP_or]
  have c1 := sCompare_pure _ _ p1 q1
  have c2 := sCompare_pure _ _ p2 q2
  have c3 := sCompare_pure _ _ p3 q3
  have c4 := cCompare_pure p.rights q.rights
  have c5 := cCompare_pure p.side q.side
  generalize cmpL p.at_ q.at_ = x1 at *
  generalize cmpL p.h0 q.h0 = x2 at *
  generalize cmpL p.h1 q.h1 = x3 at *
  generalize number p.rights q.rights = x4 at *
  generalize number p.side q.side = x5 at *
  (repeat (first | with_reducible (first | refine wL fun _ => ?_ | refine wD fun _ => ?_ | refine wE ?_ | refine adrZ.go ?_) | simp [go_sem]))
  try ((with_reducible refine adrZ.go ?_); (try simp [go_sem]))
  refine dCall.plain c1 (by simp [go_sem]) ?_
  (repeat (first | with_reducible (first | refine wL fun _ => ?_ | refine wD fun _ => ?_ | refine wE ?_ | refine adrZ.go ?_) | simp [go_sem]))
  try ((with_reducible refine adrZ.go ?_); (try simp [go_sem]))
  refine dCall.plain c2 (by simp [go_sem]) ?_
  (repeat (first | with_reducible (first | refine wL fun _ => ?_ | refine wD fun _ => ?_ | refine wE ?_ | refine adrZ.go ?_) | simp [go_sem]))
  try ((with_reducible refine adrZ.go ?_); (try simp [go_sem]))
  refine dCall.plain c3 (by simp [go_sem]) ?_
  (repeat (first | with_reducible (first | refine wL fun _ => ?_ | refine wD fun _ => ?_ | refine wE ?_ | refine adrZ.go ?_) | simp [go_sem]))
  try ((with_reducible refine adrZ.go ?_); (try simp [go_sem]))
  refine dCall.plain c4 (by simp [go_sem]) ?_
  (repeat (first | with_reducible (first | refine wL fun _ => ?_ | refine wD fun _ => ?_ | refine wE ?_ | refine adrZ.go ?_) | simp [go_sem]))
  try ((with_reducible refine adrZ.go ?_); (try simp [go_sem]))
  refine dCall.plain c5 (by simp [go_sem]) ?_
  (repeat (first | with_reducible (first | refine wL fun _ => ?_ | refine wD fun _ => ?_ | refine wE ?_ | refine adrZ.go ?_) | simp [go_sem]))
  try ((with_reducible refine adrZ.go ?_); (try simp [go_sem]))
  refine dCall.frz [encIs [x1, x2, x3, x4, x5]] _ [31] [(31, some (.rows false 0 1 ([x1, x2, x3, x4, x5].map encI)))] (cOr_pure _ (by unfold Fits; simp)) ?_ ?_ (by simp [go_sem]) ?_
  · intro p hp
    simp only [List.mem_singleton] at hp
    subst hp
    exact ⟨by simp, 0, 1, _, rfl, by simp [upd, go_sem]⟩
  · intro h₁ hS
    have h7 := hS 31 (by simp)
    simp [go_sem] at h7
    exact .cons (leV_frz h7.symm (by simp) (by simp [applyW, upd]) (by simp [go_sem])) .nil
  · (repeat (first | with_reducible (first | refine wL fun _ => ?_ | refine wD fun _ => ?_ | refine wE ?_ | refine adrZ.go ?_) | simp [go_sem]))
theorem order1_pure (b : Bool) : Pure Tryz.prog 49 [.v (.bool b)] (.v (.int .i64 (if b then 1 else 0))) := by
  refine Pure.of (ACallP.of_awp (by kernel_rfl) Tryz.func49 rfl rfl (Nat.le_of_ble_eq_true rfl) (by kernel_rfl) ?_)
  cases b <;> (repeat (first | with_reducible (first | refine wL fun _ => ?_ | refine wD fun _ => ?_ | refine wE ?_ | refine adrZ.go ?_) | simp [go_sem]))
theorem cmpO_or (a b : OutD) : orI [cmpP a.pos b.pos, number (if a.took then 1 else 0) (if b.took then 1 else 0)] = cmpO a b := by
  unfold cmpO lexI
  simp only [orI]
  repeat' split
  all_goals first | rfl | omega
theorem order_pure (a b : OutD) (ha : FitsP a.pos) (hb : FitsP b.pos) : Pure Tryz.prog 31 [.agg (encOut a), .agg (encOut b)] (.v (.int .i64 (cmpO a b))) := by
  refine Pure.of (ACallP.of_awp (by kernel_rfl) Tryz.func31 rfl rfl (Nat.le_of_ble_eq_true rfl) (by kernel_rfl) ?_)
  rw [← cmpO_or]
  have c1 := pCompare_pure _ _ ha hb
  have c2 := order1_pure a.took
  have c3 := order1_pure b.took
  have c4 := cCompare_pure (if a.took then 1 else 0) (if b.took then 1 else 0)
  generalize cmpP a.pos b.pos = x1 at *
  generalize number (if a.took then 1 else 0) (if b.took then 1 else 0) = x2 at *
  generalize (if a.took then (1 : Int) else 0) = y1 at *
  generalize (if b.took then (1 : Int) else 0) = y2 at *
  (repeat (first | with_reducible (first | refine wL fun _ => ?_ | refine wD fun _ => ?_ | refine wE ?_ | refine adrZ.go ?_) | simp [go_sem]))
  try ((with_reducible refine adrZ.go ?_); (try simp [go_sem]))
  refine dCall.plain c1 (by simp [go_sem]) ?_
  (repeat (first | with_reducible (first | refine wL fun _ => ?_ | refine wD fun _ => ?_ | refine wE ?_ | refine adrZ.go ?_) | simp [go_sem]))
  try ((with_reducible refine adrZ.go ?_); (try simp [go_sem]))
  refine dCall.plain c2 (by simp [go_sem]) ?_
  (repeat (first | with_reducible (first | refine wL fun _ => ?_ | refine wD fun _ => ?_ | refine wE ?_ | refine adrZ.go ?_) | simp [go_sem]))
  try ((with_reducible refine adrZ.go ?_); (try simp [go_sem]))
  refine dCall.plain c3 (by simp [go_sem]) ?_
  (repeat (first | with_reducible (first | refine wL fun _ => ?_ | refine wD fun _ => ?_ | refine wE ?_ | refine adrZ.go ?_) | simp [go_sem]))
  try ((with_reducible refine adrZ.go ?_); (try simp [go_sem]))
  refine dCall.plain c4 (by simp [go_sem]) ?_
  (repeat (first | with_reducible (first | refine wL fun _ => ?_ | refine wD fun _ => ?_ | refine wE ?_ | refine adrZ.go ?_) | simp [go_sem]))
  try ((with_reducible refine adrZ.go ?_); (try simp [go_sem]))
  refine dCall.frz [encIs [x1, x2]] _ [16] [(16, some (.rows false 0 1 ([x1, x2].map encI)))] (cOr_pure _ (by unfold Fits; simp)) ?_ ?_ (by simp [go_sem]) ?_
  · intro p hp
    simp only [List.mem_singleton] at hp
    subst hp
    exact ⟨by simp, 0, 1, _, rfl, by simp [upd, go_sem]⟩
  · intro h₁ hS
    have h7 := hS 16 (by simp)
    simp [go_sem] at h7
    exact .cons (leV_frz h7.symm (by simp) (by simp [applyW, upd]) (by simp [go_sem])) .nil
  · (repeat (first | with_reducible (first | refine wL fun _ => ?_ | refine wD fun _ => ?_ | refine wE ?_ | refine adrZ.go ?_) | simp [go_sem]))
theorem run1_pure (a b : OutD) (ha : FitsP a.pos) (hb : FitsP b.pos) : Pure Tryz.prog 33 [.agg (encOut a), .agg (encOut b)] (.v (.bool (decide (a = b)))) := by
  refine Pure.of (ACallP.of_awp (by kernel_rfl) Tryz.func33 rfl rfl (Nat.le_of_ble_eq_true rfl) (by kernel_rfl) ?_)
  have c1 := order_pure a b ha hb
  have e : decide (a = b) = decide (cmpO a b = 0) := by rw [decide_eq_decide]; exact (cmp_out.eq a b).symm
  rw [e]
  generalize cmpO a b = x at *
  (repeat (first | with_reducible (first | refine wL fun _ => ?_ | refine wD fun _ => ?_ | refine wE ?_ | refine adrZ.go ?_) | simp [go_sem]))
  refine ACallP.plain c1 (by simp [go_sem]) ?_
  (repeat (first | with_reducible (first | refine wL fun _ => ?_ | refine wD fun _ => ?_ | refine wE ?_ | refine adrZ.go ?_) | simp [go_sem]))
end Go.Av
end
section
set_option linter.unusedSimpArgs false
set_option linter.unusedVariables false
open Go Go.Proofs
set_option maxRecDepth 20000
set_option maxHeartbeats 4000000
namespace Go.Av
/-- the cells of no outcome -/
def zeroO : List AV := [.v (.slice none 0 0), .v (.slice none 0 0), .v (.slice none 0 0), .v (.int .i64 0), .v (.int .i64 0), .v (.bool false)]
theorem dedup_short {α : Type} [DecidableEq α] {l : List α} (h : l.length < 2) : dedup l = l := by
  match l, h with
  | [], _ => rfl
  | [a], _ => rfl
  | a :: b :: l, h => simp only [List.length_cons] at h; omega
theorem Compact_owns (l : List OutD) (gn : Nat) (hl : l.length ≤ 1073741824) (hf : ∀ o ∈ l, FitsP o.pos) :
    OwnsA Tryz.prog 32 [.sl 0 gn 6 0 l.length, .fn (.func 33) [] []] [(0, .rows true gn 6 (l.map encOut))] 1
      (.sl 0 gn 6 0 (dedup l).length) [(0, .rows true gn 6 ((dedup l).map encOut ++ List.replicate (l.length - (dedup l).length) zeroO))] 1 := by
  unfold OwnsA
  by_cases h2 : l.length < 2
  · rw [dedup_short h2]
    refine ACallP.of_awp (by kernel_rfl) Tryz.func32 rfl rfl (Nat.le_of_ble_eq_true rfl) (by kernel_rfl) ?_
    (repeat (first | with_reducible (first | refine wL fun _ => ?_ | refine wD fun _ => ?_ | refine wE ?_ | refine adrZ.go ?_) | simp [go_sem]))
    (refine aIf.mkL (fun hT => ?_) (fun hT => by first | omega | (simp at hT; omega)); clear hT)
    (repeat (first | with_reducible (first | refine wL fun _ => ?_ | refine wD fun _ => ?_ | refine wE ?_ | refine adrZ.go ?_) | simp [go_sem]))
    simp [go_sem, Wk_eq]
  obtain ⟨D, hD⟩ : ∃ D, D = dedup l := ⟨_, rfl⟩
  rw [← hD]
  have hE : ∀ i j, i < l.length → j < l.length → Pure Tryz.prog 33 [.agg (encOut (nth l i)), .agg (encOut (nth l j))] (.v (.bool (decide (nth l i = nth l j)))) :=
    fun i j hi hj => run1_pure _ _ (hf _ (nth_mem hi)) (hf _ (nth_mem hj))
  refine ACallP.of_awp (by kernel_rfl) Tryz.func32 rfl rfl (Nat.le_of_ble_eq_true rfl) (by kernel_rfl) ?_
  (repeat (first | with_reducible (first | refine wL fun _ => ?_ | refine wD fun _ => ?_ | refine wE ?_ | refine adrZ.go ?_) | simp [go_sem]))
  (refine aIf.mkL (fun hF => by first | omega | (simp at hF; omega)) (fun hF => ?_); clear hF)
  (repeat (first | with_reducible (first | refine wL fun _ => ?_ | refine wD fun _ => ?_ | refine wE ?_ | refine adrZ.go ?_) | simp [go_sem]))
  refine ALoop.start (ALoop.ind (α := Nat) (fun j => ⟨[(0, .sl 0 gn 6 0 l.length), (1, .fn (.func 33) [] []), (5, .v (.int .i64 j))], [(0, .rows true gn 6 (l.map encOut))], 1⟩)
    (fun d j => 1 ≤ j ∧ j + d = l.length ∧ D = l.take j ++ dedupGo (nth l (j - 1)) (l.drop j)) ?_ (l.length - 1) 1 ?_) ?_ ?_
  · rintro d j ⟨i1, i2, i3⟩ hrec
    have e1 : ((j : Int) - 1).toNat = j - 1 := by omega
    (repeat (first | with_reducible (first | refine wL fun _ => ?_ | refine wD fun _ => ?_ | refine wE ?_ | refine adrZ.go ?_) | simp [go_sem]))
    refine aIf.mkL (fun hj => ?_) (fun hj => ?_) <;> simp at hj
    · have hj' : j - 1 < l.length := by omega
      rw [dropG_cons hj, dedupGo] at i3
      (repeat (first | with_reducible (first | refine wL fun _ => ?_ | refine wD fun _ => ?_ | refine wE ?_ | refine adrZ.go ?_) | simp [go_sem, hj, hj', e1]))
      try ((with_reducible refine adrZ.go ?_); (try simp [go_sem]))
      refine dCall.plain (hE j (j - 1) hj hj') (by simp [go_sem]) ?_
      (repeat (first | with_reducible (first | refine wL fun _ => ?_ | refine wD fun _ => ?_ | refine wE ?_ | refine adrZ.go ?_) | simp [go_sem, hj, hj', e1]))
      by_cases he : nth l j = nth l (j - 1)
      · rw [if_pos he] at i3
        (repeat (first | with_reducible (first | refine wL fun _ => ?_ | refine wD fun _ => ?_ | refine wE ?_ | refine adrZ.go ?_) | simp [go_sem, he, hj, hj', e1]))
        refine ALoop.start (ALoop.ind (α := Nat × List OutD × Nat) (fun a => ⟨[(0, .sl 0 gn 6 0 l.length), (1, .fn (.func 33) [] []), (5, .v (.int .i64 a.2.2)), (6, .sl 0 gn 6 j (l.length - j)), (7, .v (.int .i64 a.1))], [(0, .rows true gn 6 (a.2.1.map encOut))], 1⟩)
          (fun d a => 1 ≤ a.1 ∧ j + a.1 + d = l.length ∧ a.2.1.length = l.length ∧ a.2.2 ≤ j + a.1 - 1 ∧ a.2.1.drop (j + a.1 - 1) = l.drop (j + a.1 - 1) ∧ D = a.2.1.take a.2.2 ++ dedupGo (nth l (j + a.1 - 1)) (l.drop (j + a.1))) ?_ (l.length - j - 1) (1, l, j) ?_) ?_ ?_
        · rintro d2 ⟨k2, R, k⟩ ⟨j1, j2, j3, j4, j5, j6⟩ hrec2
          simp only at j1 j2 j3 j4 j5 j6
          have e2 : ((k2 : Int) - 1).toNat = k2 - 1 := by omega
          have e3 : j + (k2 - 1) = j + k2 - 1 := by omega
          have hRn : ∀ m, j + k2 - 1 ≤ m → m < l.length → nth R m = nth l m := fun m h1 h2 => by
            have h3 : (R.drop (j + k2 - 1))[m - (j + k2 - 1)]? = (l.drop (j + k2 - 1))[m - (j + k2 - 1)]? := by rw [j5]
            rw [List.getElem?_drop, List.getElem?_drop, show j + k2 - 1 + (m - (j + k2 - 1)) = m by omega, List.getElem?_eq_getElem (by omega), List.getElem?_eq_getElem h2] at h3
            rw [nth_eq _ _ (by omega), nth_eq _ _ h2]
            exact Option.some.inj h3
          (repeat (first | with_reducible (first | refine wL fun _ => ?_ | refine wD fun _ => ?_ | refine wE ?_ | refine adrZ.go ?_) | simp [go_sem, j3]))
          refine aIf.mkL (fun hk => ?_) (fun hk => ?_) <;> simp at hk
          · have hk1 : j + k2 < l.length := by omega
            have hk0 : j + k2 - 1 < l.length := by omega
            have hr1 := hRn (j + k2) (by omega) hk1
            have hr0 := hRn (j + k2 - 1) (by omega) hk0
            rw [dropG_cons hk1, dedupGo] at j6
            have hk2 : k2 - 1 < l.length - j := by omega
            have hk3 : k < l.length := by omega
            (repeat (first | with_reducible (first | refine wL fun _ => ?_ | refine wD fun _ => ?_ | refine wE ?_ | refine adrZ.go ?_) | simp [go_sem, j3, hk, hk1, hk0, hr1, hr0, e2, e3, hk2]))
            try ((with_reducible refine adrZ.go ?_); (try simp [go_sem]))
            refine dCall.plain (hE (j + k2) (j + k2 - 1) hk1 hk0) (by simp [go_sem]) ?_
            (repeat (first | with_reducible (first | refine wL fun _ => ?_ | refine wD fun _ => ?_ | refine wE ?_ | refine adrZ.go ?_) | simp [go_sem, j3, hk, hk1, hk0, hr1, hr0, e2, e3, hk2]))
            by_cases hc : nth l (j + k2) = nth l (j + k2 - 1)
            · rw [if_pos hc] at j6
              (repeat (first | with_reducible (first | refine wL fun _ => ?_ | refine wD fun _ => ?_ | refine wE ?_ | refine adrZ.go ?_) | simp [go_sem, hc]))
              refine ALoop.start (hrec2 (d2 - 1) (by omega) (k2 + 1, R, k) ⟨by simp only; omega, by simp only; omega, j3, by simp only; omega, ?_, ?_⟩) ?_ (by simp)
              · have := congrArg (List.drop 1) j5
                rw [List.drop_drop, List.drop_drop] at this
                rw [show j + (k2 + 1) - 1 = j + k2 - 1 + 1 by omega]
                exact this
              · simp only
                rw [show j + (k2 + 1) - 1 = j + k2 by omega, hc]
                exact j6
              · simp [go_sem, Wk_eq]
            · rw [if_neg hc] at j6
              (repeat (first | with_reducible (first | refine wL fun _ => ?_ | refine wD fun _ => ?_ | refine wE ?_ | refine adrZ.go ?_) | simp [go_sem, hc, j3, hk, hk1, hk0, hr1, hr0, e2, e3, hk2, hk3]))
              refine ALoop.start (hrec2 (d2 - 1) (by omega) (k2 + 1, R.set k (nth l (j + k2)), k + 1) ⟨by simp only; omega, by simp only; omega, by simpa using j3, by simp only; omega, ?_, ?_⟩) ?_ (by simp)
              · have := congrArg (List.drop 1) j5
                rw [List.drop_drop, List.drop_drop] at this
                simp only
                rw [show j + (k2 + 1) - 1 = j + k2 - 1 + 1 by omega, List.drop_set, if_pos (by omega)]
                exact this
              · simp only
                rw [show j + (k2 + 1) - 1 = j + k2 by omega, List.take_add_one, List.take_set_of_le (by omega), List.getElem?_set_self (by omega), Option.toList_some, List.append_assoc]
                exact j6
              · have hb : ∀ n, ∀ r ∈ ((R.set k (nth l (j + k2))).map encOut), ∀ c ∈ r, Bel n c := fun n => of_eq_true bel_Ou
                rw [List.map_set] at hb
                simp [go_sem, Wk_eq, List.map_set]
                exact hb 1
          · rw [List.drop_eq_nil_of_le (by omega), dedupGo, List.append_nil] at j6
            have hDl : D.length = k := by rw [j6, List.length_take]; omega
            have hd0 : List.drop (k + (l.length - k)) (R.map encOut) = [] := List.drop_eq_nil_of_le (by simp; omega)
            have hDm : D.map encOut = List.take k (R.map encOut) := by rw [j6, List.map_take]
            (repeat (first | with_reducible (first | refine wL fun _ => ?_ | refine wD fun _ => ?_ | refine wE ?_ | refine adrZ.go ?_) | simp [go_sem]))
            simp [go_sem, Wk_eq, hd0, hDl, hDm, zeroO]
            exact fun x hx => of_eq_true (bel_Ou (n := 1) (l := R)) x (List.mem_of_mem_take hx)
        · refine ⟨Nat.le_refl _, by simp only; omega, rfl, by simp only; omega, rfl, ?_⟩
          simp only
          rw [Nat.add_sub_cancel, he]
          exact i3
        · simp [go_sem, Wk_eq]
        · simp
      · rw [if_neg he] at i3
        (repeat (first | with_reducible (first | refine wL fun _ => ?_ | refine wD fun _ => ?_ | refine wE ?_ | refine adrZ.go ?_) | simp [go_sem, he, hj, hj', e1]))
        refine ALoop.start (hrec (d - 1) (by omega) (j + 1) ⟨by omega, by omega, ?_⟩) ?_ (by simp)
        · rw [i3, Nat.add_sub_cancel, List.take_add_one, List.getElem?_eq_getElem hj, nth_eq _ _ hj, Option.toList_some, List.append_assoc]; rfl
        · simp [go_sem, Wk_eq]
    · rw [List.drop_eq_nil_of_le hj, List.take_of_length_le hj, dedupGo, List.append_nil] at i3
      rw [i3]
      (repeat (first | with_reducible (first | refine wL fun _ => ?_ | refine wD fun _ => ?_ | refine wE ?_ | refine adrZ.go ?_) | simp [go_sem]))
      simp [go_sem, Wk_eq]
  · refine ⟨Nat.le_refl _, by omega, ?_⟩
    cases l with
    | nil => simp at h2
    | cons a l => rw [hD]; rfl
  · simp [go_sem, Wk_eq]
  · simp
end Go.Av
end
section
set_option linter.unusedSimpArgs false
set_option linter.unusedVariables false
open Go Go.Proofs
set_option maxRecDepth 20000
set_option maxHeartbeats 4000000
namespace Go.Av
def tkRow (t : TkD) : List AV := [.sl 1 1 1 0 t.p.at_.length, .sl 2 1 1 0 t.p.h0.length, .sl 3 1 1 0 t.p.h1.length, .v (.int .i64 t.p.rights), .v (.int .i64 t.p.side), .v (.int .i64 t.kind), .v (.bool t.took)]
def tkH (t : TkD) : List (Nat × AObj) := [(0, .rows true 0 7 [tkRow t]), (1, .rows true 1 1 (t.p.at_.map encI)), (2, .rows true 1 1 (t.p.h0.map encI)), (3, .rows true 1 1 (t.p.h1.map encI))]
theorem bel_setv {n : Nat} {l : List (List AV)} {i : Nat} {v : Value} (h : ∀ r ∈ l, ∀ c ∈ r, Bel n c) : ∀ r ∈ l.set i [.v v], ∀ c ∈ r, Bel n c := by
  intro r hr c hc
  rcases List.mem_or_eq_of_mem_set hr with hr | rfl
  · exact h r hr c hc
  · simp only [List.mem_singleton] at hc
    subst hc
    exact .v _
theorem do_owns (g : GameD) (hg : GOk g) (side : Int) (hs : side = 0 ∨ side = 1) (t : TkD) (ht : POk g t.p) (x : ActD) (hx : ActOk g.cells g.kinds.length g.rights x) :
    OwnsA Tryz.prog 28 [.ref 0 0 7 0 0, .agg (encGame g), .v (.int .i64 side), .agg (encAct x)] (tkH t) 4 (.v (.bool (doA g side t x).2)) (tkH (doA g side t x).1) 4 := by
  unfold OwnsA
  have hal := ht.al
  have hl0 := ht.h0.len
  have hl1 := ht.h1.len
  have r4 := hg.r4
  obtain ⟨op, a, b⟩ := x
  unfold ActOk at hx
  simp only at hx
  unfold tkH tkRow encAct
  refine ACallP.of_awp (by kernel_rfl) Tryz.func28 rfl rfl (Nat.le_of_ble_eq_true rfl) (by kernel_rfl) ?_
  rcases (show op = 3 ∨ op = 4 ∨ op = 5 ∨ op = 6 ∨ op = 7 ∨ op = 8 ∨ op = 9 ∨ op = 10 by omega) with rfl | rfl | rfl | rfl | rfl | rfl | rfl | rfl
  · have ha : a.toNat < t.p.at_.length := by omega
    (repeat (first | with_reducible (first | refine wL fun _ => ?_ | refine wD fun _ => ?_ | refine wE ?_ | refine adrZ.go ?_) | simp [go_sem, ha]))
    simp [go_sem, Wk_eq, doA]
  · have ha : a.toNat < t.p.at_.length := by omega
    have hM := gMan_pure (nth t.p.at_ a.toNat)
    (repeat (first | with_reducible (first | refine wL fun _ => ?_ | refine wD fun _ => ?_ | refine wE ?_ | refine adrZ.go ?_) | simp [go_sem, ha]))
    refine ACallP.of_awp (by kernel_rfl) Tryz.func46 rfl rfl (Nat.le_of_ble_eq_true rfl) (by kernel_rfl) ?_
    (repeat (first | with_reducible (first | refine wL fun _ => ?_ | refine wD fun _ => ?_ | refine wE ?_ | refine adrZ.go ?_) | simp [go_sem, ha]))
    try ((with_reducible refine adrZ.go ?_); (try simp [go_sem]))
    refine dCall.plain hM (by simp [go_sem]) ?_
    (repeat (first | with_reducible (first | refine wL fun _ => ?_ | refine wD fun _ => ?_ | refine wE ?_ | refine adrZ.go ?_) | simp [go_sem]))
    simp [go_sem, Wk_eq, doA]
  · have ha : a.toNat < t.p.at_.length := by omega
    have hM := gMan_pure (nth t.p.at_ a.toNat)
    (repeat (first | with_reducible (first | refine wL fun _ => ?_ | refine wD fun _ => ?_ | refine wE ?_ | refine adrZ.go ?_) | simp [go_sem, ha]))
    refine ACallP.of_awp (by kernel_rfl) Tryz.func46 rfl rfl (Nat.le_of_ble_eq_true rfl) (by kernel_rfl) ?_
    (repeat (first | with_reducible (first | refine wL fun _ => ?_ | refine wD fun _ => ?_ | refine wE ?_ | refine adrZ.go ?_) | simp [go_sem, ha]))
    try ((with_reducible refine adrZ.go ?_); (try simp [go_sem]))
    refine dCall.plain hM (by simp [go_sem]) ?_
    (repeat (first | with_reducible (first | refine wL fun _ => ?_ | refine wD fun _ => ?_ | refine wE ?_ | refine adrZ.go ?_) | simp [go_sem]))
    simp [go_sem, Wk_eq, doA]
  · have ha : a.toNat < t.p.at_.length := by omega
    have hM := gMan_pure (nth t.p.at_ a.toNat)
    have hat := ht.at (i := a.toNat) (by omega)
    have hman := manOf_cases hat.1 hat.2 hg.k6
    have hdo : doA g side t (6, a, b) = takeA g side t a := rfl
    rw [hdo]
    unfold takeA
    generalize hm : manOf (nth t.p.at_ a.toNat) = m at *
    obtain ⟨mk, ms⟩ := m
    simp only [Prod.mk.injEq] at hman
    simp only
    (repeat (first | with_reducible (first | refine wL fun _ => ?_ | refine wD fun _ => ?_ | refine wE ?_ | refine adrZ.go ?_) | simp [go_sem, ha]))
    refine ACallP.of_awp (by kernel_rfl) Tryz.func46 rfl rfl (Nat.le_of_ble_eq_true rfl) (by kernel_rfl) ?_
    (repeat (first | with_reducible (first | refine wL fun _ => ?_ | refine wD fun _ => ?_ | refine wE ?_ | refine adrZ.go ?_) | simp [go_sem, ha]))
    try ((with_reducible refine adrZ.go ?_); (try simp [go_sem]))
    refine dCall.plain hM (by simp [go_sem]) ?_
    (repeat (first | with_reducible (first | refine wL fun _ => ?_ | refine wD fun _ => ?_ | refine wE ?_ | refine adrZ.go ?_) | simp [go_sem]))
    by_cases hms : ms = 1 - side
    case neg =>
      rw [if_neg hms]
      (repeat (first | with_reducible (first | refine wL fun _ => ?_ | refine wD fun _ => ?_ | refine wE ?_ | refine adrZ.go ?_) | simp [go_sem, hms]))
      simp [go_sem, Wk_eq]
    case pos =>
      rw [if_pos hms]
      have hmk : mk.toNat < g.kinds.length := by omega
      have hmk' : 0 ≤ mk := by omega
      subst hms
      (repeat (first | with_reducible (first | refine wL fun _ => ?_ | refine wD fun _ => ?_ | refine wE ?_ | refine adrZ.go ?_) | simp [go_sem, ha, hmk, hmk']))
      refine aIf.mkL (fun hk => ?_) (fun hk => ?_)
      · rw [if_pos hk]
        rcases hs with rfl | rfl
        · have hmk0 : mk.toNat < t.p.h0.length := by omega
          have hv := ht.h0.v _ hmk0
          (repeat (first | with_reducible (first | refine wL fun _ => ?_ | refine wD fun _ => ?_ | refine wE ?_ | refine adrZ.go ?_) | simp [go_sem, hmk0, PosD.hand, PosD.withHand, clr]))
          simp [go_sem, Wk_eq, PosD.hand, PosD.withHand, clr]
        · have hmk0 : mk.toNat < t.p.h1.length := by omega
          have hv := ht.h1.v _ hmk0
          (repeat (first | with_reducible (first | refine wL fun _ => ?_ | refine wD fun _ => ?_ | refine wE ?_ | refine adrZ.go ?_) | simp [go_sem, hmk0, PosD.hand, PosD.withHand, clr]))
          simp [go_sem, Wk_eq, PosD.hand, PosD.withHand, clr]
      · rw [if_neg (by simpa using hk)]
        (repeat (first | with_reducible (first | refine wL fun _ => ?_ | refine wD fun _ => ?_ | refine wE ?_ | refine adrZ.go ?_) | simp [go_sem, clr]))
        simp [go_sem, Wk_eq, clr]
  · have ha : a.toNat < t.p.at_.length := by omega
    have hb : b.toNat < t.p.at_.length := by omega
    have hdo : doA g side t (7, a, b) = pushA t a b := rfl
    rw [hdo]
    unfold pushA
    by_cases h1 : nth t.p.at_ a.toNat = 0
    · rw [if_pos (.inl h1)]
      (repeat (first | with_reducible (first | refine wL fun _ => ?_ | refine wD fun _ => ?_ | refine wE ?_ | refine adrZ.go ?_) | simp [go_sem, ha, hb, h1]))
      simp [go_sem, Wk_eq]
    · by_cases h2 : nth t.p.at_ b.toNat = 0
      · rw [if_neg (by rintro (h | h); exact h1 h; exact h h2)]
        (repeat (first | with_reducible (first | refine wL fun _ => ?_ | refine wD fun _ => ?_ | refine wE ?_ | refine adrZ.go ?_) | simp [go_sem, ha, hb, h1, h2]))
        simp [go_sem, Wk_eq]
        refine bel_setv (bel_setv ?_)
        simp [go_sem]
      · rw [if_pos (.inr h2)]
        (repeat (first | with_reducible (first | refine wL fun _ => ?_ | refine wD fun _ => ?_ | refine wE ?_ | refine adrZ.go ?_) | simp [go_sem, ha, hb, h1, h2]))
        simp [go_sem, Wk_eq]
  · (repeat (first | with_reducible (first | refine wL fun _ => ?_ | refine wD fun _ => ?_ | refine wE ?_ | refine adrZ.go ?_) | simp [go_sem]))
    simp [go_sem, Wk_eq, doA]
  · (repeat (first | with_reducible (first | refine wL fun _ => ?_ | refine wD fun _ => ?_ | refine wE ?_ | refine adrZ.go ?_) | simp [go_sem]))
    simp [go_sem, Wk_eq, doA]
  · have hpn := pow_le16 (show 0 ≤ a by omega) (show a ≤ 4 by omega)
    (repeat (first | with_reducible (first | refine wL fun _ => ?_ | refine wD fun _ => ?_ | refine wE ?_ | refine adrZ.go ?_) | simp [go_sem]))
    simp [go_sem, Wk_eq, doA]
end Go.Av
end
section
set_option linter.unusedSimpArgs false
set_option linter.unusedVariables false
open Go Go.Proofs
set_option maxRecDepth 20000
set_option maxHeartbeats 4000000
namespace Go.Av
/-- the cells of a taken, its slices at objects -/
def tkAt (a b c : Nat) (t : TkD) : List AV := [.sl a 1 1 0 t.p.at_.length, .sl b 1 1 0 t.p.h0.length, .sl c 1 1 0 t.p.h1.length, .v (.int .i64 t.p.rights), .v (.int .i64 t.p.side), .v (.int .i64 t.kind), .v (.bool t.took)]
def tkUp (h : Heap) (o a b c : Nat) (t : TkD) : Heap :=
  upd (upd (upd (upd h o (some (.rows true 0 7 [tkAt a b c t]))) a (some (.rows true 1 1 (t.p.at_.map encI)))) b (some (.rows true 1 1 (t.p.h0.map encI)))) c (some (.rows true 1 1 (t.p.h1.map encI)))
theorem bel_map_encI {n : Nat} (l : List Int) : ∀ r ∈ l.map encI, ∀ c ∈ r, Bel n c := by
  intro r hr c hc
  obtain ⟨x, _, rfl⟩ := List.mem_map.1 hr
  simp only [encI, List.mem_singleton] at hc
  subst hc
  exact .v _
theorem tk_rn (o a b c n : Nat) (t : TkD) : RnL (ren [o, a, b, c] n) (tkRow t) (tkAt a b c t) :=
  .cons (.sl rfl) (.cons (.sl rfl) (.cons (.sl rfl) (.cons (.same (.v _)) (.cons (.same (.v _)) (.cons (.same (.v _)) (.cons (.same (.v _)) .nil))))))
theorem do_call (g : GameD) (hg : GOk g) (side : Int) (hs : side = 0 ∨ side = 1) (t : TkD) (ht : POk g t.p) (x : ActD) (hx : ActOk g.cells g.kinds.length g.rights x) {h : Heap} {n o a b c : Nat}
    (hd : [o, a, b, c].Nodup) (hlt : ∀ j ∈ [o, a, b, c], j < n) (ho : h o = some (.rows true 0 7 [tkAt a b c t])) (ha : h a = some (.rows true 1 1 (t.p.at_.map encI)))
    (hb : h b = some (.rows true 1 1 (t.p.h0.map encI))) (hc : h c = some (.rows true 1 1 (t.p.h1.map encI))) {K : CallK}
    (hK : K (.v (.bool (doA g side t x).2)) (tkUp h o a b c (doA g side t x).1) n) :
    ACallP Tryz.prog 28 [.ref o 0 7 0 0, .agg (encGame g), .v (.int .i64 side), .agg (encAct x)] h n K := by
  have hbg : ∀ m, Bel m (.agg (encGame g)) := fun m => by simp [go_sem]
  have hba : ∀ m, Bel m (.agg (encAct x)) := fun m => by simp [go_sem]
  refine ACallP.ownsA (args' := [.ref o 0 7 0 0, .agg (encGame g), .v (.int .i64 side), .agg (encAct x)])
    (HH := [(o, .rows true 0 7 [tkAt a b c (doA g side t x).1]), (a, .rows true 1 1 ((doA g side t x).1.p.at_.map encI)), (b, .rows true 1 1 ((doA g side t x).1.p.h0.map encI)), (c, .rows true 1 1 ((doA g side t x).1.p.h1.map encI))])
    [o, a, b, c] h (do_owns g hg side hs t ht x hx) hd hlt rfl (Nat.le_refl _) (.refl _) ?_ ?_ (.refl _ _ _ _) ?_ ?_ ?_ (.same (.v _)) ?_ ?_
  · intro j hj
    rcases (show j = 0 ∨ j = 1 ∨ j = 2 ∨ j = 3 by omega) with rfl | rfl | rfl | rfl
    · exact ⟨_, _, rfl, ho, .rows (.cons (tk_rn o a b c n t) .nil)⟩
    · exact ⟨_, _, rfl, ha, .rows (.same (bel_map_encI _))⟩
    · exact ⟨_, _, rfl, hb, .rows (.same (bel_map_encI _))⟩
    · exact ⟨_, _, rfl, hc, .rows (.same (bel_map_encI _))⟩
  · intro p hp
    simp only [tkH, List.mem_cons, List.not_mem_nil, or_false] at hp
    rcases hp with rfl | rfl | rfl | rfl
    · exact ⟨Nat.le_of_ble_eq_true rfl, by simp [tkRow, go_sem, BelO]⟩
    · exact ⟨Nat.le_of_ble_eq_true rfl, bel_map_encI _⟩
    · exact ⟨Nat.le_of_ble_eq_true rfl, bel_map_encI _⟩
    · exact ⟨Nat.le_of_ble_eq_true rfl, bel_map_encI _⟩
  · intro y hy
    simp only [List.mem_cons, List.not_mem_nil, or_false] at hy
    rcases hy with rfl | rfl | rfl | rfl
    · exact .ref (hlt o (by simp))
    · exact hbg _
    · exact .v _
    · exact hba _
  · exact .cons (.ref rfl) (.cons (.same (hbg _)) (.cons (.same (.v _)) (.cons (.same (hba _)) .nil)))
  · intro y hy
    simp only [List.mem_cons, List.not_mem_nil, or_false] at hy
    rcases hy with rfl | rfl | rfl | rfl
    · exact .ref (by decide)
    · exact hbg _
    · exact .v _
    · exact hba _
  · exact .cons rfl (.rows (.cons (tk_rn o a b c n _) .nil)) (.cons rfl (.rows (.same (bel_map_encI _))) (.cons rfl (.rows (.same (bel_map_encI _))) (.cons rfl (.rows (.same (bel_map_encI _))) .nil)))
  · have e : over [(o, .rows true 0 7 [tkAt a b c (doA g side t x).1]), (a, .rows true 1 1 ((doA g side t x).1.p.at_.map encI)), (b, .rows true 1 1 ((doA g side t x).1.p.h0.map encI)), (c, .rows true 1 1 ((doA g side t x).1.p.h1.map encI))] (remH [o, a, b, c] h) = tkUp h o a b c (doA g side t x).1 := by
      simp only [List.nodup_cons, List.mem_cons, List.not_mem_nil, or_false, not_or, List.nodup_nil, and_true, not_false_eq_true] at hd
      obtain ⟨⟨d1, d2, d3⟩, ⟨d4, d5⟩, d6⟩ := hd
      funext j
      simp only [over, remH, tkUp, upd]
      by_cases j1 : j = o
      · subst j1; simp [d1, d2, d3]
      · by_cases j2 : j = a
        · subst j2; simp [d4, d5, j1]
        · by_cases j3 : j = b
          · subst j3; simp [d6, j1, j2]
          · by_cases j4 : j = c
            · subst j4; simp [j1, j2, j3]
            · simp [j1, j2, j3, j4]
    rw [e, Nat.sub_self, Nat.add_zero]
    exact hK
theorem bel_map_encOut {n : Nat} (l : List OutD) : ∀ r ∈ l.map encOut, ∀ c ∈ r, Bel n c := of_eq_true bel_Ou
theorem compact_call (l : List OutD) (gn : Nat) (hl : l.length ≤ 1073741824) (hf : ∀ o ∈ l, FitsP o.pos) {h : Heap} {n o : Nat} (ho : h o = some (.rows true gn 6 (l.map encOut))) (hon : o < n) {K : CallK}
    (hK : K (.sl o gn 6 0 (dedup l).length) (upd h o (some (.rows true gn 6 ((dedup l).map encOut ++ List.replicate (l.length - (dedup l).length) zeroO)))) n) :
    ACallP Tryz.prog 32 [.sl o gn 6 0 l.length, .fn (.func 33) [] []] h n K := by
  have hz : ∀ m, ∀ r ∈ (dedup l).map encOut ++ List.replicate (l.length - (dedup l).length) zeroO, ∀ c ∈ r, Bel m c := by
    intro m r hr c hc
    rcases List.mem_append.1 hr with hr | hr
    · exact bel_map_encOut _ r hr c hc
    · rw [List.eq_of_mem_replicate hr] at hc
      simp only [zeroO, List.mem_cons, List.not_mem_nil, or_false] at hc
      rcases hc with rfl | rfl | rfl | rfl | rfl | rfl <;> exact .v _
  refine ACallP.ownsA (args' := [.sl o gn 6 0 l.length, .fn (.func 33) [] []]) (HH := [(o, .rows true gn 6 ((dedup l).map encOut ++ List.replicate (l.length - (dedup l).length) zeroO))])
    [o] h (Compact_owns l gn hl hf) (by simp) (by simpa using hon) rfl (Nat.le_refl _) (.refl _) ?_ ?_ (.refl _ _ _ _) ?_ ?_ ?_ (.sl rfl) ?_ ?_
  · intro j hj
    obtain rfl : j = 0 := by omega
    exact ⟨_, _, rfl, ho, .rows (.same (bel_map_encOut _))⟩
  · intro p hp
    simp only [List.mem_singleton] at hp
    subst hp
    exact ⟨Nat.le_of_ble_eq_true rfl, bel_map_encOut _⟩
  · intro y hy
    simp only [List.mem_cons, List.not_mem_nil, or_false] at hy
    rcases hy with rfl | rfl
    · exact .sl hon
    · simp [go_sem]
  · exact .cons (.sl rfl) (.cons (.same (by simp [go_sem])) .nil)
  · intro y hy
    simp only [List.mem_cons, List.not_mem_nil, or_false] at hy
    rcases hy with rfl | rfl
    · exact .sl (by decide)
    · simp [go_sem]
  · exact .cons rfl (.rows (.same (hz 0))) .nil
  · have e : over [(o, .rows true gn 6 ((dedup l).map encOut ++ List.replicate (l.length - (dedup l).length) zeroO))] (remH [o] h) = upd h o (some (.rows true gn 6 ((dedup l).map encOut ++ List.replicate (l.length - (dedup l).length) zeroO))) := by
      funext j
      simp only [over, remH, upd]
      by_cases j1 : j = o
      · simp [j1]
      · simp [j1]
    rw [e, Nat.sub_self, Nat.add_zero]
    exact hK
theorem compact_call2 (l : List OutD) (gn m : Nat) (hm : l.length = m) (hl : m ≤ 1073741824) (hf : ∀ o ∈ l, FitsP o.pos) {h : Heap} {n o : Nat} (ho : h o = some (.rows true gn 6 (l.map encOut))) (hon : o < n) {K : CallK}
    (hK : K (.sl o gn 6 0 (dedup l).length) (upd h o (some (.rows true gn 6 ((dedup l).map encOut ++ List.replicate (l.length - (dedup l).length) zeroO)))) n) :
    ACallP Tryz.prog 32 [.sl o gn 6 0 m, .fn (.func 33) [] []] h n K := by
  subst hm
  exact compact_call l gn hl hf ho hon hK
end Go.Av
end
section
set_option linter.unusedSimpArgs false
set_option linter.unusedVariables false
namespace Go.Av
open Go
section
variable {P : Program} {n0 : Nat} {Q : Post} {e : Env} {h : Heap} {n : Nat} {ops rest : List Oper}
def aRange (P : Program) (n0 : Nat) (ps : List Tmp) (a b : Code) (Q : Post) (v : AV) (e : Env) (h : Heap) (n : Nat) : Prop :=
  ∃ f caps caps' more rows h', v = .fn (.func f) [] caps ∧ Frz h h' ∧ LeRow h h' n caps caps' ∧ (∀ c ∈ caps', Bel 0 c) ∧ PSeq P f caps' more rows ∧
    (∀ xs ∈ rows, xs.length = ps.length) ∧ Fgt n0 (ARange n0 more ps (fun n1 => awp P n1 a) (fun n1 => awp P n1 b) Q rows) e h' n
theorem awp_rangeFunc (g : Operand) (ps : List Tmp) (a b : Code) : awp P n0 (.rangeFunc g ps.toArray a b) Q e h n = aRange P n0 ps a b Q (ev e g) e h n := rfl
@[congr] theorem aRange_congr {ps : List Tmp} {a b : Code} {v v' : AV} (hv : v = v') : aRange P n0 ps a b Q v e h n = aRange P n0 ps a b Q v' e h n := by subst hv; rfl
theorem aRange.mk {ps : List Tmp} {a b : Code} {f : FuncId} {caps : List AV} (caps' : List AV) (h' : Heap) {more : Nat} {rows : List (List AV)} (C : PSeq P f caps' more rows) (hfz : Frz h h') (hle : LeRow h h' n caps caps') (hb : ∀ c ∈ caps', Bel 0 c)
    (hlen : ∀ xs ∈ rows, xs.length = ps.length) (hk : Fgt n0 (ARange n0 more ps (fun n1 => awp P n1 a) (fun n1 => awp P n1 b) Q rows) e h' n) : aRange P n0 ps a b Q (.fn (.func f) [] caps) e h n :=
  ⟨f, caps, caps', more, rows, h', rfl, hfz, hle, hb, C, hlen, hk⟩
/-- a round -/
theorem ARange.go {ps : List Tmp} {a b : Code} {more : Nat} {xs : List AV} {rs : List (List AV)} (hn : n0 ≤ n)
    (hk : awp P n a (QNone (awp P n b (QRound (Fgt n0 (ARange n0 more ps (fun n1 => awp P n1 a) (fun n1 => awp P n1 b) Q rs)) Q e))) (putPs ps xs e) h n) :
    ARange n0 more ps (fun n1 => awp P n1 a) (fun n1 => awp P n1 b) Q (xs :: rs) e h n := ⟨hn, hk⟩
theorem ARange.stop {ps : List Tmp} {A B : Nat → Post → Env → Heap → Nat → Prop} {more : Nat} (hm : more = 0) (hk : Q .normal e h n) : ARange n0 more ps A B Q [] e h n := ⟨hm, hk⟩
theorem Fgt.to {K : Env → Heap → Nat → Prop} {E : List (Nat × AV)} {HH : List (Nat × AObj)} {n' : Nat} (hk : K (mkE E) (mkH HH) n') (hw : Wk e h n E HH n') (hn : n0 ≤ n') : Fgt n0 K e h n := .inr ⟨E, HH, n', hw, hn, hk⟩
/-- a range, by induction over its rows -/
theorem ARange.ind {α : Type} (S : α → List (Nat × AV) × List (Nat × AObj) × Nat) (inv : List (List AV) → α → Prop) {ps : List Tmp} {A B : Nat → Post → Env → Heap → Nat → Prop} {more : Nat}
    (h0 : ∀ d, inv [] d → more = 0 ∧ Q .normal (mkE (S d).1) (mkH (S d).2.1) (S d).2.2)
    (h1 : ∀ xs rs d, inv (xs :: rs) d → (∀ d', inv rs d' → ARange n0 more ps A B Q rs (mkE (S d').1) (mkH (S d').2.1) (S d').2.2) → ARange n0 more ps A B Q (xs :: rs) (mkE (S d).1) (mkH (S d).2.1) (S d).2.2) :
    ∀ rows d, inv rows d → ARange n0 more ps A B Q rows (mkE (S d).1) (mkH (S d).2.1) (S d).2.2
  | [], d, hi => h0 d hi
  | xs :: rs, d, hi => h1 xs rs d hi fun d' hi' => ARange.ind S inv h0 h1 rs d' hi'
theorem QNone_normal {K : Env → Heap → Nat → Prop} : QNone K .normal e h n = K e h n := rfl
theorem QRound_normal {K : Env → Heap → Nat → Prop} {e0 : Env} : QRound K Q e0 .normal e h n = K (upd e0 GH (e GH)) h n := rfl
theorem QRound_ret {K : Env → Heap → Nat → Prop} {e0 : Env} : QRound K Q e0 .ret e h n = Q .ret (upd e0 GH (e GH)) h n := rfl
theorem QRound_exit {K : Env → Heap → Nat → Prop} {e0 : Env} {id : Nat} : QRound K Q e0 (.exit id) e h n = Q (.exit id) (upd e0 GH (e GH)) h n := rfl
theorem putPs_nil {xs : List AV} : putPs [] xs e = e := by simp [putPs]
theorem putPs_cons {t : Tmp} {ps : List Tmp} {x : AV} {xs : List AV} : putPs (t :: ps) (x :: xs) e = putPs ps xs (upd e t x) := rfl
theorem RetI_normal {rs : List ResultVar} {l more : Nat} : RetI P rs l more .normal e h n = ((resL P e h rs).1 ∧ ((more = 0 ∧ e GH = ghost l 0 []) ∨ e GH = ghost l 2 [])) := rfl
theorem RetI_ret {rs : List ResultVar} {l more : Nat} : RetI P rs l more .ret e h n = ((resL P e h rs).1 ∧ ((more = 0 ∧ e GH = ghost l 0 []) ∨ e GH = ghost l 2 [])) := rfl
/-- a yield -/
theorem aYld.mk {dst : Option Tmp} {l more : Nat} {args xs : List AV} {rs : List (List AV)} (h' : Heap) (hg : e GH = ghost l more (xs :: rs)) (hfz : Frz h h') (hle : LeRow h h' n args xs) (hb : ∀ c ∈ xs, Bel 0 c)
    (hT : aops P ops Q rest (put (upd e GH (ghost l more rs)) dst (.v (.bool true))) h' n) (hF : aops P ops Q rest (put (upd e GH (ghost l 2 [])) dst (.v (.bool false))) h' n) : aYld P ops Q rest dst l args e h n :=
  ⟨l, more, xs :: rs, rfl, hg, h', hfz, hle, hb, hT, hF⟩
theorem aYld.exh {dst : Option Tmp} {l : Nat} {args : List AV} (hg : e GH = ghost l 1 []) : aYld P ops Q rest dst l args e h n := ⟨l, 1, [], rfl, hg, rfl⟩
theorem aGC.yld {dst : Option Tmp} {l more : Nat} {args xs : List AV} {rs : List (List AV)} (h' : Heap) (hg : e GH = ghost l more (xs :: rs)) (hfz : Frz h h') (hle : LeRow h h' n args xs) (hb : ∀ c ∈ xs, Bel 0 c)
    (hT : aops P ops Q rest (put (upd e GH (ghost l more rs)) dst (.gd true (.v (.bool true)))) h' n) (hF : aops P ops Q rest (put (upd e GH (ghost l 2 [])) dst (.gd true (.v (.bool false)))) h' n) :
    aGC P ops Q rest dst true (.fn (.yield l) [] []) args e h n := .inr (.inr ⟨rfl, l, more, xs :: rs, rfl, hg, h', hfz, hle, hb, hT, hF⟩)
theorem aGC.exh {dst : Option Tmp} {l : Nat} {args : List AV} (hg : e GH = ghost l 1 []) : aGC P ops Q rest dst true (.fn (.yield l) [] []) args e h n := .inr (.inr ⟨rfl, l, 1, [], rfl, hg, rfl⟩)
attribute [go_sem] awp_rangeFunc QNone_normal QRound_normal QRound_ret QRound_exit putPs_nil putPs_cons RetI_normal RetI_ret aCall_yield
end
end Go.Av
end
section
set_option linter.unusedSimpArgs false
set_option linter.unusedVariables false
namespace Go.Av
open Go
theorem ACallP.clear {P : Program} {f : FuncId} {args : List AV} {h : Heap} {n : Nat} {K : CallK}
    (hc : ACallP P f args h n (fun r h' n' => ∃ o mt g sz rs, h' o = some (.rows mt g sz rs) ∧ K r (upd h' o (some (.rows mt g sz []))) n')) : ACallP P f args h n K := by
  refine ⟨hc.1, fun M0 φ w vs hH hargs => (hc.2 M0 φ w vs hH hargs).mono ?_⟩
  rintro e w' ⟨v, φ', r, h', n', rfl, ⟨o, mt, g, sz, rs, ho, hK⟩, hH', hx, st⟩
  have hmut : Mut φ' (upd h' o (some (.rows mt g sz []))) = Mut φ' h' := by
    funext k
    refine propext ⟨?_, ?_⟩
    · rintro ⟨o1, g1, sz1, rs1, g', a, bs, h1, h2, h3⟩
      by_cases he : o1 = o
      · subst he
        rw [upd_same] at h1
        simp only [Option.some.injEq, AObj.rows.injEq] at h1
        obtain ⟨rfl, rfl, rfl, _⟩ := h1
        exact ⟨o1, g, sz, rs, g', a, bs, ho, h2, h3⟩
      · rw [upd_ne _ _ he] at h1
        exact ⟨o1, g1, sz1, rs1, g', a, bs, h1, h2, h3⟩
    · rintro ⟨o1, g1, sz1, rs1, g', a, bs, h1, h2, h3⟩
      by_cases he : o1 = o
      · subst he
        rw [ho] at h1
        simp only [Option.some.injEq, AObj.rows.injEq] at h1
        obtain ⟨rfl, rfl, rfl, _⟩ := h1
        exact ⟨o1, g, sz, [], g', a, bs, by rw [upd_same], h2, h3⟩
      · exact ⟨o1, g1, sz1, rs1, g', a, bs, by rw [upd_ne _ _ he]; exact h1, h2, h3⟩
  have hold : ∀ o1 mt1 g1 sz1 rs1, upd h' o (some (.rows mt g sz [])) o1 = some (.rows mt1 g1 sz1 rs1) → ∃ rs2, h' o1 = some (.rows mt1 g1 sz1 rs2) ∧ (rs1 = rs2 ∨ rs1 = []) := by
    intro o1 mt1 g1 sz1 rs1 h1
    by_cases he : o1 = o
    · subst he
      rw [upd_same] at h1
      simp only [Option.some.injEq, AObj.rows.injEq] at h1
      obtain ⟨rfl, rfl, rfl, rfl⟩ := h1
      exact ⟨rs, ho, .inr rfl⟩
    · rw [upd_ne _ _ he] at h1
      exact ⟨rs1, h1, .inl rfl⟩
  refine ⟨v, φ', r, _, n', rfl, hK, ⟨hH'.m0, hH'.fresh, fun o1 mt1 g1 sz1 rs1 h1 => ?_, fun o1 o2 mt1 g1 sz1 rs1 mt2 g2 sz2 rs2 a a' b b' h1 h2 => ?_⟩, by rw [hmut]; exact hx, st.le, by rw [hmut]; exact st.or, st.fr, by rw [hmut]; exact st.mutd⟩
  · obtain ⟨rs2, h2, h3⟩ := hold _ _ _ _ _ h1
    obtain ⟨A, hA, hobj⟩ := hH'.obj _ _ _ _ _ h2
    rcases h3 with rfl | rfl
    · rw [hmut]; exact ⟨A, hA, hobj⟩
    · refine ⟨A, hA, hobj.imp (fun h => ⟨h.1, rfl⟩) ?_⟩
      rintro ⟨a, bs, C, T, e1, e2, e3, e4, e5, e6, e7, e8, e9⟩
      exact ⟨a, bs, C, T, e1, e2, e3, e4, e5, by simp, by simp; omega, by simp, by simpa using RelL.nil⟩
  · obtain ⟨rs3, h3, _⟩ := hold _ _ _ _ _ h1
    obtain ⟨rs4, h4, _⟩ := hold _ _ _ _ _ h2
    exact hH'.inj _ _ _ _ _ _ _ _ _ _ _ _ _ _ h3 h4
end Go.Av
end
section
set_option linter.unusedSimpArgs false
set_option linter.unusedVariables false
set_option maxHeartbeats 400000
namespace Go.Av
open Go Go.Sort Go.Shelf Go.Proofs
/-- an element of a row: its data, and its cells in the world at hand -/
structure El (w : World) (M : Nat → Prop) {α : Type} (en : α → List AV) (Q : α → Prop) where
  x : α
  vs : List Value
  q : Q x
  rel : RelL noP w M (en x) vs
  cells : ∀ v ∈ vs, cellV v = true
theorem elems {w : World} {M : Nat → Prop} {α : Type} {en : α → List AV} {Q : α → Prop} : ∀ {l : List α} {W : List Value}, (∀ x ∈ l, Q x) → RelL noP w M (l.map en).flatten W → (∀ v ∈ W, cellV v = true) →
    ∃ ls : List (El w M en Q), ls.map (·.x) = l ∧ (ls.map (·.vs)).flatten = W
  | [], W, _, h, _ => by cases h; exact ⟨[], rfl, rfl⟩
  | x :: l, W, hq, h, hc => by
    rw [List.map_cons, List.flatten_cons] at h
    obtain ⟨us, ts, rfl, h1, h2⟩ := h.split
    obtain ⟨ls, e1, e2⟩ := elems (fun y hy => hq y (by simp [hy])) h2 (fun v hv => hc v (by simp [hv]))
    exact ⟨⟨x, us, hq x (by simp), h1, fun v hv => hc v (by simp [hv])⟩ :: ls, by simp [e1], by simp [e2]⟩
theorem flat_get {k : Nat} (hk : 0 < k) : ∀ (ls : List (List Value)) (t : Nat), (∀ r ∈ ls, r.length = k) → t < ls.length * k → ls.flatten[t]? = (ls[t / k]?).bind (·[t % k]?)
  | [], t, _, h => by simp at h
  | r :: ls, t, hr, h => by
    have hl : r.length = k := hr r (by simp)
    rw [List.flatten_cons]
    by_cases ht : t < k
    · rw [List.getElem?_append_left (by omega), Nat.div_eq_of_lt ht, Nat.mod_eq_of_lt ht]; rfl
    · obtain ⟨s, rfl⟩ : ∃ s, t = s + k := ⟨t - k, by omega⟩
      have hs : s < ls.length * k := by simp only [List.length_cons, Nat.add_mul, Nat.one_mul] at h; omega
      rw [List.getElem?_append_right (by omega), hl, Nat.add_sub_cancel, flat_get hk ls s (fun r hr' => hr r (by simp [hr'])) hs, Nat.add_div_right _ hk, Nat.add_mod_right, List.getElem?_cons_succ]
theorem flatK_list {β : Type} [Inhabited β] (enc : β → List Value) {k : Nat} (hk0 : 0 < k) (hk : ∀ x, (enc x).length = k) (d : Array β) : (flatK enc k d).toList = (d.toList.map enc).flatten := by
  refine List.ext_getElem? fun t => ?_
  have hr : ∀ r ∈ d.toList.map enc, r.length = k := fun r hr => by obtain ⟨x, _, rfl⟩ := List.mem_map.1 hr; exact hk x
  have hlen : ((d.toList.map enc).flatten).length = d.size * k := by
    have : ∀ ls : List (List Value), (∀ r ∈ ls, r.length = k) → ls.flatten.length = ls.length * k := by
      intro ls
      induction ls with
      | nil => intro _; simp
      | cons r ls ih => intro h; rw [List.flatten_cons, List.length_append, ih (fun r hr => h r (by simp [hr])), h r (by simp), List.length_cons, Nat.add_mul]; omega
    rw [this _ hr]; simp
  by_cases ht : t < d.size * k
  · have h1 := get_flatK enc k d t ht
    have hq : t / k < d.size := Nat.div_lt_of_lt_mul (by rw [Nat.mul_comm]; exact ht)
    have hm : t % k < k := Nat.mod_lt _ hk0
    have hs : t < (flatK enc k d).size := by rw [size_flatK]; exact ht
    rw [flat_get hk0 _ t hr (by simpa using ht), Array.getElem?_toList, Array.getElem?_eq_getElem hs, ← getElem!_pos (flatK enc k d) t hs, h1, List.getElem?_map, Array.getElem?_toList, Array.getElem?_eq_getElem hq,
      getElem!_pos d (t / k) hq]
    simp only [Option.map_some, Option.bind_some]
    rw [List.getElem?_eq_getElem (by rw [hk]; exact hm), getElem!_pos _ _ (by rw [hk]; exact hm)]
  · rw [List.getElem?_eq_none (by rw [Array.length_toList, size_flatK]; omega), List.getElem?_eq_none (by omega)]
/-- the world behind the sort -/
theorem sort_world {w : World} {blk off : Nat} {C : Array Value} {T : TypeId} (hb : w.heap[blk]? = some (.cells C T (0, 0))) {F : Array Value} (hF : off + F.size ≤ C.size) (n : Nat) (os : Array Obj) :
    ∃ C', (grow (putRow id (Sort.ahead w n) blk off F) os).heap[blk]? = some (.cells C' T (0, 0)) ∧ C'.size = C.size ∧ (C'.toList.drop off).take F.size = F.toList ∧
      (∀ j, j ≠ blk → j < w.heap.size → (grow (putRow id (Sort.ahead w n) blk off F) os).heap[j]? = w.heap[j]?) ∧ w.heap.size ≤ (grow (putRow id (Sort.ahead w n) blk off F) os).heap.size := by
  have hlt : blk < w.heap.size := (Array.getElem?_eq_some_iff.1 hb).1
  have hsz : (putRow id (Sort.ahead w n) blk off F).heap.size = w.heap.size := by rw [Sort.size_putRow]; rfl
  have hold : ∀ j, j < w.heap.size → (grow (putRow id (Sort.ahead w n) blk off F) os).heap[j]? = (w.heap.modify blk (onCells (putCells id off F)))[j]? := by
    intro j hj
    show (_ ++ os)[j]? = _
    rw [Array.getElem?_append_left (by rw [hsz]; exact hj)]
    rfl
  refine ⟨putCells id off F C, ?_, by simp [putCells], ?_, fun j hj hjl => ?_, ?_⟩
  · rw [hold blk hlt, Array.getElem?_modify]
    simp [hb, onCells]
  · refine List.ext_getElem? fun j => ?_
    by_cases hj : j < F.size
    · rw [List.getElem?_take, if_pos hj, List.getElem?_drop, Array.getElem?_toList, Array.getElem?_toList]
      simp only [putCells, Array.getElem?_mapIdx]
      rw [Array.getElem?_eq_getElem (show off + j < C.size by omega), Array.getElem?_eq_getElem hj]
      simp only [Option.map_some]
      rw [if_pos ⟨by omega, by omega⟩, show off + j - off = j by omega, getElem!_pos F j hj]
      rfl
    · rw [List.getElem?_eq_none (by simp; omega), List.getElem?_eq_none (by simpa using hj)]
  · rw [hold j hjl, Array.getElem?_modify, if_neg (Ne.symm hj)]
  · rw [size_grow, hsz]; omega
theorem sort_worldK {w : World} {blk off : Nat} {C : Array Value} {T : TypeId} (hb : w.heap[blk]? = some (.cells C T (0, 0))) {β : Type} [Inhabited β] (enc : β → List Value) (k : Nat) (d : Array β) (hF : off + d.size * k ≤ C.size) (n : Nat) (os : Array Obj) :
    ∃ C', (sortWorldK enc k w blk off n d os).heap[blk]? = some (.cells C' T (0, 0)) ∧ C'.size = C.size ∧ (C'.toList.drop off).take (d.size * k) = (flatK enc k d).toList ∧
      (∀ j, j ≠ blk → j < w.heap.size → (sortWorldK enc k w blk off n d os).heap[j]? = w.heap[j]?) ∧ w.heap.size ≤ (sortWorldK enc k w blk off n d os).heap.size ∧
      (sortWorldK enc k w blk off n d os).os = w.os ∧ (sortWorldK enc k w blk off n d os).tape = w.tape ∧ (sortWorldK enc k w blk off n d os).output = w.output ∧ w.drawn ≤ (sortWorldK enc k w blk off n d os).drawn := by
  obtain ⟨C', h1, h2, h3, h4, h5⟩ := sort_world hb (F := flatK enc k d) (by rw [size_flatK]; exact hF) n os
  unfold sortWorldK putRowK
  rw [size_flatK] at h3
  exact ⟨C', h1, h2, h3, h4, h5, rfl, rfl, rfl, Nat.le_add_right _ _⟩
theorem swo_pull {α β : Type} {lt : α → α → Bool} (h : SWO lt) (f : β → α) : SWO (fun a b => lt (f a) (f b)) := ⟨fun _ => h.irrefl _, fun _ _ _ => h.trans _ _ _, fun _ _ _ => h.ntrans _ _ _⟩
theorem ACallP.sortFunc {P : Program} {ρ : Ren} (L : SlLaysF0.n6 P ρ) {α : Type} {k : Nat} (hk0 : 0 < k) (aE : ∀ w, (isAgg (ρ.t 24)).run P w = .ok true w) (zE : ∀ w, (Go.sizeOf (ρ.t 24)).run P w = .ok k w)
    (en : α → List AV) (henl : ∀ x, (en x).length = k) (henb : ∀ x, ∀ c ∈ en x, Bel 0 c) (Q : α → Prop) (cf : α → α → Int) (hO : SWO (fun a b : α => decide (cf a b < 0))) (g : FuncId)
    (hC : ∀ x y, Q x → Q y → Pure P g [.agg (en x), .agg (en y)] (.v (.int .i64 (cf x y)))) (hg : Enters P g) (l : List α) (hQ : ∀ x ∈ l, Q x) (hl : l.length < 4611686018427387904) {h : Heap} {n o gn : Nat}
    (ho : h o = some (.rows true gn k (l.map en))) {K : CallK} (hK : ∀ l' : List α, l'.Perm l → l'.Pairwise (fun a b => ¬ cf b a < 0) → K (.tup []) (upd h o (some (.rows true gn k (l'.map en)))) n) :
    ACallP P (ρ.f 6) [.sl o gn k 0 l.length, .fn (.func g) [] []] h n K := by
  have e6 : Enters P (ρ.f 6) := L.f6.enters rfl
  refine ⟨e6, fun M0 φ w vs hH hargs => ?_⟩
  cases hargs with
  | cons hs ht =>
  cases ht with
  | cons hf ht =>
  cases ht
  cases hf with
  | @fn _ _ _ fs cs q1 q2 =>
  cases q1; cases q2
  have hal : alive h o gn k := by simp [alive, ho]
  obtain ⟨A, cap, rfl, hcap, hA⟩ := hH.sl_alive hal hs
  have hnone : l = [] → Calls P (ρ.f 6) ⟨[.slice A l.length cap, .func (.func g) ⟨[]⟩ ⟨[]⟩]⟩ w fun e w' => ∃ v φ' r h' n', e = .returned v ∧ K r h' n' ∧ HRel φ' n' w' M0 h' ∧ Rel φ' w' (Or M0 (Mut φ' h')) r v ∧ Step φ w M0 h φ' w' h' := by
    intro he
    subst he
    refine (AnyF.slices_SortFunc_none L A cap _ w).mono ?_
    rintro e w' ⟨rfl, rfl⟩
    have := hK [] (.refl _) .nil
    rw [← ho, upd_self] at this
    exact ⟨_, φ, .tup [], h, n, rfl, this, hH, .tup (vs := []) .nil, .refl _ _ _ _⟩
  by_cases he : l = []
  · exact hnone he
  have hlp : 0 < l.length := List.length_pos_iff.2 he
  rcases hA with ⟨rfl, _, h0, _⟩ | ⟨h0, rfl, _⟩ | ⟨a, bs, hp, rfl, hcb⟩
  · omega
  · omega
  obtain ⟨A0, hA0, hobj⟩ := hH.obj _ _ _ _ _ ho
  rw [hp] at hA0
  simp only [Option.some.injEq, Prod.mk.injEq, true_and] at hA0
  subst hA0
  rcases hobj with ⟨hobj, _⟩ | ⟨a₁, bs₁, C, T, e1, hsp, h0, hb, hCs, hr, hle, hv, hrel⟩
  · cases hobj
  simp only [Option.some.injEq, Prod.mk.injEq] at e1
  obtain ⟨rfl, rfl⟩ := e1
  rw [List.length_map] at hle hv hrel
  have hrel0 : RelL noP w (Or M0 (Mut φ h)) (l.map en).flatten ((C.toList.drop a.off).take (l.length * k)) := relL_closed (fun _ hk => hk) (fun c hc => by
    obtain ⟨r, hr, hc⟩ := List.mem_flatten.1 hc
    obtain ⟨x, _, rfl⟩ := List.mem_map.1 hr
    exact henb x c hc) hrel
  obtain ⟨ls, hlx, hlv⟩ := elems (Q := Q) hQ hrel0 hv
  have hlen : ls.length = l.length := by rw [← hlx, List.length_map]
  obtain ⟨d, hd⟩ : ∃ d : Array (El w (Or M0 (Mut φ h)) en Q), d = ls.toArray := ⟨_, rfl⟩
  have hds : d.size = l.length := by rw [hd]; simpa using hlen
  haveI : Inhabited (El w (Or M0 (Mut φ h)) en Q) := ⟨ls[0]'(by omega)⟩
  have hkE : ∀ x : El w (Or M0 (Mut φ h)) en Q, x.vs.length = k := fun x => by rw [← x.rel.length, henl]
  have hMb : Or M0 (Mut φ h) a.block := .inr ⟨o, gn, k, _, gn, a, bs, ho, hp, rfl⟩
  have hblk : a.block < w.heap.size := (Array.getElem?_eq_some_iff.1 hb).1
  have hfl : ∀ d' : Array (El w (Or M0 (Mut φ h)) en Q), (flatK (fun x => x.vs) k d').toList = (d'.toList.map fun x => x.vs).flatten := fun d' => flatK_list _ hk0 hkE d'
  have hCal : Calls P (ρ.f 6) ⟨[.slice (some ⟨a.block, a.off + 0 * k, none⟩) l.length cap, .func (.func g) ⟨[]⟩ ⟨[]⟩]⟩ w fun e w' =>
      e = .returned (.tuple #[]) ∧ ∃ d' n os, PermIn 0 d.size d d' ∧ SortedIn (ltOf fun x y : El w (Or M0 (Mut φ h)) en Q => cf x.x y.x) 0 d.size d' ∧ w' = sortWorldK (fun x => x.vs) k w a.block a.off n d' os := by
    rw [Nat.zero_mul, Nat.add_zero, ← hds]
    refine AnyQ.slices_SortFunc L k aE zE (fun x : El w (Or M0 (Mut φ h)) en Q => x.vs) hkE (fun x => x.cells) (fun x y => cf x.x y.x) (swo_pull hO fun x : El w (Or M0 (Mut φ h)) en Q => x.x) g #[] a.block a.off cap d w hg ?_ ?_ hblk (by omega)
    · intro m os dk hdk x y
      obtain ⟨hx1, hx2⟩ := hC x.x y.x x.q y.q
      obtain ⟨C', k1, k2, k3, k4, k5, k6, k7, k8, k9⟩ := sort_worldK (off := a.off) hb (fun x : El w (Or M0 (Mut φ h)) en Q => x.vs) k dk (by rw [hdk, hds]; omega) m os
      generalize sortWorldK (fun x : El w (Or M0 (Mut φ h)) en Q => x.vs) k w a.block a.off m dk os = X at *
      have hkeep : ∀ z : El w (Or M0 (Mut φ h)) en Q, RelL noP X (Or M0 (Mut φ h)) (en z.x) z.vs := fun z =>
        z.rel.keep noP.le_refl (fun j hj hjl => k4 j (fun e => hj (e ▸ hMb)) hjl) (fun j hj => .inl hj)
      have hag : ∀ z : El w (Or M0 (Mut φ h)) en Q, Rel noP X (Or M0 (Mut φ h)) (.agg (en z.x)) (.agg z.vs.toArray) := fun z => .agg z.cells (hkeep z)
      refine (hx2 (Or M0 (Mut φ h)) X [.agg x.vs.toArray, .agg y.vs.toArray] (fun j hj => Nat.lt_of_lt_of_le (hH.blk hj) k5) (.cons (hag x) (.cons (hag y) .nil))).mono ?_
      rintro e w' ⟨v, rfl, hrv, hfr⟩
      cases hrv
      refine ⟨rfl, w'.drawn - X.drawn, w'.heap.extract X.heap.size w'.heap.size, ?_⟩
      have hheap : X.heap ++ w'.heap.extract X.heap.size w'.heap.size = w'.heap := by
        refine Array.ext_getElem? fun j => ?_
        by_cases hj : j < X.heap.size
        · rw [Array.getElem?_append_left hj, hfr.block j hj (fun h => h)]
        · rw [Array.getElem?_append_right (by omega), Array.getElem?_extract]
          have := hfr.size
          split
          · congr 1; omega
          · rw [Array.getElem?_eq_none (by omega)]
      have hdr : X.drawn + (w'.drawn - X.drawn) = w'.drawn := by have := hfr.drawn; omega
      cases w' with
      | mk hp tp dr os' out =>
        have e1 := hfr.os; have e2 := hfr.tape; have e3 := hfr.output
        simp only at e1 e2 e3 hheap hdr
        subst e1 e2 e3
        simp only [grow, World.drewN, hheap, hdr]
    · intro j hj
      have hjl : j < ((C.toList.drop a.off).take (l.length * k)).length := by
        rw [← hlv, ← show (d.toList.map fun x => x.vs) = ls.map (·.vs) by rw [hd], ← hfl, Array.length_toList]; exact hj
      have hget : (flatK (fun x : El w (Or M0 (Mut φ h)) en Q => x.vs) k d)[j]! = C[a.off + j]! := by
        have e1 : (flatK (fun x : El w (Or M0 (Mut φ h)) en Q => x.vs) k d).toList = (C.toList.drop a.off).take (l.length * k) := by rw [hfl, hd]; exact hlv
        have hjC : a.off + j < C.size := by simp at hjl; omega
        rw [getElem!_pos _ j hj, getElem!_pos C _ hjC, ← Array.getElem_toList, ← Array.getElem_toList (xs := C)]
        simp only [e1, List.getElem_take, List.getElem_drop]
      have hjC : a.off + j < C.size := by simp at hjl; omega
      refine ⟨?_, ?_⟩
      · simp only [World.cell?, hb]
        rw [hget]
        simp [hjC]
      · simp [World.frozen?, hb]
  refine hCal.mono ?_
  rintro e w' ⟨rfl, d', n', os, hperm, hsort, rfl⟩
  obtain ⟨hps, _, hpp⟩ := hperm
  obtain ⟨C', k1, k2, k3, k4, k5, k6, k7, k8, k9⟩ := sort_worldK (off := a.off) hb (fun x : El w (Or M0 (Mut φ h)) en Q => x.vs) k d' (by rw [hps, hds]; omega) n' os
  generalize sortWorldK (fun x : El w (Or M0 (Mut φ h)) en Q => x.vs) k w a.block a.off n' d' os = X at *
  obtain ⟨l', hl'⟩ : ∃ l' : List α, l' = d'.toList.map fun x => x.x := ⟨_, rfl⟩
  have hl'l : l'.length = l.length := by rw [hl', List.length_map, Array.length_toList, hps, hds]
  have hpl : l'.Perm l := by
    have h1 : (d'.extract 0 d.size).toList = d'.toList := by rw [← hps]; simp
    have h2 : (d.extract 0 d.size).toList = d.toList := by simp
    rw [h1, h2] at hpp
    have := hpp.map fun x => x.x
    rw [hl', ← hlx]
    simpa [hd] using this
  have hpw : l'.Pairwise (fun x y => ¬ cf y x < 0) := by
    rw [hl', List.pairwise_map, List.pairwise_iff_getElem]
    intro i j hi hj hij
    have hi' : i < d'.size := by simpa using hi
    have hj' : j < d'.size := by simpa using hj
    have := hsort i j (Nat.zero_le _) hij (by omega)
    rw [getElem!_pos d' i hi', getElem!_pos d' j hj'] at this
    simpa [ltOf] using this
  have hwin : (C'.toList.drop a.off).take (l'.length * k) = (d'.toList.map fun x => x.vs).flatten := by
    rw [hps, hds, hfl] at k3
    rw [hl'l]; exact k3
  have hrel' : RelL φ w (Or M0 (Mut φ h)) (l'.map en).flatten ((C'.toList.drop a.off).take (l'.length * k)) := by
    rw [hwin, hl']
    generalize d'.toList = ds
    induction ds with
    | nil => exact .nil
    | cons z ds ih =>
      simp only [List.map_cons, List.flatten_cons]
      exact (z.rel.keep (fun o x ho => by cases ho) (fun _ _ _ => rfl) (fun k hk => .inl hk)).append ih
  have hle0 : φ.le (upd φ o (some (gn, some (a, bs)))) := by rw [← hp, upd_self]; exact φ.le_refl
  have hol : ¬ n ≤ o := fun hle => by rw [hH.fresh o hle] at hp; cases hp
  obtain ⟨g1, g2, g3⟩ := hH.set (w' := X) (F' := fun o => n ≤ o) (o := o) (mt := true) (g := gn) (sz := k) (rs := l'.map en) (A := some (a, bs))
    (fun _ h => h) hol k5 hle0 (fun j hj hjl => k4 j (fun e => hj (e ▸ hMb)) hjl)
    (fun o' mt' g' sz' rs' a₁ b₁ hne ho' hp' => by
      have := hH.inj _ _ _ _ _ _ _ _ _ _ _ _ _ _ ho ho' (Ne.symm hne) (.inl rfl) hp hp'
      have hlt : a₁.block < w.heap.size := by
        obtain ⟨A1, hA1, hc1⟩ := hH.obj _ _ _ _ _ ho'
        rw [hp'] at hA1
        simp only [Option.some.injEq, Prod.mk.injEq, true_and] at hA1
        subst hA1
        rcases hc1 with ⟨hc1, _⟩ | ⟨a2, b2, C2, T2, e2, _, _, hb2, _⟩
        · cases hc1
        · simp only [Option.some.injEq, Prod.mk.injEq] at e2
          obtain ⟨rfl, rfl⟩ := e2
          exact (Array.getElem?_eq_some_iff.1 hb2).1
      refine ⟨k4 _ (Ne.symm this) hlt, fun a₂ b₂ e => ?_⟩
      simp only [Option.some.injEq, Prod.mk.injEq] at e
      obtain ⟨rfl, rfl⟩ := e
      exact this)
    (fun a₁ b₁ e => by
      simp only [Option.some.injEq, Prod.mk.injEq] at e
      obtain ⟨rfl, rfl⟩ := e
      exact .inl hMb)
    (.inr ⟨a, bs, C', T, rfl, hsp, h0, k1, by rw [k2]; exact hCs, fun r hr => by
        obtain ⟨x, _, rfl⟩ := List.mem_map.1 hr
        exact henl x, by rw [List.length_map, hl'l]; exact hle, fun c hm => by
        rw [List.length_map, hwin] at hm
        obtain ⟨r, hr, hm⟩ := List.mem_flatten.1 hm
        obtain ⟨z, _, rfl⟩ := List.mem_map.1 hr
        exact z.cells c hm, by rw [List.length_map]; exact hrel'⟩)
  refine ⟨_, _, .tup [], _, n, rfl, hK l' hpl hpw, g1, .tup (vs := []) .nil, ⟨hle0, g2, ⟨k6, k7, k8, k9, k5, fun j hj hu => k4 j (fun e => hu ⟨o, gn, k, _, gn, a, bs, ho, hp, e.symm⟩) hj⟩, fun j hj => ?_⟩⟩
  rcases g3 j hj with h | ⟨a₁, b₁, e, rfl⟩
  · exact .inl h
  · simp only [Option.some.injEq, Prod.mk.injEq] at e
    obtain ⟨rfl, rfl⟩ := e
    exact .inl ⟨o, gn, k, _, gn, a, bs, ho, hp, rfl⟩
end Go.Av
end
