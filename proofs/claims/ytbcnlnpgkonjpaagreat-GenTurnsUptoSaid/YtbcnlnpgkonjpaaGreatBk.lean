/- Contracts: gen.Run. -/
import Derived.Test.YtbcnlnpgkonjpaaGreatAvL
import Derived.Test.YtbcnlnpgkonjpaaGreatDO
import Derived.Test.YtbcnlnpgkonjpaaGreatMC
import Derived.Test.YtbcnlnpgkonjpaaGreatDJ
import Derived.Test.YtbcnlnpgkonjpaaGreatD8
import Derived.Test.YtbcnlnpgkonjpaaGreatAvC
import Derived.OpenShut
import Derived.Test.YtbcnlnpgkonjpaaGreatRows
section
set_option linter.unusedSimpArgs false
set_option linter.unusedVariables false
open Go Go.Proofs
set_option maxRecDepth 20000
set_option maxHeartbeats 4000000
namespace Go.Av
/-- the paths of a code -/
def pathsC (c : CodeD) (side : Int) (k cell : Nat) : List PathD := nth (nth (if side = 0 then c.1 else c.2) k) cell
structure CodeOk (g : GameD) (c : CodeD) : Prop where
  l0 : c.1.length = g.kinds.length
  l1 : c.2.length = g.kinds.length
  k0 : ∀ k ∈ c.1, (k.length : Int) = g.cells
  k1 : ∀ k ∈ c.2, (k.length : Int) = g.cells
  p0 : ∀ k ∈ c.1, ∀ l ∈ k, l.length ≤ 1000000000 ∧ ∀ w ∈ l, (0 ≤ w.to ∧ w.to < g.cells) ∧ w.acts.length ≤ 1048576 ∧ ∀ a ∈ w.acts, ActOk g.cells g.kinds.length g.rights a
  p1 : ∀ k ∈ c.2, ∀ l ∈ k, l.length ≤ 1000000000 ∧ ∀ w ∈ l, (0 ≤ w.to ∧ w.to < g.cells) ∧ w.acts.length ≤ 1048576 ∧ ∀ a ∈ w.acts, ActOk g.cells g.kinds.length g.rights a
def runC (g : GameD) (c : CodeD) (p : PosD) (cell : Int) : List OutD :=
  if 0 ≤ cell ∧ cell < g.cells ∧ nth p.at_ cell.toNat ≠ 0 then
    sortU cmpO ((pathsC c (manOf (nth p.at_ cell.toNat)).2 (manOf (nth p.at_ cell.toNat)).1.toNat cell.toNat).filterMap (outW g (manOf (nth p.at_ cell.toNat)).2 (startT p cell)))
  else []
theorem gRun_pure (g : GameD) (hg : GOk g) (c : CodeD) (hc : CodeOk g c) (p : PosD) (hp : POk g p) (cell : Int) (c0 : 0 ≤ cell) (c1 : cell < g.cells) :
    Pure Tryz.prog 10 [.agg (encGame g), .agg (encCode c), .agg (encPos p), .v (.int .i64 cell)] (encOs (runC g c p cell)) := by
  refine Pure.of (ACallP.of_awp (by kernel_rfl) Tryz.func10 rfl rfl (Nat.le_of_ble_eq_true rfl) (by kernel_rfl) ?_)
  have hal := hp.al
  obtain ⟨R, hR⟩ : ∃ R, R = runC g c p cell := ⟨_, rfl⟩
  have hR' := hR
  unfold runC at hR'
  rw [← hR]
  have hle := hg.c9
  have h0 : ¬ cell < 0 := by omega
  have h1 : ¬ (p.at_.length : Int) ≤ cell := by omega
  have hcl : cell.toNat < p.at_.length := by omega
  by_cases h2 : nth p.at_ cell.toNat = 0
  · rw [if_neg (by rintro ⟨_, _, h⟩; exact h h2)] at hR'
    rw [hR']
    (repeat (first | with_reducible (first | refine wL fun _ => ?_ | refine wD fun _ => ?_ | refine wE ?_ | refine adrZ.go ?_) | simp [go_sem, h0, h1, hcl, h2]))
    ((try simp only [encProg, encStep, encAct, encAs, encPath, encPt, encOut, encState, encPos, encOs, encSs, encPs, encIs, encGame, List.map_cons, List.map_nil, List.nil_append, List.append_nil, List.cons_append]); (repeat (first | (with_reducible exact LeRow.nil) | (with_reducible exact LeRows.nil) | (with_reducible exact LeV.refl _) | (with_reducible exact LeRow.refl _ _ _ _) | (with_reducible exact LeRows.refl _) | (with_reducible refine LeRow.cons ?_ ?_) | (with_reducible refine LeRows.cons ?_ ?_) | (with_reducible refine LeV.agg ?_) | (with_reducible refine LeV.tup ?_) | (with_reducible refine LeV.fn ?_ ?_) | (with_reducible exact LeV.nil _) | (with_reducible refine leRows_append (LeRows.refl _) ?_) | ((refine leV_frz rfl (by simp) (by simp [frzO, frz1, upd, noH]) ?_); (first | (simp [go_sem]; done) | (simp [go_sem]; exact List.take_of_length_le (by simp)))) | ((refine LeV.frz rfl (by simp) (by simp [frzO, frz1, upd, noH]) ?_); (simp only [List.drop_zero, List.take_succ_cons, List.take_zero, List.map_cons, List.map_nil])) | ((refine LeV.frzP rfl (by simp) (by simp) (by simp [frzO, frz1, upd, noH]) ?_); (simp only [nth_zero, List.drop_zero])))))
  rw [if_pos ⟨by omega, by omega, h2⟩] at hR'
  have hM := gMan_pure (nth p.at_ cell.toNat)
  have hat := hp.at (i := cell.toNat) (by omega)
  have hman := manOf_cases hat.1 hat.2 hg.k6
  generalize hm : manOf (nth p.at_ cell.toNat) = m at *
  obtain ⟨mk, ms⟩ := m
  simp only [Prod.mk.injEq] at hman hR' hM
  have hmk : mk.toNat < g.kinds.length := by omega
  have hmk' : 0 ≤ mk := by omega
  have hms : ms = 0 ∨ ms = 1 := by omega
  rcases hms with rfl | rfl
  · have hcp0 := Clone_owns p.at_ (hp.fits hg).1
    have hcp1 := Clone_owns p.h0 (hp.fits hg).2.1
    have hcp2 := Clone_owns p.h1 (hp.fits hg).2.2
    have hmc : mk.toNat < c.1.length := by rw [hc.l0]; exact hmk
    have hcc : cell.toNat < (nth c.1 mk.toNat).length := by have := hc.k0 _ (nth_mem hmc); omega
    (repeat (first | with_reducible (first | refine wL fun _ => ?_ | refine wD fun _ => ?_ | refine wE ?_ | refine adrZ.go ?_) | simp [go_sem, h0, h1, hcl, h2]))
    refine ACallP.plain hM (by simp [go_sem]) ?_
    (repeat (first | with_reducible (first | refine wL fun _ => ?_ | refine wD fun _ => ?_ | refine wE ?_ | refine adrZ.go ?_) | simp [go_sem, hcl, hmc, hcc]))
    obtain ⟨pl, hpl⟩ : ∃ pl, pl = nth (nth c.1 mk.toNat) cell.toNat := ⟨_, rfl⟩
    have hpo := hc.p0 _ (nth_mem hmc) _ (nth_mem hcc)
    rw [show pathsC c 0 mk.toNat cell.toNat = pl from by rw [hpl]; rfl] at hR'
    rw [← hpl] at hpo ⊢
    obtain ⟨out, hout⟩ : ∃ out : Nat → List OutD, out = fun i => (pl.take i).filterMap (outW g 0 (startT p cell)) := ⟨_, rfl⟩
    refine ALoop.start (ALoop.ind (α := Nat) (fun i => ⟨[(3, .v (.int .i64 cell)), (4, .ref 0 0 9 0 0), (6, .ref 2 0 5 0 0), (9, .v (.int .i64 mk)), (10, .v (.int .i64 0)), (11, .sl 3 (out i).length 6 0 (out i).length), (52, encPt pl), (53, .v (.int .i64 pl.length)), (54, .v (.int .i64 i))],
      [(0, .rows true 0 9 [encGame g]), (2, .rows true 0 5 [encPos p]), (3, .rows true (out i).length 6 ((out i).map encOut))], 4⟩)
      (fun d i => i + d = pl.length) ?_ pl.length 0 ?_) ?_ ?_
    · rintro d i i1 hrec
      (repeat (first | with_reducible (first | refine wL fun _ => ?_ | refine wD fun _ => ?_ | refine wE ?_ | refine adrZ.go ?_) | simp [go_sem]))
      refine aIf.mkL (fun hi => ?_) (fun hi => ?_) <;> simp at hi
      · (repeat (first | with_reducible (first | refine wL fun _ => ?_ | refine wD fun _ => ?_ | refine wE ?_ | refine adrZ.go ?_) | simp [go_sem, hi]))
        refine ACallP.ownsPlain hcp0 (by simp [go_sem]) ?_
        (repeat (first | with_reducible (first | refine wL fun _ => ?_ | refine wD fun _ => ?_ | refine wE ?_ | refine adrZ.go ?_) | simp [go_sem]))
        refine dCall.owns 67 (by rfl) (hcp1) (by decide) (by simp [go_sem]) (by simp [go_sem]) (fun _ => LeRow.refl _ _ _ _) (by simp [go_sem]) (by simp [go_sem]) ?_
        (repeat (first | with_reducible (first | refine wL fun _ => ?_ | refine wD fun _ => ?_ | refine wE ?_ | refine adrZ.go ?_) | simp [go_sem]))
        refine dCall.owns 131 (by rfl) (hcp2) (by decide) (by simp [go_sem]) (by simp [go_sem]) (fun _ => LeRow.refl _ _ _ _) (by simp [go_sem]) (by simp [go_sem]) ?_
        ((repeat (first | with_reducible (first | refine wL fun _ => ?_ | refine wD fun _ => ?_ | refine adrZ.go ?_) | simp [go_sem])); refine dEnd.mkN (by kernel_rfl) ?_)
        (repeat (first | with_reducible (first | refine wL fun _ => ?_ | refine wD fun _ => ?_ | refine wE ?_ | refine adrZ.go ?_) | simp [go_sem, hcl]))
        obtain ⟨w, hw⟩ : ∃ w, w = nth pl i := ⟨_, rfl⟩
        obtain ⟨⟨w1, w2⟩, w3, w4⟩ := hpo.2 _ (nth_mem hi)
        have hsu : out (i + 1) = out i ++ (outW g 0 (startT p cell) w).toList := by
          rw [hout, hw]
          simp only
          rw [List.take_add_one, List.getElem?_eq_getElem hi, nth_eq _ _ hi, List.filterMap_append]
          simp only [Option.toList_some, List.filterMap_cons, List.filterMap_nil]
          cases outW g 0 (startT p cell) pl[i] <;> rfl
        rw [← hw] at w1 w2 w3 w4 ⊢
        obtain ⟨t0, ht0⟩ : ∃ t0, t0 = startT p cell := ⟨_, rfl⟩
        have hst : POk g t0.p := by rw [ht0]; exact hp.clr _
        have hrow : tkAt 6 67 131 t0 = [.sl 6 1 1 0 p.at_.length, .sl 67 1 1 0 p.h0.length, .sl 131 1 1 0 p.h1.length, .v (.int .i64 p.rights), .v (.int .i64 p.side), .v (.int .i64 mk), .v (.bool false)] := by
          rw [ht0]; simp [tkAt, startT, clr, hm]
        have hat0 : t0.p.at_.map encI = (p.at_.map encI).set cell.toNat [.v (.int .i64 0)] := by rw [ht0]; simp [startT, clr, List.map_set, encI]
        have hh0 : t0.p.h0 = p.h0 := by rw [ht0]; rfl
        have hh1 : t0.p.h1 = p.h1 := by rw [ht0]; rfl
        rw [← ht0] at hsu
        have hlo : (out i).length ≤ 1000000000 := by
          have h1 : (out i).length ≤ (pl.take i).length := by rw [hout]; exact List.length_filterMap_le _ _
          have h2 := List.length_take_le i pl
          have := hpo.1
          have h3 : (pl.take i).length ≤ pl.length := by rw [List.length_take]; omega
          omega
        refine ALoop.start (ALoop.ind (α := Nat × TkD) (fun a => ⟨[(3, .v (.int .i64 cell)), (4, .ref 0 0 9 0 0), (6, .ref 2 0 5 0 0), (9, .v (.int .i64 mk)), (10, .v (.int .i64 0)), (11, .sl 3 (out i).length 6 0 (out i).length), (13, .ref 4 0 2 0 0), (14, .ref 5 0 7 0 0),
            (52, encPt pl), (53, .v (.int .i64 pl.length)), (54, .v (.int .i64 i)), (83, encAs w.acts), (84, .v (.int .i64 w.acts.length)), (85, .v (.int .i64 a.1))],
          [(0, .rows true 0 9 [encGame g]), (2, .rows true 0 5 [encPos p]), (3, .rows true (out i).length 6 ((out i).map encOut)), (4, .rows true 0 2 [encPath w]), (5, .rows true 0 7 [tkAt 6 67 131 a.2]), (6, .rows true 1 1 (a.2.p.at_.map encI)), (67, .rows true 1 1 (a.2.p.h0.map encI)), (131, .rows true 1 1 (a.2.p.h1.map encI))], 211⟩)
          (fun d a => a.1 + d = w.acts.length ∧ doAs g 0 t0 (w.acts.take a.1) = some a.2 ∧ POk g a.2.p) ?_ w.acts.length (0, t0) ?_) ?_ ?_
        · rintro d2 ⟨j, t⟩ ⟨j1, j2, j3⟩ hrec2
          simp only at j1 j2 j3
          (repeat (first | with_reducible (first | refine wL fun _ => ?_ | refine wD fun _ => ?_ | refine wE ?_ | refine adrZ.go ?_) | simp [go_sem]))
          refine aIf.mkL (fun hj => ?_) (fun hj => ?_) <;> simp at hj
          · have hx := w4 _ (nth_mem hj)
            have hts : doAs g 0 t0 (w.acts.take (j + 1)) = if (doA g 0 t (nth w.acts j)).2 = true then some (doA g 0 t (nth w.acts j)).1 else none := by
              rw [List.take_add_one, List.getElem?_eq_getElem hj, nth_eq _ _ hj, Option.toList_some, doAs_snoc, j2]; rfl
            have hok := doA_ok hg (.inl rfl) j3 hx
            obtain ⟨x, hxe⟩ : ∃ x, x = nth w.acts j := ⟨_, rfl⟩
            rw [← hxe] at hx hts hok
            (repeat (first | with_reducible (first | refine wL fun _ => ?_ | refine wD fun _ => ?_ | refine wE ?_ | refine adrZ.go ?_) | simp [go_sem, hj]))
            rw [← hxe]
            refine do_call g hg 0 (.inl rfl) t j3 x hx (o := 5) (a := 6) (b := 67) (c := 131) (by decide) (by simp) (by simp [upd]) (by simp [upd]) (by simp [upd]) (by simp [upd]) ?_
            unfold tkUp
            obtain ⟨t', ht'⟩ : ∃ t', t' = (doA g 0 t x).1 := ⟨_, rfl⟩
            rw [← ht'] at hts hok ⊢
            by_cases hd : (doA g 0 t x).2 = true
            · rw [if_pos hd] at hts
              (repeat (first | with_reducible (first | refine wL fun _ => ?_ | refine wD fun _ => ?_ | refine wE ?_ | refine adrZ.go ?_) | simp [go_sem, hd]))
              refine ALoop.start (hrec2 (d2 - 1) (by omega) (j + 1, t') ⟨by simp only; omega, hts, hok hd⟩) ?_ (by simp)
              simp [go_sem, Wk_eq]
              simp [tkAt, go_sem]
            · rw [if_neg hd] at hts
              have hW : outW g 0 t0 w = none := by unfold outW stW; rw [doAs_none hts]; rfl
              rw [hW, Option.toList_none, List.append_nil] at hsu
              simp only [Bool.not_eq_true] at hd
              (repeat (first | with_reducible (first | refine wL fun _ => ?_ | refine wD fun _ => ?_ | refine wE ?_ | refine adrZ.go ?_) | simp [go_sem, hd]))
              refine ALoop.start (hrec (d - 1) (by omega) (i + 1) (by omega)) ?_ (by simp)
              simp [go_sem, Wk_eq, hsu]
          · have hjl : j = w.acts.length := by omega
            subst hjl
            rw [List.take_length] at j2
            have hwl : w.to.toNat < t.p.at_.length := by have := j3.al; omega
            have hW : outW g 0 t0 w = putS 0 (stT t w.to) := by unfold outW stW; rw [j2]; rfl
            rw [hW] at hsu
            have hcode := gCode_pure t.kind 0
            by_cases hto : nth t.p.at_ w.to.toNat = 0
            · have hP : putS 0 (stT t w.to) = some ⟨{ t.p with at_ := t.p.at_.set w.to.toNat (codeOf t.kind 0), side := 1 - 0 }, t.took⟩ := by unfold putS; exact if_pos hto
              rw [hP, Option.toList_some] at hsu
              (repeat (first | with_reducible (first | refine wL fun _ => ?_ | refine wD fun _ => ?_ | refine wE ?_ | refine adrZ.go ?_) | simp [go_sem, hwl, hto, tkAt]))
              try ((with_reducible refine adrZ.go ?_); (try simp [go_sem]))
              refine dCall.plain hcode (by simp [go_sem]) ?_
              (repeat (first | with_reducible (first | refine wL fun _ => ?_ | refine wD fun _ => ?_ | refine wE ?_ | refine adrZ.go ?_) | simp [go_sem, hwl, hto, tkAt]))
              refine ALoop.start (hrec (d - 1) (by omega) (i + 1) (by omega)) ?_ (by simp)
              simp [go_sem, Wk_eq, hsu]
              ((refine leRows_append (.refl _) ?_); (repeat (first | (with_reducible exact LeRows.nil) | (with_reducible refine LeRows.cons ?_ ?_) | (with_reducible exact LeRow.nil) | (with_reducible refine LeRow.cons ?_ ?_) | (with_reducible exact LeV.refl _) | (refine leV_frz rfl (by simp) (by simp [noH, upd]) ?_; first | (simp [go_sem]; done) | (simp [go_sem]; exact List.take_of_length_le (by simp))))))
            · have hP : putS 0 (stT t w.to) = none := by unfold putS; exact if_neg hto
              rw [hP, Option.toList_none, List.append_nil] at hsu
              (repeat (first | with_reducible (first | refine wL fun _ => ?_ | refine wD fun _ => ?_ | refine wE ?_ | refine adrZ.go ?_) | simp [go_sem, hwl, hto, tkAt]))
              refine ALoop.start (hrec (d - 1) (by omega) (i + 1) (by omega)) ?_ (by simp)
              simp [go_sem, Wk_eq, hsu]
        · exact ⟨by simp, rfl, hst⟩
        · simp [go_sem, Wk_eq, hrow, hat0, hh0, hh1]
        · simp
      · have hil : i = pl.length := by omega
        subst hil
        have hall : out pl.length = pl.filterMap (outW g 0 (startT p cell)) := by rw [hout]; simp only [List.take_length]
        have hlo : (out pl.length).length ≤ 1000000000 := by
          rw [hall]
          exact Nat.le_trans (List.length_filterMap_le _ _) hpo.1
        have hfo : ∀ o ∈ out pl.length, FitsP o.pos := fun o ho => by
          rw [hall] at ho
          obtain ⟨w, hw, h⟩ := List.mem_filterMap.1 ho
          exact outW_fits hg (.inl rfl) (hp.clr _) (hpo.2 w hw).2.2 h
        rw [← hall] at hR'
        unfold sortU at hR'
        obtain ⟨o, ho⟩ : ∃ o, o = out pl.length := ⟨_, rfl⟩
        rw [← ho] at hlo hfo hR' ⊢
        (repeat (first | with_reducible (first | refine wL fun _ => ?_ | refine wD fun _ => ?_ | refine wE ?_ | refine adrZ.go ?_) | simp [go_sem]))
        refine sortO_call o hfo (by omega) (by simp [upd]) ?_
        have hsl : (sortC cmpO o).length = o.length := sortC_len o
        have hfs : ∀ x ∈ sortC cmpO o, FitsP x.pos := fun x hx => hfo x (sortC_mem.1 hx)
        generalize sortC cmpO o = so at *
        (repeat (first | with_reducible (first | refine wL fun _ => ?_ | refine wD fun _ => ?_ | refine wE ?_ | refine adrZ.go ?_) | simp [go_sem]))
        refine compact_call2 so _ _ hsl (by omega) hfs (by simp [upd]) (by omega) ?_
        rw [hR']
        (repeat (first | with_reducible (first | refine wL fun _ => ?_ | refine wD fun _ => ?_ | refine wE ?_ | refine adrZ.go ?_) | simp [go_sem]))
        refine leV_frz rfl (by simp) (by simp [noH, upd]) ?_
        simp
    · simp
    · simp [go_sem, Wk_eq, hout]
    · simp
  · have hcp0 := Clone_owns p.at_ (hp.fits hg).1
    have hcp1 := Clone_owns p.h0 (hp.fits hg).2.1
    have hcp2 := Clone_owns p.h1 (hp.fits hg).2.2
    have hmc : mk.toNat < c.2.length := by rw [hc.l1]; exact hmk
    have hcc : cell.toNat < (nth c.2 mk.toNat).length := by have := hc.k1 _ (nth_mem hmc); omega
    (repeat (first | with_reducible (first | refine wL fun _ => ?_ | refine wD fun _ => ?_ | refine wE ?_ | refine adrZ.go ?_) | simp [go_sem, h0, h1, hcl, h2]))
    refine ACallP.plain hM (by simp [go_sem]) ?_
    (repeat (first | with_reducible (first | refine wL fun _ => ?_ | refine wD fun _ => ?_ | refine wE ?_ | refine adrZ.go ?_) | simp [go_sem, hcl, hmc, hcc]))
    obtain ⟨pl, hpl⟩ : ∃ pl, pl = nth (nth c.2 mk.toNat) cell.toNat := ⟨_, rfl⟩
    have hpo := hc.p1 _ (nth_mem hmc) _ (nth_mem hcc)
    rw [show pathsC c 1 mk.toNat cell.toNat = pl from by rw [hpl]; rfl] at hR'
    rw [← hpl] at hpo ⊢
    obtain ⟨out, hout⟩ : ∃ out : Nat → List OutD, out = fun i => (pl.take i).filterMap (outW g 1 (startT p cell)) := ⟨_, rfl⟩
    refine ALoop.start (ALoop.ind (α := Nat) (fun i => ⟨[(3, .v (.int .i64 cell)), (4, .ref 0 0 9 0 0), (6, .ref 2 0 5 0 0), (9, .v (.int .i64 mk)), (10, .v (.int .i64 1)), (11, .sl 3 (out i).length 6 0 (out i).length), (52, encPt pl), (53, .v (.int .i64 pl.length)), (54, .v (.int .i64 i))],
      [(0, .rows true 0 9 [encGame g]), (2, .rows true 0 5 [encPos p]), (3, .rows true (out i).length 6 ((out i).map encOut))], 4⟩)
      (fun d i => i + d = pl.length) ?_ pl.length 0 ?_) ?_ ?_
    · rintro d i i1 hrec
      (repeat (first | with_reducible (first | refine wL fun _ => ?_ | refine wD fun _ => ?_ | refine wE ?_ | refine adrZ.go ?_) | simp [go_sem]))
      refine aIf.mkL (fun hi => ?_) (fun hi => ?_) <;> simp at hi
      · (repeat (first | with_reducible (first | refine wL fun _ => ?_ | refine wD fun _ => ?_ | refine wE ?_ | refine adrZ.go ?_) | simp [go_sem, hi]))
        refine ACallP.ownsPlain hcp0 (by simp [go_sem]) ?_
        (repeat (first | with_reducible (first | refine wL fun _ => ?_ | refine wD fun _ => ?_ | refine wE ?_ | refine adrZ.go ?_) | simp [go_sem]))
        refine dCall.owns 67 (by rfl) (hcp1) (by decide) (by simp [go_sem]) (by simp [go_sem]) (fun _ => LeRow.refl _ _ _ _) (by simp [go_sem]) (by simp [go_sem]) ?_
        (repeat (first | with_reducible (first | refine wL fun _ => ?_ | refine wD fun _ => ?_ | refine wE ?_ | refine adrZ.go ?_) | simp [go_sem]))
        refine dCall.owns 131 (by rfl) (hcp2) (by decide) (by simp [go_sem]) (by simp [go_sem]) (fun _ => LeRow.refl _ _ _ _) (by simp [go_sem]) (by simp [go_sem]) ?_
        ((repeat (first | with_reducible (first | refine wL fun _ => ?_ | refine wD fun _ => ?_ | refine adrZ.go ?_) | simp [go_sem])); refine dEnd.mkN (by kernel_rfl) ?_)
        (repeat (first | with_reducible (first | refine wL fun _ => ?_ | refine wD fun _ => ?_ | refine wE ?_ | refine adrZ.go ?_) | simp [go_sem, hcl]))
        obtain ⟨w, hw⟩ : ∃ w, w = nth pl i := ⟨_, rfl⟩
        obtain ⟨⟨w1, w2⟩, w3, w4⟩ := hpo.2 _ (nth_mem hi)
        have hsu : out (i + 1) = out i ++ (outW g 1 (startT p cell) w).toList := by
          rw [hout, hw]
          simp only
          rw [List.take_add_one, List.getElem?_eq_getElem hi, nth_eq _ _ hi, List.filterMap_append]
          simp only [Option.toList_some, List.filterMap_cons, List.filterMap_nil]
          cases outW g 1 (startT p cell) pl[i] <;> rfl
        rw [← hw] at w1 w2 w3 w4 ⊢
        obtain ⟨t0, ht0⟩ : ∃ t0, t0 = startT p cell := ⟨_, rfl⟩
        have hst : POk g t0.p := by rw [ht0]; exact hp.clr _
        have hrow : tkAt 6 67 131 t0 = [.sl 6 1 1 0 p.at_.length, .sl 67 1 1 0 p.h0.length, .sl 131 1 1 0 p.h1.length, .v (.int .i64 p.rights), .v (.int .i64 p.side), .v (.int .i64 mk), .v (.bool false)] := by
          rw [ht0]; simp [tkAt, startT, clr, hm]
        have hat0 : t0.p.at_.map encI = (p.at_.map encI).set cell.toNat [.v (.int .i64 0)] := by rw [ht0]; simp [startT, clr, List.map_set, encI]
        have hh0 : t0.p.h0 = p.h0 := by rw [ht0]; rfl
        have hh1 : t0.p.h1 = p.h1 := by rw [ht0]; rfl
        rw [← ht0] at hsu
        have hlo : (out i).length ≤ 1000000000 := by
          have h1 : (out i).length ≤ (pl.take i).length := by rw [hout]; exact List.length_filterMap_le _ _
          have h2 := List.length_take_le i pl
          have := hpo.1
          have h3 : (pl.take i).length ≤ pl.length := by rw [List.length_take]; omega
          omega
        refine ALoop.start (ALoop.ind (α := Nat × TkD) (fun a => ⟨[(3, .v (.int .i64 cell)), (4, .ref 0 0 9 0 0), (6, .ref 2 0 5 0 0), (9, .v (.int .i64 mk)), (10, .v (.int .i64 1)), (11, .sl 3 (out i).length 6 0 (out i).length), (13, .ref 4 0 2 0 0), (14, .ref 5 0 7 0 0),
            (52, encPt pl), (53, .v (.int .i64 pl.length)), (54, .v (.int .i64 i)), (83, encAs w.acts), (84, .v (.int .i64 w.acts.length)), (85, .v (.int .i64 a.1))],
          [(0, .rows true 0 9 [encGame g]), (2, .rows true 0 5 [encPos p]), (3, .rows true (out i).length 6 ((out i).map encOut)), (4, .rows true 0 2 [encPath w]), (5, .rows true 0 7 [tkAt 6 67 131 a.2]), (6, .rows true 1 1 (a.2.p.at_.map encI)), (67, .rows true 1 1 (a.2.p.h0.map encI)), (131, .rows true 1 1 (a.2.p.h1.map encI))], 211⟩)
          (fun d a => a.1 + d = w.acts.length ∧ doAs g 1 t0 (w.acts.take a.1) = some a.2 ∧ POk g a.2.p) ?_ w.acts.length (0, t0) ?_) ?_ ?_
        · rintro d2 ⟨j, t⟩ ⟨j1, j2, j3⟩ hrec2
          simp only at j1 j2 j3
          (repeat (first | with_reducible (first | refine wL fun _ => ?_ | refine wD fun _ => ?_ | refine wE ?_ | refine adrZ.go ?_) | simp [go_sem]))
          refine aIf.mkL (fun hj => ?_) (fun hj => ?_) <;> simp at hj
          · have hx := w4 _ (nth_mem hj)
            have hts : doAs g 1 t0 (w.acts.take (j + 1)) = if (doA g 1 t (nth w.acts j)).2 = true then some (doA g 1 t (nth w.acts j)).1 else none := by
              rw [List.take_add_one, List.getElem?_eq_getElem hj, nth_eq _ _ hj, Option.toList_some, doAs_snoc, j2]; rfl
            have hok := doA_ok hg (.inr rfl) j3 hx
            obtain ⟨x, hxe⟩ : ∃ x, x = nth w.acts j := ⟨_, rfl⟩
            rw [← hxe] at hx hts hok
            (repeat (first | with_reducible (first | refine wL fun _ => ?_ | refine wD fun _ => ?_ | refine wE ?_ | refine adrZ.go ?_) | simp [go_sem, hj]))
            rw [← hxe]
            refine do_call g hg 1 (.inr rfl) t j3 x hx (o := 5) (a := 6) (b := 67) (c := 131) (by decide) (by simp) (by simp [upd]) (by simp [upd]) (by simp [upd]) (by simp [upd]) ?_
            unfold tkUp
            obtain ⟨t', ht'⟩ : ∃ t', t' = (doA g 1 t x).1 := ⟨_, rfl⟩
            rw [← ht'] at hts hok ⊢
            by_cases hd : (doA g 1 t x).2 = true
            · rw [if_pos hd] at hts
              (repeat (first | with_reducible (first | refine wL fun _ => ?_ | refine wD fun _ => ?_ | refine wE ?_ | refine adrZ.go ?_) | simp [go_sem, hd]))
              refine ALoop.start (hrec2 (d2 - 1) (by omega) (j + 1, t') ⟨by simp only; omega, hts, hok hd⟩) ?_ (by simp)
              simp [go_sem, Wk_eq]
              simp [tkAt, go_sem]
            · rw [if_neg hd] at hts
              have hW : outW g 1 t0 w = none := by unfold outW stW; rw [doAs_none hts]; rfl
              rw [hW, Option.toList_none, List.append_nil] at hsu
              simp only [Bool.not_eq_true] at hd
              (repeat (first | with_reducible (first | refine wL fun _ => ?_ | refine wD fun _ => ?_ | refine wE ?_ | refine adrZ.go ?_) | simp [go_sem, hd]))
              refine ALoop.start (hrec (d - 1) (by omega) (i + 1) (by omega)) ?_ (by simp)
              simp [go_sem, Wk_eq, hsu]
          · have hjl : j = w.acts.length := by omega
            subst hjl
            rw [List.take_length] at j2
            have hwl : w.to.toNat < t.p.at_.length := by have := j3.al; omega
            have hW : outW g 1 t0 w = putS 1 (stT t w.to) := by unfold outW stW; rw [j2]; rfl
            rw [hW] at hsu
            have hcode := gCode_pure t.kind 1
            by_cases hto : nth t.p.at_ w.to.toNat = 0
            · have hP : putS 1 (stT t w.to) = some ⟨{ t.p with at_ := t.p.at_.set w.to.toNat (codeOf t.kind 1), side := 1 - 1 }, t.took⟩ := by unfold putS; exact if_pos hto
              rw [hP, Option.toList_some] at hsu
              (repeat (first | with_reducible (first | refine wL fun _ => ?_ | refine wD fun _ => ?_ | refine wE ?_ | refine adrZ.go ?_) | simp [go_sem, hwl, hto, tkAt]))
              try ((with_reducible refine adrZ.go ?_); (try simp [go_sem]))
              refine dCall.plain hcode (by simp [go_sem]) ?_
              (repeat (first | with_reducible (first | refine wL fun _ => ?_ | refine wD fun _ => ?_ | refine wE ?_ | refine adrZ.go ?_) | simp [go_sem, hwl, hto, tkAt]))
              refine ALoop.start (hrec (d - 1) (by omega) (i + 1) (by omega)) ?_ (by simp)
              simp [go_sem, Wk_eq, hsu]
              ((refine leRows_append (.refl _) ?_); (repeat (first | (with_reducible exact LeRows.nil) | (with_reducible refine LeRows.cons ?_ ?_) | (with_reducible exact LeRow.nil) | (with_reducible refine LeRow.cons ?_ ?_) | (with_reducible exact LeV.refl _) | (refine leV_frz rfl (by simp) (by simp [noH, upd]) ?_; first | (simp [go_sem]; done) | (simp [go_sem]; exact List.take_of_length_le (by simp))))))
            · have hP : putS 1 (stT t w.to) = none := by unfold putS; exact if_neg hto
              rw [hP, Option.toList_none, List.append_nil] at hsu
              (repeat (first | with_reducible (first | refine wL fun _ => ?_ | refine wD fun _ => ?_ | refine wE ?_ | refine adrZ.go ?_) | simp [go_sem, hwl, hto, tkAt]))
              refine ALoop.start (hrec (d - 1) (by omega) (i + 1) (by omega)) ?_ (by simp)
              simp [go_sem, Wk_eq, hsu]
        · exact ⟨by simp, rfl, hst⟩
        · simp [go_sem, Wk_eq, hrow, hat0, hh0, hh1]
        · simp
      · have hil : i = pl.length := by omega
        subst hil
        have hall : out pl.length = pl.filterMap (outW g 1 (startT p cell)) := by rw [hout]; simp only [List.take_length]
        have hlo : (out pl.length).length ≤ 1000000000 := by
          rw [hall]
          exact Nat.le_trans (List.length_filterMap_le _ _) hpo.1
        have hfo : ∀ o ∈ out pl.length, FitsP o.pos := fun o ho => by
          rw [hall] at ho
          obtain ⟨w, hw, h⟩ := List.mem_filterMap.1 ho
          exact outW_fits hg (.inr rfl) (hp.clr _) (hpo.2 w hw).2.2 h
        rw [← hall] at hR'
        unfold sortU at hR'
        obtain ⟨o, ho⟩ : ∃ o, o = out pl.length := ⟨_, rfl⟩
        rw [← ho] at hlo hfo hR' ⊢
        (repeat (first | with_reducible (first | refine wL fun _ => ?_ | refine wD fun _ => ?_ | refine wE ?_ | refine adrZ.go ?_) | simp [go_sem]))
        refine sortO_call o hfo (by omega) (by simp [upd]) ?_
        have hsl : (sortC cmpO o).length = o.length := sortC_len o
        have hfs : ∀ x ∈ sortC cmpO o, FitsP x.pos := fun x hx => hfo x (sortC_mem.1 hx)
        generalize sortC cmpO o = so at *
        (repeat (first | with_reducible (first | refine wL fun _ => ?_ | refine wD fun _ => ?_ | refine wE ?_ | refine adrZ.go ?_) | simp [go_sem]))
        refine compact_call2 so _ _ hsl (by omega) hfs (by simp [upd]) (by omega) ?_
        rw [hR']
        (repeat (first | with_reducible (first | refine wL fun _ => ?_ | refine wD fun _ => ?_ | refine wE ?_ | refine adrZ.go ?_) | simp [go_sem]))
        refine leV_frz rfl (by simp) (by simp [noH, upd]) ?_
        simp
    · simp
    · simp [go_sem, Wk_eq, hout]
    · simp
end Go.Av
end
section
set_option linter.unusedSimpArgs false
set_option linter.unusedVariables false
open Go Go.Proofs
set_option maxRecDepth 20000
set_option maxHeartbeats 4000000
namespace Go.Av
theorem R8Turned_pure (p : PosD) (hf : FitsP p) (s : Int) : Pure Tryz.prog 12 [.agg (encPos p), .v (.int .i64 s)] (.agg (encPos (withSide p s))) := by
  refine Pure.of (ACallP.of_awp (by kernel_rfl) Tryz.func12 rfl rfl (Nat.le_of_ble_eq_true rfl) (by kernel_rfl) ?_)
  have hc := Copied_owns p hf
  (repeat (first | with_reducible (first | refine wL fun _ => ?_ | refine wD fun _ => ?_ | refine wE ?_ | refine adrZ.go ?_) | simp [go_sem]))
  refine ACallP.ownsPlain hc (by simp [go_sem]) ?_
  (repeat (first | with_reducible (first | refine wL fun _ => ?_ | refine wD fun _ => ?_ | refine wE ?_ | refine adrZ.go ?_) | simp [go_sem, withSide]))
  refine ⟨?_, ?_, ?_⟩ <;> (refine leV_frz rfl (by simp) (by simp [noH, upd]) ?_; first | (simp [go_sem]; done) | (simp [go_sem]; exact List.take_of_length_le (by simp)))
theorem SameOutcomes_true (l : List OutD) (hl : l.length ≤ 17179869184) (hf : ∀ o ∈ l, FitsP o.pos) : Pure Tryz.prog 9 [encOs l, encOs l] (.v (.bool true)) := by
  refine Pure.of (ACallP.of_awp (by kernel_rfl) Tryz.func9 rfl rfl (Nat.le_of_ble_eq_true rfl) (by kernel_rfl) ?_)
  (repeat (first | with_reducible (first | refine wL fun _ => ?_ | refine wD fun _ => ?_ | refine wE ?_ | refine adrZ.go ?_) | simp [go_sem]))
  refine ALoop.start (ALoop.ind (α := Nat) (fun j => ⟨[(0, encOs l), (1, encOs l), (5, .v (.int .i64 j))], [], 0⟩) (fun d j => j + d = l.length) ?_ l.length 0 ?_) ?_ ?_
  · rintro d j i1 hrec
    (repeat (first | with_reducible (first | refine wL fun _ => ?_ | refine wD fun _ => ?_ | refine wE ?_ | refine adrZ.go ?_) | simp [go_sem]))
    refine aIf.mkL (fun hj => ?_) (fun hj => ?_) <;> simp at hj
    · have hfj := hf _ (nth_mem hj)
      have hc := Compare_pure _ _ hfj hfj
      rw [cmpP_eq.2 rfl] at hc
      (repeat (first | with_reducible (first | refine wL fun _ => ?_ | refine wD fun _ => ?_ | refine wE ?_ | refine adrZ.go ?_) | simp [go_sem, hj]))
      try ((with_reducible refine adrZ.go ?_); (try simp [go_sem]))
      refine dCall.plain hc (by simp [go_sem]) ?_
      (repeat (first | with_reducible (first | refine wL fun _ => ?_ | refine wD fun _ => ?_ | refine wE ?_ | refine adrZ.go ?_) | simp [go_sem, hj]))
      refine ALoop.start (hrec (d - 1) (by omega) (j + 1) (by omega)) ?_ (by simp)
      simp [go_sem, Wk_eq]
    · (repeat (first | with_reducible (first | refine wL fun _ => ?_ | refine wD fun _ => ?_ | refine wE ?_ | refine adrZ.go ?_) | simp [go_sem]))
  · simp
  · simp [go_sem, Wk_eq]
  · simp
/-- the outcomes of the first programs -/
def runsW (g : GameD) (p : PosD) (cell : Int) (i : Nat) : List OutD := runsP g (withSide p (manOf (nth p.at_ cell.toNat)).2) cell i
def progsF (g : GameD) (p : PosD) (cell : Int) (i : Nat) : List OutD := ((List.range i).flatMap (runsW g p cell)).foldl (fun a x => insertO x a) []
def progsI (g : GameD) (p : PosD) (cell : Int) (i k : Nat) : List OutD := ((runsW g p cell i).take k).foldl (fun a x => insertO x a) (progsF g p cell i)
theorem progsF_succ (g : GameD) (p : PosD) (cell : Int) (i : Nat) : progsF g p cell (i + 1) = progsI g p cell i (runsW g p cell i).length := by
  unfold progsF progsI
  rw [List.range_succ, List.flatMap_append, List.foldl_append, List.take_length]
  simp only [List.flatMap_cons, List.flatMap_nil, List.append_nil]
  rfl
theorem progsI_zero (g : GameD) (p : PosD) (cell : Int) (i : Nat) : progsI g p cell i 0 = progsF g p cell i := rfl
theorem progsI_succ (g : GameD) (p : PosD) (cell : Int) (i : Nat) {k : Nat} (h : k < (runsW g p cell i).length) : progsI g p cell i (k + 1) = insertO (nth (runsW g p cell i) k) (progsI g p cell i k) := by
  unfold progsI
  rw [List.take_add_one, List.getElem?_eq_getElem h, nth_eq _ _ h, Option.toList_some, List.foldl_append]; rfl
theorem insF_len : ∀ (l acc : List OutD), (l.foldl (fun a x => insertO x a) acc).length ≤ acc.length + l.length
  | [], acc => by simp
  | x :: l, acc => by
    have h := insF_len l (insertO x acc)
    have k := insertO_le x acc
    rw [List.foldl_cons, List.length_cons]
    omega
theorem insF_all {P : OutD → Prop} : ∀ {l acc : List OutD}, (∀ o ∈ acc, P o) → (∀ o ∈ l, P o) → ∀ o ∈ l.foldl (fun a x => insertO x a) acc, P o
  | [], acc, h, _ => h
  | x :: l, acc, h, h' => by
    rw [List.foldl_cons]
    refine insF_all (fun o ho => ?_) (fun o ho => h' o (List.mem_cons_of_mem _ ho))
    rcases insertO_mem.1 ho with rfl | ho
    · exact h' _ (by simp)
    · exact h o ho
theorem progsO_eq (g : GameD) (p : PosD) (cell : Int) : progsO g p cell = if (manOf (nth p.at_ cell.toNat)).1 < 0 then [] else progsF g p cell (nth g.kinds (manOf (nth p.at_ cell.toNat)).1.toNat).progs.length := by
  unfold progsO progsF
  split
  · rfl
  · rw [insertO_all]; rfl
theorem Programs_pure (g : GameD) (hg : GOk g) (p : PosD) (hp : POk g p) (cell : Int) (c0 : 0 ≤ cell) (c1 : cell < g.cells) :
    Pure Tryz.prog 11 [.agg (encGame g), .agg (encPos p), .v (.int .i64 cell)] (encOs (progsO g p cell)) := by
  refine Pure.of (ACallP.of_awp (by kernel_rfl) Tryz.func11 rfl rfl (Nat.le_of_ble_eq_true rfl) (by kernel_rfl) ?_)
  have hal := hp.al
  have hcl : cell.toNat < p.at_.length := by omega
  have hM := R3Of_pure (nth p.at_ cell.toNat)
  have hat := hp.at (i := cell.toNat) (by omega)
  have hman := manOf_cases hat.1 hat.2 hg.k6
  have hT := fun s => R8Turned_pure p (hp.fits hg) s
  have hpe := progsO_eq g p cell
  have hch : 0 ≤ (manOf (nth p.at_ cell.toNat)).1 → ∀ i : Nat, i < (nth g.kinds (manOf (nth p.at_ cell.toNat)).1.toNat).progs.length → POk g (withSide p (manOf (nth p.at_ cell.toNat)).2) ∧ ChoiceOk g (withSide p (manOf (nth p.at_ cell.toNat)).2) cell i := fun h i hi => by
    refine ⟨hp.side (by rcases hman with ⟨_, e⟩ | ⟨_, _, _, e, _⟩; rw [e] at h; simp at h; exact e), ⟨c0, c1, h, rfl, by omega, ?_⟩⟩
    show (i : Int) < _
    exact Int.ofNat_lt.2 hi
  have hR : 0 ≤ (manOf (nth p.at_ cell.toNat)).1 → ∀ i : Nat, i < (nth g.kinds (manOf (nth p.at_ cell.toNat)).1.toNat).progs.length →
      Pure Tryz.prog 34 [.agg (encGame g), .agg (encPos (withSide p (manOf (nth p.at_ cell.toNat)).2)), .v (.int .i64 cell), .v (.int .i64 i)] (.tup [encOs (runsW g p cell i), .v (.int .i64 0)]) ∧ (runsW g p cell i).length ≤ 100000000 ∧ ∀ o ∈ runsW g p cell i, FitsP o.pos := fun h i hi => by
    obtain ⟨h1, h2⟩ := hch h i hi
    exact ⟨R5Runs_pure g hg _ h1 cell i h2, runsP_len hg h1 h2, fun o ho => (runsP_ok hg h1 h2 o ho).1.fits hg⟩
  have hS := fun i => progsF_succ g p cell i
  have hI := fun i k (h : k < (runsW g p cell i).length) => progsI_succ g p cell i h
  have hZ := fun i => progsI_zero g p cell i
  have hF0 : progsF g p cell 0 = [] := rfl
  have hgood : 0 ≤ (manOf (nth p.at_ cell.toNat)).1 → ∀ i : Nat, i ≤ (nth g.kinds (manOf (nth p.at_ cell.toNat)).1.toNat).progs.length → (progsF g p cell i).length ≤ 100000000 * i ∧ ∀ o ∈ progsF g p cell i, FitsP o.pos := by
    intro h i
    induction i with
    | zero => intro _; rw [hF0]; simp
    | succ i ih =>
      intro hi
      obtain ⟨a1, a2⟩ := ih (by omega)
      obtain ⟨_, b2, b3⟩ := hR h i (by omega)
      rw [hS]
      unfold progsI
      rw [List.take_length]
      have := insF_len (runsW g p cell i) (progsF g p cell i)
      exact ⟨by omega, insF_all a2 b3⟩
  have hgI : 0 ≤ (manOf (nth p.at_ cell.toNat)).1 → ∀ i k : Nat, i < (nth g.kinds (manOf (nth p.at_ cell.toNat)).1.toNat).progs.length → (progsI g p cell i k).length ≤ 100000000 * i + 100000000 ∧ ∀ o ∈ progsI g p cell i k, FitsP o.pos := by
    intro h i k hi
    obtain ⟨a1, a2⟩ := hgood h i (by omega)
    obtain ⟨_, b2, b3⟩ := hR h i hi
    unfold progsI
    have h1 := insF_len ((runsW g p cell i).take k) (progsF g p cell i)
    have h2 : ((runsW g p cell i).take k).length ≤ (runsW g p cell i).length := by rw [List.length_take]; omega
    exact ⟨by omega, insF_all a2 (fun o ho => b3 o (List.mem_of_mem_take ho))⟩
  have hpn : 0 ≤ (manOf (nth p.at_ cell.toNat)).1 → (nth g.kinds (manOf (nth p.at_ cell.toNat)).1.toNat).progs.length ≤ 8 := fun h => hg.pn _ (nth_mem (by rcases hman with ⟨_, e⟩ | ⟨_, _, e, _⟩; rw [e] at h; simp at h; omega))
  generalize hm : manOf (nth p.at_ cell.toNat) = m at *
  obtain ⟨mk, ms⟩ := m
  simp only [Prod.mk.injEq] at hman hM hpe hR hgood hgI hpn
  clear hch
  generalize runsW g p cell = rw_ at *
  generalize progsF g p cell = pf at *
  generalize progsI g p cell = pi at *
  rw [hpe]
  (repeat (first | with_reducible (first | refine wL fun _ => ?_ | refine wD fun _ => ?_ | refine wE ?_ | refine adrZ.go ?_) | simp [go_sem, hcl]))
  refine ACallP.plain hM (by simp [go_sem]) ?_
  have hmk : mk.toNat < g.kinds.length := by
    have := hg.k1
    rcases hman with ⟨_, e, _⟩ | ⟨_, _, e, _⟩ <;> omega
  by_cases hk : mk < 0
  · rw [if_pos hk]
    (repeat (first | with_reducible (first | refine wL fun _ => ?_ | refine wD fun _ => ?_ | refine wE ?_ | refine adrZ.go ?_) | simp [go_sem, hk]))
    refine ALoop.unroll ?_
    (repeat (first | with_reducible (first | refine wL fun _ => ?_ | refine wD fun _ => ?_ | refine wE ?_ | refine adrZ.go ?_) | simp [go_sem, hk, hmk]))
    (refine aIf.mkL (fun hF => by first | omega | (simp at hF; omega)) (fun hF => ?_); clear hF)
    (repeat (first | with_reducible (first | refine wL fun _ => ?_ | refine wD fun _ => ?_ | refine wE ?_ | refine adrZ.go ?_) | simp [go_sem]))
    ((try simp only [encProg, encStep, encAct, encAs, encPath, encPt, encOut, encState, encPos, encOs, encSs, encPs, encIs, encGame, List.map_cons, List.map_nil, List.nil_append, List.append_nil, List.cons_append]); (repeat (first | (with_reducible exact LeRow.nil) | (with_reducible exact LeRows.nil) | (with_reducible exact LeV.refl _) | (with_reducible exact LeRow.refl _ _ _ _) | (with_reducible exact LeRows.refl _) | (with_reducible refine LeRow.cons ?_ ?_) | (with_reducible refine LeRows.cons ?_ ?_) | (with_reducible refine LeV.agg ?_) | (with_reducible refine LeV.tup ?_) | (with_reducible refine LeV.fn ?_ ?_) | (with_reducible exact LeV.nil _) | (with_reducible refine leRows_append (LeRows.refl _) ?_) | ((refine leV_frz rfl (by simp) (by simp [frzO, frz1, upd, noH]) ?_); (first | (simp [go_sem]; done) | (simp [go_sem]; exact List.take_of_length_le (by simp)))) | ((refine LeV.frz rfl (by simp) (by simp [frzO, frz1, upd, noH]) ?_); (simp only [List.drop_zero, List.take_succ_cons, List.take_zero, List.map_cons, List.map_nil])) | ((refine LeV.frzP rfl (by simp) (by simp) (by simp [frzO, frz1, upd, noH]) ?_); (simp only [nth_zero, List.drop_zero])))))
  · rw [if_neg hk]
    have hk' : 0 ≤ mk := by omega
    replace hR := hR hk'
    replace hgood := hgood hk'
    replace hgI := hgI hk'
    replace hpn := hpn hk'
    obtain ⟨pg, hpg⟩ : ∃ pg, pg = (nth g.kinds mk.toNat).progs := ⟨_, rfl⟩
    rw [← hpg] at hR hgood hgI hpn ⊢
    (repeat (first | with_reducible (first | refine wL fun _ => ?_ | refine wD fun _ => ?_ | refine wE ?_ | refine adrZ.go ?_) | simp [go_sem, hk, hcl]))
    refine ALoop.start (ALoop.ind (α := Nat) (fun i => ⟨[(2, .v (.int .i64 cell)), (3, .ref 0 0 9 0 0), (4, .ref 1 0 5 0 0), (7, encOs (pf i)), (8, .ref 3 0 2 0 0), (9, .v (.int .i64 i))],
      [(0, .rows true 0 9 [encGame g]), (1, .rows true 0 5 [encPos p]), (3, .rows true 0 2 [[.v (.int .i64 mk), .v (.int .i64 ms)]])], 4⟩)
      (fun d i => i + d = pg.length) ?_ pg.length 0 ?_) ?_ ?_
    · rintro d i i1 hrec
      (repeat (first | with_reducible (first | refine wL fun _ => ?_ | refine wD fun _ => ?_ | refine wE ?_ | refine adrZ.go ?_) | simp [go_sem, hk, hmk, ← hpg]))
      refine aIf.mkL (fun hi => ?_) (fun hi => ?_) <;> simp at hi
      · replace hi := hi.2
        obtain ⟨r1, r2, r3⟩ := hR i hi
        (repeat (first | with_reducible (first | refine wL fun _ => ?_ | refine wD fun _ => ?_ | refine wE ?_ | refine adrZ.go ?_) | simp [go_sem]))
        try ((with_reducible refine adrZ.go ?_); (try simp [go_sem]))
        refine dCall.plain (hT ms) (by simp [go_sem]) ?_
        (repeat (first | with_reducible (first | refine wL fun _ => ?_ | refine wD fun _ => ?_ | refine wE ?_ | refine adrZ.go ?_) | simp [go_sem]))
        try ((with_reducible refine adrZ.go ?_); (try simp [go_sem]))
        refine dCall.plain r1 (by simp [go_sem]) ?_
        (repeat (first | with_reducible (first | refine wL fun _ => ?_ | refine wD fun _ => ?_ | refine wE ?_ | refine adrZ.go ?_) | simp [go_sem]))
        refine ALoop.start (ALoop.ind (α := Nat) (fun k => ⟨[(2, .v (.int .i64 cell)), (3, .ref 0 0 9 0 0), (4, .ref 1 0 5 0 0), (7, encOs (pi i k)), (8, .ref 3 0 2 0 0), (9, .v (.int .i64 i)), (10, encOs (rw_ i)), (12, .v (.int .i64 k))],
          [(0, .rows true 0 9 [encGame g]), (1, .rows true 0 5 [encPos p]), (3, .rows true 0 2 [[.v (.int .i64 mk), .v (.int .i64 ms)]])], 4⟩)
          (fun d k => k + d = (rw_ i).length) ?_ (rw_ i).length 0 ?_) ?_ ?_
        · rintro d2 k k1 hrec2
          obtain ⟨q1, q2⟩ := hgI i k hi
          (repeat (first | with_reducible (first | refine wL fun _ => ?_ | refine wD fun _ => ?_ | refine wE ?_ | refine adrZ.go ?_) | simp [go_sem]))
          refine aIf.mkL (fun hkk => ?_) (fun hkk => ?_) <;> simp at hkk
          · have hins := R5Insert_pure (pi i k) (nth (rw_ i) k) (by omega) q2 (r3 _ (nth_mem hkk))
            rw [← hI i k hkk] at hins
            (repeat (first | with_reducible (first | refine wL fun _ => ?_ | refine wD fun _ => ?_ | refine wE ?_ | refine adrZ.go ?_) | simp [go_sem, hkk]))
            refine ACallP.plain hins (by simp [go_sem]) ?_
            (repeat (first | with_reducible (first | refine wL fun _ => ?_ | refine wD fun _ => ?_ | refine wE ?_ | refine adrZ.go ?_) | simp [go_sem]))
            refine ALoop.start (hrec2 (d2 - 1) (by omega) (k + 1) (by omega)) ?_ (by simp)
            simp [go_sem, Wk_eq]
          · have hke : k = (rw_ i).length := by omega
            subst hke
            have e := hS i
            (repeat (first | with_reducible (first | refine wL fun _ => ?_ | refine wD fun _ => ?_ | refine wE ?_ | refine adrZ.go ?_) | simp [go_sem]))
            refine ALoop.start (hrec (d - 1) (by omega) (i + 1) (by omega)) ?_ (by simp)
            simp [go_sem, Wk_eq, e]
        · simp
        · simp [go_sem, Wk_eq, hZ]
        · simp
      · have hil : i = pg.length := by have := hi hk'; omega
        subst hil
        (repeat (first | with_reducible (first | refine wL fun _ => ?_ | refine wD fun _ => ?_ | refine wE ?_ | refine adrZ.go ?_) | simp [go_sem]))
    · simp
    · simp [go_sem, Wk_eq, hF0]
      ((try simp only [encProg, encStep, encAct, encAs, encPath, encPt, encOut, encState, encPos, encOs, encSs, encPs, encIs, encGame, List.map_cons, List.map_nil, List.nil_append, List.append_nil, List.cons_append]); (repeat (first | (with_reducible exact LeRow.nil) | (with_reducible exact LeRows.nil) | (with_reducible exact LeV.refl _) | (with_reducible exact LeRow.refl _ _ _ _) | (with_reducible exact LeRows.refl _) | (with_reducible refine LeRow.cons ?_ ?_) | (with_reducible refine LeRows.cons ?_ ?_) | (with_reducible refine LeV.agg ?_) | (with_reducible refine LeV.tup ?_) | (with_reducible refine LeV.fn ?_ ?_) | (with_reducible exact LeV.nil _) | (with_reducible refine leRows_append (LeRows.refl _) ?_) | ((refine leV_frz rfl (by simp) (by simp [frzO, frz1, upd, noH]) ?_); (first | (simp [go_sem]; done) | (simp [go_sem]; exact List.take_of_length_le (by simp)))) | ((refine LeV.frz rfl (by simp) (by simp [frzO, frz1, upd, noH]) ?_); (simp only [List.drop_zero, List.take_succ_cons, List.take_zero, List.map_cons, List.map_nil])) | ((refine LeV.frzP rfl (by simp) (by simp) (by simp [frzO, frz1, upd, noH]) ?_); (simp only [nth_zero, List.drop_zero])))))
    · simp
end Go.Av
end
section
set_option linter.unusedSimpArgs false
set_option linter.unusedVariables false
open Go Go.Proofs
set_option maxRecDepth 20000
set_option maxHeartbeats 4000000
namespace Go.Av
theorem kindP_few {g : GameD} (hg : GOk g) (hs : OneSlide g) (side : Int) {k : KindD} (hk : k ∈ g.kinds) (c : Int) : (kindP g.board side k.progs c).length ≤ 100 := by
  have h9 : g.board.cells.toNat ≤ 9 := by have : g.board.cells = g.cells := rfl; have := hg.c9; omega
  have h := flatMap_le (fun p => pathsP g.board side p c) 9 k.progs (fun p hp => by
    have h := pathsP_len hg.board hg.c1 side p c
    have := hs k hk p hp
    rcases (show countOp p 2 = 0 ∨ countOp p 2 = 1 by omega) with e | e <;> rw [e] at h <;> simp at h <;> omega)
  have := hg.pn k hk
  unfold kindP
  omega
theorem codeOk_codeP {g : GameD} (hg : GOk g) (hs : OneSlide g) : CodeOk g (codeP g) := by
  have hF := shape_codeP hg
  have hp : ∀ s : Int, ∀ k ∈ sideP g s, ∀ l ∈ k, l.length ≤ 1000000000 ∧ ∀ w ∈ l, (0 ≤ w.to ∧ w.to < g.cells) ∧ w.acts.length ≤ 1048576 ∧ ∀ a ∈ w.acts, ActOk g.cells g.kinds.length g.rights a := by
    intro s k hk l hl
    obtain ⟨kd, hkd, rfl⟩ := List.mem_map.1 hk
    obtain ⟨c, hc, rfl⟩ := List.mem_map.1 hl
    have hc' := List.mem_range.1 hc
    have hgc : g.board.cells = g.cells := rfl
    refine ⟨Nat.le_trans (kindP_few hg hs s hkd c) (by omega), fun w hw => ?_⟩
    have h1 := kindP_ok hg hkd (side := s) (cell := (c : Int)) ⟨by omega, by omega⟩ w hw
    exact ⟨h1.to, kindP_acts hg s hkd c w hw, h1.acts⟩
  exact ⟨hF.l1, hF.l2, hF.c1, hF.c2, hp 0, hp 1⟩
theorem runC_codeP {g : GameD} (hg : GOk g) {p : PosD} (hp : POk g p) {cell : Int} (c0 : 0 ≤ cell) (c1 : cell < g.cells) : runC g (codeP g) p cell = runO g p cell := by
  unfold runC runO
  by_cases h : nth p.at_ cell.toNat = 0
  · rw [if_neg (by rintro ⟨_, _, h'⟩; exact h' h), if_pos h]
  · rw [if_pos ⟨c0, c1, h⟩, if_neg h]
    have hat := hp.at (i := cell.toNat) (by omega)
    have e : pathsC (codeP g) (manOf (nth p.at_ cell.toNat)).2 (manOf (nth p.at_ cell.toNat)).1.toNat cell.toNat = pathsAt g p cell := by
      rcases manOf_cases hat.1 hat.2 hg.k6 with ⟨hz, _⟩ | ⟨_, e1, e2, e3, _⟩
      · exact absurd hz h
      · unfold pathsC pathsAt
        have hc : ((cell.toNat : Nat) : Int) = cell := by omega
        rcases e3 with e3 | e3
        · rw [e3, if_pos rfl]
          show nth (nth (sideP g 0) _) _ = _
          rw [sideP_nth g 0 (by omega) (by omega), hc]
        · rw [e3, if_neg (by decide)]
          show nth (nth (sideP g 1) _) _ = _
          rw [sideP_nth g 1 (by omega) (by omega), hc]
    rw [e]; rfl
theorem runO_len {g : GameD} (hg : GOk g) (hs : OneSlide g) {p : PosD} (hp : POk g p) {cell : Int} (c0 : 0 ≤ cell) (c1 : cell < g.cells) : (runO g p cell).length ≤ 100 ∧ ∀ o ∈ runO g p cell, FitsP o.pos := by
  have hat := hp.at (i := cell.toNat) (by omega)
  unfold runO
  rcases manOf_cases hat.1 hat.2 hg.k6 with ⟨hz, _⟩ | ⟨hz, e1, e2, e3, _⟩
  · rw [if_pos hz]; simp
  · rw [if_neg hz]
    have hk := nth_mem (l := g.kinds) (i := (manOf (nth p.at_ cell.toNat)).1.toNat) (by omega)
    refine ⟨?_, fun o ho => ?_⟩
    · have h1 := sortU_le cmpO (outsL g p cell)
      have h2 : (outsL g p cell).length ≤ (pathsAt g p cell).length := List.length_filterMap_le _ _
      have h3 := kindP_few hg hs (manOf (nth p.at_ cell.toNat)).2 hk cell
      unfold pathsAt at h2
      omega
    · rw [sortU_mem] at ho
      obtain ⟨w, hw, h⟩ := List.mem_filterMap.1 ho
      have h1 := kindP_ok hg hk ⟨c0, c1⟩ w hw
      exact outW_fits hg e3 (hp.clr _) h1.acts h
theorem GenOutcomes_pure (x : Raw6) (hx : Raw6Ok x) : Pure Tryz.prog 3 [.agg (encRaw6 x)] (.v (.bool true)) := by
  refine Pure.of (ACallP.of_awp (by kernel_rfl) Tryz.func3 rfl rfl (Nat.le_of_ble_eq_true rfl) (by kernel_rfl) ?_)
  have hM := R6Made_pure x hx
  have hg := game6_ok hx
  have hp := pos6_ok hx
  have hsl : OneSlide (game6 x) := madeG_slide x.g
  have hC := Compile_pure (game6 x) hg
  have hF := fit_codeP hg
  have hS := Shaped_true (game6 x) hg _ hF.sh
  have hco := codeOk_codeP hg hsl
  have hal := hp.al
  have h9 := hg.c9
  have h1c := hg.c1
  have hR : ∀ i : Nat, (i : Int) < (game6 x).cells → Pure Tryz.prog 10 [.agg (encGame (game6 x)), .agg (encCode (codeP (game6 x))), .agg (encPos (pos6 x)), .v (.int .i64 i)] (encOs (runO (game6 x) (pos6 x) i)) ∧
      Pure Tryz.prog 11 [.agg (encGame (game6 x)), .agg (encPos (pos6 x)), .v (.int .i64 i)] (encOs (runO (game6 x) (pos6 x) i)) ∧ Pure Tryz.prog 9 [encOs (runO (game6 x) (pos6 x) i), encOs (runO (game6 x) (pos6 x) i)] (.v (.bool true)) := fun i hi => by
    have h1 := gRun_pure (game6 x) hg _ hco (pos6 x) hp i (by omega) hi
    rw [runC_codeP hg hp (by omega) hi] at h1
    have h2 := Programs_pure (game6 x) hg (pos6 x) hp i (by omega) hi
    rw [← run_progs hg hp (by omega) hi] at h2
    have h3 := runO_len hg hsl hp (cell := (i : Int)) (by omega) hi
    have h4 : (runO (game6 x) (pos6 x) (i : Int)).length ≤ 17179869184 := Nat.le_trans h3.1 (Nat.le_of_ble_eq_true rfl)
    exact ⟨h1, h2, SameOutcomes_true _ h4 h3.2⟩
  obtain ⟨er, her⟩ : ∃ er, er = encRaw6 x := ⟨_, rfl⟩
  have herl : er.length = 31 := by rw [her]; exact raw6_len hx
  have herb : ∀ n, (∀ c ∈ er, Bel n c) = True := fun n => by rw [her]; exact raw6_bel hx n
  rw [← her] at hM ⊢
  have hgl : (encGame (game6 x)).length = 9 := rfl
  have hgb : ∀ n, (∀ c ∈ encGame (game6 x), Bel n c) = True := fun n => by simp [go_sem]
  have hcl : (encCode (codeP (game6 x))).length = 2 := rfl
  have hcb : ∀ n, (∀ y ∈ encCode (codeP (game6 x)), Bel n y) = True := fun n => by simp [go_sem]
  have hSan := sanity8_pure
  clear hsl hF hco
  generalize game6 x = g at *
  generalize pos6 x = p at *
  generalize encGame g = eg at *
  generalize encCode (codeP g) = ec at *
  (repeat (first | with_reducible (first | refine wL fun _ => ?_ | refine wD fun _ => ?_ | refine wE ?_ | refine adrZ.go ?_) | simp [go_sem, herl, hgl, hcl]))
  refine ACallP.plain hSan (by simp [go_sem]) ?_
  (repeat (first | with_reducible (first | refine wL fun _ => ?_ | refine wD fun _ => ?_ | refine wE ?_ | refine adrZ.go ?_) | simp [go_sem, herl, hgl, hcl]))
  refine ACallP.plain hM (by simp [go_sem, herb]) ?_
  (repeat (first | with_reducible (first | refine wL fun _ => ?_ | refine wD fun _ => ?_ | refine wE ?_ | refine adrZ.go ?_) | simp [go_sem, herl, hgl, hcl]))
  refine ACallP.plain hC (by simp [go_sem, hgb]) ?_
  (repeat (first | with_reducible (first | refine wL fun _ => ?_ | refine wD fun _ => ?_ | refine wE ?_ | refine adrZ.go ?_) | simp [go_sem, herl, hgl, hcl]))
  refine ACallP.plain hS (by simp [go_sem, hgb, hcb]) ?_
  (repeat (first | with_reducible (first | refine wL fun _ => ?_ | refine wD fun _ => ?_ | refine wE ?_ | refine adrZ.go ?_) | simp [go_sem, herl, hgl, hcl]))
  refine ALoop.start (ALoop.ind (α := Nat) (fun i => ⟨[(3, .v (.bool true)), (4, .ref 1 0 9 0 0), (5, .ref 2 0 5 0 0), (6, .ref 3 0 2 0 0), (7, .v (.int .i64 i))],
    [(1, .rows true 0 9 [eg]), (2, .rows true 0 5 [encPos p]), (3, .rows true 0 2 [ec])], 4⟩)
    (fun d i => i + d = p.at_.length) ?_ p.at_.length 0 ?_) ?_ ?_
  · rintro d i i1 hrec
    (repeat (first | with_reducible (first | refine wL fun _ => ?_ | refine wD fun _ => ?_ | refine wE ?_ | refine adrZ.go ?_) | simp [go_sem, hgl, hcl]))
    refine aIf.mkL (fun hi => ?_) (fun hi => ?_) <;> simp at hi
    · obtain ⟨r1, r2, r3⟩ := hR i (by omega)
      obtain ⟨o, ho⟩ : ∃ o, o = encOs (runO g p i) := ⟨_, rfl⟩
      have hob : ∀ n, Bel n o := fun n => by rw [ho]; exact bel_encOs _
      rw [← ho] at r1 r2 r3
      clear ho
      (repeat (first | with_reducible (first | refine wL fun _ => ?_ | refine wD fun _ => ?_ | refine wE ?_ | refine adrZ.go ?_) | simp [go_sem, hgl, hcl]))
      try ((with_reducible refine adrZ.go ?_); (try simp [go_sem]))
      refine dCall.plain r1 (by simp [go_sem, hgb, hcb]) ?_
      (repeat (first | with_reducible (first | refine wL fun _ => ?_ | refine wD fun _ => ?_ | refine wE ?_ | refine adrZ.go ?_) | simp [go_sem, hgl, hcl]))
      try ((with_reducible refine adrZ.go ?_); (try simp [go_sem]))
      refine dCall.plain r2 (by simp [go_sem, hgb]) ?_
      (repeat (first | with_reducible (first | refine wL fun _ => ?_ | refine wD fun _ => ?_ | refine wE ?_ | refine adrZ.go ?_) | simp [go_sem, hgl, hcl]))
      try ((with_reducible refine adrZ.go ?_); (try simp [go_sem]))
      refine dCall.plain r3 (by simp [hob]) ?_
      (repeat (first | with_reducible (first | refine wL fun _ => ?_ | refine wD fun _ => ?_ | refine wE ?_ | refine adrZ.go ?_) | simp [go_sem, hgl, hcl]))
      refine ALoop.start (hrec (d - 1) (by omega) (i + 1) (by omega)) ?_ (by simp)
      simp [go_sem, Wk_eq, hgb, hcb]
    · (repeat (first | with_reducible (first | refine wL fun _ => ?_ | refine wD fun _ => ?_ | refine wE ?_ | refine adrZ.go ?_) | simp [go_sem]))
  · simp
  · simp [go_sem, Wk_eq, hgb, hcb]
  · simp
end Go.Av
end
section
set_option linter.unusedSimpArgs false
set_option linter.unusedVariables false
open Go Go.Proofs
set_option maxRecDepth 20000
set_option maxHeartbeats 4000000
namespace Go.Av
theorem GenTurns_pure (x : Raw6) (hx : Raw6Ok x) (n : Int) (hn : 0 ≤ n ∧ n ≤ 255) : Pure Tryz.prog 4 [.agg (encRaw6 x), .v (.int .u8 n)] (.v (.bool true)) := by
  refine Pure.of (ACallP.of_awp (by kernel_rfl) Tryz.func4 rfl rfl (Nat.le_of_ble_eq_true rfl) (by kernel_rfl) ?_)
  have hM := R6Made_pure x hx
  have hg := game6_ok hx
  have hp := pos6_ok hx
  have hsl : OneSlide (game6 x) := madeG_slide x.g
  have hC := Compile_pure (game6 x) hg
  have hF := fit_codeP hg
  have hS := Shaped_true (game6 x) hg _ hF.sh
  have hco := codeOk_codeP hg hsl
  have hal := hp.al
  have h9 := hg.c9
  have h1c := hg.c1
  obtain ⟨A, hA⟩ : ∃ A, A = n.tmod ((pos6 x).at_.length : Int) := ⟨_, rfl⟩
  have hA0 : 0 ≤ A := by rw [hA]; exact Int.tmod_nonneg _ hn.1
  have hA1 : A < (game6 x).cells := by rw [hA, ← hal]; exact Int.tmod_lt_of_pos _ (by omega)
  have hR : ∀ s : Int, s = 0 ∨ s = 1 → Pure Tryz.prog 10 [.agg (encGame (game6 x)), .agg (encCode (codeP (game6 x))), .agg (encPos (withSide (pos6 x) s)), .v (.int .i64 A)] (encOs (runO (game6 x) (pos6 x) A)) := fun s hs => by
    have h1 := gRun_pure (game6 x) hg _ hco (withSide (pos6 x) s) (hp.side hs) A hA0 hA1
    rw [runC_codeP (p := withSide (pos6 x) s) hg (hp.side hs) hA0 hA1, runO_sd] at h1
    exact h1
  have hR0 := hR 0 (.inl rfl)
  have hR1 := hR 1 (.inr rfl)
  have hT := fun s => R8Turned_pure (pos6 x) (hp.fits hg) s
  have hT0 := hT 0
  have hT1 := hT 1
  obtain ⟨q0, hq0⟩ : ∃ q, q = encPos (withSide (pos6 x) 0) := ⟨_, rfl⟩
  obtain ⟨q1, hq1⟩ : ∃ q, q = encPos (withSide (pos6 x) 1) := ⟨_, rfl⟩
  have hq0b : ∀ n, (∀ c ∈ q0, Bel n c) = True := fun n => by rw [hq0]; simp [go_sem]
  have hq1b : ∀ n, (∀ c ∈ q1, Bel n c) = True := fun n => by rw [hq1]; simp [go_sem]
  rw [← hq0] at hT0 hR0
  rw [← hq1] at hT1 hR1
  have hO := runO_len hg hsl hp hA0 hA1
  have hO2 : (runO (game6 x) (pos6 x) A).length ≤ 17179869184 := Nat.le_trans hO.1 (Nat.le_of_ble_eq_true rfl)
  have hSm := SameOutcomes_true _ hO2 hO.2
  have hOf := R3Of_pure (nth (pos6 x).at_ A.toNat)
  have hsd : ∀ o ∈ runO (game6 x) (pos6 x) A, o.pos.side = 1 - (manOf (nth (pos6 x).at_ A.toNat)).2 ∧ nth (pos6 x).at_ A.toNat ≠ 0 := fun o ho => runO_side ho
  have hpw := runO_pw (game6 x) (pos6 x) A
  have hat := hp.at (i := A.toNat) (by omega)
  have hman := manOf_cases hat.1 hat.2 hg.k6
  have hcur : A.toNat < (pos6 x).at_.length := by omega
  obtain ⟨er, her⟩ : ∃ er, er = encRaw6 x := ⟨_, rfl⟩
  have herl : er.length = 31 := by rw [her]; exact raw6_len hx
  have herb : ∀ n, (∀ c ∈ er, Bel n c) = True := fun n => by rw [her]; exact raw6_bel hx n
  rw [← her] at hM ⊢
  have hgl : (encGame (game6 x)).length = 9 := rfl
  have hgb : ∀ n, (∀ c ∈ encGame (game6 x), Bel n c) = True := fun n => by simp [go_sem]
  have hcl : (encCode (codeP (game6 x))).length = 2 := rfl
  have hcb : ∀ n, (∀ y ∈ encCode (codeP (game6 x)), Bel n y) = True := fun n => by simp [go_sem]
  have hSan := sanity8_pure
  clear hsl hF hco hR hT
  generalize runO (game6 x) (pos6 x) A = o at *
  generalize game6 x = g at *
  generalize pos6 x = p at *
  generalize encGame g = eg at *
  generalize encCode (codeP g) = ec at *
  generalize hm : manOf (nth p.at_ A.toNat) = m at *
  obtain ⟨mk, ms⟩ := m
  simp only [Prod.mk.injEq] at hman hsd hOf
  (repeat (first | with_reducible (first | refine wL fun _ => ?_ | refine wD fun _ => ?_ | refine wE ?_ | refine adrZ.go ?_) | simp [go_sem, herl, hgl, hcl]))
  refine ACallP.plain hSan (by simp [go_sem]) ?_
  (repeat (first | with_reducible (first | refine wL fun _ => ?_ | refine wD fun _ => ?_ | refine wE ?_ | refine adrZ.go ?_) | simp [go_sem, herl, hgl, hcl]))
  refine ACallP.plain hM (by simp [go_sem, herb]) ?_
  (repeat (first | with_reducible (first | refine wL fun _ => ?_ | refine wD fun _ => ?_ | refine wE ?_ | refine adrZ.go ?_) | simp [go_sem, herl, hgl, hcl]))
  refine ACallP.plain hC (by simp [go_sem, hgb]) ?_
  (repeat (first | with_reducible (first | refine wL fun _ => ?_ | refine wD fun _ => ?_ | refine wE ?_ | refine adrZ.go ?_) | simp [go_sem, herl, hgl, hcl]))
  refine ACallP.plain hS (by simp [go_sem, hgb, hcb]) ?_
  (repeat (first | with_reducible (first | refine wL fun _ => ?_ | refine wD fun _ => ?_ | refine wE ?_ | refine adrZ.go ?_) | simp [go_sem, herl, hgl, hcl]))
  refine VC.mkL (by intro h; rw [h] at hcur; simp at hcur) fun _ => ?_
  (repeat (first | with_reducible (first | refine wL fun _ => ?_ | refine wD fun _ => ?_ | refine wE ?_ | refine adrZ.go ?_) | simp [go_sem, herl, hgl, hcl, ← hA]))
  try ((with_reducible refine adrZ.go ?_); (try simp [go_sem]))
  refine dCall.plain hT0 (by simp [go_sem]) ?_
  (repeat (first | with_reducible (first | refine wL fun _ => ?_ | refine wD fun _ => ?_ | refine wE ?_ | refine adrZ.go ?_) | simp [go_sem, herl, hgl, hcl]))
  try ((with_reducible refine adrZ.go ?_); (try simp [go_sem]))
  refine dCall.plain hR0 (by simp [go_sem, hgb, hcb, hq0b]) ?_
  (repeat (first | with_reducible (first | refine wL fun _ => ?_ | refine wD fun _ => ?_ | refine wE ?_ | refine adrZ.go ?_) | simp [go_sem, herl, hgl, hcl]))
  try ((with_reducible refine adrZ.go ?_); (try simp [go_sem]))
  refine dCall.plain hT1 (by simp [go_sem]) ?_
  (repeat (first | with_reducible (first | refine wL fun _ => ?_ | refine wD fun _ => ?_ | refine wE ?_ | refine adrZ.go ?_) | simp [go_sem, herl, hgl, hcl]))
  try ((with_reducible refine adrZ.go ?_); (try simp [go_sem]))
  refine dCall.plain hR1 (by simp [go_sem, hgb, hcb, hq1b]) ?_
  (repeat (first | with_reducible (first | refine wL fun _ => ?_ | refine wD fun _ => ?_ | refine wE ?_ | refine adrZ.go ?_) | simp [go_sem, herl, hgl, hcl]))
  refine ACallP.plain hSm (by simp [go_sem]) ?_
  (repeat (first | with_reducible (first | refine wL fun _ => ?_ | refine wD fun _ => ?_ | refine wE ?_ | refine adrZ.go ?_) | simp [go_sem, hcur]))
  refine ACallP.plain hOf (by simp [go_sem]) ?_
  (repeat (first | with_reducible (first | refine wL fun _ => ?_ | refine wD fun _ => ?_ | refine wE ?_ | refine adrZ.go ?_) | simp [go_sem, hcur]))
  have hol := hO.1
  refine ALoop.start (ALoop.ind (α := Nat) (fun i => ⟨[(5, .v (.bool true)), (10, encOs o), (12, .ref 18 0 2 0 0), (13, .v (.int .i64 i))], [(18, .rows true 0 2 [[.v (.int .i64 mk), .v (.int .i64 ms)]])], 19⟩)
    (fun d i => i + d = o.length) ?_ o.length 0 ?_) ?_ ?_
  · rintro d i i1 hrec
    (repeat (first | with_reducible (first | refine wL fun _ => ?_ | refine wD fun _ => ?_ | refine wE ?_ | refine adrZ.go ?_) | simp [go_sem]))
    refine aIf.mkL (fun hi => ?_) (fun hi => ?_) <;> simp at hi
    · obtain ⟨s1, s2⟩ := hsd _ (nth_mem hi)
      have hmk : ¬ mk < 0 := by
        rcases hman with ⟨h, _⟩ | ⟨_, h, _⟩
        · exact absurd h s2
        · omega
      by_cases h0 : i = 0
      · subst h0
        (repeat (first | with_reducible (first | refine wL fun _ => ?_ | refine wD fun _ => ?_ | refine wE ?_ | refine adrZ.go ?_) | simp [go_sem, hi, hmk, s1]))
        try ((with_reducible refine adrZ.go ?_); (try simp [go_sem]))
        refine dGC.skip (.v (.bool true)) ?_
        (repeat (first | with_reducible (first | refine wL fun _ => ?_ | refine wD fun _ => ?_ | refine wE ?_ | refine adrZ.go ?_) | simp [go_sem, hi, hmk, s1]))
        refine ALoop.start (hrec (d - 1) (by omega) 1 (by omega)) ?_ (by simp)
        simp [go_sem, Wk_eq]
      · have hi' : i - 1 < o.length := by omega
        have e1 : ((i : Int) - 1).toNat = i - 1 := by omega
        have hL := R5Less_pure (nth o (i - 1)) (nth o i) (hO.2 _ (nth_mem hi')) (hO.2 _ (nth_mem hi))
        have hlt : lessO (nth o (i - 1)) (nth o i) = true := by
          rw [lessO_eq, decide_eq_true_eq, nth_eq _ _ hi', nth_eq _ _ hi]
          exact List.pairwise_iff_getElem.1 hpw _ _ _ _ (by omega)
        rw [hlt] at hL
        simp only [encOut, s1] at hL
        have hip : 0 < i := by omega
        (repeat (first | with_reducible (first | refine wL fun _ => ?_ | refine wD fun _ => ?_ | refine wE ?_ | refine adrZ.go ?_) | simp [go_sem, hi, hmk, s1, e1, hi', hip]))
        try ((with_reducible refine adrZ.go ?_); (try simp [go_sem]))
        refine dGC.plain _ (fun _ => hL) (by simp [go_sem]) ?_
        (repeat (first | with_reducible (first | refine wL fun _ => ?_ | refine wD fun _ => ?_ | refine wE ?_ | refine adrZ.go ?_) | simp [go_sem, hi, hmk, s1, hip]))
        refine ALoop.start (hrec (d - 1) (by omega) (i + 1) (by omega)) ?_ (by simp)
        simp [go_sem, Wk_eq]
    · (repeat (first | with_reducible (first | refine wL fun _ => ?_ | refine wD fun _ => ?_ | refine wE ?_ | refine adrZ.go ?_) | simp [go_sem]))
  · simp
  · simp [go_sem, Wk_eq]
  · simp
end Go.Av
end
section
set_option linter.unusedSimpArgs false
set_option linter.unusedVariables false
namespace Go.Av
open Go

/-- no block -/
abbrev NoM : Nat → Prop := fun _ => False

/-- what is said of a datum's size -/
structure Bulk (B : Nat) (bk : ∀ {H : Type}, DataW H → Nat) : Prop where
  len : ∀ {H : Type} (l r : List (DataW H)), bk (.slice l r) ≤ B → l.length ≤ maxLen → l.length ≤ B
  elem : ∀ {H : Type} (l r : List (DataW H)) d, d ∈ l → bk (.slice l r) ≤ B → bk d ≤ B
  part : ∀ {H : Type} (l : List (DataW H)) d, d ∈ l → bk (.agg l) ≤ B → bk d ≤ B
  str : ∀ {H : Type} (l : List UInt8), bk (DataW.lit (H := H) (.string l)) ≤ B → l.length ≤ maxLen → l.length ≤ B

/-- no bound but that of the reading itself -/
theorem Bulk.any : Bulk maxLen (fun _ => 0) := ⟨fun _ _ _ h => h, fun _ _ _ _ _ => Nat.zero_le _, fun _ _ _ _ => Nat.zero_le _, fun _ _ h => h⟩

/-- A VALUE OF THE TYPE t, READ AS DATA, IS LAID AS 'en x' FOR AN x WITH Q. -/
def Opn (P : Program) (B : Nat) (bk : ∀ {H : Type}, DataW H → Nat) {α : Type} (t : TypeId) (en : α → List AV) (Q : α → Prop) : Prop :=
  ∀ {H : Type} (enc : TypeId × Value → H) (w : World) (fuel : Nat) (cs : List Value) (d : DataW H) (ps : List MemPlace),
    DataW.trod enc P w 0 (fun _ => true) true fuel t cs = some (d, ps) → bk d ≤ B → ∃ x, RelL noP w NoM (en x) cs ∧ (∀ c ∈ cs, cellV c = true) ∧ cs.length = P.cellsOf t ∧ Q x

section
variable {P : Program} {B : Nat} {bk : ∀ {H : Type}, DataW H → Nat}
theorem Opn.int {t : TypeId} {k : IntKind} (ht : P.underlying t = some (.int k)) (hc : P.cellsOf t = 1) : Opn P B bk t (fun n : Int => [.v (.int k n)]) (fun n => (Lit.int k n).wf = true) := by
  intro H enc w fuel cs d ps h _
  obtain ⟨n, rfl, _, hw⟩ := DataW.trod_int ht h
  exact ⟨n, .cons (.v _) .nil, by simp [cellV, Value.oneCell'], by simp [hc], hw⟩
theorem Opn.bool {t : TypeId} (ht : P.underlying t = some .bool) (hc : P.cellsOf t = 1) : Opn P B bk t (fun b : Bool => [.v (.bool b)]) (fun _ => True) := by
  intro H enc w fuel cs d ps h _
  obtain ⟨n, rfl, _⟩ := DataW.trod_bool ht h
  exact ⟨n, .cons (.v _) .nil, by simp [cellV, Value.oneCell'], by simp [hc], trivial⟩
theorem Opn.string {t : TypeId} (hB : Bulk B bk) (ht : P.underlying t = some .string) (hc : P.cellsOf t = 1) : Opn P B bk t (fun s : ByteArray => [.v (.string s)]) (fun s => s.size ≤ B) := by
  intro H enc w fuel cs d ps h hb
  obtain ⟨n, rfl, hx, hm⟩ := DataW.trod_string ht h
  simp only [Prod.mk.injEq] at hx
  obtain ⟨rfl, _⟩ := hx
  refine ⟨n, .cons (.v _) .nil, by simp [cellV, Value.oneCell'], by simp [hc], ?_⟩
  have := hB.str _ hb (by simpa using hm)
  simpa using this
theorem Opn.imp {α : Type} {t : TypeId} {en : α → List AV} {Q Q' : α → Prop} (h : Opn P B bk t en Q) (hq : ∀ x, Q x → Q' x) : Opn P B bk t en Q' := by
  intro H enc w fuel cs d ps h1 h2
  obtain ⟨x, a, b, c, e⟩ := h enc w fuel cs d ps h1 h2
  exact ⟨x, a, b, c, hq x e⟩
theorem Opn.map {α β : Type} {t : TypeId} {en : α → List AV} {en' : β → List AV} {Q : α → Prop} {Q' : β → Prop} (h : Opn P B bk t en Q) (f : α → β) (hq : ∀ x, Q x → Q' (f x)) (he : ∀ x, Q x → en' (f x) = en x) : Opn P B bk t en' Q' := by
  intro H enc w fuel cs d ps h1 h2
  obtain ⟨x, a, b, c, e⟩ := h enc w fuel cs d ps h1 h2
  exact ⟨f x, by rw [he x e]; exact a, b, c, hq x e⟩
theorem cells?_get {w : World} {a : Addr} {n : Nat} {cs : List Value} (h : w.cells? 0 a n = some cs) : cs.length = n ∧ ∀ i, i < n → w.cell? (a.add i) = cs[i]? := by
  unfold World.cells? at h
  rw [if_pos (Nat.zero_le _)] at h
  exact ⟨by simpa using mapM_some_length h, fun i hi => mapM_some_get h i i (by simp [hi])⟩
theorem cell?_block {w : World} {a : Addr} {v : Value} (h : w.cell? a = some v) : ∃ C T fz, w.heap[a.block]? = some (.cells C T fz) ∧ a.spot = none ∧ C[a.off]? = some v := by
  unfold World.cell? at h
  split at h
  · rename_i C T fz hb
    split at h
    · cases h
    · rename_i hs
      refine ⟨C, T, fz, hb, ?_, h⟩
      cases hsp : a.spot with
      | none => rfl
      | some x => simp [hsp] at hs
  · cases h
theorem add_block (a : Addr) (n : Nat) : (a.add n).block = a.block := by unfold Addr.add; split <;> rfl
theorem add_off (a : Addr) (n : Nat) : (a.add n).off = a.off + n := by
  unfold Addr.add
  split
  · rename_i h; subst h; rfl
  · rfl
/-- a slice's cells, element by element -/
theorem relL_flatten {φ : Place} {w : World} {M : Nat → Prop} {rows : List (List AV)} {L : List Value} {sz : Nat} (hl : L.length = rows.length * sz)
    (h : ∀ i (hi : i < rows.length), RelL φ w M rows[i] ((L.drop (i * sz)).take sz)) : RelL φ w M rows.flatten L := by
  induction rows generalizing L with
  | nil => simp at hl; subst hl; exact .nil
  | cons r rows ih =>
    have h0 := h 0 (by simp)
    simp only [List.getElem_cons_zero, Nat.zero_mul, List.drop_zero] at h0
    rw [List.flatten_cons, ← List.take_append_drop sz L]
    refine RelL.append h0 (ih (by simp at hl ⊢; rw [hl, Nat.add_mul]; omega) fun i hi => ?_)
    have := h (i + 1) (by simpa using hi)
    simp only [List.getElem_cons_succ] at this
    rw [List.drop_drop, show sz + i * sz = (i + 1) * sz by rw [Nat.add_mul]; omega]
    exact this
theorem exists_list {α : Type} (n : Nat) (p : Nat → α → Prop) (h : ∀ i, i < n → ∃ x, p i x) : ∃ l : List α, l.length = n ∧ ∀ i (hi : i < l.length), p i l[i] := by
  induction n with
  | zero => exact ⟨[], rfl, fun i hi => by simp at hi⟩
  | succ n ih =>
    obtain ⟨l, hl, hp⟩ := ih fun i hi => h i (by omega)
    obtain ⟨x, hx⟩ := h n (by omega)
    refine ⟨l ++ [x], by simp [hl], fun i hi => ?_⟩
    rcases Nat.lt_or_ge i l.length with h1 | h1
    · rw [List.getElem_append_left h1]; exact hp i h1
    · have : i = n := by simp at hi; omega
      subst this
      simp [List.getElem_append_right, hl, hx]
theorem Opn.slice {α : Type} {t e : TypeId} {en : α → List AV} {Q : α → Prop} {sz : Nat} (hB : Bulk B bk) (ht : P.underlying t = some (.slice e)) (hc : P.cellsOf t = 1) (hz : P.cellsOf e = sz) (hp : 0 < sz)
    (he : Opn P B bk e en Q) : Opn P B bk t (fun l : List α => [.lst sz (l.map en)]) (fun l => l.length ≤ B ∧ ∀ x ∈ l, Q x) := by
  intro H enc w fuel cs d ps h hb
  rcases DataW.trod_slice ht h with ⟨rfl, _⟩ | ⟨a, len, cap, elems, rest, n, rfl, rfl, hx, _, hlen, hmax, hel, hget, _, _⟩
  · exact ⟨[], .cons (.nil _ _ _) .nil, by simp [cellV, Value.oneCell'], by simp [hc], by simp, by simp⟩
  · simp only [Prod.mk.injEq] at hx
    obtain ⟨rfl, _⟩ := hx
    rw [hz] at hget
    -- each element
    have key : ∀ i (hi : i < len), ∃ x ci, w.cells? 0 (a.add (i * sz)) sz = some ci ∧ RelL noP w NoM (en x) ci ∧ (∀ c ∈ ci, cellV c = true) ∧ Q x := by
      intro i hi
      have h1 := hget i hi
      rw [List.getElem?_eq_getElem (by omega), Option.bind_eq_some_iff] at h1
      obtain ⟨ci, h2, h3⟩ := h1
      obtain ⟨x, a1, a2, _, a4⟩ := he enc w n ci elems[i].1 elems[i].2 h3 (hB.elem _ _ _ (List.mem_map.2 ⟨elems[i], List.getElem_mem _, rfl⟩) hb)
      exact ⟨x, ci, h2, a1, a2, a4⟩
    have hlb : len ≤ B := by have := hB.len _ _ hb (by simp; omega); simp at this; omega
    obtain ⟨l, hl, hx⟩ := exists_list len _ key
    refine ⟨l, ?_, by simp [cellV, Value.oneCell'], by simp [hc], by omega, fun x hxm => ?_⟩
    · rcases Nat.eq_zero_or_pos len with h0 | h0
      · have : l = [] := List.eq_nil_of_length_eq_zero (by omega)
        subst this
        rw [h0]
        exact .cons (.nil _ _ _) .nil
      · have cellI : ∀ i, i < len → ∀ j, j < sz → ∃ v, w.cell? (a.add (i * sz + j)) = some v ∧ cellV v = true := by
          intro i hi j hj
          obtain ⟨x, ci, h2, a1, a2, a3⟩ := key i hi
          obtain ⟨hcl, hcg⟩ := cells?_get h2
          refine ⟨ci[j], ?_, a2 _ (List.getElem_mem (by omega))⟩
          have := hcg j hj
          rw [List.getElem?_eq_getElem (by omega)] at this
          rw [← this]
          simp only [World.cell?, add_block, add_off, Nat.add_assoc]
          by_cases hj0 : j = 0
          · subst hj0; simp [Addr.add]
          · simp [Addr.add, hj0]
        obtain ⟨v0, hv0, _⟩ := cellI 0 h0 0 hp
        obtain ⟨C, T, fz, hC, hs, _⟩ := cell?_block hv0
        simp only [Nat.zero_mul, Nat.zero_add, Addr.add, if_true] at hC hs
        have cellC : ∀ k, k < len * sz → ∃ v, C[a.off + k]? = some v ∧ w.cell? (a.add k) = some v ∧ cellV v = true := by
          intro k hk
          have hi : k / sz < len := Nat.div_lt_of_lt_mul (by rw [Nat.mul_comm]; exact hk)
          have hj : k % sz < sz := Nat.mod_lt _ hp
          obtain ⟨v, h1, h2⟩ := cellI _ hi _ hj
          rw [show k / sz * sz + k % sz = k by rw [Nat.mul_comm]; exact Nat.div_add_mod k sz] at h1
          obtain ⟨C', T', fz', hC', hs', hv'⟩ := cell?_block h1
          rw [add_block, hC] at hC'
          simp only [Option.some.injEq, Obj.cells.injEq] at hC'
          obtain ⟨rfl, _, _⟩ := hC'
          rw [add_off] at hv'
          exact ⟨v, hv', h1, h2⟩
        have hsz : a.off + len * sz ≤ C.size := by
          have hpos : 0 < len * sz := Nat.mul_pos h0 hp
          obtain ⟨v, h1, _⟩ := cellC (len * sz - 1) (by omega)
          have := (Array.getElem?_eq_some_iff.1 h1).1
          omega
        have hL : ((C.toList.drop a.off).take (len * sz)).length = len * sz := by simp; omega
        have hget : ∀ k, k < len * sz → ((C.toList.drop a.off).take (len * sz))[k]? = C[a.off + k]? := by
          intro k hk
          rw [List.getElem?_take, if_pos hk, List.getElem?_drop]; simp
        have hrl : ∀ i (hi : i < l.length), ∃ ci, w.cells? 0 (a.add (i * sz)) sz = some ci ∧ RelL noP w NoM (en l[i]) ci := fun i hi => by
          obtain ⟨ci, h2, a1, _⟩ := hx i hi
          exact ⟨ci, h2, a1⟩
        refine .cons (.lst (C := C) (T := T) (fz := fz) hs (fun h => h) hC (fun r hr => ?_) (by simp; omega) (by rw [List.length_map, hl]; exact hsz) (by omega) (fun u hu => ?_) ?_) .nil
        · obtain ⟨x, hxm, rfl⟩ := List.mem_map.1 hr
          obtain ⟨i, hi, rfl⟩ := List.getElem_of_mem hxm
          obtain ⟨ci, h2, a1⟩ := hrl i hi
          rw [a1.length, (cells?_get h2).1]
        · rw [List.length_map, hl] at hu
          obtain ⟨k, hk, rfl⟩ := List.getElem_of_mem hu
          rw [hL] at hk
          obtain ⟨v, h1, _, h3⟩ := cellC k hk
          have := hget k hk
          rw [List.getElem?_eq_getElem (by omega), h1] at this
          simp only [Option.some.injEq] at this
          rw [this]; exact h3
        · rw [List.length_map, hl]
          refine relL_flatten (sz := sz) (by rw [hL, List.length_map, hl]) fun i hi => ?_
          rw [List.length_map] at hi
          obtain ⟨ci, h2, a1⟩ := hrl i hi
          rw [List.getElem_map]
          obtain ⟨hcl, hcg⟩ := cells?_get h2
          have hle : (i + 1) * sz ≤ len * sz := Nat.mul_le_mul_right _ (by omega)
          rw [Nat.add_mul] at hle
          have : ci = (((C.toList.drop a.off).take (len * sz)).drop (i * sz)).take sz := by
            refine List.ext_getElem? fun j => ?_
            rcases Nat.lt_or_ge j sz with hj | hj
            · rw [← hcg j hj, List.getElem?_take, if_pos hj, List.getElem?_drop, hget _ (by omega)]
              obtain ⟨v, h1, h3, _⟩ := cellC (i * sz + j) (by omega)
              rw [h1, ← h3]
              simp only [World.cell?, add_block, add_off, Nat.add_assoc]
              by_cases hj0 : j = 0
              · subst hj0; simp [Addr.add]
              · simp [Addr.add, hj0]
            · rw [List.getElem?_eq_none (by omega), List.getElem?_eq_none (by simp; omega)]
          rw [← this]; exact a1
    · obtain ⟨i, hi, rfl⟩ := List.getElem_of_mem hxm
      obtain ⟨ci, _, _, _, a4⟩ := hx i hi
      exact a4
theorem Opn.array {α : Type} {t e : TypeId} {en : α → List AV} {Q : α → Prop} {n sz : Nat} (hB : Bulk B bk) (ht : P.underlying t = some (.array n e)) (hz : P.cellsOf e = sz) (hc : P.cellsOf t = n * sz)
    (he : Opn P B bk e en Q) : Opn P B bk t (fun l : List α => (l.map en).flatten) (fun l => l.length = n ∧ ∀ x ∈ l, Q x) := by
  intro H enc w fuel cs d ps h hb
  obtain ⟨xs, m, _, hx, hl, hxl, hget⟩ := DataW.trod_array ht h
  simp only [Prod.mk.injEq] at hx
  obtain ⟨rfl, _⟩ := hx
  rw [hz] at hget
  have key : ∀ i, i < n → ∃ x, RelL noP w NoM (en x) ((cs.drop (i * sz)).take sz) ∧ (∀ c ∈ (cs.drop (i * sz)).take sz, cellV c = true) ∧ Q x := by
    intro i hi
    have h1 := hget i hi
    rw [List.getElem?_eq_getElem (by omega)] at h1
    obtain ⟨x, a1, a2, _, a4⟩ := he enc w m _ xs[i].1 xs[i].2 h1 (hB.part _ _ (List.mem_map.2 ⟨xs[i], List.getElem_mem _, rfl⟩) hb)
    exact ⟨x, a1, a2, a4⟩
  obtain ⟨l, hll, hx⟩ := exists_list n _ key
  rw [hc] at hl
  refine ⟨l, relL_flatten (sz := sz) (by rw [List.length_map, hll]; exact hl) (fun i hi => ?_), fun c hcm => ?_, by rw [hc]; exact hl, hll, fun x hxm => ?_⟩
  · rw [List.length_map] at hi
    rw [List.getElem_map]; exact (hx i hi).1
  · obtain ⟨k, hk, rfl⟩ := List.getElem_of_mem hcm
    have hp : 0 < sz := Nat.pos_of_ne_zero fun h0 => by subst h0; simp at hl; subst hl; simp at hk
    have hi : k / sz < n := Nat.div_lt_of_lt_mul (by rw [Nat.mul_comm, ← hl]; exact hk)
    have hj : k % sz < sz := Nat.mod_lt _ hp
    have e : k / sz * sz + k % sz = k := by rw [Nat.mul_comm]; exact Nat.div_add_mod k sz
    refine (hx (k / sz) (by omega)).2.1 _ (List.mem_iff_getElem?.2 ⟨k % sz, ?_⟩)
    rw [List.getElem?_take, if_pos hj, List.getElem?_drop, e]
    exact List.getElem?_eq_getElem hk
  · obtain ⟨i, hi, rfl⟩ := List.getElem_of_mem hxm
    exact (hx i hi).2.2
/-- fields one behind the other -/
def OpnF (P : Program) (B : Nat) (bk : ∀ {H : Type}, DataW H → Nat) {α : Type} (ts : List TypeId) (en : α → List AV) (Q : α → Prop) : Prop :=
  ∀ {H : Type} (enc : TypeId × Value → H) (w : World) (fuel : Nat) (cs : List Value), cs.length = (ts.map P.cellsOf).sum →
    (∀ i (hi : i < ts.length), ∃ d ps, DataW.trod enc P w 0 (fun _ => true) true fuel ts[i] ((cs.drop ((ts.take i).map P.cellsOf).sum).take (P.cellsOf ts[i])) = some (d, ps) ∧ bk d ≤ B) →
    ∃ x, RelL noP w NoM (en x) cs ∧ (∀ c ∈ cs, cellV c = true) ∧ Q x
theorem OpnF.nil : OpnF P B bk [] (fun _ : Unit => []) (fun _ => True) := by
  intro H enc w fuel cs hl _
  have : cs = [] := List.eq_nil_of_length_eq_zero (by simpa using hl)
  subst this
  exact ⟨(), .nil, by simp, trivial⟩
theorem OpnF.cons {α β : Type} {t : TypeId} {ts : List TypeId} {en : α → List AV} {Q : α → Prop} {en' : β → List AV} {Q' : β → Prop} (h : Opn P B bk t en Q) (h' : OpnF P B bk ts en' Q') :
    OpnF P B bk (t :: ts) (fun x : α × β => en x.1 ++ en' x.2) (fun x => Q x.1 ∧ Q' x.2) := by
  intro H enc w fuel cs hl hd
  obtain ⟨d, ps, h1, h2⟩ := hd 0 (by simp)
  simp only [List.getElem_cons_zero, List.take_zero, List.map_nil, List.sum_nil, List.drop_zero] at h1
  obtain ⟨x, a1, a2, a3, a4⟩ := h enc w fuel _ d ps h1 h2
  obtain ⟨y, b1, b2, b3⟩ := h' enc w fuel (cs.drop (P.cellsOf t)) (by simp at hl ⊢; omega) (fun i hi => by
    obtain ⟨d, ps, k1, k2⟩ := hd (i + 1) (by simpa using hi)
    simp only [List.getElem_cons_succ, List.take_succ_cons, List.map_cons, List.sum_cons] at k1
    exact ⟨d, ps, by rw [List.drop_drop]; exact k1, k2⟩)
  refine ⟨(x, y), ?_, fun c hc => ?_, a4, b3⟩
  · rw [← List.take_append_drop (P.cellsOf t) cs]
    exact RelL.append a1 b1
  · rw [← List.take_append_drop (P.cellsOf t) cs] at hc
    rcases List.mem_append.1 hc with hc | hc
    · exact a2 c hc
    · exact b2 c hc
/-- fields lie one behind the other -/
def fieldsOk (P : Program) (t : TypeId) (ts : List TypeId) : Bool := match P.underlying t with
  | some (.struct fs) => decide (fs.toList.map (·.type) = ts) && decide (fs.toList.map (·.offset) = (List.range ts.length).map fun i => ((ts.take i).map P.cellsOf).sum) && decide (P.cellsOf t = (ts.map P.cellsOf).sum)
  | _ => false
theorem Opn.struct {α : Type} {t : TypeId} {ts : List TypeId} {en : α → List AV} {Q : α → Prop} (hB : Bulk B bk) (ht : fieldsOk P t ts = true) (h : OpnF P B bk ts en Q) : Opn P B bk t en Q := by
  unfold fieldsOk at ht
  split at ht
  · rename_i fs hfs
    simp only [Bool.and_eq_true, decide_eq_true_eq] at ht
    obtain ⟨⟨h1, h2⟩, h3⟩ := ht
    intro H enc w fuel cs d ps hd hb
    obtain ⟨xs, n, _, hx, hl, hxl, hget⟩ := DataW.trod_struct hfs hd
    simp only [Prod.mk.injEq] at hx
    obtain ⟨rfl, _⟩ := hx
    have hlen : fs.size = ts.length := by rw [← h1]; simp
    obtain ⟨x, a1, a2, a3⟩ := h enc w n cs (by rw [hl, h3]) (fun i hi => by
      have hi' : i < fs.size := by omega
      have e1 : fs[i].type = ts[i] := by
        have := congrArg (fun l => l[i]?) h1
        simp [hi', List.getElem?_eq_getElem hi] at this
        exact this
      have e2 : fs[i].offset = ((ts.take i).map P.cellsOf).sum := by
        have := congrArg (fun l => l[i]?) h2
        simp [hi', hi] at this
        rw [this, List.map_take]
      have := hget i fs[i] (Array.getElem?_eq_getElem hi')
      rw [e1, e2, List.getElem?_eq_getElem (by omega)] at this
      exact ⟨xs[i].1, xs[i].2, this, hB.part _ _ (List.mem_map.2 ⟨xs[i], List.getElem_mem _, rfl⟩) hb⟩)
    exact ⟨x, a1, a2, hl, a3⟩
  · cases ht
/-! ### the arguments, and the call -/
/-- the outer form of a value of the type -/
def outer (P : Program) (t : TypeId) : Bool := match P.underlying t with
  | some (.struct _) | some (.array _ _) => true
  | _ => false
def wrapAV (agg : Bool) (cs : List AV) : AV := if agg then .agg cs else cel cs 0
theorem Opn.arg {α : Type} {t : TypeId} {en : α → List AV} {Q : α → Prop} (h : Opn P B bk t en Q) {ag : Bool} (ho : outer P t = ag) (h1 : ag = false → P.cellsOf t = 1) {H : Type} {enc : TypeId × Value → H} {W : World} {base : Nat} {r : Reach} {v : Value} {d : DataW H} {ps : List MemPlace}
    (hval : Value.okWide P W r base t v) (hd : DataW.Trod enc P W 0 (fun _ => true) true t v d ps) (hb : bk d ≤ B) : ∃ x, Rel noP W NoM (wrapAV ag (en x)) v ∧ Q x := by
  obtain ⟨fuel, hd⟩ := hd
  obtain ⟨x, a1, a2, a3, a4⟩ := h enc W fuel _ d ps hd hb
  refine ⟨x, ?_, a4⟩
  unfold outer at ho
  unfold Value.okWide at hval
  split at ho
  · rename_i hu
    subst ho
    rw [hu] at hval
    obtain ⟨cs, rfl, _, _⟩ := hval
    exact .agg (vs := cs.toList) a2 a1
  · rename_i hu
    subst ho
    rw [hu] at hval
    obtain ⟨cs, rfl, _, _⟩ := hval
    exact .agg (vs := cs.toList) a2 a1
  · subst ho
    rw [h1 rfl] at a3
    have hv : v.cells.toList = [v] := by
      unfold Value.cells at a3 a2 ⊢
      split
      · rename_i cs
        exfalso
        split at hval
        · simp_all
        · simp_all
        · unfold Cell.okWide at hval
          split at hval <;> simp_all [Cell.ok]
      · rfl
    rw [hv] at a1
    cases he : en x with
    | nil => rw [he] at a1; cases a1
    | cons y ys =>
      rw [he] at a1
      cases a1 with
      | cons a1 _ => exact a1

/-- THE CLOSING OF A LAW: its arguments are values of the abstract domain, and it gives true. -/
theorem post_of_fr {f : Func} {s : ChangeSpec} {apart fresh handsOn again : Bool} {H : Type} {enc : TypeId × Value → H} {W W' : World} {args : Array Value} {v : Value} {ds gs : List (DataW H)} {before : List MemPlace}
    (hlo : laidOutB P = true) (hts : f.params.toList.all (fun t => P.readableRec t && decide (t < P.types.size)) = true) (hv : s.vars = [])
    (hW : DataW.Whole enc P f.params.toList s.vars apart W args.toList ds gs before)
    (hres : ∀ (b : Nat) (sp : Nat → Bool) (hd : Bool), DataW.TrodAll enc P W' b sp hd f.resultTypes.toList (v.resultList f.resultTypes.size) (s.fn H (ds ++ gs)).results [])
    (hargs : (s.fn H (ds ++ gs)).args = ds) (hvars : (s.fn H (ds ++ gs)).vars = [])
    (hfr : Fr W (fun _ => False) W')
    (hok : ∀ (j : Nat) (t : TypeId) (r : Value), f.resultTypes[j]? = some t → (v.resultList f.resultTypes.size)[j]? = some r → Value.okWide P W' .any 0 t r) :
    s.post enc P f apart fresh handsOn again W args v W' := by
  have hlt : ∀ p ∈ before, p.block < W.heap.size := fun p hp => hW.lt p hp
  have hsame : ∀ p : MemPlace, p.block < W.heap.size → W.sameAt W' p := fun p hp => (Go.RowKit.Below.same ⟨hfr.os, hfr.tape, hfr.output, hfr.size, fun k hk => hfr.block k hk (fun h => h)⟩ hp)
  obtain ⟨p, q, hA, hV, hpq, hz, hn⟩ := id hW
  rw [hv] at hV
  have hq : q = [] ∧ gs = [] := by
    cases gs with
    | nil => exact ⟨hV, rfl⟩
    | cons g gs => exact hV.elim
  obtain ⟨rfl, rfl⟩ := hq
  rw [List.append_nil] at hpq
  subst hpq
  have key : ∀ (sp : Nat → Bool) (ts : List TypeId) (vs : List Value) (ds : List (DataW H)) (ps : List MemPlace), ts.all (fun t => P.readableRec t && decide (t < P.types.size)) = true → (∀ x ∈ ps, x.block < W.heap.size) → (∀ x ∈ ps, sp x.block = true) →
      DataW.TrodAll enc P W 0 (fun _ => true) true ts vs ds ps → DataW.TrodAll enc P W' 0 sp true ts vs ds ps := by
    intro sp ts
    induction ts with
    | nil =>
      intro vs ds ps _ _ _ h
      cases vs <;> cases ds <;> simp [DataW.TrodAll] at h ⊢
      exact h
    | cons t ts ih =>
      intro vs ds ps ht hlt hsp h
      obtain ⟨v, vs', d, ds', a, b, rfl, rfl, rfl, h1, h2⟩ := ChangeShapes.trodAll_cons h
      simp only [List.all_cons, Bool.and_eq_true, decide_eq_true_eq] at ht
      obtain ⟨⟨hr, hs⟩, hts⟩ := ht
      exact ⟨a, b, WideElems.Trod_stays hlo hr hs h1 (fun x hx => hsame x (hlt x (List.mem_append_left _ hx))) (fun x hx => hsp x (List.mem_append_left _ hx)),
        ih _ _ _ (by simpa using hts) (fun x hx => hlt x (List.mem_append_right _ hx)) (fun x hx => hsp x (List.mem_append_right _ hx)) h2, rfl⟩
  have key' : ∀ sp : Nat → Bool, (∀ x ∈ before, sp x.block = true) → DataW.TrodAll enc P W' 0 sp true f.params.toList args.toList (s.fn H (ds ++ [])).args before := fun sp hsp => by
    rw [hargs]; exact key sp _ _ _ _ hts hlt hsp hA
  have kv : ∀ sp : Nat → Bool, DataW.TrodVars enc P W' sp s.vars (s.fn H (ds ++ [])).vars [] := fun sp => by rw [hv, hvars]; rfl
  refine ⟨ds, [], before, [], before, [], hW, hres _ _ _, key' _ (fun x hx => by simpa using hlt x hx), kv _, ?_, fun _ => ⟨hok, _, _, ([] ++ before) ++ [], ⟨[] ++ before, [], ChangeShapes.trodAll_append (key' _ fun _ _ => rfl) (hres _ _ _), kv _, rfl, ?_, ?_⟩, ?_⟩⟩
  · refine ⟨hfr.os, hfr.output, fun i hi => ?_⟩
    rw [hfr.block i hi (fun h => h)]
    cases h : W.heap[i]? with
    | none => simp
    | some o => cases o <;> simp
  · intro b off hp
    have hp' : MemPlace.cell b off ∈ before := by simpa using hp
    have hb := hlt _ hp'
    have := hz b off hp'
    unfold World.frozen? at this ⊢
    simp only [MemPlace.block] at hb
    rw [show W'.heap[b]? = W.heap[b]? from hfr.block b hb (fun h => h)]
    exact this
  · intro ha
    simpa using hn ha
  · intro x hx _
    simpa using hx
/-- its results: true -/
theorem contract_of_pure {f : FuncId} {fn : Func} {tb : TypeId} {s : ChangeSpec} {apart fresh handsOn again : Bool} {H : Type} {enc : TypeId × Value → H} {W : World} {args : Array Value} {ds gs : List (DataW H)} {before : List MemPlace}
    (hlo : laidOutB P = true) (hts : fn.params.toList.all (fun t => P.readableRec t && decide (t < P.types.size)) = true) (hv : s.vars = []) (hrt : fn.resultTypes = #[tb]) (hb : P.underlying tb = some .bool)
    (hW : DataW.Whole enc P fn.params.toList s.vars apart W args.toList ds gs before)
    (hfn : gs = [] → s.fn H (ds ++ gs) = { results := [.lit (.bool true)], args := ds }) {avs : List AV} (hp : Pure P f avs (.v (.bool true))) (hr : RelL noP W NoM avs args.toList) :
    Calls P f args W fun e W' => ∃ v, e = .returned v ∧ s.post enc P fn apart fresh handsOn again W args v W' := by
  have hgs : gs = [] := by
    obtain ⟨p, q, hA, hV, _⟩ := hW
    rw [hv] at hV
    cases gs with
    | nil => rfl
    | cons g gs => exact hV.elim
  have := hp.2 NoM W args.toList (fun k hk => hk.elim) hr
  rw [show (⟨args.toList⟩ : Array Value) = args from rfl] at this
  refine this.mono ?_
  rintro e W' ⟨v, rfl, hv', hfr⟩
  cases hv'
  refine ⟨_, rfl, post_of_fr hlo hts hv hW (fun b sp hd => ?_) (by rw [hfn hgs]) (by rw [hfn hgs]) hfr ?_⟩
  · rw [hfn hgs, hrt]
    exact trodAll_cons_mk (RowKit.shut_bool hb _) ChangeShapes.trodAll_mk0
  · exact RowKit.ok_one hrt rfl (RowKit.okWide_bool_mk hb true)
end
end Go.Av
end
section
set_option linter.unusedSimpArgs false
set_option linter.unusedVariables false
open Go Go.Proofs
namespace Go.Av
open Go.Proofs.YtbcnlnpgkonjpaaGreat
theorem upto_one {H : Type} (d : DataW H) : 1 ≤ Rows.uptoBulk d := by
  cases d with
  | lit l => cases l <;> simp [Rows.uptoBulk]
  | _ => simp [Rows.uptoBulk]
theorem upto_part {H : Type} {d : DataW H} {l : List (DataW H)} (h : d ∈ l) : Rows.uptoBulk d ≤ Rows.uptoBulkAll l := by
  induction l with
  | nil => cases h
  | cons x r ih =>
    simp only [Rows.uptoBulkAll]
    rcases List.mem_cons.1 h with e | e
    · subst e; omega
    · have := ih e; omega
theorem upto_length {H : Type} (l : List (DataW H)) : l.length ≤ Rows.uptoBulkAll l := by
  induction l with
  | nil => simp [Rows.uptoBulkAll]
  | cons x r ih => have := upto_one x; simp only [Rows.uptoBulkAll, List.length_cons]; omega
theorem Bulk.upto {B : Nat} : Bulk B (fun d => Rows.uptoBulk d) where
  len := fun l r h _ => by
    have := upto_length l
    simp only [Rows.uptoBulk] at h; omega
  elem := fun l r d hd h => by
    have := upto_part hd
    simp only [Rows.uptoBulk] at h; omega
  part := fun l d hd h => by
    have := upto_part hd
    simp only [Rows.uptoBulk] at h; omega
  str := fun l h _ => by
    simp only [Rows.uptoBulk] at h; omega
theorem upto_bound {H : Type} {l : List (DataW H)} (hk : Rows.uptoSmall H l = true) {d : DataW H} (hd : d ∈ l) : Rows.uptoBulk d ≤ 1048576 := by
  have := upto_part hd
  have h := of_decide_eq_true hk
  omega
end Go.Av
end
