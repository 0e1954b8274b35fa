/- Contracts, runs: Runs, Drops of the reference. -/
import Derived.Test.YtbcnlnpgkonjpaaGreatAvL
import Derived.Test.YtbcnlnpgkonjpaaGreatD8
section
set_option linter.unusedSimpArgs false
set_option linter.unusedVariables false
open Go Go.Proofs
set_option maxRecDepth 20000
set_option maxHeartbeats 4000000
namespace Go.Av
theorem bel_encOs {n : Nat} (l : List OutD) : Bel n (encOs l) := of_eq_true bel_Ous
def outsF (side : Int) (l : List StD) (n : Nat) : List OutD := ((l.take n).filterMap (putS side)).foldl (fun a x => insertO x a) []
@[go_sem] theorem outsF_zero (side : Int) (l : List StD) : outsF side l 0 = [] := rfl
theorem outsF_succ (side : Int) (l : List StD) {n : Nat} (h : n < l.length) : outsF side l (n + 1) = match putS side (nth l n) with | some o => insertO o (outsF side l n) | none => outsF side l n := by
  unfold outsF
  rw [fm_take _ _ _ h, List.foldl_append]
  cases putS side (nth l n) <;> rfl
theorem insertO_le (x : OutD) : ∀ l : List OutD, (insertO x l).length ≤ l.length + 1
  | [] => by simp [insertO]
  | y :: l => by
    rw [insertO]
    split
    · have := insertO_le x l; simp; omega
    · split <;> simp
theorem outsF_len (side : Int) (l : List StD) : ∀ n, n ≤ l.length → (outsF side l n).length ≤ n := by
  intro n
  induction n with
  | zero => intro _; simp [outsF]
  | succ n ih =>
    intro h
    have := ih (by omega)
    rw [outsF_succ side l (by omega)]
    split
    · rename_i o _
      have := insertO_le o (outsF side l n)
      omega
    · omega
theorem putS_fits {g : GameD} (hg : GOk g) {s : StD} (hs : StOk g s) {side : Int} {o : OutD} (h : putS side s = some o) : FitsP o.pos := by
  have hf := hs.p.fits hg
  unfold putS at h
  split at h
  · simp only [Option.some.injEq] at h
    subst h
    obtain ⟨a, b, c⟩ := hf
    exact ⟨by unfold Fits at *; simpa using a, b, c⟩
  · cases h
theorem outsF_fits {g : GameD} (hg : GOk g) {side : Int} {l : List StD} (hl : ∀ s ∈ l, StOk g s) : ∀ n, n ≤ l.length → ∀ o ∈ outsF side l n, FitsP o.pos := by
  intro n
  induction n with
  | zero => intro _ o ho; simp [outsF] at ho
  | succ n ih =>
    intro h o ho
    rw [outsF_succ side l (by omega)] at ho
    cases hp : putS side (nth l n) with
    | none => rw [hp] at ho; exact ih (by omega) o ho
    | some q =>
      rw [hp] at ho
      rcases insertO_mem.1 ho with rfl | ho
      · exact putS_fits hg (hl _ (nth_mem (by omega))) hp
      · exact ih (by omega) o ho
theorem outsF_all (g : GameD) (p : PosD) (cell i : Int) : outsF p.side (lastS g p cell (progOf g p cell i)) (lastS g p cell (progOf g p cell i)).length = runsP g p cell i := by
  unfold outsF runsP
  rw [List.take_length, insertO_all]
theorem R5Runs_pure (g : GameD) (hg : GOk g) (p : PosD) (hp : POk g p) (cell i : Int) (hc : ChoiceOk g p cell i) :
    Pure Tryz.prog 34 [.agg (encGame g), .agg (encPos p), .v (.int .i64 cell), .v (.int .i64 i)] (.tup [encOs (runsP g p cell i), .v (.int .i64 0)]) := by
  refine Pure.of (ACallP.of_awp (by kernel_rfl) Tryz.func34 rfl rfl (Nat.le_of_ble_eq_true rfl) (by kernel_rfl) ?_)
  have hRun := R5Run_pure g hg p hp cell i hc
  have hal := hp.al
  have hat := hp.at (i := cell.toNat) (by have := hc.c0; have := hc.c1; omega)
  have hkl : (manOf (nth p.at_ cell.toNat)).1.toNat < g.kinds.length := by
    have cm := hc.man
    rcases manOf_cases hat.1 hat.2 hg.k6 with ⟨_, e⟩ | ⟨_, a, b, _⟩
    · rw [e] at cm; simp at cm
    · omega
  have hil : i.toNat < (nth g.kinds (manOf (nth p.at_ cell.toNat)).1.toNat).progs.length := by have := hc.i0; have := hc.i1; omega
  have hpg := hg.pr _ (nth_mem hkl) _ (nth_mem hil)
  have hpe : progOf g p cell i = nth (nth g.kinds (manOf (nth p.at_ cell.toNat)).1.toNat).progs i.toNat := rfl
  rw [← hpe] at hpg
  have hst := stageS_ok hg hp hc.c0 hc.c1 hc.man hpg.st _ (Nat.le_refl _)
  have hlen := Nat.le_trans hst.2 (pow10_le hpg.len)
  have hstR := stR_len g p cell (progOf g p cell i) ((progOf g p cell i).length + 1)
  have hnS := nth_stR g p cell (progOf g p cell i) (n := (progOf g p cell i).length + 1) (j := (progOf g p cell i).length) (by omega)
  have hal' := outsF_all g p cell i
  rw [stageS_last] at hnS hlen hst
  have hps := hp.s
  obtain ⟨m, hm⟩ : ∃ m, m = (progOf g p cell i).length := ⟨_, rfl⟩
  have hm8 := hpg.len
  rw [← hm] at hRun hstR hnS hm8
  generalize stR g p cell (progOf g p cell i) (m + 1) = sr at *
  generalize lastS g p cell (progOf g p cell i) = last at *
  obtain ⟨R, hR⟩ : ∃ R, R = runsP g p cell i := ⟨_, rfl⟩
  rw [← hR] at hal' ⊢
  (repeat (first | with_reducible (first | refine wL fun _ => ?_ | refine wD fun _ => ?_ | refine wE ?_ | refine adrZ.go ?_) | simp [go_sem]))
  refine ACallP.plain hRun (by simp [go_sem]) ?_
  (repeat (first | with_reducible (first | refine wL fun _ => ?_ | refine wD fun _ => ?_ | refine wE ?_ | refine adrZ.go ?_) | simp [go_sem, hstR, hnS]))
  refine ALoop.start (ALoop.ind (α := Nat) (fun k => ⟨[(5, .ref 1 0 5 0 0), (11, encOs (outsF p.side last k)), (12, encSs last), (13, .v (.int .i64 k))], [(1, .rows true 0 5 [encPos p])], 2⟩)
    (fun d k => k + d = last.length) ?_ last.length 0 ?_) ?_ ?_
  · rintro d k k1 hrec
    (repeat (first | with_reducible (first | refine wL fun _ => ?_ | refine wD fun _ => ?_ | refine wE ?_ | refine adrZ.go ?_) | simp [go_sem]))
    refine aIf.mkL (fun hk => ?_) (fun hk => ?_) <;> simp at hk
    · have hsk := hst.1 _ (nth_mem hk)
      have hsu := outsF_succ p.side last hk
      have hol := outsF_len p.side last k (by omega)
      have hof := outsF_fits hg (fun s hs => (hst.1 s hs).1) (side := p.side) k (by omega)
      have hpf := fun o => putS_fits hg hsk.1 (side := p.side) (o := o)
      have hps' : putS p.side (nth last k) = if nth (nth last k).p.at_ (nth last k).cursor.toNat = 0 then some ⟨{ (nth last k).p with at_ := (nth last k).p.at_.set (nth last k).cursor.toNat (codeOf (nth last k).kind p.side), side := 1 - p.side }, (nth last k).took⟩ else none := rfl
      have hcp := copied_owns (nth last k).p (hsk.1.p.fits hg)
      have hal2 := hsk.1.p.al
      have hc0 := hsk.1.c0
      have hc1 := hsk.1.c1
      have hcc := R3Code_pure (nth last k).kind p.side
      have hcur : (nth last k).cursor.toNat < (nth last k).p.at_.length := by omega
      by_cases hz : nth (nth last k).p.at_ (nth last k).cursor.toNat = 0
      · rw [if_pos hz] at hps'
        simp only [hps'] at hsu
        have hfo := hpf _ hps'
        have hIns := R5Insert_pure (outsF p.side last k) _ (by omega) hof hfo
        (repeat (first | with_reducible (first | refine wL fun _ => ?_ | refine wD fun _ => ?_ | refine wE ?_ | refine adrZ.go ?_) | simp [go_sem, hk, hcur, hz]))
        refine ACallP.ownsPlain hcp (by simp [go_sem]) ?_
        (repeat (first | with_reducible (first | refine wL fun _ => ?_ | refine wD fun _ => ?_ | refine wE ?_ | refine adrZ.go ?_) | simp [go_sem, hcur]))
        try ((with_reducible refine adrZ.go ?_); (try simp [go_sem]))
        refine dCall.plain hcc (by simp [go_sem]) ?_
        (repeat (first | with_reducible (first | refine wL fun _ => ?_ | refine wD fun _ => ?_ | refine wE ?_ | refine adrZ.go ?_) | simp [go_sem, hcur]))
        refine ACallP.pureF [5, 6, 11] hIns ?_ (by simp [go_sem]) ?_
        · ((try simp only [encOut, encState, encPos, encOs, encSs, encPs, encIs, List.nil_append, List.append_nil, List.cons_append]); (repeat (first | (with_reducible exact LeRow.nil) | (with_reducible refine LeRow.cons ?_ ?_) | (with_reducible exact LeV.refl _) | (with_reducible refine LeV.agg ?_) | ((refine leV_frz rfl (by simp) (by simp [frzO, frz1, upd, noH]) ?_); (first | (simp [go_sem]; done) | (simp [go_sem]; exact List.take_of_length_le (by simp)))))))
        · rw [← hsu]
          (repeat (first | with_reducible (first | refine wL fun _ => ?_ | refine wD fun _ => ?_ | refine wE ?_ | refine adrZ.go ?_) | simp [go_sem]))
          refine ALoop.start (hrec (d - 1) (by omega) (k + 1) (by omega)) ?_ (by simp)
          simp [go_sem, Wk_eq, frzO, frz1, upd]
      · rw [if_neg hz] at hps'
        simp only [hps'] at hsu
        (repeat (first | with_reducible (first | refine wL fun _ => ?_ | refine wD fun _ => ?_ | refine wE ?_ | refine adrZ.go ?_) | simp [go_sem, hk, hcur, hz]))
        refine ALoop.start (hrec (d - 1) (by omega) (k + 1) (by omega)) ?_ (by simp)
        simp [go_sem, Wk_eq, hsu]
    · have hkl : k = last.length := by omega
      subst hkl
      rw [hal']
      (repeat (first | with_reducible (first | refine wL fun _ => ?_ | refine wD fun _ => ?_ | refine wE ?_ | refine adrZ.go ?_) | simp [go_sem]))
  · omega
  · simp [go_sem, Wk_eq]
    (refine leV_frz rfl (by simp) (by simp [noH, upd]) ?_; first | (simp [go_sem]; done) | (simp [go_sem]; exact List.take_of_length_le (by simp)))
  · simp
end Go.Av
end
section
set_option linter.unusedSimpArgs false
set_option linter.unusedVariables false
open Go Go.Proofs
set_option maxRecDepth 20000
set_option maxHeartbeats 4000000
namespace Go.Av
def dropsK (g : GameD) (p : PosD) (k : Nat) : List PosD := (List.range k).flatMap fun k => (List.range p.at_.length).filterMap fun c => dropP g p k c
def dropsC (g : GameD) (p : PosD) (k c : Nat) : List PosD := dropsK g p k ++ (List.range c).filterMap fun c => dropP g p k c
theorem dropsC_all (g : GameD) (p : PosD) (k : Nat) : dropsC g p k p.at_.length = dropsK g p (k + 1) := by simp [dropsC, dropsK, List.range_succ, List.flatMap_append]
theorem dropsC_zero (g : GameD) (p : PosD) (k : Nat) : dropsC g p k 0 = dropsK g p k := by simp [dropsC]
theorem dropsC_succ (g : GameD) (p : PosD) (k c : Nat) : dropsC g p k (c + 1) = dropsC g p k c ++ (dropP g p k c).toList := by
  simp only [dropsC, List.range_succ, List.filterMap_append, List.append_assoc]
  cases h : dropP g p k c <;> simp [h]
theorem dropsK_all (g : GameD) (p : PosD) : dropsK g p g.kinds.length = dropsL g p := rfl
theorem flatMap_range_len {α : Type} (f : Nat → List α) (m : Nat) (hf : ∀ k, (f k).length ≤ m) : ∀ n, ((List.range n).flatMap f).length ≤ n * m
  | 0 => by simp
  | n + 1 => by
    have := flatMap_range_len f m hf n
    have := hf n
    simp only [List.range_succ, List.flatMap_append, List.length_append, List.flatMap_cons, List.flatMap_nil, List.append_nil, Nat.add_mul, Nat.one_mul]
    omega
theorem dropsK_len (g : GameD) (p : PosD) (k : Nat) : (dropsK g p k).length ≤ k * p.at_.length :=
  flatMap_range_len _ _ (fun k => Nat.le_trans (List.length_filterMap_le _ _) (by simp)) k
theorem dropsC_len (g : GameD) (p : PosD) (k c : Nat) : (dropsC g p k c).length ≤ k * p.at_.length + c := by
  have h1 := dropsK_len g p k
  have h2 : ((List.range c).filterMap fun c => dropP g p k c).length ≤ c := Nat.le_trans (List.length_filterMap_le _ _) (by simp)
  simp only [dropsC, List.length_append]
  omega
theorem dropP_ok {g : GameD} (hg : GOk g) {p : PosD} (hp : POk g p) {k c : Nat} (hk : k < g.kinds.length) {q : PosD} (h : dropP g p k c = some q) : POk g q ∧ q.side = 1 - p.side := by
  unfold dropP at h
  split at h
  · cases h
  · rename_i hc
    simp only [Option.some.injEq] at h
    subst h
    have k6 := hg.k6
    have hcode : codeOf k p.side = 1 + 2 * k + p.side := codeOf_ok (K := g.kinds.length) ⟨by omega, by omega⟩ k6 hp.s
    have hs := hp.s
    have hh := hp.hand p.side
    have hl := hh.len
    have hv := hh.v k (by omega)
    refine ⟨POk.side (POk.withHand (hp.setAt c (by rw [hcode]; omega)) _ (hh.set k ?_ ?_)) (by omega), rfl⟩
    · simp only [not_or] at hc; omega
    · intro _; exact hv.2.2 (by simp only [not_or] at hc; omega)
theorem R5Drops_pure (g : GameD) (hg : GOk g) (p : PosD) (hp : POk g p) : Pure Tryz.prog 62 [.agg (encGame g), .agg (encPos p)] (encPs (dropsP g p)) := by
  refine Pure.of (ACallP.of_awp (by kernel_rfl) Tryz.func62 rfl rfl (Nat.le_of_ble_eq_true rfl) (by kernel_rfl) ?_)
  have hal := hp.al
  have c9 := hg.c9
  have k6 := hg.k6
  have hcp := copied_owns p (hp.fits hg)
  obtain ⟨gk, hgk⟩ : ∃ gk, gk = g.kinds.length := ⟨_, rfl⟩
  have hl0 := hp.h0.len
  have hl1 := hp.h1.len
  (repeat (first | with_reducible (first | refine wL fun _ => ?_ | refine wD fun _ => ?_ | refine wE ?_ | refine adrZ.go ?_) | simp [go_sem]))
  refine ALoop.start (ALoop.ind (α := Nat) (fun k => ⟨[(2, .ref 0 0 9 0 0), (3, .ref 1 0 5 0 0), (5, .sl 2 (dropsK g p k).length 5 0 (dropsK g p k).length), (6, .v (.int .i64 k))], [(0, .rows true 0 9 [encGame g]), (1, .rows true 0 5 [encPos p]), (2, .rows true (dropsK g p k).length 5 ((dropsK g p k).map encPos))], 3⟩)
    (fun d k => k + d = g.kinds.length) ?_ g.kinds.length 0 ?_) ?_ ?_
  · rintro d k k1 hrec
    (repeat (first | with_reducible (first | refine wL fun _ => ?_ | refine wD fun _ => ?_ | refine wE ?_ | refine adrZ.go ?_) | simp [go_sem]))
    refine aIf.mkL (fun hk => ?_) (fun hk => ?_) <;> simp at hk
    · have hz := dropsC_zero g p k
      have ha := dropsC_all g p k
      (repeat (first | with_reducible (first | refine wL fun _ => ?_ | refine wD fun _ => ?_ | refine wE ?_ | refine adrZ.go ?_) | simp [go_sem]))
      refine ALoop.start (ALoop.ind (α := Nat) (fun c => ⟨[(2, .ref 0 0 9 0 0), (3, .ref 1 0 5 0 0), (5, .sl 2 (dropsC g p k c).length 5 0 (dropsC g p k c).length), (6, .v (.int .i64 k)), (7, .v (.int .i64 c))], [(0, .rows true 0 9 [encGame g]), (1, .rows true 0 5 [encPos p]), (2, .rows true (dropsC g p k c).length 5 ((dropsC g p k c).map encPos))], 3⟩)
        (fun d c => c + d = p.at_.length) ?_ p.at_.length 0 ?_) ?_ ?_
      · rintro d2 c c1 hrec2
        (repeat (first | with_reducible (first | refine wL fun _ => ?_ | refine wD fun _ => ?_ | refine wE ?_ | refine adrZ.go ?_) | simp [go_sem]))
        refine aIf.mkL (fun hci => ?_) (fun hci => ?_) <;> simp at hci
        · have hD : dropP g p k c = if nth (p.hand p.side) k = 0 ∨ nth p.at_ c ≠ 0 then none
            else some { ({ p with at_ := p.at_.set c (codeOf k p.side) }.withHand p.side ((p.hand p.side).set k (nth (p.hand p.side) k - 1))) with side := 1 - p.side } := rfl
          rcases hp.s with hsd | hsd
          · have hsn : p.side.toNat = 0 := by omega
            have hkh : k < p.h0.length := by omega
            have hhv := hp.h0.v k hkh
            have hD' : dropP g p k c = if nth p.h0 k = 0 ∨ nth p.at_ c ≠ 0 then none else some { p with at_ := p.at_.set c (codeOf k p.side), h0 := p.h0.set k (nth p.h0 k - 1), side := 1 - p.side } := by
              rw [hD]; simp [PosD.hand, PosD.withHand, hsd]
            (repeat (first | with_reducible (first | refine wL fun _ => ?_ | refine wD fun _ => ?_ | refine wE ?_ | refine adrZ.go ?_) | simp [go_sem, hsn, hkh, hci]))
            refine aIf.mkL (fun hcc => ?_) (fun hcc => ?_) <;> simp at hcc
            · rw [if_pos (by omega)] at hD'
              have hsu := dropsC_succ g p k c
              rw [hD'] at hsu
              simp only [Option.toList_none, List.append_nil] at hsu
              (repeat (first | with_reducible (first | refine wL fun _ => ?_ | refine wD fun _ => ?_ | refine wE ?_ | refine adrZ.go ?_) | simp [go_sem]))
              refine ALoop.start (hrec2 (d2 - 1) (by omega) (c + 1) (by omega)) ?_ (by simp)
              simp [go_sem, Wk_eq, hsu]
            · rw [if_neg (by omega)] at hD'
              have hsu := dropsC_succ g p k c
              rw [hD'] at hsu
              simp only [Option.toList_some] at hsu
              have hcl := dropsC_len g p k c
              have hkm : k * p.at_.length ≤ 6 * 9 := Nat.mul_le_mul (by omega) (by omega)
              (repeat (first | with_reducible (first | refine wL fun _ => ?_ | refine wD fun _ => ?_ | refine wE ?_ | refine adrZ.go ?_) | simp [go_sem, hci]))
              refine ACallP.ownsPlain hcp (by simp [go_sem]) ?_
              (repeat (first | with_reducible (first | refine wL fun _ => ?_ | refine wD fun _ => ?_ | refine wE ?_ | refine adrZ.go ?_) | simp [go_sem, hci]))
              try ((with_reducible refine adrZ.go ?_); (try simp [go_sem]))
              refine dCall.plain (R3Code_pure (k : Int) p.side) (by simp [go_sem]) ?_
              (repeat (first | with_reducible (first | refine wL fun _ => ?_ | refine wD fun _ => ?_ | refine wE ?_ | refine adrZ.go ?_) | simp [go_sem, hsn, hci, hkh]))
              refine ALoop.start (hrec2 (d2 - 1) (by omega) (c + 1) (by omega)) ?_ (by simp)
              simp [go_sem, Wk_eq, hsu]
              ((refine leRows_append (.refl _) ?_); (repeat (first | (with_reducible exact LeRows.nil) | (with_reducible refine LeRows.cons ?_ ?_) | (with_reducible exact LeRow.nil) | (with_reducible refine LeRow.cons ?_ ?_) | (with_reducible exact LeV.refl _) | (refine leV_frz rfl (by simp) (by simp [noH, upd]) ?_; first | (simp [go_sem]; done) | (simp [go_sem]; exact List.take_of_length_le (by simp))))))
          · have hsn : p.side.toNat = 1 := by omega
            have hkh : k < p.h1.length := by omega
            have hhv := hp.h1.v k hkh
            have hD' : dropP g p k c = if nth p.h1 k = 0 ∨ nth p.at_ c ≠ 0 then none else some { p with at_ := p.at_.set c (codeOf k p.side), h1 := p.h1.set k (nth p.h1 k - 1), side := 1 - p.side } := by
              rw [hD]; simp [PosD.hand, PosD.withHand, hsd]
            (repeat (first | with_reducible (first | refine wL fun _ => ?_ | refine wD fun _ => ?_ | refine wE ?_ | refine adrZ.go ?_) | simp [go_sem, hsn, hkh, hci]))
            refine aIf.mkL (fun hcc => ?_) (fun hcc => ?_) <;> simp at hcc
            · rw [if_pos (by omega)] at hD'
              have hsu := dropsC_succ g p k c
              rw [hD'] at hsu
              simp only [Option.toList_none, List.append_nil] at hsu
              (repeat (first | with_reducible (first | refine wL fun _ => ?_ | refine wD fun _ => ?_ | refine wE ?_ | refine adrZ.go ?_) | simp [go_sem]))
              refine ALoop.start (hrec2 (d2 - 1) (by omega) (c + 1) (by omega)) ?_ (by simp)
              simp [go_sem, Wk_eq, hsu]
            · rw [if_neg (by omega)] at hD'
              have hsu := dropsC_succ g p k c
              rw [hD'] at hsu
              simp only [Option.toList_some] at hsu
              have hcl := dropsC_len g p k c
              have hkm : k * p.at_.length ≤ 6 * 9 := Nat.mul_le_mul (by omega) (by omega)
              (repeat (first | with_reducible (first | refine wL fun _ => ?_ | refine wD fun _ => ?_ | refine wE ?_ | refine adrZ.go ?_) | simp [go_sem, hci]))
              refine ACallP.ownsPlain hcp (by simp [go_sem]) ?_
              (repeat (first | with_reducible (first | refine wL fun _ => ?_ | refine wD fun _ => ?_ | refine wE ?_ | refine adrZ.go ?_) | simp [go_sem, hci]))
              try ((with_reducible refine adrZ.go ?_); (try simp [go_sem]))
              refine dCall.plain (R3Code_pure (k : Int) p.side) (by simp [go_sem]) ?_
              (repeat (first | with_reducible (first | refine wL fun _ => ?_ | refine wD fun _ => ?_ | refine wE ?_ | refine adrZ.go ?_) | simp [go_sem, hsn, hci, hkh]))
              refine ALoop.start (hrec2 (d2 - 1) (by omega) (c + 1) (by omega)) ?_ (by simp)
              simp [go_sem, Wk_eq, hsu]
              ((refine leRows_append (.refl _) ?_); (repeat (first | (with_reducible exact LeRows.nil) | (with_reducible refine LeRows.cons ?_ ?_) | (with_reducible exact LeRow.nil) | (with_reducible refine LeRow.cons ?_ ?_) | (with_reducible exact LeV.refl _) | (refine leV_frz rfl (by simp) (by simp [noH, upd]) ?_; first | (simp [go_sem]; done) | (simp [go_sem]; exact List.take_of_length_le (by simp))))))
        · have hcl : c = p.at_.length := by omega
          subst hcl
          rw [ha]
          (repeat (first | with_reducible (first | refine wL fun _ => ?_ | refine wD fun _ => ?_ | refine wE ?_ | refine adrZ.go ?_) | simp [go_sem]))
          refine ALoop.start (hrec (d - 1) (by omega) (k + 1) (by omega)) ?_ (by simp)
          simp [go_sem, Wk_eq]
      · omega
      · simp [go_sem, Wk_eq, hz]
      · simp
    · have hkl : k = g.kinds.length := by omega
      subst hkl
      have hdl := dropsK_len g p g.kinds.length
      have hkm : g.kinds.length * p.at_.length ≤ 6 * 9 := Nat.mul_le_mul k6 (by omega)
      have hS := R4Sort_pure (dropsK g p g.kinds.length) (by omega) (fun q hq => by
        rw [dropsK_all] at hq
        obtain ⟨k, hk, hq⟩ := List.mem_flatMap.1 hq
        obtain ⟨c, hc, hq⟩ := List.mem_filterMap.1 hq
        exact (dropP_ok hg hp (by simpa using hk) hq).1.fits hg)
      rw [show sortU cmpP (dropsK g p g.kinds.length) = dropsP g p from rfl] at hS
      generalize dropsK g p g.kinds.length = l at *
      generalize dropsP g p = r at *
      (repeat (first | with_reducible (first | refine wL fun _ => ?_ | refine wD fun _ => ?_ | refine wE ?_ | refine adrZ.go ?_) | simp [go_sem]))
      refine ACallP.pureF [2] hS ?_ (bel1 (bel_encPs _)) ?_
      · ((try simp only [encOut, encState, encPos, encOs, encSs, encPs, encIs, List.nil_append, List.append_nil, List.cons_append]); (repeat (first | (with_reducible exact LeRow.nil) | (with_reducible refine LeRow.cons ?_ ?_) | (with_reducible exact LeV.refl _) | (with_reducible refine LeV.agg ?_) | ((refine leV_frz rfl (by simp) (by simp [frzO, frz1, upd, noH]) ?_); (first | (simp [go_sem]; done) | (simp [go_sem]; exact List.take_of_length_le (by simp)))))))
      · (repeat (first | with_reducible (first | refine wL fun _ => ?_ | refine wD fun _ => ?_ | refine wE ?_ | refine adrZ.go ?_) | simp [go_sem]))
  · omega
  · simp [go_sem, Wk_eq, show dropsK g p 0 = [] from rfl]
  · simp
end Go.Av
end
section
set_option linter.unusedSimpArgs false
set_option linter.unusedVariables false
open Go Go.Proofs
namespace Go.Av
theorem kind_lt {g : GameD} (hg : GOk g) {p : PosD} (hp : POk g p) {cell : Int} (h0 : 0 ≤ cell) (h1 : cell < g.cells) (hm : 0 ≤ (manOf (nth p.at_ cell.toNat)).1) :
    (manOf (nth p.at_ cell.toNat)).1.toNat < g.kinds.length := by
  have hat := hp.at (i := cell.toNat) (by omega)
  rcases manOf_cases hat.1 hat.2 hg.k6 with ⟨_, e⟩ | ⟨_, a, b, _⟩
  · rw [e] at hm; simp at hm
  · omega
theorem prog_ok {g : GameD} (hg : GOk g) {p : PosD} (hp : POk g p) {cell i : Int} (hc : ChoiceOk g p cell i) : ProgOk g.next.length g.kinds.length g.rights (progOf g p cell i) :=
  hg.pr _ (nth_mem (kind_lt hg hp hc.c0 hc.c1 hc.man)) _ (nth_mem (by have := hc.i0; have := hc.i1; omega))
theorem lastS_ok {g : GameD} (hg : GOk g) {p : PosD} (hp : POk g p) {cell i : Int} (hc : ChoiceOk g p cell i) :
    (∀ s ∈ lastS g p cell (progOf g p cell i), StOk g s ∧ s.p.side = p.side) ∧ (lastS g p cell (progOf g p cell i)).length ≤ 100000000 := by
  have hpg := prog_ok hg hp hc
  have h := stageS_ok hg hp hc.c0 hc.c1 hc.man hpg.st _ (Nat.le_refl _)
  rw [stageS_last] at h
  exact ⟨h.1, Nat.le_trans h.2 (pow10_le hpg.len)⟩
theorem putS_ok {g : GameD} (hg : GOk g) {s : StD} (hs : StOk g s) {side : Int} (hsd : side = 0 ∨ side = 1) {o : OutD} (h : putS side s = some o) : POk g o.pos ∧ o.pos.side = 1 - side := by
  unfold putS at h
  split at h
  · simp only [Option.some.injEq] at h
    subst h
    have hc : codeOf s.kind side = 1 + 2 * s.kind + side := codeOf_ok (K := g.kinds.length) hs.k hg.k6 hsd
    have hk := hs.k
    exact ⟨POk.side (hs.p.setAt _ (by rw [hc]; omega)) (by omega), rfl⟩
  · cases h
theorem runsP_ok {g : GameD} (hg : GOk g) {p : PosD} (hp : POk g p) {cell i : Int} (hc : ChoiceOk g p cell i) : ∀ o ∈ runsP g p cell i, POk g o.pos ∧ o.pos.side = 1 - p.side := by
  intro o ho
  unfold runsP at ho
  rw [sortU_mem] at ho
  obtain ⟨s, hs, h⟩ := List.mem_filterMap.1 ho
  exact putS_ok hg ((lastS_ok hg hp hc).1 s hs).1 hp.s h
theorem runsP_len {g : GameD} (hg : GOk g) {p : PosD} (hp : POk g p) {cell i : Int} (hc : ChoiceOk g p cell i) : (runsP g p cell i).length ≤ 100000000 := by
  unfold runsP
  have h1 := sortU_le cmpO ((lastS g p cell (progOf g p cell i)).filterMap (putS p.side))
  have h2 : ((lastS g p cell (progOf g p cell i)).filterMap (putS p.side)).length ≤ (lastS g p cell (progOf g p cell i)).length := List.length_filterMap_le _ _
  have h3 := (lastS_ok hg hp hc).2
  omega
theorem choice_of {g : GameD} {p : PosD} {c i : Nat} (hp : POk g p) (hc : c < p.at_.length) (hm : 0 ≤ (manOf (nth p.at_ c)).1 ∧ (manOf (nth p.at_ c)).2 = p.side)
    (hi : i < (nth g.kinds (manOf (nth p.at_ c)).1.toNat).progs.length) : ChoiceOk g p c i := by
  have := hp.al
  exact ⟨by omega, by omega, hm.1, hm.2, by omega, by simp only [Int.toNat_natCast]; omega⟩
theorem mem_outsP {g : GameD} {p : PosD} (hp : POk g p) {o : OutD} : o ∈ outsP g p ↔ ∃ c i : Nat, ChoiceOk g p c i ∧ o ∈ runsP g p c i := by
  have hal := hp.al
  unfold outsP
  rw [List.mem_flatMap]
  constructor
  · rintro ⟨c, hc, ho⟩
    rw [List.mem_range] at hc
    unfold outsAt at ho
    split at ho
    · rename_i hm
      obtain ⟨i, hi, ho⟩ := List.mem_flatMap.1 ho
      rw [List.mem_range] at hi
      exact ⟨c, i, choice_of hp hc hm hi, ho⟩
    · simp at ho
  · rintro ⟨c, i, hc, ho⟩
    refine ⟨c, ?_, ?_⟩
    · have := hc.c1; rw [List.mem_range]; omega
    · have h1 := hc.man
      have h2 := hc.side
      have h3 := hc.i1
      simp only [Int.toNat_natCast] at h1 h2 h3
      unfold outsAt
      rw [if_pos ⟨h1, h2⟩]
      exact List.mem_flatMap.2 ⟨i, by rw [List.mem_range]; omega, ho⟩
theorem outsP_ok {g : GameD} (hg : GOk g) {p : PosD} (hp : POk g p) : ∀ o ∈ outsP g p, POk g o.pos ∧ o.pos.side = 1 - p.side := by
  intro o ho
  obtain ⟨c, i, hc, ho⟩ := (mem_outsP hp).1 ho
  exact runsP_ok hg hp hc o ho
theorem flatMap_range_le {α : Type} (f : Nat → List α) (m : Nat) : ∀ n, (∀ k, k < n → (f k).length ≤ m) → ((List.range n).flatMap f).length ≤ n * m
  | 0, _ => by simp
  | n + 1, hf => by
    have := flatMap_range_le f m n (fun k hk => hf k (by omega))
    have := hf n (by omega)
    simp only [List.range_succ, List.flatMap_append, List.length_append, List.flatMap_cons, List.flatMap_nil, List.append_nil, Nat.add_mul, Nat.one_mul]
    omega
theorem outsAt_len {g : GameD} (hg : GOk g) {p : PosD} (hp : POk g p) {c : Nat} (hc : c < p.at_.length) : (outsAt g p c).length ≤ 800000000 := by
  unfold outsAt
  split
  · rename_i hm
    have hal := hp.al
    have hk := kind_lt hg hp (cell := c) (by omega) (by omega) (by simpa using hm.1)
    simp only [Int.toNat_natCast] at hk
    have h8 := hg.pn _ (nth_mem hk)
    have h1 := flatMap_range_le (fun (i : Nat) => runsP g p c i) 100000000 (nth g.kinds (manOf (nth p.at_ c)).1.toNat).progs.length (fun i hi => runsP_len hg hp (choice_of hp hc hm hi))
    have h2 : (nth g.kinds (manOf (nth p.at_ c)).1.toNat).progs.length * 100000000 ≤ 8 * 100000000 := Nat.mul_le_mul_right _ h8
    omega
  · simp
theorem outsK_len {g : GameD} (hg : GOk g) {p : PosD} (hp : POk g p) {k : Nat} (hk : k ≤ p.at_.length) : ((List.range k).flatMap (outsAt g p)).length ≤ 7200000000 := by
  have hal := hp.al
  have c9 := hg.c9
  have h1 := flatMap_range_le (outsAt g p) 800000000 k (fun c hc => outsAt_len hg hp (by omega))
  have h2 : k * 800000000 ≤ 9 * 800000000 := Nat.mul_le_mul_right _ (by omega)
  omega
theorem outsP_len {g : GameD} (hg : GOk g) {p : PosD} (hp : POk g p) : (outsP g p).length ≤ 7200000000 := outsK_len hg hp (Nat.le_refl _)
theorem dropsP_ok {g : GameD} (hg : GOk g) {p : PosD} (hp : POk g p) : ∀ q ∈ dropsP g p, POk g q ∧ q.side = 1 - p.side := by
  intro q hq
  unfold dropsP at hq
  rw [sortU_mem] at hq
  obtain ⟨k, hk, hq⟩ := List.mem_flatMap.1 hq
  obtain ⟨c, hc, hq⟩ := List.mem_filterMap.1 hq
  exact dropP_ok hg hp (by simpa using hk) hq
theorem dropsP_len {g : GameD} (hg : GOk g) {p : PosD} (hp : POk g p) : (dropsP g p).length ≤ 54 := by
  have h1 := sortU_le cmpP (dropsL g p)
  have h2 := dropsK_len g p g.kinds.length
  rw [dropsK_all] at h2
  have hal := hp.al
  have c9 := hg.c9
  have h3 : g.kinds.length * p.at_.length ≤ 6 * 9 := Nat.mul_le_mul hg.k6 (by omega)
  unfold dropsP
  omega
theorem movesL_ok {g : GameD} (hg : GOk g) {p : PosD} (hp : POk g p) : ∀ q ∈ movesL g p, POk g q ∧ q.side = 1 - p.side := by
  intro q hq
  unfold movesL at hq
  rcases List.mem_append.1 hq with hq | hq
  · obtain ⟨o, ho, rfl⟩ := List.mem_map.1 hq
    exact outsP_ok hg hp o (List.mem_filter.1 ho).1
  · split at hq
    · simp at hq
    · exact dropsP_ok hg hp q hq
theorem movesL_len {g : GameD} (hg : GOk g) {p : PosD} (hp : POk g p) : (movesL g p).length ≤ 7200000054 := by
  have h1 := outsP_len hg hp
  have h2 := dropsP_len hg hp
  have h3 : ((outsP g p).filter fun o => !mustP g p || o.took).length ≤ (outsP g p).length := List.length_filter_le _ _
  unfold movesL
  rw [List.length_append, List.length_map]
  split <;> simp <;> omega
theorem movesP_ok {g : GameD} (hg : GOk g) {p : PosD} (hp : POk g p) : ∀ q ∈ movesP g p, POk g q ∧ q.side = 1 - p.side := by
  intro q hq
  unfold movesP at hq
  split at hq
  · simp at hq
  · exact movesL_ok hg hp q (sortU_mem.1 hq)
theorem movesP_len {g : GameD} (hg : GOk g) {p : PosD} (hp : POk g p) : (movesP g p).length ≤ 7200000054 := by
  unfold movesP
  split
  · simp
  · exact Nat.le_trans (sortU_le _ _) (movesL_len hg hp)
theorem walkP_ok {g : GameD} (hg : GOk g) : ∀ (l : List Int) {p : PosD}, POk g p → ∀ q ∈ walkP g p l, POk g q
  | [], p, hp, q, hq => by simp [walkP] at hq; subst hq; exact hp
  | k :: l, p, hp, q, hq => by
    rw [walkP] at hq
    split at hq
    · simp at hq; subst hq; exact hp
    · rename_i hne
      rcases List.mem_cons.1 hq with rfl | hq
      · exact hp
      · refine walkP_ok hg l ((movesP_ok hg hp) _ (nth_mem ?_)).1 q hq
        have hpos : 0 < (movesP g p).length := List.length_pos_iff.2 hne
        have h1 : 0 ≤ k.emod (movesP g p).length := Int.emod_nonneg k (show ((movesP g p).length : Int) ≠ 0 by omega)
        have h2 : k.emod (movesP g p).length < (movesP g p).length := Int.emod_lt_of_pos k (show (0 : Int) < (movesP g p).length by omega)
        omega
theorem walkP_ne (g : GameD) (p : PosD) (l : List Int) : walkP g p l ≠ [] := by
  cases l with
  | nil => simp [walkP]
  | cons k l => rw [walkP]; split <;> simp
theorem walkP_len (g : GameD) : ∀ (l : List Int) (p : PosD), (walkP g p l).length ≤ l.length + 1
  | [], p => by simp [walkP]
  | k :: l, p => by
    rw [walkP]
    split
    · simp
    · have := walkP_len g l (nth (movesP g p) (k.emod (movesP g p).length).toNat)
      simp; omega
end Go.Av
end
section
set_option linter.unusedSimpArgs false
set_option linter.unusedVariables false
open Go Go.Proofs
set_option maxRecDepth 20000
set_option maxHeartbeats 4000000
namespace Go.Av
theorem countP_take (f : Int → Bool) (l : List Int) {i : Nat} (h : i < l.length) : (l.take (i + 1)).countP f = (l.take i).countP f + (if f (nth l i) then 1 else 0) := by
  rw [List.take_add_one, List.getElem?_eq_getElem h, nth_eq _ _ h, Option.toList_some, List.countP_append]
  simp [List.countP_cons]
theorem R6men_pure (p : PosD) (hp : FitsP p) (side kind : Int) : Pure Tryz.prog 102 [.agg (encPos p), .v (.int .i64 side), .v (.int .i64 kind)] (.v (.int .i64 (menP p side kind))) := by
  refine Pure.of (ACallP.of_awp (by kernel_rfl) Tryz.func102 rfl rfl (Nat.le_of_ble_eq_true rfl) (by kernel_rfl) ?_)
  obtain ⟨f1, _, _⟩ := hp
  unfold Fits at f1
  (repeat (first | with_reducible (first | refine wL fun _ => ?_ | refine wD fun _ => ?_ | refine wE ?_ | refine adrZ.go ?_) | simp [go_sem]))
  refine ALoop.start (ALoop.ind (α := Nat) (fun i => ⟨[(1, .v (.int .i64 side)), (2, .v (.int .i64 kind)), (3, .ref 0 0 5 0 0), (7, .v (.int .i64 ((p.at_.take i).countP (isMan p side kind) : Nat))), (8, .v (.int .i64 i))], [(0, .rows true 0 5 [encPos p])], 1⟩)
    (fun d i => i + d = p.at_.length) ?_ p.at_.length 0 ?_) ?_ ?_
  · rintro d i i1 hrec
    (repeat (first | with_reducible (first | refine wL fun _ => ?_ | refine wD fun _ => ?_ | refine wE ?_ | refine adrZ.go ?_) | simp [go_sem]))
    refine aIf.mkL (fun hi => ?_) (fun hi => ?_) <;> simp at hi
    · have hO := R3Of_pure (nth p.at_ i)
      have hcs := countP_take (isMan p side kind) p.at_ hi
      have hle : (p.at_.take i).countP (isMan p side kind) ≤ i := Nat.le_trans List.countP_le_length (by simp; omega)
      have hM : isMan p side kind (nth p.at_ i) = (decide (0 ≤ (manOf (nth p.at_ i)).1) && decide ((manOf (nth p.at_ i)).2 = side) && (decide (kind < 0) || decide ((manOf (nth p.at_ i)).1 = kind))) := rfl
      generalize manOf (nth p.at_ i) = m at *
      (repeat (first | with_reducible (first | refine wL fun _ => ?_ | refine wD fun _ => ?_ | refine wE ?_ | refine adrZ.go ?_) | simp [go_sem, hi]))
      refine ACallP.plain hO (by simp [go_sem]) ?_
      (repeat (first | with_reducible (first | refine wL fun _ => ?_ | refine wD fun _ => ?_ | refine wE ?_ | refine adrZ.go ?_) | simp [go_sem]))
      by_cases hm : isMan p side kind (nth p.at_ i) = true
      · have hm' := hm
        rw [hM] at hm'
        rw [if_pos hm] at hcs
        simp only [hm']
        (repeat (first | with_reducible (first | refine wL fun _ => ?_ | refine wD fun _ => ?_ | refine wE ?_ | refine adrZ.go ?_) | simp [go_sem]))
        refine ALoop.start (hrec (d - 1) (by omega) (i + 1) (by omega)) ?_ (by simp)
        simp [go_sem, Wk_eq, hcs]
      · have hm' := hm
        rw [hM] at hm'
        rw [if_neg hm] at hcs
        simp only [Bool.not_eq_true] at hm'
        simp only [hm']
        (repeat (first | with_reducible (first | refine wL fun _ => ?_ | refine wD fun _ => ?_ | refine wE ?_ | refine adrZ.go ?_) | simp [go_sem]))
        refine ALoop.start (hrec (d - 1) (by omega) (i + 1) (by omega)) ?_ (by simp)
        simp [go_sem, Wk_eq, hcs]
    · have hil : i = p.at_.length := by omega
      subst hil
      have hM : menP p side kind = (p.at_.take p.at_.length).countP (isMan p side kind) := by rw [List.take_length]; rfl
      rw [hM]
      (repeat (first | with_reducible (first | refine wL fun _ => ?_ | refine wD fun _ => ?_ | refine wE ?_ | refine adrZ.go ?_) | simp [go_sem]))
  · omega
  · simp [go_sem, Wk_eq]
  · simp
theorem R6Condition_pure (g : GameD) (hg : GOk g) (p : PosD) (hp : POk g p) (c : Int × Int × Int × Int) (hc : ClauseOk g.cells g.kinds.length c) :
    Pure Tryz.prog 84 [.agg (encClause c), .agg (encPos p)] (.v (.bool (condP c p))) := by
  refine Pure.of (ACallP.of_awp (by kernel_rfl) Tryz.func84 rfl rfl (Nat.le_of_ble_eq_true rfl) (by kernel_rfl) ?_)
  have hps := hp.s
  have hal := hp.al
  have hM := fun s k => R6men_pure p (hp.fits hg) s k
  have hml : ∀ s k, menP p s k ≤ 9 := fun s k => Nat.le_trans List.countP_le_length (by have := hg.c9; omega)
  obtain ⟨c0, c1, c2, c3⟩ := c
  obtain ⟨k1, k2, k3, k4, k5⟩ := hc
  simp only at k1 k2 k3 k4 k5
  unfold condP
  rcases k1 with rfl | rfl | rfl
  · have h1 := hM p.side c1
    (repeat (first | with_reducible (first | refine wL fun _ => ?_ | refine wD fun _ => ?_ | refine wE ?_ | refine adrZ.go ?_) | simp [go_sem]))
    refine ACallP.plain h1 (by simp [go_sem]) ?_
    (repeat (first | with_reducible (first | refine wL fun _ => ?_ | refine wD fun _ => ?_ | refine wE ?_ | refine adrZ.go ?_) | simp [go_sem]))
  · have hci : c2.toNat < p.at_.length := by omega
    (repeat (first | with_reducible (first | refine wL fun _ => ?_ | refine wD fun _ => ?_ | refine wE ?_ | refine adrZ.go ?_) | simp [go_sem, hci]))
    try ((with_reducible refine adrZ.go ?_); (try simp [go_sem]))
    refine dCall.plain (R3Code_pure c1 (1 - p.side)) (by simp [go_sem]) ?_
    (repeat (first | with_reducible (first | refine wL fun _ => ?_ | refine wD fun _ => ?_ | refine wE ?_ | refine adrZ.go ?_) | simp [go_sem, hci]))
  · have h1 := hM p.side (-1)
    have := hml p.side (-1)
    (repeat (first | with_reducible (first | refine wL fun _ => ?_ | refine wD fun _ => ?_ | refine wE ?_ | refine adrZ.go ?_) | simp [go_sem]))
    try ((with_reducible refine adrZ.go ?_); (try simp [go_sem]))
    refine dCall.plain h1 (by simp [go_sem]) ?_
    (repeat (first | with_reducible (first | refine wL fun _ => ?_ | refine wD fun _ => ?_ | refine wE ?_ | refine adrZ.go ?_) | simp [go_sem]))
theorem findIdx_some {α : Type} [Inhabited α] (f : α → Bool) (l : List α) {i : Nat} (hi : i < l.length) (hb : ∀ j, j < i → f (nth l j) = false) (h : f (nth l i) = true) : l.findIdx? f = some i := by
  rw [List.findIdx?_eq_some_iff_getElem]
  refine ⟨hi, by rw [← nth_eq _ _ hi]; exact h, fun j hj => ?_⟩
  have := hb j hj
  rw [nth_eq _ _ (by omega)] at this
  simp [this]
theorem findIdx_none {α : Type} [Inhabited α] (f : α → Bool) (l : List α) (hb : ∀ j, j < l.length → f (nth l j) = false) : l.findIdx? f = none := by
  rw [List.findIdx?_eq_none_iff]
  intro x hx
  obtain ⟨j, hj, rfl⟩ := List.getElem_of_mem hx
  have := hb j hj
  rwa [nth_eq _ _ hj] at this
theorem R6Ended_pure (g : GameD) (hg : GOk g) (p : PosD) (hp : POk g p) : Pure Tryz.prog 60 [.agg (encGame g), .agg (encPos p)] (.v (.int .i64 (endedP g p))) := by
  refine Pure.of (ACallP.of_awp (by kernel_rfl) Tryz.func60 rfl rfl (Nat.le_of_ble_eq_true rfl) (by kernel_rfl) ?_)
  have hcn := hg.cn
  (repeat (first | with_reducible (first | refine wL fun _ => ?_ | refine wD fun _ => ?_ | refine wE ?_ | refine adrZ.go ?_) | simp [go_sem]))
  refine ALoop.start (ALoop.ind (α := Nat) (fun i => ⟨[(2, .ref 0 0 9 0 0), (3, .ref 1 0 5 0 0), (5, .v (.int .i64 i))], [(0, .rows true 0 9 [encGame g]), (1, .rows true 0 5 [encPos p])], 2⟩)
    (fun d i => i + d = g.clauses.length ∧ ∀ j, j < i → condP (nth g.clauses j) p = false) ?_ g.clauses.length 0 ?_) ?_ ?_
  · rintro d i ⟨i1, i2⟩ hrec
    (repeat (first | with_reducible (first | refine wL fun _ => ?_ | refine wD fun _ => ?_ | refine wE ?_ | refine adrZ.go ?_) | simp [go_sem]))
    refine aIf.mkL (fun hi => ?_) (fun hi => ?_) <;> simp at hi
    · have hC := R6Condition_pure g hg p hp _ (hg.cl _ (nth_mem hi))
      (repeat (first | with_reducible (first | refine wL fun _ => ?_ | refine wD fun _ => ?_ | refine wE ?_ | refine adrZ.go ?_) | simp [go_sem, hi]))
      try ((with_reducible refine adrZ.go ?_); (try simp [go_sem]))
      refine dCall.plain hC (by simp [go_sem]) ?_
      (repeat (first | with_reducible (first | refine wL fun _ => ?_ | refine wD fun _ => ?_ | refine wE ?_ | refine adrZ.go ?_) | simp [go_sem]))
      by_cases hc : condP (nth g.clauses i) p = true
      · have he : endedP g p = i := by unfold endedP; rw [findIdx_some (fun c => condP c p) g.clauses hi i2 hc]
        (repeat (first | with_reducible (first | refine wL fun _ => ?_ | refine wD fun _ => ?_ | refine wE ?_ | refine adrZ.go ?_) | simp [go_sem, hc, he]))
      · (repeat (first | with_reducible (first | refine wL fun _ => ?_ | refine wD fun _ => ?_ | refine wE ?_ | refine adrZ.go ?_) | simp [go_sem, hc]))
        refine ALoop.start (hrec (d - 1) (by omega) (i + 1) ⟨by omega, fun j hj => ?_⟩) ?_ (by simp)
        · rcases Nat.lt_or_ge j i with h | h
          · exact i2 j h
          · obtain rfl : j = i := by omega
            simpa using hc
        · simp [go_sem, Wk_eq]
    · have he : endedP g p = -1 := by unfold endedP; rw [findIdx_none (fun c => condP c p) g.clauses (fun j hj => i2 j (by omega))]
      (repeat (first | with_reducible (first | refine wL fun _ => ?_ | refine wD fun _ => ?_ | refine wE ?_ | refine adrZ.go ?_) | simp [go_sem, he]))
  · exact ⟨by simp, fun j hj => by omega⟩
  · simp [go_sem, Wk_eq]
  · simp
end Go.Av
end
section
set_option linter.unusedSimpArgs false
set_option linter.unusedVariables false
open Go Go.Proofs
set_option maxRecDepth 20000
set_option maxHeartbeats 4000000
namespace Go.Av
def outsK (g : GameD) (p : PosD) (c : Nat) : List OutD := (List.range c).flatMap (outsAt g p)
theorem outsK_succ (g : GameD) (p : PosD) (c : Nat) : outsK g p (c + 1) = outsK g p c ++ outsAt g p c := by simp [outsK, List.range_succ, List.flatMap_append]
theorem outsK_zero (g : GameD) (p : PosD) : outsK g p 0 = [] := rfl
def outsI (g : GameD) (p : PosD) (c i : Nat) : List OutD := outsK g p c ++ (List.range i).flatMap fun (i : Nat) => runsP g p c i
theorem outsI_zero (g : GameD) (p : PosD) (c : Nat) : outsI g p c 0 = outsK g p c := by simp [outsI]
theorem outsI_succ (g : GameD) (p : PosD) (c i : Nat) : outsI g p c (i + 1) = outsI g p c i ++ runsP g p c i := by simp [outsI, List.range_succ, List.flatMap_append]
theorem R6Outcomes_pure (g : GameD) (hg : GOk g) (p : PosD) (hp : POk g p) : Pure Tryz.prog 61 [.agg (encGame g), .agg (encPos p)] (encOs (outsP g p)) := by
  refine Pure.of (ACallP.of_awp (by kernel_rfl) Tryz.func61 rfl rfl (Nat.le_of_ble_eq_true rfl) (by kernel_rfl) ?_)
  have hal := hp.al
  have c9 := hg.c9
  have k6 := hg.k6
  have hU : ∀ c i, c < p.at_.length → 0 ≤ (manOf (nth p.at_ c)).1 ∧ (manOf (nth p.at_ c)).2 = p.side → i ≤ (nth g.kinds (manOf (nth p.at_ c)).1.toNat).progs.length → (outsI g p c i).length ≤ 8000000000 := fun c i hc hm hi => by
    have h1 : (outsK g p c).length ≤ 7200000000 := outsK_len hg hp (by omega)
    have hk := kind_lt hg hp (cell := c) (by omega) (by omega) (by simpa using hm.1)
    simp only [Int.toNat_natCast] at hk
    have h8 := hg.pn _ (nth_mem hk)
    have h2 := flatMap_range_le (fun (i : Nat) => runsP g p c i) 100000000 i (fun j hj => runsP_len hg hp (choice_of hp hc hm (by omega)))
    have h3 : i * 100000000 ≤ 8 * 100000000 := Nat.mul_le_mul_right _ (by omega)
    simp only [outsI, List.length_append]
    omega
  (repeat (first | with_reducible (first | refine wL fun _ => ?_ | refine wD fun _ => ?_ | refine wE ?_ | refine adrZ.go ?_) | simp [go_sem]))
  refine ALoop.start (ALoop.ind (α := Nat × Nat) (fun a => ⟨[(2, .ref 0 0 9 0 0), (3, .ref 1 0 5 0 0), (5, .sl 2 a.2 6 0 (outsK g p a.1).length), (6, .v (.int .i64 a.1))], [(0, .rows true 0 9 [encGame g]), (1, .rows true 0 5 [encPos p]), (2, .rows true a.2 6 ((outsK g p a.1).map encOut))], 3⟩)
    (fun d a => a.1 + d = p.at_.length) ?_ p.at_.length (0, 0) ?_) ?_ ?_
  · rintro d ⟨c, G⟩ c1 hrec
    simp only at c1
    (repeat (first | with_reducible (first | refine wL fun _ => ?_ | refine wD fun _ => ?_ | refine wE ?_ | refine adrZ.go ?_) | simp [go_sem]))
    refine aIf.mkL (fun hc => ?_) (fun hc => ?_) <;> simp at hc
    · have hO := R3Of_pure (nth p.at_ c)
      have hsu := outsK_succ g p c
      have hat := hp.at (i := c) (by omega)
      have hman := manOf_cases hat.1 hat.2 hg.k6
      have hAt : outsAt g p c = if 0 ≤ (manOf (nth p.at_ c)).1 ∧ (manOf (nth p.at_ c)).2 = p.side then (List.range (nth g.kinds (manOf (nth p.at_ c)).1.toNat).progs.length).flatMap fun (i : Nat) => runsP g p c i else [] := rfl
      have hU' := fun i => hU c i hc
      have hCh := fun i => choice_of (g := g) (i := i) hp hc
      generalize manOf (nth p.at_ c) = m at *
      obtain ⟨mk, ms⟩ := m
      simp only [Prod.mk.injEq] at hman hAt hU' hCh
      (repeat (first | with_reducible (first | refine wL fun _ => ?_ | refine wD fun _ => ?_ | refine wE ?_ | refine adrZ.go ?_) | simp [go_sem, hc]))
      refine ACallP.plain hO (by simp [go_sem]) ?_
      (repeat (first | with_reducible (first | refine wL fun _ => ?_ | refine wD fun _ => ?_ | refine wE ?_ | refine adrZ.go ?_) | simp [go_sem]))
      refine aIf.mkL (fun hm => ?_) (fun hm => ?_) <;> simp at hm
      · rw [if_neg (by omega)] at hAt
        rw [hAt, List.append_nil] at hsu
        (repeat (first | with_reducible (first | refine wL fun _ => ?_ | refine wD fun _ => ?_ | refine wE ?_ | refine adrZ.go ?_) | simp [go_sem]))
        refine ALoop.start (hrec (d - 1) (by omega) (c + 1, G) (by simp only; omega)) ?_ (by simp)
        simp [go_sem, Wk_eq, hsu]
      · have hm' : 0 ≤ mk ∧ ms = p.side := by omega
        rw [if_pos hm'] at hAt
        have hkl : mk.toNat < g.kinds.length := by omega
        have hpn := hg.pn _ (nth_mem hkl)
        have hz := outsI_zero g p c
        (repeat (first | with_reducible (first | refine wL fun _ => ?_ | refine wD fun _ => ?_ | refine wE ?_ | refine adrZ.go ?_) | simp [go_sem]))
        refine ALoop.start (ALoop.ind (α := Nat × Nat) (fun a => ⟨[(2, .ref 0 0 9 0 0), (3, .ref 1 0 5 0 0), (5, .sl 2 a.2 6 0 (outsI g p c a.1).length), (6, .v (.int .i64 c)), (7, .ref 3 0 2 0 0), (8, .v (.int .i64 a.1))],
            [(0, .rows true 0 9 [encGame g]), (1, .rows true 0 5 [encPos p]), (2, .rows true a.2 6 ((outsI g p c a.1).map encOut)), (3, .rows true 0 2 [[.v (.int .i64 mk), .v (.int .i64 ms)]])], 4⟩)
          (fun d a => a.1 + d = (nth g.kinds mk.toNat).progs.length) ?_ (nth g.kinds mk.toNat).progs.length (0, G) ?_) ?_ ?_
        · rintro d2 ⟨i, G'⟩ i1 hrec2
          simp only at i1
          (repeat (first | with_reducible (first | refine wL fun _ => ?_ | refine wD fun _ => ?_ | refine wE ?_ | refine adrZ.go ?_) | simp [go_sem, hkl]))
          refine aIf.mkL (fun hi => ?_) (fun hi => ?_) <;> simp at hi
          · have hR := R5Runs_pure g hg p hp c i (hCh i hm' hi)
            have hsi := outsI_succ g p c i
            have hUi := hU' i hm' (by omega)
            have hUj := hU' (i + 1) hm' (by omega)
            rw [hsi, List.length_append] at hUj
            (repeat (first | with_reducible (first | refine wL fun _ => ?_ | refine wD fun _ => ?_ | refine wE ?_ | refine adrZ.go ?_) | simp [go_sem]))
            refine ACallP.plain hR (by simp [go_sem]) ?_
            (repeat (first | with_reducible (first | refine wL fun _ => ?_ | refine wD fun _ => ?_ | refine wE ?_ | refine adrZ.go ?_) | simp [go_sem]))
            refine ALoop.start (hrec2 (d2 - 1) (by omega) (i + 1, G' + 1) (by simp only; omega)) ?_ (by simp)
            simp [go_sem, Wk_eq, hsi]
          · have hil : i = (nth g.kinds mk.toNat).progs.length := by omega
            subst hil
            have hfin : outsI g p c (nth g.kinds mk.toNat).progs.length = outsK g p (c + 1) := by rw [hsu, hAt]; rfl
            rw [hfin]
            (repeat (first | with_reducible (first | refine wL fun _ => ?_ | refine wD fun _ => ?_ | refine wE ?_ | refine adrZ.go ?_) | simp [go_sem]))
            refine ALoop.start (hrec (d - 1) (by omega) (c + 1, G') (by simp only; omega)) ?_ (by simp)
            simp [go_sem, Wk_eq]
        · simp
        · simp [go_sem, Wk_eq, hz]
        · simp
    · have hcl : c = p.at_.length := by omega
      subst hcl
      have e : outsP g p = outsK g p p.at_.length := rfl
      rw [e]
      (repeat (first | with_reducible (first | refine wL fun _ => ?_ | refine wD fun _ => ?_ | refine wE ?_ | refine adrZ.go ?_) | simp [go_sem]))
      (refine leV_frz rfl (by simp) (by simp [noH, upd]) ?_; first | (simp [go_sem]; done) | (simp [go_sem]; exact List.take_of_length_le (by simp)))
  · simp
  · simp [go_sem, Wk_eq, outsK_zero]
  · simp
end Go.Av
end
section
set_option linter.unusedSimpArgs false
set_option linter.unusedVariables false
open Go Go.Proofs
set_option maxRecDepth 20000
set_option maxHeartbeats 4000000
namespace Go.Av
def mustK (gm : Bool) (l : List OutD) (i : Nat) : Bool := gm && (l.take i).any (·.took)
theorem mustK_zero (gm : Bool) (l : List OutD) : mustK gm l 0 = false := by simp [mustK]
theorem mustK_succ (gm : Bool) (l : List OutD) {i : Nat} (h : i < l.length) : mustK gm l (i + 1) = (mustK gm l i || (gm && (nth l i).took)) := by
  unfold mustK
  rw [List.take_add_one, List.getElem?_eq_getElem h, nth_eq _ _ h, Option.toList_some, List.any_append]
  simp only [List.any_cons, List.any_nil, Bool.or_false, Bool.and_or_distrib_left]
def keepK (must : Bool) (l : List OutD) (i : Nat) : List PosD := ((l.take i).filter fun o => !must || o.took).map (·.pos)
theorem keepK_zero (must : Bool) (l : List OutD) : keepK must l 0 = [] := by simp [keepK]
theorem keepK_succ (must : Bool) (l : List OutD) {i : Nat} (h : i < l.length) : keepK must l (i + 1) = keepK must l i ++ (if (!must || (nth l i).took) = true then [(nth l i).pos] else []) := by
  unfold keepK
  rw [List.take_add_one, List.getElem?_eq_getElem h, nth_eq _ _ h, Option.toList_some, List.filter_append, List.map_append]
  congr 1
  by_cases hc : (!must || l[i].took) = true <;> simp [hc]
theorem keepK_len (must : Bool) (l : List OutD) (i : Nat) : (keepK must l i).length ≤ i := by
  unfold keepK
  rw [List.length_map]
  refine Nat.le_trans (List.length_filter_le _ _) ?_
  simp; omega
theorem R6Moves_pure (g : GameD) (hg : GOk g) (p : PosD) (hp : POk g p) : Pure Tryz.prog 40 [.agg (encGame g), .agg (encPos p)] (encPs (movesP g p)) := by
  refine Pure.of (ACallP.of_awp (by kernel_rfl) Tryz.func40 rfl rfl (Nat.le_of_ble_eq_true rfl) (by kernel_rfl) ?_)
  have hE := R6Ended_pure g hg p hp
  have hO := R6Outcomes_pure g hg p hp
  have hD := R5Drops_pure g hg p hp
  have hdl := dropsP_len hg hp
  have hol := outsP_len hg hp
  have hS := R4Sort_pure (movesL g p) (by have := movesL_len hg hp; omega) (fun q hq => (movesL_ok hg hp q hq).1.fits hg)
  have hml : movesL g p = keepK (mustP g p) (outsP g p) (outsP g p).length ++ (if mustP g p then [] else dropsP g p) := by unfold movesL keepK; rw [List.take_length]
  have hmu : mustP g p = mustK g.must (outsP g p) (outsP g p).length := by unfold mustP mustK; rw [List.take_length]
  have hmv : movesP g p = if 0 ≤ endedP g p then [] else sortU cmpP (movesL g p) := rfl
  obtain ⟨R, hR⟩ : ∃ R, R = movesP g p := ⟨_, rfl⟩
  rw [← hR] at hmv ⊢
  generalize outsP g p = l at *
  generalize dropsP g p = ds at *
  generalize movesL g p = ml at *
  generalize endedP g p = en at *
  (repeat (first | with_reducible (first | refine wL fun _ => ?_ | refine wD fun _ => ?_ | refine wE ?_ | refine adrZ.go ?_) | simp [go_sem]))
  refine ACallP.plain hE (by simp [go_sem]) ?_
  (repeat (first | with_reducible (first | refine wL fun _ => ?_ | refine wD fun _ => ?_ | refine wE ?_ | refine adrZ.go ?_) | simp [go_sem]))
  refine aIf.mkL (fun he => ?_) (fun he => ?_) <;> simp at he
  · rw [if_pos he] at hmv
    rw [hmv]
    (repeat (first | with_reducible (first | refine wL fun _ => ?_ | refine wD fun _ => ?_ | refine wE ?_ | refine adrZ.go ?_) | simp [go_sem]))
  · rw [if_neg (by omega)] at hmv
    (repeat (first | with_reducible (first | refine wL fun _ => ?_ | refine wD fun _ => ?_ | refine wE ?_ | refine adrZ.go ?_) | simp [go_sem]))
    refine ACallP.plain hO (by simp [go_sem]) ?_
    (repeat (first | with_reducible (first | refine wL fun _ => ?_ | refine wD fun _ => ?_ | refine wE ?_ | refine adrZ.go ?_) | simp [go_sem]))
    refine ALoop.start (ALoop.ind (α := Nat) (fun i => ⟨[(2, .ref 0 0 9 0 0), (3, .ref 1 0 5 0 0), (5, encOs l), (6, .sl 2 0 5 0 0), (7, .v (.bool (mustK g.must l i))), (8, .v (.int .i64 i))], [(0, .rows true 0 9 [encGame g]), (1, .rows true 0 5 [encPos p]), (2, .rows true 0 5 [])], 3⟩)
      (fun d i => i + d = l.length) ?_ l.length 0 ?_) ?_ ?_
    · rintro d i i1 hrec
      (repeat (first | with_reducible (first | refine wL fun _ => ?_ | refine wD fun _ => ?_ | refine wE ?_ | refine adrZ.go ?_) | simp [go_sem]))
      refine aIf.mkL (fun hi => ?_) (fun hi => ?_) <;> simp at hi
      · have hms := mustK_succ g.must l hi
        cases hmk : mustK g.must l i
        · rw [hmk, Bool.false_or] at hms
          cases hgm : g.must
          · rw [hgm, Bool.false_and] at hms
            (repeat (first | with_reducible (first | refine wL fun _ => ?_ | refine wD fun _ => ?_ | refine wE ?_ | refine adrZ.go ?_) | simp [go_sem, hmk, hgm, hi]))
            refine ALoop.start (hrec (d - 1) (by omega) (i + 1) (by omega)) ?_ (by simp)
            simp [go_sem, Wk_eq, hms, hgm]
          · rw [hgm, Bool.true_and] at hms
            (repeat (first | with_reducible (first | refine wL fun _ => ?_ | refine wD fun _ => ?_ | refine wE ?_ | refine adrZ.go ?_) | simp [go_sem, hmk, hgm, hi]))
            refine ALoop.start (hrec (d - 1) (by omega) (i + 1) (by omega)) ?_ (by simp)
            simp [go_sem, Wk_eq, hms, hgm]
        · rw [hmk, Bool.true_or] at hms
          (repeat (first | with_reducible (first | refine wL fun _ => ?_ | refine wD fun _ => ?_ | refine wE ?_ | refine adrZ.go ?_) | simp [go_sem, hmk, hi]))
          refine ALoop.start (hrec (d - 1) (by omega) (i + 1) (by omega)) ?_ (by simp)
          simp [go_sem, Wk_eq, hms]
      · have hil : i = l.length := by omega
        subst hil
        rw [← hmu]
        generalize mustP g p = must at *
        (repeat (first | with_reducible (first | refine wL fun _ => ?_ | refine wD fun _ => ?_ | refine wE ?_ | refine adrZ.go ?_) | simp [go_sem]))
        refine ALoop.start (ALoop.ind (α := Nat) (fun i => ⟨[(2, .ref 0 0 9 0 0), (3, .ref 1 0 5 0 0), (5, encOs l), (6, .sl 2 (keepK must l i).length 5 0 (keepK must l i).length), (7, .v (.bool must)), (9, .v (.int .i64 i))], [(0, .rows true 0 9 [encGame g]), (1, .rows true 0 5 [encPos p]), (2, .rows true (keepK must l i).length 5 ((keepK must l i).map encPos))], 3⟩)
          (fun d i => i + d = l.length) ?_ l.length 0 ?_) ?_ ?_
        · rintro d i i1 hrec2
          (repeat (first | with_reducible (first | refine wL fun _ => ?_ | refine wD fun _ => ?_ | refine wE ?_ | refine adrZ.go ?_) | simp [go_sem]))
          refine aIf.mkL (fun hi => ?_) (fun hi => ?_) <;> simp at hi
          · have hks := keepK_succ must l hi
            have hkl := keepK_len must l i
            cases must
            · simp only [Bool.not_false, Bool.true_or, if_true] at hks
              (repeat (first | with_reducible (first | refine wL fun _ => ?_ | refine wD fun _ => ?_ | refine wE ?_ | refine adrZ.go ?_) | simp [go_sem, hi]))
              refine ALoop.start (hrec2 (d - 1) (by omega) (i + 1) (by omega)) ?_ (by simp)
              simp [go_sem, Wk_eq, hks]
            · cases ht : (nth l i).took
              · simp [ht] at hks
                (repeat (first | with_reducible (first | refine wL fun _ => ?_ | refine wD fun _ => ?_ | refine wE ?_ | refine adrZ.go ?_) | simp [go_sem, hi, ht]))
                refine ALoop.start (hrec2 (d - 1) (by omega) (i + 1) (by omega)) ?_ (by simp)
                simp [go_sem, Wk_eq, hks]
              · simp [ht] at hks
                (repeat (first | with_reducible (first | refine wL fun _ => ?_ | refine wD fun _ => ?_ | refine wE ?_ | refine adrZ.go ?_) | simp [go_sem, hi, ht]))
                refine ALoop.start (hrec2 (d - 1) (by omega) (i + 1) (by omega)) ?_ (by simp)
                simp [go_sem, Wk_eq, hks]
          · have hil : i = l.length := by omega
            subst hil
            have hkl := keepK_len must l l.length
            rw [hmv]
            generalize keepK must l l.length = kk at *
            cases must
            · simp only [Bool.false_eq_true, if_false] at hml
              (repeat (first | with_reducible (first | refine wL fun _ => ?_ | refine wD fun _ => ?_ | refine wE ?_ | refine adrZ.go ?_) | simp [go_sem]))
              refine ACallP.plain hD (by simp [go_sem]) ?_
              (repeat (first | with_reducible (first | refine wL fun _ => ?_ | refine wD fun _ => ?_ | refine wE ?_ | refine adrZ.go ?_) | simp [go_sem]))
              subst hml
              refine ACallP.pureF [2] hS ?_ (bel1 (bel_encPs _)) ?_
              · ((try simp only [encOut, encState, encPos, encOs, encSs, encPs, encIs, List.nil_append, List.append_nil, List.cons_append]); (repeat (first | (with_reducible exact LeRow.nil) | (with_reducible refine LeRow.cons ?_ ?_) | (with_reducible exact LeV.refl _) | (with_reducible refine LeV.agg ?_) | ((refine leV_frz rfl (by simp) (by simp [frzO, frz1, upd, noH]) ?_); (first | (simp [go_sem]; done) | (simp [go_sem]; exact List.take_of_length_le (by simp)))))))
              · (repeat (first | with_reducible (first | refine wL fun _ => ?_ | refine wD fun _ => ?_ | refine wE ?_ | refine adrZ.go ?_) | simp [go_sem]))
            · simp only [if_true, List.append_nil] at hml
              subst hml
              (repeat (first | with_reducible (first | refine wL fun _ => ?_ | refine wD fun _ => ?_ | refine wE ?_ | refine adrZ.go ?_) | simp [go_sem]))
              refine ACallP.pureF [2] hS ?_ (bel1 (bel_encPs _)) ?_
              · ((try simp only [encOut, encState, encPos, encOs, encSs, encPs, encIs, List.nil_append, List.append_nil, List.cons_append]); (repeat (first | (with_reducible exact LeRow.nil) | (with_reducible refine LeRow.cons ?_ ?_) | (with_reducible exact LeV.refl _) | (with_reducible refine LeV.agg ?_) | ((refine leV_frz rfl (by simp) (by simp [frzO, frz1, upd, noH]) ?_); (first | (simp [go_sem]; done) | (simp [go_sem]; exact List.take_of_length_le (by simp)))))))
              · (repeat (first | with_reducible (first | refine wL fun _ => ?_ | refine wD fun _ => ?_ | refine wE ?_ | refine adrZ.go ?_) | simp [go_sem]))
        · omega
        · simp [go_sem, Wk_eq, keepK_zero]
        · simp
    · omega
    · simp [go_sem, Wk_eq, mustK_zero]
    · simp
end Go.Av
end
