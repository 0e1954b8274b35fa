/- Texts of ours, part 9: our library and contracts of functions. -/
import Derived.Test.YtkahkcakggflaaaGreatDoorB08
import Derived.Test.YtkahkcakggflaaaGreatDoorChecked
import Derived.Shelf.GgClosure.StringsIndexFunc
set_option linter.unusedSimpArgs false
set_option linter.unusedVariables false
set_option maxRecDepth 100000
set_option maxHeartbeats 40000000
section
/- Contracts, lists of positions: Sort of the reference. -/
open Go Go.Proofs
namespace Go.Av
def ddAt (all : List PosD) (i : Nat) : List PosD := if i = 0 then dedup all else dedupGo (nth all (i - 1)) (all.drop i)
theorem ddAt_zero (all : List PosD) : ddAt all 0 = dedup all := rfl
theorem ddAt_end {all : List PosD} {i : Nat} (h : all.length ≤ i) : ddAt all i = [] := by
 unfold ddAt
 split
 ·cases all with
  | nil => rfl
  | cons a l => simp at h; omega
 ·rw [List.drop_eq_nil_of_le h]; rfl
theorem ddAt_keep {all : List PosD} {i : Nat} (h : i < all.length) (hk : i = 0 ∨ nth all i ≠ nth all (i - 1)) : ddAt all i = nth all i :: ddAt all (i + 1) := by
 unfold ddAt
 rw [if_neg (show ¬ i + 1 = 0 by omega), Nat.add_sub_cancel]
 split
 ·rename_i h0
  subst h0
  cases all with
  | nil => simp at h
  | cons a l => rfl
 ·rw [dropG_cons h, dedupGo, if_neg (by rcases hk with h | h; omega; exact h)]
theorem ddAt_skip {all : List PosD} {i : Nat} (h : i < all.length) (hi : i ≠ 0) (hk : nth all i = nth all (i - 1)) : ddAt all i = ddAt all (i + 1) := by
 unfold ddAt
 rw [if_neg (show ¬ i + 1 = 0 by omega), Nat.add_sub_cancel, if_neg hi, dropG_cons h, dedupGo, if_pos hk, hk]
theorem R4Sort_pure (l : List PosD) (hl : l.length ≤ 68719476736) (hf : ∀ p ∈ l, FitsP p) : Pure Tryz.prog 27 [encPs l] (encPs (sortU cmpP l)) := by
 have hH := half_pure l.length l (by omega) hl hf
 unfold sortU
 have fA : ∀ p ∈ sortC cmpP l, FitsP p := fun p hp => hf p (sortC_mem.1 hp)
 have lA : (sortC cmpP l).length = l.length := sortC_len l
 generalize sortC cmpP l = all at *
 generalize hR : dedup all = R
 refine pF Tryz.func27 ?_
 (repeat (first|with_reducible refine wV fun _=>?_|simp [go_sem]))
 refine ACallP.plain hH (bel1 (bel_encPs _)) ?_
 (repeat (first|with_reducible refine wV fun _=>?_|simp [go_sem]))
 refine ALoop.start (ALoop.ind (α := Nat × List PosD) (fun a => ⟨[(3, encPs all), (4, .sl 0 a.2.length 5 0 a.2.length), (5, .v (.int .i64 a.1))], [(0, .rows true a.2.length 5 (a.2.map encPos))], 1⟩)
  (fun d a => a.1 + d = all.length ∧ a.2.length ≤ a.1 ∧ R = a.2 ++ ddAt all a.1) ?_ all.length (0, []) ?_) ?_ ?_
 ·rintro d ⟨i, out⟩ ⟨i1, i2, i3⟩ hrec
  simp only at i1 i2 i3
  (repeat (first|with_reducible refine wV fun _=>?_|simp [go_sem]))
  refine aIf.mkL (fun hi => ?_) (fun hi => ?_) <;> simp at hi
  ·by_cases h0 : i = 0
   ·rw [ddAt_keep hi (.inl h0)] at i3
    subst h0
    (repeat (first|with_reducible refine wV fun _=>?_|simp [go_sem, hi]))
    refine dGC.skip (.v (.bool true)) ?_
    (repeat (first|with_reducible refine wV fun _=>?_|simp [go_sem, hi]))
    refine ALoop.start (hrec (d - 1) (by omega) (0 + 1, out ++ [nth all 0]) ⟨by simp only; omega, by simp only [List.length_append, List.length_singleton]; omega, by simpa using i3⟩) ?_ (by simp)
    simp [go_sem, Wk_eq]
   ·have fa := fA _ (nth_mem hi)
    have hi' : i - 1 < all.length := by omega
    have e1 : ((i : Int) - 1).toNat = i - 1 := by omega
    have fb := fA _ (nth_mem hi')
    (repeat (first|with_reducible refine wV fun _=>?_|simp [go_sem, hi, h0, e1, hi']))
    refine dGC.plain _ (fun _ => R4Same_pure _ _ fa fb) (by simp [go_sem]) ?_
    (repeat (first|with_reducible refine wV fun _=>?_|simp [go_sem, hi, h0]))
    refine aIf.mkL (fun hc => ?_) (fun hc => ?_) <;> simp at hc
    ·rw [cmpP_eq] at hc
     rw [ddAt_keep hi (.inr hc)] at i3
     (repeat (first|with_reducible refine wV fun _=>?_|simp [go_sem, hi]))
     refine ALoop.start (hrec (d - 1) (by omega) (i + 1, out ++ [nth all i]) ⟨by simp only; omega, by simp; omega, by simpa using i3⟩) ?_ (by simp)
     simp [go_sem, Wk_eq]
    ·rw [cmpP_eq] at hc
     rw [ddAt_skip hi h0 hc] at i3
     (repeat (first|with_reducible refine wV fun _=>?_|simp [go_sem, hi]))
     refine ALoop.start (hrec (d - 1) (by omega) (i + 1, out) ⟨by simp only; omega, by simp only; omega, i3⟩) ?_ (by simp)
     simp [go_sem, Wk_eq]
  ·rw [ddAt_end hi] at i3
   (repeat (first|with_reducible refine wV fun _=>?_|simp [go_sem]))
   rw [i3]
   exact frX
 ·simp [hR, ddAt_zero]
 ·simp [go_sem, Wk_eq]
 ·simp
end Go.Av
end
section
/- Contracts, runs: Runs, Drops of the reference. -/
open Go Go.Proofs
namespace Go.Av
def outsF (side : Int) (l : List StD) (n : Nat) : List OutD := ((l.take n).filterMap (putS side)).foldl (fun a x => insertO x a) []
@[go_sem] theorem outsF_zero (side : Int) (l : List StD) : outsF side l 0 = [] := rfl
theorem outsF_succ (side : Int) (l : List StD) {n : Nat} (h : n < l.length) : outsF side l (n + 1) = match putS side (nth l n) with | some o => insertO o (outsF side l n) | none => outsF side l n := by
 unfold outsF
 rw [fm_take _ _ _ h, List.foldl_append]
 cases putS side (nth l n) <;> rfl
theorem insertO_le (x : OutD) : ∀ l : List OutD, (insertO x l).length ≤ l.length + 1
 | [] => by simp [insertO]
 | y :: l => by
  rw [insertO]
  split
  ·have := insertO_le x l; simp; omega
  ·split <;> simp
theorem outsF_len (side : Int) (l : List StD) : ∀ n, n ≤ l.length → (outsF side l n).length ≤ n := by
 intro n
 induction n with
 | zero => intro _; simp [outsF]
 | succ n ih =>
  intro h
  have := ih (by omega)
  rw [outsF_succ side l (by omega)]
  split
  ·rename_i o _
   have := insertO_le o (outsF side l n)
   omega
  ·omega
theorem putS_fits {g : GameD} (hg : GOk g) {s : StD} (hs : StOk g s) {side : Int} {o : OutD} (h : putS side s = some o) : FitsP o.pos := by
 have hf := hs.p.fits hg
 unfold putS at h
 split at h
 ·simp only [Option.some.injEq] at h
  subst h
  obtain ⟨a, b, c⟩ := hf
  exact ⟨by unfold Fits at *; simpa using a, b, c⟩
 ·cases h
theorem outsF_fits {g : GameD} (hg : GOk g) {side : Int} {l : List StD} (hl : ∀ s ∈ l, StOk g s) : ∀ n, n ≤ l.length → ∀ o ∈ outsF side l n, FitsP o.pos := by
 intro n
 induction n with
 | zero => intro _ o ho; simp [outsF] at ho
 | succ n ih =>
  intro h o ho
  rw [outsF_succ side l (by omega)] at ho
  cases hp : putS side (nth l n) with
  | none => rw [hp] at ho; exact ih (by omega) o ho
  | some q =>
   rw [hp] at ho
   rcases insertO_mem.1 ho with rfl | ho
   ·exact putS_fits hg (hl _ (nth_mem (by omega))) hp
   ·exact ih (by omega) o ho
theorem outsF_all (g : GameD) (p : PosD) (cell i : Int) : outsF p.side (lastS g p cell (progOf g p cell i)) (lastS g p cell (progOf g p cell i)).length = runsP g p cell i := by
 unfold outsF runsP
 rw [List.take_length, insertO_all]
theorem R5Runs_pure (g : GameD) (hg : GOk g) (p : PosD) (hp : POk g p) (cell i : Int) (hc : ChoiceOk g p cell i) :
  Pure Tryz.prog 257 [.agg (encGame g), .agg (encPos p), .v (.int .i64 cell), .v (.int .i64 i)] (.tup [encOs (runsP g p cell i), .v (.int .i64 0)]) := by
 refine pF Tryz.func257 ?_
 have hRun := R5Run_pure g hg p hp cell i hc
 have hal := hp.al
 have hat := hp.at (i := cell.toNat) (by have := hc.c0; have := hc.c1; omega)
 have hkl : (manOf (nth p.at_ cell.toNat)).1.toNat < g.kinds.length := by
  have cm := hc.man
  rcases manOf_cases hat.1 hat.2 hg.k6 with ⟨_, e⟩ | ⟨_, a, b, _⟩
  ·rw [e] at cm; simp at cm
  ·omega
 have hil : i.toNat < (nth g.kinds (manOf (nth p.at_ cell.toNat)).1.toNat).progs.length := by have := hc.i0; have := hc.i1; omega
 have hpg := hg.pr _ (nth_mem hkl) _ (nth_mem hil)
 have hpe : progOf g p cell i = nth (nth g.kinds (manOf (nth p.at_ cell.toNat)).1.toNat).progs i.toNat := rfl
 rw [← hpe] at hpg
 have hst := stageS_ok hg hp hc.c0 hc.c1 hc.man hpg.st _ (Nat.le_refl _)
 have hlen := Nat.le_trans hst.2 (pow10_le hpg.len)
 have hstR := stR_len g p cell (progOf g p cell i) ((progOf g p cell i).length + 1)
 have hnS := nth_stR g p cell (progOf g p cell i) (n := (progOf g p cell i).length + 1) (j := (progOf g p cell i).length) (by omega)
 have hal' := outsF_all g p cell i
 rw [stageS_last] at hnS hlen hst
 have hps := hp.s
 obtain ⟨m, hm⟩ : ∃ m, m = (progOf g p cell i).length := ⟨_, rfl⟩
 have hm8 := hpg.len
 rw [← hm] at hRun hstR hnS hm8
 generalize stR g p cell (progOf g p cell i) (m + 1) = sr at *
 generalize lastS g p cell (progOf g p cell i) = last at *
 obtain ⟨R, hR⟩ : ∃ R, R = runsP g p cell i := ⟨_, rfl⟩
 rw [← hR] at hal' ⊢
 (repeat (first|with_reducible refine wV fun _=>?_|simp [go_sem]))
 refine ACallP.plain hRun (by simp [go_sem]) ?_
 (repeat (first|with_reducible refine wV fun _=>?_|simp [go_sem, hstR, hnS]))
 refine ALoop.start (ALoop.ind (α := Nat) (fun k => ⟨[(5, .ref 1 0 5 0 0), (11, encOs (outsF p.side last k)), (12, encSs last), (13, .v (.int .i64 k))], [(1, .rows true 0 5 [encPos p])], 2⟩)
  (fun d k => k + d = last.length) ?_ last.length 0 ?_) ?_ ?_
 ·rintro d k k1 hrec
  (repeat (first|with_reducible refine wV fun _=>?_|simp [go_sem]))
  refine aIf.mkL (fun hk => ?_) (fun hk => ?_) <;> simp at hk
  ·have hsk := hst.1 _ (nth_mem hk)
   have hsu := outsF_succ p.side last hk
   have hol := outsF_len p.side last k (by omega)
   have hof := outsF_fits hg (fun s hs => (hst.1 s hs).1) (side := p.side) k (by omega)
   have hpf := fun o => putS_fits hg hsk.1 (side := p.side) (o := o)
   have hps' : putS p.side (nth last k) = if nth (nth last k).p.at_ (nth last k).cursor.toNat = 0 then some ⟨{ (nth last k).p with at_ := (nth last k).p.at_.set (nth last k).cursor.toNat (codeOf (nth last k).kind p.side), side := 1 - p.side }, (nth last k).took⟩ else none := rfl
   have hcp := copied_owns (nth last k).p (hsk.1.p.fits hg)
   have hal2 := hsk.1.p.al
   have hc0 := hsk.1.c0
   have hc1 := hsk.1.c1
   have hcc := R3Code_pure (nth last k).kind p.side
   have hcur : (nth last k).cursor.toNat < (nth last k).p.at_.length := by omega
   by_cases hz : nth (nth last k).p.at_ (nth last k).cursor.toNat = 0
   ·rw [if_pos hz] at hps'
    simp only [hps'] at hsu
    have hfo := hpf _ hps'
    have hIns := R5Insert_pure (outsF p.side last k) _ (by omega) hof hfo
    (repeat (first|with_reducible refine wV fun _=>?_|simp [go_sem, hk, hcur, hz]))
    refine ACallP.ownsPlain hcp (by simp [go_sem]) ?_
    (repeat (first|with_reducible refine wV fun _=>?_|simp [go_sem, hcur]))
    refine dCall.plain hcc (by simp [go_sem]) ?_
    (repeat (first|with_reducible refine wV fun _=>?_|simp [go_sem, hcur]))
    refine ACallP.pureF [5, 6, 11] hIns ?_ (by simp [go_sem]) ?_
    ·(first|done|exact agX)
    ·rw [← hsu]
     (repeat (first|with_reducible refine wV fun _=>?_|simp [go_sem]))
     refine ALoop.start (hrec (d - 1) (by omega) (k + 1) (by omega)) ?_ (by simp)
     simp [go_sem, Wk_eq, frzO, frz1, upd]
   ·rw [if_neg hz] at hps'
    simp only [hps'] at hsu
    (repeat (first|with_reducible refine wV fun _=>?_|simp [go_sem, hk, hcur, hz]))
    refine ALoop.start (hrec (d - 1) (by omega) (k + 1) (by omega)) ?_ (by simp)
    simp [go_sem, Wk_eq, hsu]
  ·have hkl : k = last.length := by omega
   subst hkl
   rw [hal']
   (repeat (first|with_reducible refine wV fun _=>?_|simp [go_sem]))
 ·omega
 ·simp [go_sem, Wk_eq]
  exact frX
 ·simp
end Go.Av
end
section
/- Contracts, runs: Drops of the reference. -/
open Go Go.Proofs
namespace Go.Av
def dropsK (g : GameD) (p : PosD) (k : Nat) : List PosD := (List.range k).flatMap fun k => (List.range p.at_.length).filterMap fun c => dropP g p k c
def dropsC (g : GameD) (p : PosD) (k c : Nat) : List PosD := dropsK g p k ++ (List.range c).filterMap fun c => dropP g p k c
theorem dropsC_all (g : GameD) (p : PosD) (k : Nat) : dropsC g p k p.at_.length = dropsK g p (k + 1) := by simp [dropsC, dropsK, List.range_succ, List.flatMap_append]
theorem dropsC_zero (g : GameD) (p : PosD) (k : Nat) : dropsC g p k 0 = dropsK g p k := by simp [dropsC]
theorem dropsC_succ (g : GameD) (p : PosD) (k c : Nat) : dropsC g p k (c + 1) = dropsC g p k c ++ (dropP g p k c).toList := by
 simp only [dropsC, List.range_succ, List.filterMap_append, List.append_assoc]
 cases h : dropP g p k c <;> simp [h]
theorem dropsK_all (g : GameD) (p : PosD) : dropsK g p g.kinds.length = dropsL g p := rfl
theorem flatMap_range_len {α : Type} (f : Nat → List α) (m : Nat) (hf : ∀ k, (f k).length ≤ m) : ∀ n, ((List.range n).flatMap f).length ≤ n * m
 | 0 => by simp
 | n + 1 => by
  have := flatMap_range_len f m hf n
  have := hf n
  simp only [List.range_succ, List.flatMap_append, List.length_append, List.flatMap_cons, List.flatMap_nil, List.append_nil, Nat.add_mul, Nat.one_mul]
  omega
theorem dropsK_len (g : GameD) (p : PosD) (k : Nat) : (dropsK g p k).length ≤ k * p.at_.length :=
 flatMap_range_len _ _ (fun k => Nat.le_trans (List.length_filterMap_le _ _) (by simp)) k
theorem dropsC_len (g : GameD) (p : PosD) (k c : Nat) : (dropsC g p k c).length ≤ k * p.at_.length + c := by
 have h1 := dropsK_len g p k
 have h2 : ((List.range c).filterMap fun c => dropP g p k c).length ≤ c := Nat.le_trans (List.length_filterMap_le _ _) (by simp)
 simp only [dropsC, List.length_append]
 omega
theorem dropP_ok {g : GameD} (hg : GOk g) {p : PosD} (hp : POk g p) {k c : Nat} (hk : k < g.kinds.length) {q : PosD} (h : dropP g p k c = some q) : POk g q ∧ q.side = 1 - p.side := by
 unfold dropP at h
 split at h
 ·cases h
 ·rename_i hc
  simp only [Option.some.injEq] at h
  subst h
  have k6 := hg.k6
  have hcode : codeOf k p.side = 1 + 2 * k + p.side := codeOf_ok (K := g.kinds.length) ⟨by omega, by omega⟩ k6 hp.s
  have hs := hp.s
  have hh := hp.hand p.side
  have hl := hh.len
  have hv := hh.v k (by omega)
  refine ⟨POk.side (POk.withHand (hp.setAt c (by rw [hcode]; omega)) _ (hh.set k ?_ ?_)) (by omega), rfl⟩
  ·simp only [not_or] at hc; omega
  ·intro _; exact hv.2.2 (by simp only [not_or] at hc; omega)
theorem R5Drops_pure (g : GameD) (hg : GOk g) (p : PosD) (hp : POk g p) : Pure Tryz.prog 195 [.agg (encGame g), .agg (encPos p)] (encPs (dropsP g p)) := by
 refine pF Tryz.func195 ?_
 have hal := hp.al
 have c9 := hg.c9
 have k6 := hg.k6
 have hcp := copied_owns p (hp.fits hg)
 obtain ⟨gk, hgk⟩ : ∃ gk, gk = g.kinds.length := ⟨_, rfl⟩
 have hl0 := hp.h0.len
 have hl1 := hp.h1.len
 (repeat (first|with_reducible refine wV fun _=>?_|simp [go_sem]))
 refine ALoop.start (ALoop.ind (α := Nat) (fun k => ⟨[(2, .ref 0 0 9 0 0), (3, .ref 1 0 5 0 0), (5, .sl 2 (dropsK g p k).length 5 0 (dropsK g p k).length), (6, .v (.int .i64 k))], [(0, .rows true 0 9 [encGame g]), (1, .rows true 0 5 [encPos p]), (2, .rows true (dropsK g p k).length 5 ((dropsK g p k).map encPos))], 3⟩)
  (fun d k => k + d = g.kinds.length) ?_ g.kinds.length 0 ?_) ?_ ?_
 ·rintro d k k1 hrec
  (repeat (first|with_reducible refine wV fun _=>?_|simp [go_sem]))
  refine aIf.mkL (fun hk => ?_) (fun hk => ?_) <;> simp at hk
  ·have hz := dropsC_zero g p k
   have ha := dropsC_all g p k
   (repeat (first|with_reducible refine wV fun _=>?_|simp [go_sem]))
   refine ALoop.start (ALoop.ind (α := Nat) (fun c => ⟨[(2, .ref 0 0 9 0 0), (3, .ref 1 0 5 0 0), (5, .sl 2 (dropsC g p k c).length 5 0 (dropsC g p k c).length), (6, .v (.int .i64 k)), (7, .v (.int .i64 c))], [(0, .rows true 0 9 [encGame g]), (1, .rows true 0 5 [encPos p]), (2, .rows true (dropsC g p k c).length 5 ((dropsC g p k c).map encPos))], 3⟩)
    (fun d c => c + d = p.at_.length) ?_ p.at_.length 0 ?_) ?_ ?_
   ·rintro d2 c c1 hrec2
    (repeat (first|with_reducible refine wV fun _=>?_|simp [go_sem]))
    refine aIf.mkL (fun hci => ?_) (fun hci => ?_) <;> simp at hci
    ·have hD : dropP g p k c = if nth (p.hand p.side) k = 0 ∨ nth p.at_ c ≠ 0 then none
      else some { ({ p with at_ := p.at_.set c (codeOf k p.side) }.withHand p.side ((p.hand p.side).set k (nth (p.hand p.side) k - 1))) with side := 1 - p.side } := rfl
     rcases hp.s with hsd | hsd
     ·have hsn : p.side.toNat = 0 := by omega
      have hkh : k < p.h0.length := by omega
      have hhv := hp.h0.v k hkh
      have hD' : dropP g p k c = if nth p.h0 k = 0 ∨ nth p.at_ c ≠ 0 then none else some { p with at_ := p.at_.set c (codeOf k p.side), h0 := p.h0.set k (nth p.h0 k - 1), side := 1 - p.side } := by
       rw [hD]; simp [PosD.hand, PosD.withHand, hsd]
      (repeat (first|with_reducible refine wV fun _=>?_|simp [go_sem, hsn, hkh, hci]))
      refine aIf.mkL (fun hcc => ?_) (fun hcc => ?_) <;> simp at hcc
      ·rw [if_pos (by omega)] at hD'
       have hsu := dropsC_succ g p k c
       rw [hD'] at hsu
       simp only [Option.toList_none, List.append_nil] at hsu
       (repeat (first|with_reducible refine wV fun _=>?_|simp [go_sem]))
       refine ALoop.start (hrec2 (d2 - 1) (by omega) (c + 1) (by omega)) ?_ (by simp)
       simp [go_sem, Wk_eq, hsu]
      ·rw [if_neg (by omega)] at hD'
       have hsu := dropsC_succ g p k c
       rw [hD'] at hsu
       simp only [Option.toList_some] at hsu
       have hcl := dropsC_len g p k c
       have hkm : k * p.at_.length ≤ 6 * 9 := Nat.mul_le_mul (by omega) (by omega)
       (repeat (first|with_reducible refine wV fun _=>?_|simp [go_sem, hci]))
       refine ACallP.ownsPlain hcp (by simp [go_sem]) ?_
       (repeat (first|with_reducible refine wV fun _=>?_|simp [go_sem, hci]))
       refine dCall.plain (R3Code_pure (k : Int) p.side) (by simp [go_sem]) ?_
       (repeat (first|with_reducible refine wV fun _=>?_|simp [go_sem, hsn, hci, hkh]))
       refine ALoop.start (hrec2 (d2 - 1) (by omega) (c + 1) (by omega)) ?_ (by simp)
       simp [go_sem, Wk_eq, hsu]
       (first|done|exact rwX)
     ·have hsn : p.side.toNat = 1 := by omega
      have hkh : k < p.h1.length := by omega
      have hhv := hp.h1.v k hkh
      have hD' : dropP g p k c = if nth p.h1 k = 0 ∨ nth p.at_ c ≠ 0 then none else some { p with at_ := p.at_.set c (codeOf k p.side), h1 := p.h1.set k (nth p.h1 k - 1), side := 1 - p.side } := by
       rw [hD]; simp [PosD.hand, PosD.withHand, hsd]
      (repeat (first|with_reducible refine wV fun _=>?_|simp [go_sem, hsn, hkh, hci]))
      refine aIf.mkL (fun hcc => ?_) (fun hcc => ?_) <;> simp at hcc
      ·rw [if_pos (by omega)] at hD'
       have hsu := dropsC_succ g p k c
       rw [hD'] at hsu
       simp only [Option.toList_none, List.append_nil] at hsu
       (repeat (first|with_reducible refine wV fun _=>?_|simp [go_sem]))
       refine ALoop.start (hrec2 (d2 - 1) (by omega) (c + 1) (by omega)) ?_ (by simp)
       simp [go_sem, Wk_eq, hsu]
      ·rw [if_neg (by omega)] at hD'
       have hsu := dropsC_succ g p k c
       rw [hD'] at hsu
       simp only [Option.toList_some] at hsu
       have hcl := dropsC_len g p k c
       have hkm : k * p.at_.length ≤ 6 * 9 := Nat.mul_le_mul (by omega) (by omega)
       (repeat (first|with_reducible refine wV fun _=>?_|simp [go_sem, hci]))
       refine ACallP.ownsPlain hcp (by simp [go_sem]) ?_
       (repeat (first|with_reducible refine wV fun _=>?_|simp [go_sem, hci]))
       refine dCall.plain (R3Code_pure (k : Int) p.side) (by simp [go_sem]) ?_
       (repeat (first|with_reducible refine wV fun _=>?_|simp [go_sem, hsn, hci, hkh]))
       refine ALoop.start (hrec2 (d2 - 1) (by omega) (c + 1) (by omega)) ?_ (by simp)
       simp [go_sem, Wk_eq, hsu]
       (first|done|exact rwX)
    ·have hcl : c = p.at_.length := by omega
     subst hcl
     rw [ha]
     (repeat (first|with_reducible refine wV fun _=>?_|simp [go_sem]))
     refine ALoop.start (hrec (d - 1) (by omega) (k + 1) (by omega)) ?_ (by simp)
     simp [go_sem, Wk_eq]
   ·omega
   ·simp [go_sem, Wk_eq, hz]
   ·simp
  ·have hkl : k = g.kinds.length := by omega
   subst hkl
   have hdl := dropsK_len g p g.kinds.length
   have hkm : g.kinds.length * p.at_.length ≤ 6 * 9 := Nat.mul_le_mul k6 (by omega)
   have hS := R4Sort_pure (dropsK g p g.kinds.length) (by omega) (fun q hq => by
    rw [dropsK_all] at hq
    obtain ⟨k, hk, hq⟩ := List.mem_flatMap.1 hq
    obtain ⟨c, hc, hq⟩ := List.mem_filterMap.1 hq
    exact (dropP_ok hg hp (by simpa using hk) hq).1.fits hg)
   rw [show sortU cmpP (dropsK g p g.kinds.length) = dropsP g p from rfl] at hS
   generalize dropsK g p g.kinds.length = l at *
   generalize dropsP g p = r at *
   (repeat (first|with_reducible refine wV fun _=>?_|simp [go_sem]))
   refine ACallP.pureF [2] hS ?_ (bel1 (bel_encPs _)) ?_
   ·(first|done|exact agX)
   ·(repeat (first|with_reducible refine wV fun _=>?_|simp [go_sem]))
 ·omega
 ·simp [go_sem, Wk_eq, show dropsK g p 0 = [] from rfl]
 ·simp
end Go.Av
end
section
/- Plain: outcomes and moves are valid. -/
open Go Go.Proofs
namespace Go.Av
theorem kind_lt {g : GameD} (hg : GOk g) {p : PosD} (hp : POk g p) {cell : Int} (h0 : 0 ≤ cell) (h1 : cell < g.cells) (hm : 0 ≤ (manOf (nth p.at_ cell.toNat)).1) :
  (manOf (nth p.at_ cell.toNat)).1.toNat < g.kinds.length := by
 have hat := hp.at (i := cell.toNat) (by omega)
 rcases manOf_cases hat.1 hat.2 hg.k6 with ⟨_, e⟩ | ⟨_, a, b, _⟩
 ·rw [e] at hm; simp at hm
 ·omega
theorem prog_ok {g : GameD} (hg : GOk g) {p : PosD} (hp : POk g p) {cell i : Int} (hc : ChoiceOk g p cell i) : ProgOk g.next.length g.kinds.length g.rights (progOf g p cell i) :=
 hg.pr _ (nth_mem (kind_lt hg hp hc.c0 hc.c1 hc.man)) _ (nth_mem (by have := hc.i0; have := hc.i1; omega))
theorem lastS_ok {g : GameD} (hg : GOk g) {p : PosD} (hp : POk g p) {cell i : Int} (hc : ChoiceOk g p cell i) :
  (∀ s ∈ lastS g p cell (progOf g p cell i), StOk g s ∧ s.p.side = p.side) ∧ (lastS g p cell (progOf g p cell i)).length ≤ 100000000 := by
 have hpg := prog_ok hg hp hc
 have h := stageS_ok hg hp hc.c0 hc.c1 hc.man hpg.st _ (Nat.le_refl _)
 rw [stageS_last] at h
 exact ⟨h.1, Nat.le_trans h.2 (pow10_le hpg.len)⟩
theorem putS_ok {g : GameD} (hg : GOk g) {s : StD} (hs : StOk g s) {side : Int} (hsd : side = 0 ∨ side = 1) {o : OutD} (h : putS side s = some o) : POk g o.pos ∧ o.pos.side = 1 - side := by
 unfold putS at h
 split at h
 ·simp only [Option.some.injEq] at h
  subst h
  have hc : codeOf s.kind side = 1 + 2 * s.kind + side := codeOf_ok (K := g.kinds.length) hs.k hg.k6 hsd
  have hk := hs.k
  exact ⟨POk.side (hs.p.setAt _ (by rw [hc]; omega)) (by omega), rfl⟩
 ·cases h
theorem runsP_ok {g : GameD} (hg : GOk g) {p : PosD} (hp : POk g p) {cell i : Int} (hc : ChoiceOk g p cell i) : ∀ o ∈ runsP g p cell i, POk g o.pos ∧ o.pos.side = 1 - p.side := by
 intro o ho
 unfold runsP at ho
 rw [sortU_mem] at ho
 obtain ⟨s, hs, h⟩ := List.mem_filterMap.1 ho
 exact putS_ok hg ((lastS_ok hg hp hc).1 s hs).1 hp.s h
theorem runsP_len {g : GameD} (hg : GOk g) {p : PosD} (hp : POk g p) {cell i : Int} (hc : ChoiceOk g p cell i) : (runsP g p cell i).length ≤ 100000000 := by
 unfold runsP
 have h1 := sortU_le cmpO ((lastS g p cell (progOf g p cell i)).filterMap (putS p.side))
 have h2 : ((lastS g p cell (progOf g p cell i)).filterMap (putS p.side)).length ≤ (lastS g p cell (progOf g p cell i)).length := List.length_filterMap_le _ _
 have h3 := (lastS_ok hg hp hc).2
 omega
theorem choice_of {g : GameD} {p : PosD} {c i : Nat} (hp : POk g p) (hc : c < p.at_.length) (hm : 0 ≤ (manOf (nth p.at_ c)).1 ∧ (manOf (nth p.at_ c)).2 = p.side)
  (hi : i < (nth g.kinds (manOf (nth p.at_ c)).1.toNat).progs.length) : ChoiceOk g p c i := by
 have := hp.al
 exact ⟨by omega, by omega, hm.1, hm.2, by omega, by simp only [Int.toNat_natCast]; omega⟩
theorem mem_outsP {g : GameD} {p : PosD} (hp : POk g p) {o : OutD} : o ∈ outsP g p ↔ ∃ c i : Nat, ChoiceOk g p c i ∧ o ∈ runsP g p c i := by
 have hal := hp.al
 unfold outsP
 rw [List.mem_flatMap]
 constructor
 ·rintro ⟨c, hc, ho⟩
  rw [List.mem_range] at hc
  unfold outsAt at ho
  split at ho
  ·rename_i hm
   obtain ⟨i, hi, ho⟩ := List.mem_flatMap.1 ho
   rw [List.mem_range] at hi
   exact ⟨c, i, choice_of hp hc hm hi, ho⟩
  ·simp at ho
 ·rintro ⟨c, i, hc, ho⟩
  refine ⟨c, ?_, ?_⟩
  ·have := hc.c1; rw [List.mem_range]; omega
  ·have h1 := hc.man
   have h2 := hc.side
   have h3 := hc.i1
   simp only [Int.toNat_natCast] at h1 h2 h3
   unfold outsAt
   rw [if_pos ⟨h1, h2⟩]
   exact List.mem_flatMap.2 ⟨i, by rw [List.mem_range]; omega, ho⟩
theorem outsP_ok {g : GameD} (hg : GOk g) {p : PosD} (hp : POk g p) : ∀ o ∈ outsP g p, POk g o.pos ∧ o.pos.side = 1 - p.side := by
 intro o ho
 obtain ⟨c, i, hc, ho⟩ := (mem_outsP hp).1 ho
 exact runsP_ok hg hp hc o ho
theorem flatMap_range_le {α : Type} (f : Nat → List α) (m : Nat) : ∀ n, (∀ k, k < n → (f k).length ≤ m) → ((List.range n).flatMap f).length ≤ n * m
 | 0, _ => by simp
 | n + 1, hf => by
  have := flatMap_range_le f m n (fun k hk => hf k (by omega))
  have := hf n (by omega)
  simp only [List.range_succ, List.flatMap_append, List.length_append, List.flatMap_cons, List.flatMap_nil, List.append_nil, Nat.add_mul, Nat.one_mul]
  omega
theorem outsAt_len {g : GameD} (hg : GOk g) {p : PosD} (hp : POk g p) {c : Nat} (hc : c < p.at_.length) : (outsAt g p c).length ≤ 800000000 := by
 unfold outsAt
 split
 ·rename_i hm
  have hal := hp.al
  have hk := kind_lt hg hp (cell := c) (by omega) (by omega) (by simpa using hm.1)
  simp only [Int.toNat_natCast] at hk
  have h8 := hg.pn _ (nth_mem hk)
  have h1 := flatMap_range_le (fun (i : Nat) => runsP g p c i) 100000000 (nth g.kinds (manOf (nth p.at_ c)).1.toNat).progs.length (fun i hi => runsP_len hg hp (choice_of hp hc hm hi))
  have h2 : (nth g.kinds (manOf (nth p.at_ c)).1.toNat).progs.length * 100000000 ≤ 8 * 100000000 := Nat.mul_le_mul_right _ h8
  omega
 ·simp
theorem outsK_len {g : GameD} (hg : GOk g) {p : PosD} (hp : POk g p) {k : Nat} (hk : k ≤ p.at_.length) : ((List.range k).flatMap (outsAt g p)).length ≤ 7200000000 := by
 have hal := hp.al
 have c9 := hg.c9
 have h1 := flatMap_range_le (outsAt g p) 800000000 k (fun c hc => outsAt_len hg hp (by omega))
 have h2 : k * 800000000 ≤ 9 * 800000000 := Nat.mul_le_mul_right _ (by omega)
 omega
theorem outsP_len {g : GameD} (hg : GOk g) {p : PosD} (hp : POk g p) : (outsP g p).length ≤ 7200000000 := outsK_len hg hp (Nat.le_refl _)
theorem dropsP_ok {g : GameD} (hg : GOk g) {p : PosD} (hp : POk g p) : ∀ q ∈ dropsP g p, POk g q ∧ q.side = 1 - p.side := by
 intro q hq
 unfold dropsP at hq
 rw [sortU_mem] at hq
 obtain ⟨k, hk, hq⟩ := List.mem_flatMap.1 hq
 obtain ⟨c, hc, hq⟩ := List.mem_filterMap.1 hq
 exact dropP_ok hg hp (by simpa using hk) hq
theorem dropsP_len {g : GameD} (hg : GOk g) {p : PosD} (hp : POk g p) : (dropsP g p).length ≤ 54 := by
 have h1 := sortU_le cmpP (dropsL g p)
 have h2 := dropsK_len g p g.kinds.length
 rw [dropsK_all] at h2
 have hal := hp.al
 have c9 := hg.c9
 have h3 : g.kinds.length * p.at_.length ≤ 6 * 9 := Nat.mul_le_mul hg.k6 (by omega)
 unfold dropsP
 omega
theorem movesL_ok {g : GameD} (hg : GOk g) {p : PosD} (hp : POk g p) : ∀ q ∈ movesL g p, POk g q ∧ q.side = 1 - p.side := by
 intro q hq
 unfold movesL at hq
 rcases List.mem_append.1 hq with hq | hq
 ·obtain ⟨o, ho, rfl⟩ := List.mem_map.1 hq
  exact outsP_ok hg hp o (List.mem_filter.1 ho).1
 ·split at hq
  ·simp at hq
  ·exact dropsP_ok hg hp q hq
theorem movesL_len {g : GameD} (hg : GOk g) {p : PosD} (hp : POk g p) : (movesL g p).length ≤ 7200000054 := by
 have h1 := outsP_len hg hp
 have h2 := dropsP_len hg hp
 have h3 : ((outsP g p).filter fun o => !mustP g p || o.took).length ≤ (outsP g p).length := List.length_filter_le _ _
 unfold movesL
 rw [List.length_append, List.length_map]
 split <;> simp <;> omega
theorem movesP_ok {g : GameD} (hg : GOk g) {p : PosD} (hp : POk g p) : ∀ q ∈ movesP g p, POk g q ∧ q.side = 1 - p.side := by
 intro q hq
 unfold movesP at hq
 split at hq
 ·simp at hq
 ·exact movesL_ok hg hp q (sortU_mem.1 hq)
theorem movesP_len {g : GameD} (hg : GOk g) {p : PosD} (hp : POk g p) : (movesP g p).length ≤ 7200000054 := by
 unfold movesP
 split
 ·simp
 ·exact Nat.le_trans (sortU_le _ _) (movesL_len hg hp)
theorem walkP_ok {g : GameD} (hg : GOk g) : ∀ (l : List Int) {p : PosD}, POk g p → ∀ q ∈ walkP g p l, POk g q
 | [], p, hp, q, hq => by simp [walkP] at hq; subst hq; exact hp
 | k :: l, p, hp, q, hq => by
  rw [walkP] at hq
  split at hq
  ·simp at hq; subst hq; exact hp
  ·rename_i hne
   rcases List.mem_cons.1 hq with rfl | hq
   ·exact hp
   ·refine walkP_ok hg l ((movesP_ok hg hp) _ (nth_mem ?_)).1 q hq
    have hpos : 0 < (movesP g p).length := List.length_pos_iff.2 hne
    have h1 : 0 ≤ k.emod (movesP g p).length := Int.emod_nonneg k (show ((movesP g p).length : Int) ≠ 0 by omega)
    have h2 : k.emod (movesP g p).length < (movesP g p).length := Int.emod_lt_of_pos k (show (0 : Int) < (movesP g p).length by omega)
    omega
theorem walkP_ne (g : GameD) (p : PosD) (l : List Int) : walkP g p l ≠ [] := by
 cases l with
 | nil => simp [walkP]
 | cons k l => rw [walkP]; split <;> simp
theorem walkP_len (g : GameD) : ∀ (l : List Int) (p : PosD), (walkP g p l).length ≤ l.length + 1
 | [], p => by simp [walkP]
 | k :: l, p => by
  rw [walkP]
  split
  ·simp
  ·have := walkP_len g l (nth (movesP g p) (k.emod (movesP g p).length).toNat)
   simp; omega
end Go.Av
end
section
/- Plain: an outcome of a man changes cells of its region only. -/
open Go Go.Proofs
namespace Go.Av
theorem withHand_atW (p : PosD) (side : Int) (l : List Int) : (p.withHand side l).at_ = p.at_ := by
 unfold PosD.withHand
 split <;> rfl
theorem doA_cells {g : GameD} {side : Int} {t : TkD} {x : ActD} {z : Nat} (hz : ∀ c ∈ cellsA x, c.toNat ≠ z) : nth (doA g side t x).1.p.at_ z = nth t.p.at_ z ∧ (doA g side t x).1.p.at_.length = t.p.at_.length := by
 unfold doA
 by_cases h6 : x.1 = 6
 ·have h1 : x.2.1.toNat ≠ z := hz _ (by simp [cellsA, h6])
  rw [if_neg (by omega), if_neg (by omega), if_neg (by omega), if_pos h6]
  unfold takeA
  simp only
  split
  ·exact ⟨rfl, rfl⟩
  ·split
   ·simp only [withHand_atW, clr]
    rw [nth_setE, if_neg (fun h => h1 h.1)]
    exact ⟨rfl, by simp⟩
   ·simp only [clr]
    rw [nth_setE, if_neg (fun h => h1 h.1)]
    exact ⟨rfl, by simp⟩
 ·by_cases h7 : x.1 = 7
  ·have h1 : x.2.1.toNat ≠ z := hz _ (by simp [cellsA, h7])
   have h2 : x.2.2.toNat ≠ z := hz _ (by simp [cellsA, h7])
   rw [if_neg (by omega), if_neg (by omega), if_neg (by omega), if_neg h6, if_pos h7]
   unfold pushA
   split
   ·exact ⟨rfl, rfl⟩
   ·simp only
    rw [nth_setE, if_neg (fun h => h1 h.1), nth_setE, if_neg (fun h => h2 h.1)]
    exact ⟨rfl, by simp⟩
  ·repeat' split
   all_goals first | exact ⟨rfl, rfl⟩ | exact absurd ‹x.1 = 6› h6 | exact absurd ‹x.1 = 7› h7
theorem doAs_cells {g : GameD} {side : Int} {z : Nat} : ∀ {l : List ActD} {t u : TkD}, doAs g side t l = some u → (∀ c ∈ l.flatMap cellsA, c.toNat ≠ z) → nth u.p.at_ z = nth t.p.at_ z ∧ u.p.at_.length = t.p.at_.length
 | [], t, u, h, _ => by
  simp only [doAs, Option.some.injEq] at h
  subst h
  exact ⟨rfl, rfl⟩
 | x :: l, t, u, h, hz => by
  rw [doAs] at h
  split at h
  ·have h1 := doAs_cells (z := z) h fun c hc => hz c (by rw [List.flatMap_cons]; exact List.mem_append.2 (.inr hc))
   have h2 := doA_cells (g := g) (side := side) (t := t) (x := x) (z := z) fun c hc => hz c (by rw [List.flatMap_cons]; exact List.mem_append.2 (.inl hc))
   exact ⟨h1.1.trans h2.1, h1.2.trans h2.2⟩
  ·cases h
theorem outW_cells {g : GameD} {side : Int} {p : PosD} {cell : Int} {w : PathD} {o : OutD} {z : Nat} (h : outW g side (startT p cell) w = some o) (hz : ∀ c ∈ joinedP cell w, c.toNat ≠ z) : nth o.pos.at_ z = nth p.at_ z := by
 unfold outW stW at h
 cases hd : doAs g side (startT p cell) w.acts with
 | none => rw [hd] at h; simp at h
 | some u =>
  rw [hd] at h
  simp only [Option.map_some, Option.bind_some] at h
  have h1 := doAs_cells (z := z) hd fun c hc => hz c (by unfold joinedP; exact List.mem_append.2 (.inr hc))
  have h2 : cell.toNat ≠ z := hz _ (by simp [joinedP])
  have h3 : w.to.toNat ≠ z := hz _ (by simp [joinedP])
  unfold putS at h
  split at h
  ·simp only [Option.some.injEq] at h
   subst h
   simp only [stT]
   rw [nth_setE, if_neg (fun h => h3 h.1), h1.1]
   simp only [startT, clr]
   rw [nth_setE, if_neg (fun h => h2 h.1)]
  ·cases h
theorem cellsJ_mem : ∀ (k : List (List PathD)) (c j : Nat) (w : PathD), j < k.length → w ∈ nth k j → joinedP ((c + j : Nat) : Int) w ∈ cellsJ c k
 | [], c, j, w, h, _ => by simp at h
 | ps :: k, c, 0, w, h, hw => by
  rw [cellsJ]
  exact List.mem_append.2 (.inl (List.mem_map.2 ⟨w, hw, rfl⟩))
 | ps :: k, c, j + 1, w, h, hw => by
  rw [cellsJ]
  refine List.mem_append.2 (.inr ?_)
  have := cellsJ_mem k (c + 1) j w (by simpa using h) hw
  rwa [show c + 1 + j = c + (j + 1) by omega] at this
theorem joinedP_all {g : GameD} (hg : GOk g) {side : Int} (hs : side = 0 ∨ side = 1) {k : Nat} (hk : k < g.kinds.length) {c : Nat} (hc : (c : Int) < g.cells) {w : PathD} (hw : w ∈ kindP g.board side (nth g.kinds k).progs c) : joinedP c w ∈ allJ (codeP g) := by
 have h1 : joinedP c w ∈ kindsJ (sideP g side) := by
  unfold kindsJ
  refine List.mem_flatMap.2 ⟨cellsP g.board side (nth g.kinds k).progs, List.mem_map.2 ⟨_, nth_mem hk, rfl⟩, ?_⟩
  have e : g.board.cells = g.cells := rfl
  have hlr : c < (List.range g.board.cells.toNat).length := by rw [List.length_range]; omega
  have := cellsJ_mem (cellsP g.board side (nth g.kinds k).progs) 0 c w (by unfold cellsP; rw [List.length_map]; exact hlr) (by
   unfold cellsP
   rw [nth_map _ _ _ hlr, nth_eq _ _ hlr, List.getElem_range]
   exact hw)
  rwa [Nat.zero_add] at this
 unfold allJ codeP
 rcases hs with rfl | rfl
 ·exact List.mem_append.2 (.inl h1)
 ·exact List.mem_append.2 (.inr h1)
theorem runsP_region {g : GameD} (hg : GOk g) (h1 : SideR g.cells.toNat (codeP g).1) (h2 : SideR g.cells.toNat (codeP g).2) {p : PosD} (hp : POk g p) {c i : Nat} (hc : ChoiceOk g p c i) : ∀ o ∈ runsP g p c i, o.pos.at_.length = p.at_.length ∧
  ∀ z, z < p.at_.length → nth o.pos.at_ z ≠ nth p.at_ z → nth (namesL (linksC (codeP g)) g.cells.toNat) z = nth (namesL (linksC (codeP g)) g.cells.toNat) c := by
 intro o ho
 have hal := hp.al
 have c1 := hc.c1
 have hman := hc.man
 have hside := hc.side
 have hi1 := hc.i1
 simp only [Int.toNat_natCast] at hman hside hi1
 have hok := runsP_ok hg hp hc o ho
 refine ⟨by have := hok.1.al; omega, fun z hz hne => ?_⟩
 have hpo : o ∈ progsO g p c := by
  unfold progsO
  simp only [Int.toNat_natCast]
  rw [if_neg (by omega), sortU_mem, hside]
  exact List.mem_flatMap.2 ⟨i, List.mem_range.2 (by omega), ho⟩
 rw [← run_progs hg hp (by omega) c1] at hpo
 unfold runO at hpo
 simp only [Int.toNat_natCast] at hpo
 split at hpo
 ·simp at hpo
 rw [sortU_mem] at hpo
 obtain ⟨w, hw, hwo⟩ := List.mem_filterMap.1 hpo
 unfold pathsAt at hw
 simp only [Int.toNat_natCast] at hw hwo
 rw [hside] at hw
 have hk := kind_lt hg hp hc.c0 hc.c1 hc.man
 simp only [Int.toNat_natCast] at hk
 have hj := joinedP_all hg hp.s hk (by omega) hw
 have hex : ∃ y ∈ joinedP (c : Int) w, y.toNat = z := by
  refine Classical.byContradiction fun hno => hne ?_
  exact outW_cells hwo fun y hy e => hno ⟨y, hy, e⟩
 obtain ⟨y, hy, rfl⟩ := hex
 have := names_same (n := g.cells.toNat) (by have := hg.c9; omega) h1 h2 _ hj y hy (c : Int) (by simp [joinedP])
 simpa using this
end Go.Av
end
section
/- Contracts, games: Made of the reference. -/
open Go Go.Proofs
namespace Go.Av
theorem R3Made_pure (x : RawG) (hx : RawOk x) (hl : x.c.length ≤ 1099511627776) (hl0 : x.k0.length ≤ 1099511627776) (hl1 : x.k1.length ≤ 1099511627776) : Pure Tryz.prog 19 [.agg (encRaw x)] (.agg (encGame (madeG x))) := by
 refine pF Tryz.func19 ?_
 obtain ⟨eg, heg⟩ : ∃ eg, eg = encGame (madeG x) := ⟨_, rfl⟩
 rw [← heg]
 have hB := R1Made_pure x.w x.h x.cut hx.w hx.h hx.cut
 have hok := boardOk_made hx.w.1 hx.h.1 x.cut
 have hb : madeB x.w x.h x.cut = x.board := rfl
 rw [hb] at hB hok
 have r0 := Int.tmod_nonneg 3 hx.f0.1
 have r1 := Int.tmod_lt_of_pos x.f0 (show (0 : Int) < 3 by decide)
 have f0 : 0 ≤ x.f0 ∧ x.f0 ≤ 255 := hx.f0
 have f1 : 0 ≤ x.f1 ∧ x.f1 ≤ 255 := hx.f1
 have f2 : 0 ≤ x.f2 ∧ x.f2 ≤ 255 := hx.f2
 have f3 : 0 ≤ x.f3 ∧ x.f3 ≤ 255 := hx.f3
 have f4 : 0 ≤ x.f4 ∧ x.f4 ≤ 255 := hx.f4
 have m1 := Int.tmod_nonneg 4 hx.f1.1
 have m3 := Int.tmod_nonneg 4 hx.f3.1
 have m4 := Int.tmod_nonneg 4 hx.f4.1
 have qq : ∀ n : Int, U8 n → (0 ≤ n.tdiv 4 ∧ n.tdiv 4 ≤ 63) ∧ 0 ≤ (n.tdiv 4).tmod 3 ∧ (n.tdiv 4).tmod 3 < 3 := fun n hn => by
  have h : n.tdiv 4 = n / 4 := Int.tdiv_eq_ediv_of_nonneg hn.1
  have h1 := hn.1
  have h2 := hn.2
  have h3 := Int.tmod_nonneg 3 (show 0 ≤ n.tdiv 4 by omega)
  have h4 := Int.tmod_lt_of_pos (n.tdiv 4) (show (0 : Int) < 3 by decide)
  omega
 obtain ⟨q3, q3'⟩ := qq _ hx.f3
 obtain ⟨q4, q4'⟩ := qq _ hx.f4
 obtain ⟨bl, hbl⟩ : ∃ bl, bl = if x.f3.tmod 4 = 3 then 1 + (x.f3.tdiv 4).tmod 3 else 3 := ⟨_, rfl⟩
 obtain ⟨en, hen⟩ : ∃ en, en = if x.f4.tmod 4 = 3 then 1 + (x.f4.tdiv 4).tmod 3 else 2 := ⟨_, rfl⟩
 obtain ⟨R, hR⟩ : ∃ R, R = x.rights := ⟨_, rfl⟩
 have hR' : x.f0.tmod 3 = R := by rw [hR]; rfl
 obtain ⟨b, hbb⟩ : ∃ b, b = x.board := ⟨_, rfl⟩
 rw [← hbb] at hB hok
 (repeat (first|with_reducible refine wV fun _=>?_|simp [go_sem]))
 refine dCall.plain hB (by simp [go_sem]) ?_
 (repeat (first|with_reducible refine wV fun _=>?_|simp [go_sem, hR']))
 have hd8 : b.next.length = 8 := by rw [hbb]; exact madeB_dirs _ _ _
 have hcell : 1 ≤ b.cells ∧ b.cells ≤ 9 := by rw [hbb]; exact madeB_cells hx.w.1 hx.h.1 _
 obtain ⟨K, hK⟩ : ∃ K : Nat, K = kindsN x := ⟨_, rfl⟩
 have hKn : kindsN x = if x.k1.length = 0 then 1 else 2 := by unfold kindsN; simp only [List.length_eq_zero_iff]
 have hKl : ∀ i, (x.ks i).length ≤ 1099511627776 := fun i => by unfold RawG.ks; split <;> assumption
 have hKv : ∀ i, ∀ n ∈ x.ks i, U8 n := fun i => by unfold RawG.ks; split; exact hx.k0; exact hx.k1
 refine aIf.mkL (fun hk1 => ?_) (fun hk1 => ?_) <;> simp at hk1
 ·have hK2 : kindsN x = 2 := by rw [hKn, if_neg (by omega)]
  rw [hK2] at hK
  (repeat (first|with_reducible refine wV fun _=>?_|simp [go_sem]))
  refine ALoop.start (ALoop.ind (α := Nat) (fun a => ⟨[(1, .ref 0 0 12 0 0), (2, .ref 1 0 9 0 0), (3, .ref 20 0 9 0 0), (4, .v (.int .i64 K)), (5, .v (.int .i64 a))],
   [(0, .rows true 0 12 [encRaw x]), (1, .rows true 0 9 [[.v (.int .i64 0), AV.nils, AV.nils, AV.nils, .v (.int .i64 0), .v (.bool false), AV.nils, .v (.int .i64 0), .v (.int .i64 0)]]), (20, .rows true 0 9 [[.v (.int .i64 b.cells), encIss b.next, encIs b.turn, .sl 22 a 3 0 a, .v (.int .i64 R), .v (.bool (decide (x.f1.tmod 4 = 3))), AV.nils, .v (.int .i64 3), .v (.int .i64 2)]]), (22, .rows true a 3 (ksR x a))], 23⟩)
   (fun d a => a + d = K) ?_ K 0 ?_) ?_ ?_
  ·rintro d0 i i1 hrec
   (repeat (first|with_reducible refine wV fun _=>?_|simp [go_sem]))
   refine aIf.mkL (fun hi => ?_) (fun hi => ?_) <;> simp at hi
   ·have hi2 : i = 0 ∨ i = 1 := by omega
    have hkl := hKl i
    have hkv := hKv i
    have hks : kindOf x i = ⟨if i = 0 then nameA else nameB, ((x.ks i).take 4).map (fun n => madeP n b.next.length K x.rights), bitU x.f2 i⟩ := by rw [hbb, hK, ← hK2]; rfl
    rcases hi2 with rfl | rfl
    ·obtain ⟨kk, hkk⟩ : ∃ kk, kk = x.ks 0 := ⟨_, rfl⟩
     have hk0 : x.k0 = kk := hkk.symm
     rw [← hkk] at hkl hkv hks
     have hbit : bitU x.f2 0 = decide (andN .u8 x.f2 1 = 1) := by simp [bitU]
     obtain ⟨f, hf⟩ : ∃ f, f = (fun n => madeP n b.next.length K x.rights) := ⟨_, rfl⟩
     have hfp : ∀ n, U8 n → Pure Tryz.prog 69 [.v (.int .u8 n), .v (.int .i64 b.next.length), .v (.int .i64 K), .v (.int .i64 R)] (encProg (f n)) := fun n hn => by
      rw [hf, ← hR]; exact R2Made_pure n _ _ _ hn (by omega) (by omega) (by omega)
     rw [← hf, hbit] at hks
     (repeat (first|with_reducible refine wV fun _=>?_|simp [go_sem, hk0]))
     refine ALoop.start (ALoop.ind (α := Nat) (fun n => ⟨[(1, .ref 0 0 12 0 0), (2, .ref 1 0 9 0 0), (3, .ref 20 0 9 0 0), (4, .v (.int .i64 K)), (5, .v (.int .i64 0)), (6, .ref 35 0 3 0 0), (7, .v (.int .i64 n))],
      [(0, .rows true 0 12 [encRaw x]), (1, .rows true 0 9 [[.v (.int .i64 0), AV.nils, AV.nils, AV.nils, .v (.int .i64 0), .v (.bool false), AV.nils, .v (.int .i64 0), .v (.int .i64 0)]]), (20, .rows true 0 9 [[.v (.int .i64 b.cells), encIss b.next, encIs b.turn, .sl 22 0 3 0 0, .v (.int .i64 R), .v (.bool (decide (x.f1.tmod 4 = 3))), AV.nils, .v (.int .i64 3), .v (.int .i64 2)]]), (22, .rows true 0 3 (ksR x 0)), (35, .rows true 0 3 [[.v (.string ⟨#[97]⟩), .sl 37 n 1 0 n, .v (.bool (decide (andN .u8 x.f2 1 = 1)))]]), (37, .rows true n 1 (psR f kk n))], 38⟩)
      (fun d n => n + d = min kk.length 4) ?_ (min kk.length 4) 0 ?_) ?_ ?_
     ·rintro d n n1 hrec1
      (repeat (first|with_reducible refine wV fun _=>?_|simp [go_sem, hk0]))
      refine aIf.mkL (fun hn => ?_) (fun hn => ?_) <;> simp at hn
      ·have hn1 : n < kk.length := by omega
       have hn2 := hkv _ (nth_mem hn1)
       have hpl := psR_len f kk (n := n) (by omega)
       (repeat (first|with_reducible refine wV fun _=>?_|simp [go_sem, hk0, hn1]))
       refine dCall.plain (hfp _ hn2) (by simp [go_sem]) ?_
       (repeat (first|with_reducible refine wV fun _=>?_|simp [go_sem, hk0, hn1, hpl]))
       refine ALoop.start (hrec1 (d - 1) (by omega) (n + 1) (by omega)) ?_ (by simp)
       simp [go_sem, Wk_eq, hk0, psR_succ f kk hn1]
      ·have hne : n = min kk.length 4 := by omega
       (repeat (first|with_reducible refine wV fun _=>?_|simp [go_sem]))
       refine ALoop.start (hrec (d0 - 1) (by omega) (0 + 1) (by omega)) ?_ (by simp)
       have hkx : kRow (kindOf x 0) = [.v (.string ⟨#[97]⟩), .lst 1 (psR f kk n), .v (.bool (decide (andN .u8 x.f2 1 = 1)))] := by rw [hks, show psR f kk n = psR f kk (min kk.length 4) by rw [← hne]]; simp [kRow, encKind, psR, nameA, nameB, encProg]; omega
       have hpl := psR_len f kk (n := n) (by omega)
       simp [go_sem, Wk_eq, hk0, ksR_succ x 0, hkx]
       (try refine leRows_append (.refl _) (.cons (.cons (.refl _) (.cons ?_ (.cons (.refl _) .nil))) .nil))
       refine LeV.frz rfl ?_ ?_ (LeRows.of_eq ?_) <;> simp [mkH, upd, hpl, List.take_of_length_le]
     ·omega
     ·simp [go_sem, Wk_eq, hk0]
     ·simp
    ·obtain ⟨kk, hkk⟩ : ∃ kk, kk = x.ks 1 := ⟨_, rfl⟩
     have hk0 : x.k1 = kk := hkk.symm
     rw [← hkk] at hkl hkv hks
     have hbit : bitU x.f2 1 = decide (andN .u8 (x.f2.fdiv 2) 1 = 1) := by simp [bitU]
     obtain ⟨f, hf⟩ : ∃ f, f = (fun n => madeP n b.next.length K x.rights) := ⟨_, rfl⟩
     have hfp : ∀ n, U8 n → Pure Tryz.prog 69 [.v (.int .u8 n), .v (.int .i64 b.next.length), .v (.int .i64 K), .v (.int .i64 R)] (encProg (f n)) := fun n hn => by
      rw [hf, ← hR]; exact R2Made_pure n _ _ _ hn (by omega) (by omega) (by omega)
     rw [← hf, hbit] at hks
     (repeat (first|with_reducible refine wV fun _=>?_|simp [go_sem, hk0]))
     refine ALoop.start (ALoop.ind (α := Nat) (fun n => ⟨[(1, .ref 0 0 12 0 0), (2, .ref 1 0 9 0 0), (3, .ref 20 0 9 0 0), (4, .v (.int .i64 K)), (5, .v (.int .i64 1)), (6, .ref 35 0 3 0 0), (7, .v (.int .i64 n))],
      [(0, .rows true 0 12 [encRaw x]), (1, .rows true 0 9 [[.v (.int .i64 0), AV.nils, AV.nils, AV.nils, .v (.int .i64 0), .v (.bool false), AV.nils, .v (.int .i64 0), .v (.int .i64 0)]]), (20, .rows true 0 9 [[.v (.int .i64 b.cells), encIss b.next, encIs b.turn, .sl 22 1 3 0 1, .v (.int .i64 R), .v (.bool (decide (x.f1.tmod 4 = 3))), AV.nils, .v (.int .i64 3), .v (.int .i64 2)]]), (22, .rows true 1 3 (ksR x 1)), (35, .rows true 0 3 [[.v (.string ⟨#[98, 101, 101]⟩), .sl 37 n 1 0 n, .v (.bool (decide (andN .u8 (x.f2.fdiv 2) 1 = 1)))]]), (37, .rows true n 1 (psR f kk n))], 38⟩)
      (fun d n => n + d = min kk.length 4) ?_ (min kk.length 4) 0 ?_) ?_ ?_
     ·rintro d n n1 hrec1
      (repeat (first|with_reducible refine wV fun _=>?_|simp [go_sem, hk0]))
      refine aIf.mkL (fun hn => ?_) (fun hn => ?_) <;> simp at hn
      ·have hn1 : n < kk.length := by omega
       have hn2 := hkv _ (nth_mem hn1)
       have hpl := psR_len f kk (n := n) (by omega)
       (repeat (first|with_reducible refine wV fun _=>?_|simp [go_sem, hk0, hn1]))
       refine dCall.plain (hfp _ hn2) (by simp [go_sem]) ?_
       (repeat (first|with_reducible refine wV fun _=>?_|simp [go_sem, hk0, hn1, hpl]))
       refine ALoop.start (hrec1 (d - 1) (by omega) (n + 1) (by omega)) ?_ (by simp)
       simp [go_sem, Wk_eq, hk0, psR_succ f kk hn1]
      ·have hne : n = min kk.length 4 := by omega
       (repeat (first|with_reducible refine wV fun _=>?_|simp [go_sem]))
       refine ALoop.start (hrec (d0 - 1) (by omega) (1 + 1) (by omega)) ?_ (by simp)
       have hkx : kRow (kindOf x 1) = [.v (.string ⟨#[98, 101, 101]⟩), .lst 1 (psR f kk n), .v (.bool (decide (andN .u8 (x.f2.fdiv 2) 1 = 1)))] := by rw [hks, show psR f kk n = psR f kk (min kk.length 4) by rw [← hne]]; simp [kRow, encKind, psR, nameA, nameB, encProg]; omega
       have hpl := psR_len f kk (n := n) (by omega)
       simp [go_sem, Wk_eq, hk0, ksR_succ x 1, hkx]
       (try refine leRows_append (.refl _) (.cons (.cons (.refl _) (.cons ?_ (.cons (.refl _) .nil))) .nil))
       refine LeV.frz rfl ?_ ?_ (LeRows.of_eq ?_) <;> simp [mkH, upd, hpl, List.take_of_length_le]
     ·omega
     ·simp [go_sem, Wk_eq, hk0]
     ·simp
   ·have hiK : i = K := by omega
    subst hiK
    (repeat (first|with_reducible refine wV fun _=>?_|simp [go_sem]))
    refine aIf.mkL (fun hb3 => ?_) (fun hb3 => ?_) <;> simp at hb3 <;> (repeat (first|with_reducible refine wV fun _=>?_|simp [go_sem]))
    all_goals refine aIf.mkL (fun hb4 => ?_) (fun hb4 => ?_) <;> simp at hb4 <;> (repeat (first|with_reducible refine wV fun _=>?_|simp [go_sem]))
    all_goals (
     refine ALoop.start (ALoop.ind (α := Nat) (fun a => ⟨[(1, .ref 0 0 12 0 0), (2, .ref 1 0 9 0 0), (3, .ref 20 0 9 0 0), (4, .v (.int .i64 i)), (8, .v (.int .i64 a))],
      [(0, .rows true 0 12 [encRaw x]), (1, .rows true 0 9 [[.v (.int .i64 0), AV.nils, AV.nils, AV.nils, .v (.int .i64 0), .v (.bool false), AV.nils, .v (.int .i64 0), .v (.int .i64 0)]]), (20, .rows true 0 9 [[.v (.int .i64 b.cells), encIss b.next, encIs b.turn, .sl 22 i 3 0 i, .v (.int .i64 R), .v (.bool (decide (x.f1.tmod 4 = 3))), .sl 23 a 4 0 a, .v (.int .i64 bl), .v (.int .i64 en)]]), (22, .rows true i 3 (ksR x i)), (23, .rows true a 4 (clR b.cells i x.c a))], 24⟩)
      (fun d a => a + d = min x.c.length 3) ?_ (min x.c.length 3) 0 ?_) ?_ ?_
     ·rintro d j j1 hrec2
      (repeat (first|with_reducible refine wV fun _=>?_|simp [go_sem]))
      refine aIf.mkL (fun hj => ?_) (fun hj => ?_) <;> simp at hj
      ·have hj1 : j < x.c.length := by omega
       have hjc := hx.c _ (nth_mem hj1)
       have hpl := clR_len b.cells i x.c (n := j) (by omega)
       have hsu := clR_succ b.cells i x.c hj1
       generalize hcx : nth x.c j = c at *
       obtain ⟨c0, c1, c2⟩ := c
       obtain ⟨u0, u1, u2⟩ := hjc
       obtain ⟨w0, w0'⟩ := qq _ u0
       obtain ⟨v0, v0'⟩ := u0
       obtain ⟨v1, v1'⟩ := u1
       obtain ⟨v2, v2'⟩ := u2
       simp only at v0 v0' v1 v1' v2 v2' w0 w0'
       have t0 := Int.tmod_nonneg 3 v0
       have t1 := Int.tmod_lt_of_pos c0 (show (0 : Int) < 3 by decide)
       have hip : (0 : Int) < i := by omega
       have k0 := Int.tmod_nonneg i v1
       have n0 := Int.tmod_nonneg b.cells v2
       have n1 := Int.tmod_nonneg 3 v2
       rcases (show c0.tmod 3 = 0 ∨ c0.tmod 3 = 1 ∨ c0.tmod 3 = 2 by omega) with ht | ht | ht
       ·have hr : cRow (clauseOf b.cells i (c0, c1, c2)) = [.v (.int .i64 1), .v (.int .i64 (c1.tmod i)), .v (.int .i64 0), .v (.int .i64 (1 + (c0.tdiv 4).tmod 3))] := by simp [cRow, clauseOf, encClause, ht]
        (repeat (first|with_reducible refine wV fun _=>?_|simp [go_sem, hj1, hcx, ht, hpl]))
        refine ALoop.start (hrec2 (d - 1) (by omega) (j + 1) (by omega)) ?_ (by simp)
        simp [go_sem, Wk_eq, hsu, hr]
       ·have hr : cRow (clauseOf b.cells i (c0, c1, c2)) = [.v (.int .i64 2), .v (.int .i64 (c1.tmod i)), .v (.int .i64 (c2.tmod b.cells)), .v (.int .i64 (1 + (c0.tdiv 4).tmod 3))] := by simp [cRow, clauseOf, encClause, ht]
        (repeat (first|with_reducible refine wV fun _=>?_|simp [go_sem, hj1, hcx, ht, hpl]))
        refine ALoop.start (hrec2 (d - 1) (by omega) (j + 1) (by omega)) ?_ (by simp)
        simp [go_sem, Wk_eq, hsu, hr]
       ·have hr : cRow (clauseOf b.cells i (c0, c1, c2)) = [.v (.int .i64 3), .v (.int .i64 0), .v (.int .i64 (c2.tmod 3)), .v (.int .i64 (1 + (c0.tdiv 4).tmod 3))] := by simp [cRow, clauseOf, encClause, ht]
        (repeat (first|with_reducible refine wV fun _=>?_|simp [go_sem, hj1, hcx, ht, hpl]))
        refine ALoop.start (hrec2 (d - 1) (by omega) (j + 1) (by omega)) ?_ (by simp)
        simp [go_sem, Wk_eq, hsu, hr]
      ·have hki : kindsN x = i := by rw [hK2, hK]
       have hjm : j = min x.c.length 3 := by omega
       have htk : x.c.take (min x.c.length 3) = x.c.take 3 := by rw [List.take_eq_take_iff]; omega
       have hpl := clR_len b.cells i x.c (n := j) (by omega)
       have hkl : (ksR x i).length = i := ksR_len x i
       have hcl : clR b.cells i x.c j = ((x.c.take 3).map (clauseOf b.cells i)).map encClause := by unfold clR; rw [hjm, htk]
       have hG : madeG x = { cells := b.cells, next := b.next, turn := b.turn, kinds := (List.range i).map (kindOf x), rights := R, must := decide (x.f1.tmod 4 = 3), clauses := (x.c.take 3).map (clauseOf b.cells i), blocked := bl, endless := en } := by
        unfold madeG; rw [hki, ← hbb, ← hR, ← hbl, ← hen]
       have hEnc : eg = [.v (.int .i64 b.cells), encIss b.next, encIs b.turn, .lst 3 (ksR x i), .v (.int .i64 R), .v (.bool (decide (x.f1.tmod 4 = 3))), .lst 4 (clR b.cells i x.c j), .v (.int .i64 bl), .v (.int .i64 en)] := by
        rw [heg, hG, hcl]; rfl
       (repeat (first|with_reducible refine wV fun _=>?_|simp [go_sem]))
       rw [hEnc]
       refine ⟨.cons (.refl _) (.cons (.refl _) (.cons (.refl _) (.cons (leV_frz rfl (by omega) (by simp [noH]) (by rw [List.drop_zero, List.take_of_length_le (by omega)])) (.cons (.refl _) (.cons (.refl _) (.cons (leV_frz rfl (by omega) (by simp [noH]) (by rw [List.drop_zero, List.take_of_length_le (by omega)])) (.cons (.refl _) (.cons (.refl _) .nil)))))))), ?_⟩
       intro c hc
       simp only [List.mem_cons, List.not_mem_nil, or_false] at hc
       rcases hc with rfl | rfl | rfl | rfl | rfl | rfl | rfl | rfl | rfl
       all_goals first | exact .v _ | simp [go_sem]
     ·omega
     ·simp [go_sem, Wk_eq, hbl, hen, hb3, hb4]
     ·simp)
  ·omega
  ·simp [go_sem, Wk_eq, hK]
  ·simp
 ·have hK2 : kindsN x = 1 := by rw [hKn, if_pos (by simp [hk1])]
  rw [hK2] at hK
  (repeat (first|with_reducible refine wV fun _=>?_|simp [go_sem]))
  refine ALoop.start (ALoop.ind (α := Nat) (fun a => ⟨[(1, .ref 0 0 12 0 0), (2, .ref 1 0 9 0 0), (3, .ref 20 0 9 0 0), (4, .v (.int .i64 K)), (5, .v (.int .i64 a))],
   [(0, .rows true 0 12 [encRaw x]), (1, .rows true 0 9 [[.v (.int .i64 0), AV.nils, AV.nils, AV.nils, .v (.int .i64 0), .v (.bool false), AV.nils, .v (.int .i64 0), .v (.int .i64 0)]]), (20, .rows true 0 9 [[.v (.int .i64 b.cells), encIss b.next, encIs b.turn, .sl 22 a 3 0 a, .v (.int .i64 R), .v (.bool (decide (x.f1.tmod 4 = 3))), AV.nils, .v (.int .i64 3), .v (.int .i64 2)]]), (22, .rows true a 3 (ksR x a))], 23⟩)
   (fun d a => a + d = K) ?_ K 0 ?_) ?_ ?_
  ·rintro d0 i i1 hrec
   (repeat (first|with_reducible refine wV fun _=>?_|simp [go_sem]))
   refine aIf.mkL (fun hi => ?_) (fun hi => ?_) <;> simp at hi
   ·have hi2 : i = 0 ∨ i = 1 := by omega
    have hkl := hKl i
    have hkv := hKv i
    have hks : kindOf x i = ⟨if i = 0 then nameA else nameB, ((x.ks i).take 4).map (fun n => madeP n b.next.length K x.rights), bitU x.f2 i⟩ := by rw [hbb, hK, ← hK2]; rfl
    rcases hi2 with rfl | rfl
    ·obtain ⟨kk, hkk⟩ : ∃ kk, kk = x.ks 0 := ⟨_, rfl⟩
     have hk0 : x.k0 = kk := hkk.symm
     rw [← hkk] at hkl hkv hks
     have hbit : bitU x.f2 0 = decide (andN .u8 x.f2 1 = 1) := by simp [bitU]
     obtain ⟨f, hf⟩ : ∃ f, f = (fun n => madeP n b.next.length K x.rights) := ⟨_, rfl⟩
     have hfp : ∀ n, U8 n → Pure Tryz.prog 69 [.v (.int .u8 n), .v (.int .i64 b.next.length), .v (.int .i64 K), .v (.int .i64 R)] (encProg (f n)) := fun n hn => by
      rw [hf, ← hR]; exact R2Made_pure n _ _ _ hn (by omega) (by omega) (by omega)
     rw [← hf, hbit] at hks
     (repeat (first|with_reducible refine wV fun _=>?_|simp [go_sem, hk0]))
     refine ALoop.start (ALoop.ind (α := Nat) (fun n => ⟨[(1, .ref 0 0 12 0 0), (2, .ref 1 0 9 0 0), (3, .ref 20 0 9 0 0), (4, .v (.int .i64 K)), (5, .v (.int .i64 0)), (6, .ref 35 0 3 0 0), (7, .v (.int .i64 n))],
      [(0, .rows true 0 12 [encRaw x]), (1, .rows true 0 9 [[.v (.int .i64 0), AV.nils, AV.nils, AV.nils, .v (.int .i64 0), .v (.bool false), AV.nils, .v (.int .i64 0), .v (.int .i64 0)]]), (20, .rows true 0 9 [[.v (.int .i64 b.cells), encIss b.next, encIs b.turn, .sl 22 0 3 0 0, .v (.int .i64 R), .v (.bool (decide (x.f1.tmod 4 = 3))), AV.nils, .v (.int .i64 3), .v (.int .i64 2)]]), (22, .rows true 0 3 (ksR x 0)), (35, .rows true 0 3 [[.v (.string ⟨#[97]⟩), .sl 37 n 1 0 n, .v (.bool (decide (andN .u8 x.f2 1 = 1)))]]), (37, .rows true n 1 (psR f kk n))], 38⟩)
      (fun d n => n + d = min kk.length 4) ?_ (min kk.length 4) 0 ?_) ?_ ?_
     ·rintro d n n1 hrec1
      (repeat (first|with_reducible refine wV fun _=>?_|simp [go_sem, hk0]))
      refine aIf.mkL (fun hn => ?_) (fun hn => ?_) <;> simp at hn
      ·have hn1 : n < kk.length := by omega
       have hn2 := hkv _ (nth_mem hn1)
       have hpl := psR_len f kk (n := n) (by omega)
       (repeat (first|with_reducible refine wV fun _=>?_|simp [go_sem, hk0, hn1]))
       refine dCall.plain (hfp _ hn2) (by simp [go_sem]) ?_
       (repeat (first|with_reducible refine wV fun _=>?_|simp [go_sem, hk0, hn1, hpl]))
       refine ALoop.start (hrec1 (d - 1) (by omega) (n + 1) (by omega)) ?_ (by simp)
       simp [go_sem, Wk_eq, hk0, psR_succ f kk hn1]
      ·have hne : n = min kk.length 4 := by omega
       (repeat (first|with_reducible refine wV fun _=>?_|simp [go_sem]))
       refine ALoop.start (hrec (d0 - 1) (by omega) (0 + 1) (by omega)) ?_ (by simp)
       have hkx : kRow (kindOf x 0) = [.v (.string ⟨#[97]⟩), .lst 1 (psR f kk n), .v (.bool (decide (andN .u8 x.f2 1 = 1)))] := by rw [hks, show psR f kk n = psR f kk (min kk.length 4) by rw [← hne]]; simp [kRow, encKind, psR, nameA, nameB, encProg]; omega
       have hpl := psR_len f kk (n := n) (by omega)
       simp [go_sem, Wk_eq, hk0, ksR_succ x 0, hkx]
       (try refine leRows_append (.refl _) (.cons (.cons (.refl _) (.cons ?_ (.cons (.refl _) .nil))) .nil))
       refine LeV.frz rfl ?_ ?_ (LeRows.of_eq ?_) <;> simp [mkH, upd, hpl, List.take_of_length_le]
     ·omega
     ·simp [go_sem, Wk_eq, hk0]
     ·simp
    ·obtain ⟨kk, hkk⟩ : ∃ kk, kk = x.ks 1 := ⟨_, rfl⟩
     have hk0 : x.k1 = kk := hkk.symm
     rw [← hkk] at hkl hkv hks
     have hbit : bitU x.f2 1 = decide (andN .u8 (x.f2.fdiv 2) 1 = 1) := by simp [bitU]
     obtain ⟨f, hf⟩ : ∃ f, f = (fun n => madeP n b.next.length K x.rights) := ⟨_, rfl⟩
     have hfp : ∀ n, U8 n → Pure Tryz.prog 69 [.v (.int .u8 n), .v (.int .i64 b.next.length), .v (.int .i64 K), .v (.int .i64 R)] (encProg (f n)) := fun n hn => by
      rw [hf, ← hR]; exact R2Made_pure n _ _ _ hn (by omega) (by omega) (by omega)
     rw [← hf, hbit] at hks
     (repeat (first|with_reducible refine wV fun _=>?_|simp [go_sem, hk0]))
     refine ALoop.start (ALoop.ind (α := Nat) (fun n => ⟨[(1, .ref 0 0 12 0 0), (2, .ref 1 0 9 0 0), (3, .ref 20 0 9 0 0), (4, .v (.int .i64 K)), (5, .v (.int .i64 1)), (6, .ref 35 0 3 0 0), (7, .v (.int .i64 n))],
      [(0, .rows true 0 12 [encRaw x]), (1, .rows true 0 9 [[.v (.int .i64 0), AV.nils, AV.nils, AV.nils, .v (.int .i64 0), .v (.bool false), AV.nils, .v (.int .i64 0), .v (.int .i64 0)]]), (20, .rows true 0 9 [[.v (.int .i64 b.cells), encIss b.next, encIs b.turn, .sl 22 1 3 0 1, .v (.int .i64 R), .v (.bool (decide (x.f1.tmod 4 = 3))), AV.nils, .v (.int .i64 3), .v (.int .i64 2)]]), (22, .rows true 1 3 (ksR x 1)), (35, .rows true 0 3 [[.v (.string ⟨#[98, 101, 101]⟩), .sl 37 n 1 0 n, .v (.bool (decide (andN .u8 (x.f2.fdiv 2) 1 = 1)))]]), (37, .rows true n 1 (psR f kk n))], 38⟩)
      (fun d n => n + d = min kk.length 4) ?_ (min kk.length 4) 0 ?_) ?_ ?_
     ·rintro d n n1 hrec1
      (repeat (first|with_reducible refine wV fun _=>?_|simp [go_sem, hk0]))
      refine aIf.mkL (fun hn => ?_) (fun hn => ?_) <;> simp at hn
      ·have hn1 : n < kk.length := by omega
       have hn2 := hkv _ (nth_mem hn1)
       have hpl := psR_len f kk (n := n) (by omega)
       (repeat (first|with_reducible refine wV fun _=>?_|simp [go_sem, hk0, hn1]))
       refine dCall.plain (hfp _ hn2) (by simp [go_sem]) ?_
       (repeat (first|with_reducible refine wV fun _=>?_|simp [go_sem, hk0, hn1, hpl]))
       refine ALoop.start (hrec1 (d - 1) (by omega) (n + 1) (by omega)) ?_ (by simp)
       simp [go_sem, Wk_eq, hk0, psR_succ f kk hn1]
      ·have hne : n = min kk.length 4 := by omega
       (repeat (first|with_reducible refine wV fun _=>?_|simp [go_sem]))
       refine ALoop.start (hrec (d0 - 1) (by omega) (1 + 1) (by omega)) ?_ (by simp)
       have hkx : kRow (kindOf x 1) = [.v (.string ⟨#[98, 101, 101]⟩), .lst 1 (psR f kk n), .v (.bool (decide (andN .u8 (x.f2.fdiv 2) 1 = 1)))] := by rw [hks, show psR f kk n = psR f kk (min kk.length 4) by rw [← hne]]; simp [kRow, encKind, psR, nameA, nameB, encProg]; omega
       have hpl := psR_len f kk (n := n) (by omega)
       simp [go_sem, Wk_eq, hk0, ksR_succ x 1, hkx]
       (try refine leRows_append (.refl _) (.cons (.cons (.refl _) (.cons ?_ (.cons (.refl _) .nil))) .nil))
       refine LeV.frz rfl ?_ ?_ (LeRows.of_eq ?_) <;> simp [mkH, upd, hpl, List.take_of_length_le]
     ·omega
     ·simp [go_sem, Wk_eq, hk0]
     ·simp
   ·have hiK : i = K := by omega
    subst hiK
    (repeat (first|with_reducible refine wV fun _=>?_|simp [go_sem]))
    refine aIf.mkL (fun hb3 => ?_) (fun hb3 => ?_) <;> simp at hb3 <;> (repeat (first|with_reducible refine wV fun _=>?_|simp [go_sem]))
    all_goals refine aIf.mkL (fun hb4 => ?_) (fun hb4 => ?_) <;> simp at hb4 <;> (repeat (first|with_reducible refine wV fun _=>?_|simp [go_sem]))
    all_goals (
     refine ALoop.start (ALoop.ind (α := Nat) (fun a => ⟨[(1, .ref 0 0 12 0 0), (2, .ref 1 0 9 0 0), (3, .ref 20 0 9 0 0), (4, .v (.int .i64 i)), (8, .v (.int .i64 a))],
      [(0, .rows true 0 12 [encRaw x]), (1, .rows true 0 9 [[.v (.int .i64 0), AV.nils, AV.nils, AV.nils, .v (.int .i64 0), .v (.bool false), AV.nils, .v (.int .i64 0), .v (.int .i64 0)]]), (20, .rows true 0 9 [[.v (.int .i64 b.cells), encIss b.next, encIs b.turn, .sl 22 i 3 0 i, .v (.int .i64 R), .v (.bool (decide (x.f1.tmod 4 = 3))), .sl 23 a 4 0 a, .v (.int .i64 bl), .v (.int .i64 en)]]), (22, .rows true i 3 (ksR x i)), (23, .rows true a 4 (clR b.cells i x.c a))], 24⟩)
      (fun d a => a + d = min x.c.length 3) ?_ (min x.c.length 3) 0 ?_) ?_ ?_
     ·rintro d j j1 hrec2
      (repeat (first|with_reducible refine wV fun _=>?_|simp [go_sem]))
      refine aIf.mkL (fun hj => ?_) (fun hj => ?_) <;> simp at hj
      ·have hj1 : j < x.c.length := by omega
       have hjc := hx.c _ (nth_mem hj1)
       have hpl := clR_len b.cells i x.c (n := j) (by omega)
       have hsu := clR_succ b.cells i x.c hj1
       generalize hcx : nth x.c j = c at *
       obtain ⟨c0, c1, c2⟩ := c
       obtain ⟨u0, u1, u2⟩ := hjc
       obtain ⟨w0, w0'⟩ := qq _ u0
       obtain ⟨v0, v0'⟩ := u0
       obtain ⟨v1, v1'⟩ := u1
       obtain ⟨v2, v2'⟩ := u2
       simp only at v0 v0' v1 v1' v2 v2' w0 w0'
       have t0 := Int.tmod_nonneg 3 v0
       have t1 := Int.tmod_lt_of_pos c0 (show (0 : Int) < 3 by decide)
       have hip : (0 : Int) < i := by omega
       have k0 := Int.tmod_nonneg i v1
       have n0 := Int.tmod_nonneg b.cells v2
       have n1 := Int.tmod_nonneg 3 v2
       rcases (show c0.tmod 3 = 0 ∨ c0.tmod 3 = 1 ∨ c0.tmod 3 = 2 by omega) with ht | ht | ht
       ·have hr : cRow (clauseOf b.cells i (c0, c1, c2)) = [.v (.int .i64 1), .v (.int .i64 (c1.tmod i)), .v (.int .i64 0), .v (.int .i64 (1 + (c0.tdiv 4).tmod 3))] := by simp [cRow, clauseOf, encClause, ht]
        (repeat (first|with_reducible refine wV fun _=>?_|simp [go_sem, hj1, hcx, ht, hpl]))
        refine ALoop.start (hrec2 (d - 1) (by omega) (j + 1) (by omega)) ?_ (by simp)
        simp [go_sem, Wk_eq, hsu, hr]
       ·have hr : cRow (clauseOf b.cells i (c0, c1, c2)) = [.v (.int .i64 2), .v (.int .i64 (c1.tmod i)), .v (.int .i64 (c2.tmod b.cells)), .v (.int .i64 (1 + (c0.tdiv 4).tmod 3))] := by simp [cRow, clauseOf, encClause, ht]
        (repeat (first|with_reducible refine wV fun _=>?_|simp [go_sem, hj1, hcx, ht, hpl]))
        refine ALoop.start (hrec2 (d - 1) (by omega) (j + 1) (by omega)) ?_ (by simp)
        simp [go_sem, Wk_eq, hsu, hr]
       ·have hr : cRow (clauseOf b.cells i (c0, c1, c2)) = [.v (.int .i64 3), .v (.int .i64 0), .v (.int .i64 (c2.tmod 3)), .v (.int .i64 (1 + (c0.tdiv 4).tmod 3))] := by simp [cRow, clauseOf, encClause, ht]
        (repeat (first|with_reducible refine wV fun _=>?_|simp [go_sem, hj1, hcx, ht, hpl]))
        refine ALoop.start (hrec2 (d - 1) (by omega) (j + 1) (by omega)) ?_ (by simp)
        simp [go_sem, Wk_eq, hsu, hr]
      ·have hki : kindsN x = i := by rw [hK2, hK]
       have hjm : j = min x.c.length 3 := by omega
       have htk : x.c.take (min x.c.length 3) = x.c.take 3 := by rw [List.take_eq_take_iff]; omega
       have hpl := clR_len b.cells i x.c (n := j) (by omega)
       have hkl : (ksR x i).length = i := ksR_len x i
       have hcl : clR b.cells i x.c j = ((x.c.take 3).map (clauseOf b.cells i)).map encClause := by unfold clR; rw [hjm, htk]
       have hG : madeG x = { cells := b.cells, next := b.next, turn := b.turn, kinds := (List.range i).map (kindOf x), rights := R, must := decide (x.f1.tmod 4 = 3), clauses := (x.c.take 3).map (clauseOf b.cells i), blocked := bl, endless := en } := by
        unfold madeG; rw [hki, ← hbb, ← hR, ← hbl, ← hen]
       have hEnc : eg = [.v (.int .i64 b.cells), encIss b.next, encIs b.turn, .lst 3 (ksR x i), .v (.int .i64 R), .v (.bool (decide (x.f1.tmod 4 = 3))), .lst 4 (clR b.cells i x.c j), .v (.int .i64 bl), .v (.int .i64 en)] := by
        rw [heg, hG, hcl]; rfl
       (repeat (first|with_reducible refine wV fun _=>?_|simp [go_sem]))
       rw [hEnc]
       refine ⟨.cons (.refl _) (.cons (.refl _) (.cons (.refl _) (.cons (leV_frz rfl (by omega) (by simp [noH]) (by rw [List.drop_zero, List.take_of_length_le (by omega)])) (.cons (.refl _) (.cons (.refl _) (.cons (leV_frz rfl (by omega) (by simp [noH]) (by rw [List.drop_zero, List.take_of_length_le (by omega)])) (.cons (.refl _) (.cons (.refl _) .nil)))))))), ?_⟩
       intro c hc
       simp only [List.mem_cons, List.not_mem_nil, or_false] at hc
       rcases hc with rfl | rfl | rfl | rfl | rfl | rfl | rfl | rfl | rfl
       all_goals first | exact .v _ | simp [go_sem]
     ·omega
     ·simp [go_sem, Wk_eq, hbl, hen, hb3, hb4]
     ·simp)
  ·omega
  ·simp [go_sem, Wk_eq, hK]
  ·simp
end Go.Av
end
section
/- Contracts: slices.IndexFunc and ContainsFunc at kinds, programs, clauses, steps. -/
open Go Go.Proofs
namespace Go.Av
def idxG {α : Type} (p : α → Bool) (l : List α) : Int := match l.findIdx? p with | some i => (i : Int) | none => -1
theorem idxG_at {α : Type} [Inhabited α] {p : α → Bool} {l : List α} {j : Nat} (hj : j < l.length) (h : ∀ i, i < j → p (nth l i) = false) (hp : p (nth l j) = true) : idxG p l = j := by
 have : l.findIdx? p = some j := by
  rw [List.findIdx?_eq_some_iff_getElem]
  refine ⟨hj, by rw [← nth_eq _ _ hj]; exact hp, fun i hi => ?_⟩
  have := h i hi
  rw [nth_eq _ _ (by omega)] at this
  simp [this]
 simp [idxG, this]
theorem idxG_none {α : Type} [Inhabited α] {p : α → Bool} {l : List α} (h : ∀ i, i < l.length → p (nth l i) = false) : idxG p l = -1 := by
 have : l.findIdx? p = none := by
  rw [List.findIdx?_eq_none_iff]
  intro x hx
  obtain ⟨i, hi, rfl⟩ := List.getElem_of_mem hx
  have := h i hi
  rw [nth_eq _ _ hi] at this
  exact this
 simp [idxG, this]
theorem idxG_any {α : Type} {p : α → Bool} {l : List α} : decide (0 ≤ idxG p l) = l.any p := by
 unfold idxG
 cases h : l.findIdx? p with
 | none =>
  rw [List.findIdx?_eq_none_iff] at h
  simp
  simpa using h
 | some i =>
  have := List.findIdx?_isSome (xs := l) (p := p)
  rw [h] at this
  simp at this ⊢
  exact this
theorem IndexFuncK_pure (l : List (KindD)) (hl : l.length ≤ 1048576) (f : FuncId) (caps : List AV) (p : (KindD) → Bool) (hp : ∀ x ∈ l, Pure Tryz.prog f (.agg (encKind x) :: caps) (.v (.bool (p x)))) (hb' : ∀ c ∈ caps, Bel 0 c) :
  Pure Tryz.prog 186 [.lst 3 (l.map encKind), .fn (.func f) [] caps] (.v (.int .i64 (idxG p l))) := by
 refine pF Tryz.func186 ?_
 have hA : ∀ x : (KindD), ∀ m, Bel m (.agg (encKind x)) := fun x m => by simp [go_sem]
 (repeat (first|with_reducible refine wV fun _=>?_|simp [go_sem]))
 refine ALoop.start (ALoop.ind (α := Nat) (fun j => ⟨[(0, .lst 3 (l.map encKind)), (1, .fn (.func f) [] caps), (7, .v (.int .i64 l.length)), (8, .v (.int .i64 j))], [], 0⟩)
  (fun d j => j + d = l.length ∧ (∀ i < j, p (nth l i) = false)) ?_ l.length 0 ?_) ?_ ?_
 ·rintro d j ⟨i1, i2⟩ hrec
  (repeat (first|with_reducible refine wV fun _=>?_|simp [go_sem]))
  refine aIf.mkL (fun hj => ?_) (fun hj => ?_) <;> simp at hj
  ·(repeat (first|with_reducible refine wV fun _=>?_|simp [go_sem, hj]))
   refine ACallP.plain (hp _ (nth_mem hj)) (fun c hc => by
    simp only [List.nil_append, List.cons_append, List.mem_cons] at hc
    rcases hc with rfl | h
    ·exact hA _ _
    ·exact hb' c h) ?_
   (repeat (first|with_reducible refine wV fun _=>?_|simp [go_sem]))
   refine aIf.mkL (fun h => ?_) (fun h => ?_)
   ·(repeat (first|with_reducible refine wV fun _=>?_|simp [go_sem, idxG_at hj i2 h]))
   ·(repeat (first|with_reducible refine wV fun _=>?_|simp [go_sem]))
    refine ALoop.start (hrec (d - 1) (by omega) (j + 1) ⟨by omega, fun i hi => ?_⟩) ?_ (by simp)
    ·rcases Nat.lt_or_ge i j with h' | h'
     ·exact i2 i h'
     ·obtain rfl : i = j := by omega
      exact h
    ·simp [go_sem, Wk_eq]
     exact hb'
  ·have hn := idxG_none (p := p) (l := l) fun i hi => i2 i (by omega)
   (repeat (first|with_reducible refine wV fun _=>?_|simp [go_sem, hn]))
 ·simp
 ·simp [go_sem, Wk_eq]
  exact hb'
 ·simp
theorem ContainsFuncK_pure (l : List (KindD)) (hl : l.length ≤ 1048576) (f : FuncId) (caps : List AV) (p : (KindD) → Bool) (hp : ∀ x ∈ l, Pure Tryz.prog f (.agg (encKind x) :: caps) (.v (.bool (p x)))) (hb' : ∀ c ∈ caps, Bel 0 c) :
  Pure Tryz.prog 131 [.lst 3 (l.map encKind), .fn (.func f) [] caps] (.v (.bool (l.any p))) := by
 refine pF Tryz.func131 ?_
 have hI := IndexFuncK_pure l hl f caps p hp hb'
 (repeat (first|with_reducible refine wV fun _=>?_|simp [go_sem]))
 refine ACallP.plain hI (by simp [go_sem]; exact hb') ?_
 (repeat (first|with_reducible refine wV fun _=>?_|simp [go_sem, idxG_any]))
theorem IndexFuncQ_pure (l : List (List (Int × Int))) (hl : l.length ≤ 1048576) (f : FuncId) (caps : List AV) (p : (List (Int × Int)) → Bool) (hp : ∀ x ∈ l, Pure Tryz.prog f (encProg x :: caps) (.v (.bool (p x)))) (hb' : ∀ c ∈ caps, Bel 0 c) :
  Pure Tryz.prog 239 [.lst 1 (l.map fun p => [encProg p]), .fn (.func f) [] caps] (.v (.int .i64 (idxG p l))) := by
 refine pF Tryz.func239 ?_
 have hA : ∀ x : (List (Int × Int)), ∀ m, Bel m (encProg x) := fun x m => by simp [go_sem]
 (repeat (first|with_reducible refine wV fun _=>?_|simp [go_sem]))
 refine ALoop.start (ALoop.ind (α := Nat) (fun j => ⟨[(0, .lst 1 (l.map fun p => [encProg p])), (1, .fn (.func f) [] caps), (7, .v (.int .i64 l.length)), (8, .v (.int .i64 j))], [], 0⟩)
  (fun d j => j + d = l.length ∧ (∀ i < j, p (nth l i) = false)) ?_ l.length 0 ?_) ?_ ?_
 ·rintro d j ⟨i1, i2⟩ hrec
  (repeat (first|with_reducible refine wV fun _=>?_|simp [go_sem]))
  refine aIf.mkL (fun hj => ?_) (fun hj => ?_) <;> simp at hj
  ·(repeat (first|with_reducible refine wV fun _=>?_|simp [go_sem, hj]))
   refine ACallP.plain (hp _ (nth_mem hj)) (fun c hc => by
    simp only [List.nil_append, List.cons_append, List.mem_cons] at hc
    rcases hc with rfl | h
    ·exact hA _ _
    ·exact hb' c h) ?_
   (repeat (first|with_reducible refine wV fun _=>?_|simp [go_sem]))
   refine aIf.mkL (fun h => ?_) (fun h => ?_)
   ·(repeat (first|with_reducible refine wV fun _=>?_|simp [go_sem, idxG_at hj i2 h]))
   ·(repeat (first|with_reducible refine wV fun _=>?_|simp [go_sem]))
    refine ALoop.start (hrec (d - 1) (by omega) (j + 1) ⟨by omega, fun i hi => ?_⟩) ?_ (by simp)
    ·rcases Nat.lt_or_ge i j with h' | h'
     ·exact i2 i h'
     ·obtain rfl : i = j := by omega
      exact h
    ·simp [go_sem, Wk_eq]
     exact hb'
  ·have hn := idxG_none (p := p) (l := l) fun i hi => i2 i (by omega)
   (repeat (first|with_reducible refine wV fun _=>?_|simp [go_sem, hn]))
 ·simp
 ·simp [go_sem, Wk_eq]
  exact hb'
 ·simp
theorem ContainsFuncP_pure (l : List (List (Int × Int))) (hl : l.length ≤ 1048576) (f : FuncId) (caps : List AV) (p : (List (Int × Int)) → Bool) (hp : ∀ x ∈ l, Pure Tryz.prog f (encProg x :: caps) (.v (.bool (p x)))) (hb' : ∀ c ∈ caps, Bel 0 c) :
  Pure Tryz.prog 182 [.lst 1 (l.map fun p => [encProg p]), .fn (.func f) [] caps] (.v (.bool (l.any p))) := by
 refine pF Tryz.func182 ?_
 have hI := IndexFuncQ_pure l hl f caps p hp hb'
 (repeat (first|with_reducible refine wV fun _=>?_|simp [go_sem]))
 refine ACallP.plain hI (by simp [go_sem]; exact hb') ?_
 (repeat (first|with_reducible refine wV fun _=>?_|simp [go_sem, idxG_any]))
theorem IndexFuncC_pure (l : List (Int × Int × Int × Int)) (hl : l.length ≤ 1048576) (f : FuncId) (caps : List AV) (p : (Int × Int × Int × Int) → Bool) (hp : ∀ x ∈ l, Pure Tryz.prog f (.agg (encClause x) :: caps) (.v (.bool (p x)))) (hb' : ∀ c ∈ caps, Bel 0 c) :
  Pure Tryz.prog 240 [.lst 4 (l.map encClause), .fn (.func f) [] caps] (.v (.int .i64 (idxG p l))) := by
 refine pF Tryz.func240 ?_
 have hA : ∀ x : (Int × Int × Int × Int), ∀ m, Bel m (.agg (encClause x)) := fun x m => by simp [go_sem]
 (repeat (first|with_reducible refine wV fun _=>?_|simp [go_sem]))
 refine ALoop.start (ALoop.ind (α := Nat) (fun j => ⟨[(0, .lst 4 (l.map encClause)), (1, .fn (.func f) [] caps), (7, .v (.int .i64 l.length)), (8, .v (.int .i64 j))], [], 0⟩)
  (fun d j => j + d = l.length ∧ (∀ i < j, p (nth l i) = false)) ?_ l.length 0 ?_) ?_ ?_
 ·rintro d j ⟨i1, i2⟩ hrec
  (repeat (first|with_reducible refine wV fun _=>?_|simp [go_sem]))
  refine aIf.mkL (fun hj => ?_) (fun hj => ?_) <;> simp at hj
  ·(repeat (first|with_reducible refine wV fun _=>?_|simp [go_sem, hj]))
   refine ACallP.plain (hp _ (nth_mem hj)) (fun c hc => by
    simp only [List.nil_append, List.cons_append, List.mem_cons] at hc
    rcases hc with rfl | h
    ·exact hA _ _
    ·exact hb' c h) ?_
   (repeat (first|with_reducible refine wV fun _=>?_|simp [go_sem]))
   refine aIf.mkL (fun h => ?_) (fun h => ?_)
   ·(repeat (first|with_reducible refine wV fun _=>?_|simp [go_sem, idxG_at hj i2 h]))
   ·(repeat (first|with_reducible refine wV fun _=>?_|simp [go_sem]))
    refine ALoop.start (hrec (d - 1) (by omega) (j + 1) ⟨by omega, fun i hi => ?_⟩) ?_ (by simp)
    ·rcases Nat.lt_or_ge i j with h' | h'
     ·exact i2 i h'
     ·obtain rfl : i = j := by omega
      exact h
    ·simp [go_sem, Wk_eq]
     exact hb'
  ·have hn := idxG_none (p := p) (l := l) fun i hi => i2 i (by omega)
   (repeat (first|with_reducible refine wV fun _=>?_|simp [go_sem, hn]))
 ·simp
 ·simp [go_sem, Wk_eq]
  exact hb'
 ·simp
theorem ContainsFuncC_pure (l : List (Int × Int × Int × Int)) (hl : l.length ≤ 1048576) (f : FuncId) (caps : List AV) (p : (Int × Int × Int × Int) → Bool) (hp : ∀ x ∈ l, Pure Tryz.prog f (.agg (encClause x) :: caps) (.v (.bool (p x)))) (hb' : ∀ c ∈ caps, Bel 0 c) :
  Pure Tryz.prog 183 [.lst 4 (l.map encClause), .fn (.func f) [] caps] (.v (.bool (l.any p))) := by
 refine pF Tryz.func183 ?_
 have hI := IndexFuncC_pure l hl f caps p hp hb'
 (repeat (first|with_reducible refine wV fun _=>?_|simp [go_sem]))
 refine ACallP.plain hI (by simp [go_sem]; exact hb') ?_
 (repeat (first|with_reducible refine wV fun _=>?_|simp [go_sem, idxG_any]))
theorem IndexFuncS_pure (l : List (Int × Int)) (hl : l.length ≤ 1048576) (f : FuncId) (caps : List AV) (p : (Int × Int) → Bool) (hp : ∀ x ∈ l, Pure Tryz.prog f (.agg (encStep x) :: caps) (.v (.bool (p x)))) (hb' : ∀ c ∈ caps, Bel 0 c) :
  Pure Tryz.prog 275 [encProg l, .fn (.func f) [] caps] (.v (.int .i64 (idxG p l))) := by
 refine pF Tryz.func275 ?_
 have hA : ∀ x : (Int × Int), ∀ m, Bel m (.agg (encStep x)) := fun x m => by simp [go_sem]
 (repeat (first|with_reducible refine wV fun _=>?_|simp [go_sem]))
 refine ALoop.start (ALoop.ind (α := Nat) (fun j => ⟨[(0, encProg l), (1, .fn (.func f) [] caps), (7, .v (.int .i64 l.length)), (8, .v (.int .i64 j))], [], 0⟩)
  (fun d j => j + d = l.length ∧ (∀ i < j, p (nth l i) = false)) ?_ l.length 0 ?_) ?_ ?_
 ·rintro d j ⟨i1, i2⟩ hrec
  (repeat (first|with_reducible refine wV fun _=>?_|simp [go_sem]))
  refine aIf.mkL (fun hj => ?_) (fun hj => ?_) <;> simp at hj
  ·(repeat (first|with_reducible refine wV fun _=>?_|simp [go_sem, hj]))
   refine ACallP.plain (hp _ (nth_mem hj)) (fun c hc => by
    simp only [List.nil_append, List.cons_append, List.mem_cons] at hc
    rcases hc with rfl | h
    ·exact hA _ _
    ·exact hb' c h) ?_
   (repeat (first|with_reducible refine wV fun _=>?_|simp [go_sem]))
   refine aIf.mkL (fun h => ?_) (fun h => ?_)
   ·(repeat (first|with_reducible refine wV fun _=>?_|simp [go_sem, idxG_at hj i2 h]))
   ·(repeat (first|with_reducible refine wV fun _=>?_|simp [go_sem]))
    refine ALoop.start (hrec (d - 1) (by omega) (j + 1) ⟨by omega, fun i hi => ?_⟩) ?_ (by simp)
    ·rcases Nat.lt_or_ge i j with h' | h'
     ·exact i2 i h'
     ·obtain rfl : i = j := by omega
      exact h
    ·simp [go_sem, Wk_eq]
     exact hb'
  ·have hn := idxG_none (p := p) (l := l) fun i hi => i2 i (by omega)
   (repeat (first|with_reducible refine wV fun _=>?_|simp [go_sem, hn]))
 ·simp
 ·simp [go_sem, Wk_eq]
  exact hb'
 ·simp
theorem ContainsFuncS_pure (l : List (Int × Int)) (hl : l.length ≤ 1048576) (f : FuncId) (caps : List AV) (p : (Int × Int) → Bool) (hp : ∀ x ∈ l, Pure Tryz.prog f (.agg (encStep x) :: caps) (.v (.bool (p x)))) (hb' : ∀ c ∈ caps, Bel 0 c) :
  Pure Tryz.prog 234 [encProg l, .fn (.func f) [] caps] (.v (.bool (l.any p))) := by
 refine pF Tryz.func234 ?_
 have hI := IndexFuncS_pure l hl f caps p hp hb'
 (repeat (first|with_reducible refine wV fun _=>?_|simp [go_sem]))
 refine ACallP.plain hI (by simp [go_sem]; exact hb') ?_
 (repeat (first|with_reducible refine wV fun _=>?_|simp [go_sem, idxG_any]))
end Go.Av
end
section
/- Our library: ranges over functions, and iterators: equations and steps. -/
namespace Go.Av
open Go
section
variable {P : Program} {n0 : Nat} {Q : Post} {e : Env} {h : Heap} {n : Nat} {ops rest : List Oper}
def aRange (P : Program) (n0 : Nat) (ps : List Tmp) (a b : Code) (Q : Post) (v : AV) (e : Env) (h : Heap) (n : Nat) : Prop :=
 (∃ f caps caps' more rows h', v = .fn (.func f) [] caps ∧ Frz h h' ∧ LeRow h h' n caps caps' ∧ (∀ c ∈ caps', Bel 0 c) ∧ PSeq P f caps' more rows ∧
  (∀ xs ∈ rows, xs.length = ps.length) ∧ Fgt n0 (ARange n0 more ps (fun n1 => awp P n1 a) (fun n1 => awp P n1 b) Q rows) e h' n) ∨
 (∃ f caps caps' o gn sz rs rs' more rows h', v = .fn (.func f) [] caps ∧ Frz h h' ∧ h' o = some (.rows true gn sz rs) ∧ LeRows h h' n rs rs' ∧ (∀ r ∈ rs', ∀ c ∈ r, Bel 0 c) ∧
  GvRow h h' n o caps caps' ∧ PSeqO P f caps' [(0, .rows true gn sz rs')] 1 more rows ∧
  (∀ xs ∈ rows, xs.length = ps.length) ∧ Fgt n0 (ARange n0 more ps (fun n1 => awp P n1 a) (fun n1 => awp P n1 b) Q rows) e (upd h' o none) n)
theorem awp_rangeFunc (g : Operand) (ps : List Tmp) (a b : Code) : awp P n0 (.rangeFunc g ps.toArray a b) Q e h n = aRange P n0 ps a b Q (ev e g) e h n := rfl
@[congr] theorem aRange_congr {ps : List Tmp} {a b : Code} {v v' : AV} (hv : v = v') : aRange P n0 ps a b Q v e h n = aRange P n0 ps a b Q v' e h n := by subst hv; rfl
theorem aRange.mk {ps : List Tmp} {a b : Code} {f : FuncId} {caps : List AV} (caps' : List AV) (h' : Heap) {more : Nat} {rows : List (List AV)} (C : PSeq P f caps' more rows) (hfz : Frz h h') (hle : LeRow h h' n caps caps') (hb : ∀ c ∈ caps', Bel 0 c)
  (hlen : ∀ xs ∈ rows, xs.length = ps.length) (hk : Fgt n0 (ARange n0 more ps (fun n1 => awp P n1 a) (fun n1 => awp P n1 b) Q rows) e h' n) : aRange P n0 ps a b Q (.fn (.func f) [] caps) e h n :=
 .inl ⟨f, caps, caps', more, rows, h', rfl, hfz, hle, hb, C, hlen, hk⟩
theorem aRange.give {ps : List Tmp} {a b : Code} {f : FuncId} {caps : List AV} (caps' : List AV) (h' : Heap) (o : Nat) {gn sz : Nat} {rs : List (List AV)} (rs' : List (List AV)) {more : Nat} {rows : List (List AV)}
  (C : PSeqO P f caps' [(0, .rows true gn sz rs')] 1 more rows) (hfz : Frz h h') (ho : h' o = some (.rows true gn sz rs)) (hr : LeRows h h' n rs rs') (hbr : ∀ r ∈ rs', ∀ c ∈ r, Bel 0 c) (hg : GvRow h h' n o caps caps')
  (hlen : ∀ xs ∈ rows, xs.length = ps.length) (hk : Fgt n0 (ARange n0 more ps (fun n1 => awp P n1 a) (fun n1 => awp P n1 b) Q rows) e (upd h' o none) n) : aRange P n0 ps a b Q (.fn (.func f) [] caps) e h n :=
 .inr ⟨f, caps, caps', o, gn, sz, rs, rs', more, rows, h', rfl, hfz, ho, hr, hbr, hg, C, hlen, hk⟩
theorem ARange.go {ps : List Tmp} {a b : Code} {more : Nat} {xs : List AV} {rs : List (List AV)} (hn : n0 ≤ n)
  (hk : awp P n a (QNone (awp P n b (QRound (Fgt n0 (ARange n0 more ps (fun n1 => awp P n1 a) (fun n1 => awp P n1 b) Q rs)) Q e))) (putPs ps xs e) h n) :
  ARange n0 more ps (fun n1 => awp P n1 a) (fun n1 => awp P n1 b) Q (xs :: rs) e h n := ⟨hn, hk⟩
theorem Fgt.to {K : Env → Heap → Nat → Prop} {E : List (Nat × AV)} {HH : List (Nat × AObj)} {n' : Nat} (hk : K (mkE E) (mkH HH) n') (hw : Wk e h n E HH n') (hn : n0 ≤ n') : Fgt n0 K e h n := .inr ⟨E, HH, n', hw, hn, hk⟩
theorem ARange.ind {α : Type} (S : α → List (Nat × AV) × List (Nat × AObj) × Nat) (inv : List (List AV) → α → Prop) {ps : List Tmp} {A B : Nat → Post → Env → Heap → Nat → Prop} {more : Nat}
  (h0 : ∀ d, inv [] d → more = 0 ∧ Q .normal (mkE (S d).1) (mkH (S d).2.1) (S d).2.2)
  (h1 : ∀ xs rs d, inv (xs :: rs) d → (∀ d', inv rs d' → ARange n0 more ps A B Q rs (mkE (S d').1) (mkH (S d').2.1) (S d').2.2) → ARange n0 more ps A B Q (xs :: rs) (mkE (S d).1) (mkH (S d).2.1) (S d).2.2) :
  ∀ rows d, inv rows d → ARange n0 more ps A B Q rows (mkE (S d).1) (mkH (S d).2.1) (S d).2.2
 | [], d, hi => h0 d hi
 | xs :: rs, d, hi => h1 xs rs d hi fun d' hi' => ARange.ind S inv h0 h1 rs d' hi'
theorem QNone_normal {K : Env → Heap → Nat → Prop} : QNone K .normal e h n = K e h n := rfl
theorem QRound_normal {K : Env → Heap → Nat → Prop} {e0 : Env} : QRound K Q e0 .normal e h n = K (upd e0 GH (e GH)) h n := rfl
theorem QRound_ret {K : Env → Heap → Nat → Prop} {e0 : Env} : QRound K Q e0 .ret e h n = Q .ret (upd e0 GH (e GH)) h n := rfl
theorem QRound_exit {K : Env → Heap → Nat → Prop} {e0 : Env} {id : Nat} : QRound K Q e0 (.exit id) e h n = Q (.exit id) (upd e0 GH (e GH)) h n := rfl
theorem putPs_nil {xs : List AV} : putPs [] xs e = e := by simp [putPs]
theorem putPs_cons {t : Tmp} {ps : List Tmp} {x : AV} {xs : List AV} : putPs (t :: ps) (x :: xs) e = putPs ps xs (upd e t x) := rfl
theorem RetI_normal {rs : List ResultVar} {l more : Nat} : RetI P rs l more .normal e h n = ((resL P e h rs).1 ∧ ((more = 0 ∧ e GH = ghost l 0 []) ∨ e GH = ghost l 2 [])) := rfl
theorem RetI_ret {rs : List ResultVar} {l more : Nat} : RetI P rs l more .ret e h n = ((resL P e h rs).1 ∧ ((more = 0 ∧ e GH = ghost l 0 []) ∨ e GH = ghost l 2 [])) := rfl
theorem aYld.mk {dst : Option Tmp} {l more : Nat} {args xs : List AV} {rs : List (List AV)} (h' : Heap) (hg : e GH = ghost l more (xs :: rs)) (hfz : Frz h h') (hle : LeRow h h' n args xs) (hb : ∀ c ∈ xs, Bel 0 c)
  (hT : aops P ops Q rest (put (upd e GH (ghost l more rs)) dst (.v (.bool true))) h' n) (hF : aops P ops Q rest (put (upd e GH (ghost l 2 [])) dst (.v (.bool false))) h' n) : aYld P ops Q rest dst l args e h n :=
 ⟨l, more, xs :: rs, rfl, hg, h', hfz, hle, hb, hT, hF⟩
theorem aYld.exh {dst : Option Tmp} {l : Nat} {args : List AV} (hg : e GH = ghost l 1 []) : aYld P ops Q rest dst l args e h n := ⟨l, 1, [], rfl, hg, rfl⟩
theorem aGC.yld {dst : Option Tmp} {l more : Nat} {args xs : List AV} {rs : List (List AV)} (h' : Heap) (hg : e GH = ghost l more (xs :: rs)) (hfz : Frz h h') (hle : LeRow h h' n args xs) (hb : ∀ c ∈ xs, Bel 0 c)
  (hT : aops P ops Q rest (put (upd e GH (ghost l more rs)) dst (.gd true (.v (.bool true)))) h' n) (hF : aops P ops Q rest (put (upd e GH (ghost l 2 [])) dst (.gd true (.v (.bool false)))) h' n) :
  aGC P ops Q rest dst true (.fn (.yield l) [] []) args e h n := .inr (.inr ⟨rfl, l, more, xs :: rs, rfl, hg, h', hfz, hle, hb, hT, hF⟩)
theorem aGC.exh {dst : Option Tmp} {l : Nat} {args : List AV} (hg : e GH = ghost l 1 []) : aGC P ops Q rest dst true (.fn (.yield l) [] []) args e h n := .inr (.inr ⟨rfl, l, 1, [], rfl, hg, rfl⟩)
theorem GvRow_nil {h h' : Heap} {o : Nat} : GvRow h h' n o [] [] = True := eq_true .nil
theorem GvRow_ref {h h' : Heap} {o g sz i off : Nat} {xs ys : List AV} : GvRow h h' n o (.ref o g sz i off :: xs) (.ref 0 g sz i off :: ys) = GvRow h h' n o xs ys := by
 refine propext ⟨fun hg => ?_, .ref⟩
 cases hg with
 | ref t => exact t
 | le hx hb t => cases hb with | ref hb => exact absurd hb (Nat.not_lt_zero _)
theorem GvRow_fp {h h' : Heap} {o : Nat} {x : AV} {cells xs ys : List AV} : GvRow h h' n o (x :: xs) (.fp cells :: ys) = (LeV h h' n x (.fp cells) ∧ (∀ c ∈ cells, Bel 0 c) ∧ GvRow h h' n o xs ys) := by
 refine propext ⟨fun hg => ?_, fun ⟨h1, h2, h3⟩ => .le h1 (.fp h2) h3⟩
 cases hg with
 | le hx hb t => cases hb with | fp hb => exact ⟨hx, hb, t⟩
attribute [go_sem] GvRow_nil GvRow_ref GvRow_fp
attribute [go_sem] awp_rangeFunc QNone_normal QRound_normal QRound_ret QRound_exit putPs_nil putPs_cons RetI_normal RetI_ret aCall_yield
end
end Go.Av
end
section
/- Our library: an object's rows are forgotten at a call's end. -/
namespace Go.Av
open Go
theorem ACallP.clear {P : Program} {f : FuncId} {args : List AV} {h : Heap} {n : Nat} {K : CallK}
  (hc : ACallP P f args h n (fun r h' n' => ∃ o mt g sz rs, sz ≠ 2 ∧ h' o = some (.rows mt g sz rs) ∧ K r (upd h' o (some (.rows mt g sz []))) n')) : ACallP P f args h n K := by
 refine ⟨hc.1, fun M0 φ w vs hH hargs => (hc.2 M0 φ w vs hH hargs).mono ?_⟩
 rintro e w' ⟨v, φ', r, h', n', rfl, ⟨o, mt, g, sz, rs, hsz, ho, hK⟩, hH', hx, st⟩
 have hmut : Mut φ' (upd h' o (some (.rows mt g sz []))) = Mut φ' h' := by
  funext k
  refine propext ⟨?_, ?_⟩
  ·rintro ⟨o1, g1, sz1, rs1, g', a, bs, h1, h2, h3⟩
   by_cases he : o1 = o
   ·subst he
    rw [upd_same] at h1
    simp only [Option.some.injEq, AObj.rows.injEq] at h1
    obtain ⟨rfl, rfl, rfl, _⟩ := h1
    exact ⟨o1, g, sz, rs, g', a, bs, ho, h2, h3⟩
   ·rw [upd_ne _ _ he] at h1
    exact ⟨o1, g1, sz1, rs1, g', a, bs, h1, h2, h3⟩
  ·rintro ⟨o1, g1, sz1, rs1, g', a, bs, h1, h2, h3⟩
   by_cases he : o1 = o
   ·subst he
    rw [ho] at h1
    simp only [Option.some.injEq, AObj.rows.injEq] at h1
    obtain ⟨rfl, rfl, rfl, _⟩ := h1
    exact ⟨o1, g, sz, [], g', a, bs, by rw [upd_same], h2, h3⟩
   ·exact ⟨o1, g1, sz1, rs1, g', a, bs, by rw [upd_ne _ _ he]; exact h1, h2, h3⟩
 have hold : ∀ o1 mt1 g1 sz1 rs1, upd h' o (some (.rows mt g sz [])) o1 = some (.rows mt1 g1 sz1 rs1) → ∃ rs2, h' o1 = some (.rows mt1 g1 sz1 rs2) ∧ (rs1 = rs2 ∨ rs1 = []) := by
  intro o1 mt1 g1 sz1 rs1 h1
  by_cases he : o1 = o
  ·subst he
   rw [upd_same] at h1
   simp only [Option.some.injEq, AObj.rows.injEq] at h1
   obtain ⟨rfl, rfl, rfl, rfl⟩ := h1
   exact ⟨rs, ho, .inr rfl⟩
  ·rw [upd_ne _ _ he] at h1
   exact ⟨rs1, h1, .inl rfl⟩
 refine ⟨v, φ', r, _, n', rfl, hK, ⟨hH'.m0, hH'.fresh, fun o1 mt1 g1 sz1 rs1 h1 => ?_, fun o1 o2 mt1 g1 sz1 rs1 mt2 g2 sz2 rs2 a a' b b' h1 h2 => ?_, by rw [hmut]; exact hH'.glob⟩, by rw [hmut]; exact hx, st.le, by rw [hmut]; exact st.or, st.fr, by rw [hmut]; exact st.mutd⟩
 ·obtain ⟨rs2, h2, h3⟩ := hold _ _ _ _ _ h1
  obtain ⟨A, hA, hobj⟩ := hH'.obj _ _ _ _ _ h2
  rcases h3 with rfl | rfl
  ·rw [hmut]; exact ⟨A, hA, hobj⟩
  ·by_cases he : o1 = o
   ·subst he
    rw [ho] at h2
    simp only [Option.some.injEq, AObj.rows.injEq] at h2
    obtain ⟨rfl, rfl, rfl, rfl⟩ := h2
    refine ⟨A, hA, hobj.imp (fun h => ⟨h.1, rfl⟩) ?_⟩
    rintro ⟨a, bs, e1, e3, ⟨C, T, e2, e4, e5, e6, e7, e8, e9⟩ | ⟨es, clk, e2, e4, e5, e6, e9⟩⟩
    ·exact ⟨a, bs, e1, e3, .inl ⟨C, T, e2, e4, e5, by simp, by simp; omega, by simp, by simpa using RelL.nil⟩⟩
    ·exact absurd e6.1 hsz
   ·rw [upd_ne _ _ he] at h1
    rw [h1] at h2
    simp only [Option.some.injEq, AObj.rows.injEq] at h2
    obtain ⟨_, _, _, rfl⟩ := h2
    rw [hmut]; exact ⟨A, hA, hobj⟩
 ·obtain ⟨rs3, h3, _⟩ := hold _ _ _ _ _ h1
  obtain ⟨rs4, h4, _⟩ := hold _ _ _ _ _ h2
  exact hH'.inj _ _ _ _ _ _ _ _ _ _ _ _ _ _ h3 h4
end Go.Av
end
section
/- strings.indexFunc: where the first letter stands of which a function value tells true (the kit's proof, turned to worlds whose draws are counted). -/
open Go Go.Proofs Go.RowKit Go.Lib
namespace Go.Av
def PredD (P : Program) (g : Nat) (p : Nat → Bool) (w0 : World) : Prop :=
 ∀ (W : World) (x : Nat), Below w0.heap.size w0 W → Calls P g #[.int .i32 (x : Int)] W fun e w' => e = .returned (.bool (p x)) ∧ Below W.heap.size W w' ∧ W.drawn ≤ w'.drawn
set_option maxHeartbeats 2000000 in
set_option maxRecDepth 1000000 in
theorem indexFunc_calls (g : Nat) (eg : ∀ args w, (callFunc g args).run Tryz.prog w = .ok (.enter g args) w) (p : Nat → Bool) (s : ByteArray) (w : World) (hp : PredD Tryz.prog g p w) :
  Calls Tryz.prog 276 #[.string s, .func (.func g) #[] #[], .bool true] w fun e w' => e = .returned (.int .i64 (Lib.idxFunc p true s)) ∧ Below w.heap.size w w' ∧ w.drawn ≤ w'.drawn := by
 have t0 := Tryz.underlying0; have a0 := Tryz.isAgg0; have z0 := Tryz.sizeOf0; have v0 := Tryz.zeroValue0
 have t3 := Tryz.underlying3; have a3 := Tryz.isAgg3; have z3 := Tryz.sizeOf3; have v3 := Tryz.zeroValue3
 have t4 := Tryz.underlying4; have a4 := Tryz.isAgg4; have z4 := Tryz.sizeOf4; have v4 := Tryz.zeroValue4
 have t9 := Tryz.underlying9; have a9 := Tryz.isAgg9; have z9 := Tryz.sizeOf9; have v9 := Tryz.zeroValue9
 have t21 := Tryz.underlying21; have a21 := Tryz.isAgg21; have z21 := Tryz.sizeOf21; have v21 := Tryz.zeroValue21
 have t40 := Tryz.underlying291; have a40 := Tryz.isAgg291; have z40 := Tryz.sizeOf291; have v40 := Tryz.zeroValue291
 go_enter Tryz.func276, Tryz.ntmps276
 go_wp2
 go_loopg [] s.size (fun gf wx => ∃ pos : Nat, wx.heap[w.heap.size]? = some (.stringIter s pos) ∧ (Below w.heap.size w wx ∧ w.drawn ≤ wx.drawn) ∧ Lib.idxFuncFrom p true s gf pos = Lib.idxFunc p true s ∧ s.size ≤ pos + gf)
 case atStart => exact ⟨0, World.iter_heap w s 0, ⟨(Below.refl _ w).alloc (Nat.le_refl _) _, Nat.le_refl _⟩, rfl, by omega⟩
 case round =>
  obtain ⟨pos, hit, ⟨hbw, hdr⟩, hleft, hfu⟩ := hrel
  by_cases hps : pos < s.size
  ·obtain ⟨g', rfl⟩ : ∃ g', gk = g' + 1 := ⟨gk - 1, by omega⟩
   have hnx : ∀ ty, (Instr.next (.pointer (some ⟨w.heap.size, 0, none⟩)) true ty).run Tryz.prog wr = _ := fun ty => Lib.run_next_any_at wr w.heap.size s pos ty hit hps
   have hwd := Lib.width_pos s pos
   obtain ⟨R, hR⟩ : ∃ R, (Utf8.decode s pos).1 = R := ⟨_, rfl⟩
   obtain ⟨K, hK⟩ : ∃ K, (Utf8.decode s pos).2 = K := ⟨_, rfl⟩
   simp only [Lib.idxFuncFrom, hps, if_true, hR, hK] at hleft
   rw [hR, hK] at hnx
   rw [hK] at hwd
   have hit2 := Lib.iterAt_heap wr w.heap.size s pos (pos + K) hit
   have hbw2 := Lib.below_iterAt hbw (k := w.heap.size) (Nat.le_refl _) s (pos + K)
   have hdr2 : w.drawn ≤ (wr.iterAt w.heap.size s (pos + K)).drawn := hdr
   obtain ⟨W, hWd⟩ : ∃ W, wr.iterAt w.heap.size s (pos + K) = W := ⟨_, rfl⟩
   rw [hWd] at hnx hit2 hbw2 hdr2
   have hltW : w.heap.size < W.heap.size := (Array.getElem?_eq_some_iff.1 hit2).1
   have cS : Calls Tryz.prog g (#[.int .i32 (R : Int)] ++ #[]) W _ := hp W R hbw2
   clear hp
   cases hsp : p R <;> rw [hsp] at cS <;> simp only [hsp, if_true, Bool.false_eq_true, Bool.true_eq_false, if_false] at hleft
   ·go_wp2_with (go_at_fn g; refine cS.mono ?_; rintro e W' ⟨rfl, hbc, hdc⟩)
    go_roundg g'
    case measure => omega
    case rel => exact ⟨pos + K, (hbc.block _ hltW).trans hit2, ⟨(hbw2.trans (hbc.mono hbw2.size)), Nat.le_trans hdr2 hdc⟩, hleft, by omega⟩
   ·go_wp2_with (go_at_fn g; refine cS.mono ?_; rintro e W' ⟨rfl, hbc, hdc⟩)
    go_ret
    exact ⟨by rw [← hleft] <;> rfl, (hbw2.trans (hbc.mono hbw2.size)), Nat.le_trans hdr2 hdc⟩
  ·have hnx : ∀ ty, (Instr.next (.pointer (some ⟨w.heap.size, 0, none⟩)) true ty).run Tryz.prog wr = _ := fun ty => Lib.run_next_end_at wr w.heap.size s pos ty hit hps
   rw [Lib.idxFuncFrom_end p true s gk pos hps] at hleft
   go_wp2
   go_ret
   exact ⟨by rw [← hleft] <;> rfl, hbw, hdr⟩
end Go.Av
end
section
/- Contracts: names of kinds (game.validName, game.Find). -/
open Go Go.Proofs
namespace Go.Av
theorem indexFunc_pure (g : FuncId) (p : Nat → Bool) (hg : ∀ x : Nat, Pure Tryz.prog g [.v (.int .i32 x)] (.v (.bool (p x)))) (s : ByteArray) :
  Pure Tryz.prog 276 [.v (.string s), .fn (.func g) [] [], .v (.bool true)] (.v (.int .i64 (Lib.idxFunc p true s))) := by
 refine ⟨enters_of Tryz.func276 rfl rfl, fun M w vs hM hgl hr => ?_⟩
 cases hr with
 | cons h1 hr =>
 cases hr with
 | cons h2 hr =>
 cases hr with
 | cons h3 hr =>
 cases hr
 cases h1
 cases h3
 cases h2 with
 | @fn _ _ _ fs cs q1 q2 =>
 cases q1; cases q2
 have hp : PredD Tryz.prog g p w := fun W x hB => by
  refine ((hg x).2 (fun _ => False) W [.int .i32 x] (fun _ h => h.elim) (hgl.keep (fun k _ hk => hB.block k hk) (fun k h => h.elim)) (.cons (.v _) .nil)).mono ?_
  rintro e w' ⟨v, rfl, hrv, hfr⟩
  cases hrv
  exact ⟨rfl, ⟨hfr.os, hfr.tape, hfr.output, hfr.size, fun k hk => hfr.block k hk (fun h => h)⟩, hfr.drawn⟩
 refine (indexFunc_calls g (hg 0).1 p s w hp).mono ?_
 rintro e w' ⟨rfl, hb, hd⟩
 exact ⟨_, rfl, .v _, ⟨hb.os, hb.tape, hb.output, hd, hb.size, fun k hk _ => hb.block k hk⟩⟩
theorem sIndexFunc_pure (g : FuncId) (p : Nat → Bool) (hg : ∀ x : Nat, Pure Tryz.prog g [.v (.int .i32 x)] (.v (.bool (p x)))) (s : ByteArray) :
  Pure Tryz.prog 236 [.v (.string s), .fn (.func g) [] []] (.v (.int .i64 (Lib.idxFunc p true s))) := by
 refine pF Tryz.func236 ?_
 have h := indexFunc_pure g p hg s
 (repeat (first|with_reducible refine wV fun _=>?_|simp [go_sem]))
 refine ACallP.plain h (by simp [go_sem]) ?_
 (repeat (first|with_reducible refine wV fun _=>?_|simp [go_sem]))
theorem notLetter_pure (x : Nat) : Pure Tryz.prog 237 [.v (.int .i32 x)] (.v (.bool (decide (x < 97 ∨ 122 < x)))) := by
 refine pF Tryz.func237 ?_
 have e1 : decide ((x : Int) < 97) = decide (x < 97) := decide_eq_decide.2 (by omega)
 have e2 : decide (122 < (x : Int)) = decide (122 < x) := decide_eq_decide.2 (by omega)
 (repeat (first|with_reducible refine wV fun _=>?_|simp [go_sem, e1, e2]))
theorem validName_pure (s : ByteArray) (hs : s = nameA ∨ s = nameB) : Pure Tryz.prog 180 [.v (.string s)] (.v (.bool true)) := by
 refine pF Tryz.func180 ?_
 have hI := sIndexFunc_pure 237 (fun x => decide (x < 97 ∨ 122 < x)) notLetter_pure s
 have hidx : Lib.idxFunc (fun x => decide (x < 97 ∨ 122 < x)) true s = -1 := by rcases hs with rfl | rfl <;> decide +kernel
 rw [hidx] at hI
 have hne : (!s.toList.isEmpty && decide ((s.size : Int) ≤ 8)) = true := by rcases hs with rfl | rfl <;> decide +kernel
 (repeat (first|with_reducible refine wV fun _=>?_|simp [go_sem, hne]))
 refine aGC.plain _ (fun _ => hI) (by simp [go_sem]) ?_
 (repeat (first|with_reducible refine wV fun _=>?_|simp [go_sem]))
theorem find1_pure (k : KindD) (nm : ByteArray) : Pure Tryz.prog 238 [.agg (encKind k), .fp [.v (.string nm)]] (.v (.bool (k.name.toList == nm.toList))) := by
 refine pF Tryz.func238 ?_
 (repeat (first|with_reducible refine wV fun _=>?_|simp [go_sem]))
theorem gFind_pure (g : GameD) (nm : ByteArray) (hk : g.kinds.length ≤ 1048576) : Pure Tryz.prog 181 [.agg (encGame g), .v (.string nm)] (.v (.int .i64 (idxG (fun k => k.name.toList == nm.toList) g.kinds))) := by
 refine pF Tryz.func181 ?_
 have hI := IndexFuncK_pure g.kinds hk 238 [.fp [.v (.string nm)]] (fun k => k.name.toList == nm.toList) (fun k _ => find1_pure k nm) (by simp [go_sem])
 (repeat (first|with_reducible refine wV fun _=>?_|simp [go_sem]))
 refine ACallP.flat (args' := [.lst 3 (g.kinds.map encKind), .fn (.func 238) [] [.fp [.v (.string nm)]]]) hI (.v _) ?_ (by simp [go_sem]) ?_
 ·refine .cons (.refl _) (.cons (.fn .nil (.cons (.frzP rfl ?_ ?_ ?_ ?_) .nil)) .nil) <;> first | exact LeRow.refl _ _ _ _ | simp [noH]
 (repeat (first|with_reducible refine wV fun _=>?_|simp [go_sem]))
theorem isResult_pure (n : Int) : Pure Tryz.prog 177 [.v (.int .i64 n)] (.v (.bool (decide (1 ≤ n) && decide (n ≤ 3)))) := by
 refine pF Tryz.func177 ?_
 (repeat (first|with_reducible refine wV fun _=>?_|simp [go_sem]))
theorem right_true (g : GameD) (c : Int × Int × Int × Int) (hk : g.kinds.length ≤ 1048576) (hc : ClauseOk g.cells g.kinds.length c) : Pure Tryz.prog 185 [.agg (encGame g), .agg (encClause c)] (.v (.bool true)) := by
 refine pF Tryz.func185 ?_
 obtain ⟨h1, ⟨h2, h2'⟩, ⟨h3, h4, h5, h6⟩, ⟨h7, h7'⟩, h8⟩ := hc
 have hR := isResult_pure c.2.2.2
 have e : (decide (1 ≤ c.2.2.2) && decide (c.2.2.2 ≤ 3)) = true := by simp [h7, h7']
 rw [e] at hR
 obtain ⟨a, b, n, t⟩ := c
 simp only at *
 rcases h1 with rfl | rfl | rfl
 ·(repeat (first|with_reducible refine wV fun _=>?_|simp [go_sem, h2, h2']))
  refine ACallP.plain hR (by simp [go_sem]) ?_
  (repeat (first|with_reducible refine wV fun _=>?_|simp [go_sem, h4, h5]))
 ·(repeat (first|with_reducible refine wV fun _=>?_|simp [go_sem, h2, h2']))
  refine ACallP.plain hR (by simp [go_sem]) ?_
  (repeat (first|with_reducible refine wV fun _=>?_|simp [go_sem, h4, h3]))
 ·(repeat (first|with_reducible refine wV fun _=>?_|simp [go_sem, h2, h2']))
  refine ACallP.plain hR (by simp [go_sem]) ?_
  (repeat (first|with_reducible refine wV fun _=>?_|simp [go_sem, h8, h3, h6]))
end Go.Av
end
section
/- Contracts: prog.Valid is true at a right program. -/
open Go Go.Proofs
namespace Go.Av
def numberOf (op : Int) : Int := if op = 1 ∨ op = 2 ∨ op = 7 then 1 else if op = 8 then 2 else if op = 9 ∨ op = 10 then 3 else 0
def wordOf (op : Int) : ByteArray := if op = 1 then ⟨#[103, 111]⟩ else if op = 2 then ⟨#[115, 108, 105, 100, 101]⟩ else if op = 3 then ⟨#[101, 109, 112, 116, 121]⟩ else if op = 4 then ⟨#[101, 110, 101, 109, 121]⟩
 else if op = 5 then ⟨#[102, 114, 105, 101, 110, 100]⟩ else if op = 6 then ⟨#[116, 97, 107, 101]⟩ else if op = 7 then ⟨#[112, 117, 115, 104]⟩ else if op = 8 then ⟨#[98, 101, 99, 111, 109, 101]⟩ else if op = 9 then ⟨#[110, 101, 101, 100]⟩ else ⟨#[108, 111, 115, 101]⟩
def encRows : List AV := [.v (.string ⟨#[]⟩), .v (.int .i64 0)] ++ (([1, 2, 3, 4, 5, 6, 7, 8, 9, 10] : List Int).map fun op => [AV.v (.string (wordOf op)), .v (.int .i64 (numberOf op))]).flatten
theorem bel_encRows (n : Nat) : ∀ c ∈ encRows, Bel n c := by
 intro c hc
 have hall : encRows.all (fun c => match c with | .v _ => true | _ => false) = true := rfl
 have h := List.all_eq_true.1 hall c hc
 cases c <;> simp at h
 exact .v _
theorem rows_pure : Pure Tryz.prog 274 [] (.agg encRows) := by
 refine pF Tryz.func274 ?_
 (repeat (first|with_reducible refine wV fun _=>?_|simp [go_sem]))
 exact ⟨LeRow.of_eq rfl, bel_encRows 0⟩
theorem find_pure (op : Int) (h : 1 ≤ op ∧ op ≤ 10) : Pure Tryz.prog 233 [.v (.int .i64 op)] (.tup [.agg [.v (.string (wordOf op)), .v (.int .i64 (numberOf op))], .v (.bool true)]) := by
 refine pF Tryz.func233 ?_
 have hr := rows_pure
 have hl : encRows.length = 22 := rfl
 rcases (show op = 1 ∨ op = 2 ∨ op = 3 ∨ op = 4 ∨ op = 5 ∨ op = 6 ∨ op = 7 ∨ op = 8 ∨ op = 9 ∨ op = 10 by omega) with rfl | rfl | rfl | rfl | rfl | rfl | rfl | rfl | rfl | rfl
 all_goals
  (repeat (first|with_reducible refine wV fun _=>?_|simp [go_sem]))
  refine ACallP.plain hr (by simp [go_sem]) ?_
  (repeat (first|with_reducible refine wV fun _=>?_|simp [go_sem, hl]))
  exact LeRow.of_eq rfl
theorem count_pure (p : List (Int × Int)) (hp : p.length ≤ 1048576) (op : Int) : Pure Tryz.prog 235 [encProg p, .v (.int .i64 op)] (.v (.int .i64 (countOp p op))) := by
 refine pF Tryz.func235 ?_
 generalize hR : countOp p op = R
 (repeat (first|with_reducible refine wV fun _=>?_|simp [go_sem]))
 refine ALoop.start (ALoop.ind (α := Nat × Nat) (fun a => ⟨[(1, .v (.int .i64 op)), (5, .v (.int .i64 a.2)), (8, encProg p), (9, .int p.length), (10, .v (.int .i64 a.1))], [], 0⟩)
  (fun d a => a.1 + d = p.length ∧ a.2 ≤ a.1 ∧ a.2 + countOp (p.drop a.1) op = R) ?_ p.length (0, 0) ?_) ?_ ?_
 ·rintro d ⟨i, n⟩ ⟨i1, i2, i3⟩ hrec
  simp only at i1 i2 i3
  (repeat (first|with_reducible refine wV fun _=>?_|simp [go_sem]))
  refine aIf.mkL (fun hi => ?_) (fun hi => ?_) <;> simp at hi
  ·rw [dropG_cons hi] at i3
   unfold countOp at i3
   rw [List.countP_cons] at i3
   (repeat (first|with_reducible refine wV fun _=>?_|simp [go_sem, hi]))
   refine aIf.mkL (fun he => ?_) (fun he => ?_) <;> simp at he
   ·simp [he] at i3
    (repeat (first|with_reducible refine wV fun _=>?_|simp [go_sem]))
    refine ALoop.start (hrec (d - 1) (by omega) (i + 1, n + 1) ⟨by simp only; omega, by simp only; omega, by simp only [countOp]; omega⟩) ?_ (by simp)
    simp [go_sem, Wk_eq]
   ·simp [he] at i3
    (repeat (first|with_reducible refine wV fun _=>?_|simp [go_sem]))
    refine ALoop.start (hrec (d - 1) (by omega) (i + 1, n) ⟨by simp only; omega, by simp only; omega, by simp only [countOp]; omega⟩) ?_ (by simp)
    simp [go_sem, Wk_eq]
  ·rw [List.drop_eq_nil_of_le hi] at i3
   simp [countOp] at i3
   subst i3
   (repeat (first|with_reducible refine wV fun _=>?_|simp [go_sem]))
 ·exact ⟨by simp, by simp, by simpa using hR⟩
 ·simp [go_sem, Wk_eq]
 ·simp
theorem odd_false (x : Int × Int) (D K R : Int) (hx : StepOk D K R x) (hK : 0 ≤ K) : Pure Tryz.prog 232 [.agg (encStep x), .fp [.v (.int .i64 1), .v (.int .i64 D), .v (.int .i64 K), .v (.int .i64 R)]] (.v (.bool false)) := by
 refine pF Tryz.func232 ?_
 obtain ⟨hop, hd, hz, hk, hr⟩ := hx
 have hf := find_pure x.1 hop
 obtain ⟨op, N⟩ := x
 simp only at *
 have hN : 0 ≤ N := by omega
 have hN' : ¬ N < 0 := by omega
 have hops : op = 1 ∨ op = 2 ∨ op = 3 ∨ op = 4 ∨ op = 5 ∨ op = 6 ∨ op = 7 ∨ op = 8 ∨ op = 9 ∨ op = 10 := by omega
 have hL : N < nth ([1, D, K, R] : List Int) (numberOf op).toNat := by
  rcases hops with rfl | rfl | rfl | rfl | rfl | rfl | rfl | rfl | rfl | rfl <;> simp [numberOf, nth] <;> omega
 rcases hops with rfl | rfl | rfl | rfl | rfl | rfl | rfl | rfl | rfl | rfl
 all_goals
  simp [numberOf, nth] at hf hL
  have hL' := Int.not_le.2 hL
  (repeat (first|with_reducible refine wV fun _=>?_|simp [go_sem]))
  refine ACallP.plain hf (by simp [go_sem]) ?_
  (repeat (first|with_reducible refine wV fun _=>?_|simp [go_sem, hN, hN', hL']))
theorem pValid_true (p : List (Int × Int)) (D K R : Int) (hp : ProgOk D K R p) (hK : 0 ≤ K) : Pure Tryz.prog 179 [encProg p, .v (.int .i64 D), .v (.int .i64 K), .v (.int .i64 R)] (.v (.bool true)) := by
 refine pF Tryz.func179 ?_
 obtain ⟨h1, h2, h3, h4, h5, h6⟩ := hp
 have hc := ContainsFuncS_pure p (by omega) 232 [.fp [.v (.int .i64 1), .v (.int .i64 D), .v (.int .i64 K), .v (.int .i64 R)]] (fun _ => false) (fun x hx => odd_false x D K R (h3 x hx) hK) (by simp [go_sem])
 have he : (p.any fun _ => false) = false := by simp
 rw [he] at hc
 have hc6 := count_pure p (by omega) 6
 have hc7 := count_pure p (by omega) 7
 have hc8 := count_pure p (by omega) 8
 have a1 : 0 < p.length := by omega
 have a2 : (p.length : Int) ≤ 8 := by omega
 have a3 : (countOp p 6 : Int) ≤ 2 := by omega
 have a4 : (countOp p 7 : Int) ≤ 1 := by omega
 have a5 : (countOp p 8 : Int) ≤ 1 := by omega
 (repeat (first|with_reducible refine wV fun _=>?_|simp [go_sem, a1, a2, h2]))
 refine aGC.flat [encProg p, .fn (.func 232) [] [.fp [.v (.int .i64 1), .v (.int .i64 D), .v (.int .i64 K), .v (.int .i64 R)]]] (.v (.bool false)) (fun _ => hc) (.v _) ?_ (by simp [go_sem]) ?_
 ·refine .cons (.refl _) (.cons (.fn .nil (.cons (.frzP rfl ?_ ?_ ?_ ?_) .nil)) .nil) <;> first | exact LeRow.refl _ _ _ _ | simp [noH]
 (repeat (first|with_reducible refine wV fun _=>?_|simp [go_sem, a1, a2]))
 refine aGC.plain _ (fun _ => hc6) (by simp [go_sem]) ?_
 (repeat (first|with_reducible refine wV fun _=>?_|simp [go_sem, a3]))
 refine aGC.plain _ (fun _ => hc7) (by simp [go_sem]) ?_
 (repeat (first|with_reducible refine wV fun _=>?_|simp [go_sem, a4]))
 refine aGC.plain _ (fun _ => hc8) (by simp [go_sem]) ?_
 (repeat (first|with_reducible refine wV fun _=>?_|simp [go_sem, a5]))
end Go.Av
end
section
/- Contracts: board.Valid is true at a right board. -/
open Go Go.Proofs
namespace Go.Av
theorem bIn_pure (n a b : Int) : Pure Tryz.prog 230 [.v (.int .i64 n), .v (.int .i64 a), .v (.int .i64 b)] (.v (.bool (decide (a ≤ n) && decide (n ≤ b)))) := by
 refine pF Tryz.func230 ?_
 (repeat (first|with_reducible refine wV fun _=>?_|simp [go_sem]))
theorem bIn_true {n a b : Int} (h1 : a ≤ n) (h2 : n ≤ b) : Pure Tryz.prog 230 [.v (.int .i64 n), .v (.int .i64 a), .v (.int .i64 b)] (.v (.bool true)) := by
 have := bIn_pure n a b
 rwa [show (decide (a ≤ n) && decide (n ≤ b)) = true by simp [h1, h2]] at this
theorem bOut_false (b : BoardD) (hb : BoardOk b) (x : Int) (hx : -1 ≤ x ∧ x < b.cells) : Pure Tryz.prog 231 [.v (.int .i64 x), .fp [.fn (.func 230) [] []], .fp (encB b)] (.v (.bool false)) := by
 refine pF Tryz.func231 ?_
 have hI := bIn_true (n := x) (a := -1) (b := b.cells - 1) hx.1 (by omega)
 have hc0 := hb.c0
 have hc1 := hb.c1
 (repeat (first|with_reducible refine wV fun _=>?_|simp [go_sem]))
 refine ACallP.plain hI (by simp [go_sem]) ?_
 (repeat (first|with_reducible refine wV fun _=>?_|simp [go_sem]))
theorem bValid_true (b : BoardD) (hb : BoardOk b) (h1 : 1 ≤ b.cells) (h2 : b.cells ≤ 64) (h3 : 1 ≤ b.next.length) (h4 : b.next.length ≤ 8) (ht : ∀ d, d < b.turn.length → nth b.turn (nth b.turn d).toNat = d) :
  Pure Tryz.prog 176 [.agg (encB b)] (.v (.bool true)) := by
 refine pF Tryz.func176 ?_
 have hO := fun x hx => bOut_false b hb x hx
 obtain ⟨tl, tv, nl, nv, c0, c1, n1⟩ := hb
 have hI1 := bIn_true (n := b.cells) (a := 1) (b := 64) h1 h2
 have hI2 := bIn_true (n := b.next.length) (a := 1) (b := 8) (by omega) (by omega)
 (repeat (first|with_reducible refine wV fun _=>?_|simp [go_sem]))
 refine ACallP.plain hI1 (by simp [go_sem]) ?_
 (repeat (first|with_reducible refine wV fun _=>?_|simp [go_sem]))
 refine aGC.plain _ (fun _ => hI2) (by simp [go_sem]) ?_
 (repeat (first|with_reducible refine wV fun _=>?_|simp [go_sem, tl]))
 refine ALoop.start (ALoop.ind (α := Nat) (fun d => ⟨[(1, .ref 0 0 3 0 0), (3, .int b.next.length), (4, .ref 1 0 1 0 0), (29, encIss b.next), (30, .int b.next.length), (31, .v (.int .i64 d))],
   [(0, .rows true 0 3 [encB b]), (1, .rows true 0 1 [[.fn (.func 230) [] []]])], 2⟩)
  (fun f d => d + f = b.next.length) ?_ b.next.length 0 ?_) ?_ ?_
 ·rintro f d i1 hrec
  (repeat (first|with_reducible refine wV fun _=>?_|simp [go_sem]))
  refine aIf.mkL (fun hd => ?_) (fun hd => ?_) <;> simp at hd
  ·have hm := nth_mem hd
   have hlen := nl _ hm
   have hv := nv _ hm
   have hdt : d < b.turn.length := by omega
   have htv := tv _ (nth_mem hdt)
   have hti : (nth b.turn d).toNat < b.turn.length := by omega
   have htt := ht d hdt
   have hCF := ContainsFunc_pure (nth b.next d) (by unfold Fits; omega) 231 [] [.fp [.fn (.func 230) [] []], .fp (encB b)] (fun _ => false) (fun x hx => hO x (hv x hx)) (by simp) (by simp [go_sem])
   rw [show ((nth b.next d).any fun _ => false) = false by simp] at hCF
   have hI3 := bIn_true (n := nth b.turn d) (a := 0) (b := (b.next.length : Int) - 1) htv.1 (by omega)
   (repeat (first|with_reducible refine wV fun _=>?_|simp [go_sem, hd, hlen]))
   refine aGC.flat [encIs (nth b.next d), .fn (.func 231) [] [.fp [.fn (.func 230) [] []], .fp (encB b)]] (.v (.bool false)) (fun _ => hCF) (.v _) ?_ (by simp [go_sem]) ?_
   ·refine .cons (.refl _) (.cons (.fn .nil (.cons (.frzP rfl ?_ ?_ ?_ ?_) (.cons (.frzP rfl ?_ ?_ ?_ ?_) .nil))) .nil) <;> first | exact LeRow.refl _ _ _ _ | simp [noH]
   (repeat (first|with_reducible refine wV fun _=>?_|simp [go_sem, hd, hdt]))
   refine dCall.plain hI3 (by simp [go_sem]) ?_
   (repeat (first|with_reducible refine wV fun _=>?_|simp [go_sem, hd, hdt, hti, htt]))
   refine ALoop.start (hrec (f - 1) (by omega) (d + 1) (by omega)) ?_ (by simp)
   simp [go_sem, Wk_eq]
  ·(repeat (first|with_reducible refine wV fun _=>?_|simp [go_sem]))
 ·simp
 ·simp [go_sem, Wk_eq]
 ·simp
end Go.Av
end
section
/- Contracts: game.Valid is true at a right game; normal games. -/
open Go Go.Proofs
namespace Go.Av
def NamesOk (g : GameD) : Prop := g.kinds.map (·.name) = [nameA] ∨ g.kinds.map (·.name) = [nameA, nameB]
theorem NamesOk.name {g : GameD} (h : NamesOk g) : ∀ k ∈ g.kinds, k.name = nameA ∨ k.name = nameB := by
 intro k hk
 have hm : k.name ∈ g.kinds.map (·.name) := List.mem_map.2 ⟨k, hk, rfl⟩
 rcases h with h | h <;> rw [h] at hm <;> simp at hm
 ·exact .inl hm
 ·exact hm
theorem nameA_nameB : (nameA.toList == nameB.toList) = false := by decide +kernel
theorem NamesOk.find {g : GameD} (h : NamesOk g) {i : Nat} (hi : i < g.kinds.length) : idxG (fun k : KindD => k.name.toList == (nth g.kinds i).name.toList) g.kinds = i := by
 refine idxG_at hi (fun j hj => ?_) (by simp)
 have hn : ∀ j, j < g.kinds.length → (nth g.kinds j).name = nth (g.kinds.map (·.name)) j := fun j hj => (nth_map _ _ _ hj).symm
 have hl : (g.kinds.map (·.name)).length = g.kinds.length := by simp
 rw [hn i hi, hn j (by omega)]
 rcases h with h | h <;> rw [h] at hl ⊢ <;> simp at hl
 ·omega
 ·obtain rfl : j = 0 := by omega
  obtain rfl : i = 1 := by omega
  exact nameA_nameB
theorem wrongP_false (g : GameD) (hg : GOk g) (p : List (Int × Int)) (hp : ProgOk g.next.length g.kinds.length g.rights p) : Pure Tryz.prog 178 [encProg p, .fp (encGame g)] (.v (.bool false)) := by
 refine pF Tryz.func178 ?_
 have hV := pValid_true p _ _ _ hp (by omega)
 (repeat (first|with_reducible refine wV fun _=>?_|simp [go_sem]))
 refine ACallP.plain hV (by simp [go_sem]) ?_
 (repeat (first|with_reducible refine wV fun _=>?_|simp [go_sem]))
theorem wrongC_false (g : GameD) (hg : GOk g) (c : Int × Int × Int × Int) (hc : ClauseOk g.cells g.kinds.length c) : Pure Tryz.prog 184 [.agg (encClause c), .fp (encGame g)] (.v (.bool false)) := by
 refine pF Tryz.func184 ?_
 have hk6 := hg.k6
 have hV := right_true g c (by omega) hc
 have hbl : ∀ n, (∀ c' ∈ encGame g, Bel n c') = True := fun n => by simp [go_sem]
 have hel : (encGame g).length = 9 := rfl
 have het : (encGame g).take 9 = encGame g := rfl
 generalize encGame g = eg at *
 (repeat (first|with_reducible refine wV fun _=>?_|simp [go_sem, hel, het]))
 refine ACallP.plain hV (by simp [go_sem, hbl]) ?_
 (repeat (first|with_reducible refine wV fun _=>?_|simp [go_sem]))
theorem gValid_true (g : GameD) (hg : GOk g) (hn : NamesOk g) : Pure Tryz.prog 130 [.agg (encGame g)] (.v (.bool true)) := by
 refine pF Tryz.func130 ?_
 have hB := bValid_true g.board hg.board hg.c1 (by have := hg.c9; have : g.board.cells = g.cells := rfl; omega) hg.d1 hg.d8 hg.turn
 have hW := fun p hp => wrongP_false g hg p hp
 have hWC := fun c hc => wrongC_false g hg c hc
 have hRb := isResult_pure g.blocked
 rw [show (decide (1 ≤ g.blocked) && decide (g.blocked ≤ 3)) = true by simp [hg.bl]] at hRb
 have hRe := isResult_pure g.endless
 rw [show (decide (1 ≤ g.endless) && decide (g.endless ≤ 3)) = true by simp [hg.en]] at hRe
 have k1 := hg.k1
 have k6 := hg.k6
 have r0 := hg.r0
 have r4 := hg.r4
 have cn := hg.cn
 have hF := fun (nm : ByteArray) => gFind_pure g nm (by omega)
 have hbl : ∀ n, (∀ c' ∈ encGame g, Bel n c') = True := fun n => by simp [go_sem]
 have heB : encB g.board = [.v (.int .i64 g.cells), encIss g.next, encIs g.turn] := rfl
 have heG : encGame g = [.v (.int .i64 g.cells), encIss g.next, encIs g.turn, .lst 3 (g.kinds.map encKind), .v (.int .i64 g.rights), .v (.bool g.must), .lst 4 (g.clauses.map encClause), .v (.int .i64 g.blocked), .v (.int .i64 g.endless)] := rfl
 have d1 : ¬ (g.kinds.length : Int) < 1 := by omega
 have d2 : ¬ 6 < (g.kinds.length : Int) := by omega
 have d3 : ¬ g.rights < 0 := by omega
 have d4 : ¬ 4 < g.rights := by omega
 have d5 : ¬ 6 < (g.clauses.length : Int) := by omega
 rw [heB] at hB
 (repeat (first|with_reducible refine wV fun _=>?_|simp [go_sem]))
 refine ACallP.plain hB (by simp [go_sem]) ?_
 (repeat (first|with_reducible refine wV fun _=>?_|simp [go_sem, d1, d2, d3, d4, d5]))
 refine aGC.plain _ (fun _ => hRb) (by simp [go_sem]) ?_
 (repeat (first|with_reducible refine wV fun _=>?_|simp [go_sem]))
 refine aGC.plain _ (fun _ => hRe) (by simp [go_sem]) ?_
 (repeat (first|with_reducible refine wV fun _=>?_|simp [go_sem]))
 refine ALoop.start (ALoop.ind (α := Nat) (fun i => ⟨[(1, .ref 0 0 9 0 0), (51, .lst 3 (g.kinds.map encKind)), (52, .int g.kinds.length), (53, .v (.int .i64 i))], [(0, .rows true 0 9 [encGame g])], 1⟩)
  (fun d i => i + d = g.kinds.length) ?_ g.kinds.length 0 ?_) ?_ ?_
 ·rintro d i i1 hrec
  (repeat (first|with_reducible refine wV fun _=>?_|simp [go_sem]))
  refine aIf.mkL (fun hi => ?_) (fun hi => ?_) <;> simp at hi
  ·have hm := nth_mem hi
   have hVN := validName_pure _ (hn.name _ hm)
   have hFi := hF (nth g.kinds i).name
   rw [hn.find hi] at hFi
   have hpn := hg.pn _ hm
   have d6 : ¬ 8 < ((nth g.kinds i).progs.length : Int) := by omega
   have hCP := ContainsFuncP_pure (nth g.kinds i).progs (by omega) 178 [.fp (encGame g)] (fun _ => false) (fun p hp => hW p (hg.pr _ hm p hp)) (by simp [go_sem])
   rw [show ((nth g.kinds i).progs.any fun _ => false) = false by simp] at hCP
   rw [heG] at hFi
   (repeat (first|with_reducible refine wV fun _=>?_|simp [go_sem, hi]))
   refine ACallP.plain hVN (by simp [go_sem]) ?_
   (repeat (first|with_reducible refine wV fun _=>?_|simp [go_sem]))
   refine aGC.plain _ (fun _ => hFi) (by simp [go_sem]) ?_
   (repeat (first|with_reducible refine wV fun _=>?_|simp [go_sem, d6]))
   refine aGC.flat [.lst 1 ((nth g.kinds i).progs.map fun p => [encProg p]), .fn (.func 178) [] [.fp (encGame g)]] (.v (.bool false)) (fun _ => hCP) (.v _) ?_ (by simp [go_sem]) ?_
   ·refine .cons (.refl _) (.cons (.fn .nil (.cons (.frzP rfl ?_ ?_ ?_ ?_) .nil)) .nil) <;> first | exact LeRow.refl _ _ _ _ | simp [noH]
   (repeat (first|with_reducible refine wV fun _=>?_|simp [go_sem]))
   refine ALoop.start (hrec (d - 1) (by omega) (i + 1) (by omega)) ?_ (by simp)
   simp [go_sem, Wk_eq]
  ·have hCC := ContainsFuncC_pure g.clauses (by omega) 184 [.fp (encGame g)] (fun _ => false) (fun c hc => hWC c (hg.cl c hc)) (by simp [go_sem])
   rw [show (g.clauses.any fun _ => false) = false by simp] at hCC
   (repeat (first|with_reducible refine wV fun _=>?_|simp [go_sem]))
   refine ACallP.flat (args' := [.lst 4 (g.clauses.map encClause), .fn (.func 184) [] [.fp (encGame g)]]) hCC (.v _) ?_ (by simp [go_sem]) ?_
   ·refine .cons (.refl _) (.cons (.fn .nil (.cons (.frzP rfl ?_ ?_ ?_ ?_) .nil)) .nil) <;> first | exact LeRow.refl _ _ _ _ | simp [noH]
   (repeat (first|with_reducible refine wV fun _=>?_|simp [go_sem]))
 ·simp
 ·simp [go_sem, Wk_eq]
 ·simp
def normalB (g : GameD) : Bool := decide (g.clauses.length = 0) && decide (g.rights = 0) && !g.must && !(g.kinds.any fun k => k.keep) && decide (g.blocked = 3) && decide (g.endless = 2)
theorem keeps_pure (k : KindD) : Pure Tryz.prog 129 [.agg (encKind k)] (.v (.bool k.keep)) := by
 refine pF Tryz.func129 ?_
 (repeat (first|with_reducible refine wV fun _=>?_|simp [go_sem]))
theorem rNormal_pure (g : GameD) (hg : GOk g) (hn : NamesOk g) : Pure Tryz.prog 66 [.agg (encGame g)] (.v (.bool (normalB g))) := by
 refine pF Tryz.func66 ?_
 have hV := gValid_true g hg hn
 have k6 := hg.k6
 have hK := ContainsFuncK_pure g.kinds (by omega) 129 [] (fun k => k.keep) (fun k _ => keeps_pure k) (by simp)
 have heG : encGame g = [.v (.int .i64 g.cells), encIss g.next, encIs g.turn, .lst 3 (g.kinds.map encKind), .v (.int .i64 g.rights), .v (.bool g.must), .lst 4 (g.clauses.map encClause), .v (.int .i64 g.blocked), .v (.int .i64 g.endless)] := rfl
 rw [heG] at hV
 unfold normalB
 (repeat (first|with_reducible refine wV fun _=>?_|simp [go_sem]))
 refine ACallP.plain hV (by simp [go_sem]) ?_
 (repeat (first|with_reducible refine wV fun _=>?_|simp [go_sem]))
 refine aGC.plain _ (fun _ => hK) (by simp [go_sem]) ?_
 (repeat (first|with_reducible refine wV fun _=>?_|simp [go_sem]))
end Go.Av
end
section
/- Contracts, the reference of layer 22: normal games; equality of lists. -/
open Go Go.Proofs
namespace Go.Av
theorem drop_consG {α : Type} [Inhabited α] {l : List α} {j : Nat} (h : j < l.length) : l.drop j = nth l j :: l.drop (j + 1) := by rw [List.drop_eq_getElem_cons h, nth_eq _ _ h]
theorem Ints1_pure (a b : List Int) (ha : Fits a) (hb : Fits b) : Pure Tryz.prog 65 [encIs a, encIs b] (.v (.bool (decide (a = b)))) := by
 refine pF Tryz.func65 ?_
 unfold Fits at ha hb
 (repeat (first|with_reducible refine wV fun _=>?_|simp [go_sem]))
 refine aIf.mkL (fun hl => ?_) (fun hl => ?_) <;> simp at hl
 ·have e : decide (a = b) = false := by simp; rintro rfl; exact hl rfl
  (repeat (first|with_reducible refine wV fun _=>?_|simp [go_sem, e]))
 ·(repeat (first|with_reducible refine wV fun _=>?_|simp [go_sem]))
  refine ALoop.start (ALoop.ind (α := Nat) (fun j => ⟨[(0, encIs a), (1, encIs b), (5, .v (.int .i64 j))], [], 0⟩)
   (fun d j => j + d = a.length ∧ ((a = b) ↔ (a.drop j = b.drop j))) ?_ a.length 0 ?_) ?_ ?_
  ·rintro d j ⟨i1, i3⟩ hrec
   (repeat (first|with_reducible refine wV fun _=>?_|simp [go_sem]))
   refine aIf.mkL (fun hj => ?_) (fun hj => ?_) <;> simp at hj
   ·have hj2 : j < b.length := by omega
    rw [drop_consG hj, drop_consG hj2, List.cons.injEq] at i3
    (repeat (first|with_reducible refine wV fun _=>?_|simp [go_sem, hj, hj2]))
    refine aIf.mkL (fun he => ?_) (fun he => ?_) <;> simp at he
    ·have e : decide (a = b) = false := by simp; intro h; exact he (i3.1 h).1
     (repeat (first|with_reducible refine wV fun _=>?_|simp [go_sem, e]))
    ·(repeat (first|with_reducible refine wV fun _=>?_|simp [go_sem]))
     refine ALoop.start (hrec (d - 1) (by omega) (j + 1) ⟨by omega, i3.trans ⟨fun h => h.2, fun h => ⟨he, h⟩⟩⟩) ?_ (by simp)
     simp [go_sem, Wk_eq]
   ·rw [List.drop_eq_nil_of_le hj, List.drop_eq_nil_of_le (by omega)] at i3
    have e : decide (a = b) = true := by simpa using i3.2 rfl
    (repeat (first|with_reducible refine wV fun _=>?_|simp [go_sem, e]))
  ·simp
  ·simp [go_sem, Wk_eq]
  ·simp
theorem Lists_pure (a b : List PosD) (ha : a.length ≤ 1099511627776) (hb : b.length ≤ 1099511627776) (hfa : ∀ p ∈ a, FitsP p) (hfb : ∀ p ∈ b, FitsP p) :
  Pure Tryz.prog 26 [encPs a, encPs b] (.v (.bool (decide (a = b)))) := by
 refine pF Tryz.func26 ?_
 (repeat (first|with_reducible refine wV fun _=>?_|simp [go_sem]))
 refine aIf.mkL (fun hl => ?_) (fun hl => ?_) <;> simp at hl
 ·have e : decide (a = b) = false := by simp; rintro rfl; exact hl rfl
  (repeat (first|with_reducible refine wV fun _=>?_|simp [go_sem, e]))
 ·(repeat (first|with_reducible refine wV fun _=>?_|simp [go_sem]))
  refine ALoop.start (ALoop.ind (α := Nat) (fun j => ⟨[(0, encPs a), (1, encPs b), (5, .v (.int .i64 j))], [], 0⟩)
   (fun d j => j + d = a.length ∧ ((a = b) ↔ (a.drop j = b.drop j))) ?_ a.length 0 ?_) ?_ ?_
  ·rintro d j ⟨i1, i3⟩ hrec
   (repeat (first|with_reducible refine wV fun _=>?_|simp [go_sem]))
   refine aIf.mkL (fun hj => ?_) (fun hj => ?_) <;> simp at hj
   ·have hj2 : j < b.length := by omega
    have hC := R4Same_pure _ _ (hfa _ (nth_mem hj)) (hfb _ (nth_mem hj2))
    rw [drop_consG hj, drop_consG hj2, List.cons.injEq] at i3
    (repeat (first|with_reducible refine wV fun _=>?_|simp [go_sem, hj, hj2]))
    refine dCall.plain hC (by simp [go_sem]) ?_
    (repeat (first|with_reducible refine wV fun _=>?_|simp [go_sem]))
    refine aIf.mkL (fun he => ?_) (fun he => ?_) <;> simp at he
    ·have e : decide (a = b) = false := by simp; intro h; exact he (cmpP_eq.2 (i3.1 h).1)
     (repeat (first|with_reducible refine wV fun _=>?_|simp [go_sem, e]))
    ·(repeat (first|with_reducible refine wV fun _=>?_|simp [go_sem]))
     refine ALoop.start (hrec (d - 1) (by omega) (j + 1) ⟨by omega, i3.trans ⟨fun h => h.2, fun h => ⟨cmpP_eq.1 he, h⟩⟩⟩) ?_ (by simp)
     simp [go_sem, Wk_eq]
   ·rw [List.drop_eq_nil_of_le hj, List.drop_eq_nil_of_le (by omega)] at i3
    have e : decide (a = b) = true := by simpa using i3.2 rfl
    (repeat (first|with_reducible refine wV fun _=>?_|simp [go_sem, e]))
  ·simp
  ·simp [go_sem, Wk_eq]
  ·simp
end Go.Av
end
section
/- Plain: normal games (layer 22): what a game becomes, and two boards beside each other. -/
open Go Go.Proofs
namespace Go.Av
end Go.Av
end
section
/- Contracts, the reference of layer 22: the normal game that a game becomes. -/
open Go Go.Proofs
namespace Go.Av
theorem take_succG {α : Type} [Inhabited α] {l : List α} {i : Nat} (h : i < l.length) : l.take (i + 1) = l.take i ++ [nth l i] := by
 rw [List.take_add_one, List.getElem?_eq_getElem h, nth_eq _ _ h]; rfl
end Go.Av
end
section
/- Contracts, the reference of layer 22: two boards beside each other. -/
open Go Go.Proofs
namespace Go.Av
end Go.Av
end
section
/- Contracts: board.steps, board.Line. -/
open Go Go.Proofs
namespace Go.Av
def stepRows (b : BoardD) (side d : Int) : Nat → Int → List Int
 | 0, _ => []
 | k + 1, x => if 0 ≤ x then x :: stepRows b side d k (toB b side d x) else []
def stepMore (b : BoardD) (side d : Int) : Nat → Int → Nat
 | 0, x => if 0 ≤ x then 1 else 0
 | k + 1, x => if 0 ≤ x then stepMore b side d k (toB b side d x) else 0
theorem stepMore_ne {b : BoardD} {side d : Int} : ∀ {k : Nat} {x : Int}, stepMore b side d k x ≠ 2
 | 0, x => by unfold stepMore; split <;> omega
 | k + 1, x => by unfold stepMore; split; exact stepMore_ne; omega
theorem stepsF_seq (b : BoardD) (hb : BoardOk b) (side d c : Int) (k : Nat) : PSeq Tryz.prog 291 [.fp (encB b), .fp [.v (.int .i64 side)], .fp [.v (.int .i64 d)], .fp [.v (.int .i64 c)]]
  (stepMore b side d k (toB b side d c)) ((stepRows b side d k (toB b side d c)).map encI) := by
 refine PSeq.of_awp (by kernel_rfl) Tryz.func291 rfl rfl (Nat.le_of_ble_eq_true rfl) (by kernel_rfl) (fun l => ?_) (hm2 := stepMore_ne)
 have hbl : ∀ n, (∀ c' ∈ encB b, Bel n c') = True := fun n => by simp [go_sem]
 have hel : (encB b).length = 3 := rfl
 have hT : ∀ x, Pure Tryz.prog 254 [.agg (encB b), .v (.int .i64 side), .v (.int .i64 d), .v (.int .i64 x)] (.v (.int .i64 (toB b side d x))) := fun x => bTo_pure b hb side d x
 have hg : ∀ (n k : Nat) (x : Int), Bel n (ghost l (stepMore b side d k x) ((stepRows b side d k x).map encI)) := fun n k x => by
  simp only [ghost, Bel_gd, Bel_tup, List.forall_mem_cons, Bel_v, Bel_lst]
  simp [go_sem]
 obtain ⟨eb, heb⟩ : ∃ eb, eb = encB b := ⟨_, rfl⟩
 rw [← heb] at hbl hel hT ⊢
 have hte : eb.take 3 = eb := List.take_of_length_le (by omega)
 (repeat (first|with_reducible refine wV fun _=>?_|simp [go_sem, hel, GH, hte]))
 refine ACallP.plain (hT c) (by simp [go_sem, hbl]) ?_
 (repeat (first|with_reducible refine wV fun _=>?_|simp [go_sem, hel, GH, hte]))
 refine ALoop.start (ALoop.ind (α := Nat × Int) (fun a => ⟨[(0, .fn (.yield l) [] []), (1, .fp eb), (2, .fp [.v (.int .i64 side)]), (3, .fp [.v (.int .i64 d)]), (6, .v (.int .i64 a.2)), (1000000007, ghost l (stepMore b side d a.1 a.2) ((stepRows b side d a.1 a.2).map encI))], [], 0⟩)
  (fun f a => f = a.1 ∧ stepMore b side d a.1 a.2 = stepMore b side d k (toB b side d c)) ?_ k (k, toB b side d c) ?_) ?_ ?_
 ·rintro f ⟨k', x⟩ ⟨i1, i2⟩ hrec
  simp only at i1 i2
  subst i1
  (repeat (first|with_reducible refine wV fun _=>?_|simp [go_sem, hel, GH, hte]))
  by_cases hx : 0 ≤ x
  ·simp only [hx, decide_true]
   cases f with
   | zero => exact aGC.exh (by simp [upd, GH, stepMore, stepRows, hx])
   | succ f =>
    refine aGC.yld (more := stepMore b side d f (toB b side d x)) (xs := [.v (.int .i64 x)]) (rs := (stepRows b side d f (toB b side d x)).map encI) noH (by simp [upd, GH, stepMore, stepRows, hx, encI]) (.refl _) (.refl _ _ _ _) (by simp [go_sem]) ?_ ?_
    ·(repeat (first|with_reducible refine wV fun _=>?_|simp [go_sem, hel, GH, hte]))
     refine ACallP.plain (hT x) (by simp [go_sem, hbl]) ?_
     (repeat (first|with_reducible refine wV fun _=>?_|simp [go_sem, hel, GH, hte]))
     rw [stepMore, if_pos hx] at i2
     refine ALoop.start (hrec f (by omega) (f, toB b side d x) ⟨rfl, i2⟩) ?_ (by simp)
     simp [go_sem, Wk_eq, hbl, hg, GH]
    ·(repeat (first|with_reducible refine wV fun _=>?_|simp [go_sem, hel, GH, hte]))
  ·have hm : stepMore b side d f x = 0 := by cases f <;> simp [stepMore, hx]
   have hr : stepRows b side d f x = [] := by cases f <;> simp [stepRows, hx]
   simp only [hx, decide_false]
   refine aGC.skip (.v (.bool false)) ?_
   (repeat (first|with_reducible refine wV fun _=>?_|simp [go_sem, hel, GH, hte]))
   rw [← i2, hm, hr]
   exact .inl ⟨rfl, rfl⟩
 ·exact ⟨rfl, rfl⟩
 ·simp [go_sem, Wk_eq, hbl, hg, GH]
 ·simp
def stepsR (n : Nat) : AV := .fn (.func 291) [] [.ref n 0 3 0 0, .ref (n + 1) 0 1 0 0, .ref (n + 2) 0 1 0 0, .ref (n + 3) 0 1 0 0]
def stepsH (b : BoardD) (side d c : Int) (n : Nat) : List (Nat × AObj) := [(n, .rows true 0 3 [encB b]), (n + 1, .rows true 0 1 [[.v (.int .i64 side)]]), (n + 2, .rows true 0 1 [[.v (.int .i64 d)]]), (n + 3, .rows true 0 1 [[.v (.int .i64 c)]])]
theorem steps_owns (b : BoardD) (side d c : Int) : Owns Tryz.prog 282 [.agg (encB b), .v (.int .i64 side), .v (.int .i64 d), .v (.int .i64 c)] stepsR (stepsH b side d c) 4 := by
 refine ⟨?_, fun n => ⟨by simp [go_sem, stepsR], by simp [go_sem, stepsH]⟩⟩
 refine ACallP.of_awp (by kernel_rfl) Tryz.func282 rfl rfl (Nat.le_of_ble_eq_true rfl) (by kernel_rfl) ?_
 (repeat (first|with_reducible refine wV fun _=>?_|simp [go_sem, stepsR, stepsH]))
 simp [go_sem, Wk_eq]
theorem bLine_pure (b : BoardD) (hb : BoardOk b) (side d c : Int) : Pure Tryz.prog 255 [.agg (encB b), .v (.int .i64 side), .v (.int .i64 d), .v (.int .i64 c)] (encIs (lineB b side d c)) := by
 refine pF Tryz.func255 ?_
 have hbl : ∀ n, (∀ c' ∈ encB b, Bel n c') = True := fun n => by simp [go_sem]
 have hel : (encB b).length = 3 := rfl
 have hS : Owns Tryz.prog 282 [.agg (encB b), .v (.int .i64 side), .v (.int .i64 d), .v (.int .i64 c)] (fun n => stepsR n) (fun n => stepsH b side d c n) 4 := steps_owns b side d c
 have hQ := fun k => stepsF_seq b hb side d c k
 simp only [stepsR, stepsH] at hS
 have hte : (encB b).take 3 = encB b := rfl
 obtain ⟨eb, heb⟩ : ∃ eb, eb = encB b := ⟨_, rfl⟩
 rw [← heb] at hbl hel hS hQ hte ⊢
 have hc1 := hb.c1
 have hc0 := hb.c0
 (repeat (first|with_reducible refine wV fun _=>?_|simp [go_sem, hel, hte, GH]))
 refine ACallP.ownsPlain hS (by simp [go_sem, hbl]) ?_
 (repeat (first|with_reducible refine wV fun _=>?_|simp [go_sem, hel, hte, GH]))
 refine aRange.mk [.fp eb, .fp [.v (.int .i64 side)], .fp [.v (.int .i64 d)], .fp [.v (.int .i64 c)]] (frzO _ [3, 4, 5, 6]) (hQ (b.cells.toNat + 1)) (frz_frzO _ _) ?_ (by simp [go_sem, hbl]) (by simp [encI]) ?_
 ·refine LeRow.cons (.frzP rfl ?_ ?_ ?_ ?_) (LeRow.cons (.frzP rfl ?_ ?_ ?_ ?_) (LeRow.cons (.frzP rfl ?_ ?_ ?_ ?_) (LeRow.cons (.frzP rfl ?_ ?_ ?_ ?_) .nil))) <;> first | exact LeRow.refl _ _ _ _ | simp [frzO, frz1, upd]
 refine Fgt.to (ARange.ind (α := Nat × Int × List Int) (fun a => ([(7, .ref 1 0 1 0 0), (9, .ref 2 0 1 0 0)], [(1, .rows true 0 1 [[.v (.int .i64 c)]]), (2, .rows true 0 1 [[.sl 7 a.2.2.length 1 0 a.2.2.length]]), (7, .rows true a.2.2.length 1 (a.2.2.map encI))], 8))
  (fun rows a => rows = (stepRows b side d a.1 a.2.1).map encI ∧ stepMore b side d a.1 a.2.1 = stepMore b side d (b.cells.toNat + 1) (toB b side d c) ∧ a.1 + a.2.2.length = b.cells.toNat + 1 ∧ a.2.1 < b.cells ∧ a.2.2.Nodup ∧
   (∀ y ∈ a.2.2, 0 ≤ y ∧ y < b.cells) ∧ lineB b side d c = lineGo b side d c a.1 a.2.1 a.2.2) ?_ ?_ _ (b.cells.toNat + 1, toB b side d c, []) ?_) ?_ ?_
 ·rintro ⟨f, x, seen⟩ ⟨i0, i1, i2, i3, i4, i5, i6⟩
  simp only at i0 i1 i2 i3 i4 i5 i6
  have hsl : seen.length ≤ b.cells.toNat := nodup_le _ _ i4 (fun y hy => by have := i5 y hy; omega)
  obtain ⟨f, rfl⟩ : ∃ f', f = f' + 1 := ⟨f - 1, by omega⟩
  have hx : ¬ 0 ≤ x := fun hx => by simp [stepRows, hx] at i0
  rw [stepMore, if_neg hx] at i1
  rw [lineGo, if_neg (fun h => hx h.1)] at i6
  refine ⟨i1.symm, ?_⟩
  rw [i6]
  (repeat (first|with_reducible refine wV fun _=>?_|simp [go_sem, hel]))
  exact frX
 ·rintro xs rs ⟨f, x, seen⟩ ⟨i0, i1, i2, i3, i4, i5, i6⟩ hrec
  simp only at i0 i1 i2 i3 i4 i5 i6
  have hsl : seen.length ≤ b.cells.toNat := nodup_le _ _ i4 (fun y hy => by have := i5 y hy; omega)
  cases f with
  | zero => simp [stepRows] at i0
  | succ f =>
  have hx : 0 ≤ x := by
   by_cases hx : 0 ≤ x
   ·exact hx
   ·simp [stepRows, hx] at i0
  rw [stepRows, if_pos hx] at i0
  simp only [List.map_cons, List.cons.injEq] at i0
  obtain ⟨rfl, rfl⟩ := i0
  rw [stepMore, if_pos hx] at i1
  rw [lineGo] at i6
  refine ARange.go (Nat.zero_le _) ?_
  (repeat (first|with_reducible refine wV fun _=>?_|simp [go_sem, hel, GH, encI]))
  refine aGC.flat [encIs seen, .v (.int .i64 x)] (.v (.bool (decide (x ∈ seen)))) (fun _ => Contains_pure seen x (by omega)) (.v _) ?_ (by simp [go_sem]) ?_
  ·refine LeRow.cons ?_ (LeRow.cons (.refl _) LeRow.nil)
   refine LeV.frz rfl ?_ ?_ (LeRows.of_eq ?_) <;> simp [noH, List.take_of_length_le]
  (repeat (first|with_reducible refine wV fun _=>?_|simp [go_sem, hel, GH]))
  refine aIf.mkL (fun hc => ?_) (fun hc => ?_) <;> simp at hc
  ·rw [if_neg (by rintro ⟨h1, h2, h3⟩; rcases hc with h | h <;> contradiction)] at i6
   rw [i6]
   (repeat (first|with_reducible refine wV fun _=>?_|simp [go_sem, hel, GH]))
   exact frX
  ·rw [if_pos ⟨hx, by simpa using hc⟩] at i6
   (repeat (first|with_reducible refine wV fun _=>?_|simp [go_sem, hel, GH]))
   refine Fgt.to (hrec (f, toB b side d x, seen ++ [x]) ⟨rfl, i1, by simp only [List.length_append, List.length_singleton]; omega, toB_lt hb _ _ _, ?_, ?_, i6⟩) ?_ (by simp)
   ·refine List.nodup_append.2 ⟨i4, by simp, ?_⟩
    intro y hy z hz
    simp at hz
    subst hz
    rintro rfl
    exact hc.2 hy
   ·intro y hy
    rcases List.mem_append.1 hy with h | h
    ·exact i5 y h
    ·simp at h; omega
   ·simp [go_sem, Wk_eq, GH] <;> (first|done|exact blX)
 ·exact ⟨rfl, rfl, by simp, toB_lt hb _ _ _, by simp, by simp, rfl⟩
 ·simp [go_sem, Wk_eq]
 ·simp
end Go.Av
end
