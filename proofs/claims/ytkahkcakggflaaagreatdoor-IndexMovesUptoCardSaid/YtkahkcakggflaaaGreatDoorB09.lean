/- Texts of ours, part 9: our library and contracts of functions. -/
import Derived.Test.YtkahkcakggflaaaGreatDoorB08
set_option linter.unusedSimpArgs false
set_option linter.unusedVariables false
set_option maxRecDepth 100000
set_option maxHeartbeats 40000000
section
/- Contracts, lists of positions: half, Sort, Same of the reference. -/
open Go Go.Proofs
namespace Go.Av
theorem R4Same_pure (a b : PosD) (ha : FitsP a) (hb : FitsP b) : Pure Tryz.prog 64 [.agg (encPos a), .agg (encPos b)] (.v (.bool (decide (cmpP a b = 0)))) := by
 refine pF Tryz.func64 ?_
 (repeat (first|with_reducible refine wV fun _=>?_|simp [go_sem]))
 refine ACallP.plain (Compare_pure a b ha hb) (by simp [go_sem]) ?_
 (repeat (first|with_reducible refine wV fun _=>?_|simp [go_sem]))
attribute [go_sem ↓] bel_P bel_I List.forall_mem_append
theorem bel1 {x : AV} (h : Bel 0 x) : ∀ c ∈ [x], Bel 0 c := by simpa using h
theorem bel_encPs {n : Nat} (l : List PosD) : Bel n (encPs l) := of_eq_true bel_Ps
theorem half_pure : ∀ (f : Nat) (l : List PosD), l.length ≤ f + 1 → l.length ≤ 68719476736 → (∀ p ∈ l, FitsP p) → Pure Tryz.prog 79 [encPs l] (encPs (sortC cmpP l)) := by
 intro f
 induction f with
 | zero =>
  intro l h1 h2 h3
  rw [sortC_short (by omega)]
  refine pF Tryz.func79 ?_
  (repeat (first|with_reducible refine wV fun _=>?_|simp [go_sem]))
  (refine aIf.mkL (fun hT => ?_) (fun hT => by first | omega | (simp at hT; omega)); clear hT)
  (repeat (first|with_reducible refine wV fun _=>?_|simp [go_sem]))
 | succ f ih =>
  intro l h1 h2 h3
  by_cases hs : l.length < 2
  ·rw [sortC_short hs]
   refine pF Tryz.func79 ?_
   (repeat (first|with_reducible refine wV fun _=>?_|simp [go_sem]))
   (refine aIf.mkL (fun hT => ?_) (fun hT => by first | omega | (simp at hT; omega)); clear hT)
   (repeat (first|with_reducible refine wV fun _=>?_|simp [go_sem]))
  ·have hm := sortC_merge cmp_pos (l.take (l.length / 2)) (l.drop (l.length / 2))
   rw [List.take_append_drop] at hm
   have hA := ih (l.take (l.length / 2)) (by simp; omega) (by simp; omega) (fun p hp => h3 p (List.mem_of_mem_take hp))
   have hB := ih (l.drop (l.length / 2)) (by simp; omega) (by simp; omega) (fun p hp => h3 p (List.mem_of_mem_drop hp))
   have fA : ∀ p ∈ sortC cmpP (l.take (l.length / 2)), FitsP p := fun p hp => h3 p (List.mem_of_mem_take (sortC_mem.1 hp))
   have fB : ∀ p ∈ sortC cmpP (l.drop (l.length / 2)), FitsP p := fun p hp => h3 p (List.mem_of_mem_drop (sortC_mem.1 hp))
   have lA : (sortC cmpP (l.take (l.length / 2))).length = l.length / 2 := by rw [sortC_len]; simp; omega
   have lB : (sortC cmpP (l.drop (l.length / 2))).length = l.length - l.length / 2 := by rw [sortC_len]; simp
   rw [← hm]
   generalize sortC cmpP (l.take (l.length / 2)) = xs at *
   generalize sortC cmpP (l.drop (l.length / 2)) = ys at *
   have hq : ((l.length : Int) / 2).toNat = l.length / 2 := by omega
   have eA : AV.lst 5 (List.take (l.length / 2) (l.map encPos)) = encPs (l.take (l.length / 2)) := by simp [encPs, List.map_take]
   have eB : AV.lst 5 (List.take (l.length - l.length / 2) (List.drop (l.length / 2) (l.map encPos))) = encPs (l.drop (l.length / 2)) := by rw [List.take_of_length_le (by simp)]; simp [encPs, List.map_drop]
   generalize hR : List.merge xs ys (leC cmpP) = R
   refine pF Tryz.func79 ?_
   (repeat (first|with_reducible refine wV fun _=>?_|simp [go_sem]))
   (refine aIf.mkL (fun hF => by first | omega | (simp at hF; omega)) (fun hF => ?_); clear hF)
   (repeat (first|with_reducible refine wV fun _=>?_|simp [go_sem, hq]))
   rw [eA]
   refine ACallP.plain hA (bel1 (bel_encPs _)) ?_
   (repeat (first|with_reducible refine wV fun _=>?_|simp [go_sem, hq]))
   rw [eB]
   refine ACallP.plain hB (bel1 (bel_encPs _)) ?_
   (repeat (first|with_reducible refine wV fun _=>?_|simp [go_sem, hq]))
   refine ALoop.start (ALoop.ind (α := Nat × Nat × List PosD) (fun a => ⟨[(3, encPs xs), (4, encPs ys), (5, .sl 0 a.2.2.length 5 0 a.2.2.length), (6, .v (.int .i64 a.1)), (7, .v (.int .i64 a.2.1))], [(0, .rows true a.2.2.length 5 (a.2.2.map encPos))], 1⟩)
    (fun d a => a.1 + a.2.1 + d = xs.length + ys.length ∧ a.1 ≤ xs.length ∧ a.2.1 ≤ ys.length ∧ a.2.2.length = a.1 + a.2.1 ∧ R = a.2.2 ++ List.merge (xs.drop a.1) (ys.drop a.2.1) (leC cmpP)) ?_ (xs.length + ys.length) (0, 0, []) ?_) ?_ ?_
   ·rintro d ⟨i, k, out⟩ ⟨i1, i2, i3, i4, i5⟩ hrec
    simp only at i1 i2 i3 i4 i5
    (repeat (first|with_reducible refine wV fun _=>?_|simp [go_sem]))
    refine aIf.mkL (fun hj => ?_) (fun hj => ?_) <;> simp at hj
    ·by_cases hk : k < ys.length
     ·by_cases hi : i < xs.length
      ·have fa := fA _ (nth_mem hi)
       have fb := fB _ (nth_mem hk)
       rw [dropG_cons hi, dropG_cons hk, List.cons_merge_cons, ← dropG_cons hi, ← dropG_cons hk] at i5
       have hk' := Nat.not_le.2 hk
       (repeat (first|with_reducible refine wV fun _=>?_|simp [go_sem, hk, hk', hi]))
       refine dGC.plain _ (fun _ => Compare_pure _ _ fa fb) (by simp [go_sem]) ?_
       (repeat (first|with_reducible refine wV fun _=>?_|simp [go_sem, hk, hk', hi]))
       refine aIf.mkL (fun hc => ?_) (fun hc => ?_) <;> simp at hc
       ·rw [if_pos (by simpa [leC] using hc)] at i5
        (repeat (first|with_reducible refine wV fun _=>?_|simp [go_sem, hk, hi]))
        refine ALoop.start (hrec (d - 1) (by omega) (i + 1, k, out ++ [nth xs i]) ⟨by simp only; omega, by simp only; omega, i3, by simp; omega, by simpa using i5⟩) ?_ (by simp)
        simp [go_sem, Wk_eq]
       ·rw [if_neg (by simpa [leC] using hc)] at i5
        (repeat (first|with_reducible refine wV fun _=>?_|simp [go_sem, hk, hi]))
        refine ALoop.start (hrec (d - 1) (by omega) (i, k + 1, out ++ [nth ys k]) ⟨by simp only; omega, i2, by simp only; omega, by simp; omega, by simpa using i5⟩) ?_ (by simp)
        simp [go_sem, Wk_eq]
      ·rw [List.drop_eq_nil_of_le (show xs.length ≤ i by omega), List.nil_merge, dropG_cons hk] at i5
       have hk' := Nat.not_le.2 hk
       (repeat (first|with_reducible refine wV fun _=>?_|simp [go_sem, hk, hk', hi]))
       refine dGC.skip (.v (.int .i64 0)) ?_
       (repeat (first|with_reducible refine wV fun _=>?_|simp [go_sem, hk, hk', hi]))
       refine ALoop.start (hrec (d - 1) (by omega) (i, k + 1, out ++ [nth ys k]) ⟨by simp only; omega, i2, by simp only; omega, by simp; omega, by simp [List.drop_eq_nil_of_le (show xs.length ≤ i by omega), i5]⟩) ?_ (by simp)
       simp [go_sem, Wk_eq]
     ·have hi : i < xs.length := by omega
      rw [List.drop_eq_nil_of_le (show ys.length ≤ k by omega), List.merge_right, dropG_cons hi] at i5
      have hk' := Nat.not_lt.1 hk
      (repeat (first|with_reducible refine wV fun _=>?_|simp [go_sem, hk, hk', hi]))
      refine dGC.skip (.v (.int .i64 0)) ?_
      (repeat (first|with_reducible refine wV fun _=>?_|simp [go_sem, hk, hk', hi]))
      refine ALoop.start (hrec (d - 1) (by omega) (i + 1, k, out ++ [nth xs i]) ⟨by simp only; omega, by simp only; omega, i3, by simp; omega, by simp [List.drop_eq_nil_of_le (show ys.length ≤ k by omega), i5]⟩) ?_ (by simp)
      simp [go_sem, Wk_eq]
    ·rw [List.drop_eq_nil_of_le (show xs.length ≤ i by omega), List.drop_eq_nil_of_le (show ys.length ≤ k by omega)] at i5
     (repeat (first|with_reducible refine wV fun _=>?_|simp [go_sem]))
     rw [i5]
     exact frX
   ·simp [hR]
   ·simp [go_sem, Wk_eq]
   ·simp
end Go.Av
end
section
/- Contracts, lists of positions: Sort of the reference. -/
open Go Go.Proofs
namespace Go.Av
def ddAt (all : List PosD) (i : Nat) : List PosD := if i = 0 then dedup all else dedupGo (nth all (i - 1)) (all.drop i)
theorem ddAt_zero (all : List PosD) : ddAt all 0 = dedup all := rfl
theorem ddAt_end {all : List PosD} {i : Nat} (h : all.length ≤ i) : ddAt all i = [] := by
 unfold ddAt
 split
 ·cases all with
  | nil => rfl
  | cons a l => simp at h; omega
 ·rw [List.drop_eq_nil_of_le h]; rfl
theorem ddAt_keep {all : List PosD} {i : Nat} (h : i < all.length) (hk : i = 0 ∨ nth all i ≠ nth all (i - 1)) : ddAt all i = nth all i :: ddAt all (i + 1) := by
 unfold ddAt
 rw [if_neg (show ¬ i + 1 = 0 by omega), Nat.add_sub_cancel]
 split
 ·rename_i h0
  subst h0
  cases all with
  | nil => simp at h
  | cons a l => rfl
 ·rw [dropG_cons h, dedupGo, if_neg (by rcases hk with h | h; omega; exact h)]
theorem ddAt_skip {all : List PosD} {i : Nat} (h : i < all.length) (hi : i ≠ 0) (hk : nth all i = nth all (i - 1)) : ddAt all i = ddAt all (i + 1) := by
 unfold ddAt
 rw [if_neg (show ¬ i + 1 = 0 by omega), Nat.add_sub_cancel, if_neg hi, dropG_cons h, dedupGo, if_pos hk, hk]
theorem R4Sort_pure (l : List PosD) (hl : l.length ≤ 68719476736) (hf : ∀ p ∈ l, FitsP p) : Pure Tryz.prog 27 [encPs l] (encPs (sortU cmpP l)) := by
 have hH := half_pure l.length l (by omega) hl hf
 unfold sortU
 have fA : ∀ p ∈ sortC cmpP l, FitsP p := fun p hp => hf p (sortC_mem.1 hp)
 have lA : (sortC cmpP l).length = l.length := sortC_len l
 generalize sortC cmpP l = all at *
 generalize hR : dedup all = R
 refine pF Tryz.func27 ?_
 (repeat (first|with_reducible refine wV fun _=>?_|simp [go_sem]))
 refine ACallP.plain hH (bel1 (bel_encPs _)) ?_
 (repeat (first|with_reducible refine wV fun _=>?_|simp [go_sem]))
 refine ALoop.start (ALoop.ind (α := Nat × List PosD) (fun a => ⟨[(3, encPs all), (4, .sl 0 a.2.length 5 0 a.2.length), (5, .v (.int .i64 a.1))], [(0, .rows true a.2.length 5 (a.2.map encPos))], 1⟩)
  (fun d a => a.1 + d = all.length ∧ a.2.length ≤ a.1 ∧ R = a.2 ++ ddAt all a.1) ?_ all.length (0, []) ?_) ?_ ?_
 ·rintro d ⟨i, out⟩ ⟨i1, i2, i3⟩ hrec
  simp only at i1 i2 i3
  (repeat (first|with_reducible refine wV fun _=>?_|simp [go_sem]))
  refine aIf.mkL (fun hi => ?_) (fun hi => ?_) <;> simp at hi
  ·by_cases h0 : i = 0
   ·rw [ddAt_keep hi (.inl h0)] at i3
    subst h0
    (repeat (first|with_reducible refine wV fun _=>?_|simp [go_sem, hi]))
    refine dGC.skip (.v (.bool true)) ?_
    (repeat (first|with_reducible refine wV fun _=>?_|simp [go_sem, hi]))
    refine ALoop.start (hrec (d - 1) (by omega) (0 + 1, out ++ [nth all 0]) ⟨by simp only; omega, by simp only [List.length_append, List.length_singleton]; omega, by simpa using i3⟩) ?_ (by simp)
    simp [go_sem, Wk_eq]
   ·have fa := fA _ (nth_mem hi)
    have hi' : i - 1 < all.length := by omega
    have e1 : ((i : Int) - 1).toNat = i - 1 := by omega
    have fb := fA _ (nth_mem hi')
    (repeat (first|with_reducible refine wV fun _=>?_|simp [go_sem, hi, h0, e1, hi']))
    refine dGC.plain _ (fun _ => R4Same_pure _ _ fa fb) (by simp [go_sem]) ?_
    (repeat (first|with_reducible refine wV fun _=>?_|simp [go_sem, hi, h0]))
    refine aIf.mkL (fun hc => ?_) (fun hc => ?_) <;> simp at hc
    ·rw [cmpP_eq] at hc
     rw [ddAt_keep hi (.inr hc)] at i3
     (repeat (first|with_reducible refine wV fun _=>?_|simp [go_sem, hi]))
     refine ALoop.start (hrec (d - 1) (by omega) (i + 1, out ++ [nth all i]) ⟨by simp only; omega, by simp; omega, by simpa using i3⟩) ?_ (by simp)
     simp [go_sem, Wk_eq]
    ·rw [cmpP_eq] at hc
     rw [ddAt_skip hi h0 hc] at i3
     (repeat (first|with_reducible refine wV fun _=>?_|simp [go_sem, hi]))
     refine ALoop.start (hrec (d - 1) (by omega) (i + 1, out) ⟨by simp only; omega, by simp only; omega, i3⟩) ?_ (by simp)
     simp [go_sem, Wk_eq]
  ·rw [ddAt_end hi] at i3
   (repeat (first|with_reducible refine wV fun _=>?_|simp [go_sem]))
   rw [i3]
   exact frX
 ·simp [hR, ddAt_zero]
 ·simp [go_sem, Wk_eq]
 ·simp
end Go.Av
end
section
/- Contracts, runs: Runs, Drops of the reference. -/
open Go Go.Proofs
namespace Go.Av
def outsF (side : Int) (l : List StD) (n : Nat) : List OutD := ((l.take n).filterMap (putS side)).foldl (fun a x => insertO x a) []
@[go_sem] theorem outsF_zero (side : Int) (l : List StD) : outsF side l 0 = [] := rfl
theorem outsF_succ (side : Int) (l : List StD) {n : Nat} (h : n < l.length) : outsF side l (n + 1) = match putS side (nth l n) with | some o => insertO o (outsF side l n) | none => outsF side l n := by
 unfold outsF
 rw [fm_take _ _ _ h, List.foldl_append]
 cases putS side (nth l n) <;> rfl
theorem insertO_le (x : OutD) : ∀ l : List OutD, (insertO x l).length ≤ l.length + 1
 | [] => by simp [insertO]
 | y :: l => by
  rw [insertO]
  split
  ·have := insertO_le x l; simp; omega
  ·split <;> simp
theorem outsF_len (side : Int) (l : List StD) : ∀ n, n ≤ l.length → (outsF side l n).length ≤ n := by
 intro n
 induction n with
 | zero => intro _; simp [outsF]
 | succ n ih =>
  intro h
  have := ih (by omega)
  rw [outsF_succ side l (by omega)]
  split
  ·rename_i o _
   have := insertO_le o (outsF side l n)
   omega
  ·omega
theorem putS_fits {g : GameD} (hg : GOk g) {s : StD} (hs : StOk g s) {side : Int} {o : OutD} (h : putS side s = some o) : FitsP o.pos := by
 have hf := hs.p.fits hg
 unfold putS at h
 split at h
 ·simp only [Option.some.injEq] at h
  subst h
  obtain ⟨a, b, c⟩ := hf
  exact ⟨by unfold Fits at *; simpa using a, b, c⟩
 ·cases h
theorem outsF_fits {g : GameD} (hg : GOk g) {side : Int} {l : List StD} (hl : ∀ s ∈ l, StOk g s) : ∀ n, n ≤ l.length → ∀ o ∈ outsF side l n, FitsP o.pos := by
 intro n
 induction n with
 | zero => intro _ o ho; simp [outsF] at ho
 | succ n ih =>
  intro h o ho
  rw [outsF_succ side l (by omega)] at ho
  cases hp : putS side (nth l n) with
  | none => rw [hp] at ho; exact ih (by omega) o ho
  | some q =>
   rw [hp] at ho
   rcases insertO_mem.1 ho with rfl | ho
   ·exact putS_fits hg (hl _ (nth_mem (by omega))) hp
   ·exact ih (by omega) o ho
theorem outsF_all (g : GameD) (p : PosD) (cell i : Int) : outsF p.side (lastS g p cell (progOf g p cell i)) (lastS g p cell (progOf g p cell i)).length = runsP g p cell i := by
 unfold outsF runsP
 rw [List.take_length, insertO_all]
theorem R5Runs_pure (g : GameD) (hg : GOk g) (p : PosD) (hp : POk g p) (cell i : Int) (hc : ChoiceOk g p cell i) :
  Pure Tryz.prog 257 [.agg (encGame g), .agg (encPos p), .v (.int .i64 cell), .v (.int .i64 i)] (.tup [encOs (runsP g p cell i), .v (.int .i64 0)]) := by
 refine pF Tryz.func257 ?_
 have hRun := R5Run_pure g hg p hp cell i hc
 have hal := hp.al
 have hat := hp.at (i := cell.toNat) (by have := hc.c0; have := hc.c1; omega)
 have hkl : (manOf (nth p.at_ cell.toNat)).1.toNat < g.kinds.length := by
  have cm := hc.man
  rcases manOf_cases hat.1 hat.2 hg.k6 with ⟨_, e⟩ | ⟨_, a, b, _⟩
  ·rw [e] at cm; simp at cm
  ·omega
 have hil : i.toNat < (nth g.kinds (manOf (nth p.at_ cell.toNat)).1.toNat).progs.length := by have := hc.i0; have := hc.i1; omega
 have hpg := hg.pr _ (nth_mem hkl) _ (nth_mem hil)
 have hpe : progOf g p cell i = nth (nth g.kinds (manOf (nth p.at_ cell.toNat)).1.toNat).progs i.toNat := rfl
 rw [← hpe] at hpg
 have hst := stageS_ok hg hp hc.c0 hc.c1 hc.man hpg.st _ (Nat.le_refl _)
 have hlen := Nat.le_trans hst.2 (pow10_le hpg.len)
 have hstR := stR_len g p cell (progOf g p cell i) ((progOf g p cell i).length + 1)
 have hnS := nth_stR g p cell (progOf g p cell i) (n := (progOf g p cell i).length + 1) (j := (progOf g p cell i).length) (by omega)
 have hal' := outsF_all g p cell i
 rw [stageS_last] at hnS hlen hst
 have hps := hp.s
 obtain ⟨m, hm⟩ : ∃ m, m = (progOf g p cell i).length := ⟨_, rfl⟩
 have hm8 := hpg.len
 rw [← hm] at hRun hstR hnS hm8
 generalize stR g p cell (progOf g p cell i) (m + 1) = sr at *
 generalize lastS g p cell (progOf g p cell i) = last at *
 obtain ⟨R, hR⟩ : ∃ R, R = runsP g p cell i := ⟨_, rfl⟩
 rw [← hR] at hal' ⊢
 (repeat (first|with_reducible refine wV fun _=>?_|simp [go_sem]))
 refine ACallP.plain hRun (by simp [go_sem]) ?_
 (repeat (first|with_reducible refine wV fun _=>?_|simp [go_sem, hstR, hnS]))
 refine ALoop.start (ALoop.ind (α := Nat) (fun k => ⟨[(5, .ref 1 0 5 0 0), (11, encOs (outsF p.side last k)), (12, encSs last), (13, .v (.int .i64 k))], [(1, .rows true 0 5 [encPos p])], 2⟩)
  (fun d k => k + d = last.length) ?_ last.length 0 ?_) ?_ ?_
 ·rintro d k k1 hrec
  (repeat (first|with_reducible refine wV fun _=>?_|simp [go_sem]))
  refine aIf.mkL (fun hk => ?_) (fun hk => ?_) <;> simp at hk
  ·have hsk := hst.1 _ (nth_mem hk)
   have hsu := outsF_succ p.side last hk
   have hol := outsF_len p.side last k (by omega)
   have hof := outsF_fits hg (fun s hs => (hst.1 s hs).1) (side := p.side) k (by omega)
   have hpf := fun o => putS_fits hg hsk.1 (side := p.side) (o := o)
   have hps' : putS p.side (nth last k) = if nth (nth last k).p.at_ (nth last k).cursor.toNat = 0 then some ⟨{ (nth last k).p with at_ := (nth last k).p.at_.set (nth last k).cursor.toNat (codeOf (nth last k).kind p.side), side := 1 - p.side }, (nth last k).took⟩ else none := rfl
   have hcp := copied_owns (nth last k).p (hsk.1.p.fits hg)
   have hal2 := hsk.1.p.al
   have hc0 := hsk.1.c0
   have hc1 := hsk.1.c1
   have hcc := R3Code_pure (nth last k).kind p.side
   have hcur : (nth last k).cursor.toNat < (nth last k).p.at_.length := by omega
   by_cases hz : nth (nth last k).p.at_ (nth last k).cursor.toNat = 0
   ·rw [if_pos hz] at hps'
    simp only [hps'] at hsu
    have hfo := hpf _ hps'
    have hIns := R5Insert_pure (outsF p.side last k) _ (by omega) hof hfo
    (repeat (first|with_reducible refine wV fun _=>?_|simp [go_sem, hk, hcur, hz]))
    refine ACallP.ownsPlain hcp (by simp [go_sem]) ?_
    (repeat (first|with_reducible refine wV fun _=>?_|simp [go_sem, hcur]))
    refine dCall.plain hcc (by simp [go_sem]) ?_
    (repeat (first|with_reducible refine wV fun _=>?_|simp [go_sem, hcur]))
    refine ACallP.pureF [5, 6, 11] hIns ?_ (by simp [go_sem]) ?_
    ·(first|done|exact agX)
    ·rw [← hsu]
     (repeat (first|with_reducible refine wV fun _=>?_|simp [go_sem]))
     refine ALoop.start (hrec (d - 1) (by omega) (k + 1) (by omega)) ?_ (by simp)
     simp [go_sem, Wk_eq, frzO, frz1, upd]
   ·rw [if_neg hz] at hps'
    simp only [hps'] at hsu
    (repeat (first|with_reducible refine wV fun _=>?_|simp [go_sem, hk, hcur, hz]))
    refine ALoop.start (hrec (d - 1) (by omega) (k + 1) (by omega)) ?_ (by simp)
    simp [go_sem, Wk_eq, hsu]
  ·have hkl : k = last.length := by omega
   subst hkl
   rw [hal']
   (repeat (first|with_reducible refine wV fun _=>?_|simp [go_sem]))
 ·omega
 ·simp [go_sem, Wk_eq]
  exact frX
 ·simp
end Go.Av
end
section
/- Contracts, runs: Drops of the reference. -/
open Go Go.Proofs
namespace Go.Av
def dropsK (g : GameD) (p : PosD) (k : Nat) : List PosD := (List.range k).flatMap fun k => (List.range p.at_.length).filterMap fun c => dropP g p k c
def dropsC (g : GameD) (p : PosD) (k c : Nat) : List PosD := dropsK g p k ++ (List.range c).filterMap fun c => dropP g p k c
theorem dropsC_all (g : GameD) (p : PosD) (k : Nat) : dropsC g p k p.at_.length = dropsK g p (k + 1) := by simp [dropsC, dropsK, List.range_succ, List.flatMap_append]
theorem dropsC_zero (g : GameD) (p : PosD) (k : Nat) : dropsC g p k 0 = dropsK g p k := by simp [dropsC]
theorem dropsC_succ (g : GameD) (p : PosD) (k c : Nat) : dropsC g p k (c + 1) = dropsC g p k c ++ (dropP g p k c).toList := by
 simp only [dropsC, List.range_succ, List.filterMap_append, List.append_assoc]
 cases h : dropP g p k c <;> simp [h]
theorem dropsK_all (g : GameD) (p : PosD) : dropsK g p g.kinds.length = dropsL g p := rfl
theorem flatMap_range_len {α : Type} (f : Nat → List α) (m : Nat) (hf : ∀ k, (f k).length ≤ m) : ∀ n, ((List.range n).flatMap f).length ≤ n * m
 | 0 => by simp
 | n + 1 => by
  have := flatMap_range_len f m hf n
  have := hf n
  simp only [List.range_succ, List.flatMap_append, List.length_append, List.flatMap_cons, List.flatMap_nil, List.append_nil, Nat.add_mul, Nat.one_mul]
  omega
theorem dropsK_len (g : GameD) (p : PosD) (k : Nat) : (dropsK g p k).length ≤ k * p.at_.length :=
 flatMap_range_len _ _ (fun k => Nat.le_trans (List.length_filterMap_le _ _) (by simp)) k
theorem dropsC_len (g : GameD) (p : PosD) (k c : Nat) : (dropsC g p k c).length ≤ k * p.at_.length + c := by
 have h1 := dropsK_len g p k
 have h2 : ((List.range c).filterMap fun c => dropP g p k c).length ≤ c := Nat.le_trans (List.length_filterMap_le _ _) (by simp)
 simp only [dropsC, List.length_append]
 omega
theorem dropP_ok {g : GameD} (hg : GOk g) {p : PosD} (hp : POk g p) {k c : Nat} (hk : k < g.kinds.length) {q : PosD} (h : dropP g p k c = some q) : POk g q ∧ q.side = 1 - p.side := by
 unfold dropP at h
 split at h
 ·cases h
 ·rename_i hc
  simp only [Option.some.injEq] at h
  subst h
  have k6 := hg.k6
  have hcode : codeOf k p.side = 1 + 2 * k + p.side := codeOf_ok (K := g.kinds.length) ⟨by omega, by omega⟩ k6 hp.s
  have hs := hp.s
  have hh := hp.hand p.side
  have hl := hh.len
  have hv := hh.v k (by omega)
  refine ⟨POk.side (POk.withHand (hp.setAt c (by rw [hcode]; omega)) _ (hh.set k ?_ ?_)) (by omega), rfl⟩
  ·simp only [not_or] at hc; omega
  ·intro _; exact hv.2.2 (by simp only [not_or] at hc; omega)
theorem R5Drops_pure (g : GameD) (hg : GOk g) (p : PosD) (hp : POk g p) : Pure Tryz.prog 195 [.agg (encGame g), .agg (encPos p)] (encPs (dropsP g p)) := by
 refine pF Tryz.func195 ?_
 have hal := hp.al
 have c9 := hg.c9
 have k6 := hg.k6
 have hcp := copied_owns p (hp.fits hg)
 obtain ⟨gk, hgk⟩ : ∃ gk, gk = g.kinds.length := ⟨_, rfl⟩
 have hl0 := hp.h0.len
 have hl1 := hp.h1.len
 (repeat (first|with_reducible refine wV fun _=>?_|simp [go_sem]))
 refine ALoop.start (ALoop.ind (α := Nat) (fun k => ⟨[(2, .ref 0 0 9 0 0), (3, .ref 1 0 5 0 0), (5, .sl 2 (dropsK g p k).length 5 0 (dropsK g p k).length), (6, .v (.int .i64 k))], [(0, .rows true 0 9 [encGame g]), (1, .rows true 0 5 [encPos p]), (2, .rows true (dropsK g p k).length 5 ((dropsK g p k).map encPos))], 3⟩)
  (fun d k => k + d = g.kinds.length) ?_ g.kinds.length 0 ?_) ?_ ?_
 ·rintro d k k1 hrec
  (repeat (first|with_reducible refine wV fun _=>?_|simp [go_sem]))
  refine aIf.mkL (fun hk => ?_) (fun hk => ?_) <;> simp at hk
  ·have hz := dropsC_zero g p k
   have ha := dropsC_all g p k
   (repeat (first|with_reducible refine wV fun _=>?_|simp [go_sem]))
   refine ALoop.start (ALoop.ind (α := Nat) (fun c => ⟨[(2, .ref 0 0 9 0 0), (3, .ref 1 0 5 0 0), (5, .sl 2 (dropsC g p k c).length 5 0 (dropsC g p k c).length), (6, .v (.int .i64 k)), (7, .v (.int .i64 c))], [(0, .rows true 0 9 [encGame g]), (1, .rows true 0 5 [encPos p]), (2, .rows true (dropsC g p k c).length 5 ((dropsC g p k c).map encPos))], 3⟩)
    (fun d c => c + d = p.at_.length) ?_ p.at_.length 0 ?_) ?_ ?_
   ·rintro d2 c c1 hrec2
    (repeat (first|with_reducible refine wV fun _=>?_|simp [go_sem]))
    refine aIf.mkL (fun hci => ?_) (fun hci => ?_) <;> simp at hci
    ·have hD : dropP g p k c = if nth (p.hand p.side) k = 0 ∨ nth p.at_ c ≠ 0 then none
      else some { ({ p with at_ := p.at_.set c (codeOf k p.side) }.withHand p.side ((p.hand p.side).set k (nth (p.hand p.side) k - 1))) with side := 1 - p.side } := rfl
     rcases hp.s with hsd | hsd
     ·have hsn : p.side.toNat = 0 := by omega
      have hkh : k < p.h0.length := by omega
      have hhv := hp.h0.v k hkh
      have hD' : dropP g p k c = if nth p.h0 k = 0 ∨ nth p.at_ c ≠ 0 then none else some { p with at_ := p.at_.set c (codeOf k p.side), h0 := p.h0.set k (nth p.h0 k - 1), side := 1 - p.side } := by
       rw [hD]; simp [PosD.hand, PosD.withHand, hsd]
      (repeat (first|with_reducible refine wV fun _=>?_|simp [go_sem, hsn, hkh, hci]))
      refine aIf.mkL (fun hcc => ?_) (fun hcc => ?_) <;> simp at hcc
      ·rw [if_pos (by omega)] at hD'
       have hsu := dropsC_succ g p k c
       rw [hD'] at hsu
       simp only [Option.toList_none, List.append_nil] at hsu
       (repeat (first|with_reducible refine wV fun _=>?_|simp [go_sem]))
       refine ALoop.start (hrec2 (d2 - 1) (by omega) (c + 1) (by omega)) ?_ (by simp)
       simp [go_sem, Wk_eq, hsu]
      ·rw [if_neg (by omega)] at hD'
       have hsu := dropsC_succ g p k c
       rw [hD'] at hsu
       simp only [Option.toList_some] at hsu
       have hcl := dropsC_len g p k c
       have hkm : k * p.at_.length ≤ 6 * 9 := Nat.mul_le_mul (by omega) (by omega)
       (repeat (first|with_reducible refine wV fun _=>?_|simp [go_sem, hci]))
       refine ACallP.ownsPlain hcp (by simp [go_sem]) ?_
       (repeat (first|with_reducible refine wV fun _=>?_|simp [go_sem, hci]))
       refine dCall.plain (R3Code_pure (k : Int) p.side) (by simp [go_sem]) ?_
       (repeat (first|with_reducible refine wV fun _=>?_|simp [go_sem, hsn, hci, hkh]))
       refine ALoop.start (hrec2 (d2 - 1) (by omega) (c + 1) (by omega)) ?_ (by simp)
       simp [go_sem, Wk_eq, hsu]
       (first|done|exact rwX)
     ·have hsn : p.side.toNat = 1 := by omega
      have hkh : k < p.h1.length := by omega
      have hhv := hp.h1.v k hkh
      have hD' : dropP g p k c = if nth p.h1 k = 0 ∨ nth p.at_ c ≠ 0 then none else some { p with at_ := p.at_.set c (codeOf k p.side), h1 := p.h1.set k (nth p.h1 k - 1), side := 1 - p.side } := by
       rw [hD]; simp [PosD.hand, PosD.withHand, hsd]
      (repeat (first|with_reducible refine wV fun _=>?_|simp [go_sem, hsn, hkh, hci]))
      refine aIf.mkL (fun hcc => ?_) (fun hcc => ?_) <;> simp at hcc
      ·rw [if_pos (by omega)] at hD'
       have hsu := dropsC_succ g p k c
       rw [hD'] at hsu
       simp only [Option.toList_none, List.append_nil] at hsu
       (repeat (first|with_reducible refine wV fun _=>?_|simp [go_sem]))
       refine ALoop.start (hrec2 (d2 - 1) (by omega) (c + 1) (by omega)) ?_ (by simp)
       simp [go_sem, Wk_eq, hsu]
      ·rw [if_neg (by omega)] at hD'
       have hsu := dropsC_succ g p k c
       rw [hD'] at hsu
       simp only [Option.toList_some] at hsu
       have hcl := dropsC_len g p k c
       have hkm : k * p.at_.length ≤ 6 * 9 := Nat.mul_le_mul (by omega) (by omega)
       (repeat (first|with_reducible refine wV fun _=>?_|simp [go_sem, hci]))
       refine ACallP.ownsPlain hcp (by simp [go_sem]) ?_
       (repeat (first|with_reducible refine wV fun _=>?_|simp [go_sem, hci]))
       refine dCall.plain (R3Code_pure (k : Int) p.side) (by simp [go_sem]) ?_
       (repeat (first|with_reducible refine wV fun _=>?_|simp [go_sem, hsn, hci, hkh]))
       refine ALoop.start (hrec2 (d2 - 1) (by omega) (c + 1) (by omega)) ?_ (by simp)
       simp [go_sem, Wk_eq, hsu]
       (first|done|exact rwX)
    ·have hcl : c = p.at_.length := by omega
     subst hcl
     rw [ha]
     (repeat (first|with_reducible refine wV fun _=>?_|simp [go_sem]))
     refine ALoop.start (hrec (d - 1) (by omega) (k + 1) (by omega)) ?_ (by simp)
     simp [go_sem, Wk_eq]
   ·omega
   ·simp [go_sem, Wk_eq, hz]
   ·simp
  ·have hkl : k = g.kinds.length := by omega
   subst hkl
   have hdl := dropsK_len g p g.kinds.length
   have hkm : g.kinds.length * p.at_.length ≤ 6 * 9 := Nat.mul_le_mul k6 (by omega)
   have hS := R4Sort_pure (dropsK g p g.kinds.length) (by omega) (fun q hq => by
    rw [dropsK_all] at hq
    obtain ⟨k, hk, hq⟩ := List.mem_flatMap.1 hq
    obtain ⟨c, hc, hq⟩ := List.mem_filterMap.1 hq
    exact (dropP_ok hg hp (by simpa using hk) hq).1.fits hg)
   rw [show sortU cmpP (dropsK g p g.kinds.length) = dropsP g p from rfl] at hS
   generalize dropsK g p g.kinds.length = l at *
   generalize dropsP g p = r at *
   (repeat (first|with_reducible refine wV fun _=>?_|simp [go_sem]))
   refine ACallP.pureF [2] hS ?_ (bel1 (bel_encPs _)) ?_
   ·(first|done|exact agX)
   ·(repeat (first|with_reducible refine wV fun _=>?_|simp [go_sem]))
 ·omega
 ·simp [go_sem, Wk_eq, show dropsK g p 0 = [] from rfl]
 ·simp
end Go.Av
end
section
/- Plain: outcomes and moves are valid. -/
open Go Go.Proofs
namespace Go.Av
theorem kind_lt {g : GameD} (hg : GOk g) {p : PosD} (hp : POk g p) {cell : Int} (h0 : 0 ≤ cell) (h1 : cell < g.cells) (hm : 0 ≤ (manOf (nth p.at_ cell.toNat)).1) :
  (manOf (nth p.at_ cell.toNat)).1.toNat < g.kinds.length := by
 have hat := hp.at (i := cell.toNat) (by omega)
 rcases manOf_cases hat.1 hat.2 hg.k6 with ⟨_, e⟩ | ⟨_, a, b, _⟩
 ·rw [e] at hm; simp at hm
 ·omega
theorem prog_ok {g : GameD} (hg : GOk g) {p : PosD} (hp : POk g p) {cell i : Int} (hc : ChoiceOk g p cell i) : ProgOk g.next.length g.kinds.length g.rights (progOf g p cell i) :=
 hg.pr _ (nth_mem (kind_lt hg hp hc.c0 hc.c1 hc.man)) _ (nth_mem (by have := hc.i0; have := hc.i1; omega))
theorem lastS_ok {g : GameD} (hg : GOk g) {p : PosD} (hp : POk g p) {cell i : Int} (hc : ChoiceOk g p cell i) :
  (∀ s ∈ lastS g p cell (progOf g p cell i), StOk g s ∧ s.p.side = p.side) ∧ (lastS g p cell (progOf g p cell i)).length ≤ 100000000 := by
 have hpg := prog_ok hg hp hc
 have h := stageS_ok hg hp hc.c0 hc.c1 hc.man hpg.st _ (Nat.le_refl _)
 rw [stageS_last] at h
 exact ⟨h.1, Nat.le_trans h.2 (pow10_le hpg.len)⟩
theorem putS_ok {g : GameD} (hg : GOk g) {s : StD} (hs : StOk g s) {side : Int} (hsd : side = 0 ∨ side = 1) {o : OutD} (h : putS side s = some o) : POk g o.pos ∧ o.pos.side = 1 - side := by
 unfold putS at h
 split at h
 ·simp only [Option.some.injEq] at h
  subst h
  have hc : codeOf s.kind side = 1 + 2 * s.kind + side := codeOf_ok (K := g.kinds.length) hs.k hg.k6 hsd
  have hk := hs.k
  exact ⟨POk.side (hs.p.setAt _ (by rw [hc]; omega)) (by omega), rfl⟩
 ·cases h
theorem runsP_ok {g : GameD} (hg : GOk g) {p : PosD} (hp : POk g p) {cell i : Int} (hc : ChoiceOk g p cell i) : ∀ o ∈ runsP g p cell i, POk g o.pos ∧ o.pos.side = 1 - p.side := by
 intro o ho
 unfold runsP at ho
 rw [sortU_mem] at ho
 obtain ⟨s, hs, h⟩ := List.mem_filterMap.1 ho
 exact putS_ok hg ((lastS_ok hg hp hc).1 s hs).1 hp.s h
theorem runsP_len {g : GameD} (hg : GOk g) {p : PosD} (hp : POk g p) {cell i : Int} (hc : ChoiceOk g p cell i) : (runsP g p cell i).length ≤ 100000000 := by
 unfold runsP
 have h1 := sortU_le cmpO ((lastS g p cell (progOf g p cell i)).filterMap (putS p.side))
 have h2 : ((lastS g p cell (progOf g p cell i)).filterMap (putS p.side)).length ≤ (lastS g p cell (progOf g p cell i)).length := List.length_filterMap_le _ _
 have h3 := (lastS_ok hg hp hc).2
 omega
theorem choice_of {g : GameD} {p : PosD} {c i : Nat} (hp : POk g p) (hc : c < p.at_.length) (hm : 0 ≤ (manOf (nth p.at_ c)).1 ∧ (manOf (nth p.at_ c)).2 = p.side)
  (hi : i < (nth g.kinds (manOf (nth p.at_ c)).1.toNat).progs.length) : ChoiceOk g p c i := by
 have := hp.al
 exact ⟨by omega, by omega, hm.1, hm.2, by omega, by simp only [Int.toNat_natCast]; omega⟩
theorem mem_outsP {g : GameD} {p : PosD} (hp : POk g p) {o : OutD} : o ∈ outsP g p ↔ ∃ c i : Nat, ChoiceOk g p c i ∧ o ∈ runsP g p c i := by
 have hal := hp.al
 unfold outsP
 rw [List.mem_flatMap]
 constructor
 ·rintro ⟨c, hc, ho⟩
  rw [List.mem_range] at hc
  unfold outsAt at ho
  split at ho
  ·rename_i hm
   obtain ⟨i, hi, ho⟩ := List.mem_flatMap.1 ho
   rw [List.mem_range] at hi
   exact ⟨c, i, choice_of hp hc hm hi, ho⟩
  ·simp at ho
 ·rintro ⟨c, i, hc, ho⟩
  refine ⟨c, ?_, ?_⟩
  ·have := hc.c1; rw [List.mem_range]; omega
  ·have h1 := hc.man
   have h2 := hc.side
   have h3 := hc.i1
   simp only [Int.toNat_natCast] at h1 h2 h3
   unfold outsAt
   rw [if_pos ⟨h1, h2⟩]
   exact List.mem_flatMap.2 ⟨i, by rw [List.mem_range]; omega, ho⟩
theorem outsP_ok {g : GameD} (hg : GOk g) {p : PosD} (hp : POk g p) : ∀ o ∈ outsP g p, POk g o.pos ∧ o.pos.side = 1 - p.side := by
 intro o ho
 obtain ⟨c, i, hc, ho⟩ := (mem_outsP hp).1 ho
 exact runsP_ok hg hp hc o ho
theorem flatMap_range_le {α : Type} (f : Nat → List α) (m : Nat) : ∀ n, (∀ k, k < n → (f k).length ≤ m) → ((List.range n).flatMap f).length ≤ n * m
 | 0, _ => by simp
 | n + 1, hf => by
  have := flatMap_range_le f m n (fun k hk => hf k (by omega))
  have := hf n (by omega)
  simp only [List.range_succ, List.flatMap_append, List.length_append, List.flatMap_cons, List.flatMap_nil, List.append_nil, Nat.add_mul, Nat.one_mul]
  omega
theorem outsAt_len {g : GameD} (hg : GOk g) {p : PosD} (hp : POk g p) {c : Nat} (hc : c < p.at_.length) : (outsAt g p c).length ≤ 800000000 := by
 unfold outsAt
 split
 ·rename_i hm
  have hal := hp.al
  have hk := kind_lt hg hp (cell := c) (by omega) (by omega) (by simpa using hm.1)
  simp only [Int.toNat_natCast] at hk
  have h8 := hg.pn _ (nth_mem hk)
  have h1 := flatMap_range_le (fun (i : Nat) => runsP g p c i) 100000000 (nth g.kinds (manOf (nth p.at_ c)).1.toNat).progs.length (fun i hi => runsP_len hg hp (choice_of hp hc hm hi))
  have h2 : (nth g.kinds (manOf (nth p.at_ c)).1.toNat).progs.length * 100000000 ≤ 8 * 100000000 := Nat.mul_le_mul_right _ h8
  omega
 ·simp
theorem outsK_len {g : GameD} (hg : GOk g) {p : PosD} (hp : POk g p) {k : Nat} (hk : k ≤ p.at_.length) : ((List.range k).flatMap (outsAt g p)).length ≤ 7200000000 := by
 have hal := hp.al
 have c9 := hg.c9
 have h1 := flatMap_range_le (outsAt g p) 800000000 k (fun c hc => outsAt_len hg hp (by omega))
 have h2 : k * 800000000 ≤ 9 * 800000000 := Nat.mul_le_mul_right _ (by omega)
 omega
theorem outsP_len {g : GameD} (hg : GOk g) {p : PosD} (hp : POk g p) : (outsP g p).length ≤ 7200000000 := outsK_len hg hp (Nat.le_refl _)
theorem dropsP_ok {g : GameD} (hg : GOk g) {p : PosD} (hp : POk g p) : ∀ q ∈ dropsP g p, POk g q ∧ q.side = 1 - p.side := by
 intro q hq
 unfold dropsP at hq
 rw [sortU_mem] at hq
 obtain ⟨k, hk, hq⟩ := List.mem_flatMap.1 hq
 obtain ⟨c, hc, hq⟩ := List.mem_filterMap.1 hq
 exact dropP_ok hg hp (by simpa using hk) hq
theorem dropsP_len {g : GameD} (hg : GOk g) {p : PosD} (hp : POk g p) : (dropsP g p).length ≤ 54 := by
 have h1 := sortU_le cmpP (dropsL g p)
 have h2 := dropsK_len g p g.kinds.length
 rw [dropsK_all] at h2
 have hal := hp.al
 have c9 := hg.c9
 have h3 : g.kinds.length * p.at_.length ≤ 6 * 9 := Nat.mul_le_mul hg.k6 (by omega)
 unfold dropsP
 omega
theorem movesL_ok {g : GameD} (hg : GOk g) {p : PosD} (hp : POk g p) : ∀ q ∈ movesL g p, POk g q ∧ q.side = 1 - p.side := by
 intro q hq
 unfold movesL at hq
 rcases List.mem_append.1 hq with hq | hq
 ·obtain ⟨o, ho, rfl⟩ := List.mem_map.1 hq
  exact outsP_ok hg hp o (List.mem_filter.1 ho).1
 ·split at hq
  ·simp at hq
  ·exact dropsP_ok hg hp q hq
theorem movesL_len {g : GameD} (hg : GOk g) {p : PosD} (hp : POk g p) : (movesL g p).length ≤ 7200000054 := by
 have h1 := outsP_len hg hp
 have h2 := dropsP_len hg hp
 have h3 : ((outsP g p).filter fun o => !mustP g p || o.took).length ≤ (outsP g p).length := List.length_filter_le _ _
 unfold movesL
 rw [List.length_append, List.length_map]
 split <;> simp <;> omega
theorem movesP_ok {g : GameD} (hg : GOk g) {p : PosD} (hp : POk g p) : ∀ q ∈ movesP g p, POk g q ∧ q.side = 1 - p.side := by
 intro q hq
 unfold movesP at hq
 split at hq
 ·simp at hq
 ·exact movesL_ok hg hp q (sortU_mem.1 hq)
theorem movesP_len {g : GameD} (hg : GOk g) {p : PosD} (hp : POk g p) : (movesP g p).length ≤ 7200000054 := by
 unfold movesP
 split
 ·simp
 ·exact Nat.le_trans (sortU_le _ _) (movesL_len hg hp)
theorem walkP_ok {g : GameD} (hg : GOk g) : ∀ (l : List Int) {p : PosD}, POk g p → ∀ q ∈ walkP g p l, POk g q
 | [], p, hp, q, hq => by simp [walkP] at hq; subst hq; exact hp
 | k :: l, p, hp, q, hq => by
  rw [walkP] at hq
  split at hq
  ·simp at hq; subst hq; exact hp
  ·rename_i hne
   rcases List.mem_cons.1 hq with rfl | hq
   ·exact hp
   ·refine walkP_ok hg l ((movesP_ok hg hp) _ (nth_mem ?_)).1 q hq
    have hpos : 0 < (movesP g p).length := List.length_pos_iff.2 hne
    have h1 : 0 ≤ k.emod (movesP g p).length := Int.emod_nonneg k (show ((movesP g p).length : Int) ≠ 0 by omega)
    have h2 : k.emod (movesP g p).length < (movesP g p).length := Int.emod_lt_of_pos k (show (0 : Int) < (movesP g p).length by omega)
    omega
theorem walkP_ne (g : GameD) (p : PosD) (l : List Int) : walkP g p l ≠ [] := by
 cases l with
 | nil => simp [walkP]
 | cons k l => rw [walkP]; split <;> simp
theorem walkP_len (g : GameD) : ∀ (l : List Int) (p : PosD), (walkP g p l).length ≤ l.length + 1
 | [], p => by simp [walkP]
 | k :: l, p => by
  rw [walkP]
  split
  ·simp
  ·have := walkP_len g l (nth (movesP g p) (k.emod (movesP g p).length).toNat)
   simp; omega
end Go.Av
end
section
/- Plain: a run has few states: bounds on outcomes and moves. -/
open Go Go.Proofs
namespace Go.Av
theorem addS_memK : ∀ {more l : List StD} {s : StD}, s ∈ addS l more ↔ s ∈ l ∨ s ∈ more
 | [], l, s => by simp [addS]
 | x :: more, l, s => by
  show s ∈ addS (if x ∈ l then l else l ++ [x]) more ↔ _
  rw [addS_memK]
  split
  ·rename_i h
   simp only [List.mem_cons]
   exact ⟨fun h => by rcases h with h | h <;> simp [h], fun h' => by rcases h' with h' | rfl | h' <;> simp [*]⟩
  ·simp [or_assoc]
theorem nextS_foldK (g : GameD) (x : Int × Int) : ∀ (now acc : List StD) (s : StD), s ∈ now.foldl (fun next s => addS next (stepS g s x)) acc ↔ s ∈ acc ∨ ∃ r ∈ now, s ∈ stepS g r x
 | [], acc, s => by simp
 | r :: now, acc, s => by
  rw [List.foldl_cons, nextS_foldK g x now, addS_memK]
  simp [or_assoc]
theorem nextS_memK {g : GameD} {x : Int × Int} {now : List StD} {s : StD} : s ∈ nextS g now x ↔ ∃ r ∈ now, s ∈ stepS g r x := by
 unfold nextS
 rw [nextS_foldK]
 simp
theorem onlyS_mem {s t : StD} {b : Bool} (h : t ∈ onlyS s b) : t = s := by
 unfold onlyS at h
 split at h <;> simp at h
 exact h
end Go.Av
end
section
/- Plain: positions in sorted lists; what is a move. -/
open Go Go.Proofs
namespace Go.Av
abbrev Inc (l : List PosD) : Prop := l.Pairwise (fun a b => cmpP a b < 0)
theorem Inc.lt {l : List PosD} (h : Inc l) {i j : Nat} (hij : i < j) (hj : j < l.length) : cmpP (nth l i) (nth l j) < 0 := by
 rw [nth_eq _ _ (by omega), nth_eq _ _ hj]
 exact List.pairwise_iff_getElem.1 h _ _ _ _ hij
theorem Inc.sign {l : List PosD} (h : Inc l) {i j : Nat} (hi : i < l.length) (hj : j < l.length) : (cmpP (nth l i) (nth l j) = 0 ↔ i = j) ∧ (cmpP (nth l i) (nth l j) < 0 ↔ i < j) := by
 have hs := cmp_pos.swap (nth l i) (nth l j)
 rcases Nat.lt_trichotomy i j with h' | h' | h'
 ·have := h.lt h' hj
  exact ⟨⟨by omega, by omega⟩, ⟨by omega, by omega⟩⟩
 ·subst h'
  have := (cmp_pos.eq (nth l i) (nth l i)).2 rfl
  exact ⟨⟨by omega, by omega⟩, ⟨by omega, by omega⟩⟩
 ·have := h.lt h' hi
  exact ⟨⟨by omega, by omega⟩, ⟨by omega, by omega⟩⟩
theorem Inc.inj {l : List PosD} (h : Inc l) {i j : Nat} (hi : i < l.length) (hj : j < l.length) (e : nth l i = nth l j) : i = j :=
 (h.sign hi hj).1.1 ((cmp_pos.eq _ _).2 e)
theorem mem_movesP {g : GameD} {p q : PosD} : q ∈ movesP g p ↔ endedP g p < 0 ∧ ((∃ o ∈ outsP g p, (mustP g p = true → o.took = true) ∧ o.pos = q) ∨ (mustP g p = false ∧ q ∈ dropsP g p)) := by
 unfold movesP
 split
 ·rename_i h
  simp only [List.not_mem_nil, false_iff, not_and]
  intro h'
  omega
 ·rename_i h
  rw [sortU_mem]
  unfold movesL
  rw [List.mem_append, List.mem_map]
  constructor
  ·rintro (⟨o, ho, rfl⟩ | hq)
   ·obtain ⟨h1, h2⟩ := List.mem_filter.1 ho
    refine ⟨by omega, .inl ⟨o, h1, fun hm => ?_, rfl⟩⟩
    rw [hm] at h2
    simpa using h2
   ·split at hq
    ·simp at hq
    ·rename_i hm
     exact ⟨by omega, .inr ⟨by simpa using hm, hq⟩⟩
  ·rintro ⟨_, ⟨o, h1, h2, rfl⟩ | ⟨hm, hq⟩⟩
   ·refine .inl ⟨o, List.mem_filter.2 ⟨h1, ?_⟩, rfl⟩
    cases hm : mustP g p
    ·rfl
    ·simpa using h2 hm
   ·refine .inr ?_
    rw [hm]
    exact hq
end Go.Av
end
section
/- Plain: the men of both sides before and after a move. -/
open Go Go.Proofs
namespace Go.Av
def mn (side kind : Int) (c : Int) : Bool := isMan default side kind c
def cnt (l : List Int) (side kind : Int) : Nat := l.countP (mn side kind)
theorem mn_zero (side kind : Int) : mn side kind 0 = false := by
  unfold mn isMan manOf
  simp
theorem cnt_set : ∀ (l : List Int) {i : Nat} (hi : i < l.length) (v side kind : Int), cnt (l.set i v) side kind + (if mn side kind (nth l i) then 1 else 0) = cnt l side kind + (if mn side kind v then 1 else 0)
  | [], i, hi, _, _, _ => by simp at hi
  | a :: l, 0, _, v, side, kind => by
    simp only [cnt, List.set_cons_zero, List.countP_cons, nth_zero]
    exact Nat.add_right_comm _ _ _
  | a :: l, i + 1, hi, v, side, kind => by
    have := cnt_set l (i := i) (by simpa using hi) v side kind
    simp only [cnt, List.set_cons_succ, List.countP_cons, nth_succ] at this ⊢
    revert this
    cases mn side kind a <;> cases mn side kind v <;> cases mn side kind (nth l i) <;> simp <;> omega
theorem manOf_code {k s : Int} (hk : 0 ≤ k ∧ k ≤ 5) (hs : s = 0 ∨ s = 1) : manOf (codeOf k s) = (k, s) := by
  have e : codeOf k s = 2 * k + 1 + s := by
    unfold codeOf
    rw [if_pos (by omega)]
  rw [e]
  unfold manOf
  rw [if_pos (by omega)]
  have h1 : (2 * k + 1 + s - 1).tdiv 2 = k := by rw [Int.tdiv_eq_ediv_of_nonneg (by omega)]; omega
  have h2 : (2 * k + 1 + s - 1).tmod 2 = s := by rw [Int.tmod_eq_emod_of_nonneg (by omega)]; omega
  rw [h1, h2]
theorem mn_own {side c kind : Int} (h : (manOf c).2 = side) : mn (1 - side) kind c = false := by
  unfold mn isMan
  have : ¬ (manOf c).2 = 1 - side := by omega
  simp [this]
theorem mn_foe {side c kind : Int} (h : (manOf c).2 ≠ side) : mn side kind c = false := by
  unfold mn isMan
  simp [h]
theorem mn_any {side c : Int} (h : (manOf c).2 = side) (h0 : 0 ≤ (manOf c).1) : mn side (-1) c = true := by
  unfold mn isMan
  simp [h, h0]
structure MenI (a : List Int) (side : Int) (l : List Int) : Prop where
  len : l.length = a.length
  own : cnt l side (-1) + 1 = cnt a side (-1)
  foe : ∀ k, cnt l (1 - side) k ≤ cnt a (1 - side) k
theorem MenI.start {a : List Int} {i : Nat} (hi : i < a.length) {side : Int} (h0 : 0 ≤ (manOf (nth a i)).1) (h : (manOf (nth a i)).2 = side) : MenI a side (a.set i 0) := by
  refine ⟨by simp, ?_, fun k => ?_⟩
  · have := cnt_set a hi 0 side (-1)
    rw [mn_zero, mn_any h h0] at this
    simpa using this
  · have := cnt_set a hi 0 (1 - side) k
    rw [mn_zero, mn_own h] at this
    simp at this
    omega
theorem MenI.take {a l : List Int} {side : Int} (h : MenI a side l) {i : Nat} (hi : i < l.length) (hs : (manOf (nth l i)).2 ≠ side) : MenI a side (l.set i 0) := by
  refine ⟨by simpa using h.len, ?_, fun k => ?_⟩
  · have := cnt_set l hi 0 side (-1)
    rw [mn_zero, mn_foe hs] at this
    have := h.own
    simp at *
    omega
  · have := cnt_set l hi 0 (1 - side) k
    rw [mn_zero] at this
    have := h.foe k
    simp at *
    omega
theorem cnt_push {l : List Int} {i j : Nat} (hi : i < l.length) (hj : j < l.length) (h0 : nth l j = 0) (h1 : nth l i ≠ 0) (side kind : Int) : cnt ((l.set j (nth l i)).set i 0) side kind = cnt l side kind := by
  have hij : j ≠ i := fun e => h1 (e ▸ h0)
  have a1 := cnt_set l hj (nth l i) side kind
  have a2 := cnt_set (l.set j (nth l i)) (i := i) (by simpa using hi) 0 side kind
  rw [h0, mn_zero] at a1
  have e := nth_setE l j i (nth l i)
  rw [if_neg (fun h => hij h.1)] at e
  rw [e, mn_zero] at a2
  revert a1 a2
  cases mn side kind (nth l i) <;> simp <;> omega
theorem MenI.push {a l : List Int} {side : Int} (h : MenI a side l) {i j : Nat} (hi : i < l.length) (hj : j < l.length) (h0 : nth l j = 0) (h1 : nth l i ≠ 0) : MenI a side ((l.set j (nth l i)).set i 0) :=
  ⟨by simpa using h.len, by rw [cnt_push hi hj h0 h1]; exact h.own, fun k => by rw [cnt_push hi hj h0 h1]; exact h.foe k⟩
theorem slideGo_at {s : StD} : ∀ {l : List Int}, ∀ t ∈ slideGo s l, t.p = s.p
  | [], t, h => by simp [slideGo] at h
  | c :: l, t, h => by
    rw [slideGo, List.mem_cons] at h
    rcases h with rfl | h
    · rfl
    · split at h
      · exact slideGo_at t h
      · simp at h
theorem withHand_at (p : PosD) (side : Int) (l : List Int) : (p.withHand side l).at_ = p.at_ := by
  unfold PosD.withHand
  split <;> rfl
theorem MenI.step {g : GameD} (hg : GOk g) {a : List Int} {s : StD} (hs : StOk g s) (h : MenI a s.p.side s.p.at_) {x : Int × Int} : ∀ t ∈ stepS g s x, MenI a s.p.side t.p.at_ := by
  intro t ht
  have hal := hs.p.al
  have c0 := hs.c0
  have c1 := hs.c1
  have hcl : s.cursor.toNat < s.p.at_.length := by omega
  unfold stepS at ht
  simp only at ht
  repeat' split at ht
  · have := onlyS_mem ht; subst this; exact h
  · have := slideGo_at t ht; rw [this]; exact h
  · have := onlyS_mem ht; subst this; exact h
  · have := onlyS_mem ht; subst this; exact h
  · have := onlyS_mem ht; subst this; exact h
  · unfold takeS at ht
    simp only at ht
    split at ht
    · simp at ht
    · rename_i hm
      have hm2 : (manOf (nth s.p.at_ s.cursor.toNat)).2 ≠ s.p.side := fun e => hm (.inr e)
      have key := h.take hcl hm2
      split at ht
      · split at ht
        · simp at ht
        · simp only [List.mem_singleton] at ht
          subst ht
          simp only [withHand_at]
          exact key
      · simp only [List.mem_singleton] at ht
        subst ht
        exact key
  · unfold pushS at ht
    simp only at ht
    split at ht
    · simp at ht
    · rename_i hm
      simp only [not_or, Decidable.not_not, Int.not_lt] at hm
      simp only [List.mem_singleton] at ht
      subst ht
      have hto := toB_lt hg.board s.p.side x.2 s.cursor
      have e : g.board.cells = g.cells := rfl
      exact h.push hcl (by omega) hm.2.2 hm.1
  · simp only [List.mem_singleton] at ht; subst ht; exact h
  · have := onlyS_mem ht; subst this; exact h
  · simp only [List.mem_singleton] at ht; subst ht; exact h
  · simp only [List.mem_singleton] at ht; subst ht; exact h
theorem MenI.fold {g : GameD} (hg : GOk g) {a : List Int} {side : Int} : ∀ (prog : List (Int × Int)) (now : List StD), (∀ x ∈ prog, StepOk g.next.length g.kinds.length g.rights x) → (∀ s ∈ now, StOk g s ∧ s.p.side = side ∧ MenI a side s.p.at_) →
    ∀ s ∈ prog.foldl (nextS g) now, StOk g s ∧ s.p.side = side ∧ MenI a side s.p.at_
  | [], now, _, h => h
  | x :: prog, now, hp, h => by
    rw [List.foldl_cons]
    refine MenI.fold hg prog _ (fun y hy => hp y (by simp [hy])) (fun s hs => ?_)
    obtain ⟨r, hr, hs⟩ := nextS_memK.1 hs
    obtain ⟨h1, h2, h3⟩ := h r hr
    obtain ⟨k1, k2⟩ := stepS_ok hg h1 (hp x (by simp)) s hs
    exact ⟨k1, k2.trans h2, h2 ▸ MenI.step hg h1 (h2.symm ▸ h3) s hs⟩
theorem runsP_men {g : GameD} (hg : GOk g) {p : PosD} (hp : POk g p) {cell i : Int} (hc : ChoiceOk g p cell i) : ∀ o ∈ runsP g p cell i, cnt o.pos.at_ p.side (-1) = cnt p.at_ p.side (-1) ∧ ∀ k, cnt o.pos.at_ (1 - p.side) k ≤ cnt p.at_ (1 - p.side) k := by
  intro o ho
  unfold runsP at ho
  rw [sortU_mem] at ho
  obtain ⟨s, hs, h⟩ := List.mem_filterMap.1 ho
  have hal := hp.al
  have c0 := hc.c0
  have c1 := hc.c1
  have hcl : cell.toNat < p.at_.length := by omega
  have hst := (startS_ok hg hp hc.c0 hc.c1 hc.man).1
  obtain ⟨k1, k2, k3⟩ := MenI.fold hg (a := p.at_) (side := p.side) (progOf g p cell i) [startS p cell] (prog_ok hg hp hc).st (fun t ht => by
    simp only [List.mem_singleton] at ht
    subst ht
    exact ⟨hst, rfl, MenI.start hcl hc.man hc.side⟩) s hs
  unfold putS at h
  split at h
  · rename_i h0
    simp only [Option.some.injEq] at h
    subst h
    have hk := k1.k
    have k6 := hg.k6
    have hm := manOf_code (k := s.kind) (s := p.side) (by omega) hp.s
    have kc0 := k1.c0
    have kc1 := k1.c1
    have kal := k1.p.al
    have hcs : s.cursor.toNat < s.p.at_.length := by omega
    constructor
    · have := cnt_set s.p.at_ hcs (codeOf s.kind p.side) p.side (-1)
      rw [h0, mn_zero, mn_any (by rw [hm]) (by rw [hm]; exact hk.1)] at this
      have := k3.own
      simp at *
      omega
    · intro k
      have := cnt_set s.p.at_ hcs (codeOf s.kind p.side) (1 - p.side) k
      rw [h0, mn_zero, mn_own (by rw [hm])] at this
      have := k3.foe k
      simp at *
      omega
  · cases h
theorem dropP_men {g : GameD} (hg : GOk g) {p : PosD} (hp : POk g p) {k c : Nat} (hk : k < g.kinds.length) (hc : c < p.at_.length) {q : PosD} (h : dropP g p k c = some q) :
    cnt q.at_ p.side (-1) = cnt p.at_ p.side (-1) + 1 ∧ (∀ j, cnt q.at_ (1 - p.side) j ≤ cnt p.at_ (1 - p.side) j) ∧ q.hand p.side = (p.hand p.side).set k (nth (p.hand p.side) k - 1) := by
  unfold dropP at h
  split at h
  · cases h
  · rename_i h0
    simp only [not_or, Decidable.not_not] at h0
    simp only [Option.some.injEq] at h
    subst h
    have k6 := hg.k6
    have hm := manOf_code (k := k) (s := p.side) (by omega) hp.s
    simp only [withHand_at]
    refine ⟨?_, fun j => ?_, ?_⟩
    · have := cnt_set p.at_ hc (codeOf k p.side) p.side (-1)
      rw [h0.2, mn_zero, mn_any (by rw [hm]) (by rw [hm]; simp)] at this
      simp at this
      omega
    · have := cnt_set p.at_ hc (codeOf k p.side) (1 - p.side) j
      rw [h0.2, mn_zero, mn_own (by rw [hm])] at this
      simp at this
      omega
    · unfold PosD.hand PosD.withHand
      split <;> rfl
def sumK (f : Nat → Int) : Nat → Int
  | 0 => 0
  | n + 1 => sumK f n + f n
theorem sumK_add (f g : Nat → Int) : ∀ n, sumK (fun k => f k + g k) n = sumK f n + sumK g n
  | 0 => rfl
  | n + 1 => by simp only [sumK, sumK_add f g n]; omega
theorem sumK_sub (f g : Nat → Int) : ∀ n, sumK (fun k => f k - g k) n = sumK f n - sumK g n
  | 0 => rfl
  | n + 1 => by simp only [sumK, sumK_sub f g n]; omega
theorem sumK_zero : ∀ n, sumK (fun _ => 0) n = 0
  | 0 => rfl
  | n + 1 => by simp only [sumK, sumK_zero n]; rfl
theorem sumK_congr {f g : Nat → Int} : ∀ {n}, (∀ k, k < n → f k = g k) → sumK f n = sumK g n
  | 0, _ => rfl
  | n + 1, h => by simp only [sumK, sumK_congr (n := n) fun k hk => h k (by omega), h n (by omega)]
theorem sumK_one (j : Nat) (v : Int) : ∀ n, sumK (fun k => if k = j then v else 0) n = if j < n then v else 0
  | 0 => by simp [sumK]
  | n + 1 => by
    simp only [sumK, sumK_one j v n]
    by_cases h : j < n
    · rw [if_pos h, if_neg (by omega), if_pos (by omega)]; omega
    · by_cases h' : n = j
      · rw [if_neg h, if_pos h', if_pos (by omega)]; omega
      · rw [if_neg h, if_neg h', if_neg (by omega)]; rfl
theorem sumK_bound {f : Nat → Int} {b : Int} (hb : 0 ≤ b) : ∀ {n : Nat}, (∀ k, k < n → -b ≤ f k ∧ f k ≤ b) → -(b * n) ≤ sumK f n ∧ sumK f n ≤ b * n
  | 0, _ => by simp [sumK]
  | n + 1, h => by
    have h1 := sumK_bound hb (n := n) fun k hk => h k (by omega)
    have h2 := h n (by omega)
    have e : b * ((n + 1 : Nat) : Int) = b * n + b := by rw [Int.natCast_add, Int.mul_add]; simp
    simp only [sumK]
    omega
theorem cnt_kinds {side : Int} {K : Nat} (hK : K ≤ 6) : ∀ {l : List Int}, (∀ c ∈ l, 0 ≤ c ∧ c ≤ 2 * K) → sumK (fun k => (cnt l side (k : Int) : Int)) K = (cnt l side (-1) : Int)
  | [], _ => by
    show sumK (fun k => 0) K = 0
    exact sumK_zero K
  | c :: l, h => by
    have ih := cnt_kinds (side := side) hK (l := l) fun x hx => h x (by simp [hx])
    have hc := h c (by simp)
    have hman := manOf_cases hc.1 hc.2 hK
    have e1 : ∀ k : Int, (cnt (c :: l) side k : Int) = (cnt l side k : Int) + if mn side k c then 1 else 0 := fun k => by
      simp only [cnt, List.countP_cons]
      split <;> simp
    rw [sumK_congr (g := fun (k : Nat) => (cnt l side (k : Int) : Int) + if mn side (k : Int) c then 1 else 0) fun k _ => e1 k, sumK_add, ih, e1]
    congr 1
    rcases hman with ⟨h0, _⟩ | ⟨_, h1, h2, _, _⟩
    · subst h0
      simp only [mn_zero]
      exact sumK_zero K
    · by_cases hs : (manOf c).2 = side
      · rw [mn_any hs h1]
        rw [sumK_congr (g := fun k => if k = (manOf c).1.toNat then 1 else 0) fun k hk => ?_, sumK_one, if_pos (by omega), if_pos rfl]
        have e : mn side (k : Int) c = decide (k = (manOf c).1.toNat) := by
          unfold mn isMan
          have hneg : ¬ (k : Int) < 0 := by omega
          have he : decide ((manOf c).1 = (k : Int)) = decide (k = (manOf c).1.toNat) := by
            rw [decide_eq_decide]
            omega
          simp only [hs, decide_true, Bool.and_true, hneg, decide_false, Bool.false_or, he]
          simp only [decide_eq_true h1, Bool.true_and]
        rw [e]
        simp
      · simp only [mn_foe hs]
        exact sumK_zero K
theorem movesP_men {g : GameD} (hg : GOk g) {p : PosD} (hp : POk g p) {m : PosD} (hm : m ∈ movesP g p) :
    (∀ k, menP m (1 - p.side) k ≤ menP p (1 - p.side) k) ∧
    (sumK (fun k => (menP m p.side (k : Int) : Int) - (menP p p.side (k : Int) : Int)) g.kinds.length = 0 ∨
     sumK (fun k => (menP m p.side (k : Int) : Int) - (menP p p.side (k : Int) : Int)) g.kinds.length = 1 ∧ sumK (fun k => nth (p.hand p.side) k - nth (m.hand p.side) k) g.kinds.length = 1) := by
  have hmo := (movesP_ok hg hp m hm).1
  have e : sumK (fun k => (menP m p.side (k : Int) : Int) - (menP p p.side (k : Int) : Int)) g.kinds.length = (cnt m.at_ p.side (-1) : Int) - (cnt p.at_ p.side (-1) : Int) := by
    rw [sumK_sub]
    rw [show sumK (fun k => (menP m p.side (k : Int) : Int)) g.kinds.length = (cnt m.at_ p.side (-1) : Int) from cnt_kinds hg.k6 hmo.av,
      show sumK (fun k => (menP p p.side (k : Int) : Int)) g.kinds.length = (cnt p.at_ p.side (-1) : Int) from cnt_kinds hg.k6 hp.av]
  rw [e]
  rcases (mem_movesP.1 hm).2 with ⟨o, ho, _, rfl⟩ | ⟨_, hd⟩
  · obtain ⟨c, i, hc, ho⟩ := (mem_outsP hp).1 ho
    obtain ⟨h1, h2⟩ := runsP_men hg hp hc o ho
    refine ⟨h2, .inl ?_⟩
    omega
  · unfold dropsP at hd
    rw [sortU_mem] at hd
    obtain ⟨k, hk, hd⟩ := List.mem_flatMap.1 hd
    obtain ⟨c, hcc, hd⟩ := List.mem_filterMap.1 hd
    rw [List.mem_range] at hk hcc
    obtain ⟨h1, h2, h3⟩ := dropP_men hg hp hk hcc hd
    refine ⟨h2, .inr ⟨by omega, ?_⟩⟩
    have hl := (hp.hand p.side).len
    rw [h3, sumK_congr (g := fun j => if j = k then 1 else 0) fun j hj => ?_, sumK_one, if_pos hk]
    rw [nth_setE]
    by_cases hjk : k = j
    · subst hjk
      rw [if_pos ⟨rfl, by omega⟩, if_pos rfl]
      omega
    · rw [if_neg (by omega), if_neg (by omega)]
      omega
end Go.Av
end
section
/- Plain: what a move does to the men of a material: captured men, and hands. -/
open Go Go.Proofs
namespace Go.Av
structure CapI (g : GameD) (p : PosD) (n : Nat) (s : StD) : Prop where
 side : s.p.side = p.side
 hand : ∀ k : Nat, k < g.kinds.length → nth (s.p.hand p.side) k = nth (p.hand p.side) k + (if (nth g.kinds k).keep = true then (cnt p.at_ (1 - p.side) (k : Int) : Int) - (cnt s.p.at_ (1 - p.side) (k : Int) : Int) else 0)
 tot : cnt p.at_ (1 - p.side) (-1) ≤ cnt s.p.at_ (1 - p.side) (-1) + n
theorem CapI.same {g : GameD} {p : PosD} {n : Nat} {s t : StD} (h : CapI g p n s) (h1 : t.p.side = s.p.side) (h2 : t.p.hand p.side = s.p.hand p.side) (h3 : ∀ k, cnt t.p.at_ (1 - p.side) k = cnt s.p.at_ (1 - p.side) k) : CapI g p n t :=
 ⟨h1.trans h.side, fun k hk => by rw [h2, h3]; exact h.hand k hk, by rw [h3]; exact h.tot⟩
theorem hand_withHand (p : PosD) (side : Int) (l : List Int) : (p.withHand side l).hand side = l := by
 unfold PosD.hand PosD.withHand
 split <;> rfl
theorem mn_kind {side k c : Int} (h : (manOf c).2 = side) (h0 : 0 ≤ (manOf c).1) (hk : 0 ≤ k) : mn side k c = decide ((manOf c).1 = k) := by
 unfold mn isMan
 have : ¬ k < 0 := by omega
 simp [h, h0, this]
theorem CapI.take {g : GameD} (hg : GOk g) {p : PosD} {n : Nat} {s : StD} (hs : StOk g s) (h : CapI g p n s) : ∀ t ∈ takeS g s, CapI g p (n + 1) t := by
 intro t ht
 have hal := hs.p.al
 have c0 := hs.c0
 have c1 := hs.c1
 have hcl : s.cursor.toNat < s.p.at_.length := by omega
 have hcv := hs.p.av _ (nth_mem hcl)
 have hsd := h.side
 have hps := hs.p.s
 unfold takeS at ht
 simp only at ht
 split at ht
 ·simp at ht
 ·rename_i hm
  rw [not_or] at hm
  have hman := manOf_cases hcv.1 hcv.2 hg.k6
  have hm2 : (manOf (nth s.p.at_ s.cursor.toNat)).2 = 1 - p.side := by
   rcases hman with h3 | h3
   ·rw [h3.2] at hm; simp at hm
   ·omega
  have hm1 : 0 ≤ (manOf (nth s.p.at_ s.cursor.toNat)).1 := by omega
  have hmK : (manOf (nth s.p.at_ s.cursor.toNat)).1 < g.kinds.length := by
   rcases hman with h3 | h3
   ·rw [h3.2] at hm; simp at hm
   ·omega
  have hck : ∀ k : Nat, (cnt (s.p.at_.set s.cursor.toNat 0) (1 - p.side) (k : Int) : Int) = (cnt s.p.at_ (1 - p.side) (k : Int) : Int) - (if (manOf (nth s.p.at_ s.cursor.toNat)).1 = (k : Int) then 1 else 0) := fun k => by
   have := cnt_set s.p.at_ hcl 0 (1 - p.side) (k : Int)
   rw [mn_zero, mn_kind hm2 hm1 (by omega)] at this
   by_cases e : (manOf (nth s.p.at_ s.cursor.toNat)).1 = (k : Int)
   ·rw [if_pos e]
    simp [e] at this
    omega
   ·rw [if_neg e]
    simp [e] at this
    omega
  have hct : cnt (s.p.at_.set s.cursor.toNat 0) (1 - p.side) (-1) + 1 = cnt s.p.at_ (1 - p.side) (-1) := by
   have := cnt_set s.p.at_ hcl 0 (1 - p.side) (-1)
   rw [mn_zero, mn_any hm2 hm1] at this
   simpa using this
  have htot := h.tot
  split at ht
  ·rename_i hkeep
   split at ht
   ·simp at ht
   ·simp only [List.mem_singleton] at ht
    subst ht
    refine ⟨?_, fun k hk => ?_, ?_⟩
    ·simp only [PosD.withHand, clr]
     split <;> exact hsd
    ·have hh := h.hand k hk
     have hlen := (hs.p.hand p.side).len
     rw [← hsd] at hh hlen ⊢
     rw [hand_withHand]
     simp only [withHand_at]
     rw [show (clr s.p s.cursor).at_ = s.p.at_.set s.cursor.toNat 0 from rfl, nth_setE, hsd, hck k]
     rw [hsd] at hh hlen
     by_cases e : (manOf (nth s.p.at_ s.cursor.toNat)).1 = (k : Int)
     ·have e2 : (manOf (nth s.p.at_ s.cursor.toNat)).1.toNat = k := by omega
      rw [e2] at hkeep
      rw [if_pos ⟨e2, by omega⟩, if_pos e, e2, if_pos hkeep, hh, if_pos hkeep]
      omega
     ·have e2 : ¬ (manOf (nth s.p.at_ s.cursor.toNat)).1.toNat = k := by omega
      rw [if_neg (fun h => e2 h.1), if_neg e, hh]
      simp
    ·simp only [withHand_at]
     rw [show (clr s.p s.cursor).at_ = s.p.at_.set s.cursor.toNat 0 from rfl]
     omega
  ·rename_i hkeep
   simp only [List.mem_singleton] at ht
   subst ht
   refine ⟨hsd, fun k hk => ?_, ?_⟩
   ·have hh := h.hand k hk
    rw [show ({ s with p := clr s.p s.cursor, took := true } : StD).p.hand p.side = s.p.hand p.side from rfl,
     show ({ s with p := clr s.p s.cursor, took := true } : StD).p.at_ = s.p.at_.set s.cursor.toNat 0 from rfl, hck k, hh]
    by_cases e : (manOf (nth s.p.at_ s.cursor.toNat)).1 = (k : Int)
    ·have e2 : (manOf (nth s.p.at_ s.cursor.toNat)).1.toNat = k := by omega
     rw [e2] at hkeep
     rw [if_neg hkeep, if_neg hkeep]
    ·rw [if_neg e]
     simp
   ·rw [show ({ s with p := clr s.p s.cursor, took := true } : StD).p.at_ = s.p.at_.set s.cursor.toNat 0 from rfl]
    omega
theorem CapI.step {g : GameD} (hg : GOk g) {p : PosD} {n : Nat} {s : StD} (hs : StOk g s) (h : CapI g p n s) {x : Int × Int} : ∀ t ∈ stepS g s x, CapI g p (n + if x.1 = 6 then 1 else 0) t := by
 intro t ht
 have hal := hs.p.al
 have c0 := hs.c0
 have c1 := hs.c1
 have hcl : s.cursor.toNat < s.p.at_.length := by omega
 unfold stepS at ht
 simp only at ht
 by_cases h6 : x.1 = 6
 ·rw [if_neg (by omega), if_neg (by omega), if_neg (by omega), if_neg (by omega), if_neg (by omega), if_pos h6] at ht
  rw [if_pos h6]
  exact h.take hg hs t ht
 ·rw [if_neg h6, Nat.add_zero]
  repeat' split at ht
  ·have := onlyS_mem ht; subst this; exact h.same rfl rfl fun _ => rfl
  ·have := slideGo_at t ht; exact h.same (by rw [this]) (by rw [this]) fun _ => by rw [this]
  ·have := onlyS_mem ht; subst this; exact h
  ·have := onlyS_mem ht; subst this; exact h
  ·have := onlyS_mem ht; subst this; exact h
  ·unfold pushS at ht
   simp only at ht
   split at ht
   ·simp at ht
   ·rename_i hm
    simp only [not_or, Decidable.not_not, Int.not_lt] at hm
    simp only [List.mem_singleton] at ht
    subst ht
    have hto := toB_lt hg.board s.p.side x.2 s.cursor
    have e : g.board.cells = g.cells := rfl
    exact h.same rfl rfl fun k => cnt_push hcl (by omega) hm.2.2 hm.1 _ _
  ·simp only [List.mem_singleton] at ht; subst ht; exact h.same rfl rfl fun _ => rfl
  ·have := onlyS_mem ht; subst this; exact h
  ·simp only [List.mem_singleton] at ht; subst ht; exact h.same rfl rfl fun _ => rfl
  ·simp only [List.mem_singleton] at ht; subst ht; exact h
theorem CapI.fold {g : GameD} (hg : GOk g) {p : PosD} : ∀ (prog : List (Int × Int)) (now : List StD) (n : Nat), (∀ x ∈ prog, StepOk g.next.length g.kinds.length g.rights x) → (∀ s ∈ now, StOk g s ∧ CapI g p n s) →
  ∀ s ∈ prog.foldl (nextS g) now, StOk g s ∧ CapI g p (n + countOp prog 6) s
 | [], now, n, _, h => by simpa [countOp] using h
 | x :: prog, now, n, hp, h => by
  rw [List.foldl_cons]
  have ih := CapI.fold hg (p := p) prog (nextS g now x) (n + if x.1 = 6 then 1 else 0) (fun y hy => hp y (by simp [hy])) (fun s hs => by
   obtain ⟨r, hr, hs⟩ := nextS_memK.1 hs
   obtain ⟨h1, h2⟩ := h r hr
   exact ⟨(stepS_ok hg h1 (hp x (by simp)) s hs).1, h2.step hg h1 s hs⟩)
  have e : n + (if x.1 = 6 then 1 else 0) + countOp prog 6 = n + countOp (x :: prog) 6 := by
   unfold countOp
   rw [List.countP_cons]
   simp only [beq_iff_eq]
   omega
  rwa [e] at ih
theorem runsP_cap {g : GameD} (hg : GOk g) {p : PosD} (hp : POk g p) {cell i : Int} (hc : ChoiceOk g p cell i) : ∀ o ∈ runsP g p cell i,
  (∀ k : Nat, k < g.kinds.length → nth (o.pos.hand p.side) k = nth (p.hand p.side) k + (if (nth g.kinds k).keep = true then (cnt p.at_ (1 - p.side) (k : Int) : Int) - (cnt o.pos.at_ (1 - p.side) (k : Int) : Int) else 0)) ∧
   cnt p.at_ (1 - p.side) (-1) ≤ cnt o.pos.at_ (1 - p.side) (-1) + 2 := by
 intro o ho
 unfold runsP at ho
 rw [sortU_mem] at ho
 obtain ⟨s, hs, h⟩ := List.mem_filterMap.1 ho
 have hal := hp.al
 have c0 := hc.c0
 have c1 := hc.c1
 have hcl : cell.toNat < p.at_.length := by omega
 have hst := (startS_ok hg hp hc.c0 hc.c1 hc.man).1
 have hcz : ∀ k, cnt (p.at_.set cell.toNat 0) (1 - p.side) k = cnt p.at_ (1 - p.side) k := fun k => by
  have := cnt_set p.at_ hcl 0 (1 - p.side) k
  rw [mn_zero, mn_own hc.side] at this
  simpa using this
 have hpo := prog_ok hg hp hc
 obtain ⟨k1, k2⟩ := CapI.fold hg (p := p) (progOf g p cell i) [startS p cell] 0 hpo.st (fun t ht => by
  simp only [List.mem_singleton] at ht
  subst ht
  refine ⟨hst, rfl, fun k hk => ?_, ?_⟩
  ·rw [show (startS p cell).p.at_ = p.at_.set cell.toNat 0 from rfl, hcz, show (startS p cell).p.hand p.side = p.hand p.side from rfl]
   split <;> omega
  ·rw [show (startS p cell).p.at_ = p.at_.set cell.toNat 0 from rfl, hcz]
   omega) s hs
 have ht := hpo.take
 unfold putS at h
 split at h
 ·rename_i h0
  simp only [Option.some.injEq] at h
  subst h
  have hk := k1.k
  have k6 := hg.k6
  have hm := manOf_code (k := s.kind) (s := p.side) (by omega) hp.s
  have kc0 := k1.c0
  have kc1 := k1.c1
  have kal := k1.p.al
  have hcs : s.cursor.toNat < s.p.at_.length := by omega
  have hcy : ∀ k, cnt (s.p.at_.set s.cursor.toNat (codeOf s.kind p.side)) (1 - p.side) k = cnt s.p.at_ (1 - p.side) k := fun k => by
   have := cnt_set s.p.at_ hcs (codeOf s.kind p.side) (1 - p.side) k
   rw [h0, mn_zero, mn_own (by rw [hm])] at this
   simpa using this
  refine ⟨fun k hk => ?_, ?_⟩
  ·have := k2.hand k hk
   simp only [hcy]
   exact this
  ·have := k2.tot
   simp only [hcy]
   omega
 ·cases h
theorem dropP_foe {g : GameD} (hg : GOk g) {p : PosD} (hp : POk g p) {k c : Nat} (hk : k < g.kinds.length) (hc : c < p.at_.length) {q : PosD} (h : dropP g p k c = some q) (j : Int) : cnt q.at_ (1 - p.side) j = cnt p.at_ (1 - p.side) j := by
 unfold dropP at h
 split at h
 ·cases h
 ·rename_i h0
  simp only [not_or, Decidable.not_not] at h0
  simp only [Option.some.injEq] at h
  subst h
  have k6 := hg.k6
  have hm := manOf_code (k := k) (s := p.side) (by omega) hp.s
  simp only [withHand_at]
  have := cnt_set p.at_ hc (codeOf k p.side) (1 - p.side) j
  rw [h0.2, mn_zero, mn_own (by rw [hm])] at this
  simpa using this
theorem movesP_cap {g : GameD} (hg : GOk g) {p : PosD} (hp : POk g p) {m : PosD} (hm : m ∈ movesP g p) :
  sumK (fun k => (cnt m.at_ p.side (k : Int) : Int) + nth (m.hand p.side) k - (cnt p.at_ p.side (k : Int) : Int) - nth (p.hand p.side) k) g.kinds.length =
   sumK (fun k => if (nth g.kinds k).keep = true then (cnt p.at_ (1 - p.side) (k : Int) : Int) - (cnt m.at_ (1 - p.side) (k : Int) : Int) else 0) g.kinds.length ∧
  sumK (fun k => (cnt p.at_ (1 - p.side) (k : Int) : Int) - (cnt m.at_ (1 - p.side) (k : Int) : Int)) g.kinds.length ≤ 2 ∧
  ∀ k : Int, cnt m.at_ (1 - p.side) k ≤ cnt p.at_ (1 - p.side) k := by
 have hmo := (movesP_ok hg hp m hm).1
 have hfoe := (movesP_men hg hp hm).1
 have e1 : sumK (fun k => (cnt m.at_ p.side (k : Int) : Int) + nth (m.hand p.side) k - (cnt p.at_ p.side (k : Int) : Int) - nth (p.hand p.side) k) g.kinds.length =
   (cnt m.at_ p.side (-1) : Int) - (cnt p.at_ p.side (-1) : Int) + sumK (fun k => nth (m.hand p.side) k - nth (p.hand p.side) k) g.kinds.length := by
  rw [← cnt_kinds (side := p.side) hg.k6 hmo.av, ← cnt_kinds (side := p.side) hg.k6 hp.av, ← sumK_sub, ← sumK_add]
  exact sumK_congr fun k _ => by omega
 have e2 : sumK (fun k => (cnt p.at_ (1 - p.side) (k : Int) : Int) - (cnt m.at_ (1 - p.side) (k : Int) : Int)) g.kinds.length = (cnt p.at_ (1 - p.side) (-1) : Int) - (cnt m.at_ (1 - p.side) (-1) : Int) := by
  rw [sumK_sub, cnt_kinds (side := 1 - p.side) hg.k6 hmo.av, cnt_kinds (side := 1 - p.side) hg.k6 hp.av]
 refine ⟨?_, ?_, hfoe⟩
 ·rw [e1]
  rcases (mem_movesP.1 hm).2 with ⟨o, ho, _, rfl⟩ | ⟨_, hd⟩
  ·obtain ⟨c, i, hc, ho⟩ := (mem_outsP hp).1 ho
   have h1 := (runsP_men hg hp hc o ho).1
   obtain ⟨h2, h3⟩ := runsP_cap hg hp hc o ho
   rw [sumK_congr (g := fun k => if (nth g.kinds k).keep = true then (cnt p.at_ (1 - p.side) (k : Int) : Int) - (cnt o.pos.at_ (1 - p.side) (k : Int) : Int) else 0) fun k hk => by rw [h2 k hk]; omega]
   omega
  ·unfold dropsP at hd
   rw [sortU_mem] at hd
   obtain ⟨k, hk, hd⟩ := List.mem_flatMap.1 hd
   obtain ⟨c, hcc, hd⟩ := List.mem_filterMap.1 hd
   rw [List.mem_range] at hk hcc
   obtain ⟨h1, h2, h3⟩ := dropP_men hg hp hk hcc hd
   have hf := fun j => dropP_foe hg hp hk hcc hd j
   have hl := (hp.hand p.side).len
   rw [h3, sumK_congr (g := fun j => if j = k then -1 else 0) fun j hj => ?_, sumK_one, if_pos hk]
   ·rw [sumK_congr (g := fun _ => 0) fun j _ => by rw [hf]; simp, sumK_zero]
    omega
   ·rw [nth_setE]
    by_cases hjk : k = j
    ·subst hjk
     rw [if_pos ⟨rfl, by omega⟩, if_pos rfl]
     omega
    ·rw [if_neg (by omega), if_neg (by omega)]
     omega
 ·rw [e2]
  rcases (mem_movesP.1 hm).2 with ⟨o, ho, _, rfl⟩ | ⟨_, hd⟩
  ·obtain ⟨c, i, hc, ho⟩ := (mem_outsP hp).1 ho
   have := (runsP_cap hg hp hc o ho).2
   omega
  ·unfold dropsP at hd
   rw [sortU_mem] at hd
   obtain ⟨k, hk, hd⟩ := List.mem_flatMap.1 hd
   obtain ⟨c, hcc, hd⟩ := List.mem_filterMap.1 hd
   rw [List.mem_range] at hk hcc
   rw [dropP_foe hg hp hk hcc hd]
   omega
theorem menOf_cnt {K : Nat} (hK : K ≤ 6) {side : Int} (hs : side = 0 ∨ side = 1) {k : Nat} (hk : k < K) : ∀ {l : List Int}, (∀ c ∈ l, 0 ≤ c ∧ c ≤ 2 * K) → nth (menOf (1 + 2 * K) l) (1 + 2 * k + side.toNat) = (cnt l side (k : Int) : Int)
 | [], _ => by
  have : 1 + 2 * k + side.toNat < 1 + 2 * K := by omega
  rw [menOf, List.foldl_nil, nth_eq _ _ (by simpa using this)]
  simp [cnt]
 | c :: l, h => by
  have ih := menOf_cnt hK hs hk (l := l) fun x hx => h x (by simp [hx])
  have hc := h c (by simp)
  have hlen := menOf_length (1 + 2 * K) l
  rw [menOf_cons, bump, nth_setE, ih]
  have hman := manOf_cases hc.1 hc.2 hK
  have hmn : mn side (k : Int) c = decide (c = 1 + 2 * k + side) := by
   rcases hman with ⟨h0, _⟩ | ⟨_, h1, h2, h3, h4⟩
   ·subst h0
    rw [mn_zero]
    symm
    exact decide_eq_false (by omega)
   ·by_cases e : (manOf c).2 = side
    ·rw [mn_kind e h1 (by omega), decide_eq_decide]
     omega
    ·rw [mn_foe e]
     symm
     exact decide_eq_false (by omega)
  simp only [cnt, List.countP_cons, hmn]
  by_cases e : c = 1 + 2 * k + side
  ·have e2 : c.toNat = 1 + 2 * k + side.toNat := by omega
   rw [if_pos ⟨e2, by omega⟩, e2, ih]
   simp [e, cnt]
  ·rw [if_neg (by omega)]
   simp [e]
end Go.Av
end
section
/- Our library: ranges over functions, and iterators: equations and steps. -/
namespace Go.Av
open Go
section
variable {P : Program} {n0 : Nat} {Q : Post} {e : Env} {h : Heap} {n : Nat} {ops rest : List Oper}
def aRange (P : Program) (n0 : Nat) (ps : List Tmp) (a b : Code) (Q : Post) (v : AV) (e : Env) (h : Heap) (n : Nat) : Prop :=
 (∃ f caps caps' more rows h', v = .fn (.func f) [] caps ∧ Frz h h' ∧ LeRow h h' n caps caps' ∧ (∀ c ∈ caps', Bel 0 c) ∧ PSeq P f caps' more rows ∧
  (∀ xs ∈ rows, xs.length = ps.length) ∧ Fgt n0 (ARange n0 more ps (fun n1 => awp P n1 a) (fun n1 => awp P n1 b) Q rows) e h' n) ∨
 (∃ f caps caps' o gn sz rs rs' more rows h', v = .fn (.func f) [] caps ∧ Frz h h' ∧ h' o = some (.rows true gn sz rs) ∧ LeRows h h' n rs rs' ∧ (∀ r ∈ rs', ∀ c ∈ r, Bel 0 c) ∧
  GvRow h h' n o caps caps' ∧ PSeqO P f caps' [(0, .rows true gn sz rs')] 1 more rows ∧
  (∀ xs ∈ rows, xs.length = ps.length) ∧ Fgt n0 (ARange n0 more ps (fun n1 => awp P n1 a) (fun n1 => awp P n1 b) Q rows) e (upd h' o none) n)
theorem awp_rangeFunc (g : Operand) (ps : List Tmp) (a b : Code) : awp P n0 (.rangeFunc g ps.toArray a b) Q e h n = aRange P n0 ps a b Q (ev e g) e h n := rfl
@[congr] theorem aRange_congr {ps : List Tmp} {a b : Code} {v v' : AV} (hv : v = v') : aRange P n0 ps a b Q v e h n = aRange P n0 ps a b Q v' e h n := by subst hv; rfl
theorem aRange.mk {ps : List Tmp} {a b : Code} {f : FuncId} {caps : List AV} (caps' : List AV) (h' : Heap) {more : Nat} {rows : List (List AV)} (C : PSeq P f caps' more rows) (hfz : Frz h h') (hle : LeRow h h' n caps caps') (hb : ∀ c ∈ caps', Bel 0 c)
  (hlen : ∀ xs ∈ rows, xs.length = ps.length) (hk : Fgt n0 (ARange n0 more ps (fun n1 => awp P n1 a) (fun n1 => awp P n1 b) Q rows) e h' n) : aRange P n0 ps a b Q (.fn (.func f) [] caps) e h n :=
 .inl ⟨f, caps, caps', more, rows, h', rfl, hfz, hle, hb, C, hlen, hk⟩
theorem aRange.give {ps : List Tmp} {a b : Code} {f : FuncId} {caps : List AV} (caps' : List AV) (h' : Heap) (o : Nat) {gn sz : Nat} {rs : List (List AV)} (rs' : List (List AV)) {more : Nat} {rows : List (List AV)}
  (C : PSeqO P f caps' [(0, .rows true gn sz rs')] 1 more rows) (hfz : Frz h h') (ho : h' o = some (.rows true gn sz rs)) (hr : LeRows h h' n rs rs') (hbr : ∀ r ∈ rs', ∀ c ∈ r, Bel 0 c) (hg : GvRow h h' n o caps caps')
  (hlen : ∀ xs ∈ rows, xs.length = ps.length) (hk : Fgt n0 (ARange n0 more ps (fun n1 => awp P n1 a) (fun n1 => awp P n1 b) Q rows) e (upd h' o none) n) : aRange P n0 ps a b Q (.fn (.func f) [] caps) e h n :=
 .inr ⟨f, caps, caps', o, gn, sz, rs, rs', more, rows, h', rfl, hfz, ho, hr, hbr, hg, C, hlen, hk⟩
theorem ARange.go {ps : List Tmp} {a b : Code} {more : Nat} {xs : List AV} {rs : List (List AV)} (hn : n0 ≤ n)
  (hk : awp P n a (QNone (awp P n b (QRound (Fgt n0 (ARange n0 more ps (fun n1 => awp P n1 a) (fun n1 => awp P n1 b) Q rs)) Q e))) (putPs ps xs e) h n) :
  ARange n0 more ps (fun n1 => awp P n1 a) (fun n1 => awp P n1 b) Q (xs :: rs) e h n := ⟨hn, hk⟩
theorem Fgt.to {K : Env → Heap → Nat → Prop} {E : List (Nat × AV)} {HH : List (Nat × AObj)} {n' : Nat} (hk : K (mkE E) (mkH HH) n') (hw : Wk e h n E HH n') (hn : n0 ≤ n') : Fgt n0 K e h n := .inr ⟨E, HH, n', hw, hn, hk⟩
theorem ARange.ind {α : Type} (S : α → List (Nat × AV) × List (Nat × AObj) × Nat) (inv : List (List AV) → α → Prop) {ps : List Tmp} {A B : Nat → Post → Env → Heap → Nat → Prop} {more : Nat}
  (h0 : ∀ d, inv [] d → more = 0 ∧ Q .normal (mkE (S d).1) (mkH (S d).2.1) (S d).2.2)
  (h1 : ∀ xs rs d, inv (xs :: rs) d → (∀ d', inv rs d' → ARange n0 more ps A B Q rs (mkE (S d').1) (mkH (S d').2.1) (S d').2.2) → ARange n0 more ps A B Q (xs :: rs) (mkE (S d).1) (mkH (S d).2.1) (S d).2.2) :
  ∀ rows d, inv rows d → ARange n0 more ps A B Q rows (mkE (S d).1) (mkH (S d).2.1) (S d).2.2
 | [], d, hi => h0 d hi
 | xs :: rs, d, hi => h1 xs rs d hi fun d' hi' => ARange.ind S inv h0 h1 rs d' hi'
theorem QNone_normal {K : Env → Heap → Nat → Prop} : QNone K .normal e h n = K e h n := rfl
theorem QRound_normal {K : Env → Heap → Nat → Prop} {e0 : Env} : QRound K Q e0 .normal e h n = K (upd e0 GH (e GH)) h n := rfl
theorem QRound_ret {K : Env → Heap → Nat → Prop} {e0 : Env} : QRound K Q e0 .ret e h n = Q .ret (upd e0 GH (e GH)) h n := rfl
theorem QRound_exit {K : Env → Heap → Nat → Prop} {e0 : Env} {id : Nat} : QRound K Q e0 (.exit id) e h n = Q (.exit id) (upd e0 GH (e GH)) h n := rfl
theorem putPs_nil {xs : List AV} : putPs [] xs e = e := by simp [putPs]
theorem putPs_cons {t : Tmp} {ps : List Tmp} {x : AV} {xs : List AV} : putPs (t :: ps) (x :: xs) e = putPs ps xs (upd e t x) := rfl
theorem RetI_normal {rs : List ResultVar} {l more : Nat} : RetI P rs l more .normal e h n = ((resL P e h rs).1 ∧ ((more = 0 ∧ e GH = ghost l 0 []) ∨ e GH = ghost l 2 [])) := rfl
theorem RetI_ret {rs : List ResultVar} {l more : Nat} : RetI P rs l more .ret e h n = ((resL P e h rs).1 ∧ ((more = 0 ∧ e GH = ghost l 0 []) ∨ e GH = ghost l 2 [])) := rfl
theorem aYld.mk {dst : Option Tmp} {l more : Nat} {args xs : List AV} {rs : List (List AV)} (h' : Heap) (hg : e GH = ghost l more (xs :: rs)) (hfz : Frz h h') (hle : LeRow h h' n args xs) (hb : ∀ c ∈ xs, Bel 0 c)
  (hT : aops P ops Q rest (put (upd e GH (ghost l more rs)) dst (.v (.bool true))) h' n) (hF : aops P ops Q rest (put (upd e GH (ghost l 2 [])) dst (.v (.bool false))) h' n) : aYld P ops Q rest dst l args e h n :=
 ⟨l, more, xs :: rs, rfl, hg, h', hfz, hle, hb, hT, hF⟩
theorem aYld.exh {dst : Option Tmp} {l : Nat} {args : List AV} (hg : e GH = ghost l 1 []) : aYld P ops Q rest dst l args e h n := ⟨l, 1, [], rfl, hg, rfl⟩
theorem aGC.yld {dst : Option Tmp} {l more : Nat} {args xs : List AV} {rs : List (List AV)} (h' : Heap) (hg : e GH = ghost l more (xs :: rs)) (hfz : Frz h h') (hle : LeRow h h' n args xs) (hb : ∀ c ∈ xs, Bel 0 c)
  (hT : aops P ops Q rest (put (upd e GH (ghost l more rs)) dst (.gd true (.v (.bool true)))) h' n) (hF : aops P ops Q rest (put (upd e GH (ghost l 2 [])) dst (.gd true (.v (.bool false)))) h' n) :
  aGC P ops Q rest dst true (.fn (.yield l) [] []) args e h n := .inr (.inr ⟨rfl, l, more, xs :: rs, rfl, hg, h', hfz, hle, hb, hT, hF⟩)
theorem aGC.exh {dst : Option Tmp} {l : Nat} {args : List AV} (hg : e GH = ghost l 1 []) : aGC P ops Q rest dst true (.fn (.yield l) [] []) args e h n := .inr (.inr ⟨rfl, l, 1, [], rfl, hg, rfl⟩)
theorem GvRow_nil {h h' : Heap} {o : Nat} : GvRow h h' n o [] [] = True := eq_true .nil
theorem GvRow_ref {h h' : Heap} {o g sz i off : Nat} {xs ys : List AV} : GvRow h h' n o (.ref o g sz i off :: xs) (.ref 0 g sz i off :: ys) = GvRow h h' n o xs ys := by
 refine propext ⟨fun hg => ?_, .ref⟩
 cases hg with
 | ref t => exact t
 | le hx hb t => cases hb with | ref hb => exact absurd hb (Nat.not_lt_zero _)
theorem GvRow_fp {h h' : Heap} {o : Nat} {x : AV} {cells xs ys : List AV} : GvRow h h' n o (x :: xs) (.fp cells :: ys) = (LeV h h' n x (.fp cells) ∧ (∀ c ∈ cells, Bel 0 c) ∧ GvRow h h' n o xs ys) := by
 refine propext ⟨fun hg => ?_, fun ⟨h1, h2, h3⟩ => .le h1 (.fp h2) h3⟩
 cases hg with
 | le hx hb t => cases hb with | fp hb => exact ⟨hx, hb, t⟩
attribute [go_sem] GvRow_nil GvRow_ref GvRow_fp
attribute [go_sem] awp_rangeFunc QNone_normal QRound_normal QRound_ret QRound_exit putPs_nil putPs_cons RetI_normal RetI_ret aCall_yield
end
end Go.Av
end
section
/- Contracts: board.steps, board.Line. -/
open Go Go.Proofs
namespace Go.Av
def stepRows (b : BoardD) (side d : Int) : Nat → Int → List Int
 | 0, _ => []
 | k + 1, x => if 0 ≤ x then x :: stepRows b side d k (toB b side d x) else []
def stepMore (b : BoardD) (side d : Int) : Nat → Int → Nat
 | 0, x => if 0 ≤ x then 1 else 0
 | k + 1, x => if 0 ≤ x then stepMore b side d k (toB b side d x) else 0
theorem stepMore_ne {b : BoardD} {side d : Int} : ∀ {k : Nat} {x : Int}, stepMore b side d k x ≠ 2
 | 0, x => by unfold stepMore; split <;> omega
 | k + 1, x => by unfold stepMore; split; exact stepMore_ne; omega
theorem stepsF_seq (b : BoardD) (hb : BoardOk b) (side d c : Int) (k : Nat) : PSeq Tryz.prog 291 [.fp (encB b), .fp [.v (.int .i64 side)], .fp [.v (.int .i64 d)], .fp [.v (.int .i64 c)]]
  (stepMore b side d k (toB b side d c)) ((stepRows b side d k (toB b side d c)).map encI) := by
 refine PSeq.of_awp (by kernel_rfl) Tryz.func291 rfl rfl (Nat.le_of_ble_eq_true rfl) (by kernel_rfl) (fun l => ?_) (hm2 := stepMore_ne)
 have hbl : ∀ n, (∀ c' ∈ encB b, Bel n c') = True := fun n => by simp [go_sem]
 have hel : (encB b).length = 3 := rfl
 have hT : ∀ x, Pure Tryz.prog 254 [.agg (encB b), .v (.int .i64 side), .v (.int .i64 d), .v (.int .i64 x)] (.v (.int .i64 (toB b side d x))) := fun x => bTo_pure b hb side d x
 have hg : ∀ (n k : Nat) (x : Int), Bel n (ghost l (stepMore b side d k x) ((stepRows b side d k x).map encI)) := fun n k x => by
  simp only [ghost, Bel_gd, Bel_tup, List.forall_mem_cons, Bel_v, Bel_lst]
  simp [go_sem]
 obtain ⟨eb, heb⟩ : ∃ eb, eb = encB b := ⟨_, rfl⟩
 rw [← heb] at hbl hel hT ⊢
 have hte : eb.take 3 = eb := List.take_of_length_le (by omega)
 (repeat (first|with_reducible refine wV fun _=>?_|simp [go_sem, hel, GH, hte]))
 refine ACallP.plain (hT c) (by simp [go_sem, hbl]) ?_
 (repeat (first|with_reducible refine wV fun _=>?_|simp [go_sem, hel, GH, hte]))
 refine ALoop.start (ALoop.ind (α := Nat × Int) (fun a => ⟨[(0, .fn (.yield l) [] []), (1, .fp eb), (2, .fp [.v (.int .i64 side)]), (3, .fp [.v (.int .i64 d)]), (6, .v (.int .i64 a.2)), (1000000007, ghost l (stepMore b side d a.1 a.2) ((stepRows b side d a.1 a.2).map encI))], [], 0⟩)
  (fun f a => f = a.1 ∧ stepMore b side d a.1 a.2 = stepMore b side d k (toB b side d c)) ?_ k (k, toB b side d c) ?_) ?_ ?_
 ·rintro f ⟨k', x⟩ ⟨i1, i2⟩ hrec
  simp only at i1 i2
  subst i1
  (repeat (first|with_reducible refine wV fun _=>?_|simp [go_sem, hel, GH, hte]))
  by_cases hx : 0 ≤ x
  ·simp only [hx, decide_true]
   cases f with
   | zero => exact aGC.exh (by simp [upd, GH, stepMore, stepRows, hx])
   | succ f =>
    refine aGC.yld (more := stepMore b side d f (toB b side d x)) (xs := [.v (.int .i64 x)]) (rs := (stepRows b side d f (toB b side d x)).map encI) noH (by simp [upd, GH, stepMore, stepRows, hx, encI]) (.refl _) (.refl _ _ _ _) (by simp [go_sem]) ?_ ?_
    ·(repeat (first|with_reducible refine wV fun _=>?_|simp [go_sem, hel, GH, hte]))
     refine ACallP.plain (hT x) (by simp [go_sem, hbl]) ?_
     (repeat (first|with_reducible refine wV fun _=>?_|simp [go_sem, hel, GH, hte]))
     rw [stepMore, if_pos hx] at i2
     refine ALoop.start (hrec f (by omega) (f, toB b side d x) ⟨rfl, i2⟩) ?_ (by simp)
     simp [go_sem, Wk_eq, hbl, hg, GH]
    ·(repeat (first|with_reducible refine wV fun _=>?_|simp [go_sem, hel, GH, hte]))
  ·have hm : stepMore b side d f x = 0 := by cases f <;> simp [stepMore, hx]
   have hr : stepRows b side d f x = [] := by cases f <;> simp [stepRows, hx]
   simp only [hx, decide_false]
   refine aGC.skip (.v (.bool false)) ?_
   (repeat (first|with_reducible refine wV fun _=>?_|simp [go_sem, hel, GH, hte]))
   rw [← i2, hm, hr]
   exact .inl ⟨rfl, rfl⟩
 ·exact ⟨rfl, rfl⟩
 ·simp [go_sem, Wk_eq, hbl, hg, GH]
 ·simp
def stepsR (n : Nat) : AV := .fn (.func 291) [] [.ref n 0 3 0 0, .ref (n + 1) 0 1 0 0, .ref (n + 2) 0 1 0 0, .ref (n + 3) 0 1 0 0]
def stepsH (b : BoardD) (side d c : Int) (n : Nat) : List (Nat × AObj) := [(n, .rows true 0 3 [encB b]), (n + 1, .rows true 0 1 [[.v (.int .i64 side)]]), (n + 2, .rows true 0 1 [[.v (.int .i64 d)]]), (n + 3, .rows true 0 1 [[.v (.int .i64 c)]])]
theorem steps_owns (b : BoardD) (side d c : Int) : Owns Tryz.prog 282 [.agg (encB b), .v (.int .i64 side), .v (.int .i64 d), .v (.int .i64 c)] stepsR (stepsH b side d c) 4 := by
 refine ⟨?_, fun n => ⟨by simp [go_sem, stepsR], by simp [go_sem, stepsH]⟩⟩
 refine ACallP.of_awp (by kernel_rfl) Tryz.func282 rfl rfl (Nat.le_of_ble_eq_true rfl) (by kernel_rfl) ?_
 (repeat (first|with_reducible refine wV fun _=>?_|simp [go_sem, stepsR, stepsH]))
 simp [go_sem, Wk_eq]
theorem bLine_pure (b : BoardD) (hb : BoardOk b) (side d c : Int) : Pure Tryz.prog 255 [.agg (encB b), .v (.int .i64 side), .v (.int .i64 d), .v (.int .i64 c)] (encIs (lineB b side d c)) := by
 refine pF Tryz.func255 ?_
 have hbl : ∀ n, (∀ c' ∈ encB b, Bel n c') = True := fun n => by simp [go_sem]
 have hel : (encB b).length = 3 := rfl
 have hS : Owns Tryz.prog 282 [.agg (encB b), .v (.int .i64 side), .v (.int .i64 d), .v (.int .i64 c)] (fun n => stepsR n) (fun n => stepsH b side d c n) 4 := steps_owns b side d c
 have hQ := fun k => stepsF_seq b hb side d c k
 simp only [stepsR, stepsH] at hS
 have hte : (encB b).take 3 = encB b := rfl
 obtain ⟨eb, heb⟩ : ∃ eb, eb = encB b := ⟨_, rfl⟩
 rw [← heb] at hbl hel hS hQ hte ⊢
 have hc1 := hb.c1
 have hc0 := hb.c0
 (repeat (first|with_reducible refine wV fun _=>?_|simp [go_sem, hel, hte, GH]))
 refine ACallP.ownsPlain hS (by simp [go_sem, hbl]) ?_
 (repeat (first|with_reducible refine wV fun _=>?_|simp [go_sem, hel, hte, GH]))
 refine aRange.mk [.fp eb, .fp [.v (.int .i64 side)], .fp [.v (.int .i64 d)], .fp [.v (.int .i64 c)]] (frzO _ [3, 4, 5, 6]) (hQ (b.cells.toNat + 1)) (frz_frzO _ _) ?_ (by simp [go_sem, hbl]) (by simp [encI]) ?_
 ·refine LeRow.cons (.frzP rfl ?_ ?_ ?_ ?_) (LeRow.cons (.frzP rfl ?_ ?_ ?_ ?_) (LeRow.cons (.frzP rfl ?_ ?_ ?_ ?_) (LeRow.cons (.frzP rfl ?_ ?_ ?_ ?_) .nil))) <;> first | exact LeRow.refl _ _ _ _ | simp [frzO, frz1, upd]
 refine Fgt.to (ARange.ind (α := Nat × Int × List Int) (fun a => ([(7, .ref 1 0 1 0 0), (9, .ref 2 0 1 0 0)], [(1, .rows true 0 1 [[.v (.int .i64 c)]]), (2, .rows true 0 1 [[.sl 7 a.2.2.length 1 0 a.2.2.length]]), (7, .rows true a.2.2.length 1 (a.2.2.map encI))], 8))
  (fun rows a => rows = (stepRows b side d a.1 a.2.1).map encI ∧ stepMore b side d a.1 a.2.1 = stepMore b side d (b.cells.toNat + 1) (toB b side d c) ∧ a.1 + a.2.2.length = b.cells.toNat + 1 ∧ a.2.1 < b.cells ∧ a.2.2.Nodup ∧
   (∀ y ∈ a.2.2, 0 ≤ y ∧ y < b.cells) ∧ lineB b side d c = lineGo b side d c a.1 a.2.1 a.2.2) ?_ ?_ _ (b.cells.toNat + 1, toB b side d c, []) ?_) ?_ ?_
 ·rintro ⟨f, x, seen⟩ ⟨i0, i1, i2, i3, i4, i5, i6⟩
  simp only at i0 i1 i2 i3 i4 i5 i6
  have hsl : seen.length ≤ b.cells.toNat := nodup_le _ _ i4 (fun y hy => by have := i5 y hy; omega)
  obtain ⟨f, rfl⟩ : ∃ f', f = f' + 1 := ⟨f - 1, by omega⟩
  have hx : ¬ 0 ≤ x := fun hx => by simp [stepRows, hx] at i0
  rw [stepMore, if_neg hx] at i1
  rw [lineGo, if_neg (fun h => hx h.1)] at i6
  refine ⟨i1.symm, ?_⟩
  rw [i6]
  (repeat (first|with_reducible refine wV fun _=>?_|simp [go_sem, hel]))
  exact frX
 ·rintro xs rs ⟨f, x, seen⟩ ⟨i0, i1, i2, i3, i4, i5, i6⟩ hrec
  simp only at i0 i1 i2 i3 i4 i5 i6
  have hsl : seen.length ≤ b.cells.toNat := nodup_le _ _ i4 (fun y hy => by have := i5 y hy; omega)
  cases f with
  | zero => simp [stepRows] at i0
  | succ f =>
  have hx : 0 ≤ x := by
   by_cases hx : 0 ≤ x
   ·exact hx
   ·simp [stepRows, hx] at i0
  rw [stepRows, if_pos hx] at i0
  simp only [List.map_cons, List.cons.injEq] at i0
  obtain ⟨rfl, rfl⟩ := i0
  rw [stepMore, if_pos hx] at i1
  rw [lineGo] at i6
  refine ARange.go (Nat.zero_le _) ?_
  (repeat (first|with_reducible refine wV fun _=>?_|simp [go_sem, hel, GH, encI]))
  refine aGC.flat [encIs seen, .v (.int .i64 x)] (.v (.bool (decide (x ∈ seen)))) (fun _ => Contains_pure seen x (by omega)) (.v _) ?_ (by simp [go_sem]) ?_
  ·refine LeRow.cons ?_ (LeRow.cons (.refl _) LeRow.nil)
   refine LeV.frz rfl ?_ ?_ (LeRows.of_eq ?_) <;> simp [noH, List.take_of_length_le]
  (repeat (first|with_reducible refine wV fun _=>?_|simp [go_sem, hel, GH]))
  refine aIf.mkL (fun hc => ?_) (fun hc => ?_) <;> simp at hc
  ·rw [if_neg (by rintro ⟨h1, h2, h3⟩; rcases hc with h | h <;> contradiction)] at i6
   rw [i6]
   (repeat (first|with_reducible refine wV fun _=>?_|simp [go_sem, hel, GH]))
   exact frX
  ·rw [if_pos ⟨hx, by simpa using hc⟩] at i6
   (repeat (first|with_reducible refine wV fun _=>?_|simp [go_sem, hel, GH]))
   refine Fgt.to (hrec (f, toB b side d x, seen ++ [x]) ⟨rfl, i1, by simp only [List.length_append, List.length_singleton]; omega, toB_lt hb _ _ _, ?_, ?_, i6⟩) ?_ (by simp)
   ·refine List.nodup_append.2 ⟨i4, by simp, ?_⟩
    intro y hy z hz
    simp at hz
    subst hz
    rintro rfl
    exact hc.2 hy
   ·intro y hy
    rcases List.mem_append.1 hy with h | h
    ·exact i5 y h
    ·simp at h; omega
   ·simp [go_sem, Wk_eq, GH] <;> (first|done|exact blX)
 ·exact ⟨rfl, rfl, by simp, toB_lt hb _ _ _, by simp, by simp, rfl⟩
 ·simp [go_sem, Wk_eq]
 ·simp
end Go.Av
end
section
/- Contracts: game.Man, game.Code, pos.Compare. -/
open Go Go.Proofs
namespace Go.Av
theorem gMan_pure (c : Int) : Pure Tryz.prog 138 [.v (.int .i64 c)] (.tup [.v (.int .i64 (manOf c).1), .v (.int .i64 (manOf c).2)]) := by
 refine pF Tryz.func138 ?_
 unfold manOf
 by_cases h1 : c < 1
 ·rw [if_neg (by omega)]
  (repeat (first|with_reducible refine wV fun _=>?_|simp [go_sem, h1]))
 ·by_cases h2 : 12 < c
  ·rw [if_neg (by omega)]
   (repeat (first|with_reducible refine wV fun _=>?_|simp [go_sem, h1, h2]))
  ·rw [if_pos (by omega)]
   have e1 : (c - 1).tdiv 2 = (c - 1) / 2 := Int.tdiv_eq_ediv_of_nonneg (by omega)
   have e2 : (c - 1).tmod 2 = (c - 1) % 2 := Int.tmod_eq_emod_of_nonneg (by omega)
   have b1 : 0 ≤ (c - 1).tdiv 2 ∧ (c - 1).tdiv 2 ≤ 12 := by omega
   have b2 : 0 ≤ (c - 1).tmod 2 ∧ (c - 1).tmod 2 ≤ 12 := by omega
   clear e1 e2
   (repeat (first|with_reducible refine wV fun _=>?_|simp [go_sem, h1, h2]))
theorem gCode_pure (k s : Int) : Pure Tryz.prog 122 [.v (.int .i64 k), .v (.int .i64 s)] (.v (.int .i64 (codeOf k s))) := by
 refine pF Tryz.func122 ?_
 unfold codeOf
 by_cases h1 : k < 0
 ·rw [if_neg (by omega)]
  (repeat (first|with_reducible refine wV fun _=>?_|simp [go_sem, h1]))
 by_cases h2 : 6 ≤ k
 ·rw [if_neg (by omega)]
  (repeat (first|with_reducible refine wV fun _=>?_|simp [go_sem, h1, h2]))
 by_cases h3 : s < 0
 ·rw [if_neg (by omega)]
  (repeat (first|with_reducible refine wV fun _=>?_|simp [go_sem, h1, h2, h3]))
 by_cases h4 : 1 < s
 ·rw [if_neg (by omega)]
  (repeat (first|with_reducible refine wV fun _=>?_|simp [go_sem, h1, h2, h3, h4]))
 ·rw [if_pos (by omega), show 2 * k + 1 + s = 1 + 2 * k + s by omega]
  (repeat (first|with_reducible refine wV fun _=>?_|simp [go_sem, h1, h2, h3, h4]))
theorem isNaN_pure (x : Int) : Pure Tryz.prog 155 [.v (.int .i64 x)] (.v (.bool false)) := by
 refine pF Tryz.func155 ?_
 (repeat (first|with_reducible refine wV fun _=>?_|simp [go_sem]))
theorem cCompare_pure (a b : Int) : Pure Tryz.prog 96 [.v (.int .i64 a), .v (.int .i64 b)] (.v (.int .i64 (number a b))) := by
 refine pF Tryz.func96 ?_
 (repeat (first|with_reducible refine wV fun _=>?_|simp [go_sem]))
 refine ACallP.plain (isNaN_pure a) (by simp [go_sem]) ?_
 (repeat (first|with_reducible refine wV fun _=>?_|simp [go_sem]))
 refine ACallP.plain (isNaN_pure b) (by simp [go_sem]) ?_
 unfold number
 by_cases h1 : a < b
 ·rw [if_pos h1]
  (repeat (first|with_reducible refine wV fun _=>?_|simp [go_sem, h1]))
 ·by_cases h2 : b < a
  ·rw [if_neg h1, if_pos h2]
   (repeat (first|with_reducible refine wV fun _=>?_|simp [go_sem, h1, h2]))
  ·rw [if_neg h1, if_neg h2]
   (repeat (first|with_reducible refine wV fun _=>?_|simp [go_sem, h1, h2]))
def orI : List Int → Int
 | [] => 0
 | x :: l => if x = 0 then orI l else x
theorem cOr_pure (l : List Int) (hl : Fits l) : Pure Tryz.prog 94 [encIs l] (.v (.int .i64 (orI l))) := by
 refine pF Tryz.func94 ?_
 unfold Fits at hl
 (repeat (first|with_reducible refine wV fun _=>?_|simp [go_sem]))
 refine ALoop.start (ALoop.ind (α := Nat) (fun j => ⟨[(3, .v (.int .i64 0)), (6, encIs l), (7, .v (.int .i64 l.length)), (8, .v (.int .i64 j))], [], 0⟩)
  (fun d j => j + d = l.length ∧ orI l = orI (l.drop j)) ?_ l.length 0 ?_) ?_ ?_
 ·rintro d j ⟨i1, i2⟩ hrec
  (repeat (first|with_reducible refine wV fun _=>?_|simp [go_sem]))
  refine aIf.mkL (fun hj => ?_) (fun hj => ?_) <;> simp at hj
  ·rw [drop_cons hj, orI] at i2
   (repeat (first|with_reducible refine wV fun _=>?_|simp [go_sem, hj]))
   by_cases h0 : nth l j = 0
   ·rw [if_pos h0] at i2
    (repeat (first|with_reducible refine wV fun _=>?_|simp [go_sem, h0]))
    refine ALoop.start (hrec (d - 1) (by omega) (j + 1) ⟨by omega, i2⟩) ?_ (by simp)
    simp [go_sem, Wk_eq]
   ·rw [if_neg h0] at i2
    rw [i2]
    (repeat (first|with_reducible refine wV fun _=>?_|simp [go_sem, h0]))
  ·rw [List.drop_eq_nil_of_le hj, orI] at i2
   rw [i2]
   (repeat (first|with_reducible refine wV fun _=>?_|simp [go_sem]))
 ·simp
 ·simp [go_sem, Wk_eq]
 ·simp
theorem sCompare_pure (a b : List Int) (ha : Fits a) (hb : Fits b) : Pure Tryz.prog 95 [encIs a, encIs b] (.v (.int .i64 (cmpL a b))) := by
 refine pF Tryz.func95 ?_
 unfold Fits at ha hb
 (repeat (first|with_reducible refine wV fun _=>?_|simp [go_sem]))
 refine ALoop.start (ALoop.ind (α := Nat) (fun j => ⟨[(0, encIs a), (1, encIs b), (9, encIs a), (10, .v (.int .i64 a.length)), (11, .v (.int .i64 j))], [], 0⟩)
  (fun d j => j + d = a.length ∧ j ≤ b.length ∧ cmpL a b = cmpL (a.drop j) (b.drop j)) ?_ a.length 0 ?_) ?_ ?_
 ·rintro d j ⟨i1, i2, i3⟩ hrec
  (repeat (first|with_reducible refine wV fun _=>?_|simp [go_sem]))
  refine aIf.mkL (fun hj => ?_) (fun hj => ?_) <;> simp at hj
  ·rw [drop_cons hj] at i3
   (repeat (first|with_reducible refine wV fun _=>?_|simp [go_sem, hj]))
   by_cases hk : j < b.length
   ·rw [drop_cons hk, cmpL] at i3
    have hk' : ¬ b.length ≤ j := by omega
    (repeat (first|with_reducible refine wV fun _=>?_|simp [go_sem, hj, hk, hk']))
    refine ACallP.plain (cCompare_pure _ _) (by simp [go_sem]) ?_
    by_cases he : nth a j = nth b j
    ·rw [if_pos he] at i3
     have hn : number (nth a j) (nth b j) = 0 := by simp [number, he]
     rw [hn]
     (repeat (first|with_reducible refine wV fun _=>?_|simp [go_sem]))
     refine ALoop.start (hrec (d - 1) (by omega) (j + 1) ⟨by omega, by omega, i3⟩) ?_ (by simp)
     simp [go_sem, Wk_eq]
    ·rw [if_neg he] at i3
     have hn : number (nth a j) (nth b j) ≠ 0 := by unfold number; split <;> (try split) <;> omega
     rw [i3]
     (repeat (first|with_reducible refine wV fun _=>?_|simp [go_sem, hn]))
   ·have hk' : b.length ≤ j := by omega
    rw [List.drop_eq_nil_of_le hk', cmpL_nil_right] at i3
    have : cmpL a b = 1 := by rw [i3]; unfold number; rw [if_neg (by simp only [List.length_cons]; omega), if_pos (by simp only [List.length_cons]; omega)]
    rw [this]
    (repeat (first|with_reducible refine wV fun _=>?_|simp [go_sem, hj, hk, hk']))
  ·have hja : j = a.length := by omega
   subst hja
   rw [List.drop_eq_nil_of_le (Nat.le_refl _), cmpL_nil_left] at i3
   rw [i3]
   unfold number
   by_cases hb' : a.length < b.length
   ·rw [if_pos (by simp; omega)]
    (repeat (first|with_reducible refine wV fun _=>?_|simp [go_sem, hb']))
   ·rw [if_neg (by simp; omega), if_neg (by omega)]
    (repeat (first|with_reducible refine wV fun _=>?_|simp [go_sem, hb']))
 ·simp
 ·simp [go_sem, Wk_eq]
 ·simp
theorem cmpP_or (p q : PosD) : orI [cmpL p.at_ q.at_, cmpL p.h0 q.h0, cmpL p.h1 q.h1, number p.rights q.rights, number p.side q.side] = cmpP p q := by
 unfold cmpP
 simp only [orI]
 repeat' split
 all_goals first | rfl | omega
theorem pCompare_pure (p q : PosD) (hp : FitsP p) (hq : FitsP q) : Pure Tryz.prog 42 [.agg (encPos p), .agg (encPos q)] (.v (.int .i64 (cmpP p q))) := by
 refine pF Tryz.func42 ?_
 obtain ⟨p1, p2, p3⟩ := hp
 obtain ⟨q1, q2, q3⟩ := hq
 rw [← cmpP_or]
 have c1 := sCompare_pure _ _ p1 q1
 have c2 := sCompare_pure _ _ p2 q2
 have c3 := sCompare_pure _ _ p3 q3
 have c4 := cCompare_pure p.rights q.rights
 have c5 := cCompare_pure p.side q.side
 generalize cmpL p.at_ q.at_ = x1 at *
 generalize cmpL p.h0 q.h0 = x2 at *
 generalize cmpL p.h1 q.h1 = x3 at *
 generalize number p.rights q.rights = x4 at *
 generalize number p.side q.side = x5 at *
 (repeat (first|with_reducible refine wV fun _=>?_|simp [go_sem]))
 refine dCall.plain c1 (by simp [go_sem]) ?_
 (repeat (first|with_reducible refine wV fun _=>?_|simp [go_sem]))
 refine dCall.plain c2 (by simp [go_sem]) ?_
 (repeat (first|with_reducible refine wV fun _=>?_|simp [go_sem]))
 refine dCall.plain c3 (by simp [go_sem]) ?_
 (repeat (first|with_reducible refine wV fun _=>?_|simp [go_sem]))
 refine dCall.plain c4 (by simp [go_sem]) ?_
 (repeat (first|with_reducible refine wV fun _=>?_|simp [go_sem]))
 refine dCall.plain c5 (by simp [go_sem]) ?_
 (repeat (first|with_reducible refine wV fun _=>?_|simp [go_sem]))
 refine dCall.frz [encIs [x1, x2, x3, x4, x5]] _ [31] [(31, some (.rows false 0 1 ([x1, x2, x3, x4, x5].map encI)))] (cOr_pure _ (by unfold Fits; simp)) ?_ ?_ (by simp [go_sem]) ?_
 ·intro p hp
  simp only [List.mem_singleton] at hp
  subst hp
  exact ⟨by simp, 0, 1, _, rfl, by simp [upd, go_sem]⟩
 ·intro h₁ hS
  have h7 := hS 31 (by simp)
  simp [go_sem] at h7
  exact .cons (leV_frz h7.symm (by simp) (by simp [applyW, upd]) (by simp [go_sem])) .nil
 ·(repeat (first|with_reducible refine wV fun _=>?_|simp [go_sem]))
end Go.Av
end
section
/- Contracts, runs of the program: own, man, provided, and the steps. -/
open Go Go.Proofs
namespace Go.Av
def ownState (n : Nat) (s : StD) : AV := .agg [.sl (n + 2) 1 1 0 s.p.at_.length, .sl (n + 81) 1 1 0 s.p.h0.length, .sl (n + 161) 1 1 0 s.p.h1.length, .v (.int .i64 s.p.rights), .v (.int .i64 s.p.side), .v (.int .i64 s.kind), .v (.int .i64 s.cursor), .v (.bool s.took)]
def ownStateH (n : Nat) (s : StD) : List (Nat × AObj) := [(n + 2, .rows true 1 1 (s.p.at_.map encI)), (n + 81, .rows true 1 1 (s.p.h0.map encI)), (n + 161, .rows true 1 1 (s.p.h1.map encI))]
attribute [go_sem] ownState ownStateH
theorem own_owns (s : StD) (ha : FitsP s.p) : Owns Tryz.prog 121 [.agg (encState s)] (fun n => ownState n s) (fun n => ownStateH n s) 241 := by
 refine ⟨ACallP.of_awp (by kernel_rfl) Tryz.func121 rfl rfl (Nat.le_of_ble_eq_true rfl) (by kernel_rfl) ?_, fun n => ⟨by simp [go_sem], by simp [go_sem]⟩⟩
 obtain ⟨a1, a2, a3⟩ := ha
 have h1 := Clone_owns s.p.at_ a1
 have h2 := Clone_owns s.p.h0 a2
 have h3 := Clone_owns s.p.h1 a3
 (repeat (first|with_reducible refine wV fun _=>?_|simp [go_sem]))
 refine ACallP.ownsPlain h1 (by simp [go_sem]) ?_
 (repeat (first|with_reducible refine wV fun _=>?_|simp [go_sem]))
 refine dCall.owns 81 (by rfl) (h2) (by decide) (by simp [go_sem]) (by simp [go_sem]) (fun _ => LeRow.refl _ _ _ _) (by simp [go_sem]) (by simp [go_sem]) ?_
 (repeat (first|with_reducible refine wV fun _=>?_|simp [go_sem]))
 refine dCall.owns 161 (by rfl) (h3) (by decide) (by simp [go_sem]) (by simp [go_sem]) (fun _ => LeRow.refl _ _ _ _) (by simp [go_sem]) (by simp [go_sem]) ?_
 ((repeat (first|with_reducible (first|refine wL fun _=>?_|refine wD fun _=>?_|refine wZ ?_)|simp [go_sem])); refine dEnd.mkN (by kernel_rfl) ?_)
 (repeat (first|with_reducible refine wV fun _=>?_|simp [go_sem]))
 simp [go_sem, Wk_eq]
theorem man_pure (s : StD) (hc : s.cursor.toNat < s.p.at_.length) (h0 : 0 ≤ s.cursor) : Pure Tryz.prog 266 [.agg (encState s)] (.tup [.v (.int .i64 (manOf (nth s.p.at_ s.cursor.toNat)).1), .v (.int .i64 (manOf (nth s.p.at_ s.cursor.toNat)).2)]) := by
 refine pF Tryz.func266 ?_
 have hO := gMan_pure (nth s.p.at_ s.cursor.toNat)
 generalize manOf (nth s.p.at_ s.cursor.toNat) = m at *
 (repeat (first|with_reducible refine wV fun _=>?_|simp [go_sem, hc]))
 refine ACallP.plain hO (by simp [go_sem]) ?_
 (repeat (first|with_reducible refine wV fun _=>?_|simp [go_sem]))
theorem provided_pure (s : StD) (b : Bool) : Pure Tryz.prog 265 [.agg (encState s), .v (.bool b)] (encSs (onlyS s b)) := by
 refine pF Tryz.func265 ?_
 cases b
 ·(repeat (first|with_reducible refine wV fun _=>?_|simp [go_sem, onlyS]))
 ·(repeat (first|with_reducible refine wV fun _=>?_|simp [go_sem, onlyS]))
  exact frX
abbrev StepF (f : FuncId) (g : GameD) (s : StD) (n : Int) (r : List StD) : Prop := Pure Tryz.prog f [.agg (encState s), .agg (encGame g), .v (.int .i64 n)] (encSs r)
section
variable (g : GameD) (hg : GOk g) (s : StD) (hs : StOk g s) (n : Int)
theorem walk_pure (hg : GOk g) : StepF 208 g s n (onlyS { s with cursor := toB g.board s.p.side n s.cursor } (decide (0 ≤ toB g.board s.p.side n s.cursor))) := by
 refine pF Tryz.func208 ?_
 have hT := bTo_pure g.board hg.board s.p.side n s.cursor
 have hP := provided_pure { s with cursor := toB g.board s.p.side n s.cursor }
 (repeat (first|with_reducible refine wV fun _=>?_|simp [go_sem]))
 refine ACallP.plain hT (by simp [go_sem]) ?_
 (repeat (first|with_reducible refine wV fun _=>?_|simp [go_sem]))
 refine ACallP.plain (hP _) (by simp [go_sem]) ?_
 (repeat (first|with_reducible refine wV fun _=>?_|simp [go_sem]))
theorem slide_pure (hg : GOk g) (hs : StOk g s) : StepF 209 g s n (slideS g.board s n) := by
 refine pF Tryz.func209 ?_
 have hL := bLine_pure g.board hg.board s.p.side n s.cursor
 have hlm := lineB_mem hg.board (side := s.p.side) (d := n) (c := s.cursor)
 have hll := lineB_len (b := g.board) (side := s.p.side) (d := n) (c := s.cursor)
 have c9 := hg.c9
 have c1 := hg.c1
 have hal := hs.p.al
 rw [show g.board.cells = g.cells from rfl] at hlm hll
 unfold slideS
 generalize lineB g.board s.p.side n s.cursor = line at *
 generalize hR : slideGo s line = R
 (repeat (first|with_reducible refine wV fun _=>?_|simp [go_sem]))
 refine ACallP.plain hL (by simp [go_sem]) ?_
 (repeat (first|with_reducible refine wV fun _=>?_|simp [go_sem]))
 refine ALoop.start (ALoop.ind (α := Nat × List StD) (fun a => ⟨[(3, .ref 0 0 8 0 0), (7, .sl 2 a.2.length 8 0 a.2.length), (19, encIs line), (20, .v (.int .i64 line.length)), (21, .v (.int .i64 a.1))], [(0, .rows true 0 8 [encState s]), (2, .rows true a.2.length 8 (a.2.map encState))], 3⟩)
  (fun d a => a.1 + d = line.length ∧ a.2.length = a.1 ∧ R = a.2 ++ slideGo s (line.drop a.1)) ?_ line.length (0, []) ?_) ?_ ?_
 ·rintro d ⟨i, out⟩ ⟨i1, i2, i3⟩ hrec
  simp only at i1 i2 i3
  (repeat (first|with_reducible refine wV fun _=>?_|simp [go_sem]))
  refine aIf.mkL (fun hi => ?_) (fun hi => ?_) <;> simp at hi
  ·have hli := hlm _ (nth_mem hi)
   have hlt : (nth line i).toNat < s.p.at_.length := by omega
   rw [dropG_cons hi, slideGo] at i3
   (repeat (first|with_reducible refine wV fun _=>?_|simp [go_sem, hi, hlt]))
   refine aIf.mkL (fun hz => ?_) (fun hz => ?_) <;> simp at hz
   ·rw [if_neg (by simpa using hz)] at i3
    (repeat (first|with_reducible refine wV fun _=>?_|simp [go_sem]))
    rw [i3]
    exact frX
   ·rw [if_pos (by simpa using hz)] at i3
    (repeat (first|with_reducible refine wV fun _=>?_|simp [go_sem]))
    refine ALoop.start (hrec (d - 1) (by omega) (i + 1, out ++ [{ s with cursor := nth line i }]) ⟨by simp only; omega, by simp; omega, by simpa using i3⟩) ?_ (by simp)
    simp [go_sem, Wk_eq]
  ·rw [List.drop_eq_nil_of_le hi, slideGo] at i3
   (repeat (first|with_reducible refine wV fun _=>?_|simp [go_sem]))
   rw [i3]
   exact frX
 ·simp [hR]
 ·simp [go_sem, Wk_eq]
 ·simp
theorem man_at (hg : GOk g) (hs : StOk g s) : s.cursor.toNat < s.p.at_.length ∧ 0 ≤ s.cursor ∧ (nth s.p.at_ s.cursor.toNat = 0 ∧ manOf (nth s.p.at_ s.cursor.toNat) = (-1, -1) ∨ nth s.p.at_ s.cursor.toNat ≠ 0 ∧ 0 ≤ (manOf (nth s.p.at_ s.cursor.toNat)).1 ∧ (manOf (nth s.p.at_ s.cursor.toNat)).1 < g.kinds.length ∧
  ((manOf (nth s.p.at_ s.cursor.toNat)).2 = 0 ∨ (manOf (nth s.p.at_ s.cursor.toNat)).2 = 1)) ∧ (s.p.side = 0 ∨ s.p.side = 1) := by
 have hal := hs.p.al
 have hc0 := hs.c0
 have hc1 := hs.c1
 have hcur : s.cursor.toNat < s.p.at_.length := by omega
 have hat := hs.p.at (i := s.cursor.toNat) (by omega)
 have hman := manOf_cases hat.1 hat.2 hg.k6
 refine ⟨hcur, hc0, ?_, hs.p.s⟩
 rcases hman with ⟨h1, h2⟩ | ⟨h1, h2, h3, h4, _⟩
 ·exact .inl ⟨h1, h2⟩
 ·exact .inr ⟨h1, h2, h3, h4⟩
theorem empty_pure (hg : GOk g) (hs : StOk g s) : StepF 210 g s n (onlyS s (decide ((manOf (nth s.p.at_ s.cursor.toNat)).1 < 0))) := by
 refine pF Tryz.func210 ?_
 obtain ⟨hcur, h0, hm, hsd⟩ := man_at g s hg hs
 have e : decide ((manOf (nth s.p.at_ s.cursor.toNat)).1 < 0) = decide (nth s.p.at_ s.cursor.toNat = 0) := by
  rcases hm with ⟨h1, h2⟩ | ⟨h1, h2, _, _⟩
  ·rw [h2]; simp [h1]
  ·simp; omega
 rw [e]
 have hP := provided_pure s
 (repeat (first|with_reducible refine wV fun _=>?_|simp [go_sem, hcur]))
 refine dCall.plain (hP _) (by simp [go_sem]) ?_
 (repeat (first|with_reducible refine wV fun _=>?_|simp [go_sem]))
theorem enemy_pure (hg : GOk g) (hs : StOk g s) : StepF 211 g s n (onlyS s (decide (0 ≤ (manOf (nth s.p.at_ s.cursor.toNat)).1 ∧ (manOf (nth s.p.at_ s.cursor.toNat)).2 ≠ s.p.side))) := by
 refine pF Tryz.func211 ?_
 obtain ⟨hcur, h0, hm, hsd⟩ := man_at g s hg hs
 have hO := man_pure s hcur h0
 have hP := provided_pure s
 have e : decide (0 ≤ (manOf (nth s.p.at_ s.cursor.toNat)).1 ∧ (manOf (nth s.p.at_ s.cursor.toNat)).2 ≠ s.p.side) = decide ((manOf (nth s.p.at_ s.cursor.toNat)).2 = 1 - s.p.side) := by
  rcases hm with ⟨h1, h2⟩ | ⟨h1, h2, _, _⟩
  ·rw [h2]; simp; omega
  ·simp only [decide_eq_decide]; omega
 rw [e]
 generalize manOf (nth s.p.at_ s.cursor.toNat) = m at *
 (repeat (first|with_reducible refine wV fun _=>?_|simp [go_sem]))
 refine ACallP.plain hO (by simp [go_sem]) ?_
 (repeat (first|with_reducible refine wV fun _=>?_|simp [go_sem]))
 refine ACallP.plain (hP _) (by simp [go_sem]) ?_
 (repeat (first|with_reducible refine wV fun _=>?_|simp [go_sem]))
theorem friend_pure (hg : GOk g) (hs : StOk g s) : StepF 212 g s n (onlyS s (decide (0 ≤ (manOf (nth s.p.at_ s.cursor.toNat)).1 ∧ (manOf (nth s.p.at_ s.cursor.toNat)).2 = s.p.side))) := by
 refine pF Tryz.func212 ?_
 obtain ⟨hcur, h0, hm, hsd⟩ := man_at g s hg hs
 have hO := man_pure s hcur h0
 have hP := provided_pure s
 have e : decide (0 ≤ (manOf (nth s.p.at_ s.cursor.toNat)).1 ∧ (manOf (nth s.p.at_ s.cursor.toNat)).2 = s.p.side) = decide ((manOf (nth s.p.at_ s.cursor.toNat)).2 = s.p.side) := by
  rcases hm with ⟨h1, h2⟩ | ⟨h1, h2, _, _⟩
  ·rw [h2]; simp; omega
  ·simp only [decide_eq_decide]; omega
 rw [e]
 generalize manOf (nth s.p.at_ s.cursor.toNat) = m at *
 (repeat (first|with_reducible refine wV fun _=>?_|simp [go_sem]))
 refine ACallP.plain hO (by simp [go_sem]) ?_
 (repeat (first|with_reducible refine wV fun _=>?_|simp [go_sem]))
 refine ACallP.plain (hP _) (by simp [go_sem]) ?_
 (repeat (first|with_reducible refine wV fun _=>?_|simp [go_sem]))
theorem take_pure (hg : GOk g) (hs : StOk g s) : StepF 213 g s n (takeS g s) := by
 refine pF Tryz.func213 ?_
 obtain ⟨hcur, h0, hm, hsd⟩ := man_at g s hg hs
 have hO := man_pure s hcur h0
 have hP := provided_pure
 have hcp := own_owns s (hs.p.fits hg)
 unfold takeS
 generalize hme : manOf (nth s.p.at_ s.cursor.toNat) = m at *
 obtain ⟨mk, ms⟩ := m
 simp only [Prod.mk.injEq] at hm
 (repeat (first|with_reducible refine wV fun _=>?_|simp [go_sem]))
 refine ACallP.plain hO (by simp [go_sem]) ?_
 (repeat (first|with_reducible refine wV fun _=>?_|simp [go_sem]))
 refine aIf.mkL (fun hc => ?_) (fun hc => ?_) <;> simp at hc
 ·rw [if_pos (by omega)]
  (repeat (first|with_reducible refine wV fun _=>?_|simp [go_sem]))
 ·rw [if_neg (by omega)]
  (repeat (first|with_reducible refine wV fun _=>?_|simp [go_sem]))
  refine ACallP.ownsPlain hcp (by simp [go_sem]) ?_
  have hmk : mk.toNat < g.kinds.length := by omega
  have hmk' : 0 ≤ mk := by omega
  (repeat (first|with_reducible refine wV fun _=>?_|simp [go_sem, hcur, hmk]))
  refine aIf.mkL (fun hk => ?_) (fun hk => ?_)
  ·rw [if_neg (by simpa using hk)]
   (repeat (first|with_reducible refine wV fun _=>?_|simp [go_sem, clr]))
   (first|done|exact dpX)
  ·rw [if_pos (by simpa using hk)]
   have hl0 := hs.p.h0.len
   have hl1 := hs.p.h1.len
   rcases hsd with hsd | hsd
   ·have hmk0 : mk.toNat < s.p.h0.length := by omega
    have hv := hs.p.h0.v _ hmk0
    obtain ⟨u, hu⟩ : ∃ u : StD, u = { s with p := (clr s.p s.cursor).withHand s.p.side ((s.p.hand s.p.side).set mk.toNat (nth (s.p.hand s.p.side) mk.toNat + 1)), took := true } := ⟨_, rfl⟩
    have hres : (if 8 < nth (s.p.hand s.p.side) mk.toNat + 1 then [] else [u]) = onlyS u (decide (nth s.p.h0 mk.toNat + 1 ≤ 8)) := by
     have : s.p.hand s.p.side = s.p.h0 := by simp [PosD.hand, hsd]
     rw [this]
     unfold onlyS
     by_cases h8 : 8 < nth s.p.h0 mk.toNat + 1
     ·rw [if_pos h8, if_neg (by simp; omega)]
     ·rw [if_neg h8, if_pos (by simp; omega)]
    rw [← hu, hres]
    have hue : encState u = [.lst 1 ((s.p.at_.map encI).set s.cursor.toNat [.v (.int .i64 0)]), .lst 1 ((s.p.h0.map encI).set mk.toNat [.v (.int .i64 (nth s.p.h0 mk.toNat + 1))]), .lst 1 (s.p.h1.map encI), .v (.int .i64 s.p.rights), .v (.int .i64 s.p.side), .v (.int .i64 s.kind), .v (.int .i64 s.cursor), .v (.bool true)] := by
     rw [hu]; simp [encState, PosD.withHand, PosD.hand, clr, hsd, encIs, encI, List.map_set]
    have hP' := hP u
    rw [hue, hsd] at hP'
    (repeat (first|with_reducible (first|refine wL fun _=>?_|refine wD fun _=>?_|refine wE ?_)|simp [go_sem, hsd, hmk0, hcur]))
    refine adrZ.frz (frzO _ [4, 83, 163]) (frz_frzO _ _) ?_
    (repeat (first|with_reducible refine wV fun _=>?_|simp [go_sem, hsd, hmk0, hcur, frzO, frz1]))
    refine dCall.frz _ _ [4, 83, 163] [] (hP' (decide (nth s.p.h0 mk.toNat + 1 ≤ 8))) (by simp) ?_ (by simp [go_sem]) ?_
    ·intro h₁ hS
     have e4 := hS 4 (by simp)
     have e5 := hS 83 (by simp)
     have e6 := hS 163 (by simp)
     simp [upd, frzO, frz1] at e4 e5 e6
     refine .cons (.agg (.cons (leV_frz e4.symm (by simp) (by simp [applyW, ← e4]) (by simp; exact List.take_of_length_le (by simp))) (.cons (leV_frz e5.symm (by simp) (by simp [applyW, ← e5]) (by simp; exact List.take_of_length_le (by simp))) (.cons (leV_frz e6.symm (by simp) (by simp [applyW, ← e6]) (by simp; exact List.take_of_length_le (by simp))) (.refl _ _ _ _))))) (.refl _ _ _ _)
    ·(repeat (first|with_reducible refine wV fun _=>?_|simp [go_sem]))
   ·have hmk0 : mk.toNat < s.p.h1.length := by omega
    have hv := hs.p.h1.v _ hmk0
    obtain ⟨u, hu⟩ : ∃ u : StD, u = { s with p := (clr s.p s.cursor).withHand s.p.side ((s.p.hand s.p.side).set mk.toNat (nth (s.p.hand s.p.side) mk.toNat + 1)), took := true } := ⟨_, rfl⟩
    have hres : (if 8 < nth (s.p.hand s.p.side) mk.toNat + 1 then [] else [u]) = onlyS u (decide (nth s.p.h1 mk.toNat + 1 ≤ 8)) := by
     have : s.p.hand s.p.side = s.p.h1 := by simp [PosD.hand, hsd]
     rw [this]
     unfold onlyS
     by_cases h8 : 8 < nth s.p.h1 mk.toNat + 1
     ·rw [if_pos h8, if_neg (by simp; omega)]
     ·rw [if_neg h8, if_pos (by simp; omega)]
    rw [← hu, hres]
    have hue : encState u = [.lst 1 ((s.p.at_.map encI).set s.cursor.toNat [.v (.int .i64 0)]), .lst 1 (s.p.h0.map encI), .lst 1 ((s.p.h1.map encI).set mk.toNat [.v (.int .i64 (nth s.p.h1 mk.toNat + 1))]), .v (.int .i64 s.p.rights), .v (.int .i64 s.p.side), .v (.int .i64 s.kind), .v (.int .i64 s.cursor), .v (.bool true)] := by
     rw [hu]; simp [encState, PosD.withHand, PosD.hand, clr, hsd, encIs, encI, List.map_set]
    have hP' := hP u
    rw [hue, hsd] at hP'
    (repeat (first|with_reducible (first|refine wL fun _=>?_|refine wD fun _=>?_|refine wE ?_)|simp [go_sem, hsd, hmk0, hcur]))
    refine adrZ.frz (frzO _ [4, 83, 163]) (frz_frzO _ _) ?_
    (repeat (first|with_reducible refine wV fun _=>?_|simp [go_sem, hsd, hmk0, hcur, frzO, frz1]))
    refine dCall.frz _ _ [4, 83, 163] [] (hP' (decide (nth s.p.h1 mk.toNat + 1 ≤ 8))) (by simp) ?_ (by simp [go_sem]) ?_
    ·intro h₁ hS
     have e4 := hS 4 (by simp)
     have e5 := hS 83 (by simp)
     have e6 := hS 163 (by simp)
     simp [upd, frzO, frz1] at e4 e5 e6
     refine .cons (.agg (.cons (leV_frz e4.symm (by simp) (by simp [applyW, ← e4]) (by simp; exact List.take_of_length_le (by simp))) (.cons (leV_frz e5.symm (by simp) (by simp [applyW, ← e5]) (by simp; exact List.take_of_length_le (by simp))) (.cons (leV_frz e6.symm (by simp) (by simp [applyW, ← e6]) (by simp; exact List.take_of_length_le (by simp))) (.refl _ _ _ _))))) (.refl _ _ _ _)
    ·(repeat (first|with_reducible refine wV fun _=>?_|simp [go_sem]))
theorem push_pure (hg : GOk g) (hs : StOk g s) : StepF 214 g s n (pushS g s n) := by
 refine pF Tryz.func214 ?_
 have hT := bTo_pure g.board hg.board s.p.side n s.cursor
 have hal := hs.p.al
 have hc0 := hs.c0
 have hc1 := hs.c1
 have hcur : s.cursor.toNat < s.p.at_.length := by omega
 have hcp := own_owns s (hs.p.fits hg)
 have hto := toB_lt hg.board s.p.side n s.cursor
 rw [show g.board.cells = g.cells from rfl] at hto
 unfold pushS
 generalize toB g.board s.p.side n s.cursor = to at *
 (repeat (first|with_reducible refine wV fun _=>?_|simp [go_sem]))
 refine ACallP.plain hT (by simp [go_sem]) ?_
 by_cases ht : to < 0
 ·rw [if_pos (.inr (.inl ht))]
  have ht0 : to.toNat = 0 := by omega
  have h0l : 0 < s.p.at_.length := by omega
  (repeat (first|with_reducible refine wV fun _=>?_|simp [go_sem, hcur, ht, ht0, h0l]))
 ·have htl : to.toNat < s.p.at_.length := by omega
  have ht' : 0 ≤ to := by omega
  (repeat (first|with_reducible refine wV fun _=>?_|simp [go_sem, hcur, ht, htl]))
  refine aIf.mkL (fun hc => ?_) (fun hc => ?_) <;> simp at hc
  ·rw [if_pos (by by_cases h : nth s.p.at_ s.cursor.toNat = 0; exact .inl h; exact .inr (hc.resolve_left h))]
   (repeat (first|with_reducible refine wV fun _=>?_|simp [go_sem]))
  ·rw [if_neg (by rintro (h | h); exact hc.1 h; exact h hc.2)]
   (repeat (first|with_reducible refine wV fun _=>?_|simp [go_sem, hcur]))
   refine ACallP.ownsPlain hcp (by simp [go_sem]) ?_
   (repeat (first|with_reducible refine wV fun _=>?_|simp [go_sem, hcur, htl]))
   (first|done|exact dpX)
theorem become_pure : StepF 215 g s n [{ s with kind := n }] := by
 refine pF Tryz.func215 ?_
 (repeat (first|with_reducible refine wV fun _=>?_|simp [go_sem]))
 exact frX
theorem need_pure (h0 : 0 ≤ n) (h4 : n < 64) : StepF 216 g s n (onlyS s (decide (andN .i64 (s.p.rights.fdiv (2 ^ n.toNat)) 1 = 1))) := by
 refine pF Tryz.func216 ?_
 have hP := provided_pure s
 (repeat (first|with_reducible refine wV fun _=>?_|simp [go_sem]))
 refine dCall.plain (hP _) (by simp [go_sem]) ?_
 (repeat (first|with_reducible refine wV fun _=>?_|simp [go_sem]))
theorem lose_pure (h0 : 0 ≤ n) (h4 : n ≤ 4) : StepF 217 g s n [{ s with p := { s.p with rights := andNotN .i64 s.p.rights (2 ^ n.toNat) } }] := by
 refine pF Tryz.func217 ?_
 have hpn := pow_le16 h0 h4
 (repeat (first|with_reducible refine wV fun _=>?_|simp [go_sem]))
 exact frX
end
end Go.Av
end
section
/- Contracts, runs of the program: step. -/
open Go Go.Proofs
namespace Go.Av
theorem step_pure (g : GameD) (hg : GOk g) (s : StD) (hs : StOk g s) (x : Int × Int) (hx : StepOk g.next.length g.kinds.length g.rights x) :
  Pure Tryz.prog 172 [.agg (encGame g), .agg (encState s), .agg (encStep x)] (encSs (stepS g s x)) := by
 refine pF Tryz.func172 ?_
 have r4 := hg.r4
 obtain ⟨op, n⟩ := x
 obtain ⟨xo, xd, xz, xk, xr⟩ := hx
 simp only at xo xd xz xk xr
 rcases (show op = 1 ∨ op = 2 ∨ op = 3 ∨ op = 4 ∨ op = 5 ∨ op = 6 ∨ op = 7 ∨ op = 8 ∨ op = 9 ∨ op = 10 by omega) with rfl | rfl | rfl | rfl | rfl | rfl | rfl | rfl | rfl | rfl
 ·have hS := walk_pure g s n hg
  (repeat (first|with_reducible refine wV fun _=>?_|simp [go_sem]))
  refine dCall.plain hS (by simp [go_sem]) ?_
  (repeat (first|with_reducible refine wV fun _=>?_|simp [go_sem]))
  exact LeV.of_eq (by simp [stepS, encSs, encState, encIs])
 ·have hS := slide_pure g s n hg hs
  (repeat (first|with_reducible refine wV fun _=>?_|simp [go_sem]))
  refine dCall.plain hS (by simp [go_sem]) ?_
  (repeat (first|with_reducible refine wV fun _=>?_|simp [go_sem]))
  exact LeV.of_eq (by simp [stepS, encSs, encState, encIs])
 ·have hS := empty_pure g s n hg hs
  (repeat (first|with_reducible refine wV fun _=>?_|simp [go_sem]))
  refine dCall.plain hS (by simp [go_sem]) ?_
  (repeat (first|with_reducible refine wV fun _=>?_|simp [go_sem]))
  exact LeV.of_eq (by simp [stepS, encSs, encState, encIs])
 ·have hS := enemy_pure g s n hg hs
  (repeat (first|with_reducible refine wV fun _=>?_|simp [go_sem]))
  refine dCall.plain hS (by simp [go_sem]) ?_
  (repeat (first|with_reducible refine wV fun _=>?_|simp [go_sem]))
  exact LeV.of_eq (by simp [stepS, encSs, encState, encIs])
 ·have hS := friend_pure g s n hg hs
  (repeat (first|with_reducible refine wV fun _=>?_|simp [go_sem]))
  refine dCall.plain hS (by simp [go_sem]) ?_
  (repeat (first|with_reducible refine wV fun _=>?_|simp [go_sem]))
  exact LeV.of_eq (by simp [stepS, encSs, encState, encIs])
 ·have hS := take_pure g s n hg hs
  (repeat (first|with_reducible refine wV fun _=>?_|simp [go_sem]))
  refine dCall.plain hS (by simp [go_sem]) ?_
  (repeat (first|with_reducible refine wV fun _=>?_|simp [go_sem]))
  exact LeV.of_eq (by simp [stepS, encSs, encState, encIs])
 ·have hS := push_pure g s n hg hs
  (repeat (first|with_reducible refine wV fun _=>?_|simp [go_sem]))
  refine dCall.plain hS (by simp [go_sem]) ?_
  (repeat (first|with_reducible refine wV fun _=>?_|simp [go_sem]))
  exact LeV.of_eq (by simp [stepS, encSs, encState, encIs])
 ·have hS := become_pure g s n
  (repeat (first|with_reducible refine wV fun _=>?_|simp [go_sem]))
  refine dCall.plain hS (by simp [go_sem]) ?_
  (repeat (first|with_reducible refine wV fun _=>?_|simp [go_sem]))
  exact LeV.of_eq (by simp [stepS, encSs, encState, encIs])
 ·have hn := xr (by omega)
  have hS := need_pure g s n hn.1 (by omega)
  (repeat (first|with_reducible refine wV fun _=>?_|simp [go_sem]))
  refine dCall.plain hS (by simp [go_sem]) ?_
  (repeat (first|with_reducible refine wV fun _=>?_|simp [go_sem]))
  exact LeV.of_eq (by simp [stepS, encSs, encState, encIs])
 ·have hn := xr (by omega)
  have hS := lose_pure g s n hn.1 (by omega)
  (repeat (first|with_reducible refine wV fun _=>?_|simp [go_sem]))
  refine dCall.plain hS (by simp [go_sem]) ?_
  (repeat (first|with_reducible refine wV fun _=>?_|simp [go_sem]))
  exact LeV.of_eq (by simp [stepS, encSs, encState, encIs])
end Go.Av
end
section
/- Our library: an object's rows are forgotten at a call's end. -/
namespace Go.Av
open Go
theorem ACallP.clear {P : Program} {f : FuncId} {args : List AV} {h : Heap} {n : Nat} {K : CallK}
  (hc : ACallP P f args h n (fun r h' n' => ∃ o mt g sz rs, sz ≠ 2 ∧ h' o = some (.rows mt g sz rs) ∧ K r (upd h' o (some (.rows mt g sz []))) n')) : ACallP P f args h n K := by
 refine ⟨hc.1, fun M0 φ w vs hH hargs => (hc.2 M0 φ w vs hH hargs).mono ?_⟩
 rintro e w' ⟨v, φ', r, h', n', rfl, ⟨o, mt, g, sz, rs, hsz, ho, hK⟩, hH', hx, st⟩
 have hmut : Mut φ' (upd h' o (some (.rows mt g sz []))) = Mut φ' h' := by
  funext k
  refine propext ⟨?_, ?_⟩
  ·rintro ⟨o1, g1, sz1, rs1, g', a, bs, h1, h2, h3⟩
   by_cases he : o1 = o
   ·subst he
    rw [upd_same] at h1
    simp only [Option.some.injEq, AObj.rows.injEq] at h1
    obtain ⟨rfl, rfl, rfl, _⟩ := h1
    exact ⟨o1, g, sz, rs, g', a, bs, ho, h2, h3⟩
   ·rw [upd_ne _ _ he] at h1
    exact ⟨o1, g1, sz1, rs1, g', a, bs, h1, h2, h3⟩
  ·rintro ⟨o1, g1, sz1, rs1, g', a, bs, h1, h2, h3⟩
   by_cases he : o1 = o
   ·subst he
    rw [ho] at h1
    simp only [Option.some.injEq, AObj.rows.injEq] at h1
    obtain ⟨rfl, rfl, rfl, _⟩ := h1
    exact ⟨o1, g, sz, [], g', a, bs, by rw [upd_same], h2, h3⟩
   ·exact ⟨o1, g1, sz1, rs1, g', a, bs, by rw [upd_ne _ _ he]; exact h1, h2, h3⟩
 have hold : ∀ o1 mt1 g1 sz1 rs1, upd h' o (some (.rows mt g sz [])) o1 = some (.rows mt1 g1 sz1 rs1) → ∃ rs2, h' o1 = some (.rows mt1 g1 sz1 rs2) ∧ (rs1 = rs2 ∨ rs1 = []) := by
  intro o1 mt1 g1 sz1 rs1 h1
  by_cases he : o1 = o
  ·subst he
   rw [upd_same] at h1
   simp only [Option.some.injEq, AObj.rows.injEq] at h1
   obtain ⟨rfl, rfl, rfl, rfl⟩ := h1
   exact ⟨rs, ho, .inr rfl⟩
  ·rw [upd_ne _ _ he] at h1
   exact ⟨rs1, h1, .inl rfl⟩
 refine ⟨v, φ', r, _, n', rfl, hK, ⟨hH'.m0, hH'.fresh, fun o1 mt1 g1 sz1 rs1 h1 => ?_, fun o1 o2 mt1 g1 sz1 rs1 mt2 g2 sz2 rs2 a a' b b' h1 h2 => ?_, by rw [hmut]; exact hH'.glob⟩, by rw [hmut]; exact hx, st.le, by rw [hmut]; exact st.or, st.fr, by rw [hmut]; exact st.mutd⟩
 ·obtain ⟨rs2, h2, h3⟩ := hold _ _ _ _ _ h1
  obtain ⟨A, hA, hobj⟩ := hH'.obj _ _ _ _ _ h2
  rcases h3 with rfl | rfl
  ·rw [hmut]; exact ⟨A, hA, hobj⟩
  ·by_cases he : o1 = o
   ·subst he
    rw [ho] at h2
    simp only [Option.some.injEq, AObj.rows.injEq] at h2
    obtain ⟨rfl, rfl, rfl, rfl⟩ := h2
    refine ⟨A, hA, hobj.imp (fun h => ⟨h.1, rfl⟩) ?_⟩
    rintro ⟨a, bs, e1, e3, ⟨C, T, e2, e4, e5, e6, e7, e8, e9⟩ | ⟨es, clk, e2, e4, e5, e6, e9⟩⟩
    ·exact ⟨a, bs, e1, e3, .inl ⟨C, T, e2, e4, e5, by simp, by simp; omega, by simp, by simpa using RelL.nil⟩⟩
    ·exact absurd e6.1 hsz
   ·rw [upd_ne _ _ he] at h1
    rw [h1] at h2
    simp only [Option.some.injEq, AObj.rows.injEq] at h2
    obtain ⟨_, _, _, rfl⟩ := h2
    rw [hmut]; exact ⟨A, hA, hobj⟩
 ·obtain ⟨rs3, h3, _⟩ := hold _ _ _ _ _ h1
  obtain ⟨rs4, h4, _⟩ := hold _ _ _ _ _ h2
  exact hH'.inj _ _ _ _ _ _ _ _ _ _ _ _ _ _ h3 h4
end Go.Av
end
section
/- Contracts: slices.Concat of four lists of numbers, pos.Key, strconv.Itoa (small numbers), FormatBool, the key of a state. -/
open Go Go.Proofs
namespace Go.Av
theorem GrowI_owns (m : Int) (h0 : 0 ≤ m) (h1 : m ≤ 17179869184) : Owns Tryz.prog 262 [AV.nils, .v (.int .i64 m)] (fun n => .sl n 0 1 0 0) (fun n => [(n, .rows true 0 1 [])]) 1 := by
 refine ⟨?_, fun n => ⟨by simp [go_sem], by simp [go_sem]⟩⟩
 by_cases hm : m = 0
 ·subst hm
  refine ACallP.of_awp (by kernel_rfl) Tryz.func262 rfl rfl (Nat.le_of_ble_eq_true rfl) (by kernel_rfl) ?_
  (repeat (first|with_reducible refine wV fun _=>?_|simp [go_sem]))
  simp [go_sem, Wk_eq]
 ·refine ACallP.clear ?_
  refine ACallP.of_awp (by kernel_rfl) Tryz.func262 rfl rfl (Nat.le_of_ble_eq_true rfl) (by kernel_rfl) ?_
  (repeat (first|with_reducible refine wV fun _=>?_|simp [go_sem]))
  (refine aIf.mkL (fun hF => by first | omega | (simp at hF; omega)) (fun hF => ?_); clear hF)
  (repeat (first|with_reducible refine wV fun _=>?_|simp [go_sem]))
  (refine aIf.mkL (fun hT => ?_) (fun hT => by first | omega | (simp at hT; omega)); clear hT)
  (repeat (first|with_reducible refine wV fun _=>?_|simp [go_sem]))
  refine ⟨0, 0, 1, by decide, ⟨rfl, rfl, rfl⟩, ?_⟩
  simp [go_sem, Wk_eq]
theorem Concat4_pure (a b c d : List Int) (ha : a.length ≤ 1000) (hb : b.length ≤ 1000) (hc : c.length ≤ 1000) (hd : d.length ≤ 1000) : Pure Tryz.prog 205 [.lst 1 [[encIs a], [encIs b], [encIs c], [encIs d]]] (encIs (a ++ b ++ c ++ d)) := by
 refine pF Tryz.func205 ?_
 (repeat (first|with_reducible refine wV fun _=>?_|simp [go_sem]))
 refine ALoop.unroll ?_
 (repeat (first|with_reducible refine wV fun _=>?_|simp [go_sem]))
 (refine aIf.mkL (fun hF => by first | omega | (simp at hF; omega)) (fun hF => ?_); clear hF)
 (repeat (first|with_reducible refine wV fun _=>?_|simp [go_sem]))
 refine ALoop.unroll ?_
 (repeat (first|with_reducible refine wV fun _=>?_|simp [go_sem]))
 (refine aIf.mkL (fun hF => by first | omega | (simp at hF; omega)) (fun hF => ?_); clear hF)
 (repeat (first|with_reducible refine wV fun _=>?_|simp [go_sem]))
 refine ALoop.unroll ?_
 (repeat (first|with_reducible refine wV fun _=>?_|simp [go_sem]))
 (refine aIf.mkL (fun hF => by first | omega | (simp at hF; omega)) (fun hF => ?_); clear hF)
 (repeat (first|with_reducible refine wV fun _=>?_|simp [go_sem]))
 refine ALoop.unroll ?_
 (repeat (first|with_reducible refine wV fun _=>?_|simp [go_sem]))
 (refine aIf.mkL (fun hF => by first | omega | (simp at hF; omega)) (fun hF => ?_); clear hF)
 (repeat (first|with_reducible refine wV fun _=>?_|simp [go_sem]))
 refine ALoop.unroll ?_
 (repeat (first|with_reducible refine wV fun _=>?_|simp [go_sem]))
 refine ACallP.ownsPlain (GrowI_owns _ (by omega) (by omega)) (by simp [go_sem]) ?_
 (repeat (first|with_reducible refine wV fun _=>?_|simp [go_sem]))
 refine ALoop.unroll ?_
 (repeat (first|with_reducible refine wV fun _=>?_|simp [go_sem]))
 refine ALoop.unroll ?_
 (repeat (first|with_reducible refine wV fun _=>?_|simp [go_sem]))
 refine ALoop.unroll ?_
 (repeat (first|with_reducible refine wV fun _=>?_|simp [go_sem]))
 refine ALoop.unroll ?_
 (repeat (first|with_reducible refine wV fun _=>?_|simp [go_sem]))
 refine ALoop.unroll ?_
 (repeat (first|with_reducible refine wV fun _=>?_|simp [go_sem]))
 exact frX

theorem bytesOf_U : ∀ l : List Int, bytesOf (l.map encU) = some l
 | [] => rfl
 | n :: l => by rw [List.map_cons, encU, bytesOf, bytesOf_U l]; rfl
def allP (p : PosD) : List Int := p.at_ ++ p.h0 ++ p.h1 ++ [p.rights, p.side]
def keyP (p : PosD) : ByteArray := strOf (allP p)
theorem Key_pure (p : PosD) (ha : p.at_.length ≤ 100) (hb : p.h0.length ≤ 100) (hc : p.h1.length ≤ 100) (hv : ∀ x ∈ allP p, 0 ≤ x ∧ x ≤ 255) : Pure Tryz.prog 164 [.agg (encPos p)] (.v (.string (keyP p))) := by
 refine pF Tryz.func164 ?_
 have hC : Pure Tryz.prog 205 [.lst 1 [[.lst 1 (p.at_.map encI)], [.lst 1 (p.h0.map encI)], [.lst 1 (p.h1.map encI)], [.lst 1 [[.v (.int .i64 p.rights)], [.v (.int .i64 p.side)]]]]] (encIs (p.at_ ++ p.h0 ++ p.h1 ++ [p.rights, p.side])) :=
  Concat4_pure p.at_ p.h0 p.h1 [p.rights, p.side] (by omega) (by omega) (by omega) (by simp)
 have hll : (allP p).length ≤ 302 := by simp [allP]; omega
 unfold keyP
 rw [show p.at_ ++ p.h0 ++ p.h1 ++ [p.rights, p.side] = allP p from rfl] at hC
 generalize allP p = l at *
 (repeat (first|with_reducible refine wV fun _=>?_|simp [go_sem]))
 refine ACallP.pureF [1, 2] hC ?_ (by simp [go_sem]) ?_
 ·(first|done|exact leX)
 (repeat (first|with_reducible refine wV fun _=>?_|simp [go_sem]))
 refine ALoop.start (ALoop.ind (α := Nat) (fun i => ⟨[(3, .sl 3 i 1 0 i), (20, encIs l), (21, .v (.int .i64 l.length)), (22, .v (.int .i64 i))], [(3, .rows true i 1 ((l.take i).map encU))], 4⟩)
  (fun d i => i + d = l.length) ?_ l.length 0 ?_) ?_ ?_
 ·rintro d i i1 hrec
  (repeat (first|with_reducible refine wV fun _=>?_|simp [go_sem]))
  refine aIf.mkL (fun hi => ?_) (fun hi => ?_) <;> simp at hi
  ·have hx := hv _ (nth_mem hi)
   have hem : (nth l i).emod 256 = nth l i := Int.emod_eq_of_lt hx.1 (by omega)
   have hem2 : nth l i % 256 = nth l i := hem
   (repeat (first|with_reducible refine wV fun _=>?_|simp [go_sem, hi, hem, hem2]))
   refine ALoop.start (hrec (d - 1) (by omega) (i + 1) (by omega)) ?_ (by simp)
   rw [List.take_add_one, List.getElem?_eq_getElem hi, ← nth_eq _ _ hi]
   simp [go_sem, Wk_eq, encU, hem, hem2]
   intro x hx c hc
   obtain ⟨y, _, rfl⟩ := List.mem_map.1 (List.mem_of_mem_take hx)
   simp only [encU, List.mem_singleton] at hc
   subst hc
   exact .v _
  ·have hb : bytesOf (List.take i (List.map encU l)) = some l := by rw [List.take_of_length_le (by simp; omega)]; exact bytesOf_U l
   have hb2 : bytesOf (List.take i (List.take i (List.map encU l))) = some l := by rw [List.take_take, Nat.min_self]; exact hb
   (repeat (first|with_reducible refine wV fun _=>?_|simp [go_sem, hb, hb2]))
 ·omega
 ·simp [go_sem, Wk_eq]
 ·simp
def digit (n : Int) : ByteArray := strOf [48 + n]
theorem sSmall_pure (n : Int) (h0 : 0 ≤ n) (h1 : n < 10) : Pure Tryz.prog 296 [.v (.int .i64 n)] (.v (.string (digit n))) := by
 refine pF Tryz.func296 ?_
 rcases (show n = 0 ∨ n = 1 ∨ n = 2 ∨ n = 3 ∨ n = 4 ∨ n = 5 ∨ n = 6 ∨ n = 7 ∨ n = 8 ∨ n = 9 by omega) with rfl | rfl | rfl | rfl | rfl | rfl | rfl | rfl | rfl | rfl <;> ((repeat (first|with_reducible refine wV fun _=>?_|simp [go_sem]))) <;> exact LeV.of_eq (by kernel_rfl)
theorem sFormat_pure (n : Int) (h0 : 0 ≤ n) (h1 : n < 10) : Pure Tryz.prog 288 [.v (.int .i64 n), .v (.int .i64 10)] (.v (.string (digit n))) := by
 refine pF Tryz.func288 ?_
 have hS := sSmall_pure n h0 h1
 have h1' : n < 100 := by omega
 (repeat (first|with_reducible refine wV fun _=>?_|simp [go_sem, h0, h1']))
 refine ACallP.plain hS (by simp [go_sem]) ?_
 (repeat (first|with_reducible refine wV fun _=>?_|simp [go_sem]))
theorem sItoa_pure (n : Int) (h0 : 0 ≤ n) (h1 : n < 10) : Pure Tryz.prog 267 [.v (.int .i64 n)] (.v (.string (digit n))) := by
 refine pF Tryz.func267 ?_
 have hS := sFormat_pure n h0 h1
 (repeat (first|with_reducible refine wV fun _=>?_|simp [go_sem]))
 refine ACallP.plain hS (by simp [go_sem]) ?_
 (repeat (first|with_reducible refine wV fun _=>?_|simp [go_sem]))
theorem Itoa_pure (n : Int) (h0 : 0 ≤ n) (h1 : n < 10) : Pure Tryz.prog 218 [.v (.int .i64 n)] (.v (.string (digit n))) := by
 refine pF Tryz.func218 ?_
 have hS := sItoa_pure n h0 h1
 (repeat (first|with_reducible refine wV fun _=>?_|simp [go_sem]))
 refine ACallP.plain hS (by simp [go_sem]) ?_
 (repeat (first|with_reducible refine wV fun _=>?_|simp [go_sem]))
theorem sBool_pure (b : Bool) : Pure Tryz.prog 268 [.v (.bool b)] (.v (.string (if b then strOf [116, 114, 117, 101] else strOf [102, 97, 108, 115, 101]))) := by
 refine pF Tryz.func268 ?_
 cases b
 ·(repeat (first|with_reducible refine wV fun _=>?_|simp [go_sem]))
  exact LeV.of_eq (by kernel_rfl)
 ·(repeat (first|with_reducible refine wV fun _=>?_|simp [go_sem]))
  exact LeV.of_eq (by kernel_rfl)
theorem Bool_pure (b : Bool) : Pure Tryz.prog 219 [.v (.bool b)] (.v (.string (if b then strOf [116, 114, 117, 101] else strOf [102, 97, 108, 115, 101]))) := by
 refine pF Tryz.func219 ?_
 have hS := sBool_pure b
 (repeat (first|with_reducible refine wV fun _=>?_|simp [go_sem]))
 refine ACallP.plain hS (by simp [go_sem]) ?_
 (repeat (first|with_reducible refine wV fun _=>?_|simp [go_sem]))
theorem strGo_toList : ∀ (l : List Int) (r : ByteArray), (l.foldl (fun r n => r.push (UInt8.ofNat n.toNat)) r).data.toList = r.data.toList ++ l.map fun n => UInt8.ofNat n.toNat
 | [], r => by simp
 | n :: l, r => by
  rw [List.foldl_cons, strGo_toList l]
  simp [ByteArray.push]
theorem strOf_toList (l : List Int) : (strOf l).data.toList = l.map fun n => UInt8.ofNat n.toNat := by
 unfold strOf; rw [strGo_toList]; rfl
theorem strOf_size (l : List Int) : (strOf l).size = l.length := by
 rw [← ByteArray.size_data, ← Array.length_toList, strOf_toList, List.length_map]
def keyS (s : StD) : ByteArray := digit s.kind ++ strOf [32] ++ digit s.cursor ++ strOf [32] ++ (if s.took then strOf [116, 114, 117, 101] else strOf [102, 97, 108, 115, 101]) ++ strOf [32] ++ keyP s.p
theorem key_pure (s : StD) (hk : 0 ≤ s.kind ∧ s.kind < 10) (hc : 0 ≤ s.cursor ∧ s.cursor < 10) (h1 : s.p.at_.length ≤ 100) (h2 : s.p.h0.length ≤ 100) (h3 : s.p.h1.length ≤ 100) (hv : ∀ x ∈ allP s.p, 0 ≤ x ∧ x ≤ 255) :
  Pure Tryz.prog 173 [.agg (encState s)] (.v (.string (keyS s))) := by
 refine pF Tryz.func173 ?_
 have hK := Itoa_pure s.kind hk.1 hk.2
 have hC := Itoa_pure s.cursor hc.1 hc.2
 have hB := Bool_pure s.took
 have hP := Key_pure s.p h1 h2 h3 hv
 have hdk : (digit s.kind).size = 1 := strOf_size _
 have hdc : (digit s.cursor).size = 1 := strOf_size _
 have hdb : (if s.took then strOf [116, 114, 117, 101] else strOf [102, 97, 108, 115, 101]).size ≤ 5 := by split <;> simp [strOf_size]
 have hdp : (keyP s.p).size ≤ 302 := by unfold keyP; rw [strOf_size]; simp [allP]; omega
 have h32 : (ByteArray.mk ⟨[32]⟩).size = 1 := rfl
 unfold keyS
 rw [show strOf [32] = ByteArray.mk ⟨[32]⟩ from rfl]
 generalize digit s.kind = dk at *
 generalize digit s.cursor = dc at *
 generalize (if s.took then strOf [116, 114, 117, 101] else strOf [102, 97, 108, 115, 101]) = db at *
 generalize keyP s.p = dp at *
 generalize ByteArray.mk ⟨[32]⟩ = sp at *
 (repeat (first|with_reducible refine wV fun _=>?_|simp [go_sem]))
 refine dCall.plain hK (by simp [go_sem]) ?_
 (repeat (first|with_reducible refine wV fun _=>?_|simp [go_sem]))
 refine dCall.plain hC (by simp [go_sem]) ?_
 (repeat (first|with_reducible refine wV fun _=>?_|simp [go_sem]))
 refine dCall.plain hB (by simp [go_sem]) ?_
 (repeat (first|with_reducible refine wV fun _=>?_|simp [go_sem]))
 refine dCall.plain hP (by simp [go_sem]) ?_
 (repeat (first|with_reducible refine wV fun _=>?_|simp [go_sem]))
end Go.Av
end
