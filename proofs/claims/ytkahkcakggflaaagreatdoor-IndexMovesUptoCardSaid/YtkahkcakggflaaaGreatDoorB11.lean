/- Texts of ours, part 11: our library and contracts of functions. -/
import Derived.Test.YtkahkcakggflaaaGreatDoorB10
import GoSem.ClaimJoined
import Derived.Test.YtkahkcakggflaaaGreatDoorCards
import Derived.Test.YtkahkcakggflaaaGreatDoorTie
import Derived.Deep.DeepHandedRow
import Derived.LaidHandle
import Derived.LaidMore
set_option linter.unusedSimpArgs false
set_option linter.unusedVariables false
set_option maxRecDepth 100000
set_option maxHeartbeats 40000000
section
/- Contracts: play.conditions, play.ended. -/
open Go Go.Proofs
namespace Go.Av
theorem menP_le {g : GameD} (hg : GOk g) {p : PosD} (hp : POk g p) (s k : Int) : menP p s k ≤ 9 := Nat.le_trans List.countP_le_length (by have := hg.c9; have := hp.al; omega)
theorem countsP_len (g : GameD) (p : PosD) (side : Int) : (countsP g p side).length = g.kinds.length := cntL_len _ _ _ _
theorem one_kind (m : Int) (s side : Int) : ∀ K : Nat, 0 ≤ m → ((List.range K).map fun (k : Nat) => if (decide (0 ≤ m) && decide (s = side) && (decide ((k : Int) < 0) || decide (m = k))) = true then (1 : Nat) else 0).sum = if m < K ∧ s = side then 1 else 0
 | 0, h => by simp; omega
 | K + 1, h => by
  rw [List.range_succ, List.map_append, List.sum_append, one_kind m s side K h]
  have e : (if (decide (0 ≤ m) && decide (s = side) && (decide ((K : Int) < 0) || decide (m = K))) = true then (1 : Nat) else 0) = if s = side ∧ m = K then 1 else 0 := by
   have : ¬ (K : Int) < 0 := by omega
   simp [h, this]
  simp only [List.map_cons, List.map_nil, List.sum_cons, List.sum_nil, e, Nat.add_zero]
  by_cases hs : s = side
  ·by_cases h1 : m < K
   ·rw [if_pos ⟨h1, hs⟩, if_neg (by omega), if_pos ⟨by omega, hs⟩]
   ·by_cases h2 : m = K
    ·rw [if_neg (by omega), if_pos ⟨hs, h2⟩, if_pos ⟨by omega, hs⟩, Nat.zero_add]
    ·rw [if_neg (by omega), if_neg (by omega), if_neg (by omega)]
  ·rw [if_neg (by simp [hs]), if_neg (by simp [hs]), if_neg (by simp [hs])]
theorem sum_zero : ∀ l : List Nat, (l.map fun _ => 0).sum = 0
 | [] => rfl
 | _ :: l => by simp [sum_zero l]
theorem sum_add (f h : Nat → Nat) : ∀ l : List Nat, (l.map fun k => f k + h k).sum = (l.map f).sum + (l.map h).sum
 | [] => rfl
 | k :: l => by simp [sum_add f h l]; omega
theorem men_sum {K : Nat} (hK : K ≤ 6) (side : Int) : ∀ l : List Int, (∀ c ∈ l, 0 ≤ c ∧ c ≤ 2 * K) →
  ((List.range K).map fun (k : Nat) => l.countP fun c => decide (0 ≤ (manOf c).1) && decide ((manOf c).2 = side) && (decide ((k : Int) < 0) || decide ((manOf c).1 = k))).sum =
   l.countP fun c => decide (0 ≤ (manOf c).1) && decide ((manOf c).2 = side) && (decide ((-1 : Int) < 0) || decide ((manOf c).1 = -1))
 | [], _ => by simp [sum_zero]
 | c :: l, h => by
  have ih := men_sum hK side l (fun x hx => h x (by simp [hx]))
  simp only [List.countP_cons]
  rw [sum_add, ih]
  congr 1
  have hc := h c (by simp)
  rcases manOf_cases hc.1 hc.2 hK with ⟨h0, hm⟩ | ⟨h0, hm0, hmk, hms, he⟩
  ·rw [hm]; simp [sum_zero]
  ·rw [one_kind _ _ _ _ hm0]
   by_cases hs : (manOf c).2 = side
   ·simp [hs, hm0, hmk]
   ·simp [hs]
theorem men_all {g : GameD} (hg : GOk g) {p : PosD} (hp : POk g p) (side : Int) : ((List.range g.kinds.length).map fun (k : Nat) => menP p side k).sum = menP p side (-1) :=
 men_sum hg.k6 side p.at_ hp.av
section
variable (g : GameD) (hg : GOk g) (p : PosD) (hp : POk g p) (c : Int × Int × Int × Int) (hc : ClauseOk g.cells g.kinds.length c)
theorem cond1_pure (hg : GOk g) (hp : POk g p) (hc : ClauseOk g.cells g.kinds.length c) (h1 : c.1 = 1) : Pure Tryz.prog 328 [.agg (encGame g), .agg (encPos p), .agg (encClause c)] (.v (.bool (condP c p))) := by
 refine pF Tryz.func328 ?_
 have hC := Count_pure g hg p hp p.side hp.s
 have hl := countsP_len g p p.side
 have hk := hc.kind
 have hck : c.2.1.toNat < (countsP g p p.side).length := by omega
 have hn := nth_countsP g p p.side (k := c.2.1.toNat) (by omega)
 rw [show ((c.2.1.toNat : Nat) : Int) = c.2.1 by omega] at hn
 have he : condP c p = decide (nth (countsP g p p.side) c.2.1.toNat = 0) := by
  unfold condP; rw [if_pos h1, hn]; simp
 rw [he]
 generalize countsP g p p.side = l at *
 obtain ⟨c0, c1, c2, c3⟩ := c
 simp only at hk hck
 (repeat (first|with_reducible refine wV fun _=>?_|simp [go_sem]))
 refine dCall.plain hC (by simp [go_sem]) ?_
 (repeat (first|with_reducible refine wV fun _=>?_|simp [go_sem, hck]))
theorem cond2_pure (hg : GOk g) (hp : POk g p) (hc : ClauseOk g.cells g.kinds.length c) (h1 : c.1 = 2) : Pure Tryz.prog 330 [.agg (encGame g), .agg (encPos p), .agg (encClause c)] (.v (.bool (condP c p))) := by
 refine pF Tryz.func330 ?_
 have hal := hp.al
 have hps := hp.s
 have hn := hc.n
 have hcd := hn.2.1 h1
 have hci : c.2.2.1.toNat < p.at_.length := by omega
 have he : condP c p = decide (nth p.at_ c.2.2.1.toNat = codeOf c.2.1 (1 - p.side)) := by
  unfold condP; rw [if_neg (by omega), if_pos h1]
 rw [he]
 have hC := gCode_pure c.2.1 (1 - p.side)
 obtain ⟨c0, c1, c2, c3⟩ := c
 simp only at hcd hci hC hn
 generalize codeOf c1 (1 - p.side) = code at *
 (repeat (first|with_reducible refine wV fun _=>?_|simp [go_sem, hci]))
 refine dCall.plain hC (by simp [go_sem]) ?_
 (repeat (first|with_reducible refine wV fun _=>?_|simp [go_sem, hci]))
theorem cond3_pure (hg : GOk g) (hp : POk g p) (hc : ClauseOk g.cells g.kinds.length c) (h1 : c.1 = 3) : Pure Tryz.prog 331 [.agg (encGame g), .agg (encPos p), .agg (encClause c)] (.v (.bool (condP c p))) := by
 refine pF Tryz.func331 ?_
 have hC := Count_pure g hg p hp p.side hp.s
 have hl := countsP_len g p p.side
 have k6 := hg.k6
 have hnn := fun (k : Nat) hk => nth_countsP g p p.side (k := k) hk
 have hle := fun k : Nat => menP_le hg hp p.side k
 have hall := men_all hg hp p.side
 obtain ⟨S, hS⟩ : ∃ S : Nat → Nat, S = fun i => ((List.range i).map fun (k : Nat) => menP p p.side k).sum := ⟨_, rfl⟩
 have hS0 : S 0 = 0 := by rw [hS]; rfl
 have hSs : ∀ i, S (i + 1) = S i + menP p p.side i := fun i => by rw [hS]; simp [List.range_succ]
 have hSK : S g.kinds.length = menP p p.side (-1) := by rw [hS]; exact hall
 have hSb : ∀ i, S i ≤ 9 * i := fun i => by
  induction i with
  | zero => omega
  | succ i ih => rw [hSs]; have := hle i; omega
 have he : condP c p = decide ((S g.kinds.length : Int) ≤ c.2.2.1) := by
  unfold condP; rw [if_neg (by omega), if_neg (by omega), hSK]
 rw [he]
 clear hS
 generalize countsP g p p.side = l at *
 obtain ⟨c0, c1, c2, c3⟩ := c
 (repeat (first|with_reducible refine wV fun _=>?_|simp [go_sem]))
 refine ACallP.plain hC (by simp [go_sem]) ?_
 (repeat (first|with_reducible refine wV fun _=>?_|simp [go_sem]))
 refine ALoop.start (ALoop.ind (α := Nat) (fun i => ⟨[(5, .ref 2 0 4 0 0), (7, .v (.int .i64 (S i))), (14, encIs l), (15, .v (.int .i64 l.length)), (16, .v (.int .i64 i))], [(2, .rows true 0 4 [encClause (c0, c1, c2, c3)])], 3⟩)
  (fun d i => i + d = l.length) ?_ l.length 0 ?_) ?_ ?_
 ·rintro d i i1 hrec
  (repeat (first|with_reducible refine wV fun _=>?_|simp [go_sem]))
  refine aIf.mkL (fun hi => ?_) (fun hi => ?_) <;> simp at hi
  ·have h2 := hnn i (by omega)
   have h3 := hle i
   have h4 := hSb i
   have h5 := hSs i
   (repeat (first|with_reducible refine wV fun _=>?_|simp [go_sem, hi]))
   refine ALoop.start (hrec (d - 1) (by omega) (i + 1) (by omega)) ?_ (by simp)
   simp [go_sem, Wk_eq, h5, h2]
  ·have e : i = l.length := by omega
   subst e
   rw [hl]
   (repeat (first|with_reducible refine wV fun _=>?_|simp [go_sem]))
 ·omega
 ·simp [go_sem, Wk_eq, hS0]
 ·simp
end
def endedV (g : GameD) (p : PosD) : Int × Bool := if 0 ≤ endedP g p then ((nth g.clauses (endedP g p).toNat).2.2.2, true) else (0, false)
theorem glb_cond : glbs.lookup 0 = some [.v .nilFunc, .fn (.func 328) [] [], .fn (.func 330) [] [], .fn (.func 331) [] []] := rfl
theorem ended_pure (g : GameD) (hg : GOk g) (p : PosD) (hp : POk g p) : Pure Tryz.prog 74 [.agg (encGame g), .agg (encPos p)] (.tup [.v (.int .i64 (endedV g p).1), .v (.bool (endedV g p).2)]) := by
 refine pF Tryz.func74 ?_
 have hcn := hg.cn
 (repeat (first|with_reducible refine wV fun _=>?_|simp [go_sem]))
 refine ALoop.start (ALoop.ind (α := Nat) (fun i => ⟨[(2, .ref 0 0 9 0 0), (3, .ref 1 0 5 0 0), (9, .lst 4 (g.clauses.map encClause)), (10, .v (.int .i64 g.clauses.length)), (11, .v (.int .i64 i))], [(0, .rows true 0 9 [encGame g]), (1, .rows true 0 5 [encPos p])], 2⟩)
  (fun d i => i + d = g.clauses.length ∧ ∀ j, j < i → condP (nth g.clauses j) p = false) ?_ g.clauses.length 0 ?_) ?_ ?_
 ·rintro d i ⟨i1, i2⟩ hrec
  (repeat (first|with_reducible refine wV fun _=>?_|simp [go_sem]))
  refine aIf.mkL (fun hi => ?_) (fun hi => ?_) <;> simp at hi
  ·have hcl := hg.cl _ (nth_mem hi)
   have hfi : condP (nth g.clauses i) p = true → endedV g p = ((nth g.clauses i).2.2.2, true) := fun hc => by
    have he : endedP g p = i := by unfold endedP; rw [findIdx_some (fun c => condP c p) g.clauses hi i2 hc]
    unfold endedV
    rw [he, if_pos (by omega)]; simp
   have h1 := cond1_pure g p _ hg hp hcl
   have h2 := cond2_pure g p _ hg hp hcl
   have h3 := cond3_pure g p _ hg hp hcl
   have hcond := hcl.cond
   obtain ⟨c, hcc⟩ : ∃ c, c = nth g.clauses i := ⟨_, rfl⟩
   rw [← hcc] at hfi h1 h2 h3 hcond
   have fin : ∀ b, condP c p = b → b = false → ∀ j, j < i + 1 → condP (nth g.clauses j) p = false := by
    intro b hb hf j hj
    rcases Nat.lt_or_ge j i with h | h
    ·exact i2 j h
    ·obtain rfl : j = i := by omega
     rw [← hcc, hb, hf]
   obtain ⟨c0, c1, c2, c3⟩ := c
   generalize hcb : condP (c0, c1, c2, c3) p = b at *
   simp only at hcond hfi
   rcases hcond with rfl | rfl | rfl
   ·have hC := h1 rfl
    (repeat (first|with_reducible refine wV fun _=>?_|simp [go_sem, hi, ← hcc, glb_cond]))
    refine dCall.plain hC (by simp [go_sem]) ?_
    (repeat (first|with_reducible refine wV fun _=>?_|simp [go_sem]))
    cases b
    ·(repeat (first|with_reducible refine wV fun _=>?_|simp [go_sem]))
     refine ALoop.start (hrec (d - 1) (by omega) (i + 1) ⟨by omega, fin _ rfl rfl⟩) ?_ (by simp)
     simp [go_sem, Wk_eq]
    ·rw [hfi rfl]
     (repeat (first|with_reducible refine wV fun _=>?_|simp [go_sem]))
   ·have hC := h2 rfl
    (repeat (first|with_reducible refine wV fun _=>?_|simp [go_sem, hi, ← hcc, glb_cond]))
    refine dCall.plain hC (by simp [go_sem]) ?_
    (repeat (first|with_reducible refine wV fun _=>?_|simp [go_sem]))
    cases b
    ·(repeat (first|with_reducible refine wV fun _=>?_|simp [go_sem]))
     refine ALoop.start (hrec (d - 1) (by omega) (i + 1) ⟨by omega, fin _ rfl rfl⟩) ?_ (by simp)
     simp [go_sem, Wk_eq]
    ·rw [hfi rfl]
     (repeat (first|with_reducible refine wV fun _=>?_|simp [go_sem]))
   ·have hC := h3 rfl
    (repeat (first|with_reducible refine wV fun _=>?_|simp [go_sem, hi, ← hcc, glb_cond]))
    refine dCall.plain hC (by simp [go_sem]) ?_
    (repeat (first|with_reducible refine wV fun _=>?_|simp [go_sem]))
    cases b
    ·(repeat (first|with_reducible refine wV fun _=>?_|simp [go_sem]))
     refine ALoop.start (hrec (d - 1) (by omega) (i + 1) ⟨by omega, fin _ rfl rfl⟩) ?_ (by simp)
     simp [go_sem, Wk_eq]
    ·rw [hfi rfl]
     (repeat (first|with_reducible refine wV fun _=>?_|simp [go_sem]))
  ·have he : endedP g p = -1 := by unfold endedP; rw [findIdx_none (fun c => condP c p) g.clauses (fun j hj => i2 j (by omega))]
   have he' : endedV g p = (0, false) := by unfold endedV; rw [he]; rfl
   rw [he']
   (repeat (first|with_reducible refine wV fun _=>?_|simp [go_sem]))
 ·exact ⟨by simp, fun j hj => by omega⟩
 ·simp [go_sem, Wk_eq]
 ·simp
end Go.Av
end
section
/- Contracts, moves: Outcomes, Moves of the reference. -/
open Go Go.Proofs
namespace Go.Av
def outsK (g : GameD) (p : PosD) (c : Nat) : List OutD := (List.range c).flatMap (outsAt g p)
theorem outsK_succ (g : GameD) (p : PosD) (c : Nat) : outsK g p (c + 1) = outsK g p c ++ outsAt g p c := by simp [outsK, List.range_succ, List.flatMap_append]
theorem outsK_zero (g : GameD) (p : PosD) : outsK g p 0 = [] := rfl
def outsI (g : GameD) (p : PosD) (c i : Nat) : List OutD := outsK g p c ++ (List.range i).flatMap fun (i : Nat) => runsP g p c i
theorem outsI_zero (g : GameD) (p : PosD) (c : Nat) : outsI g p c 0 = outsK g p c := by simp [outsI]
theorem outsI_succ (g : GameD) (p : PosD) (c i : Nat) : outsI g p c (i + 1) = outsI g p c i ++ runsP g p c i := by simp [outsI, List.range_succ, List.flatMap_append]
theorem R6Outcomes_pure (g : GameD) (hg : GOk g) (p : PosD) (hp : POk g p) : Pure Tryz.prog 194 [.agg (encGame g), .agg (encPos p)] (encOs (outsP g p)) := by
 refine pF Tryz.func194 ?_
 have hal := hp.al
 have c9 := hg.c9
 have k6 := hg.k6
 have hU : ∀ c i, c < p.at_.length → 0 ≤ (manOf (nth p.at_ c)).1 ∧ (manOf (nth p.at_ c)).2 = p.side → i ≤ (nth g.kinds (manOf (nth p.at_ c)).1.toNat).progs.length → (outsI g p c i).length ≤ 8000000000 := fun c i hc hm hi => by
  have h1 : (outsK g p c).length ≤ 7200000000 := outsK_len hg hp (by omega)
  have hk := kind_lt hg hp (cell := c) (by omega) (by omega) (by simpa using hm.1)
  simp only [Int.toNat_natCast] at hk
  have h8 := hg.pn _ (nth_mem hk)
  have h2 := flatMap_range_le (fun (i : Nat) => runsP g p c i) 100000000 i (fun j hj => runsP_len hg hp (choice_of hp hc hm (by omega)))
  have h3 : i * 100000000 ≤ 8 * 100000000 := Nat.mul_le_mul_right _ (by omega)
  simp only [outsI, List.length_append]
  omega
 (repeat (first|with_reducible refine wV fun _=>?_|simp [go_sem]))
 refine ALoop.start (ALoop.ind (α := Nat × Nat) (fun a => ⟨[(2, .ref 0 0 9 0 0), (3, .ref 1 0 5 0 0), (5, .sl 2 a.2 6 0 (outsK g p a.1).length), (6, .v (.int .i64 a.1))], [(0, .rows true 0 9 [encGame g]), (1, .rows true 0 5 [encPos p]), (2, .rows true a.2 6 ((outsK g p a.1).map encOut))], 3⟩)
  (fun d a => a.1 + d = p.at_.length) ?_ p.at_.length (0, 0) ?_) ?_ ?_
 ·rintro d ⟨c, G⟩ c1 hrec
  simp only at c1
  (repeat (first|with_reducible refine wV fun _=>?_|simp [go_sem]))
  refine aIf.mkL (fun hc => ?_) (fun hc => ?_) <;> simp at hc
  ·have hO := R3Of_pure (nth p.at_ c)
   have hsu := outsK_succ g p c
   have hat := hp.at (i := c) (by omega)
   have hman := manOf_cases hat.1 hat.2 hg.k6
   have hAt : outsAt g p c = if 0 ≤ (manOf (nth p.at_ c)).1 ∧ (manOf (nth p.at_ c)).2 = p.side then (List.range (nth g.kinds (manOf (nth p.at_ c)).1.toNat).progs.length).flatMap fun (i : Nat) => runsP g p c i else [] := rfl
   have hU' := fun i => hU c i hc
   have hCh := fun i => choice_of (g := g) (i := i) hp hc
   generalize manOf (nth p.at_ c) = m at *
   obtain ⟨mk, ms⟩ := m
   simp only [Prod.mk.injEq] at hman hAt hU' hCh
   (repeat (first|with_reducible refine wV fun _=>?_|simp [go_sem, hc]))
   refine ACallP.plain hO (by simp [go_sem]) ?_
   (repeat (first|with_reducible refine wV fun _=>?_|simp [go_sem]))
   refine aIf.mkL (fun hm => ?_) (fun hm => ?_) <;> simp at hm
   ·rw [if_neg (by omega)] at hAt
    rw [hAt, List.append_nil] at hsu
    (repeat (first|with_reducible refine wV fun _=>?_|simp [go_sem]))
    refine ALoop.start (hrec (d - 1) (by omega) (c + 1, G) (by simp only; omega)) ?_ (by simp)
    simp [go_sem, Wk_eq, hsu]
   ·have hm' : 0 ≤ mk ∧ ms = p.side := by omega
    rw [if_pos hm'] at hAt
    have hkl : mk.toNat < g.kinds.length := by omega
    have hpn := hg.pn _ (nth_mem hkl)
    have hz := outsI_zero g p c
    (repeat (first|with_reducible refine wV fun _=>?_|simp [go_sem]))
    refine ALoop.start (ALoop.ind (α := Nat × Nat) (fun a => ⟨[(2, .ref 0 0 9 0 0), (3, .ref 1 0 5 0 0), (5, .sl 2 a.2 6 0 (outsI g p c a.1).length), (6, .v (.int .i64 c)), (7, .ref 3 0 2 0 0), (8, .v (.int .i64 a.1))],
      [(0, .rows true 0 9 [encGame g]), (1, .rows true 0 5 [encPos p]), (2, .rows true a.2 6 ((outsI g p c a.1).map encOut)), (3, .rows true 0 2 [[.v (.int .i64 mk), .v (.int .i64 ms)]])], 4⟩)
     (fun d a => a.1 + d = (nth g.kinds mk.toNat).progs.length) ?_ (nth g.kinds mk.toNat).progs.length (0, G) ?_) ?_ ?_
    ·rintro d2 ⟨i, G'⟩ i1 hrec2
     simp only at i1
     (repeat (first|with_reducible refine wV fun _=>?_|simp [go_sem, hkl]))
     refine aIf.mkL (fun hi => ?_) (fun hi => ?_) <;> simp at hi
     ·have hR := R5Runs_pure g hg p hp c i (hCh i hm' hi)
      have hsi := outsI_succ g p c i
      have hUi := hU' i hm' (by omega)
      have hUj := hU' (i + 1) hm' (by omega)
      rw [hsi, List.length_append] at hUj
      (repeat (first|with_reducible refine wV fun _=>?_|simp [go_sem]))
      refine ACallP.plain hR (by simp [go_sem]) ?_
      (repeat (first|with_reducible refine wV fun _=>?_|simp [go_sem]))
      refine ALoop.start (hrec2 (d2 - 1) (by omega) (i + 1, G' + 1) (by simp only; omega)) ?_ (by simp)
      simp [go_sem, Wk_eq, hsi]
     ·have hil : i = (nth g.kinds mk.toNat).progs.length := by omega
      subst hil
      have hfin : outsI g p c (nth g.kinds mk.toNat).progs.length = outsK g p (c + 1) := by rw [hsu, hAt]; rfl
      rw [hfin]
      (repeat (first|with_reducible refine wV fun _=>?_|simp [go_sem]))
      refine ALoop.start (hrec (d - 1) (by omega) (c + 1, G') (by simp only; omega)) ?_ (by simp)
      simp [go_sem, Wk_eq]
    ·simp
    ·simp [go_sem, Wk_eq, hz]
    ·simp
  ·have hcl : c = p.at_.length := by omega
   subst hcl
   have e : outsP g p = outsK g p p.at_.length := rfl
   rw [e]
   (repeat (first|with_reducible refine wV fun _=>?_|simp [go_sem]))
   exact frX
 ·simp
 ·simp [go_sem, Wk_eq, outsK_zero]
 ·simp
end Go.Av
end
section
/- Contracts: play.outcomes. -/
open Go Go.Proofs
namespace Go.Av
def rowO (o : OutD) : List AV := [.agg (encOut o)]
theorem drop_range {n j : Nat} (h : j < n) : (List.range n).drop j = j :: (List.range n).drop (j + 1) := by
 rw [List.drop_eq_getElem_cons (by simpa using h)]; simp
theorem outsF_seq (g : GameD) (hg : GOk g) (p : PosD) (hp : POk g p) : PSeq Tryz.prog 137 [.fp (encPos p), .fp (encGame g)] 0 ((outsP g p).map rowO) := by
 refine PSeq.of_awp (by kernel_rfl) Tryz.func137 rfl rfl (Nat.le_of_ble_eq_true rfl) (by kernel_rfl) (fun l => ?_) (hm2 := by decide)
 have hal := hp.al
 have c9 := hg.c9
 have k6 := hg.k6
 have hgb : ∀ (n : Nat) (L : List OutD), Bel n (ghost l 0 (L.map rowO)) := fun n L => by
  simp only [ghost, Bel_gd, Bel_tup, List.forall_mem_cons, Bel_v, Bel_lst]
  simp [go_sem, rowO]
 obtain ⟨oF, hoF⟩ : ∃ oF : Nat → List OutD, oF = fun j => ((List.range p.at_.length).drop j).flatMap (outsAt g p) := ⟨_, rfl⟩
 have ho0 : outsP g p = oF 0 := by rw [hoF]; rfl
 have hos : ∀ j, j < p.at_.length → oF j = outsAt g p j ++ oF (j + 1) := fun j hj => by rw [hoF]; simp only; rw [drop_range hj, List.flatMap_cons]
 have hon : oF p.at_.length = [] := by rw [hoF]; simp only; rw [List.drop_eq_nil_of_le (by simp)]; rfl
 rw [ho0]
 clear hoF ho0
 (repeat (first|with_reducible refine wV fun _=>?_|simp [go_sem, GH]))
 refine ALoop.start (ALoop.ind (α := Nat) (fun j => ⟨[(0, .fn (.yield l) [] []), (1, .fp (encPos p)), (2, .fp (encGame g)), (14, encIs p.at_), (15, .v (.int .i64 p.at_.length)), (16, .v (.int .i64 j)), (1000000007, ghost l 0 ((oF j).map rowO))], [], 0⟩)
  (fun d j => j + d = p.at_.length) ?_ p.at_.length 0 ?_) ?_ ?_
 ·rintro d j j1 hrec
  (repeat (first|with_reducible refine wV fun _=>?_|simp [go_sem, GH]))
  refine aIf.mkL (fun hj => ?_) (fun hj => ?_) <;> simp at hj
  ·have hat := hp.at (i := j) (by omega)
   have hman := manOf_cases hat.1 hat.2 hg.k6
   have hO := gMan_pure (nth p.at_ j)
   have hoj := hos j hj
   have hoa : outsAt g p j = if 0 ≤ (manOf (nth p.at_ j)).1 ∧ (manOf (nth p.at_ j)).2 = p.side then (List.range (nth g.kinds (manOf (nth p.at_ j)).1.toNat).progs.length).flatMap fun (i : Nat) => runsP g p j i else [] := rfl
   have hrp : ∀ i : Nat, i < (nth g.kinds (manOf (nth p.at_ j)).1.toNat).progs.length → 0 ≤ (manOf (nth p.at_ j)).1 → (manOf (nth p.at_ j)).2 = p.side → ChoiceOk g p j i := fun i hi h1 h2 =>
    ⟨by omega, by omega, h1, h2, by omega, by simpa using hi⟩
   have hRun : ∀ i : Nat, i < (nth g.kinds (manOf (nth p.at_ j)).1.toNat).progs.length → 0 ≤ (manOf (nth p.at_ j)).1 → (manOf (nth p.at_ j)).2 = p.side → _ := fun i hi h1 h2 => rRuns_pure g hg p hp j i (hrp i hi h1 h2)
   have hrl := fun (i : Nat) hi h1 h2 => runsP_len hg hp (hrp i hi h1 h2)
   clear hrp
   generalize manOf (nth p.at_ j) = m at *
   obtain ⟨mk, ms⟩ := m
   simp only at hoa hRun hman hO hrl
   (repeat (first|with_reducible refine wV fun _=>?_|simp [go_sem, hj, GH]))
   refine ACallP.plain hO (by simp [go_sem]) ?_
   (repeat (first|with_reducible refine wV fun _=>?_|simp [go_sem, GH]))
   refine aIf.mkL (fun hc => ?_) (fun hc => ?_) <;> simp at hc
   ·have hz : outsAt g p j = [] := by rw [hoa, if_neg (by omega)]
    rw [hz, List.nil_append] at hoj
    rw [hoj]
    (repeat (first|with_reducible refine wV fun _=>?_|simp [go_sem, GH]))
    refine ALoop.start (hrec (d - 1) (by omega) (j + 1) (by omega)) ?_ (by simp)
    simp [go_sem, Wk_eq, hgb, GH]
   ·rw [if_pos (by omega)] at hoa
    have hmk : mk.toNat < g.kinds.length := by
     simp only [Prod.mk.injEq] at hman
     omega
    have hn8 := hg.pn _ (nth_mem hmk)
    obtain ⟨np, hnp⟩ : ∃ np, np = (nth g.kinds mk.toNat).progs.length := ⟨_, rfl⟩
    rw [← hnp] at hoa hRun hn8 hrl
    obtain ⟨pF, hpF⟩ : ∃ pF : Nat → List OutD, pF = fun i => ((List.range np).drop i).flatMap (fun (i : Nat) => runsP g p j i) ++ oF (j + 1) := ⟨_, rfl⟩
    have hp0 : oF j = pF 0 := by rw [hpF, hoj, hoa]; rfl
    have hps : ∀ i, i < np → pF i = runsP g p j i ++ pF (i + 1) := fun i hi => by rw [hpF]; simp only; rw [drop_range hi, List.flatMap_cons, List.append_assoc]
    have hpn : pF np = oF (j + 1) := by rw [hpF]; simp only; rw [List.drop_eq_nil_of_le (by simp)]; rfl
    rw [hp0]
    clear hpF hp0 hoa hoj
    (repeat (first|with_reducible refine wV fun _=>?_|simp [go_sem, GH, hmk, ← hnp]))
    refine ALoop.start (ALoop.ind (α := Nat) (fun i => ⟨[(0, .fn (.yield l) [] []), (1, .fp (encPos p)), (2, .fp (encGame g)), (4, .v (.int .i64 j)), (14, encIs p.at_), (15, .v (.int .i64 p.at_.length)), (16, .v (.int .i64 j)), (40, .v (.int .i64 np)), (41, .v (.int .i64 i)), (1000000007, ghost l 0 ((pF i).map rowO))], [], 0⟩)
     (fun d i => i + d = np) ?_ np 0 ?_) ?_ ?_
    ·rintro d2 i i1 hrec2
     (repeat (first|with_reducible refine wV fun _=>?_|simp [go_sem, GH]))
     refine aIf.mkL (fun hi => ?_) (fun hi => ?_) <;> simp at hi
     ·have hR := hRun i hi (by omega) (by omega)
      have hpi := hps i hi
      obtain ⟨rs, hrs⟩ : ∃ rs, rs = runsP g p j i := ⟨_, rfl⟩
      have hrl' := hrl i hi (by omega) (by omega)
      rw [← hrs] at hR hpi hrl'
      obtain ⟨rF, hrF⟩ : ∃ rF : Nat → List OutD, rF = fun t => rs.drop t ++ pF (i + 1) := ⟨_, rfl⟩
      have hr0 : pF i = rF 0 := by rw [hrF, hpi]; rfl
      have hrt : ∀ t, t < rs.length → rF t = nth rs t :: rF (t + 1) := fun t ht => by rw [hrF]; simp only; rw [dropG_cons ht]; rfl
      have hrn : rF rs.length = pF (i + 1) := by rw [hrF]; simp
      rw [hr0]
      clear hrF hr0
      (repeat (first|with_reducible refine wV fun _=>?_|simp [go_sem, GH]))
      refine ACallP.plain hR (by simp [go_sem]) ?_
      (repeat (first|with_reducible refine wV fun _=>?_|simp [go_sem, GH]))
      refine ALoop.start (ALoop.ind (α := Nat) (fun t => ⟨[(0, .fn (.yield l) [] []), (1, .fp (encPos p)), (2, .fp (encGame g)), (4, .v (.int .i64 j)), (14, encIs p.at_), (15, .v (.int .i64 p.at_.length)), (16, .v (.int .i64 j)), (40, .v (.int .i64 np)), (41, .v (.int .i64 i)), (52, encOs rs), (53, .v (.int .i64 rs.length)), (54, .v (.int .i64 t)), (1000000007, ghost l 0 ((rF t).map rowO))], [], 0⟩)
       (fun d t => t + d = rs.length) ?_ rs.length 0 ?_) ?_ ?_
      ·rintro d3 t t1 hrec3
       (repeat (first|with_reducible refine wV fun _=>?_|simp [go_sem, GH]))
       refine aIf.mkL (fun ht => ?_) (fun ht => ?_) <;> simp at ht
       ·rw [hrt t ht]
        (repeat (first|with_reducible refine wV fun _=>?_|simp [go_sem, GH, ht]))
        refine aYld.mk (more := 0) (xs := rowO (nth rs t)) (rs := (rF (t + 1)).map rowO) _ (by simp [upd, GH]) (.refl _) (.refl _ _ _ _) (by simp [go_sem, rowO]) ?_ ?_
        ·(repeat (first|with_reducible refine wV fun _=>?_|simp [go_sem, GH]))
         refine ALoop.start (hrec3 (d3 - 1) (by omega) (t + 1) (by omega)) ?_ (by simp)
         simp [go_sem, Wk_eq, hgb, GH]
        ·(repeat (first|with_reducible refine wV fun _=>?_|simp [go_sem, GH]))
       ·have e : t = rs.length := by omega
        subst e
        rw [hrn]
        (repeat (first|with_reducible refine wV fun _=>?_|simp [go_sem, GH]))
        refine ALoop.start (hrec2 (d2 - 1) (by omega) (i + 1) (by omega)) ?_ (by simp)
        simp [go_sem, Wk_eq, hgb, GH]
      ·omega
      ·simp [go_sem, Wk_eq, hgb, GH]
      ·simp
     ·have e : i = np := by omega
      subst e
      rw [hpn]
      (repeat (first|with_reducible refine wV fun _=>?_|simp [go_sem, GH]))
      refine ALoop.start (hrec (d - 1) (by omega) (j + 1) (by omega)) ?_ (by simp)
      simp [go_sem, Wk_eq, hgb, GH]
    ·omega
    ·simp [go_sem, Wk_eq, hgb, GH]
    ·simp
  ·have e : j = p.at_.length := by omega
   subst e
   rw [hon]
   (repeat (first|with_reducible refine wV fun _=>?_|simp [go_sem, GH]))
 ·omega
 ·simp [go_sem, Wk_eq, hgb, GH]
 ·simp
end Go.Av
end
section
/- Contracts: play.Moves. -/
open Go Go.Proofs
namespace Go.Av
def outsR (n : Nat) : AV := .fn (.func 137) [] [.ref (n + 1) 0 5 0 0, .ref n 0 9 0 0]
def outsH (g : GameD) (p : PosD) (n : Nat) : List (Nat × AObj) := [(n, .rows true 0 9 [encGame g]), (n + 1, .rows true 0 5 [encPos p])]
theorem outcomes_owns (g : GameD) (p : PosD) : Owns Tryz.prog 75 [.agg (encGame g), .agg (encPos p)] outsR (outsH g p) 2 := by
 refine ⟨?_, fun n => ⟨by simp [go_sem, outsR], by simp [go_sem, outsH]⟩⟩
 refine ACallP.of_awp (by kernel_rfl) Tryz.func75 rfl rfl (Nat.le_of_ble_eq_true rfl) (by kernel_rfl) ?_
 (repeat (first|with_reducible refine wV fun _=>?_|simp [go_sem, outsR, outsH]))
 simp [go_sem, Wk_eq]
theorem endedV_2 (g : GameD) (p : PosD) : (endedV g p).2 = decide (0 ≤ endedP g p) := by
 unfold endedV; split <;> simp_all
theorem any_len {α : Type} (f : α → Bool) : ∀ l : List α, l.any f = decide (0 < (l.filter f).length)
 | [] => rfl
 | x :: l => by cases h : f x <;> simp [h, any_len f l]
theorem Moves_pure (g : GameD) (hg : GOk g) (p : PosD) (hp : POk g p) : Pure Tryz.prog 24 [.agg (encGame g), .agg (encPos p)] (encPs (movesP g p)) := by
 refine pF Tryz.func24 ?_
 have hE := ended_pure g hg p hp
 have hD := rDrops_pure g hg p hp
 have hdl := dropsP_len hg hp
 have hdo := fun q hq => ((dropsP_ok hg hp) q hq).1.fits hg
 have hol := outsP_len hg hp
 have hoo := fun o ho => ((outsP_ok hg hp) o ho).1.fits hg
 have hS : Owns Tryz.prog 75 [.agg (encGame g), .agg (encPos p)] (fun n => outsR n) (fun n => outsH g p n) 2 := outcomes_owns g p
 have hQ := outsF_seq g hg p hp
 simp only [outsR, outsH] at hS
 have e2 := endedV_2 g p
 have hMv : movesP g p = if 0 ≤ endedP g p then [] else sortU cmpP (movesL g p) := rfl
 have hML : movesL g p = ((outsP g p).filter fun o => !mustP g p || o.took).map (·.pos) ++ (if mustP g p then [] else dropsP g p) := rfl
 have hMu : mustP g p = (g.must && (outsP g p).any (·.took)) := rfl
 rw [e2] at hE
 rw [hMv]
 generalize endedP g p = ep at *
 generalize (endedV g p).1 = ev1 at *
 generalize outsP g p = outs at *
 generalize dropsP g p = drops at *
 generalize mustP g p = must at *
 generalize movesL g p = mvl at *
 clear hMv e2
 (repeat (first|with_reducible refine wV fun _=>?_|simp [go_sem]))
 refine ACallP.plain hE (by simp [go_sem]) ?_
 (repeat (first|with_reducible refine wV fun _=>?_|simp [go_sem]))
 refine aIf.mkL (fun he => ?_) (fun he => ?_) <;> simp at he
 ·rw [if_pos he]
  (repeat (first|with_reducible refine wV fun _=>?_|simp [go_sem]))
 ·rw [if_neg (by omega)]
  (repeat (first|with_reducible refine wV fun _=>?_|simp [go_sem, GH]))
  refine ACallP.ownsPlain hS (by simp [go_sem]) ?_
  (repeat (first|with_reducible refine wV fun _=>?_|simp [go_sem, GH]))
  refine aRange.mk [.fp (encPos p), .fp (encGame g)] (frzO _ [4, 5]) hQ (frz_frzO _ _) ?_ (by simp [go_sem]) (by simp [rowO]) ?_
  ·refine LeRow.cons (.frzP rfl ?_ ?_ ?_ ?_) (LeRow.cons (.frzP rfl ?_ ?_ ?_ ?_) .nil) <;> first | exact LeRow.refl _ _ _ _ | simp [frzO, frz1, upd]
  obtain ⟨al, hal⟩ : ∃ al : Nat → List PosD, al = fun k => (outs.take k).map (·.pos) := ⟨_, rfl⟩
  obtain ⟨tk, htk⟩ : ∃ tk : Nat → List PosD, tk = fun k => ((outs.take k).filter (·.took)).map (·.pos) := ⟨_, rfl⟩
  have hall : ∀ k, (al k).length ≤ 7200000000 := fun k => by rw [hal]; simp; omega
  have htkl : ∀ k, (tk k).length ≤ 7200000000 := fun k => by rw [htk]; simp only [List.length_map]; have := List.length_filter_le (·.took) (outs.take k); simp at this; omega
  have hals : ∀ k, k < outs.length → al (k + 1) = al k ++ [(nth outs k).pos] := fun k hk => by rw [hal]; simp only; rw [List.take_add_one, List.getElem?_eq_getElem hk, nth_eq _ _ hk, Option.toList_some, List.map_append]; rfl
  have htks : ∀ k, k < outs.length → tk (k + 1) = if (nth outs k).took = true then tk k ++ [(nth outs k).pos] else tk k := fun k hk => by
   rw [htk]; simp only; rw [List.take_add_one, List.getElem?_eq_getElem hk, nth_eq _ _ hk, Option.toList_some, List.filter_append]
   cases hq : outs[k].took <;> simp [hq]
  have hal0 : al 0 = [] := by rw [hal]; rfl
  have htk0 : tk 0 = [] := by rw [htk]; rfl
  have halE : al outs.length = outs.map (·.pos) := by rw [hal]; simp
  have htkE : tk outs.length = (outs.filter (·.took)).map (·.pos) := by rw [htk]; simp
  clear hal htk
  refine Fgt.to (ARange.ind (α := Nat) (fun k => ([(2, .ref 0 0 9 0 0), (3, .ref 1 0 5 0 0), (7, .ref 2 0 1 0 0), (8, .ref 3 0 1 0 0)], [(0, .rows true 0 9 [encGame g]), (1, .rows true 0 5 [encPos p]), (2, .rows true 0 1 [[.sl 6 (al k).length 5 0 (al k).length]]), (3, .rows true 0 1 [[.sl 7 (tk k).length 5 0 (tk k).length]]),
    (6, .rows true (al k).length 5 ((al k).map encPos)), (7, .rows true (tk k).length 5 ((tk k).map encPos))], 8))
   (fun rows k => rows = (outs.drop k).map rowO ∧ k ≤ outs.length) ?_ ?_ _ 0 ?_) ?_ ?_
  ·rintro k ⟨i1, i2⟩
   have hk : k = outs.length := by
    have := congrArg List.length i1
    simp at this
    omega
   subst hk
   refine ⟨rfl, ?_⟩
   have hmu : must = (g.must && decide (0 < (tk outs.length).length)) := by
    rw [hMu, htkE, any_len, List.length_map]
   have hft : ∀ q ∈ tk outs.length, FitsP q := fun q hq => by
    rw [htkE] at hq
    obtain ⟨o, ho, rfl⟩ := List.mem_map.1 hq
    exact hoo o (List.mem_filter.1 ho).1
   have hfa : ∀ q ∈ al outs.length, FitsP q := fun q hq => by
    rw [halE] at hq
    obtain ⟨o, ho, rfl⟩ := List.mem_map.1 hq
    exact hoo o ho
   have hla := hall outs.length
   have hlt := htkl outs.length
   by_cases hm : must = true
   ·rw [hm] at hmu hML
    have hgm : g.must = true := by cases h : g.must <;> simp [h] at hmu ⊢
    have hpos : 0 < (tk outs.length).length := by rw [hgm] at hmu; simpa using hmu
    have hpos' : (0 : Int) < (tk outs.length).length := by omega
    have e : mvl = tk outs.length := by rw [hML, htkE]; simp
    rw [e]
    generalize tk outs.length = tks at *
    have hS1 := pSort_pure tks (by omega) hft
    (repeat (first|with_reducible refine wV fun _=>?_|simp [go_sem, GH, ← hmu]))
    refine ACallP.pureF [7] hS1 ?_ (bel1 (bel_encPs _)) ?_
    ·(first|done|exact agX)
    ·(repeat (first|with_reducible refine wV fun _=>?_|simp [go_sem, GH]))
   ·have e : mvl = al outs.length ++ drops := by
     simp only [Bool.not_eq_true] at hm
     rw [hML, hm, halE, List.filter_eq_self.2 (by simp)]; simp
    rw [e]
    have hS1 := pSort_pure (al outs.length ++ drops) (by rw [List.length_append]; omega) (fun q hq => by
     rcases List.mem_append.1 hq with h | h
     ·exact hfa q h
     ·exact hdo q h)
    simp only [Bool.not_eq_true] at hm
    rw [hm] at hmu
    generalize al outs.length = als at *
    generalize tk outs.length = tks at *
    generalize sortU cmpP (als ++ drops) = res at *
    (repeat (first|with_reducible refine wV fun _=>?_|simp [go_sem, GH, ← hmu]))
    refine dCall.plain hD (by simp [go_sem]) ?_
    (repeat (first|with_reducible refine wV fun _=>?_|simp [go_sem, GH]))
    refine dCall.frz [encPs (als ++ drops)] _ [6] [(6, some (.rows false (als.length + 1) 5 ((als ++ drops).map encPos)))] hS1 ?_ ?_ (bel1 (bel_encPs _)) ?_
    ·intro q hq
     simp only [List.mem_singleton] at hq
     subst hq
     exact ⟨by simp, als.length + 1, 5, _, rfl, by simp [upd]⟩
    ·intro h₁ hS
     have h6 := hS 6 (by simp)
     simp [upd] at h6
     exact .cons (leV_frz h6.symm (by simp) (by simp [applyW, upd]) (by simp; exact List.take_of_length_le (by simp))) .nil
    ·(repeat (first|with_reducible refine wV fun _=>?_|simp [go_sem, GH]))
  ·rintro xs rs k ⟨i1, i2⟩ hrec
   have hk : k < outs.length := by
    have := congrArg List.length i1
    simp at this
    omega
   rw [dropG_cons hk, List.map_cons, List.cons.injEq] at i1
   obtain ⟨rfl, rfl⟩ := i1
   have hals := hals k hk
   have htks := htks k hk
   have h1 := hall k
   have h2 := htkl k
   obtain ⟨o, ho⟩ : ∃ o, o = nth outs k := ⟨_, rfl⟩
   rw [← ho] at hals htks ⊢
   obtain ⟨op, ot⟩ := o
   simp only at hals htks
   generalize hrs : (outs.drop (k + 1)).map rowO = rs at *
   refine ARange.go (Nat.zero_le _) ?_
   (repeat (first|with_reducible refine wV fun _=>?_|simp [go_sem, GH, rowO]))
   cases ot
   ·rw [if_neg (by simp)] at htks
    (repeat (first|with_reducible refine wV fun _=>?_|simp [go_sem, GH]))
    refine Fgt.to (hrec (k + 1) ⟨hrs.symm, by omega⟩) ?_ (by simp)
    simp [go_sem, Wk_eq, GH, hals, htks]
   ·rw [if_pos rfl] at htks
    (repeat (first|with_reducible refine wV fun _=>?_|simp [go_sem, GH]))
    refine Fgt.to (hrec (k + 1) ⟨hrs.symm, by omega⟩) ?_ (by simp)
    simp [go_sem, Wk_eq, GH, hals, htks]
  ·exact ⟨rfl, Nat.zero_le _⟩
  ·simp [go_sem, Wk_eq, hal0, htk0]
  ·simp
end Go.Av
end
section
/- Contracts, moves: Moves of the reference. -/
open Go Go.Proofs
namespace Go.Av
def mustK (gm : Bool) (l : List OutD) (i : Nat) : Bool := gm && (l.take i).any (·.took)
theorem mustK_zero (gm : Bool) (l : List OutD) : mustK gm l 0 = false := by simp [mustK]
theorem mustK_succ (gm : Bool) (l : List OutD) {i : Nat} (h : i < l.length) : mustK gm l (i + 1) = (mustK gm l i || (gm && (nth l i).took)) := by
 unfold mustK
 rw [List.take_add_one, List.getElem?_eq_getElem h, nth_eq _ _ h, Option.toList_some, List.any_append]
 simp only [List.any_cons, List.any_nil, Bool.or_false, Bool.and_or_distrib_left]
def keepK (must : Bool) (l : List OutD) (i : Nat) : List PosD := ((l.take i).filter fun o => !must || o.took).map (·.pos)
theorem keepK_zero (must : Bool) (l : List OutD) : keepK must l 0 = [] := by simp [keepK]
theorem keepK_succ (must : Bool) (l : List OutD) {i : Nat} (h : i < l.length) : keepK must l (i + 1) = keepK must l i ++ (if (!must || (nth l i).took) = true then [(nth l i).pos] else []) := by
 unfold keepK
 rw [List.take_add_one, List.getElem?_eq_getElem h, nth_eq _ _ h, Option.toList_some, List.filter_append, List.map_append]
 congr 1
 by_cases hc : (!must || l[i].took) = true <;> simp [hc]
theorem keepK_len (must : Bool) (l : List OutD) (i : Nat) : (keepK must l i).length ≤ i := by
 unfold keepK
 rw [List.length_map]
 refine Nat.le_trans (List.length_filter_le _ _) ?_
 simp; omega
theorem R6Moves_pure (g : GameD) (hg : GOk g) (p : PosD) (hp : POk g p) : Pure Tryz.prog 149 [.agg (encGame g), .agg (encPos p)] (encPs (movesP g p)) := by
 refine pF Tryz.func149 ?_
 have hE := R6Ended_pure g hg p hp
 have hO := R6Outcomes_pure g hg p hp
 have hD := R5Drops_pure g hg p hp
 have hdl := dropsP_len hg hp
 have hol := outsP_len hg hp
 have hS := R4Sort_pure (movesL g p) (by have := movesL_len hg hp; omega) (fun q hq => (movesL_ok hg hp q hq).1.fits hg)
 have hml : movesL g p = keepK (mustP g p) (outsP g p) (outsP g p).length ++ (if mustP g p then [] else dropsP g p) := by unfold movesL keepK; rw [List.take_length]
 have hmu : mustP g p = mustK g.must (outsP g p) (outsP g p).length := by unfold mustP mustK; rw [List.take_length]
 have hmv : movesP g p = if 0 ≤ endedP g p then [] else sortU cmpP (movesL g p) := rfl
 obtain ⟨R, hR⟩ : ∃ R, R = movesP g p := ⟨_, rfl⟩
 rw [← hR] at hmv ⊢
 generalize outsP g p = l at *
 generalize dropsP g p = ds at *
 generalize movesL g p = ml at *
 generalize endedP g p = en at *
 (repeat (first|with_reducible refine wV fun _=>?_|simp [go_sem]))
 refine ACallP.plain hE (by simp [go_sem]) ?_
 (repeat (first|with_reducible refine wV fun _=>?_|simp [go_sem]))
 refine aIf.mkL (fun he => ?_) (fun he => ?_) <;> simp at he
 ·rw [if_pos he] at hmv
  rw [hmv]
  (repeat (first|with_reducible refine wV fun _=>?_|simp [go_sem]))
 ·rw [if_neg (by omega)] at hmv
  (repeat (first|with_reducible refine wV fun _=>?_|simp [go_sem]))
  refine ACallP.plain hO (by simp [go_sem]) ?_
  (repeat (first|with_reducible refine wV fun _=>?_|simp [go_sem]))
  refine ALoop.start (ALoop.ind (α := Nat) (fun i => ⟨[(2, .ref 0 0 9 0 0), (3, .ref 1 0 5 0 0), (5, encOs l), (6, .sl 2 0 5 0 0), (7, .v (.bool (mustK g.must l i))), (8, .v (.int .i64 i))], [(0, .rows true 0 9 [encGame g]), (1, .rows true 0 5 [encPos p]), (2, .rows true 0 5 [])], 3⟩)
   (fun d i => i + d = l.length) ?_ l.length 0 ?_) ?_ ?_
  ·rintro d i i1 hrec
   (repeat (first|with_reducible refine wV fun _=>?_|simp [go_sem]))
   refine aIf.mkL (fun hi => ?_) (fun hi => ?_) <;> simp at hi
   ·have hms := mustK_succ g.must l hi
    cases hmk : mustK g.must l i
    ·rw [hmk, Bool.false_or] at hms
     cases hgm : g.must
     ·rw [hgm, Bool.false_and] at hms
      (repeat (first|with_reducible refine wV fun _=>?_|simp [go_sem, hmk, hgm, hi]))
      refine ALoop.start (hrec (d - 1) (by omega) (i + 1) (by omega)) ?_ (by simp)
      simp [go_sem, Wk_eq, hms, hgm]
     ·rw [hgm, Bool.true_and] at hms
      (repeat (first|with_reducible refine wV fun _=>?_|simp [go_sem, hmk, hgm, hi]))
      refine ALoop.start (hrec (d - 1) (by omega) (i + 1) (by omega)) ?_ (by simp)
      simp [go_sem, Wk_eq, hms, hgm]
    ·rw [hmk, Bool.true_or] at hms
     (repeat (first|with_reducible refine wV fun _=>?_|simp [go_sem, hmk, hi]))
     refine ALoop.start (hrec (d - 1) (by omega) (i + 1) (by omega)) ?_ (by simp)
     simp [go_sem, Wk_eq, hms]
   ·have hil : i = l.length := by omega
    subst hil
    rw [← hmu]
    generalize mustP g p = must at *
    (repeat (first|with_reducible refine wV fun _=>?_|simp [go_sem]))
    refine ALoop.start (ALoop.ind (α := Nat) (fun i => ⟨[(2, .ref 0 0 9 0 0), (3, .ref 1 0 5 0 0), (5, encOs l), (6, .sl 2 (keepK must l i).length 5 0 (keepK must l i).length), (7, .v (.bool must)), (9, .v (.int .i64 i))], [(0, .rows true 0 9 [encGame g]), (1, .rows true 0 5 [encPos p]), (2, .rows true (keepK must l i).length 5 ((keepK must l i).map encPos))], 3⟩)
     (fun d i => i + d = l.length) ?_ l.length 0 ?_) ?_ ?_
    ·rintro d i i1 hrec2
     (repeat (first|with_reducible refine wV fun _=>?_|simp [go_sem]))
     refine aIf.mkL (fun hi => ?_) (fun hi => ?_) <;> simp at hi
     ·have hks := keepK_succ must l hi
      have hkl := keepK_len must l i
      cases must
      ·simp only [Bool.not_false, Bool.true_or, if_true] at hks
       (repeat (first|with_reducible refine wV fun _=>?_|simp [go_sem, hi]))
       refine ALoop.start (hrec2 (d - 1) (by omega) (i + 1) (by omega)) ?_ (by simp)
       simp [go_sem, Wk_eq, hks]
      ·cases ht : (nth l i).took
       ·simp [ht] at hks
        (repeat (first|with_reducible refine wV fun _=>?_|simp [go_sem, hi, ht]))
        refine ALoop.start (hrec2 (d - 1) (by omega) (i + 1) (by omega)) ?_ (by simp)
        simp [go_sem, Wk_eq, hks]
       ·simp [ht] at hks
        (repeat (first|with_reducible refine wV fun _=>?_|simp [go_sem, hi, ht]))
        refine ALoop.start (hrec2 (d - 1) (by omega) (i + 1) (by omega)) ?_ (by simp)
        simp [go_sem, Wk_eq, hks]
     ·have hil : i = l.length := by omega
      subst hil
      have hkl := keepK_len must l l.length
      rw [hmv]
      generalize keepK must l l.length = kk at *
      cases must
      ·simp only [Bool.false_eq_true, if_false] at hml
       (repeat (first|with_reducible refine wV fun _=>?_|simp [go_sem]))
       refine ACallP.plain hD (by simp [go_sem]) ?_
       (repeat (first|with_reducible refine wV fun _=>?_|simp [go_sem]))
       subst hml
       refine ACallP.pureF [2] hS ?_ (bel1 (bel_encPs _)) ?_
       ·(first|done|exact agX)
       ·(repeat (first|with_reducible refine wV fun _=>?_|simp [go_sem]))
      ·simp only [if_true, List.append_nil] at hml
       subst hml
       (repeat (first|with_reducible refine wV fun _=>?_|simp [go_sem]))
       refine ACallP.pureF [2] hS ?_ (bel1 (bel_encPs _)) ?_
       ·(first|done|exact agX)
       ·(repeat (first|with_reducible refine wV fun _=>?_|simp [go_sem]))
    ·omega
    ·simp [go_sem, Wk_eq, keepK_zero]
    ·simp
  ·omega
  ·simp [go_sem, Wk_eq, mustK_zero]
  ·simp
end Go.Av
end
section
/- Contracts, games: Made of the reference. -/
open Go Go.Proofs
namespace Go.Av
theorem R3Made_pure (x : RawG) (hx : RawOk x) (hl : x.c.length ≤ 1099511627776) (hl0 : x.k0.length ≤ 1099511627776) (hl1 : x.k1.length ≤ 1099511627776) : Pure Tryz.prog 19 [.agg (encRaw x)] (.agg (encGame (madeG x))) := by
 refine pF Tryz.func19 ?_
 obtain ⟨eg, heg⟩ : ∃ eg, eg = encGame (madeG x) := ⟨_, rfl⟩
 rw [← heg]
 have hB := R1Made_pure x.w x.h x.cut hx.w hx.h hx.cut
 have hok := boardOk_made hx.w.1 hx.h.1 x.cut
 have hb : madeB x.w x.h x.cut = x.board := rfl
 rw [hb] at hB hok
 have r0 := Int.tmod_nonneg 3 hx.f0.1
 have r1 := Int.tmod_lt_of_pos x.f0 (show (0 : Int) < 3 by decide)
 have f0 : 0 ≤ x.f0 ∧ x.f0 ≤ 255 := hx.f0
 have f1 : 0 ≤ x.f1 ∧ x.f1 ≤ 255 := hx.f1
 have f2 : 0 ≤ x.f2 ∧ x.f2 ≤ 255 := hx.f2
 have f3 : 0 ≤ x.f3 ∧ x.f3 ≤ 255 := hx.f3
 have f4 : 0 ≤ x.f4 ∧ x.f4 ≤ 255 := hx.f4
 have m1 := Int.tmod_nonneg 4 hx.f1.1
 have m3 := Int.tmod_nonneg 4 hx.f3.1
 have m4 := Int.tmod_nonneg 4 hx.f4.1
 have qq : ∀ n : Int, U8 n → (0 ≤ n.tdiv 4 ∧ n.tdiv 4 ≤ 63) ∧ 0 ≤ (n.tdiv 4).tmod 3 ∧ (n.tdiv 4).tmod 3 < 3 := fun n hn => by
  have h : n.tdiv 4 = n / 4 := Int.tdiv_eq_ediv_of_nonneg hn.1
  have h1 := hn.1
  have h2 := hn.2
  have h3 := Int.tmod_nonneg 3 (show 0 ≤ n.tdiv 4 by omega)
  have h4 := Int.tmod_lt_of_pos (n.tdiv 4) (show (0 : Int) < 3 by decide)
  omega
 obtain ⟨q3, q3'⟩ := qq _ hx.f3
 obtain ⟨q4, q4'⟩ := qq _ hx.f4
 obtain ⟨bl, hbl⟩ : ∃ bl, bl = if x.f3.tmod 4 = 3 then 1 + (x.f3.tdiv 4).tmod 3 else 3 := ⟨_, rfl⟩
 obtain ⟨en, hen⟩ : ∃ en, en = if x.f4.tmod 4 = 3 then 1 + (x.f4.tdiv 4).tmod 3 else 2 := ⟨_, rfl⟩
 obtain ⟨R, hR⟩ : ∃ R, R = x.rights := ⟨_, rfl⟩
 have hR' : x.f0.tmod 3 = R := by rw [hR]; rfl
 obtain ⟨b, hbb⟩ : ∃ b, b = x.board := ⟨_, rfl⟩
 rw [← hbb] at hB hok
 (repeat (first|with_reducible refine wV fun _=>?_|simp [go_sem]))
 refine dCall.plain hB (by simp [go_sem]) ?_
 (repeat (first|with_reducible refine wV fun _=>?_|simp [go_sem, hR']))
 have hd8 : b.next.length = 8 := by rw [hbb]; exact madeB_dirs _ _ _
 have hcell : 1 ≤ b.cells ∧ b.cells ≤ 9 := by rw [hbb]; exact madeB_cells hx.w.1 hx.h.1 _
 obtain ⟨K, hK⟩ : ∃ K : Nat, K = kindsN x := ⟨_, rfl⟩
 have hKn : kindsN x = if x.k1.length = 0 then 1 else 2 := by unfold kindsN; simp only [List.length_eq_zero_iff]
 have hKl : ∀ i, (x.ks i).length ≤ 1099511627776 := fun i => by unfold RawG.ks; split <;> assumption
 have hKv : ∀ i, ∀ n ∈ x.ks i, U8 n := fun i => by unfold RawG.ks; split; exact hx.k0; exact hx.k1
 refine aIf.mkL (fun hk1 => ?_) (fun hk1 => ?_) <;> simp at hk1
 ·have hK2 : kindsN x = 2 := by rw [hKn, if_neg (by omega)]
  rw [hK2] at hK
  (repeat (first|with_reducible refine wV fun _=>?_|simp [go_sem]))
  refine ALoop.start (ALoop.ind (α := Nat) (fun a => ⟨[(1, .ref 0 0 12 0 0), (2, .ref 1 0 9 0 0), (3, .ref 20 0 9 0 0), (4, .v (.int .i64 K)), (5, .v (.int .i64 a))],
   [(0, .rows true 0 12 [encRaw x]), (1, .rows true 0 9 [[.v (.int .i64 0), AV.nils, AV.nils, AV.nils, .v (.int .i64 0), .v (.bool false), AV.nils, .v (.int .i64 0), .v (.int .i64 0)]]), (20, .rows true 0 9 [[.v (.int .i64 b.cells), encIss b.next, encIs b.turn, .sl 22 a 3 0 a, .v (.int .i64 R), .v (.bool (decide (x.f1.tmod 4 = 3))), AV.nils, .v (.int .i64 3), .v (.int .i64 2)]]), (22, .rows true a 3 (ksR x a))], 23⟩)
   (fun d a => a + d = K) ?_ K 0 ?_) ?_ ?_
  ·rintro d0 i i1 hrec
   (repeat (first|with_reducible refine wV fun _=>?_|simp [go_sem]))
   refine aIf.mkL (fun hi => ?_) (fun hi => ?_) <;> simp at hi
   ·have hi2 : i = 0 ∨ i = 1 := by omega
    have hkl := hKl i
    have hkv := hKv i
    have hks : kindOf x i = ⟨if i = 0 then nameA else nameB, ((x.ks i).take 4).map (fun n => madeP n b.next.length K x.rights), bitU x.f2 i⟩ := by rw [hbb, hK, ← hK2]; rfl
    rcases hi2 with rfl | rfl
    ·obtain ⟨kk, hkk⟩ : ∃ kk, kk = x.ks 0 := ⟨_, rfl⟩
     have hk0 : x.k0 = kk := hkk.symm
     rw [← hkk] at hkl hkv hks
     have hbit : bitU x.f2 0 = decide (andN .u8 x.f2 1 = 1) := by simp [bitU]
     obtain ⟨f, hf⟩ : ∃ f, f = (fun n => madeP n b.next.length K x.rights) := ⟨_, rfl⟩
     have hfp : ∀ n, U8 n → Pure Tryz.prog 69 [.v (.int .u8 n), .v (.int .i64 b.next.length), .v (.int .i64 K), .v (.int .i64 R)] (encProg (f n)) := fun n hn => by
      rw [hf, ← hR]; exact R2Made_pure n _ _ _ hn (by omega) (by omega) (by omega)
     rw [← hf, hbit] at hks
     (repeat (first|with_reducible refine wV fun _=>?_|simp [go_sem, hk0]))
     refine ALoop.start (ALoop.ind (α := Nat) (fun n => ⟨[(1, .ref 0 0 12 0 0), (2, .ref 1 0 9 0 0), (3, .ref 20 0 9 0 0), (4, .v (.int .i64 K)), (5, .v (.int .i64 0)), (6, .ref 35 0 3 0 0), (7, .v (.int .i64 n))],
      [(0, .rows true 0 12 [encRaw x]), (1, .rows true 0 9 [[.v (.int .i64 0), AV.nils, AV.nils, AV.nils, .v (.int .i64 0), .v (.bool false), AV.nils, .v (.int .i64 0), .v (.int .i64 0)]]), (20, .rows true 0 9 [[.v (.int .i64 b.cells), encIss b.next, encIs b.turn, .sl 22 0 3 0 0, .v (.int .i64 R), .v (.bool (decide (x.f1.tmod 4 = 3))), AV.nils, .v (.int .i64 3), .v (.int .i64 2)]]), (22, .rows true 0 3 (ksR x 0)), (35, .rows true 0 3 [[.v (.string ⟨#[97]⟩), .sl 37 n 1 0 n, .v (.bool (decide (andN .u8 x.f2 1 = 1)))]]), (37, .rows true n 1 (psR f kk n))], 38⟩)
      (fun d n => n + d = min kk.length 4) ?_ (min kk.length 4) 0 ?_) ?_ ?_
     ·rintro d n n1 hrec1
      (repeat (first|with_reducible refine wV fun _=>?_|simp [go_sem, hk0]))
      refine aIf.mkL (fun hn => ?_) (fun hn => ?_) <;> simp at hn
      ·have hn1 : n < kk.length := by omega
       have hn2 := hkv _ (nth_mem hn1)
       have hpl := psR_len f kk (n := n) (by omega)
       (repeat (first|with_reducible refine wV fun _=>?_|simp [go_sem, hk0, hn1]))
       refine dCall.plain (hfp _ hn2) (by simp [go_sem]) ?_
       (repeat (first|with_reducible refine wV fun _=>?_|simp [go_sem, hk0, hn1, hpl]))
       refine ALoop.start (hrec1 (d - 1) (by omega) (n + 1) (by omega)) ?_ (by simp)
       simp [go_sem, Wk_eq, hk0, psR_succ f kk hn1]
      ·have hne : n = min kk.length 4 := by omega
       (repeat (first|with_reducible refine wV fun _=>?_|simp [go_sem]))
       refine ALoop.start (hrec (d0 - 1) (by omega) (0 + 1) (by omega)) ?_ (by simp)
       have hkx : kRow (kindOf x 0) = [.v (.string ⟨#[97]⟩), .lst 1 (psR f kk n), .v (.bool (decide (andN .u8 x.f2 1 = 1)))] := by rw [hks, show psR f kk n = psR f kk (min kk.length 4) by rw [← hne]]; simp [kRow, encKind, psR, nameA, nameB, encProg]; omega
       have hpl := psR_len f kk (n := n) (by omega)
       simp [go_sem, Wk_eq, hk0, ksR_succ x 0, hkx]
       (try refine leRows_append (.refl _) (.cons (.cons (.refl _) (.cons ?_ (.cons (.refl _) .nil))) .nil))
       refine LeV.frz rfl ?_ ?_ (LeRows.of_eq ?_) <;> simp [mkH, upd, hpl, List.take_of_length_le]
     ·omega
     ·simp [go_sem, Wk_eq, hk0]
     ·simp
    ·obtain ⟨kk, hkk⟩ : ∃ kk, kk = x.ks 1 := ⟨_, rfl⟩
     have hk0 : x.k1 = kk := hkk.symm
     rw [← hkk] at hkl hkv hks
     have hbit : bitU x.f2 1 = decide (andN .u8 (x.f2.fdiv 2) 1 = 1) := by simp [bitU]
     obtain ⟨f, hf⟩ : ∃ f, f = (fun n => madeP n b.next.length K x.rights) := ⟨_, rfl⟩
     have hfp : ∀ n, U8 n → Pure Tryz.prog 69 [.v (.int .u8 n), .v (.int .i64 b.next.length), .v (.int .i64 K), .v (.int .i64 R)] (encProg (f n)) := fun n hn => by
      rw [hf, ← hR]; exact R2Made_pure n _ _ _ hn (by omega) (by omega) (by omega)
     rw [← hf, hbit] at hks
     (repeat (first|with_reducible refine wV fun _=>?_|simp [go_sem, hk0]))
     refine ALoop.start (ALoop.ind (α := Nat) (fun n => ⟨[(1, .ref 0 0 12 0 0), (2, .ref 1 0 9 0 0), (3, .ref 20 0 9 0 0), (4, .v (.int .i64 K)), (5, .v (.int .i64 1)), (6, .ref 35 0 3 0 0), (7, .v (.int .i64 n))],
      [(0, .rows true 0 12 [encRaw x]), (1, .rows true 0 9 [[.v (.int .i64 0), AV.nils, AV.nils, AV.nils, .v (.int .i64 0), .v (.bool false), AV.nils, .v (.int .i64 0), .v (.int .i64 0)]]), (20, .rows true 0 9 [[.v (.int .i64 b.cells), encIss b.next, encIs b.turn, .sl 22 1 3 0 1, .v (.int .i64 R), .v (.bool (decide (x.f1.tmod 4 = 3))), AV.nils, .v (.int .i64 3), .v (.int .i64 2)]]), (22, .rows true 1 3 (ksR x 1)), (35, .rows true 0 3 [[.v (.string ⟨#[98, 101, 101]⟩), .sl 37 n 1 0 n, .v (.bool (decide (andN .u8 (x.f2.fdiv 2) 1 = 1)))]]), (37, .rows true n 1 (psR f kk n))], 38⟩)
      (fun d n => n + d = min kk.length 4) ?_ (min kk.length 4) 0 ?_) ?_ ?_
     ·rintro d n n1 hrec1
      (repeat (first|with_reducible refine wV fun _=>?_|simp [go_sem, hk0]))
      refine aIf.mkL (fun hn => ?_) (fun hn => ?_) <;> simp at hn
      ·have hn1 : n < kk.length := by omega
       have hn2 := hkv _ (nth_mem hn1)
       have hpl := psR_len f kk (n := n) (by omega)
       (repeat (first|with_reducible refine wV fun _=>?_|simp [go_sem, hk0, hn1]))
       refine dCall.plain (hfp _ hn2) (by simp [go_sem]) ?_
       (repeat (first|with_reducible refine wV fun _=>?_|simp [go_sem, hk0, hn1, hpl]))
       refine ALoop.start (hrec1 (d - 1) (by omega) (n + 1) (by omega)) ?_ (by simp)
       simp [go_sem, Wk_eq, hk0, psR_succ f kk hn1]
      ·have hne : n = min kk.length 4 := by omega
       (repeat (first|with_reducible refine wV fun _=>?_|simp [go_sem]))
       refine ALoop.start (hrec (d0 - 1) (by omega) (1 + 1) (by omega)) ?_ (by simp)
       have hkx : kRow (kindOf x 1) = [.v (.string ⟨#[98, 101, 101]⟩), .lst 1 (psR f kk n), .v (.bool (decide (andN .u8 (x.f2.fdiv 2) 1 = 1)))] := by rw [hks, show psR f kk n = psR f kk (min kk.length 4) by rw [← hne]]; simp [kRow, encKind, psR, nameA, nameB, encProg]; omega
       have hpl := psR_len f kk (n := n) (by omega)
       simp [go_sem, Wk_eq, hk0, ksR_succ x 1, hkx]
       (try refine leRows_append (.refl _) (.cons (.cons (.refl _) (.cons ?_ (.cons (.refl _) .nil))) .nil))
       refine LeV.frz rfl ?_ ?_ (LeRows.of_eq ?_) <;> simp [mkH, upd, hpl, List.take_of_length_le]
     ·omega
     ·simp [go_sem, Wk_eq, hk0]
     ·simp
   ·have hiK : i = K := by omega
    subst hiK
    (repeat (first|with_reducible refine wV fun _=>?_|simp [go_sem]))
    refine aIf.mkL (fun hb3 => ?_) (fun hb3 => ?_) <;> simp at hb3 <;> (repeat (first|with_reducible refine wV fun _=>?_|simp [go_sem]))
    all_goals refine aIf.mkL (fun hb4 => ?_) (fun hb4 => ?_) <;> simp at hb4 <;> (repeat (first|with_reducible refine wV fun _=>?_|simp [go_sem]))
    all_goals (
     refine ALoop.start (ALoop.ind (α := Nat) (fun a => ⟨[(1, .ref 0 0 12 0 0), (2, .ref 1 0 9 0 0), (3, .ref 20 0 9 0 0), (4, .v (.int .i64 i)), (8, .v (.int .i64 a))],
      [(0, .rows true 0 12 [encRaw x]), (1, .rows true 0 9 [[.v (.int .i64 0), AV.nils, AV.nils, AV.nils, .v (.int .i64 0), .v (.bool false), AV.nils, .v (.int .i64 0), .v (.int .i64 0)]]), (20, .rows true 0 9 [[.v (.int .i64 b.cells), encIss b.next, encIs b.turn, .sl 22 i 3 0 i, .v (.int .i64 R), .v (.bool (decide (x.f1.tmod 4 = 3))), .sl 23 a 4 0 a, .v (.int .i64 bl), .v (.int .i64 en)]]), (22, .rows true i 3 (ksR x i)), (23, .rows true a 4 (clR b.cells i x.c a))], 24⟩)
      (fun d a => a + d = min x.c.length 3) ?_ (min x.c.length 3) 0 ?_) ?_ ?_
     ·rintro d j j1 hrec2
      (repeat (first|with_reducible refine wV fun _=>?_|simp [go_sem]))
      refine aIf.mkL (fun hj => ?_) (fun hj => ?_) <;> simp at hj
      ·have hj1 : j < x.c.length := by omega
       have hjc := hx.c _ (nth_mem hj1)
       have hpl := clR_len b.cells i x.c (n := j) (by omega)
       have hsu := clR_succ b.cells i x.c hj1
       generalize hcx : nth x.c j = c at *
       obtain ⟨c0, c1, c2⟩ := c
       obtain ⟨u0, u1, u2⟩ := hjc
       obtain ⟨w0, w0'⟩ := qq _ u0
       obtain ⟨v0, v0'⟩ := u0
       obtain ⟨v1, v1'⟩ := u1
       obtain ⟨v2, v2'⟩ := u2
       simp only at v0 v0' v1 v1' v2 v2' w0 w0'
       have t0 := Int.tmod_nonneg 3 v0
       have t1 := Int.tmod_lt_of_pos c0 (show (0 : Int) < 3 by decide)
       have hip : (0 : Int) < i := by omega
       have k0 := Int.tmod_nonneg i v1
       have n0 := Int.tmod_nonneg b.cells v2
       have n1 := Int.tmod_nonneg 3 v2
       rcases (show c0.tmod 3 = 0 ∨ c0.tmod 3 = 1 ∨ c0.tmod 3 = 2 by omega) with ht | ht | ht
       ·have hr : cRow (clauseOf b.cells i (c0, c1, c2)) = [.v (.int .i64 1), .v (.int .i64 (c1.tmod i)), .v (.int .i64 0), .v (.int .i64 (1 + (c0.tdiv 4).tmod 3))] := by simp [cRow, clauseOf, encClause, ht]
        (repeat (first|with_reducible refine wV fun _=>?_|simp [go_sem, hj1, hcx, ht, hpl]))
        refine ALoop.start (hrec2 (d - 1) (by omega) (j + 1) (by omega)) ?_ (by simp)
        simp [go_sem, Wk_eq, hsu, hr]
       ·have hr : cRow (clauseOf b.cells i (c0, c1, c2)) = [.v (.int .i64 2), .v (.int .i64 (c1.tmod i)), .v (.int .i64 (c2.tmod b.cells)), .v (.int .i64 (1 + (c0.tdiv 4).tmod 3))] := by simp [cRow, clauseOf, encClause, ht]
        (repeat (first|with_reducible refine wV fun _=>?_|simp [go_sem, hj1, hcx, ht, hpl]))
        refine ALoop.start (hrec2 (d - 1) (by omega) (j + 1) (by omega)) ?_ (by simp)
        simp [go_sem, Wk_eq, hsu, hr]
       ·have hr : cRow (clauseOf b.cells i (c0, c1, c2)) = [.v (.int .i64 3), .v (.int .i64 0), .v (.int .i64 (c2.tmod 3)), .v (.int .i64 (1 + (c0.tdiv 4).tmod 3))] := by simp [cRow, clauseOf, encClause, ht]
        (repeat (first|with_reducible refine wV fun _=>?_|simp [go_sem, hj1, hcx, ht, hpl]))
        refine ALoop.start (hrec2 (d - 1) (by omega) (j + 1) (by omega)) ?_ (by simp)
        simp [go_sem, Wk_eq, hsu, hr]
      ·have hki : kindsN x = i := by rw [hK2, hK]
       have hjm : j = min x.c.length 3 := by omega
       have htk : x.c.take (min x.c.length 3) = x.c.take 3 := by rw [List.take_eq_take_iff]; omega
       have hpl := clR_len b.cells i x.c (n := j) (by omega)
       have hkl : (ksR x i).length = i := ksR_len x i
       have hcl : clR b.cells i x.c j = ((x.c.take 3).map (clauseOf b.cells i)).map encClause := by unfold clR; rw [hjm, htk]
       have hG : madeG x = { cells := b.cells, next := b.next, turn := b.turn, kinds := (List.range i).map (kindOf x), rights := R, must := decide (x.f1.tmod 4 = 3), clauses := (x.c.take 3).map (clauseOf b.cells i), blocked := bl, endless := en } := by
        unfold madeG; rw [hki, ← hbb, ← hR, ← hbl, ← hen]
       have hEnc : eg = [.v (.int .i64 b.cells), encIss b.next, encIs b.turn, .lst 3 (ksR x i), .v (.int .i64 R), .v (.bool (decide (x.f1.tmod 4 = 3))), .lst 4 (clR b.cells i x.c j), .v (.int .i64 bl), .v (.int .i64 en)] := by
        rw [heg, hG, hcl]; rfl
       (repeat (first|with_reducible refine wV fun _=>?_|simp [go_sem]))
       rw [hEnc]
       refine ⟨.cons (.refl _) (.cons (.refl _) (.cons (.refl _) (.cons (leV_frz rfl (by omega) (by simp [noH]) (by rw [List.drop_zero, List.take_of_length_le (by omega)])) (.cons (.refl _) (.cons (.refl _) (.cons (leV_frz rfl (by omega) (by simp [noH]) (by rw [List.drop_zero, List.take_of_length_le (by omega)])) (.cons (.refl _) (.cons (.refl _) .nil)))))))), ?_⟩
       intro c hc
       simp only [List.mem_cons, List.not_mem_nil, or_false] at hc
       rcases hc with rfl | rfl | rfl | rfl | rfl | rfl | rfl | rfl | rfl
       all_goals first | exact .v _ | simp [go_sem]
     ·omega
     ·simp [go_sem, Wk_eq, hbl, hen, hb3, hb4]
     ·simp)
  ·omega
  ·simp [go_sem, Wk_eq, hK]
  ·simp
 ·have hK2 : kindsN x = 1 := by rw [hKn, if_pos (by simp [hk1])]
  rw [hK2] at hK
  (repeat (first|with_reducible refine wV fun _=>?_|simp [go_sem]))
  refine ALoop.start (ALoop.ind (α := Nat) (fun a => ⟨[(1, .ref 0 0 12 0 0), (2, .ref 1 0 9 0 0), (3, .ref 20 0 9 0 0), (4, .v (.int .i64 K)), (5, .v (.int .i64 a))],
   [(0, .rows true 0 12 [encRaw x]), (1, .rows true 0 9 [[.v (.int .i64 0), AV.nils, AV.nils, AV.nils, .v (.int .i64 0), .v (.bool false), AV.nils, .v (.int .i64 0), .v (.int .i64 0)]]), (20, .rows true 0 9 [[.v (.int .i64 b.cells), encIss b.next, encIs b.turn, .sl 22 a 3 0 a, .v (.int .i64 R), .v (.bool (decide (x.f1.tmod 4 = 3))), AV.nils, .v (.int .i64 3), .v (.int .i64 2)]]), (22, .rows true a 3 (ksR x a))], 23⟩)
   (fun d a => a + d = K) ?_ K 0 ?_) ?_ ?_
  ·rintro d0 i i1 hrec
   (repeat (first|with_reducible refine wV fun _=>?_|simp [go_sem]))
   refine aIf.mkL (fun hi => ?_) (fun hi => ?_) <;> simp at hi
   ·have hi2 : i = 0 ∨ i = 1 := by omega
    have hkl := hKl i
    have hkv := hKv i
    have hks : kindOf x i = ⟨if i = 0 then nameA else nameB, ((x.ks i).take 4).map (fun n => madeP n b.next.length K x.rights), bitU x.f2 i⟩ := by rw [hbb, hK, ← hK2]; rfl
    rcases hi2 with rfl | rfl
    ·obtain ⟨kk, hkk⟩ : ∃ kk, kk = x.ks 0 := ⟨_, rfl⟩
     have hk0 : x.k0 = kk := hkk.symm
     rw [← hkk] at hkl hkv hks
     have hbit : bitU x.f2 0 = decide (andN .u8 x.f2 1 = 1) := by simp [bitU]
     obtain ⟨f, hf⟩ : ∃ f, f = (fun n => madeP n b.next.length K x.rights) := ⟨_, rfl⟩
     have hfp : ∀ n, U8 n → Pure Tryz.prog 69 [.v (.int .u8 n), .v (.int .i64 b.next.length), .v (.int .i64 K), .v (.int .i64 R)] (encProg (f n)) := fun n hn => by
      rw [hf, ← hR]; exact R2Made_pure n _ _ _ hn (by omega) (by omega) (by omega)
     rw [← hf, hbit] at hks
     (repeat (first|with_reducible refine wV fun _=>?_|simp [go_sem, hk0]))
     refine ALoop.start (ALoop.ind (α := Nat) (fun n => ⟨[(1, .ref 0 0 12 0 0), (2, .ref 1 0 9 0 0), (3, .ref 20 0 9 0 0), (4, .v (.int .i64 K)), (5, .v (.int .i64 0)), (6, .ref 35 0 3 0 0), (7, .v (.int .i64 n))],
      [(0, .rows true 0 12 [encRaw x]), (1, .rows true 0 9 [[.v (.int .i64 0), AV.nils, AV.nils, AV.nils, .v (.int .i64 0), .v (.bool false), AV.nils, .v (.int .i64 0), .v (.int .i64 0)]]), (20, .rows true 0 9 [[.v (.int .i64 b.cells), encIss b.next, encIs b.turn, .sl 22 0 3 0 0, .v (.int .i64 R), .v (.bool (decide (x.f1.tmod 4 = 3))), AV.nils, .v (.int .i64 3), .v (.int .i64 2)]]), (22, .rows true 0 3 (ksR x 0)), (35, .rows true 0 3 [[.v (.string ⟨#[97]⟩), .sl 37 n 1 0 n, .v (.bool (decide (andN .u8 x.f2 1 = 1)))]]), (37, .rows true n 1 (psR f kk n))], 38⟩)
      (fun d n => n + d = min kk.length 4) ?_ (min kk.length 4) 0 ?_) ?_ ?_
     ·rintro d n n1 hrec1
      (repeat (first|with_reducible refine wV fun _=>?_|simp [go_sem, hk0]))
      refine aIf.mkL (fun hn => ?_) (fun hn => ?_) <;> simp at hn
      ·have hn1 : n < kk.length := by omega
       have hn2 := hkv _ (nth_mem hn1)
       have hpl := psR_len f kk (n := n) (by omega)
       (repeat (first|with_reducible refine wV fun _=>?_|simp [go_sem, hk0, hn1]))
       refine dCall.plain (hfp _ hn2) (by simp [go_sem]) ?_
       (repeat (first|with_reducible refine wV fun _=>?_|simp [go_sem, hk0, hn1, hpl]))
       refine ALoop.start (hrec1 (d - 1) (by omega) (n + 1) (by omega)) ?_ (by simp)
       simp [go_sem, Wk_eq, hk0, psR_succ f kk hn1]
      ·have hne : n = min kk.length 4 := by omega
       (repeat (first|with_reducible refine wV fun _=>?_|simp [go_sem]))
       refine ALoop.start (hrec (d0 - 1) (by omega) (0 + 1) (by omega)) ?_ (by simp)
       have hkx : kRow (kindOf x 0) = [.v (.string ⟨#[97]⟩), .lst 1 (psR f kk n), .v (.bool (decide (andN .u8 x.f2 1 = 1)))] := by rw [hks, show psR f kk n = psR f kk (min kk.length 4) by rw [← hne]]; simp [kRow, encKind, psR, nameA, nameB, encProg]; omega
       have hpl := psR_len f kk (n := n) (by omega)
       simp [go_sem, Wk_eq, hk0, ksR_succ x 0, hkx]
       (try refine leRows_append (.refl _) (.cons (.cons (.refl _) (.cons ?_ (.cons (.refl _) .nil))) .nil))
       refine LeV.frz rfl ?_ ?_ (LeRows.of_eq ?_) <;> simp [mkH, upd, hpl, List.take_of_length_le]
     ·omega
     ·simp [go_sem, Wk_eq, hk0]
     ·simp
    ·obtain ⟨kk, hkk⟩ : ∃ kk, kk = x.ks 1 := ⟨_, rfl⟩
     have hk0 : x.k1 = kk := hkk.symm
     rw [← hkk] at hkl hkv hks
     have hbit : bitU x.f2 1 = decide (andN .u8 (x.f2.fdiv 2) 1 = 1) := by simp [bitU]
     obtain ⟨f, hf⟩ : ∃ f, f = (fun n => madeP n b.next.length K x.rights) := ⟨_, rfl⟩
     have hfp : ∀ n, U8 n → Pure Tryz.prog 69 [.v (.int .u8 n), .v (.int .i64 b.next.length), .v (.int .i64 K), .v (.int .i64 R)] (encProg (f n)) := fun n hn => by
      rw [hf, ← hR]; exact R2Made_pure n _ _ _ hn (by omega) (by omega) (by omega)
     rw [← hf, hbit] at hks
     (repeat (first|with_reducible refine wV fun _=>?_|simp [go_sem, hk0]))
     refine ALoop.start (ALoop.ind (α := Nat) (fun n => ⟨[(1, .ref 0 0 12 0 0), (2, .ref 1 0 9 0 0), (3, .ref 20 0 9 0 0), (4, .v (.int .i64 K)), (5, .v (.int .i64 1)), (6, .ref 35 0 3 0 0), (7, .v (.int .i64 n))],
      [(0, .rows true 0 12 [encRaw x]), (1, .rows true 0 9 [[.v (.int .i64 0), AV.nils, AV.nils, AV.nils, .v (.int .i64 0), .v (.bool false), AV.nils, .v (.int .i64 0), .v (.int .i64 0)]]), (20, .rows true 0 9 [[.v (.int .i64 b.cells), encIss b.next, encIs b.turn, .sl 22 1 3 0 1, .v (.int .i64 R), .v (.bool (decide (x.f1.tmod 4 = 3))), AV.nils, .v (.int .i64 3), .v (.int .i64 2)]]), (22, .rows true 1 3 (ksR x 1)), (35, .rows true 0 3 [[.v (.string ⟨#[98, 101, 101]⟩), .sl 37 n 1 0 n, .v (.bool (decide (andN .u8 (x.f2.fdiv 2) 1 = 1)))]]), (37, .rows true n 1 (psR f kk n))], 38⟩)
      (fun d n => n + d = min kk.length 4) ?_ (min kk.length 4) 0 ?_) ?_ ?_
     ·rintro d n n1 hrec1
      (repeat (first|with_reducible refine wV fun _=>?_|simp [go_sem, hk0]))
      refine aIf.mkL (fun hn => ?_) (fun hn => ?_) <;> simp at hn
      ·have hn1 : n < kk.length := by omega
       have hn2 := hkv _ (nth_mem hn1)
       have hpl := psR_len f kk (n := n) (by omega)
       (repeat (first|with_reducible refine wV fun _=>?_|simp [go_sem, hk0, hn1]))
       refine dCall.plain (hfp _ hn2) (by simp [go_sem]) ?_
       (repeat (first|with_reducible refine wV fun _=>?_|simp [go_sem, hk0, hn1, hpl]))
       refine ALoop.start (hrec1 (d - 1) (by omega) (n + 1) (by omega)) ?_ (by simp)
       simp [go_sem, Wk_eq, hk0, psR_succ f kk hn1]
      ·have hne : n = min kk.length 4 := by omega
       (repeat (first|with_reducible refine wV fun _=>?_|simp [go_sem]))
       refine ALoop.start (hrec (d0 - 1) (by omega) (1 + 1) (by omega)) ?_ (by simp)
       have hkx : kRow (kindOf x 1) = [.v (.string ⟨#[98, 101, 101]⟩), .lst 1 (psR f kk n), .v (.bool (decide (andN .u8 (x.f2.fdiv 2) 1 = 1)))] := by rw [hks, show psR f kk n = psR f kk (min kk.length 4) by rw [← hne]]; simp [kRow, encKind, psR, nameA, nameB, encProg]; omega
       have hpl := psR_len f kk (n := n) (by omega)
       simp [go_sem, Wk_eq, hk0, ksR_succ x 1, hkx]
       (try refine leRows_append (.refl _) (.cons (.cons (.refl _) (.cons ?_ (.cons (.refl _) .nil))) .nil))
       refine LeV.frz rfl ?_ ?_ (LeRows.of_eq ?_) <;> simp [mkH, upd, hpl, List.take_of_length_le]
     ·omega
     ·simp [go_sem, Wk_eq, hk0]
     ·simp
   ·have hiK : i = K := by omega
    subst hiK
    (repeat (first|with_reducible refine wV fun _=>?_|simp [go_sem]))
    refine aIf.mkL (fun hb3 => ?_) (fun hb3 => ?_) <;> simp at hb3 <;> (repeat (first|with_reducible refine wV fun _=>?_|simp [go_sem]))
    all_goals refine aIf.mkL (fun hb4 => ?_) (fun hb4 => ?_) <;> simp at hb4 <;> (repeat (first|with_reducible refine wV fun _=>?_|simp [go_sem]))
    all_goals (
     refine ALoop.start (ALoop.ind (α := Nat) (fun a => ⟨[(1, .ref 0 0 12 0 0), (2, .ref 1 0 9 0 0), (3, .ref 20 0 9 0 0), (4, .v (.int .i64 i)), (8, .v (.int .i64 a))],
      [(0, .rows true 0 12 [encRaw x]), (1, .rows true 0 9 [[.v (.int .i64 0), AV.nils, AV.nils, AV.nils, .v (.int .i64 0), .v (.bool false), AV.nils, .v (.int .i64 0), .v (.int .i64 0)]]), (20, .rows true 0 9 [[.v (.int .i64 b.cells), encIss b.next, encIs b.turn, .sl 22 i 3 0 i, .v (.int .i64 R), .v (.bool (decide (x.f1.tmod 4 = 3))), .sl 23 a 4 0 a, .v (.int .i64 bl), .v (.int .i64 en)]]), (22, .rows true i 3 (ksR x i)), (23, .rows true a 4 (clR b.cells i x.c a))], 24⟩)
      (fun d a => a + d = min x.c.length 3) ?_ (min x.c.length 3) 0 ?_) ?_ ?_
     ·rintro d j j1 hrec2
      (repeat (first|with_reducible refine wV fun _=>?_|simp [go_sem]))
      refine aIf.mkL (fun hj => ?_) (fun hj => ?_) <;> simp at hj
      ·have hj1 : j < x.c.length := by omega
       have hjc := hx.c _ (nth_mem hj1)
       have hpl := clR_len b.cells i x.c (n := j) (by omega)
       have hsu := clR_succ b.cells i x.c hj1
       generalize hcx : nth x.c j = c at *
       obtain ⟨c0, c1, c2⟩ := c
       obtain ⟨u0, u1, u2⟩ := hjc
       obtain ⟨w0, w0'⟩ := qq _ u0
       obtain ⟨v0, v0'⟩ := u0
       obtain ⟨v1, v1'⟩ := u1
       obtain ⟨v2, v2'⟩ := u2
       simp only at v0 v0' v1 v1' v2 v2' w0 w0'
       have t0 := Int.tmod_nonneg 3 v0
       have t1 := Int.tmod_lt_of_pos c0 (show (0 : Int) < 3 by decide)
       have hip : (0 : Int) < i := by omega
       have k0 := Int.tmod_nonneg i v1
       have n0 := Int.tmod_nonneg b.cells v2
       have n1 := Int.tmod_nonneg 3 v2
       rcases (show c0.tmod 3 = 0 ∨ c0.tmod 3 = 1 ∨ c0.tmod 3 = 2 by omega) with ht | ht | ht
       ·have hr : cRow (clauseOf b.cells i (c0, c1, c2)) = [.v (.int .i64 1), .v (.int .i64 (c1.tmod i)), .v (.int .i64 0), .v (.int .i64 (1 + (c0.tdiv 4).tmod 3))] := by simp [cRow, clauseOf, encClause, ht]
        (repeat (first|with_reducible refine wV fun _=>?_|simp [go_sem, hj1, hcx, ht, hpl]))
        refine ALoop.start (hrec2 (d - 1) (by omega) (j + 1) (by omega)) ?_ (by simp)
        simp [go_sem, Wk_eq, hsu, hr]
       ·have hr : cRow (clauseOf b.cells i (c0, c1, c2)) = [.v (.int .i64 2), .v (.int .i64 (c1.tmod i)), .v (.int .i64 (c2.tmod b.cells)), .v (.int .i64 (1 + (c0.tdiv 4).tmod 3))] := by simp [cRow, clauseOf, encClause, ht]
        (repeat (first|with_reducible refine wV fun _=>?_|simp [go_sem, hj1, hcx, ht, hpl]))
        refine ALoop.start (hrec2 (d - 1) (by omega) (j + 1) (by omega)) ?_ (by simp)
        simp [go_sem, Wk_eq, hsu, hr]
       ·have hr : cRow (clauseOf b.cells i (c0, c1, c2)) = [.v (.int .i64 3), .v (.int .i64 0), .v (.int .i64 (c2.tmod 3)), .v (.int .i64 (1 + (c0.tdiv 4).tmod 3))] := by simp [cRow, clauseOf, encClause, ht]
        (repeat (first|with_reducible refine wV fun _=>?_|simp [go_sem, hj1, hcx, ht, hpl]))
        refine ALoop.start (hrec2 (d - 1) (by omega) (j + 1) (by omega)) ?_ (by simp)
        simp [go_sem, Wk_eq, hsu, hr]
      ·have hki : kindsN x = i := by rw [hK2, hK]
       have hjm : j = min x.c.length 3 := by omega
       have htk : x.c.take (min x.c.length 3) = x.c.take 3 := by rw [List.take_eq_take_iff]; omega
       have hpl := clR_len b.cells i x.c (n := j) (by omega)
       have hkl : (ksR x i).length = i := ksR_len x i
       have hcl : clR b.cells i x.c j = ((x.c.take 3).map (clauseOf b.cells i)).map encClause := by unfold clR; rw [hjm, htk]
       have hG : madeG x = { cells := b.cells, next := b.next, turn := b.turn, kinds := (List.range i).map (kindOf x), rights := R, must := decide (x.f1.tmod 4 = 3), clauses := (x.c.take 3).map (clauseOf b.cells i), blocked := bl, endless := en } := by
        unfold madeG; rw [hki, ← hbb, ← hR, ← hbl, ← hen]
       have hEnc : eg = [.v (.int .i64 b.cells), encIss b.next, encIs b.turn, .lst 3 (ksR x i), .v (.int .i64 R), .v (.bool (decide (x.f1.tmod 4 = 3))), .lst 4 (clR b.cells i x.c j), .v (.int .i64 bl), .v (.int .i64 en)] := by
        rw [heg, hG, hcl]; rfl
       (repeat (first|with_reducible refine wV fun _=>?_|simp [go_sem]))
       rw [hEnc]
       refine ⟨.cons (.refl _) (.cons (.refl _) (.cons (.refl _) (.cons (leV_frz rfl (by omega) (by simp [noH]) (by rw [List.drop_zero, List.take_of_length_le (by omega)])) (.cons (.refl _) (.cons (.refl _) (.cons (leV_frz rfl (by omega) (by simp [noH]) (by rw [List.drop_zero, List.take_of_length_le (by omega)])) (.cons (.refl _) (.cons (.refl _) .nil)))))))), ?_⟩
       intro c hc
       simp only [List.mem_cons, List.not_mem_nil, or_false] at hc
       rcases hc with rfl | rfl | rfl | rfl | rfl | rfl | rfl | rfl | rfl
       all_goals first | exact .v _ | simp [go_sem]
     ·omega
     ·simp [go_sem, Wk_eq, hbl, hen, hb3, hb4]
     ·simp)
  ·omega
  ·simp [go_sem, Wk_eq, hK]
  ·simp
end Go.Av
end
section
/- Contracts, positions: Made of the reference. -/
open Go Go.Proofs
namespace Go.Av
theorem R4Made_pure (g : GameD) (hg : GOk g) (x : RawP) (hx : RawPOk x) : Pure Tryz.prog 21 [.agg (encGame g), .agg (encRawP x)] (.agg (encPos (madePos g x))) := by
 refine pF Tryz.func21 ?_
 obtain ⟨q, hq⟩ : ∃ q, q = madePos g x := ⟨_, rfl⟩
 have hrow := rawRow hx
 obtain ⟨er, her⟩ : ∃ er, er = encRawP x := ⟨_, rfl⟩
 rw [← hq, ← her]
 rw [← her] at hrow
 obtain ⟨rl, rc, rk, rh, rr, rs, rb⟩ := hrow
 have c1 := hg.c1
 have c9 := hg.c9
 have k1 := hg.k1
 have k6 := hg.k6
 have hr0 := hg.r0
 have hr4 := hg.r4
 obtain ⟨gc, hgc⟩ : ∃ gc : Nat, g.cells = gc := ⟨g.cells.toNat, by omega⟩
 have hpow : (1 : Int) ≤ 2 ^ g.rights.toNat ∧ (2 : Int) ^ g.rights.toNat ≤ 16 := by
  rcases (show g.rights.toNat = 0 ∨ g.rights.toNat = 1 ∨ g.rights.toNat = 2 ∨ g.rights.toNat = 3 ∨ g.rights.toNat = 4 by omega) with h | h | h | h | h <;> rw [h] <;> decide
 have hrt := hx.r
 have hsd := hx.s
 obtain ⟨rt, hrt'⟩ : ∃ rt, x.rights = rt := ⟨_, rfl⟩
 obtain ⟨pw, hpw⟩ : ∃ pw : Int, (2 : Int) ^ g.rights.toNat = pw := ⟨_, rfl⟩
 have r1 : 0 ≤ x.rights ∧ x.rights ≤ 255 := hx.r
 have s1 : 0 ≤ x.side ∧ x.side ≤ 255 := hx.s
 have s0 := Int.tmod_nonneg 2 s1.1
 have s2 := Int.tmod_lt_of_pos x.side (show (0 : Int) < 2 by decide)
 rw [hpw] at hpow
 generalize heg : encGame g = eg at *
 have hel : eg.length = 9 := by rw [← heg]; rfl
 have hbl : ∀ n, (∀ c' ∈ eg, Bel n c') = True := fun n => by rw [← heg]; simp [go_sem]
 have e0 : cel eg 0 = .v (.int .i64 g.cells) := by rw [← heg]; rfl
 have e3 : cel eg 3 = .lst 3 (g.kinds.map encKind) := by rw [← heg]; rfl
 have e4 : cel eg 4 = .v (.int .i64 g.rights) := by rw [← heg]; rfl
 (repeat (first|with_reducible refine wV fun _=>?_|simp [go_sem, hel, e0, e3, e4, rl, rr, rs, rb, hbl, hpw]))
 have hcz : g.cells.toNat = gc := by omega
 have hkne : g.kinds ≠ [] := by intro h; rw [h] at k1; simp at k1
 have hz : List.replicate gc [AV.v (.int .i64 0)] = (madeAt g x 0).map encI := by simp [madeAt, hcz, encI]
 refine ALoop.start (ALoop.ind (α := Nat) (fun i => ⟨[(2, .ref 0 0 9 0 0), (3, .ref 1 0 18 0 0), (4, .ref 2 0 5 0 0), (5, .ref 19 0 5 0 0), (6, .v (.int .i64 i))], [(0, .rows true 0 9 [eg]), (1, .rows true 0 18 [er]), (2, .rows true 0 5 [[AV.nils, AV.nils, AV.nils, .v (.int .i64 0), .v (.int .i64 0)]]), (6, .rows true 0 1 ((madeAt g x i).map encI)), (19, .rows true 0 5 [[.sl 6 0 1 0 gc, AV.nils, AV.nils, .v (.int .i64 (x.rights.tmod pw)), .v (.int .i64 (x.side.tmod 2))]])], 21⟩)
  (fun d i => i + d = 6) ?_ 6 0 ?_) ?_ ?_
 ·rintro d i i1 hrec
  (repeat (first|with_reducible refine wV fun _=>?_|simp [go_sem]))
  refine aIf.mkL (fun hi => ?_) (fun hi => ?_) <;> simp at hi
  ·have hci := hx.cv _ (nth_mem (l := x.cell) (i := i) (by rw [hx.c6]; omega))
   have hki := hx.kv _ (nth_mem (l := x.kind) (i := i) (by rw [hx.k6]; omega))
   have hci' : 0 ≤ nth x.cell i ∧ nth x.cell i ≤ 255 := hci
   have hki' : 0 ≤ nth x.kind i ∧ nth x.kind i ≤ 255 := hki
   have m0 := Int.tmod_nonneg (g.cells + 1) hci'.1
   have m1 := Int.tmod_nonneg (g.kinds.length : Int) hki'.1
   have m2 := Int.tmod_lt_of_pos (nth x.kind i) (show (0 : Int) < g.kinds.length by omega)
   have m3 := Int.tmod_nonneg 2 (show (0 : Int) ≤ i by omega)
   have m4 := Int.tmod_lt_of_pos (i : Int) (show (0 : Int) < 2 by decide)
   have hrc := rc i (by omega)
   have hrk := rk i (by omega)
   have hsu := madeAt_succ g x i
   have hal := madeAt_len g x i
   rw [hcz] at hal
   unfold atStep at hsu
   (repeat (first|with_reducible refine wV fun _=>?_|simp [go_sem, hel, e0, e3, e4, hrc, hrk]))
   refine aIf.mkL (fun hc => ?_) (fun hc => ?_) <;> simp at hc
   ·have hc1 := hc.1
    rw [if_pos hc1] at hsu
    (repeat (first|with_reducible refine wV fun _=>?_|simp [go_sem, hel, e0, e3, e4, hrc, hrk, hal]))
    refine ALoop.start (hrec (d - 1) (by omega) (i + 1) (by omega)) ?_ (by simp)
    simp [go_sem, Wk_eq, hsu, rb, hbl]
   ·have hc1 : ¬ (nth x.cell i).tmod (g.cells + 1) < g.cells := fun h => hkne (hc h)
    rw [if_neg hc1] at hsu
    (repeat (first|with_reducible refine wV fun _=>?_|simp [go_sem, hel, e0, e3, e4, hrc, hrk]))
    refine ALoop.start (hrec (d - 1) (by omega) (i + 1) (by omega)) ?_ (by simp)
    simp [go_sem, Wk_eq, hsu, rb, hbl]
  ·obtain rfl : i = 6 := by omega
   have hal := madeAt_len g x 6
   rw [hcz] at hal
   have hqe : q = ⟨madeAt g x 6, handL g x 0 (min g.kinds.length 2), handL g x 1 (min g.kinds.length 2), x.rights.tmod pw, x.side.tmod 2⟩ := by rw [hq, ← hpw]; rfl
   clear hq
   have hq := hqe
   (repeat (first|with_reducible refine wV fun _=>?_|simp [go_sem, hel, e0, e3, e4]))
   refine ALoop.unroll ?_
   (repeat (first|with_reducible refine wV fun _=>?_|simp [go_sem, hel, e0, e3, e4]))
   have hz0 := handL_zero g x 0
   refine ALoop.start (ALoop.ind (α := Nat) (fun k => ⟨[(2, .ref 0 0 9 0 0), (3, .ref 1 0 18 0 0), (4, .ref 2 0 5 0 0), (5, .ref 19 0 5 0 0), (8, .v (.int .i64 0)), (9, .v (.int .i64 k))], [(0, .rows true 0 9 [eg]), (1, .rows true 0 18 [er]), (2, .rows true 0 5 [[AV.nils, AV.nils, AV.nils, .v (.int .i64 0), .v (.int .i64 0)]]), (6, .rows true 0 1 ((madeAt g x 6).map encI)), (19, .rows true 0 5 [[.sl 6 0 1 0 gc, .sl 21 0 1 0 g.kinds.length, AV.nils, .v (.int .i64 (x.rights.tmod pw)), .v (.int .i64 (x.side.tmod 2))]]), (21, .rows true 0 1 ((handL g x 0 k).map encI))], 22⟩)
    (fun d k => k + d = min g.kinds.length 2) ?_ (min g.kinds.length 2) 0 ?_) ?_ ?_
   ·rintro d k j1 hrec0
    (repeat (first|with_reducible refine wV fun _=>?_|simp [go_sem, hel, e0, e3, e4]))
    refine aIf.mkL (fun hj => ?_) (fun hj => ?_) <;> simp at hj
    ·have hk2 : k < 2 := by omega
     have hkk : k < g.kinds.length := by omega
     have hhv := hx.hv _ (nth_mem (l := x.hand) (i := 2 * 0 + k) (by rw [hx.h4]; omega))
     have hh1 : 0 ≤ nth x.hand (2 * 0 + k) ∧ nth x.hand (2 * 0 + k) ≤ 255 := hhv
     have hrh := rh (2 * 0 + k) (by omega)
     have m0 := Int.tmod_nonneg 3 hh1.1
     have hsu := handL_succ g x 0 k
     have hsk := handL_skip g x 0 k
     have hhl := handL_len g x 0 k
     have hV : handV g x 0 k = if (nth g.kinds k).keep = true then (if 250 < nth x.hand (2 * 0 + k) then 8 else (nth x.hand (2 * 0 + k)).tmod 3) else 0 := rfl
     simp only [Nat.mul_zero, Nat.zero_add, Nat.mul_one] at hrh hh1 m0 hV
     (repeat (first|with_reducible refine wV fun _=>?_|simp [go_sem, hel, e0, e3, e4, hkk]))
     refine aIf.mkL (fun hkeep => ?_) (fun hkeep => ?_)
     ·rw [if_pos hkeep] at hV
      have eI : ((k : Int)).toNat = k := by omega
      have eI2 : (k : Int) < 4 := by omega
      (repeat (first|with_reducible refine wV fun _=>?_|simp [go_sem, hel, e0, e3, e4, hkk, hrh, hhl, eI, eI2]))
      refine aIf.mkL (fun hbig => ?_) (fun hbig => ?_) <;> simp at hbig
      ·rw [if_pos hbig] at hV
       rw [hV] at hsu
       (repeat (first|with_reducible refine wV fun _=>?_|simp [go_sem, hel, e0, e3, e4, hkk, hrh, hhl]))
       refine ALoop.start (hrec0 (d - 1) (by omega) (k + 1) (by omega)) ?_ (by simp)
       simp [go_sem, Wk_eq, hsu, rb, hbl]
      ·rw [if_neg (by omega)] at hV
       rw [hV] at hsu
       (repeat (first|with_reducible refine wV fun _=>?_|simp [go_sem, hel, e0, e3, e4, hkk, hrh, hhl]))
       refine ALoop.start (hrec0 (d - 1) (by omega) (k + 1) (by omega)) ?_ (by simp)
       simp [go_sem, Wk_eq, hsu, rb, hbl]
     ·rw [if_neg (by simpa using hkeep)] at hV
      have hsk' := hsk hV
      (repeat (first|with_reducible refine wV fun _=>?_|simp [go_sem, hel, e0, e3, e4]))
      refine ALoop.start (hrec0 (d - 1) (by omega) (k + 1) (by omega)) ?_ (by simp)
      simp [go_sem, Wk_eq, hsk', rb, hbl]
    ·have hkm : k = min g.kinds.length 2 := by omega
     subst hkm
     (repeat (first|with_reducible refine wV fun _=>?_|simp [go_sem, hel, e0, e3, e4]))
     refine ALoop.unroll ?_
     (repeat (first|with_reducible refine wV fun _=>?_|simp [go_sem, hel, e0, e3, e4]))
     have hz1 := handL_zero g x 1
     refine ALoop.start (ALoop.ind (α := Nat) (fun k => ⟨[(2, .ref 0 0 9 0 0), (3, .ref 1 0 18 0 0), (4, .ref 2 0 5 0 0), (5, .ref 19 0 5 0 0), (8, .v (.int .i64 1)), (9, .v (.int .i64 k))], [(0, .rows true 0 9 [eg]), (1, .rows true 0 18 [er]), (2, .rows true 0 5 [[AV.nils, AV.nils, AV.nils, .v (.int .i64 0), .v (.int .i64 0)]]), (6, .rows true 0 1 ((madeAt g x 6).map encI)), (19, .rows true 0 5 [[.sl 6 0 1 0 gc, .sl 21 0 1 0 g.kinds.length, .sl 22 0 1 0 g.kinds.length, .v (.int .i64 (x.rights.tmod pw)), .v (.int .i64 (x.side.tmod 2))]]), (21, .rows true 0 1 ((handL g x 0 (min g.kinds.length 2)).map encI)), (22, .rows true 0 1 ((handL g x 1 k).map encI))], 23⟩)
      (fun d k => k + d = min g.kinds.length 2) ?_ (min g.kinds.length 2) 0 ?_) ?_ ?_
     ·rintro d k j1 hrec1
      (repeat (first|with_reducible refine wV fun _=>?_|simp [go_sem, hel, e0, e3, e4]))
      refine aIf.mkL (fun hj => ?_) (fun hj => ?_) <;> simp at hj
      ·have hk2 : k < 2 := by omega
       have hkk : k < g.kinds.length := by omega
       have hhv := hx.hv _ (nth_mem (l := x.hand) (i := 2 * 1 + k) (by rw [hx.h4]; omega))
       have hh1 : 0 ≤ nth x.hand (2 * 1 + k) ∧ nth x.hand (2 * 1 + k) ≤ 255 := hhv
       have hrh := rh (2 * 1 + k) (by omega)
       have m0 := Int.tmod_nonneg 3 hh1.1
       have hsu := handL_succ g x 1 k
       have hsk := handL_skip g x 1 k
       have hhl := handL_len g x 1 k
       have hV : handV g x 1 k = if (nth g.kinds k).keep = true then (if 250 < nth x.hand (2 * 1 + k) then 8 else (nth x.hand (2 * 1 + k)).tmod 3) else 0 := rfl
       simp only [Nat.mul_zero, Nat.zero_add, Nat.mul_one] at hrh hh1 m0 hV
       (repeat (first|with_reducible refine wV fun _=>?_|simp [go_sem, hel, e0, e3, e4, hkk]))
       refine aIf.mkL (fun hkeep => ?_) (fun hkeep => ?_)
       ·rw [if_pos hkeep] at hV
        have eI : (2 + (k : Int)).toNat = 2 + k := by omega
        have eI2 : 2 + (k : Int) < 4 := by omega
        (repeat (first|with_reducible refine wV fun _=>?_|simp [go_sem, hel, e0, e3, e4, hkk, hrh, hhl, eI, eI2]))
        refine aIf.mkL (fun hbig => ?_) (fun hbig => ?_) <;> simp at hbig
        ·rw [if_pos hbig] at hV
         rw [hV] at hsu
         (repeat (first|with_reducible refine wV fun _=>?_|simp [go_sem, hel, e0, e3, e4, hkk, hrh, hhl]))
         refine ALoop.start (hrec1 (d - 1) (by omega) (k + 1) (by omega)) ?_ (by simp)
         simp [go_sem, Wk_eq, hsu, rb, hbl]
        ·rw [if_neg (by omega)] at hV
         rw [hV] at hsu
         (repeat (first|with_reducible refine wV fun _=>?_|simp [go_sem, hel, e0, e3, e4, hkk, hrh, hhl]))
         refine ALoop.start (hrec1 (d - 1) (by omega) (k + 1) (by omega)) ?_ (by simp)
         simp [go_sem, Wk_eq, hsu, rb, hbl]
       ·rw [if_neg (by simpa using hkeep)] at hV
        have hsk' := hsk hV
        (repeat (first|with_reducible refine wV fun _=>?_|simp [go_sem, hel, e0, e3, e4]))
        refine ALoop.start (hrec1 (d - 1) (by omega) (k + 1) (by omega)) ?_ (by simp)
        simp [go_sem, Wk_eq, hsk', rb, hbl]
      ·have hkm : k = min g.kinds.length 2 := by omega
       subst hkm
       (repeat (first|with_reducible refine wV fun _=>?_|simp [go_sem, hel, e0, e3, e4]))
       (repeat (first|with_reducible refine wV fun _=>?_|simp [go_sem, hel, e0, e3, e4]))
       refine ALoop.unroll ?_
       (repeat (first|with_reducible refine wV fun _=>?_|simp [go_sem, hel, e0, e3, e4]))
       rw [hq]
       exact ⟨leV_frz rfl (by simp [hal]) (by simp [noH]) (by simp [List.take_of_length_le, hal]), leV_frz rfl (by simp [handL_len]) (by simp [noH]) (by simp [List.take_of_length_le, handL_len]), leV_frz rfl (by simp [handL_len]) (by simp [noH]) (by simp [List.take_of_length_le, handL_len]), .refl _, .refl _⟩
     ·omega
     ·simp [go_sem, Wk_eq, rb, hbl, hz1]
     ·simp
   ·omega
   ·simp [go_sem, Wk_eq, rb, hbl, hz0]
   ·simp
 ·rfl
 ·simp [go_sem, Wk_eq, rb, hbl, hz, hcz]
 ·simp
end Go.Av
end
section
/- Contracts, moves: Walk, Made of the reference. -/
open Go Go.Proofs
namespace Go.Av
theorem R6Walk_pure (g : GameD) (hg : GOk g) (p : PosD) (hp : POk g p) (picks : List Int) (hl : picks.length ≤ 4294967296) (hk : ∀ k ∈ picks, 0 ≤ k ∧ k ≤ 9223372036854775807) :
    Pure Tryz.prog 87 [.agg (encGame g), .agg (encPos p), encIs picks] (encPs (walkP g p picks)) := by
  refine pF Tryz.func87 ?_
  generalize hR : walkP g p picks = R
  (repeat (first|with_reducible refine wV fun _=>?_|simp [go_sem]))
  refine ALoop.start (ALoop.ind (α := Nat × List PosD × PosD) (fun a => ⟨[(2, encIs picks), (3, .ref 0 0 9 0 0), (4, .ref 1 0 5 0 0), (7, .sl 2 a.2.1.length 5 0 (a.2.1.length + 1)), (8, .v (.int .i64 a.1))], [(0, .rows true 0 9 [encGame g]), (1, .rows true 0 5 [encPos a.2.2]), (2, .rows true a.2.1.length 5 ((a.2.1 ++ [a.2.2]).map encPos))], 3⟩)
    (fun d a => a.1 + d = picks.length ∧ a.2.1.length = a.1 ∧ POk g a.2.2 ∧ R = a.2.1 ++ walkP g a.2.2 (picks.drop a.1)) ?_ picks.length (0, [], p) ?_) ?_ ?_
  · rintro d ⟨i, pre, cur⟩ ⟨i1, i2, i3, i4⟩ hrec
    simp only at i1 i2 i3 i4
    (repeat (first|with_reducible refine wV fun _=>?_|simp [go_sem]))
    refine aIf.mkL (fun hi => ?_) (fun hi => ?_) <;> simp at hi
    · have hM := R6Moves_pure g hg cur i3
      have hki := hk _ (nth_mem hi)
      have hml := movesP_len hg i3
      have hmo := movesP_ok hg i3
      rw [dropG_cons hi, walkP] at i4
      generalize movesP g cur = l at *
      (repeat (first|with_reducible refine wV fun _=>?_|simp [go_sem]))
      refine ACallP.plain hM (by simp [go_sem]) ?_
      (repeat (first|with_reducible refine wV fun _=>?_|simp [go_sem]))
      by_cases hz : l = []
      · rw [if_pos hz] at i4
        subst hz
        (repeat (first|with_reducible refine wV fun _=>?_|simp [go_sem]))
        rw [i4]
        exact frX
      · rw [if_neg hz] at i4
        have hlp : 0 < l.length := List.length_pos_iff.2 hz
        have e1 : (nth picks i).tmod l.length = (nth picks i).emod l.length := Int.tmod_eq_emod_of_nonneg hki.1
        have e2 : 0 ≤ (nth picks i).emod l.length := Int.emod_nonneg _ (by omega)
        have e3 : (nth picks i).emod l.length < l.length := Int.emod_lt_of_pos _ (by omega)
        generalize (nth picks i).emod l.length = j at *
        have hjl : j.toNat < l.length := by omega
        (repeat (first|with_reducible refine wV fun _=>?_|simp [go_sem, hi, hz, e1, hjl]))
        (refine aIf.mkL (fun hF => by first | omega | (simp at hF; omega)) (fun hF => ?_); clear hF)
        (repeat (first|with_reducible refine wV fun _=>?_|simp [go_sem, hjl]))
        refine ALoop.start (hrec (d - 1) (by omega) (i + 1, pre ++ [cur], nth l j.toNat) ⟨by simp only; omega, by simp; omega, (hmo _ (nth_mem hjl)).1, by simpa using i4⟩) ?_ (by simp)
        simp [go_sem, Wk_eq]
    · rw [List.drop_eq_nil_of_le hi, walkP] at i4
      (repeat (first|with_reducible refine wV fun _=>?_|simp [go_sem]))
      rw [i4]
      exact frX
  · exact ⟨by simp, rfl, hp, by simp [hR]⟩
  · simp [go_sem, Wk_eq]
  · simp
structure Raw6 where
  g : RawG
  p : RawP
  picks : List Int
structure Raw6Ok (x : Raw6) : Prop where
  g : RawOk x.g
  p : RawPOk x.p
  k : ∀ n ∈ x.picks, U8 n
  lk : x.picks.length ≤ 1099511627776
  l0 : x.g.k0.length ≤ 1099511627776
  l1 : x.g.k1.length ≤ 1099511627776
  lc : x.g.c.length ≤ 1099511627776
def encRaw6 (x : Raw6) : List AV := encRaw x.g ++ (encRawP x.p ++ [encUs x.picks])
def game6 (x : Raw6) : GameD := madeG x.g
def walk6 (x : Raw6) : List PosD := walkP (game6 x) (madePos (game6 x) x.p) (x.picks.take 6)
def pos6 (x : Raw6) : PosD := nth (walk6 x) ((walk6 x).length - 1)
theorem game6_ok {x : Raw6} (hx : Raw6Ok x) : GOk (game6 x) := madeG_ok hx.g
theorem pos6_ok {x : Raw6} (hx : Raw6Ok x) : POk (game6 x) (pos6 x) := by
  have hne := List.length_pos_iff.2 (walkP_ne (game6 x) (madePos (game6 x) x.p) (x.picks.take 6))
  exact walkP_ok (game6_ok hx) _ (madePos_ok (game6_ok hx) hx.p) _ (nth_mem (by unfold walk6; omega))
theorem R6Made_pure (x : Raw6) (hx : Raw6Ok x) : Pure Tryz.prog 32 [.agg (encRaw6 x)] (.tup [.agg (encGame (game6 x)), .agg (encPos (pos6 x))]) := by
  refine pF Tryz.func32 ?_
  have hg := game6_ok hx
  have hG := R3Made_pure x.g hx.g hx.lc hx.l0 hx.l1
  have hP := R4Made_pure (game6 x) hg x.p hx.p
  have hlk := hx.lk
  have hW := R6Walk_pure (game6 x) hg (madePos (game6 x) x.p) (madePos_ok hg hx.p) (x.picks.take 6) (by simp; omega) (fun k hk => by have := hx.k k (List.mem_of_mem_take hk); have h0 := this.1; have h1 := this.2; omega)
  have hwl := walkP_len (game6 x) (x.picks.take 6) (madePos (game6 x) x.p)
  have hwp := List.length_pos_iff.2 (walkP_ne (game6 x) (madePos (game6 x) x.p) (x.picks.take 6))
  rw [show walkP (game6 x) (madePos (game6 x) x.p) (x.picks.take 6) = walk6 x from rfl] at hW hwl hwp
  have hq : pos6 x = nth (walk6 x) ((walk6 x).length - 1) := rfl
  rw [show madeG x.g = game6 x from rfl] at hG
  obtain ⟨eg, heg⟩ : ∃ eg, eg = encGame (game6 x) := ⟨_, rfl⟩
  have hegl : eg.length = 9 := by rw [heg]; rfl
  have hegb : ∀ n, (∀ c ∈ eg, Bel n c) = True := fun n => by rw [heg]; simp [go_sem]
  rw [← heg] at hG hP hW ⊢
  generalize walk6 x = w at *
  generalize pos6 x = q at *
  unfold encRaw6
  have hrow := rawRow hx.p
  obtain ⟨er, her⟩ : ∃ er, er = encRawP x.p := ⟨_, rfl⟩
  rw [← her] at hrow hP ⊢
  obtain ⟨rl, _, _, _, _, _, rb⟩ := hrow
  obtain ⟨er1, her1⟩ : ∃ er1, er1 = encRaw x.g := ⟨_, rfl⟩
  have er1l : er1.length = 12 := by rw [her1]; rfl
  have er1b : ∀ n, (∀ c ∈ er1, Bel n c) = True := fun n => by rw [her1]; simp [go_sem]
  rw [← her1] at hG ⊢
  have hc30 : cel (er1 ++ (er ++ [AV.lst 1 (x.picks.map encU)])) 30 = .lst 1 (x.picks.map encU) := by
    unfold cel
    rw [List.getD_eq_getElem?_getD, List.getElem?_append_right (by omega), List.getElem?_append_right (by omega)]
    simp [er1l, rl]
  have hd12 : List.take 18 (List.drop 12 (er1 ++ (er ++ [AV.lst 1 (x.picks.map encU)]))) = er := by
    rw [← er1l, List.drop_left, ← rl, List.take_left]
  (repeat (first|with_reducible refine wV fun _=>?_|simp [go_sem, rl, rb, er1l, er1b, hegl, hegb]))
  refine ACallP.plain hG (by simp [go_sem, er1b]) ?_
  (repeat (first|with_reducible refine wV fun _=>?_|simp [go_sem, rl, rb, er1l, er1b, hegl, hegb, hc30]))
  obtain ⟨pk, hpk⟩ : ∃ pk : Nat → List Int, ∀ i, pk i = x.picks.take i := ⟨_, fun _ => rfl⟩
  have htl : ∀ i, i ≤ x.picks.length → (pk i).length = i := fun i hi => by rw [hpk]; simp; omega
  have hts : ∀ i, i < x.picks.length → pk (i + 1) = pk i ++ [nth x.picks i] := fun i hi => by rw [hpk, hpk, List.take_add_one, List.getElem?_eq_getElem hi, nth_eq _ _ hi]; rfl
  have hp0 : pk 0 = [] := by rw [hpk]; rfl
  rw [← hpk] at hW
  refine ALoop.start (ALoop.ind (α := Nat) (fun i => ⟨[(1, .ref 0 0 31 0 0), (2, .ref 1 0 9 0 0), (3, .ref 2 0 5 0 0), (4, .ref 3 0 9 0 0), (5, .sl 4 i 1 0 i), (6, .v (.int .i64 i))],
      [(0, .rows true 0 31 [er1 ++ (er ++ [AV.lst 1 (x.picks.map encU)])]), (1, .rows true 0 9 [[.v (.int .i64 0), AV.nils, AV.nils, AV.nils, .v (.int .i64 0), .v (.bool false), AV.nils, .v (.int .i64 0), .v (.int .i64 0)]]),
       (2, .rows true 0 5 [[AV.nils, AV.nils, AV.nils, .v (.int .i64 0), .v (.int .i64 0)]]), (3, .rows true 0 9 [eg]), (4, .rows true i 1 ((pk i).map encI))], 5⟩)
    (fun d i => i + d = min x.picks.length 6) ?_ (min x.picks.length 6) 0 ?_) ?_ ?_
  · rintro d i i1 hrec
    (repeat (first|with_reducible refine wV fun _=>?_|simp [go_sem, rl, rb, er1l, er1b, hegl, hegb, hc30]))
    refine aIf.mkL (fun hi => ?_) (fun hi => ?_) <;> simp at hi
    · have hil : i < x.picks.length := by omega
      have hki := hx.k _ (nth_mem hil)
      have hk0 := hki.1
      have hk1 := hki.2
      have e1 := htl i (by omega)
      have e2 := hts i hil
      (repeat (first|with_reducible refine wV fun _=>?_|simp [go_sem, rl, er1l, hc30, hil, e1]))
      refine ALoop.start (hrec (d - 1) (by omega) (i + 1) (by omega)) ?_ (by simp)
      simp [go_sem, Wk_eq, e2, rb, er1b, hegb]
    · have hil : i = min x.picks.length 6 := by omega
      have e1 := htl i (by omega)
      have e2 : pk i = pk 6 := by rw [hpk, hpk, hil, List.take_eq_take_iff]; omega
      rw [← e2] at hW
      (repeat (first|with_reducible refine wV fun _=>?_|simp [go_sem, rl, rb, er1l, er1b, hegl, hegb, hd12]))
      refine dCall.plain hP (by simp [go_sem, hegb, rb]) ?_
      (repeat (first|with_reducible refine wV fun _=>?_|simp [go_sem, rl, rb, er1l, er1b, hegl, hegb]))
      refine dCall.frz [.agg eg, .agg (encPos (madePos (game6 x) x.p)), encIs (pk i)] _ [4] [(4, some (.rows false i 1 ((pk i).map encI)))] hW ?_ ?_ (by simp [go_sem, hegb]) ?_
      · intro p hp
        simp only [List.mem_singleton] at hp
        subst hp
        exact ⟨by simp, i, 1, _, rfl, by simp [upd]⟩
      · intro h₁ hS
        have h7 := hS 4 (by simp)
        simp [upd] at h7
        exact .cons (.refl _) (.cons (.refl _) (.cons (leV_frz h7.symm (by simp [e1]) (by simp [applyW, upd]) (by rw [List.drop_zero, List.take_of_length_le (by simp [e1])])) .nil))
      · have h6 : (x.picks.take 6).length ≤ 6 := by simp; omega
        have hw7 : w.length ≤ 7 := by omega
        have hwi : ((w.length : Int) - 1).toNat = w.length - 1 := by omega
        have hwn : w.length - 1 < w.length := by omega
        rw [hq]
        (repeat (first|with_reducible refine wV fun _=>?_|simp [go_sem, rl, rb, er1l, er1b, hegl, hegb, hwi, hwn]))
  · omega
  · simp [go_sem, Wk_eq, rb, er1b, hegb, hp0]
  · simp
theorem raw6_len {x : Raw6} (hx : Raw6Ok x) : (encRaw6 x).length = 31 := by
  obtain ⟨rl, _, _, _, _, _, rb⟩ := rawRow hx.p
  simp [encRaw6, encRaw, rl]
theorem raw6_bel {x : Raw6} (hx : Raw6Ok x) (n : Nat) : (∀ c ∈ encRaw6 x, Bel n c) = True := by
  obtain ⟨rl, _, _, _, _, _, rb⟩ := rawRow hx.p
  refine eq_true ?_
  intro c hc
  unfold encRaw6 at hc
  rcases List.mem_append.1 hc with h | h
  · have : (∀ c ∈ encRaw x.g, Bel n c) = True := by simp [go_sem]
    exact of_eq_true this c h
  · rcases List.mem_append.1 h with h | h
    · exact of_eq_true (rb n) c h
    · simp only [List.mem_singleton] at h
      subst h
      simp [go_sem]
end Go.Av
end
section
/- The law IndexMoves: its call gives true. -/
open Go Go.Proofs
namespace Go.Av
theorem cnt_le9 {g : GameD} (hg : GOk g) {p : PosD} (hp : POk g p) (side kind : Int) : cnt p.at_ side kind ≤ 9 := by
 have h : cnt p.at_ side kind ≤ p.at_.length := List.countP_le_length
 have := hp.al
 have := hg.c9
 omega
theorem IndexMoves_pure (x : Raw6) (hx : Raw6Ok x) : Pure Tryz.prog 14 [.agg (encRaw6 x)] (.v (.bool true)) := by
 refine pF Tryz.func14 ?_
 have hM := R6Made_pure x hx
 have hg := game6_ok hx
 have hp := pos6_ok hx
 obtain ⟨er, her⟩ : ∃ er, er = encRaw6 x := ⟨_, rfl⟩
 have herl : er.length = 31 := by rw [her]; exact raw6_len hx
 have herb : ∀ n, (∀ c ∈ er, Bel n c) = True := fun n => by rw [her]; exact raw6_bel hx n
 rw [← her] at hM ⊢
 generalize game6 x = g at *
 generalize pos6 x = p at *
 have hS := ok14_pure
 have hPM := Moves_pure g hg p hp
 have hmo := fun m hm => (movesP_ok hg hp m hm).1
 have hms := fun m hm => (movesP_ok hg hp m hm).2
 have hml := movesP_len hg hp
 have hcap := fun m hm => movesP_cap hg hp (m := m) hm
 have k6 := hg.k6
 have hFG : FitsG g := by unfold FitsG; omega
 have hFR : FitsR g := ⟨hg.r0, by have := hg.r4; omega⟩
 have hV : ∀ m, POk g m → Pure Tryz.prog 39 [.agg (encGame g), .agg (encPos m)] (.v (.bool true)) := fun m hm => by
  have := RValid_pure g hFG hFR m (hm.fits hg)
  rwa [pOk_iff.2 hm] at this
 have hO : ∀ m, POk g m → Pure Tryz.prog 56 [.agg (encGame g), .agg (encPos m)] (.agg (encPos (ofP g m))) := fun m hm =>
  Of_pure g (by omega) m (hm.fits hg) hm.av
 have hRO : ∀ m, POk g m → Pure Tryz.prog 58 [.agg (encGame g), .agg (encPos m)] (.agg (encPos (ofP g m))) := fun m hm =>
  Of14_pure g (by omega) m (hm.fits hg) hm.av
 have hSm : ∀ m, POk g m → Pure Tryz.prog 57 [.agg (encPos (ofP g m)), .agg (encPos (ofP g m))] (.v (.bool true)) := fun m hm => by
  have := Same14_pure (ofP g m) (ofP g m) (fitsP_of (hm.fits hg) (by omega)) (fitsP_of (hm.fits hg) (by omega))
  rwa [decide_eq_true rfl] at this
 have hIV : ∀ m, POk g m → Pure Tryz.prog 59 [.agg (encGame g), .agg (encPos (ofP g m))] (.v (.bool true)) := fun m hm => by
  have h := fitsP_of (g := g) (hm.fits hg) (by omega)
  have := ixValid_pure g hFG hFR (by have := hg.c9; omega) (by omega) (ofP g m) (by have := h.1; unfold Fits at this; omega) h.2.1 h.2.2
  rwa [matOk_of (pOk_iff.2 hm)] at this
 have hRV : ∀ m, POk g m → Pure Tryz.prog 60 [.agg (encGame g), .agg (encPos (ofP g m))] (.v (.bool true)) := fun m hm => by
  have h := fitsP_of (g := g) (hm.fits hg) (by omega)
  have := matRgo_pure g hFG hFR (by have := hg.c1; omega) (by have := hg.c9; omega) (ofP g m) (by have := h.1; unfold Fits at this; omega) h.2.1 h.2.2
  rwa [matR_eq (by have := hg.c1; omega), matOk_of (pOk_iff.2 hm)] at this
 have hOp := hO p hp
 have hROp := hRO p hp
 have hSmp := hSm p hp
 have hegl : (encGame g).length = 9 := rfl
 have hegb : ∀ n, (∀ c ∈ encGame g, Bel n c) = True := fun n => by simp [go_sem]
 have hegk : cel (encGame g) 3 = .lst 3 (g.kinds.map encKind) := rfl
 have hps := hp.s
 generalize hl : movesP g p = l at *
 have hofL : ∀ m, (ofP g m).at_.length = 1 + 2 * g.kinds.length := fun m => menOf_length _ _
 have hofN : ∀ (m : PosD), POk g m → ∀ (side : Int), side = 0 ∨ side = 1 → ∀ k : Nat, k < g.kinds.length → nth (ofP g m).at_ (1 + 2 * k + side.toNat) = (cnt m.at_ side (k : Int) : Int) := fun m hm side hs k hk => menOf_cnt hg.k6 hs hk hm.av
 have hofS : ∀ m, (ofP g m).side = m.side := fun m => rfl
 have hofH : ∀ m, (ofP g m).h0 = m.h0 ∧ (ofP g m).h1 = m.h1 := fun m => ⟨rfl, rfl⟩
 have hcle := fun (m : PosD) (hm : POk g m) side kind => cnt_le9 hg hm side kind
 obtain ⟨b, hb⟩ : ∃ b, b = ofP g p := ⟨_, rfl⟩
 have hbL := hofL p
 have hbN := hofN p hp
 have hbH := hofH p
 rw [← hb] at hOp hROp hSmp hbL hbN hbH
 generalize hK : g.kinds.length = K at *
 generalize encGame g = eg at *
 (repeat (first|with_reducible refine wV fun _=>?_|simp [go_sem, herl]))
 refine ACallP.plain hS (by simp [go_sem]) ?_
 (repeat (first|with_reducible refine wV fun _=>?_|simp [go_sem, herl]))
 refine ACallP.plain hM (by simp [go_sem, herb]) ?_
 (repeat (first|with_reducible refine wV fun _=>?_|simp [go_sem, herl, hegl]))
 refine dCall.plain hOp (by simp [go_sem, hegb]) ?_
 (repeat (first|with_reducible refine wV fun _=>?_|simp [go_sem, herl, hegl]))
 refine dCall.plain hPM (by simp [go_sem, hegb]) ?_
 (repeat (first|with_reducible refine wV fun _=>?_|simp [go_sem, herl, hegl]))
 refine dCall.plain hROp (by simp [go_sem, hegb]) ?_
 (repeat (first|with_reducible refine wV fun _=>?_|simp [go_sem, herl, hegl]))
 refine dCall.plain hSmp (by simp [go_sem, hegb]) ?_
 (repeat (first|with_reducible refine wV fun _=>?_|simp [go_sem, herl, hegl]))
 refine ALoop.start (ALoop.ind (α := Nat) (fun i => ⟨[(3, .v (.bool true)), (4, .ref 1 0 9 0 0), (5, .ref 2 0 5 0 0), (6, .ref 9 0 5 0 0), (7, encPs l), (8, .v (.int .i64 i))], [(1, .rows true 0 9 [eg]), (2, .rows true 0 5 [encPos p]), (9, .rows true 0 5 [encPos b])], 18⟩)
  (fun d i => i + d = l.length) ?_ l.length 0 ?_) ?_ ?_
 ·rintro d i i1 hrec
  (repeat (first|with_reducible refine wV fun _=>?_|simp [go_sem, hegl]))
  refine aIf.mkL (fun hi => ?_) (fun hi => ?_) <;> simp at hi
  ·have hm := nth_mem hi
   have hok := hmo _ hm
   have hVi := hV _ hok
   have hOi := hO _ hok
   have hIVi := hIV _ hok
   have hRVi := hRV _ hok
   have hofLm := hofL (nth l i)
   have hofNm := hofN _ hok
   have hside := hms _ hm
   have hcapm := hcap _ hm
   have hcm := hcle _ hok
   have hcp := hcle _ hp
   have hsm : (ofP g (nth l i)).side = 1 - p.side := hside
   have hHm : (ofP g (nth l i)).h0 = (nth l i).h0 ∧ (ofP g (nth l i)).h1 = (nth l i).h1 := ⟨rfl, rfl⟩
   obtain ⟨m, hme⟩ : ∃ m, m = ofP g (nth l i) := ⟨_, rfl⟩
   rw [← hme] at hOi hIVi hRVi hofLm hofNm hsm hHm
   have hqo : ∀ j : Nat, j < K → nth m.at_ (1 + 2 * j + p.side.toNat) = (cnt (nth l i).at_ p.side (j : Int) : Int) ∧ nth b.at_ (1 + 2 * j + p.side.toNat) = (cnt p.at_ p.side (j : Int) : Int) ∧
     nth m.at_ (1 + 2 * j + (1 - p.side).toNat) = (cnt (nth l i).at_ (1 - p.side) (j : Int) : Int) ∧ nth b.at_ (1 + 2 * j + (1 - p.side).toNat) = (cnt p.at_ (1 - p.side) (j : Int) : Int) := fun j hj =>
    ⟨hofNm p.side hps j hj, hbN p.side hps j hj, hofNm (1 - p.side) (by omega) j hj, hbN (1 - p.side) (by omega) j hj⟩
   obtain ⟨hc1, hc2, hc3⟩ := hcapm
   obtain ⟨A, hA⟩ : ∃ A : Nat → Int, ∀ j, A j = sumK (fun k => (cnt (nth l i).at_ p.side (k : Int) : Int) + nth ((nth l i).hand p.side) k - (cnt p.at_ p.side (k : Int) : Int) - nth (p.hand p.side) k) j := ⟨_, fun _ => rfl⟩
   obtain ⟨B, hB⟩ : ∃ B : Nat → Int, ∀ j, B j = sumK (fun k => (cnt p.at_ (1 - p.side) (k : Int) : Int) - (cnt (nth l i).at_ (1 - p.side) (k : Int) : Int)) j := ⟨_, fun _ => rfl⟩
   obtain ⟨C, hC⟩ : ∃ C : Nat → Int, ∀ j, C j = sumK (fun k => if (nth g.kinds k).keep = true then (cnt p.at_ (1 - p.side) (k : Int) : Int) - (cnt (nth l i).at_ (1 - p.side) (k : Int) : Int) else 0) j := ⟨_, fun _ => rfl⟩
   have hAC : A K = C K := by rw [hA, hC]; exact hc1
   have hBK : 0 ≤ B K ∧ B K ≤ 2 := by
    constructor
    ·rw [hB]
     have : ∀ n, 0 ≤ sumK (fun k => (cnt p.at_ (1 - p.side) (k : Int) : Int) - (cnt (nth l i).at_ (1 - p.side) (k : Int) : Int)) n := by
      intro n
      induction n with
      | zero => simp [sumK]
      | succ n ih => have := hc3 (n : Int); simp only [sumK]; omega
     exact this K
    ·rw [hB]; exact hc2
   have hlA := (hp.hand p.side).len
   have hlC := (hok.hand p.side).len
   have hbA := (hp.hand p.side).v
   have hbC := (hok.hand p.side).v
   rw [hK] at hlA hlC
   have hbd : ∀ k, k < K → 0 ≤ nth (p.hand p.side) k ∧ nth (p.hand p.side) k ≤ 8 ∧ 0 ≤ nth ((nth l i).hand p.side) k ∧ nth ((nth l i).hand p.side) k ≤ 8 := fun k hk => by
    have h1 := hbA k (by omega)
    have h2 := hbC k (by omega)
    omega
   have gA : ∀ j, j ≤ K → -102 ≤ A j ∧ A j ≤ 102 := fun j hj => by
    have := sumK_bound (f := fun k => (cnt (nth l i).at_ p.side (k : Int) : Int) + nth ((nth l i).hand p.side) k - (cnt p.at_ p.side (k : Int) : Int) - nth (p.hand p.side) k) (b := 17) (by omega) (n := j) (fun k hk => by
     have h1 := hbd k (by omega)
     have h2 := hcm p.side (k : Int)
     have h3 := hcp p.side (k : Int)
     omega)
    rw [hA]
    omega
   have gB : ∀ j, j ≤ K → -54 ≤ B j ∧ B j ≤ 54 := fun j hj => by
    have := sumK_bound (f := fun k => (cnt p.at_ (1 - p.side) (k : Int) : Int) - (cnt (nth l i).at_ (1 - p.side) (k : Int) : Int)) (b := 9) (by omega) (n := j) (fun k hk => by
     have h2 := hcm (1 - p.side) (k : Int)
     have h3 := hcp (1 - p.side) (k : Int)
     omega)
    rw [hB]
    omega
   have gC : ∀ j, j ≤ K → -54 ≤ C j ∧ C j ≤ 54 := fun j hj => by
    have := sumK_bound (f := fun k => if (nth g.kinds k).keep = true then (cnt p.at_ (1 - p.side) (k : Int) : Int) - (cnt (nth l i).at_ (1 - p.side) (k : Int) : Int) else 0) (b := 9) (by omega) (n := j) (fun k hk => by
     have h2 := hcm (1 - p.side) (k : Int)
     have h3 := hcp (1 - p.side) (k : Int)
     split <;> omega)
    rw [hC]
    omega
   have sA : ∀ j, j < K → A (j + 1) = A j + (nth m.at_ (1 + 2 * j + p.side.toNat) + nth ((nth l i).hand p.side) j - nth b.at_ (1 + 2 * j + p.side.toNat) - nth (p.hand p.side) j) := fun j hj => by
    rw [hA, hA, (hqo j hj).1, (hqo j hj).2.1]; rfl
   have sB : ∀ j, j < K → B (j + 1) = B j + (nth b.at_ (1 + 2 * j + (1 - p.side).toNat) - nth m.at_ (1 + 2 * j + (1 - p.side).toNat)) := fun j hj => by
    rw [hB, hB, (hqo j hj).2.2.1, (hqo j hj).2.2.2]; rfl
   have sC : ∀ j, j < K → C (j + 1) = C j + (if (nth g.kinds j).keep = true then nth b.at_ (1 + 2 * j + (1 - p.side).toNat) - nth m.at_ (1 + 2 * j + (1 - p.side).toNat) else 0) := fun j hj => by
    rw [hC, hC, (hqo j hj).2.2.1, (hqo j hj).2.2.2]; rfl
   have hbn : ∀ j, j < K → (0 ≤ nth m.at_ (1 + 2 * j + p.side.toNat) ∧ nth m.at_ (1 + 2 * j + p.side.toNat) ≤ 9) ∧ (0 ≤ nth b.at_ (1 + 2 * j + p.side.toNat) ∧ nth b.at_ (1 + 2 * j + p.side.toNat) ≤ 9) ∧
     (0 ≤ nth m.at_ (1 + 2 * j + (1 - p.side).toNat) ∧ nth m.at_ (1 + 2 * j + (1 - p.side).toNat) ≤ 9) ∧ (0 ≤ nth b.at_ (1 + 2 * j + (1 - p.side).toNat) ∧ nth b.at_ (1 + 2 * j + (1 - p.side).toNat) ≤ 9) := fun j hj => by
    rw [(hqo j hj).1, (hqo j hj).2.1, (hqo j hj).2.2.1, (hqo j hj).2.2.2]
    have a1 := hcm p.side (j : Int)
    have a2 := hcm (1 - p.side) (j : Int)
    have a3 := hcp p.side (j : Int)
    have a4 := hcp (1 - p.side) (j : Int)
    omega
   have z1 : A 0 = 0 := by rw [hA]; rfl
   have z2 : B 0 = 0 := by rw [hB]; rfl
   have z3 : C 0 = 0 := by rw [hC]; rfl
   clear hA hB hC hc1 hc2 hc3 hqo hcm hcp hofNm
   obtain ⟨hh1, hh2⟩ := hHm
   obtain ⟨hb1, hb2⟩ := hbH
   rcases hps with hs | hs
   all_goals
    have hsm2 : (m.side : Int) = 1 - p.side := hsm
    rw [hs] at hsm2
    (repeat (first|with_reducible refine wV fun _=>?_|simp [go_sem, hegl, hi, hs]))
    (first | refine ACallP.plain (hVi) (by simp [go_sem, hegb]) ?_ | refine aGC.plain _ (fun _ => hVi) (by simp [go_sem, hegb]) ?_ | ((try ((with_reducible refine wZ ?_); (try simp [go_sem]))); first | refine dCall.plain (hVi) (by simp [go_sem, hegb]) ?_ | refine dGC.plain _ (fun _ => hVi) (by simp [go_sem, hegb]) ?_))
    (repeat (first|with_reducible refine wV fun _=>?_|simp [go_sem, hegl, hi, hs]))
    (first | refine ACallP.plain (hOi) (by simp [go_sem, hegb]) ?_ | refine aGC.plain _ (fun _ => hOi) (by simp [go_sem, hegb]) ?_ | ((try ((with_reducible refine wZ ?_); (try simp [go_sem]))); first | refine dCall.plain (hOi) (by simp [go_sem, hegb]) ?_ | refine dGC.plain _ (fun _ => hOi) (by simp [go_sem, hegb]) ?_))
    (repeat (first|with_reducible refine wV fun _=>?_|simp [go_sem, hegl, hi, hs]))
    (first | refine ACallP.plain (hIVi) (by simp [go_sem, hegb]) ?_ | refine aGC.plain _ (fun _ => hIVi) (by simp [go_sem, hegb]) ?_ | ((try ((with_reducible refine wZ ?_); (try simp [go_sem]))); first | refine dCall.plain (hIVi) (by simp [go_sem, hegb]) ?_ | refine dGC.plain _ (fun _ => hIVi) (by simp [go_sem, hegb]) ?_))
    (repeat (first|with_reducible refine wV fun _=>?_|simp [go_sem, hegl, hi, hs]))
    (first | refine ACallP.plain (hRVi) (by simp [go_sem, hegb]) ?_ | refine aGC.plain _ (fun _ => hRVi) (by simp [go_sem, hegb]) ?_ | ((try ((with_reducible refine wZ ?_); (try simp [go_sem]))); first | refine dCall.plain (hRVi) (by simp [go_sem, hegb]) ?_ | refine dGC.plain _ (fun _ => hRVi) (by simp [go_sem, hegb]) ?_))
    (repeat (first|with_reducible refine wV fun _=>?_|simp [go_sem, hegl, hi, hs, hsm2]))
    refine ALoop.start (ALoop.ind (α := Nat) (fun k => ⟨[(3, .v (.bool true)), (4, .ref 1 0 9 0 0), (5, .ref 2 0 5 0 0), (6, .ref 9 0 5 0 0), (7, encPs l), (8, .v (.int .i64 i)), (9, .ref 31 0 5 0 0), (10, .v (.int .i64 (A k))), (11, .v (.int .i64 (B k))), (12, .v (.int .i64 (C k))), (13, .v (.int .i64 k))],
     [(1, .rows true 0 9 [eg]), (2, .rows true 0 5 [encPos p]), (9, .rows true 0 5 [encPos b]), (31, .rows true 0 5 [encPos m])], 33⟩)
     (fun d k => k + d = K) ?_ K 0 ?_) ?_ ?_
    ·rintro d2 k k1 hrec2
     (repeat (first|with_reducible refine wV fun _=>?_|simp [go_sem, hegl, hegk, hK, hs]))
     refine aIf.mkL (fun hk => ?_) (fun hk => ?_) <;> simp at hk
     ·have q1 := gA k (by omega)
      have q2 := gA (k + 1) (by omega)
      have q3 := gB k (by omega)
      have q4 := gB (k + 1) (by omega)
      have q5 := gC k (by omega)
      have q6 := gC (k + 1) (by omega)
      have q7 := hbn k (by omega)
      have q8 := hbd k (by omega)
      have sA := sA k (by omega)
      have sB := sB k (by omega)
      have sC := sC k (by omega)
      rw [hs] at q7 q8 sA sB sC
      simp only [show (0 : Int).toNat = 0 from rfl, show (1 : Int).toNat = 1 from rfl, show ((1 : Int) - 0).toNat = 1 from rfl, show ((1 : Int) - 1).toNat = 0 from rfl, Nat.add_zero, Nat.add_assoc,
       show ∀ q : PosD, q.hand 0 = q.h0 from fun _ => rfl, show ∀ q : PosD, q.hand 1 = q.h1 from fun _ => rfl] at q7 q8 sA sB sC
      have e1 : (1 + 2 * (k : Int)).toNat = 1 + 2 * k := by omega
      have e2 : (1 + 2 * (k : Int) + 1).toNat = 1 + (2 * k + 1) := by omega
      have e3 : (2 + 2 * (k : Int)).toNat = 1 + (2 * k + 1) := by omega
      have e4 : (2 + 2 * (k : Int) - 1).toNat = 1 + 2 * k := by omega
      have l1 : 1 + 2 * k < m.at_.length := by omega
      have l2 : 1 + (2 * k + 1) < m.at_.length := by omega
      have l3 : 1 + 2 * k < b.at_.length := by omega
      have l4 : 1 + (2 * k + 1) < b.at_.length := by omega
      have l5 : k < p.h0.length := by have := hp.h0.len; omega
      have l6 : k < p.h1.length := by have := hp.h1.len; omega
      have l7 : k < (nth l i).h0.length := by have := hok.h0.len; omega
      have l8 : k < (nth l i).h1.length := by have := hok.h1.len; omega
      have hgk : nth (g.kinds.map encKind) k = encKind (nth g.kinds k) := nth_map _ _ _ (by omega)
      cases hkp : (nth g.kinds k).keep
      ·rw [hkp, if_neg (by simp)] at sC
       (repeat (first|with_reducible refine wV fun _=>?_|simp [go_sem, hegl, hegk, hK, hs, e1, e2, e3, e4, l1, l2, l3, l4, l5, l6, l7, l8, hh1, hh2, hb1, hb2, hkp, hgk]))
       refine ALoop.start (hrec2 (d2 - 1) (by omega) (k + 1) (by omega)) ?_ (by simp)
       simp [go_sem, Wk_eq, hegb, sA, sB, sC, hs, hh1, hh2, hb1, hb2]
      ·rw [hkp, if_pos rfl] at sC
       (repeat (first|with_reducible refine wV fun _=>?_|simp [go_sem, hegl, hegk, hK, hs, e1, e2, e3, e4, l1, l2, l3, l4, l5, l6, l7, l8, hh1, hh2, hb1, hb2, hkp, hgk]))
       refine ALoop.start (hrec2 (d2 - 1) (by omega) (k + 1) (by omega)) ?_ (by simp)
       simp [go_sem, Wk_eq, hegb, sA, sB, sC, hs, hh1, hh2, hb1, hb2]
     ·obtain rfl : k = K := by omega
      generalize A k = ak at *
      generalize B k = bk at *
      generalize C k = ck at *
      subst hAC
      (repeat (first|with_reducible refine wV fun _=>?_|simp [go_sem, hegl]))
      (refine aIf.mkL (fun hF => by first | omega | (simp at hF; omega)) (fun hF => ?_); clear hF)
      (repeat (first|with_reducible refine wV fun _=>?_|simp [go_sem, hegl]))
      refine ALoop.start (hrec (d - 1) (by omega) (i + 1) (by omega)) ?_ (by simp)
      simp [go_sem, Wk_eq, hegb, hs, hh1, hh2, hb1, hb2]
    ·simp
    ·simp [go_sem, Wk_eq, hegb, z1, z2, z3, hs, hsm2, hh1, hh2, hb1, hb2]
    ·simp
  ·(repeat (first|with_reducible refine wV fun _=>?_|simp [go_sem, hegl]))
 ·simp
 ·simp [go_sem, Wk_eq, hegb]
 ·simp
end Go.Av
end
section
/- What the rows list of play.conditions gives: the world invariant of our contracts. -/
open Go Go.Proofs
namespace Go.Av
theorem tok_func {P : Program} {t : TypeId} {fn : Fn} {first caps : Array Value} {l : List UInt8} (hl : l ≠ []) (h : funcToken P (t, .func fn first caps) = l) :
  ∃ f F, fn = .func f ∧ first = #[] ∧ caps = #[] ∧ P.funcs[f]? = some F ∧ P.funcNamed F.name = some f ∧ F.name.toUTF8.data.toList = l := by
 unfold funcToken at h
 cases fn with
 | func f =>
  simp only at h
  split at h
  ·rename_i hc
   simp only [Bool.and_eq_true, Array.isEmpty_iff] at hc
   split at h
   ·rename_i F hF
    split at h
    ·rename_i hn
     exact ⟨f, F, rfl, hc.1, hc.2, hF, by simpa using hn, h⟩
    ·exact absurd h.symm hl
   ·exact absurd h.symm hl
  ·exact absurd h.symm hl
 | _ => exact absurd h.symm hl
theorem trod_fn {P : Program} {w : World} {sp : Nat → Bool} {fuel : Nat} {e : TypeId} {d : TypeDesc} {v : Value} {l : List UInt8} {q : List MemPlace} (hd : P.underlying e = some d) (hf : ∃ a b c, d = .func a b c) (h : DataW.trod (funcToken P) P w 0 sp true fuel e [v] = some (.held l, q)) :
  ∃ fn first caps, v = .func fn first caps ∧ funcToken P (e, .func fn first caps) = l := by
 obtain ⟨a, b, c, rfl⟩ := hf
 cases fuel with
 | zero => simp [DataW.trod] at h
 | succ fuel =>
  simp only [DataW.trod, hd] at h
  cases v <;> simp at h
  exact ⟨_, _, _, rfl, h.1⟩
theorem trod_nilf {P : Program} {w : World} {sp : Nat → Bool} {fuel : Nat} {e : TypeId} {d : TypeDesc} {v : Value} {q : List MemPlace} (hd : P.underlying e = some d) (hf : ∃ a b c, d = .func a b c) (h : DataW.trod (funcToken P) P w 0 sp true fuel e [v] = some (.nil, q)) : v = .nilFunc := by
 obtain ⟨a, b, c, rfl⟩ := hf
 cases fuel with
 | zero => simp [DataW.trod] at h
 | succ fuel =>
  simp only [DataW.trod, hd] at h
  cases v <;> simp at h
  rfl
theorem bytes_name {a b : String} (h : a.toUTF8.data.toList = b.toUTF8.data.toList) : a = b := by
 have h1 : a.toUTF8 = b.toUTF8 := ByteArray.ext (Array.toList_inj.1 h)
 exact String.toByteArray_inj.1 h1
theorem fn_named {n : String} {k : FuncId} {l : List UInt8} {t : TypeId} {fn : Fn} {first caps : Array Value} (hk : Tryz.prog.funcNamed n = some k) (hl : n.toUTF8.data.toList = l) (hne : l ≠ []) (h : funcToken Tryz.prog (t, .func fn first caps) = l) : fn = .func k ∧ first = #[] ∧ caps = #[] := by
 obtain ⟨f, F, h1, h2, h3, h4, h5, h6⟩ := tok_func hne h
 have e : F.name = n := bytes_name (h6.trans hl.symm)
 rw [e, hk] at h5
 cases h5
 exact ⟨h1, h2, h3⟩
def condsD : DataW Unit := .agg [.nil, .iface "func" (.lit (.string [115, 107, 101, 119, 101, 114, 47, 112, 108, 97, 121, 46, 99, 111, 110, 100, 105, 116, 105, 111, 110, 115, 36, 49])), .iface "func" (.lit (.string [115, 107, 101, 119, 101, 114, 47, 112, 108, 97, 121, 46, 99, 111, 110, 100, 105, 116, 105, 111, 110, 115, 36, 50])), .iface "func" (.lit (.string [115, 107, 101, 119, 101, 114, 47, 112, 108, 97, 121, 46, 99, 111, 110, 100, 105, 116, 105, 111, 110, 115, 36, 51]))]
theorem conds_cells {W : World} (h : funcsAt Tryz.prog W "skewer/play.conditions" condsD) :
  ∃ cs T fz, W.heap[0]? = some (.cells cs T fz) ∧ cs.toList = [.nilFunc, .func (.func 328) #[] #[], .func (.func 330) #[] #[], .func (.func 331) #[] #[]] := by
 obtain ⟨g, t, cs, fuel, p, hg, ht, hcs, htr⟩ := h
 obtain rfl : g = 0 := (Option.some.inj ((show Tryz.prog.globalNamed "skewer/play.conditions" = some 0 by kernel_rfl).symm.trans hg)).symm
 obtain rfl : t = 201 := (Option.some.inj ((show (Tryz.prog.globals[0]?).map (·.type) = some 201 by kernel_rfl).symm.trans ht)).symm
 have hu : Tryz.prog.underlying 201 = some (.array 4 200) := by kernel_rfl
 have hc1 : Tryz.prog.cellsOf 200 = 1 := by kernel_rfl
 have hc4 : Tryz.prog.cellsOf 201 = 4 := by kernel_rfl
 have hheap : ∃ T fz, W.heap[0]? = some (.cells cs T fz) := by
  unfold World.var? at hcs
  rw [show Tryz.prog.globalNamed "skewer/play.conditions" = some 0 by kernel_rfl] at hcs
  simp only [Option.bind_some] at hcs
  split at hcs
  ·rename_i c T fz hb
   cases hcs
   exact ⟨T, fz, hb⟩
  ·cases hcs
 obtain ⟨T, fz, hb⟩ := hheap
 refine ⟨cs, T, fz, hb, ?_⟩
 cases fuel with
 | zero => simp [DataW.trod] at htr
 | succ fuel =>
  simp only [DataW.trod, hu, hc1, hc4, Nat.mul_one] at htr
  split at htr
  ·rename_i hl
   match hcl : cs.toList, hl with
   | [a, b, c, d], _ =>
    rw [hcl] at htr
    obtain ⟨xs, hm, hx⟩ := Option.map_eq_some_iff.1 htr
    simp only [show List.range 4 = [0, 1, 2, 3] from rfl, List.mapM_cons, List.mapM_nil, List.drop_zero, List.drop_succ_cons, List.take_succ_cons, List.take_zero, Option.bind_eq_bind, Option.bind_eq_some_iff, Option.pure_def, Option.some.injEq] at hm
    obtain ⟨⟨y0, q0⟩, h0, l1, ⟨⟨y1, q1⟩, h1, l2, ⟨⟨y2, q2⟩, h2, l3, ⟨⟨y3, q3⟩, h3, l4, rfl, rfl⟩, rfl⟩, rfl⟩, rfl⟩ := hm
    have hx1 := congrArg Prod.fst hx
    simp only [condsD, DataW.funcsOut, DataW.funcsOutAll, List.map_cons, List.map_nil, DataW.agg.injEq, List.cons.injEq, and_true] at hx1
    simp at hx1
    obtain ⟨rfl, rfl, rfl, rfl⟩ := hx1
    have hd : Tryz.prog.underlying 200 = some (.func #[39, 45, 78] #[4] false) := by kernel_rfl
    have hf : ∃ a b c, TypeDesc.func #[39, 45, 78] #[4] false = .func a b c := ⟨_, _, _, rfl⟩
    obtain rfl := trod_nilf hd hf h0
    obtain ⟨f1, i1, c1, rfl, t1⟩ := trod_fn hd hf h1
    obtain ⟨f2, i2, c2, rfl, t2⟩ := trod_fn hd hf h2
    obtain ⟨f3, i3, c3, rfl, t3⟩ := trod_fn hd hf h3
    obtain ⟨rfl, rfl, rfl⟩ := fn_named (n := "skewer/play.conditions$1") (k := 328) (by kernel_rfl) (by decide +kernel) (by simp) t1
    obtain ⟨rfl, rfl, rfl⟩ := fn_named (n := "skewer/play.conditions$2") (k := 330) (by kernel_rfl) (by decide +kernel) (by simp) t2
    obtain ⟨rfl, rfl, rfl⟩ := fn_named (n := "skewer/play.conditions$3") (k := 331) (by kernel_rfl) (by decide +kernel) (by simp) t3
    rfl
  ·cases htr
theorem glb_of_conds {W : World} (h : funcsAt Tryz.prog W "skewer/play.conditions" condsD) : GlbOk W (fun _ => False) := by
 obtain ⟨cs, T, fz, hb, hcs⟩ := conds_cells h
 have hsz : cs.size = 4 := by rw [← Array.length_toList, hcs]; rfl
 intro q hq
 have e : q = (0, [AV.v .nilFunc, .fn (.func 328) [] [], .fn (.func 330) [] [], .fn (.func 331) [] []]) := by simpa [glbs] using hq
 subst e
 refine Rel.fp (C := cs) (T := T) (fz := fz) rfl (fun h => h) hb (by simp [hsz]) ?_ ?_
 ·intro u hu
  simp only [hcs, List.drop_zero] at hu
  simp at hu
  rcases hu with rfl | rfl | rfl | rfl <;> rfl
 ·simp only [hcs, List.drop_zero]
  exact .cons (.v _) (.cons (.fn .nil .nil) (.cons (.fn .nil .nil) (.cons (.fn .nil .nil) .nil)))
end Go.Av
end
section
/- Rows that are tied cards: the world that the text lays. -/
open Go Go.Proofs Go.Av Go.ChangeShapes Go.RowKit
namespace Go.Proofs.YtkahkcakggflaaaGreatDoor
theorem door_own : ownKnob Tryz.prog.godebug = none := by kernel_rfl
theorem door_lo : laidOutB Tryz.prog = true := by kernel_rfl
abbrev doorList : List (String × DataW Unit) := [("math/bits.deBruijn32tab", Rows.laid_math_bits_deBruijn32tab), ("math/bits.deBruijn64tab", Rows.laid_math_bits_deBruijn64tab), ("internal/strconv.uint64pow10", Rows.laid_internal_strconv_uint64pow10), ("skewer/play.conditions", Rows.laid_skewer_play_conditions)]
theorem door_met (os : Os) (args : Array Value) : laidMetH Tryz.prog doorList ((World.doorLaid Tryz.prog 29 os).forCall (fun _ _ => 0) ⟨#[], args, []⟩).memory :=
 laidMetH_of_parts3 (fuel := 8) (laidMet_of_run' 8 (by kernel_rfl) (by kernel_rfl)) (by kernel_rfl) (by kernel_rfl)
theorem door_vars (os : Os) (args : Array Value) : ((World.doorLaid Tryz.prog 29 os).forCall (fun _ _ => 0) ⟨#[], args, []⟩).variablesB Tryz.prog = true := by kernel_rfl
theorem door_heap (os : Os) (args : Array Value) : (((World.doorLaid Tryz.prog 29 os).forCall (fun _ _ => 0) ⟨#[], args, []⟩).heap.toList.drop Tryz.prog.globals.size).take ((begin Tryz.prog (fun _ _ => 0) default).world.heap.size - Tryz.prog.globals.size) =
  (begin Tryz.prog (fun _ _ => 0) default).world.heap.toList.drop Tryz.prog.globals.size := by kernel_rfl
end Go.Proofs.YtkahkcakggflaaaGreatDoor
end
