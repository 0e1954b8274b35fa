/- The law PlayMen: its call gives true. -/
import Derived.Test.YtodgjebghpgjbaaGreatDoorRk
import Derived.Test.YtodgjebghpgjbaaGreatDoorMN
section
set_option linter.unusedSimpArgs false
set_option linter.unusedVariables false
open Go Go.Proofs
set_option maxRecDepth 20000
set_option maxHeartbeats 4000000
namespace Go.Av
theorem countsP_lenK (g : GameD) (p : PosD) (side : Int) : (countsP g p side).length = g.kinds.length := cntL_len _ _ _ _
theorem menP_le9 {g : GameD} (hg : GOk g) {p : PosD} (hp : POk g p) (side kind : Int) : menP p side kind ≤ 9 := by
 have h : menP p side kind ≤ p.at_.length := List.countP_le_length
 have := hp.al
 have := hg.c9
 omega
theorem PlayMen_pure (x : Raw6) (hx : Raw6Ok x) : Pure Tryz.prog 7 [.agg (encRaw6 x)] (.v (.bool true)) := by
 refine Pure.of (ACallP.of_awp (by kernel_rfl) Tryz.func7 rfl rfl (Nat.le_of_ble_eq_true rfl) (by kernel_rfl) ?_)
 have hM := R6Made_pure x hx
 have hg := game6_ok hx
 have hp := pos6_ok hx
 obtain ⟨er, her⟩ : ∃ er, er = encRaw6 x := ⟨_, rfl⟩
 have herl : er.length = 31 := by rw [her]; exact raw6_len hx
 have herb : ∀ n, (∀ c ∈ er, Bel n c) = True := fun n => by rw [her]; exact raw6_bel hx n
 rw [← her] at hM ⊢
 generalize game6 x = g at *
 generalize pos6 x = p at *
 have hS := sanity6_pure
 have hPM := Moves_pure g hg p hp
 have hml := movesP_len hg hp
 have hmo := fun m hm => (movesP_ok hg hp m hm).1
 have hmen := fun m hm => movesP_men hg hp (m := m) hm
 have hps := hp.s
 have hps' : 1 - p.side = 0 ∨ 1 - p.side = 1 := by omega
 have cA := Count_pure g hg p hp p.side hp.s
 have cB := Count_pure g hg p hp (1 - p.side) hps'
 have cC := fun m hm => Count_pure g hg m (hmo m hm) p.side hp.s
 have cD := fun m hm => Count_pure g hg m (hmo m hm) (1 - p.side) hps'
 have hV : ∀ m ∈ movesP g p, Pure Tryz.prog 33 [.agg (encGame g), .agg (encPos m)] (.v (.bool true)) := fun m hm => by
  have := RValid_pure g (by have := hg.k6; unfold FitsG; omega) ⟨hg.r0, by have := hg.r4; omega⟩ m ((hmo m hm).fits hg)
  rwa [pOk_iff.2 (hmo m hm)] at this
 have lA := countsP_lenK g p p.side
 have lB := countsP_lenK g p (1 - p.side)
 have lC := fun m => countsP_lenK g m p.side
 have lD := fun m => countsP_lenK g m (1 - p.side)
 have nA := fun k (hk : k < g.kinds.length) => nth_countsP g p p.side hk
 have nB := fun k (hk : k < g.kinds.length) => nth_countsP g p (1 - p.side) hk
 have nC := fun m k (hk : k < g.kinds.length) => nth_countsP g m p.side hk
 have nD := fun m k (hk : k < g.kinds.length) => nth_countsP g m (1 - p.side) hk
 have bA := fun k : Int => menP_le9 hg hp p.side k
 have bC := fun m hm (k : Int) => menP_le9 hg (hmo m hm) p.side k
 have k6 := hg.k6
 generalize hK : g.kinds.length = K at *
 have hegl : (encGame g).length = 9 := rfl
 have hegb : ∀ n, (∀ c ∈ encGame g, Bel n c) = True := fun n => by simp [go_sem]
 have hegk : cel (encGame g) 3 = .lst 3 (g.kinds.map encKind) := rfl
 generalize hl : movesP g p = l at *
 generalize encGame g = eg at *
 (repeat (first | with_reducible (first | refine wL fun _ => ?_ | refine wD fun _ => ?_ | refine wE ?_ | refine adrZ.go ?_) | simp [go_sem, herl]))
 refine ACallP.plain hS (by simp [go_sem]) ?_
 (repeat (first | with_reducible (first | refine wL fun _ => ?_ | refine wD fun _ => ?_ | refine wE ?_ | refine adrZ.go ?_) | simp [go_sem, herl]))
 refine ACallP.plain hM (by simp [go_sem, herb]) ?_
 (repeat (first | with_reducible (first | refine wL fun _ => ?_ | refine wD fun _ => ?_ | refine wE ?_ | refine adrZ.go ?_) | simp [go_sem, herl, hegl]))
 refine ACallP.plain hPM (by simp [go_sem, hegb]) ?_
 (repeat (first | with_reducible (first | refine wL fun _ => ?_ | refine wD fun _ => ?_ | refine wE ?_ | refine adrZ.go ?_) | simp [go_sem, herl, hegl]))
 refine ALoop.start (ALoop.ind (α := Nat) (fun i => ⟨[(3, .v (.bool true)), (4, .ref 1 0 9 0 0), (5, .ref 2 0 5 0 0), (6, encPs l), (7, .v (.int .i64 i))], [(1, .rows true 0 9 [eg]), (2, .rows true 0 5 [encPos p])], 3⟩)
  (fun d i => i + d = l.length) ?_ l.length 0 ?_) ?_ ?_
 ·rintro d i i1 hrec
  (repeat (first | with_reducible (first | refine wL fun _ => ?_ | refine wD fun _ => ?_ | refine wE ?_ | refine adrZ.go ?_) | simp [go_sem, hegl]))
  refine aIf.mkL (fun hi => ?_) (fun hi => ?_) <;> simp at hi
  ·have hm := nth_mem hi
   obtain ⟨m1, m2⟩ := hmen _ hm
   have hok := hmo _ hm
   have cC := cC _ hm
   have cD := cD _ hm
   have hV := hV _ hm
   have lC := lC (nth l i)
   have lD := lD (nth l i)
   have nC := nC (nth l i)
   have nD := nD (nth l i)
   have bC := bC _ hm
   generalize countsP g p p.side = A at *
   generalize countsP g p (1 - p.side) = B at *
   generalize countsP g (nth l i) p.side = C at *
   generalize countsP g (nth l i) (1 - p.side) = D at *
   (repeat (first | with_reducible (first | refine wL fun _ => ?_ | refine wD fun _ => ?_ | refine wE ?_ | refine adrZ.go ?_) | simp [go_sem, hegl, hi]))
   try ((with_reducible refine adrZ.go ?_); (try simp [go_sem]))
   refine dCall.plain hV (by simp [go_sem, hegb]) ?_
   (repeat (first | with_reducible (first | refine wL fun _ => ?_ | refine wD fun _ => ?_ | refine wE ?_ | refine adrZ.go ?_) | simp [go_sem, hegl, hi]))
   try ((with_reducible refine adrZ.go ?_); (try simp [go_sem]))
   refine dCall.plain cA (by simp [go_sem, hegb]) ?_
   (repeat (first | with_reducible (first | refine wL fun _ => ?_ | refine wD fun _ => ?_ | refine wE ?_ | refine adrZ.go ?_) | simp [go_sem, hegl, hi]))
   try ((with_reducible refine adrZ.go ?_); (try simp [go_sem]))
   refine dCall.plain cB (by simp [go_sem, hegb]) ?_
   (repeat (first | with_reducible (first | refine wL fun _ => ?_ | refine wD fun _ => ?_ | refine wE ?_ | refine adrZ.go ?_) | simp [go_sem, hegl, hi]))
   try ((with_reducible refine adrZ.go ?_); (try simp [go_sem]))
   refine dCall.plain cC (by simp [go_sem, hegb]) ?_
   (repeat (first | with_reducible (first | refine wL fun _ => ?_ | refine wD fun _ => ?_ | refine wE ?_ | refine adrZ.go ?_) | simp [go_sem, hegl, hi]))
   try ((with_reducible refine adrZ.go ?_); (try simp [go_sem]))
   refine dCall.plain cD (by simp [go_sem, hegb]) ?_
   (repeat (first | with_reducible (first | refine wL fun _ => ?_ | refine wD fun _ => ?_ | refine wE ?_ | refine adrZ.go ?_) | simp [go_sem, hegl, hi, hegk, lA, lB, lC, lD, hK]))
   obtain ⟨G, hG⟩ : ∃ G : Nat → Int, ∀ j, G j = sumK (fun k => nth C k - nth A k) j := ⟨_, fun _ => rfl⟩
   obtain ⟨H, hH⟩ : ∃ H : Nat → Int, ∀ j, H j = sumK (fun k => nth (p.hand p.side) k - nth ((nth l i).hand p.side) k) j := ⟨_, fun _ => rfl⟩
   have hfin : G K = 0 ∨ G K = 1 ∧ H K = 1 := by
    rw [hG, hH, sumK_congr (g := fun k => (menP (nth l i) p.side (k : Int) : Int) - (menP p p.side (k : Int) : Int)) fun k hk => by rw [nC k hk, nA k hk]]
    exact m2
   have gb : ∀ j, j ≤ K → -54 ≤ G j ∧ G j ≤ 54 := fun j hj => by
    have := sumK_bound (f := fun k => nth C k - nth A k) (b := 9) (by omega) (n := j) (fun k hk => by
     have h1 := nC k (by omega)
     have h2 := nA k (by omega)
     have h3 := bC k
     have h4 := bA k
     omega)
    rw [hG]
    omega
   have hlA := (hp.hand p.side).len
   have hlC := (hok.hand p.side).len
   have hbA := (hp.hand p.side).v
   have hbC := (hok.hand p.side).v
   have hdb : ∀ k, k < K → -8 ≤ nth (p.hand p.side) k - nth ((nth l i).hand p.side) k ∧ nth (p.hand p.side) k - nth ((nth l i).hand p.side) k ≤ 8 := fun k hk => by
    have h1 := hbA k (by omega)
    have h2 := hbC k (by omega)
    omega
   have hb : ∀ j, j ≤ K → -48 ≤ H j ∧ H j ≤ 48 := fun j hj => by
    have := sumK_bound (f := fun k => nth (p.hand p.side) k - nth ((nth l i).hand p.side) k) (b := 8) (by omega) (n := j) (fun k hk => hdb k (by omega))
    rw [hH]
    omega
   have gs : ∀ j, G (j + 1) = G j + (nth C j - nth A j) := fun j => by rw [hG, hG]; rfl
   have hs : ∀ j, H (j + 1) = H j + (nth (p.hand p.side) j - nth ((nth l i).hand p.side) j) := fun j => by rw [hH, hH]; rfl
   have g0 : G 0 = 0 := by rw [hG]; rfl
   have h0 : H 0 = 0 := by rw [hH]; rfl
   have dle : ∀ k, k < K → nth D k ≤ nth B k := fun k hk => by
    rw [nD k hk, nB k hk]
    have := m1 k
    omega
   have cb : ∀ k, k < K → -9 ≤ nth C k - nth A k ∧ nth C k - nth A k ≤ 9 := fun k hk => by
    have h1 := nC k hk
    have h2 := nA k hk
    have h3 := bC k
    have h4 := bA k
    omega
   clear hG hH nA nB nC nD bC bA m1 m2
   refine ALoop.start (ALoop.ind (α := Nat) (fun k => ⟨[(3, .v (.bool true)), (4, .ref 1 0 9 0 0), (5, .ref 2 0 5 0 0), (6, encPs l), (7, .v (.int .i64 i)), (8, encIs A), (9, encIs B), (10, encIs C), (11, encIs D), (12, .v (.int .i64 (G k))), (13, .v (.int .i64 (H k))), (14, .v (.int .i64 k))], [(1, .rows true 0 9 [eg]), (2, .rows true 0 5 [encPos p])], 3⟩)
    (fun d k => k + d = K) ?_ K 0 ?_) ?_ ?_
   ·rintro d2 k k1 hrec2
    (repeat (first | with_reducible (first | refine wL fun _ => ?_ | refine wD fun _ => ?_ | refine wE ?_ | refine adrZ.go ?_) | simp [go_sem, hegl, hegk, hK]))
    refine aIf.mkL (fun hk => ?_) (fun hk => ?_) <;> simp at hk
    ·have hkA : k < A.length := by omega
     have hkB : k < B.length := by omega
     have hkC : k < C.length := by omega
     have hkD : k < D.length := by omega
     have q1 := cb k (by omega)
     have q2 := gb k (by omega)
     have q3 := gb (k + 1) (by omega)
     have q4 := hb k (by omega)
     have q5 := hb (k + 1) (by omega)
     have q6 := hdb k (by omega)
     have q7 := dle k (by omega)
     have gs := gs k
     have hs := hs k
     have hkP : k < (p.hand p.side).length := by omega
     have hkQ : k < ((nth l i).hand p.side).length := by omega
     rcases hps with hsd | hsd
     ·have e1 : p.hand p.side = p.h0 := by unfold PosD.hand; rw [hsd]; rfl
      have e2 : (nth l i).hand p.side = (nth l i).h0 := by unfold PosD.hand; rw [hsd]; rfl
      rw [e1] at hkP hs q6
      rw [e2] at hkQ hs q6
      (repeat (first | with_reducible (first | refine wL fun _ => ?_ | refine wD fun _ => ?_ | refine wE ?_ | refine adrZ.go ?_) | simp [go_sem, hegl, hkA, hkB, hkC, hkD, hi, hsd, hkP, hkQ]))
      (refine aIf.mkL (fun hF => by first | omega | (simp at hF; omega)) (fun hF => ?_); clear hF)
      (repeat (first | with_reducible (first | refine wL fun _ => ?_ | refine wD fun _ => ?_ | refine wE ?_ | refine adrZ.go ?_) | simp [go_sem, hegl]))
      refine ALoop.start (hrec2 (d2 - 1) (by omega) (k + 1) (by omega)) ?_ (by simp)
      simp [go_sem, Wk_eq, hegb, gs, hs, hsd]
     ·have e1 : p.hand p.side = p.h1 := by unfold PosD.hand; rw [hsd]; rfl
      have e2 : (nth l i).hand p.side = (nth l i).h1 := by unfold PosD.hand; rw [hsd]; rfl
      rw [e1] at hkP hs q6
      rw [e2] at hkQ hs q6
      (repeat (first | with_reducible (first | refine wL fun _ => ?_ | refine wD fun _ => ?_ | refine wE ?_ | refine adrZ.go ?_) | simp [go_sem, hegl, hkA, hkB, hkC, hkD, hi, hsd, hkP, hkQ]))
      (refine aIf.mkL (fun hF => by first | omega | (simp at hF; omega)) (fun hF => ?_); clear hF)
      (repeat (first | with_reducible (first | refine wL fun _ => ?_ | refine wD fun _ => ?_ | refine wE ?_ | refine adrZ.go ?_) | simp [go_sem, hegl]))
      refine ALoop.start (hrec2 (d2 - 1) (by omega) (k + 1) (by omega)) ?_ (by simp)
      simp [go_sem, Wk_eq, hegb, gs, hs, hsd]
    ·obtain rfl : k = K := by omega
     generalize G k = gk at *
     generalize H k = hk' at *
     (repeat (first | with_reducible (first | refine wL fun _ => ?_ | refine wD fun _ => ?_ | refine wE ?_ | refine adrZ.go ?_) | simp [go_sem, hegl]))
     refine aIf.mkL (fun hF => ?_) (fun _ => ?_)
     ·exfalso
      rcases hfin with rfl | ⟨rfl, rfl⟩ <;> simp at hF
     ·(repeat (first | with_reducible (first | refine wL fun _ => ?_ | refine wD fun _ => ?_ | refine wE ?_ | refine adrZ.go ?_) | simp [go_sem, hegl]))
      refine ALoop.start (hrec (d - 1) (by omega) (i + 1) (by omega)) ?_ (by simp)
      simp [go_sem, Wk_eq, hegb]
   ·simp
   ·simp [go_sem, Wk_eq, hegb, g0, h0]
   ·simp
  ·(repeat (first | with_reducible (first | refine wL fun _ => ?_ | refine wD fun _ => ?_ | refine wE ?_ | refine adrZ.go ?_) | simp [go_sem, hegl]))
 ·simp
 ·simp [go_sem, Wk_eq, hegb]
 ·simp
end Go.Av
end
