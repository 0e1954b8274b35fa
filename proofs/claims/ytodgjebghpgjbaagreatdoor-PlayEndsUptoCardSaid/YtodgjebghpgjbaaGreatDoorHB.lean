/- The law PlayEnds: its call gives true. -/
import Derived.Test.YtodgjebghpgjbaaGreatDoorRk
section
set_option linter.unusedSimpArgs false
set_option linter.unusedVariables false
open Go Go.Proofs
set_option maxRecDepth 20000
set_option maxHeartbeats 4000000
namespace Go.Av
theorem endedP_at {g : GameD} {p : PosD} {i : Nat} (hi : i < g.clauses.length) (h : ∀ j, j < i → condP (nth g.clauses j) p = false) (hc : condP (nth g.clauses i) p = true) : endedP g p = i := by
 have : g.clauses.findIdx? (fun c => condP c p) = some i := by
  rw [List.findIdx?_eq_some_iff_getElem]
  refine ⟨hi, by rw [← nth_eq _ _ hi]; exact hc, fun j hj => ?_⟩
  have := h j hj
  rw [nth_eq _ _ (by omega)] at this
  simp [this]
 unfold endedP
 rw [this]
theorem endedP_no {g : GameD} {p : PosD} (h : ∀ j, j < g.clauses.length → condP (nth g.clauses j) p = false) : endedP g p = -1 := by
 have : g.clauses.findIdx? (fun c => condP c p) = none := by
  rw [List.findIdx?_eq_none_iff]
  intro x hx
  obtain ⟨j, hj, rfl⟩ := List.getElem_of_mem hx
  rw [← nth_eq _ _ hj]
  exact h j hj
 unfold endedP
 rw [this]
theorem statusV_eq (g : GameD) (p : PosD) : statusV g p = if 0 ≤ endedP g p then ((nth g.clauses (endedP g p).toNat).2.2.2, true) else if movesP g p = [] then (g.blocked, true) else (0, false) := by
 unfold statusV endedV
 split <;> rfl
theorem statusV_2 (g : GameD) (p : PosD) : (statusV g p).2 = decide (movesP g p = []) := by
 rw [statusV_eq]
 split
 ·rename_i h
  have e : movesP g p = [] := if_pos h
  simp [e]
 ·split <;> simp [*]
theorem PlayEnds_pure (x : Raw6) (hx : Raw6Ok x) : Pure Tryz.prog 4 [.agg (encRaw6 x)] (.v (.bool true)) := by
 refine Pure.of (ACallP.of_awp (by kernel_rfl) Tryz.func4 rfl rfl (Nat.le_of_ble_eq_true rfl) (by kernel_rfl) ?_)
 have hM := R6Made_pure x hx
 have hg := game6_ok hx
 have hp := pos6_ok hx
 obtain ⟨er, her⟩ : ∃ er, er = encRaw6 x := ⟨_, rfl⟩
 have herl : er.length = 31 := by rw [her]; exact raw6_len hx
 have herb : ∀ n, (∀ c ∈ er, Bel n c) = True := fun n => by rw [her]; exact raw6_bel hx n
 rw [← her] at hM ⊢
 generalize game6 x = g at *
 generalize pos6 x = p at *
 have hS := sanity6_pure
 have hSt := lawStatus_pure g hg p hp
 have hPM := Moves_pure g hg p hp
 have hml := movesP_len hg hp
 have hcn := hg.cn
 have hC := fun c hc => R6Condition_pure g hg p hp c (hg.cl c hc)
 have h2 := statusV_2 g p
 have h3 : (statusV g p).2 = false → (statusV g p).1 = 0 := fun h => by
  rw [statusV_eq] at h ⊢
  split at h
  ·simp at h
  ·rename_i h0
   rw [if_neg h0]
   split at h
   ·simp at h
   ·rename_i h1
    rw [if_neg h1]
 have hAt : ∀ i, i < g.clauses.length → (∀ j, j < i → condP (nth g.clauses j) p = false) → condP (nth g.clauses i) p = true → statusV g p = ((nth g.clauses i).2.2.2, true) := fun i hi h hc => by
  rw [statusV_eq, endedP_at hi h hc, if_pos (by omega), Int.toNat_natCast]
 have hNo : (∀ j, j < g.clauses.length → condP (nth g.clauses j) p = false) → (statusV g p).2 = true → (statusV g p).1 = g.blocked := fun h hb => by
  rw [statusV_eq, endedP_no h, if_neg (by omega)] at hb ⊢
  split at hb
  ·rename_i h1
   rw [if_pos h1]
  ·simp at hb
 generalize statusV g p = st at *
 obtain ⟨so, sb⟩ := st
 simp only [Prod.mk.injEq] at h2 h3 hNo hAt
 have hegl : (encGame g).length = 9 := rfl
 have hegb : ∀ n, (∀ c ∈ encGame g, Bel n c) = True := fun n => by simp [go_sem]
 have hegc : cel (encGame g) 6 = .lst 4 (g.clauses.map encClause) := rfl
 have hegk : cel (encGame g) 7 = .v (.int .i64 g.blocked) := rfl
 generalize g.clauses = cls at *
 generalize g.blocked = bl at *
 generalize movesP g p = l at *
 generalize encGame g = eg at *
 (repeat (first | with_reducible (first | refine wL fun _ => ?_ | refine wD fun _ => ?_ | refine wE ?_ | refine adrZ.go ?_) | simp [go_sem, herl]))
 refine ACallP.plain hS (by simp [go_sem]) ?_
 (repeat (first | with_reducible (first | refine wL fun _ => ?_ | refine wD fun _ => ?_ | refine wE ?_ | refine adrZ.go ?_) | simp [go_sem, herl]))
 refine ACallP.plain hM (by simp [go_sem, herb]) ?_
 (repeat (first | with_reducible (first | refine wL fun _ => ?_ | refine wD fun _ => ?_ | refine wE ?_ | refine adrZ.go ?_) | simp [go_sem, herl, hegl]))
 refine ACallP.plain hSt (by simp [go_sem, hegb]) ?_
 (repeat (first | with_reducible (first | refine wL fun _ => ?_ | refine wD fun _ => ?_ | refine wE ?_ | refine adrZ.go ?_) | simp [go_sem, herl, hegl, encOver]))
 try ((with_reducible refine adrZ.go ?_); (try simp [go_sem]))
 refine dCall.plain hPM (by simp [go_sem, hegb]) ?_
 have hsb : sb = true ∨ sb = false ∧ so = 0 := by
  cases sb
  ·exact .inr ⟨rfl, h3 rfl⟩
  ·exact .inl rfl
 have hl0 : decide ((l.length : Int) = 0) = sb := by
  rw [h2, decide_eq_decide]
  exact ⟨fun h => List.eq_nil_of_length_eq_zero (by omega), fun h => by rw [h]; rfl⟩
 have hl1 : ((l.length : Int) = 0) = (sb = true) := by
  rw [← hl0]
  simp
 have hl2 : (l = []) = (sb = true) := by
  rw [h2]
  simp
 clear h2 h3 hl0
 rcases hsb with rfl | ⟨rfl, rfl⟩
 ·(repeat (first | with_reducible (first | refine wL fun _ => ?_ | refine wD fun _ => ?_ | refine wE ?_ | refine adrZ.go ?_) | simp [go_sem, hegl, hl1, hl2]))
  refine ALoop.start (ALoop.ind (α := Nat) (fun i => ⟨[(3, .v (.bool true)), (4, .ref 1 0 9 0 0), (5, .ref 2 0 5 0 0), (6, .ref 3 0 2 0 0), (7, .v (.int .i64 i))], [(1, .rows true 0 9 [eg]), (2, .rows true 0 5 [encPos p]), (3, .rows true 0 2 [[.v (.int .i64 so), .v (.bool true)]])], 4⟩)
   (fun d i => i + d = cls.length ∧ ∀ j, j < i → condP (nth cls j) p = false) ?_ cls.length 0 ?_) ?_ ?_
  ·rintro d i ⟨i1, i2⟩ hrec
   (repeat (first | with_reducible (first | refine wL fun _ => ?_ | refine wD fun _ => ?_ | refine wE ?_ | refine adrZ.go ?_) | simp [go_sem, hegl, hegc]))
   refine aIf.mkL (fun hi => ?_) (fun hi => ?_) <;> simp at hi
   ·have hCi := hC _ (nth_mem hi)
    have hAt := hAt i hi i2
    generalize hcb : condP (nth cls i) p = cb at *
    generalize hni : nth cls i = ci at *
    (repeat (first | with_reducible (first | refine wL fun _ => ?_ | refine wD fun _ => ?_ | refine wE ?_ | refine adrZ.go ?_) | simp [go_sem, hegl, hegc, hi, hni]))
    try ((with_reducible refine adrZ.go ?_); (try simp [go_sem]))
    refine dCall.plain hCi (by simp [go_sem]) ?_
    cases cb
    ·(repeat (first | with_reducible (first | refine wL fun _ => ?_ | refine wD fun _ => ?_ | refine wE ?_ | refine adrZ.go ?_) | simp [go_sem, hegl, hegc]))
     refine ALoop.start (hrec (d - 1) (by omega) (i + 1) ⟨by omega, fun j hj => ?_⟩) ?_ (by simp)
     ·rcases Nat.lt_or_ge j i with h' | h'
      ·exact i2 j h'
      ·obtain rfl : j = i := by omega
       rw [hni]; exact hcb
     ·simp [go_sem, Wk_eq, hegb]
    ·obtain ⟨e1, e2⟩ := hAt rfl
     subst e1
     (repeat (first | with_reducible (first | refine wL fun _ => ?_ | refine wD fun _ => ?_ | refine wE ?_ | refine adrZ.go ?_) | simp [go_sem, hegl, hegc, hi, hni]))
   ·have hb := hNo (fun j hj => i2 j (by omega))
    (repeat (first | with_reducible (first | refine wL fun _ => ?_ | refine wD fun _ => ?_ | refine wE ?_ | refine adrZ.go ?_) | simp [go_sem, hegl, hegk, hb rfl]))
  ·exact ⟨by simp, fun j hj => by omega⟩
  ·simp [go_sem, Wk_eq, hegb]
  ·simp
 ·(repeat (first | with_reducible (first | refine wL fun _ => ?_ | refine wD fun _ => ?_ | refine wE ?_ | refine adrZ.go ?_) | simp [go_sem, hegl, hl1, hl2]))
  refine ALoop.start (ALoop.ind (α := Nat) (fun i => ⟨[(3, .v (.bool true)), (4, .ref 1 0 9 0 0), (5, .ref 2 0 5 0 0), (6, .ref 3 0 2 0 0), (7, .v (.int .i64 i))], [(1, .rows true 0 9 [eg]), (2, .rows true 0 5 [encPos p]), (3, .rows true 0 2 [[.v (.int .i64 0), .v (.bool false)]])], 4⟩)
   (fun d i => i + d = cls.length ∧ ∀ j, j < i → condP (nth cls j) p = false) ?_ cls.length 0 ?_) ?_ ?_
  ·rintro d i ⟨i1, i2⟩ hrec
   (repeat (first | with_reducible (first | refine wL fun _ => ?_ | refine wD fun _ => ?_ | refine wE ?_ | refine adrZ.go ?_) | simp [go_sem, hegl, hegc]))
   refine aIf.mkL (fun hi => ?_) (fun hi => ?_) <;> simp at hi
   ·have hCi := hC _ (nth_mem hi)
    have hAt := hAt i hi i2
    generalize hcb : condP (nth cls i) p = cb at *
    generalize hni : nth cls i = ci at *
    (repeat (first | with_reducible (first | refine wL fun _ => ?_ | refine wD fun _ => ?_ | refine wE ?_ | refine adrZ.go ?_) | simp [go_sem, hegl, hegc, hi, hni]))
    try ((with_reducible refine adrZ.go ?_); (try simp [go_sem]))
    refine dCall.plain hCi (by simp [go_sem]) ?_
    cases cb
    ·(repeat (first | with_reducible (first | refine wL fun _ => ?_ | refine wD fun _ => ?_ | refine wE ?_ | refine adrZ.go ?_) | simp [go_sem, hegl, hegc]))
     refine ALoop.start (hrec (d - 1) (by omega) (i + 1) ⟨by omega, fun j hj => ?_⟩) ?_ (by simp)
     ·rcases Nat.lt_or_ge j i with h' | h'
      ·exact i2 j h'
      ·obtain rfl : j = i := by omega
       rw [hni]; exact hcb
     ·simp [go_sem, Wk_eq, hegb]
    ·obtain ⟨e1, e2⟩ := hAt rfl
     exact absurd e2 (by simp)
   ·have hb := hNo (fun j hj => i2 j (by omega))
    (repeat (first | with_reducible (first | refine wL fun _ => ?_ | refine wD fun _ => ?_ | refine wE ?_ | refine adrZ.go ?_) | simp [go_sem, hegl, hegk]))
  ·exact ⟨by simp, fun j hj => by omega⟩
  ·simp [go_sem, Wk_eq, hegb]
  ·simp
end Go.Av
end
