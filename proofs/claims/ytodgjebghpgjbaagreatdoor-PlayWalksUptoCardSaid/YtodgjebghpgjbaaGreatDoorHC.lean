/- The law PlayEnds: its call gives true. -/
import Derived.Test.YtodgjebghpgjbaaGreatDoorRk
section
set_option linter.unusedSimpArgs false
set_option linter.unusedVariables false
open Go Go.Proofs
set_option maxRecDepth 20000
set_option maxHeartbeats 4000000
namespace Go.Av
theorem endedP_at {g : GameD} {p : PosD} {i : Nat} (hi : i < g.clauses.length) (h : ∀ j, j < i → condP (nth g.clauses j) p = false) (hc : condP (nth g.clauses i) p = true) : endedP g p = i := by
 have : g.clauses.findIdx? (fun c => condP c p) = some i := by
  rw [List.findIdx?_eq_some_iff_getElem]
  refine ⟨hi, by rw [← nth_eq _ _ hi]; exact hc, fun j hj => ?_⟩
  have := h j hj
  rw [nth_eq _ _ (by omega)] at this
  simp [this]
 unfold endedP
 rw [this]
theorem endedP_no {g : GameD} {p : PosD} (h : ∀ j, j < g.clauses.length → condP (nth g.clauses j) p = false) : endedP g p = -1 := by
 have : g.clauses.findIdx? (fun c => condP c p) = none := by
  rw [List.findIdx?_eq_none_iff]
  intro x hx
  obtain ⟨j, hj, rfl⟩ := List.getElem_of_mem hx
  rw [← nth_eq _ _ hj]
  exact h j hj
 unfold endedP
 rw [this]
theorem statusV_eq (g : GameD) (p : PosD) : statusV g p = if 0 ≤ endedP g p then ((nth g.clauses (endedP g p).toNat).2.2.2, true) else if movesP g p = [] then (g.blocked, true) else (0, false) := by
 unfold statusV endedV
 split <;> rfl
theorem statusV_2 (g : GameD) (p : PosD) : (statusV g p).2 = decide (movesP g p = []) := by
 rw [statusV_eq]
 split
 ·rename_i h
  have e : movesP g p = [] := if_pos h
  simp [e]
 ·split <;> simp [*]
theorem PlayEnds_pure (x : Raw6) (hx : Raw6Ok x) : Pure Tryz.prog 4 [.agg (encRaw6 x)] (.v (.bool true)) := by
 refine Pure.of (ACallP.of_awp (by kernel_rfl) Tryz.func4 rfl rfl (Nat.le_of_ble_eq_true rfl) (by kernel_rfl) ?_)
 have hM := R6Made_pure x hx
 have hg := game6_ok hx
 have hp := pos6_ok hx
 obtain ⟨er, her⟩ : ∃ er, er = encRaw6 x := ⟨_, rfl⟩
 have herl : er.length = 31 := by rw [her]; exact raw6_len hx
 have herb : ∀ n, (∀ c ∈ er, Bel n c) = True := fun n => by rw [her]; exact raw6_bel hx n
 rw [← her] at hM ⊢
 generalize game6 x = g at *
 generalize pos6 x = p at *
 have hS := sanity6_pure
 have hSt := lawStatus_pure g hg p hp
 have hPM := Moves_pure g hg p hp
 have hml := movesP_len hg hp
 have hcn := hg.cn
 have hC := fun c hc => R6Condition_pure g hg p hp c (hg.cl c hc)
 have h2 := statusV_2 g p
 have h3 : (statusV g p).2 = false → (statusV g p).1 = 0 := fun h => by
  rw [statusV_eq] at h ⊢
  split at h
  ·simp at h
  ·rename_i h0
   rw [if_neg h0]
   split at h
   ·simp at h
   ·rename_i h1
    rw [if_neg h1]
 have hAt : ∀ i, i < g.clauses.length → (∀ j, j < i → condP (nth g.clauses j) p = false) → condP (nth g.clauses i) p = true → statusV g p = ((nth g.clauses i).2.2.2, true) := fun i hi h hc => by
  rw [statusV_eq, endedP_at hi h hc, if_pos (by omega), Int.toNat_natCast]
 have hNo : (∀ j, j < g.clauses.length → condP (nth g.clauses j) p = false) → (statusV g p).2 = true → (statusV g p).1 = g.blocked := fun h hb => by
  rw [statusV_eq, endedP_no h, if_neg (by omega)] at hb ⊢
  split at hb
  ·rename_i h1
   rw [if_pos h1]
  ·simp at hb
 generalize statusV g p = st at *
 obtain ⟨so, sb⟩ := st
 simp only [Prod.mk.injEq] at h2 h3 hNo hAt
 have hegl : (encGame g).length = 9 := rfl
 have hegb : ∀ n, (∀ c ∈ encGame g, Bel n c) = True := fun n => by simp [go_sem]
 have hegc : cel (encGame g) 6 = .lst 4 (g.clauses.map encClause) := rfl
 have hegk : cel (encGame g) 7 = .v (.int .i64 g.blocked) := rfl
 generalize g.clauses = cls at *
 generalize g.blocked = bl at *
 generalize movesP g p = l at *
 generalize encGame g = eg at *
 (repeat (first | with_reducible (first | refine wL fun _ => ?_ | refine wD fun _ => ?_ | refine wE ?_ | refine adrZ.go ?_) | simp [go_sem, herl]))
 refine ACallP.plain hS (by simp [go_sem]) ?_
 (repeat (first | with_reducible (first | refine wL fun _ => ?_ | refine wD fun _ => ?_ | refine wE ?_ | refine adrZ.go ?_) | simp [go_sem, herl]))
 refine ACallP.plain hM (by simp [go_sem, herb]) ?_
 (repeat (first | with_reducible (first | refine wL fun _ => ?_ | refine wD fun _ => ?_ | refine wE ?_ | refine adrZ.go ?_) | simp [go_sem, herl, hegl]))
 refine ACallP.plain hSt (by simp [go_sem, hegb]) ?_
 (repeat (first | with_reducible (first | refine wL fun _ => ?_ | refine wD fun _ => ?_ | refine wE ?_ | refine adrZ.go ?_) | simp [go_sem, herl, hegl, encOver]))
 try ((with_reducible refine adrZ.go ?_); (try simp [go_sem]))
 refine dCall.plain hPM (by simp [go_sem, hegb]) ?_
 have hsb : sb = true ∨ sb = false ∧ so = 0 := by
  cases sb
  ·exact .inr ⟨rfl, h3 rfl⟩
  ·exact .inl rfl
 have hl0 : decide ((l.length : Int) = 0) = sb := by
  rw [h2, decide_eq_decide]
  exact ⟨fun h => List.eq_nil_of_length_eq_zero (by omega), fun h => by rw [h]; rfl⟩
 have hl1 : ((l.length : Int) = 0) = (sb = true) := by
  rw [← hl0]
  simp
 have hl2 : (l = []) = (sb = true) := by
  rw [h2]
  simp
 clear h2 h3 hl0
 rcases hsb with rfl | ⟨rfl, rfl⟩
 ·(repeat (first | with_reducible (first | refine wL fun _ => ?_ | refine wD fun _ => ?_ | refine wE ?_ | refine adrZ.go ?_) | simp [go_sem, hegl, hl1, hl2]))
  refine ALoop.start (ALoop.ind (α := Nat) (fun i => ⟨[(3, .v (.bool true)), (4, .ref 1 0 9 0 0), (5, .ref 2 0 5 0 0), (6, .ref 3 0 2 0 0), (7, .v (.int .i64 i))], [(1, .rows true 0 9 [eg]), (2, .rows true 0 5 [encPos p]), (3, .rows true 0 2 [[.v (.int .i64 so), .v (.bool true)]])], 4⟩)
   (fun d i => i + d = cls.length ∧ ∀ j, j < i → condP (nth cls j) p = false) ?_ cls.length 0 ?_) ?_ ?_
  ·rintro d i ⟨i1, i2⟩ hrec
   (repeat (first | with_reducible (first | refine wL fun _ => ?_ | refine wD fun _ => ?_ | refine wE ?_ | refine adrZ.go ?_) | simp [go_sem, hegl, hegc]))
   refine aIf.mkL (fun hi => ?_) (fun hi => ?_) <;> simp at hi
   ·have hCi := hC _ (nth_mem hi)
    have hAt := hAt i hi i2
    generalize hcb : condP (nth cls i) p = cb at *
    generalize hni : nth cls i = ci at *
    (repeat (first | with_reducible (first | refine wL fun _ => ?_ | refine wD fun _ => ?_ | refine wE ?_ | refine adrZ.go ?_) | simp [go_sem, hegl, hegc, hi, hni]))
    try ((with_reducible refine adrZ.go ?_); (try simp [go_sem]))
    refine dCall.plain hCi (by simp [go_sem]) ?_
    cases cb
    ·(repeat (first | with_reducible (first | refine wL fun _ => ?_ | refine wD fun _ => ?_ | refine wE ?_ | refine adrZ.go ?_) | simp [go_sem, hegl, hegc]))
     refine ALoop.start (hrec (d - 1) (by omega) (i + 1) ⟨by omega, fun j hj => ?_⟩) ?_ (by simp)
     ·rcases Nat.lt_or_ge j i with h' | h'
      ·exact i2 j h'
      ·obtain rfl : j = i := by omega
       rw [hni]; exact hcb
     ·simp [go_sem, Wk_eq, hegb]
    ·obtain ⟨e1, e2⟩ := hAt rfl
     subst e1
     (repeat (first | with_reducible (first | refine wL fun _ => ?_ | refine wD fun _ => ?_ | refine wE ?_ | refine adrZ.go ?_) | simp [go_sem, hegl, hegc, hi, hni]))
   ·have hb := hNo (fun j hj => i2 j (by omega))
    (repeat (first | with_reducible (first | refine wL fun _ => ?_ | refine wD fun _ => ?_ | refine wE ?_ | refine adrZ.go ?_) | simp [go_sem, hegl, hegk, hb rfl]))
  ·exact ⟨by simp, fun j hj => by omega⟩
  ·simp [go_sem, Wk_eq, hegb]
  ·simp
 ·(repeat (first | with_reducible (first | refine wL fun _ => ?_ | refine wD fun _ => ?_ | refine wE ?_ | refine adrZ.go ?_) | simp [go_sem, hegl, hl1, hl2]))
  refine ALoop.start (ALoop.ind (α := Nat) (fun i => ⟨[(3, .v (.bool true)), (4, .ref 1 0 9 0 0), (5, .ref 2 0 5 0 0), (6, .ref 3 0 2 0 0), (7, .v (.int .i64 i))], [(1, .rows true 0 9 [eg]), (2, .rows true 0 5 [encPos p]), (3, .rows true 0 2 [[.v (.int .i64 0), .v (.bool false)]])], 4⟩)
   (fun d i => i + d = cls.length ∧ ∀ j, j < i → condP (nth cls j) p = false) ?_ cls.length 0 ?_) ?_ ?_
  ·rintro d i ⟨i1, i2⟩ hrec
   (repeat (first | with_reducible (first | refine wL fun _ => ?_ | refine wD fun _ => ?_ | refine wE ?_ | refine adrZ.go ?_) | simp [go_sem, hegl, hegc]))
   refine aIf.mkL (fun hi => ?_) (fun hi => ?_) <;> simp at hi
   ·have hCi := hC _ (nth_mem hi)
    have hAt := hAt i hi i2
    generalize hcb : condP (nth cls i) p = cb at *
    generalize hni : nth cls i = ci at *
    (repeat (first | with_reducible (first | refine wL fun _ => ?_ | refine wD fun _ => ?_ | refine wE ?_ | refine adrZ.go ?_) | simp [go_sem, hegl, hegc, hi, hni]))
    try ((with_reducible refine adrZ.go ?_); (try simp [go_sem]))
    refine dCall.plain hCi (by simp [go_sem]) ?_
    cases cb
    ·(repeat (first | with_reducible (first | refine wL fun _ => ?_ | refine wD fun _ => ?_ | refine wE ?_ | refine adrZ.go ?_) | simp [go_sem, hegl, hegc]))
     refine ALoop.start (hrec (d - 1) (by omega) (i + 1) ⟨by omega, fun j hj => ?_⟩) ?_ (by simp)
     ·rcases Nat.lt_or_ge j i with h' | h'
      ·exact i2 j h'
      ·obtain rfl : j = i := by omega
       rw [hni]; exact hcb
     ·simp [go_sem, Wk_eq, hegb]
    ·obtain ⟨e1, e2⟩ := hAt rfl
     exact absurd e2 (by simp)
   ·have hb := hNo (fun j hj => i2 j (by omega))
    (repeat (first | with_reducible (first | refine wL fun _ => ?_ | refine wD fun _ => ?_ | refine wE ?_ | refine adrZ.go ?_) | simp [go_sem, hegl, hegk]))
  ·exact ⟨by simp, fun j hj => by omega⟩
  ·simp [go_sem, Wk_eq, hegb]
  ·simp
end Go.Av
end
section
set_option linter.unusedSimpArgs false
set_option linter.unusedVariables false
open Go Go.Proofs
set_option maxRecDepth 20000
set_option maxHeartbeats 4000000
namespace Go.Av
theorem walkP_zero (g : GameD) (p : PosD) (l : List Int) : nth (walkP g p l) 0 = p := by
 cases l with
 | nil => rfl
 | cons k l => rw [walkP]; split <;> rfl
theorem walkP_step (g : GameD) : ∀ (l : List Int) (p : PosD) (i : Nat), i + 1 < (walkP g p l).length → i < l.length ∧ movesP g (nth (walkP g p l) i) ≠ [] ∧
  nth (walkP g p l) (i + 1) = nth (movesP g (nth (walkP g p l) i)) ((nth l i).emod (movesP g (nth (walkP g p l) i)).length).toNat
 | [], p, i, h => by simp [walkP] at h
 | k :: l, p, i, h => by
  rw [walkP] at h ⊢
  split at h
  ·simp at h
  ·rename_i hm
   rw [if_neg hm]
   cases i with
   | zero => exact ⟨by simp, hm, walkP_zero _ _ _⟩
   | succ i =>
    rw [nth_succ, nth_succ, nth_succ]
    have := walkP_step g l (nth (movesP g p) (k.emod (movesP g p).length).toNat) i (by simpa using h)
    exact ⟨by have := this.1; simp; omega, this.2⟩
theorem walkP_last (g : GameD) : ∀ (l : List Int) (p : PosD), (walkP g p l).length = l.length + 1 ∨ movesP g (nth (walkP g p l) ((walkP g p l).length - 1)) = []
 | [], p => by simp [walkP]
 | k :: l, p => by
  rw [walkP]
  split
  ·rename_i hm
   right; exact hm
  ·rcases walkP_last g l (nth (movesP g p) (k.emod (movesP g p).length).toNat) with h | h
   ·left; simp [h]
   ·right
    have hne := List.length_pos_iff.2 (walkP_ne g (nth (movesP g p) (k.emod (movesP g p).length).toNat) l)
    rw [List.length_cons, show (walkP g (nth (movesP g p) (k.emod (movesP g p).length).toNat) l).length + 1 - 1 = ((walkP g (nth (movesP g p) (k.emod (movesP g p).length).toNat) l).length - 1) + 1 by omega, nth_succ]
    exact h
theorem PlayWalks_pure (x : Raw6) (hx : Raw6Ok x) (picks : List Int) (hl : picks.length ≤ 1048576) (hb : ∀ k ∈ picks, -9223372036854775808 ≤ k ∧ k ≤ 9223372036854775807) :
  Pure Tryz.prog 6 [.agg (encRaw6 x), encIs picks] (.v (.bool true)) := by
 refine Pure.of (ACallP.of_awp (by kernel_rfl) Tryz.func6 rfl rfl (Nat.le_of_ble_eq_true rfl) (by kernel_rfl) ?_)
 have hM := R6Made_pure x hx
 have hg := game6_ok hx
 have hp := pos6_ok hx
 obtain ⟨er, her⟩ : ∃ er, er = encRaw6 x := ⟨_, rfl⟩
 have herl : er.length = 31 := by rw [her]; exact raw6_len hx
 have herb : ∀ n, (∀ c ∈ er, Bel n c) = True := fun n => by rw [her]; exact raw6_bel hx n
 rw [← her] at hM ⊢
 generalize game6 x = g at *
 generalize pos6 x = p at *
 have hS := sanity6_pure
 have hW := Walk_pure g hg p hp picks hl
 have hwl := walkP_len g picks p
 have hwo := walkP_ok hg picks hp
 have hw0 := walkP_zero g p picks
 have hwn := List.length_pos_iff.2 (walkP_ne g p picks)
 have hws := walkP_step g picks p
 have hwt := walkP_last g picks p
 have hV : ∀ m, POk g m → Pure Tryz.prog 33 [.agg (encGame g), .agg (encPos m)] (.v (.bool true)) := fun m hm => by
  have := RValid_pure g (by have := hg.k6; unfold FitsG; omega) ⟨hg.r0, by have := hg.r4; omega⟩ m (hm.fits hg)
  rwa [pOk_iff.2 hm] at this
 have hC0 := pCompare_pure p p (hp.fits hg) (hp.fits hg)
 rw [(cmp_pos.eq p p).2 rfl] at hC0
 generalize walkP g p picks = w at *
 have hlast := hwo _ (nth_mem (show w.length - 1 < w.length by omega))
 have hSt := lawStatus_pure g hg _ hlast
 have hSt2 := statusV_2 g (nth w (w.length - 1))
 have hwt' : (w.length : Int) = picks.length + 1 ∨ (statusV g (nth w (w.length - 1))).2 = true := by
  rcases hwt with h | h
  ·left; omega
  ·right; rw [hSt2, h]; rfl
 generalize statusV g (nth w (w.length - 1)) = st at *
 obtain ⟨so, sb⟩ := st
 simp only at hwt'
 have hVl := hV _ hlast
 clear hwt hSt2
 have hegl : (encGame g).length = 9 := rfl
 have hegb : ∀ n, (∀ c ∈ encGame g, Bel n c) = True := fun n => by simp [go_sem]
 generalize heg : encGame g = eg at *
 (repeat (first | with_reducible (first | refine wL fun _ => ?_ | refine wD fun _ => ?_ | refine wE ?_ | refine adrZ.go ?_) | simp [go_sem, herl]))
 refine ACallP.plain hS (by simp [go_sem]) ?_
 (repeat (first | with_reducible (first | refine wL fun _ => ?_ | refine wD fun _ => ?_ | refine wE ?_ | refine adrZ.go ?_) | simp [go_sem, herl]))
 refine aIf.mkL (fun h6 => ?_) (fun h6 => ?_) <;> simp at h6
 ·(repeat (first | with_reducible (first | refine wL fun _ => ?_ | refine wD fun _ => ?_ | refine wE ?_ | refine adrZ.go ?_) | simp [go_sem]))
 ·(repeat (first | with_reducible (first | refine wL fun _ => ?_ | refine wD fun _ => ?_ | refine wE ?_ | refine adrZ.go ?_) | simp [go_sem, herl]))
  refine ACallP.plain hM (by simp [go_sem, herb]) ?_
  (repeat (first | with_reducible (first | refine wL fun _ => ?_ | refine wD fun _ => ?_ | refine wE ?_ | refine adrZ.go ?_) | simp [go_sem, herl, hegl]))
  refine ACallP.plain hW (by simp [go_sem, hegb]) ?_
  have hz : (w = []) = False := eq_false (fun h => by rw [h] at hwn; simp at hwn)
  have hz1 : ((picks.length : Int) + 1 < w.length) = False := eq_false (by omega)
  (repeat (first | with_reducible (first | refine wL fun _ => ?_ | refine wD fun _ => ?_ | refine wE ?_ | refine adrZ.go ?_) | simp [go_sem, hegl, hz, hz1, hwn, hw0]))
  try ((with_reducible refine adrZ.go ?_); (try simp [go_sem]))
  refine dGC.plain _ (fun _ => hC0) (by simp [go_sem]) ?_
  (repeat (first | with_reducible (first | refine wL fun _ => ?_ | refine wD fun _ => ?_ | refine wE ?_ | refine adrZ.go ?_) | simp [go_sem, hegl]))
  refine ALoop.start (ALoop.ind (α := Nat) (fun i => ⟨[(1, encIs picks), (5, .v (.bool true)), (6, .ref 1 0 9 0 0), (8, encPs w), (9, .v (.int .i64 ((i : Int) + 1)))], [(1, .rows true 0 9 [eg])], 3⟩)
   (fun d i => i + 1 + d = w.length) ?_ (w.length - 1) 0 ?_) ?_ ?_
  ·rintro d i i1 hrec
   (repeat (first | with_reducible (first | refine wL fun _ => ?_ | refine wD fun _ => ?_ | refine wE ?_ | refine adrZ.go ?_) | simp [go_sem, hegl]))
   refine aIf.mkL (fun hi => ?_) (fun hi => ?_) <;> simp at hi
   ·have hi1 : i < w.length := by omega
    have hi2 : i + 1 < w.length := by omega
    obtain ⟨q1, q2, q3⟩ := hws i hi2
    have hok := hwo _ (nth_mem hi1)
    have hVi := hV _ hok
    have hPM := Moves_pure g hg _ hok
    rw [heg] at hPM
    have hmo := fun m hm => (((movesP_ok hg hok) m hm).1).fits hg
    have hml := movesP_len hg hok
    have hCm := fun a ha => pCompare_pure (nth w (i + 1)) a ((hwo _ (nth_mem hi2)).fits hg) ha
    generalize movesP g (nth w i) = l at *
    have hlp : 0 < l.length := List.length_pos_iff.2 q2
    have hlz : (l = []) = False := eq_false q2
    have e2 : 0 ≤ (nth picks i).emod l.length := Int.emod_nonneg _ (by omega)
    have e3 : (nth picks i).emod l.length < l.length := Int.emod_lt_of_pos _ (by omega)
    have h3 : (nth picks i).tmod l.length = (nth picks i).emod l.length ∨ (nth picks i).tmod l.length = (nth picks i).emod l.length - l.length := tmod_or (nth picks i) (by omega)
    generalize (nth picks i).emod l.length = k at *
    have hkl : k.toNat < l.length := by omega
    have e4 : ((i : Int) + 1).toNat = i + 1 := by omega
    have hCm := hCm (nth l k.toNat) (hmo _ (nth_mem hkl))
    rw [(cmp_pos.eq _ _).2 q3] at hCm
    (repeat (first | with_reducible (first | refine wL fun _ => ?_ | refine wD fun _ => ?_ | refine wE ?_ | refine adrZ.go ?_) | simp [go_sem, hegl, hi1, hi2, e4]))
    have hpk : i < picks.length := q1
    have e5 : k - (l.length : Int) + l.length = k := by omega
    rcases h3 with h3 | h3
    ·try ((with_reducible refine adrZ.go ?_); (try simp [go_sem]))
     refine dCall.plain hVi (by simp [go_sem, hegb]) ?_
     (repeat (first | with_reducible (first | refine wL fun _ => ?_ | refine wD fun _ => ?_ | refine wE ?_ | refine adrZ.go ?_) | simp [go_sem, hegl, hi1, hi2, e4]))
     try ((with_reducible refine adrZ.go ?_); (try simp [go_sem]))
     refine dCall.plain hPM (by simp [go_sem, hegb]) ?_
     (repeat (first | with_reducible (first | refine wL fun _ => ?_ | refine wD fun _ => ?_ | refine wE ?_ | refine adrZ.go ?_) | simp [go_sem, hegl, hi1, hi2, e4, hlz, h3, hpk]))
     (refine aIf.mkL (fun hF => by first | omega | (simp at hF; omega)) (fun hF => ?_); clear hF)
     (repeat (first | with_reducible (first | refine wL fun _ => ?_ | refine wD fun _ => ?_ | refine wE ?_ | refine adrZ.go ?_) | simp [go_sem, hegl, hi1, hi2, e4, hkl, e5]))
     try ((with_reducible refine adrZ.go ?_); (try simp [go_sem]))
     refine dCall.plain hCm (by simp [go_sem]) ?_
     (repeat (first | with_reducible (first | refine wL fun _ => ?_ | refine wD fun _ => ?_ | refine wE ?_ | refine adrZ.go ?_) | simp [go_sem, hegl]))
     refine ALoop.start (hrec (d - 1) (by omega) (i + 1) (by omega)) ?_ (by simp)
     simp [go_sem, Wk_eq, hegb]
    ·try ((with_reducible refine adrZ.go ?_); (try simp [go_sem]))
     refine dCall.plain hVi (by simp [go_sem, hegb]) ?_
     (repeat (first | with_reducible (first | refine wL fun _ => ?_ | refine wD fun _ => ?_ | refine wE ?_ | refine adrZ.go ?_) | simp [go_sem, hegl, hi1, hi2, e4]))
     try ((with_reducible refine adrZ.go ?_); (try simp [go_sem]))
     refine dCall.plain hPM (by simp [go_sem, hegb]) ?_
     (repeat (first | with_reducible (first | refine wL fun _ => ?_ | refine wD fun _ => ?_ | refine wE ?_ | refine adrZ.go ?_) | simp [go_sem, hegl, hi1, hi2, e4, hlz, h3, hpk]))
     (refine aIf.mkL (fun hT => ?_) (fun hT => by first | omega | (simp at hT; omega)); clear hT)
     (repeat (first | with_reducible (first | refine wL fun _ => ?_ | refine wD fun _ => ?_ | refine wE ?_ | refine adrZ.go ?_) | simp [go_sem, hegl, hi1, hi2, e4, hkl, e5]))
     try ((with_reducible refine adrZ.go ?_); (try simp [go_sem]))
     refine dCall.plain hCm (by simp [go_sem]) ?_
     (repeat (first | with_reducible (first | refine wL fun _ => ?_ | refine wD fun _ => ?_ | refine wE ?_ | refine adrZ.go ?_) | simp [go_sem, hegl]))
     refine ALoop.start (hrec (d - 1) (by omega) (i + 1) (by omega)) ?_ (by simp)
     simp [go_sem, Wk_eq, hegb]
   ·have hwi : ((w.length : Int) - 1).toNat = w.length - 1 := by omega
    have hwl1 : w.length - 1 < w.length := by omega
    (repeat (first | with_reducible (first | refine wL fun _ => ?_ | refine wD fun _ => ?_ | refine wE ?_ | refine adrZ.go ?_) | simp [go_sem, hegl, hwi, hwl1, hwn]))
    refine ACallP.plain hVl (by simp [go_sem, hegb]) ?_
    (repeat (first | with_reducible (first | refine wL fun _ => ?_ | refine wD fun _ => ?_ | refine wE ?_ | refine adrZ.go ?_) | simp [go_sem, hegl]))
    refine aGC.plain _ (fun _ => hSt) (by simp [go_sem, hegb]) ?_
    have hfin : (decide ((w.length : Int) = picks.length + 1) || sb) = true := by
     rcases hwt' with h | h
     ·simp [h]
     ·simp [h]
    (repeat (first | with_reducible (first | refine wL fun _ => ?_ | refine wD fun _ => ?_ | refine wE ?_ | refine adrZ.go ?_) | simp [go_sem, hegl, encOver]))
    rw [hfin]
    exact .refl _
  ·simp; omega
  ·simp [go_sem, Wk_eq, hegb]
  ·simp
end Go.Av
end
