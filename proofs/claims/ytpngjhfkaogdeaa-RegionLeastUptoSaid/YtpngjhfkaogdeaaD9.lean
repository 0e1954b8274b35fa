/- Contracts, boards: Made of the reference; made boards are valid. -/
import Derived.Test.YtpngjhfkaogdeaaD2
section
set_option linter.unusedSimpArgs false
set_option linter.unusedVariables false
open Go Go.Proofs
set_option maxRecDepth 20000
set_option maxHeartbeats 4000000
namespace Go.Av
theorem boardOk_grid {w h : Nat} (hw : 1 ≤ w ∧ w ≤ 8) (hh : 1 ≤ h ∧ h ≤ 8) : BoardOk (gridB w h) := by
  have hwh : w * h ≤ 64 := Nat.mul_le_mul hw.2 hh.2
  have e : ((w : Int) * h) = ((w * h : Nat) : Int) := by simp
  refine ⟨by simp [gridB, gridTurn, gridNext], ?_, ?_, ?_, ?_, ?_, by simp [gridB, gridNext]⟩
  · intro t ht
    simp only [gridB, gridTurn, List.mem_map, List.mem_range] at ht
    obtain ⟨i, hi, rfl⟩ := ht
    have h1 := Int.tmod_nonneg 8 (show (0 : Int) ≤ (i : Int) + 4 by omega)
    have h2 := Int.tmod_lt_of_pos ((i : Int) + 4) (show (0 : Int) < 8 by decide)
    simp [gridB, gridNext]; omega
  · intro l hl
    simp only [gridB, gridNext, List.mem_map, List.mem_range] at hl
    obtain ⟨i, hi, rfl⟩ := hl
    simp [gridRow, gridB]
  · intro l hl x hx
    simp only [gridB, gridNext, List.mem_map, List.mem_range] at hl
    obtain ⟨i, hi, rfl⟩ := hl
    simp only [gridRow, List.mem_map, List.mem_range] at hx
    obtain ⟨c, hc, rfl⟩ := hx
    simp only [gridB, gridStep]
    split
    · rename_i hg
      obtain ⟨⟨g1, g2⟩, g3, g4⟩ := hg
      generalize (c : Int).tmod w + nth dxL i = x at *
      generalize (c : Int).tdiv w + nth dyL i = y at *
      have k1 : 0 ≤ y * w := Int.mul_nonneg g3 (by omega)
      have k2 : y * w ≤ (h - 1) * w := Int.mul_le_mul_of_nonneg_right (by omega) (by omega)
      have k3 : ((h : Int) - 1) * w = w * h - w := by rw [Int.sub_mul, Int.mul_comm]; simp
      omega
    · omega
  · simp [gridB]; omega
  · simp only [gridB]; omega
theorem boardOk_without {b : BoardD} (hb : BoardOk b) (c : Int) : BoardOk (withoutB b c) := by
  have hl : (withoutNext b c b.next.length).length = b.next.length := by simp [withoutNext]
  have hc0 := hb.c0
  refine ⟨by simp only [withoutB, hl]; exact hb.tl, ?_, ?_, ?_, hb.c0, hb.c1, by simp only [withoutB, hl]; exact hb.n1⟩
  · intro t ht
    simp only [withoutB, hl]
    exact hb.tv t ht
  · intro l hl
    simp only [withoutB, withoutNext, List.mem_map, List.mem_range] at hl
    obtain ⟨i, hi, rfl⟩ := hl
    simp [withoutRow, withoutB]; omega
  · intro l hl x hx
    simp only [withoutB, withoutNext, List.mem_map, List.mem_range] at hl
    obtain ⟨i, hi, rfl⟩ := hl
    simp only [withoutRow, List.mem_map, List.mem_range] at hx
    obtain ⟨k, hk, rfl⟩ := hx
    simp only [withoutB, withoutStep]
    split
    · omega
    · have h1 := hb.nl _ (nth_mem hi)
      exact hb.nv _ (nth_mem hi) _ (nth_mem (by omega))
def madeB (w h cut : Int) : BoardD :=
  if 200 < cut then withoutB (gridB (1 + w.tmod 3).toNat (1 + h.tmod 3).toNat) (cut.tmod (gridB (1 + w.tmod 3).toNat (1 + h.tmod 3).toNat).cells) else gridB (1 + w.tmod 3).toNat (1 + h.tmod 3).toNat
theorem boardOk_made {w h : Int} (hw : 0 ≤ w) (hh : 0 ≤ h) (cut : Int) : BoardOk (madeB w h cut) := by
  have a0 := Int.tmod_nonneg 3 hw
  have a1 := Int.tmod_lt_of_pos w (show (0 : Int) < 3 by decide)
  have b0 := Int.tmod_nonneg 3 hh
  have b1 := Int.tmod_lt_of_pos h (show (0 : Int) < 3 by decide)
  have hg : BoardOk (gridB (1 + w.tmod 3).toNat (1 + h.tmod 3).toNat) := boardOk_grid (by omega) (by omega)
  unfold madeB
  split
  · exact boardOk_without hg _
  · exact hg
theorem R1Made_pure (w h cut : Int) (hw : 0 ≤ w ∧ w ≤ 255) (hh : 0 ≤ h ∧ h ≤ 255) (hc : 0 ≤ cut ∧ cut ≤ 255) : Pure Try.prog 24 [.v (.int .u8 w), .v (.int .u8 h), .v (.int .u8 cut)] (.agg (encB (madeB w h cut))) := by
  refine Pure.of (ACallP.of_awp (by kernel_rfl) Try.func24 rfl rfl (Nat.le_of_ble_eq_true rfl) (by kernel_rfl) ?_)
  have a0 := Int.tmod_nonneg 3 hw.1
  have a1 := Int.tmod_lt_of_pos w (show (0 : Int) < 3 by decide)
  have b0 := Int.tmod_nonneg 3 hh.1
  have b1 := Int.tmod_lt_of_pos h (show (0 : Int) < 3 by decide)
  obtain ⟨W, hW⟩ : ∃ W : Nat, 1 + w.tmod 3 = W := ⟨(1 + w.tmod 3).toNat, by omega⟩
  obtain ⟨H, hH⟩ : ∃ H : Nat, 1 + h.tmod 3 = H := ⟨(1 + h.tmod 3).toNat, by omega⟩
  have e : madeB w h cut = if 200 < cut then withoutB (gridB W H) (cut.tmod (gridB W H).cells) else gridB W H := by unfold madeB; rw [hW, hH]; rfl
  rw [e]
  have hG := R1Grid_pure W H (by omega) (by omega)
  have hok : BoardOk (gridB W H) := boardOk_grid (by omega) (by omega)
  have hcl : 1 ≤ (gridB W H).cells := by
    have : 1 * 1 ≤ W * H := Nat.mul_le_mul (by omega) (by omega)
    simp only [gridB]; exact_mod_cast this
  generalize gridB W H = b at *
  have m0 := Int.tmod_nonneg b.cells hc.1
  have m1 := Int.tmod_lt_of_pos cut (show (0 : Int) < b.cells by omega)
  have hWo := R1Without_pure b hok (cut.tmod b.cells) m0 m1
  have hel : (encB b).length = 3 := rfl
  have hbl : ∀ n, (∀ c' ∈ encB b, Bel n c') = True := fun n => by simp [go_sem]
  (repeat (first | with_reducible (first | refine wL fun _ => ?_ | refine wD fun _ => ?_ | refine wE ?_ | refine adrZ.go ?_) | simp [go_sem, hW, hH]))
  refine ACallP.plain hG (by simp [go_sem]) ?_
  (repeat (first | with_reducible (first | refine wL fun _ => ?_ | refine wD fun _ => ?_ | refine wE ?_ | refine adrZ.go ?_) | simp [go_sem]))
  refine aIf.mkL (fun hcut => ?_) (fun hcut => ?_) <;> simp at hcut
  · rw [if_pos hcut]
    (repeat (first | with_reducible (first | refine wL fun _ => ?_ | refine wD fun _ => ?_ | refine wE ?_ | refine adrZ.go ?_) | simp [go_sem]))
    try ((with_reducible refine adrZ.go ?_); (try simp [go_sem]))
    refine dCall.plain hWo (by simp [go_sem]) ?_
    (repeat (first | with_reducible (first | refine wL fun _ => ?_ | refine wD fun _ => ?_ | refine wE ?_ | refine adrZ.go ?_) | simp [go_sem]))
  · rw [if_neg (by omega)]
    (repeat (first | with_reducible (first | refine wL fun _ => ?_ | refine wD fun _ => ?_ | refine wE ?_ | refine adrZ.go ?_) | simp [go_sem]))
end Go.Av
end
section
set_option linter.unusedSimpArgs false
set_option linter.unusedVariables false
open Go Go.Proofs
set_option maxRecDepth 20000
set_option maxHeartbeats 4000000
namespace Go.Av
def encProg (p : List (Int × Int)) : AV := .lst 2 (p.map encStep)
theorem bel_S {n : Nat} {l : List (Int × Int)} : (∀ r ∈ l.map encStep, ∀ c ∈ r, Bel n c) = True := by
  refine eq_true ?_
  intro r hr c hc
  obtain ⟨x, _, rfl⟩ := List.mem_map.1 hr
  simp only [encStep, List.mem_cons, List.mem_nil_iff, or_false] at hc
  rcases hc with rfl | rfl <;> exact .v _
theorem bel_Prog {n : Nat} {l : List (Int × Int)} : Bel n (.lst 2 (l.map encStep)) = True := by rw [Bel_lst, bel_S]
attribute [go_sem] encProg
attribute [go_sem high] bel_Prog
theorem R2at_pure (l : List Int) (i : Nat) (hi : i ≤ 1000) (hl : l.length ≤ 9223372036854775807) (hv : ∀ x ∈ l, 0 ≤ x ∧ x ≤ 255) : Pure Try.prog 70 [encUs l, .v (.int .i64 i)] (.v (.int .i64 (if i < l.length then nth l i else 0))) := by
  refine Pure.of (ACallP.of_awp (by kernel_rfl) Try.func70 rfl rfl (Nat.le_of_ble_eq_true rfl) (by kernel_rfl) ?_)
  (repeat (first | with_reducible (first | refine wL fun _ => ?_ | refine wD fun _ => ?_ | refine wE ?_ | refine adrZ.go ?_) | simp [go_sem]))
  refine aIf.mkL (fun h => ?_) (fun h => ?_) <;> simp at h
  · have hb := hv _ (nth_mem h)
    rw [if_pos h]
    (repeat (first | with_reducible (first | refine wL fun _ => ?_ | refine wD fun _ => ?_ | refine wE ?_ | refine adrZ.go ?_) | simp [go_sem, h]))
  · rw [if_neg (by omega)]
    (repeat (first | with_reducible (first | refine wL fun _ => ?_ | refine wD fun _ => ?_ | refine wE ?_ | refine adrZ.go ?_) | simp [go_sem]))
def libL (d e k r : Int) : List (List (Int × Int)) :=
  [[(1, d), (3, 0)], [(1, d), (4, 0), (6, 0)], [(2, d)], [(2, d), (4, 0), (6, 0)], [(1, d), (4, 0), (6, 0), (1, d)], [(1, d), (1, e)], [(1, d), (7, d)], [(1, d), (3, 0), (8, k)],
   [(9, r), (1, d), (1, d), (10, r)], [(1, d), (5, 0), (1, d), (3, 0)], [(10, r), (1, d)], [(1, d), (4, 0), (6, 0), (1, (d + 4).tmod 8)], [(1, d), (4, 0), (6, 0), (1, e), (4, 0), (6, 0)], [(2, d), (5, 0), (1, d)], [(1, d), (4, 0), (6, 0), (8, k)], [(1, d), (7, d), (1, e)]]
theorem R2Lib_pure (a b c d e : Int) (hv : ∀ x ∈ [a, b, c, d, e], 0 ≤ x ∧ x ≤ 255) : Pure Try.prog 44 [encUs [a, b, c, d, e]] (encProg (nth (libL (b.tmod 8) (c.tmod 8) (d.tmod 6) (e.tmod 4)) (a.tmod 16).toNat)) := by
  refine Pure.of (ACallP.of_awp (by kernel_rfl) Try.func44 rfl rfl (Nat.le_of_ble_eq_true rfl) (by kernel_rfl) ?_)
  have hA := fun (i : Nat) (hi : i < 5) => R2at_pure [a, b, c, d, e] i (by omega) (by simp) hv
  have h0 := hA 0 (by omega)
  have h1 := hA 1 (by omega)
  have h2 := hA 2 (by omega)
  have h3 := hA 3 (by omega)
  have h4 := hA 4 (by omega)
  clear hA
  simp [nth] at h0 h1 h2 h3 h4 hv
  obtain ⟨v0, v1, v2, v3, v4⟩ := hv
  have b0 := Int.tmod_nonneg 8 v1.1
  have b1 := Int.tmod_lt_of_pos b (show (0 : Int) < 8 by decide)
  have a0 := Int.tmod_nonneg 16 v0.1
  have a1 := Int.tmod_lt_of_pos a (show (0 : Int) < 16 by decide)
  (repeat (first | with_reducible (first | refine wL fun _ => ?_ | refine wD fun _ => ?_ | refine wE ?_ | refine adrZ.go ?_) | simp [go_sem]))
  refine ACallP.plain h1 (by simp [go_sem]) ?_
  (repeat (first | with_reducible (first | refine wL fun _ => ?_ | refine wD fun _ => ?_ | refine wE ?_ | refine adrZ.go ?_) | simp [go_sem]))
  refine ACallP.plain h2 (by simp [go_sem]) ?_
  (repeat (first | with_reducible (first | refine wL fun _ => ?_ | refine wD fun _ => ?_ | refine wE ?_ | refine adrZ.go ?_) | simp [go_sem]))
  refine ACallP.plain h3 (by simp [go_sem]) ?_
  (repeat (first | with_reducible (first | refine wL fun _ => ?_ | refine wD fun _ => ?_ | refine wE ?_ | refine adrZ.go ?_) | simp [go_sem]))
  refine ACallP.plain h4 (by simp [go_sem]) ?_
  generalize hbv : b.tmod 8 = B at *
  generalize hcv : c.tmod 8 = C at *
  generalize hdv : d.tmod 6 = D at *
  generalize hev : e.tmod 4 = E at *
  (repeat (first | with_reducible (first | refine wL fun _ => ?_ | refine wD fun _ => ?_ | refine wE ?_ | refine adrZ.go ?_) | simp [go_sem, hbv, hcv, hdv, hev]))
  refine ACallP.plain h0 (by simp [go_sem]) ?_
  (repeat (first | with_reducible (first | refine wL fun _ => ?_ | refine wD fun _ => ?_ | refine wE ?_ | refine adrZ.go ?_) | simp [go_sem]))
  obtain ⟨i, hi⟩ : ∃ i : Nat, a.tmod 16 = i := ⟨(a.tmod 16).toNat, by omega⟩
  rw [hi] at a0 a1 ⊢
  rcases (show i = 0 ∨ i = 1 ∨ i = 2 ∨ i = 3 ∨ i = 4 ∨ i = 5 ∨ i = 6 ∨ i = 7 ∨ i = 8 ∨ i = 9 ∨ i = 10 ∨ i = 11 ∨ i = 12 ∨ i = 13 ∨ i = 14 ∨ i = 15 by omega) with rfl | rfl | rfl | rfl | rfl | rfl | rfl | rfl | rfl | rfl | rfl | rfl | rfl | rfl | rfl | rfl <;>
    (simp [nth, cel, libL, encStep]; refine LeV.frz rfl ?_ ?_ (LeRows.of_eq ?_) <;> simp [noH])
end Go.Av
end
section
set_option linter.unusedSimpArgs false
set_option linter.unusedVariables false
open Go Go.Proofs
set_option maxRecDepth 20000
set_option maxHeartbeats 4000000
namespace Go.Av
def fitStep (dirs kinds rights : Int) (x : Int × Int) : Option (Int × Int) :=
  if x.1 = 1 ∨ x.1 = 2 ∨ x.1 = 7 then some (x.1, x.2.tmod dirs) else if x.1 = 8 then some (x.1, x.2.tmod kinds)
  else if x.1 = 9 ∨ x.1 = 10 then (if rights = 0 then none else some (x.1, x.2.tmod rights)) else some x
def fitP (dirs kinds rights : Int) (p : List (Int × Int)) : List (Int × Int) := if p.filterMap (fitStep dirs kinds rights) = [] then [(3, 0)] else p.filterMap (fitStep dirs kinds rights)
theorem fm_take {α β : Type} [Inhabited α] (f : α → Option β) (l : List α) (j : Nat) (h : j < l.length) : (l.take (j + 1)).filterMap f = (l.take j).filterMap f ++ (f (nth l j)).toList := by
  rw [List.take_add_one, List.filterMap_append, List.getElem?_eq_getElem h, nth_eq _ _ h]
  cases hf : f l[j] <;> simp [hf]
theorem R2Fit_pure (p : List (Int × Int)) (hp : p.length ≤ 1048576) (dirs kinds rights : Int) (hd : 1 ≤ dirs) (hk : 1 ≤ kinds) (hr : 0 ≤ rights) :
    Pure Try.prog 43 [encProg p, .v (.int .i64 dirs), .v (.int .i64 kinds), .v (.int .i64 rights)] (encProg (fitP dirs kinds rights p)) := by
  refine Pure.of (ACallP.of_awp (by kernel_rfl) Try.func43 rfl rfl (Nat.le_of_ble_eq_true rfl) (by kernel_rfl) ?_)
  (repeat (first | with_reducible (first | refine wL fun _ => ?_ | refine wD fun _ => ?_ | refine wE ?_ | refine adrZ.go ?_) | simp [go_sem]))
  refine ALoop.start (ALoop.ind (α := Nat × List (Int × Int)) (fun a => ⟨[(0, encProg p), (1, .v (.int .i64 dirs)), (2, .v (.int .i64 kinds)), (3, .v (.int .i64 rights)), (9, .sl 0 a.2.length 2 0 a.2.length), (10, .v (.int .i64 a.1))], [(0, .rows true a.2.length 2 (a.2.map encStep))], 1⟩)
    (fun d a => a.1 + d = p.length ∧ a.2 = (p.take a.1).filterMap (fitStep dirs kinds rights) ∧ a.2.length ≤ a.1) ?_ p.length (0, []) ?_) ?_ ?_
  · rintro d ⟨j, out⟩ ⟨i1, i2, i3⟩ hrec
    simp only at i1 i2 i3
    (repeat (first | with_reducible (first | refine wL fun _ => ?_ | refine wD fun _ => ?_ | refine wE ?_ | refine adrZ.go ?_) | simp [go_sem]))
    refine aIf.mkL (fun hj => ?_) (fun hj => ?_) <;> simp at hj
    · have hs := fm_take (fitStep dirs kinds rights) p j hj
      rw [← i2] at hs
      generalize hx : nth p j = x at *
      obtain ⟨op, n⟩ := x
      have hgo : ∀ y, fitStep dirs kinds rights (op, n) = some y → out ++ [y] = (p.take (j + 1)).filterMap (fitStep dirs kinds rights) ∧ (out ++ [y]).length ≤ j + 1 := fun y hy => by rw [hs, hy]; simp; omega
      have hbel : ∀ y : Int × Int, ∀ r ∈ (out ++ [y]).map encStep, ∀ c ∈ r, Bel 1 c := fun y => of_eq_true bel_S
      rcases (show (op = 1 ∨ op = 2 ∨ op = 7) ∨ op = 8 ∨ (op = 9 ∨ op = 10) ∨ (op ≠ 1 ∧ op ≠ 2 ∧ op ≠ 7 ∧ op ≠ 8 ∧ op ≠ 9 ∧ op ≠ 10) by omega) with c1 | c1 | c1 | ⟨c1, c2, c3, c4, c5, c6⟩
      · have hf : fitStep dirs kinds rights (op, n) = some (op, n.tmod dirs) := by unfold fitStep; rw [if_pos c1]
        obtain ⟨k1, k2⟩ := hgo _ hf
        have hb := hbel (op, n.tmod dirs)
        rcases c1 with rfl | rfl | rfl <;>
        · (repeat (first | with_reducible (first | refine wL fun _ => ?_ | refine wD fun _ => ?_ | refine wE ?_ | refine adrZ.go ?_) | simp [go_sem, hj, hx]))
          refine ALoop.start (hrec (d - 1) (by omega) (j + 1, out ++ [(_, n.tmod dirs)]) ⟨by simp only; omega, k1, k2⟩) ?_ (by simp)
          simp [go_sem, Wk_eq] at hb ⊢
          try exact hb
      · have hf : fitStep dirs kinds rights (op, n) = some (op, n.tmod kinds) := by unfold fitStep; rw [if_neg (by omega), if_pos c1]
        obtain ⟨k1, k2⟩ := hgo _ hf
        have hb := hbel (op, n.tmod kinds)
        subst c1
        (repeat (first | with_reducible (first | refine wL fun _ => ?_ | refine wD fun _ => ?_ | refine wE ?_ | refine adrZ.go ?_) | simp [go_sem, hj, hx]))
        refine ALoop.start (hrec (d - 1) (by omega) (j + 1, out ++ [(_, n.tmod kinds)]) ⟨by simp only; omega, k1, k2⟩) ?_ (by simp)
        simp [go_sem, Wk_eq] at hb ⊢
        try exact hb
      · by_cases hr0 : rights = 0
        · have hf : fitStep dirs kinds rights (op, n) = none := by unfold fitStep; rw [if_neg (by omega), if_neg (by omega), if_pos c1, if_pos hr0]
          rw [hf, Option.toList_none, List.append_nil] at hs
          have hb := hbel (op, n)
          subst hr0
          rcases c1 with rfl | rfl <;>
          · (repeat (first | with_reducible (first | refine wL fun _ => ?_ | refine wD fun _ => ?_ | refine wE ?_ | refine adrZ.go ?_) | simp [go_sem, hj, hx]))
            refine ALoop.start (hrec (d - 1) (by omega) (j + 1, out) ⟨by simp only; omega, hs.symm, by simp only; omega⟩) ?_ (by simp)
            simp [go_sem, Wk_eq]
            rintro r x y _ rfl c hc
            simp at hc
            rcases hc with rfl | rfl <;> exact .v _
        · have hf : fitStep dirs kinds rights (op, n) = some (op, n.tmod rights) := by unfold fitStep; rw [if_neg (by omega), if_neg (by omega), if_pos c1, if_neg hr0]
          obtain ⟨k1, k2⟩ := hgo _ hf
          have hb := hbel (op, n.tmod rights)
          rcases c1 with rfl | rfl <;>
          · (repeat (first | with_reducible (first | refine wL fun _ => ?_ | refine wD fun _ => ?_ | refine wE ?_ | refine adrZ.go ?_) | simp [go_sem, hj, hx, hr0]))
            refine ALoop.start (hrec (d - 1) (by omega) (j + 1, out ++ [(_, n.tmod rights)]) ⟨by simp only; omega, k1, k2⟩) ?_ (by simp)
            simp [go_sem, Wk_eq] at hb ⊢
            try exact hb
      · have hf : fitStep dirs kinds rights (op, n) = some (op, n) := by unfold fitStep; rw [if_neg (by omega), if_neg (by omega), if_neg (by omega)]
        obtain ⟨k1, k2⟩ := hgo _ hf
        have hb := hbel (op, n)
        (repeat (first | with_reducible (first | refine wL fun _ => ?_ | refine wD fun _ => ?_ | refine wE ?_ | refine adrZ.go ?_) | simp [go_sem, hj, hx, c1, c2, c3, c4, c5, c6]))
        refine ALoop.start (hrec (d - 1) (by omega) (j + 1, out ++ [(op, n)]) ⟨by simp only; omega, k1, k2⟩) ?_ (by simp)
        simp [go_sem, Wk_eq] at hb ⊢
        try exact hb
    · have hout : fitP dirs kinds rights p = if out = [] then [(3, 0)] else out := by
        unfold fitP
        rw [i2, List.take_of_length_le hj]
      rw [hout]
      (repeat (first | with_reducible (first | refine wL fun _ => ?_ | refine wD fun _ => ?_ | refine wE ?_ | refine adrZ.go ?_) | simp [go_sem]))
      refine aIf.mkL (fun ho => ?_) (fun ho => ?_) <;> simp at ho
      · rw [if_pos ho]
        (repeat (first | with_reducible (first | refine wL fun _ => ?_ | refine wD fun _ => ?_ | refine wE ?_ | refine adrZ.go ?_) | simp [go_sem]))
        refine LeV.frz rfl ?_ ?_ (LeRows.of_eq ?_) <;> simp [noH]
      · rw [if_neg ho]
        (repeat (first | with_reducible (first | refine wL fun _ => ?_ | refine wD fun _ => ?_ | refine wE ?_ | refine adrZ.go ?_) | simp [go_sem]))
        refine LeV.frz rfl ?_ ?_ (LeRows.of_eq ?_) <;> simp [noH, List.take_of_length_le]
  · simp
  · simp [go_sem, Wk_eq]
  · simp
/-! ### Made -/
def madeP (n dirs kinds rights : Int) : List (Int × Int) :=
  fitP dirs kinds rights (nth (libL ((n.tdiv 16).tmod 8) ((n.tdiv 16 + n.tmod 5).tmod 8) ((n.tdiv 3).tmod 6) (n.tmod 4)) (n.tmod 16).toNat)
theorem libL_len (d e k r : Int) (i : Nat) : (nth (libL d e k r) i).length ≤ 6 := by
  rcases Nat.lt_or_ge i 16 with h | h
  · have : ∀ l ∈ libL d e k r, l.length ≤ 6 := by simp [libL]
    exact this _ (nth_mem h)
  · have : nth (libL d e k r) i = [] := by
      unfold nth
      rw [List.getD_eq_getElem?_getD, List.getElem?_eq_none (by exact h)]; rfl
    rw [this]; simp
theorem R2Made_pure (n dirs kinds rights : Int) (hn : 0 ≤ n ∧ n ≤ 255) (hd : 1 ≤ dirs) (hk : 1 ≤ kinds) (hr : 0 ≤ rights) :
    Pure Try.prog 25 [.v (.int .u8 n), .v (.int .i64 dirs), .v (.int .i64 kinds), .v (.int .i64 rights)] (encProg (madeP n dirs kinds rights)) := by
  refine Pure.of (ACallP.of_awp (by kernel_rfl) Try.func25 rfl rfl (Nat.le_of_ble_eq_true rfl) (by kernel_rfl) ?_)
  have q0 : 0 ≤ n.tdiv 16 ∧ n.tdiv 16 ≤ 15 := by rw [Int.tdiv_eq_ediv_of_nonneg hn.1]; omega
  have q1 : 0 ≤ n.tdiv 3 ∧ n.tdiv 3 ≤ 255 := by rw [Int.tdiv_eq_ediv_of_nonneg hn.1]; omega
  have m0 := Int.tmod_nonneg 5 hn.1
  have m1 := Int.tmod_lt_of_pos n (show (0 : Int) < 5 by decide)
  have hL := R2Lib_pure n (n.tdiv 16) (n.tdiv 16 + n.tmod 5) (n.tdiv 3) n (by simp; omega)
  unfold madeP
  have hpl := libL_len ((n.tdiv 16).tmod 8) ((n.tdiv 16 + n.tmod 5).tmod 8) ((n.tdiv 3).tmod 6) (n.tmod 4) (n.tmod 16).toNat
  generalize nth (libL ((n.tdiv 16).tmod 8) ((n.tdiv 16 + n.tmod 5).tmod 8) ((n.tdiv 3).tmod 6) (n.tmod 4)) (n.tmod 16).toNat = p at *
  have hF := R2Fit_pure p (by omega) dirs kinds rights hd hk hr
  generalize hqa : n.tdiv 16 = qa at *
  generalize hqb : n.tdiv 3 = qb at *
  generalize hmc : n.tmod 5 = mc at *
  (repeat (first | with_reducible (first | refine wL fun _ => ?_ | refine wD fun _ => ?_ | refine wE ?_ | refine adrZ.go ?_) | simp [go_sem, hqa, hqb, hmc]))
  refine ACallP.pureF [0] hL ?_ (by simp [go_sem]) ?_
  · refine LeRow.cons ?_ LeRow.nil
    refine LeV.frz rfl ?_ ?_ (LeRows.of_eq ?_) <;> simp [frzO, frz1, upd, encU]
  · (repeat (first | with_reducible (first | refine wL fun _ => ?_ | refine wD fun _ => ?_ | refine wE ?_ | refine adrZ.go ?_) | simp [go_sem]))
    refine ACallP.plain hF (by simp [go_sem]) ?_
    (repeat (first | with_reducible (first | refine wL fun _ => ?_ | refine wD fun _ => ?_ | refine wE ?_ | refine adrZ.go ?_) | simp [go_sem]))
end Go.Av
end
section
set_option linter.unusedSimpArgs false
set_option linter.unusedVariables false
open Go Go.Proofs
set_option maxRecDepth 20000
set_option maxHeartbeats 4000000
namespace Go.Av
/-- the kind and the side of a content -/
def manOf (c : Int) : Int × Int := if 1 ≤ c ∧ c ≤ 12 then ((c - 1).tdiv 2, (c - 1).tmod 2) else (-1, -1)
def codeOf (k s : Int) : Int := if (0 ≤ k ∧ k ≤ 5) ∧ 0 ≤ s ∧ s ≤ 1 then 2 * k + 1 + s else 0
end Go.Av
end
section
set_option linter.unusedSimpArgs false
set_option linter.unusedVariables false
open Go Go.Proofs
namespace Go.Av
/-! ### data -/
structure StD where
  p : PosD
  kind : Int
  cursor : Int
  took : Bool
  deriving DecidableEq
structure OutD where
  pos : PosD
  took : Bool
  deriving DecidableEq
instance : Inhabited StD := ⟨⟨default, 0, 0, false⟩⟩
instance : Inhabited OutD := ⟨⟨default, false⟩⟩
def encState (s : StD) : List AV := [encIs s.p.at_, encIs s.p.h0, encIs s.p.h1, .v (.int .i64 s.p.rights), .v (.int .i64 s.p.side), .v (.int .i64 s.kind), .v (.int .i64 s.cursor), .v (.bool s.took)]
def encSs (l : List StD) : AV := .lst 8 (l.map encState)
def encOut (o : OutD) : List AV := [encIs o.pos.at_, encIs o.pos.h0, encIs o.pos.h1, .v (.int .i64 o.pos.rights), .v (.int .i64 o.pos.side), .v (.bool o.took)]
def encOs (l : List OutD) : AV := .lst 6 (l.map encOut)
attribute [go_sem] encState encSs encOut encOs
theorem bel_St {n : Nat} {l : List StD} : (∀ r ∈ l.map encState, ∀ c ∈ r, Bel n c) = True := by
  refine eq_true ?_
  intro r hr c hc
  obtain ⟨x, _, rfl⟩ := List.mem_map.1 hr
  revert c
  simp [go_sem]
theorem bel_Sts {n : Nat} {l : List StD} : Bel n (.lst 8 (l.map encState)) = True := by rw [Bel_lst, bel_St]
theorem bel_Ou {n : Nat} {l : List OutD} : (∀ r ∈ l.map encOut, ∀ c ∈ r, Bel n c) = True := by
  refine eq_true ?_
  intro r hr c hc
  obtain ⟨x, _, rfl⟩ := List.mem_map.1 hr
  revert c
  simp [go_sem]
theorem bel_Ous {n : Nat} {l : List OutD} : Bel n (.lst 6 (l.map encOut)) = True := by rw [Bel_lst, bel_Ou]
attribute [go_sem high] bel_Sts bel_Ous
def PosD.hand (p : PosD) (side : Int) : List Int := if side = 0 then p.h0 else p.h1
def PosD.withHand (p : PosD) (side : Int) (l : List Int) : PosD := if side = 0 then { p with h0 := l } else { p with h1 := l }
/-- a game, and what it is made of -/
structure StepOk (dirs kinds rights : Int) (x : Int × Int) : Prop where
  op : 1 ≤ x.1 ∧ x.1 ≤ 10
  dir : x.1 = 1 ∨ x.1 = 2 ∨ x.1 = 7 → 0 ≤ x.2 ∧ x.2 < dirs
  zero : x.1 = 3 ∨ x.1 = 4 ∨ x.1 = 5 ∨ x.1 = 6 → x.2 = 0
  kind : x.1 = 8 → 0 ≤ x.2 ∧ x.2 < kinds
  right : x.1 = 9 ∨ x.1 = 10 → 0 ≤ x.2 ∧ x.2 < rights
def countOp (p : List (Int × Int)) (op : Int) : Nat := p.countP (fun x => x.1 == op)
structure ProgOk (dirs kinds rights : Int) (p : List (Int × Int)) : Prop where
  ne : 1 ≤ p.length
  len : p.length ≤ 8
  st : ∀ x ∈ p, StepOk dirs kinds rights x
  take : countOp p 6 ≤ 2
  push : countOp p 7 ≤ 1
  become : countOp p 8 ≤ 1
structure ClauseOk (cells kinds : Int) (c : Int × Int × Int × Int) : Prop where
  cond : c.1 = 1 ∨ c.1 = 2 ∨ c.1 = 3
  kind : 0 ≤ c.2.1 ∧ c.2.1 < kinds
  n : 0 ≤ c.2.2.1 ∧ (c.1 = 2 → c.2.2.1 < cells) ∧ (c.1 = 1 → c.2.2.1 = 0) ∧ c.2.2.1 ≤ 64
  then_ : 1 ≤ c.2.2.2 ∧ c.2.2.2 ≤ 3
  few : c.1 = 3 → c.2.1 = 0
structure GOk (g : GameD) : Prop where
  board : BoardOk g.board
  c1 : 1 ≤ g.cells
  c9 : g.cells ≤ 9
  d1 : 1 ≤ g.next.length
  d8 : g.next.length ≤ 8
  turn : ∀ d, d < g.turn.length → nth g.turn (nth g.turn d).toNat = d
  k1 : 1 ≤ g.kinds.length
  k6 : g.kinds.length ≤ 6
  pn : ∀ k ∈ g.kinds, k.progs.length ≤ 8
  pr : ∀ k ∈ g.kinds, ∀ p ∈ k.progs, ProgOk g.next.length g.kinds.length g.rights p
  r0 : 0 ≤ g.rights
  r4 : g.rights ≤ 4
  cl : ∀ c ∈ g.clauses, ClauseOk g.cells g.kinds.length c
  cn : g.clauses.length ≤ 6
  bl : 1 ≤ g.blocked ∧ g.blocked ≤ 3
  en : 1 ≤ g.endless ∧ g.endless ≤ 3
/-! ### one step -/
def slideGo (s : StD) : List Int → List StD
  | [] => []
  | c :: l => { s with cursor := c } :: (if nth s.p.at_ c.toNat = 0 then slideGo s l else [])
def slideS (b : BoardD) (s : StD) (n : Int) : List StD := slideGo s (lineB b s.p.side n s.cursor)
/-- the position without a content -/
def clr (p : PosD) (c : Int) : PosD := { p with at_ := p.at_.set c.toNat 0 }
def takeS (g : GameD) (s : StD) : List StD :=
  let m := manOf (nth s.p.at_ s.cursor.toNat)
  if m.1 < 0 ∨ m.2 = s.p.side then [] else
  if (nth g.kinds m.1.toNat).keep = true then
    if 8 < nth (s.p.hand s.p.side) m.1.toNat + 1 then []
    else [{ s with p := (clr s.p s.cursor).withHand s.p.side ((s.p.hand s.p.side).set m.1.toNat (nth (s.p.hand s.p.side) m.1.toNat + 1)), took := true }]
  else [{ s with p := clr s.p s.cursor, took := true }]
def pushS (g : GameD) (s : StD) (n : Int) : List StD :=
  let to := toB g.board s.p.side n s.cursor
  if nth s.p.at_ s.cursor.toNat = 0 ∨ to < 0 ∨ nth s.p.at_ to.toNat ≠ 0 then []
  else [{ s with p := { s.p with at_ := (s.p.at_.set to.toNat (nth s.p.at_ s.cursor.toNat)).set s.cursor.toNat 0 } }]
def onlyS (s : StD) (b : Bool) : List StD := if b then [s] else []
def stepS (g : GameD) (s : StD) (x : Int × Int) : List StD :=
  let m := manOf (nth s.p.at_ s.cursor.toNat)
  if x.1 = 1 then onlyS { s with cursor := toB g.board s.p.side x.2 s.cursor } (decide (0 ≤ toB g.board s.p.side x.2 s.cursor))
  else if x.1 = 2 then slideS g.board s x.2
  else if x.1 = 3 then onlyS s (decide (m.1 < 0))
  else if x.1 = 4 then onlyS s (decide (0 ≤ m.1 ∧ m.2 ≠ s.p.side))
  else if x.1 = 5 then onlyS s (decide (0 ≤ m.1 ∧ m.2 = s.p.side))
  else if x.1 = 6 then takeS g s
  else if x.1 = 7 then pushS g s x.2
  else if x.1 = 8 then [{ s with kind := x.2 }]
  else if x.1 = 9 then onlyS s (decide (andN .i64 (s.p.rights.fdiv (2 ^ x.2.toNat)) 1 = 1))
  else if x.1 = 10 then [{ s with p := { s.p with rights := andNotN .i64 s.p.rights (2 ^ x.2.toNat) } }]
  else [s]
/-! ### a run -/
def addS (l : List StD) (more : List StD) : List StD := more.foldl (fun l s => if s ∈ l then l else l ++ [s]) l
def nextS (g : GameD) (now : List StD) (x : Int × Int) : List StD := now.foldl (fun next s => addS next (stepS g s x)) []
def startS (p : PosD) (cell : Int) : StD := ⟨clr p cell, (manOf (nth p.at_ cell.toNat)).1, cell, false⟩
def lastS (g : GameD) (p : PosD) (cell : Int) (prog : List (Int × Int)) : List StD := prog.foldl (nextS g) [startS p cell]
def progOf (g : GameD) (p : PosD) (cell i : Int) : List (Int × Int) := nth (nth g.kinds (manOf (nth p.at_ cell.toNat)).1.toNat).progs i.toNat
/-- the outcome of a state, where the man is put down -/
def putS (side : Int) (s : StD) : Option OutD :=
  if nth s.p.at_ s.cursor.toNat = 0 then some ⟨{ s.p with at_ := s.p.at_.set s.cursor.toNat (codeOf s.kind side), side := 1 - side }, s.took⟩ else none
def cmpO (a b : OutD) : Int := lexI (cmpP a.pos b.pos) (number (if a.took then 1 else 0) (if b.took then 1 else 0))
theorem cmp_out : Cmp cmpO := by
  have h : Cmp (fun (a b : Bool) => number (if a then 1 else 0) (if b then 1 else 0)) :=
    cmp_number.pull (fun b : Bool => if b then (1 : Int) else 0) (fun a b => by cases a <;> cases b <;> simp)
  exact (cmp_pos.prod h).pull (fun o : OutD => (o.pos, o.took)) (fun a b e => by cases a; cases b; simp at e; simp [e])
def lessO (a b : OutD) : Bool := decide (cmpP a.pos b.pos < 0) || (decide (cmpP a.pos b.pos = 0) && !a.took && b.took)
theorem lessO_eq (a b : OutD) : lessO a b = decide (cmpO a b < 0) := by
  unfold lessO cmpO lexI
  by_cases h : cmpP a.pos b.pos = 0
  · rw [if_neg (by simpa using h)]
    simp only [h]
    cases a.took <;> cases b.took <;> simp [number]
  · rw [if_pos h]
    simp [h]
def insertO (x : OutD) : List OutD → List OutD
  | [] => [x]
  | y :: l => if lessO y x then y :: insertO x l else if lessO x y then x :: y :: l else y :: l
theorem insertO_mem {x z : OutD} : ∀ {l : List OutD}, z ∈ insertO x l ↔ z = x ∨ z ∈ l
  | [] => by simp [insertO]
  | y :: l => by
    simp only [insertO]
    split
    · rw [List.mem_cons, insertO_mem, List.mem_cons]
      exact ⟨fun h => by rcases h with h | h | h <;> simp [h], fun h => by rcases h with h | h | h <;> simp [h]⟩
    · split
      · simp
      · rename_i h1 h2
        rw [lessO_eq] at h1 h2
        have := cmp_out.swap x y
        have e := (cmp_out.eq x y).1 (by simp at h1 h2; omega)
        subst e
        simp
theorem insertO_pw {x : OutD} : ∀ {l : List OutD}, l.Pairwise (fun a b => cmpO a b < 0) → (insertO x l).Pairwise (fun a b => cmpO a b < 0)
  | [], _ => by simp [insertO]
  | y :: l, h => by
    rw [List.pairwise_cons] at h
    simp only [insertO]
    split
    · rename_i h1
      rw [lessO_eq] at h1
      rw [List.pairwise_cons]
      refine ⟨fun z hz => ?_, insertO_pw h.2⟩
      rcases insertO_mem.1 hz with rfl | hz
      · simpa using h1
      · exact h.1 z hz
    · split
      · rename_i h1
        rw [lessO_eq] at h1
        have hxy : cmpO x y < 0 := by simpa using h1
        refine List.pairwise_cons.2 ⟨fun z hz => ?_, List.pairwise_cons.2 h⟩
        rcases List.mem_cons.1 hz with rfl | hz
        · exact hxy
        · have hyz := h.1 z hz
          have t := cmp_out.tr x y z (by omega) (by omega)
          rcases Int.lt_or_eq_of_le t with h | h
          · exact h
          · have e := (cmp_out.eq _ _).1 h
            subst e
            have := cmp_out.swap x y
            omega
      · exact List.pairwise_cons.2 h
theorem insertO_fold : ∀ (l acc : List OutD), acc.Pairwise (fun a b => cmpO a b < 0) →
    (l.foldl (fun a x => insertO x a) acc).Pairwise (fun a b => cmpO a b < 0) ∧ ∀ z, z ∈ l.foldl (fun a x => insertO x a) acc ↔ z ∈ l ∨ z ∈ acc
  | [], acc, h => ⟨h, fun z => by simp⟩
  | x :: l, acc, h => by
    obtain ⟨h1, h2⟩ := insertO_fold l (insertO x acc) (insertO_pw h)
    refine ⟨h1, fun z => ?_⟩
    rw [List.foldl_cons, h2, insertO_mem, List.mem_cons]
    exact ⟨fun h => by rcases h with h | h | h <;> simp [h], fun h => by rcases h with (h | h) | h <;> simp [h]⟩
theorem insertO_all (l : List OutD) : l.foldl (fun a x => insertO x a) [] = sortU cmpO l :=
  (sortU_unique cmp_out (insertO_fold l [] (by simp)).1 (fun z => by rw [(insertO_fold l [] (by simp)).2]; simp)).symm
def runsP (g : GameD) (p : PosD) (cell i : Int) : List OutD := sortU cmpO ((lastS g p cell (progOf g p cell i)).filterMap (putS p.side))
/-! ### drops -/
def dropP (g : GameD) (p : PosD) (k c : Nat) : Option PosD :=
  if nth (p.hand p.side) k = 0 ∨ nth p.at_ c ≠ 0 then none
  else some { ({ p with at_ := p.at_.set c (codeOf k p.side) }.withHand p.side ((p.hand p.side).set k (nth (p.hand p.side) k - 1))) with side := 1 - p.side }
def dropsL (g : GameD) (p : PosD) : List PosD := (List.range g.kinds.length).flatMap fun k => (List.range p.at_.length).filterMap fun c => dropP g p k c
def dropsP (g : GameD) (p : PosD) : List PosD := sortU cmpP (dropsL g p)
/-! ### moves -/
def isMan (p : PosD) (side kind : Int) (c : Int) : Bool := decide (0 ≤ (manOf c).1) && decide ((manOf c).2 = side) && (decide (kind < 0) || decide ((manOf c).1 = kind))
def menP (p : PosD) (side kind : Int) : Nat := p.at_.countP (isMan p side kind)
def condP (c : Int × Int × Int × Int) (p : PosD) : Bool :=
  if c.1 = 1 then decide (menP p p.side c.2.1 = 0)
  else if c.1 = 2 then decide (nth p.at_ c.2.2.1.toNat = codeOf c.2.1 (1 - p.side))
  else decide ((menP p p.side (-1) : Int) ≤ c.2.2.1)
def endedP (g : GameD) (p : PosD) : Int := match g.clauses.findIdx? (fun c => condP c p) with | some i => (i : Int) | none => -1
def outsAt (g : GameD) (p : PosD) (c : Nat) : List OutD :=
  if 0 ≤ (manOf (nth p.at_ c)).1 ∧ (manOf (nth p.at_ c)).2 = p.side then
    (List.range (nth g.kinds (manOf (nth p.at_ c)).1.toNat).progs.length).flatMap fun (i : Nat) => runsP g p c i
  else []
def outsP (g : GameD) (p : PosD) : List OutD := (List.range p.at_.length).flatMap (outsAt g p)
def mustP (g : GameD) (p : PosD) : Bool := g.must && (outsP g p).any (·.took)
def movesL (g : GameD) (p : PosD) : List PosD := ((outsP g p).filter fun o => !mustP g p || o.took).map (·.pos) ++ (if mustP g p then [] else dropsP g p)
def movesP (g : GameD) (p : PosD) : List PosD := if 0 ≤ endedP g p then [] else sortU cmpP (movesL g p)
def walkP (g : GameD) : PosD → List Int → List PosD
  | p, [] => [p]
  | p, k :: l => if movesP g p = [] then [p] else p :: walkP g (nth (movesP g p) (k.emod (movesP g p).length).toNat) l
end Go.Av
end
section
set_option linter.unusedSimpArgs false
set_option linter.unusedVariables false
open Go Go.Proofs
namespace Go.Av
structure RawG where
  w : Int
  h : Int
  cut : Int
  k0 : List Int
  k1 : List Int
  c : List (Int × Int × Int)
  f0 : Int
  f1 : Int
  f2 : Int
  f3 : Int
  f4 : Int
  f5 : Int
def U8 (n : Int) : Prop := 0 ≤ n ∧ n ≤ 255
structure RawOk (x : RawG) : Prop where
  w : U8 x.w
  h : U8 x.h
  cut : U8 x.cut
  k0 : ∀ n ∈ x.k0, U8 n
  k1 : ∀ n ∈ x.k1, U8 n
  c : ∀ t ∈ x.c, U8 t.1 ∧ U8 t.2.1 ∧ U8 t.2.2
  f0 : U8 x.f0
  f1 : U8 x.f1
  f2 : U8 x.f2
  f3 : U8 x.f3
  f4 : U8 x.f4
  f5 : U8 x.f5
def encC3 (c : Int × Int × Int) : List AV := [.v (.int .u8 c.1), .v (.int .u8 c.2.1), .v (.int .u8 c.2.2)]
def encRaw (x : RawG) : List AV := [.v (.int .u8 x.w), .v (.int .u8 x.h), .v (.int .u8 x.cut), encUs x.k0, encUs x.k1, .lst 3 (x.c.map encC3),
  .v (.int .u8 x.f0), .v (.int .u8 x.f1), .v (.int .u8 x.f2), .v (.int .u8 x.f3), .v (.int .u8 x.f4), .v (.int .u8 x.f5)]
attribute [go_sem] encC3 encRaw
theorem bel_C3 {n : Nat} {l : List (Int × Int × Int)} : (∀ r ∈ l.map encC3, ∀ c ∈ r, Bel n c) = True := by
  refine eq_true ?_
  intro r hr c hc
  obtain ⟨x, _, rfl⟩ := List.mem_map.1 hr
  revert c
  simp [go_sem]
theorem bel_C3s {n : Nat} {l : List (Int × Int × Int)} : Bel n (.lst 3 (l.map encC3)) = True := by rw [Bel_lst, bel_C3]
theorem bel_K {n : Nat} {l : List KindD} : (∀ r ∈ l.map encKind, ∀ c ∈ r, Bel n c) = True := by
  refine eq_true ?_
  intro r hr c hc
  obtain ⟨x, _, rfl⟩ := List.mem_map.1 hr
  simp only [encKind, List.mem_cons, List.not_mem_nil, or_false] at hc
  rcases hc with rfl | rfl | rfl
  · exact .v _
  · refine .lst fun r hr c hc => ?_
    obtain ⟨p, _, rfl⟩ := List.mem_map.1 hr
    simp only [List.mem_cons, List.not_mem_nil, or_false] at hc
    subst hc
    exact of_eq_true bel_Prog
  · exact .v _
theorem bel_Ks {n : Nat} {l : List KindD} : Bel n (.lst 3 (l.map encKind)) = True := by rw [Bel_lst, bel_K]
theorem bel_Cl {n : Nat} {l : List (Int × Int × Int × Int)} : (∀ r ∈ l.map encClause, ∀ c ∈ r, Bel n c) = True := by
  refine eq_true ?_
  intro r hr c hc
  obtain ⟨x, _, rfl⟩ := List.mem_map.1 hr
  revert c
  simp [go_sem]
theorem bel_Cls {n : Nat} {l : List (Int × Int × Int × Int)} : Bel n (.lst 4 (l.map encClause)) = True := by rw [Bel_lst, bel_Cl]
theorem bel_Pr {n : Nat} {l : List (List (Int × Int))} : (∀ r ∈ l.map (fun p => [encProg p]), ∀ c ∈ r, Bel n c) = True := by
  refine eq_true ?_
  intro r hr c hc
  obtain ⟨p, _, rfl⟩ := List.mem_map.1 hr
  simp only [List.mem_cons, List.not_mem_nil, or_false] at hc
  subst hc
  exact of_eq_true bel_Prog
theorem bel_Prs {n : Nat} {l : List (List (Int × Int))} : Bel n (.lst 1 (l.map (fun p => [encProg p]))) = True := by rw [Bel_lst, bel_Pr]
attribute [go_sem high] bel_C3s bel_Ks bel_Cls bel_Prs
attribute [go_sem ↓] bel_C3 bel_K bel_Cl bel_Pr bel_P bel_I bel_St bel_Ou List.forall_mem_append
def nameA : ByteArray := ⟨#[97]⟩
def nameB : ByteArray := ⟨#[98, 101, 101]⟩
def bitU (f : Int) (i : Nat) : Bool := decide (andN .u8 (f.fdiv (2 ^ i)) 1 = 1)
def kindsN (x : RawG) : Nat := if x.k1 = [] then 1 else 2
def RawG.board (x : RawG) : BoardD := madeB x.w x.h x.cut
def RawG.rights (x : RawG) : Int := x.f0.tmod 3
def RawG.ks (x : RawG) (i : Nat) : List Int := if i = 0 then x.k0 else x.k1
def kindOf (x : RawG) (i : Nat) : KindD :=
  ⟨if i = 0 then nameA else nameB, ((x.ks i).take 4).map (fun n => madeP n x.board.next.length (kindsN x) x.rights), bitU x.f2 i⟩
def clauseOf (cells kinds : Int) (c : Int × Int × Int) : Int × Int × Int × Int :=
  (1 + c.1.tmod 3, (if 1 + c.1.tmod 3 ≠ 3 then c.2.1.tmod kinds else 0), (if 1 + c.1.tmod 3 = 2 then c.2.2.tmod cells else if 1 + c.1.tmod 3 = 3 then c.2.2.tmod 3 else 0), 1 + (c.1.tdiv 4).tmod 3)
def madeG (x : RawG) : GameD :=
  { cells := x.board.cells, next := x.board.next, turn := x.board.turn, kinds := (List.range (kindsN x)).map (kindOf x), rights := x.rights, must := decide (x.f1.tmod 4 = 3),
    clauses := (x.c.take 3).map (clauseOf x.board.cells (kindsN x)), blocked := if x.f3.tmod 4 = 3 then 1 + (x.f3.tdiv 4).tmod 3 else 3, endless := if x.f4.tmod 4 = 3 then 1 + (x.f4.tdiv 4).tmod 3 else 2 }
@[go_sem] theorem oneCell_string (s : ByteArray) : (Value.string s).oneCell' = true := rfl
def ksR (x : RawG) (i : Nat) : List (List AV) := ((List.range i).map (kindOf x)).map encKind
def kRow (k : KindD) : List AV := encKind k
theorem ksR_succ (x : RawG) (i : Nat) : ksR x (i + 1) = ksR x i ++ [kRow (kindOf x i)] := by simp [ksR, List.range_succ, kRow]
@[go_sem] theorem ksR_zero (x : RawG) : ksR x 0 = [] := rfl
@[go_sem] theorem ksR_len (x : RawG) (i : Nat) : (ksR x i).length = i := by simp [ksR]
@[go_sem ↓] theorem bel_ksR {n : Nat} {x : RawG} {i : Nat} : (∀ r ∈ ksR x i, ∀ c ∈ r, Bel n c) = True := bel_K
def psR (f : Int → List (Int × Int)) (l : List Int) (n : Nat) : List (List AV) := ((l.take n).map f).map fun p => [encProg p]
theorem psR_succ (f : Int → List (Int × Int)) (l : List Int) {n : Nat} (h : n < l.length) : psR f l (n + 1) = psR f l n ++ [[encProg (f (nth l n))]] := by
  unfold psR
  rw [List.take_add_one, List.getElem?_eq_getElem h, nth_eq _ _ h, Option.toList_some, List.map_append, List.map_append]
  rfl
theorem psR_len (f : Int → List (Int × Int)) (l : List Int) {n : Nat} (h : n ≤ l.length) : (psR f l n).length = n := by simp [psR]; omega
@[go_sem] theorem psR_zero (f : Int → List (Int × Int)) (l : List Int) : psR f l 0 = [] := rfl
@[go_sem ↓] theorem bel_psR {m : Nat} {f : Int → List (Int × Int)} {l : List Int} {n : Nat} : (∀ r ∈ psR f l n, ∀ c ∈ r, Bel m c) = True := bel_Pr
def clR (cells kinds : Int) (l : List (Int × Int × Int)) (n : Nat) : List (List AV) := ((l.take n).map (clauseOf cells kinds)).map encClause
def cRow (c : Int × Int × Int × Int) : List AV := encClause c
theorem clR_succ (cells kinds : Int) (l : List (Int × Int × Int)) {n : Nat} (h : n < l.length) : clR cells kinds l (n + 1) = clR cells kinds l n ++ [cRow (clauseOf cells kinds (nth l n))] := by
  unfold clR
  rw [List.take_add_one, List.getElem?_eq_getElem h, nth_eq _ _ h, Option.toList_some, List.map_append, List.map_append]
  rfl
theorem clR_len (cells kinds : Int) (l : List (Int × Int × Int)) {n : Nat} (h : n ≤ l.length) : (clR cells kinds l n).length = n := by simp [clR]; omega
@[go_sem] theorem clR_zero (cells kinds : Int) (l : List (Int × Int × Int)) : clR cells kinds l 0 = [] := rfl
@[go_sem ↓] theorem bel_clR {m : Nat} {cells kinds : Int} {l : List (Int × Int × Int)} {n : Nat} : (∀ r ∈ clR cells kinds l n, ∀ c ∈ r, Bel m c) = True := bel_Cl
theorem madeB_dirs (w h cut : Int) : (madeB w h cut).next.length = 8 := by
  unfold madeB
  split <;> simp [withoutB, withoutNext, gridB, gridNext]
theorem madeB_cells {w h : Int} (hw : 0 ≤ w) (hh : 0 ≤ h) (cut : Int) : 1 ≤ (madeB w h cut).cells ∧ (madeB w h cut).cells ≤ 9 := by
  have a0 := Int.tmod_nonneg 3 hw
  have a1 := Int.tmod_lt_of_pos w (show (0 : Int) < 3 by decide)
  have b0 := Int.tmod_nonneg 3 hh
  have b1 := Int.tmod_lt_of_pos h (show (0 : Int) < 3 by decide)
  have e : (madeB w h cut).cells = ((1 + w.tmod 3).toNat : Int) * ((1 + h.tmod 3).toNat : Int) := by
    unfold madeB
    split <;> simp [withoutB, gridB]
  rw [e]
  obtain ⟨W, hW⟩ : ∃ W : Nat, 1 + w.tmod 3 = W := ⟨(1 + w.tmod 3).toNat, by omega⟩
  obtain ⟨H, hH⟩ : ∃ H : Nat, 1 + h.tmod 3 = H := ⟨(1 + h.tmod 3).toNat, by omega⟩
  rw [hW, hH, Int.toNat_natCast, Int.toNat_natCast]
  rcases (show W = 1 ∨ W = 2 ∨ W = 3 by omega) with rfl | rfl | rfl <;> omega
end Go.Av
end
section
set_option linter.unusedSimpArgs false
set_option linter.unusedVariables false
open Go Go.Proofs
set_option maxRecDepth 20000
set_option maxHeartbeats 4000000
namespace Go.Av
theorem R3Made_pure (x : RawG) (hx : RawOk x) (hl : x.c.length ≤ 1099511627776) (hl0 : x.k0.length ≤ 1099511627776) (hl1 : x.k1.length ≤ 1099511627776) : Pure Try.prog 7 [.agg (encRaw x)] (.agg (encGame (madeG x))) := by
  refine Pure.of (ACallP.of_awp (by kernel_rfl) Try.func7 rfl rfl (Nat.le_of_ble_eq_true rfl) (by kernel_rfl) ?_)
  obtain ⟨eg, heg⟩ : ∃ eg, eg = encGame (madeG x) := ⟨_, rfl⟩
  rw [← heg]
  have hB := R1Made_pure x.w x.h x.cut hx.w hx.h hx.cut
  have hok := boardOk_made hx.w.1 hx.h.1 x.cut
  have hb : madeB x.w x.h x.cut = x.board := rfl
  rw [hb] at hB hok
  have r0 := Int.tmod_nonneg 3 hx.f0.1
  have r1 := Int.tmod_lt_of_pos x.f0 (show (0 : Int) < 3 by decide)
  have f0 : 0 ≤ x.f0 ∧ x.f0 ≤ 255 := hx.f0
  have f1 : 0 ≤ x.f1 ∧ x.f1 ≤ 255 := hx.f1
  have f2 : 0 ≤ x.f2 ∧ x.f2 ≤ 255 := hx.f2
  have f3 : 0 ≤ x.f3 ∧ x.f3 ≤ 255 := hx.f3
  have f4 : 0 ≤ x.f4 ∧ x.f4 ≤ 255 := hx.f4
  have m1 := Int.tmod_nonneg 4 hx.f1.1
  have m3 := Int.tmod_nonneg 4 hx.f3.1
  have m4 := Int.tmod_nonneg 4 hx.f4.1
  have qq : ∀ n : Int, U8 n → (0 ≤ n.tdiv 4 ∧ n.tdiv 4 ≤ 63) ∧ 0 ≤ (n.tdiv 4).tmod 3 ∧ (n.tdiv 4).tmod 3 < 3 := fun n hn => by
    have h : n.tdiv 4 = n / 4 := Int.tdiv_eq_ediv_of_nonneg hn.1
    have h1 := hn.1
    have h2 := hn.2
    have h3 := Int.tmod_nonneg 3 (show 0 ≤ n.tdiv 4 by omega)
    have h4 := Int.tmod_lt_of_pos (n.tdiv 4) (show (0 : Int) < 3 by decide)
    omega
  obtain ⟨q3, q3'⟩ := qq _ hx.f3
  obtain ⟨q4, q4'⟩ := qq _ hx.f4
  obtain ⟨bl, hbl⟩ : ∃ bl, bl = if x.f3.tmod 4 = 3 then 1 + (x.f3.tdiv 4).tmod 3 else 3 := ⟨_, rfl⟩
  obtain ⟨en, hen⟩ : ∃ en, en = if x.f4.tmod 4 = 3 then 1 + (x.f4.tdiv 4).tmod 3 else 2 := ⟨_, rfl⟩
  obtain ⟨R, hR⟩ : ∃ R, R = x.rights := ⟨_, rfl⟩
  have hR' : x.f0.tmod 3 = R := by rw [hR]; rfl
  obtain ⟨b, hbb⟩ : ∃ b, b = x.board := ⟨_, rfl⟩
  rw [← hbb] at hB hok
  (repeat (first | with_reducible (first | refine wL fun _ => ?_ | refine wD fun _ => ?_ | refine wE ?_ | refine adrZ.go ?_) | simp [go_sem]))
  try ((with_reducible refine adrZ.go ?_); (try simp [go_sem]))
  refine dCall.plain hB (by simp [go_sem]) ?_
  (repeat (first | with_reducible (first | refine wL fun _ => ?_ | refine wD fun _ => ?_ | refine wE ?_ | refine adrZ.go ?_) | simp [go_sem, hR']))
  have hd8 : b.next.length = 8 := by rw [hbb]; exact madeB_dirs _ _ _
  have hcell : 1 ≤ b.cells ∧ b.cells ≤ 9 := by rw [hbb]; exact madeB_cells hx.w.1 hx.h.1 _
  obtain ⟨K, hK⟩ : ∃ K : Nat, K = kindsN x := ⟨_, rfl⟩
  have hKn : kindsN x = if x.k1.length = 0 then 1 else 2 := by unfold kindsN; simp only [List.length_eq_zero_iff]
  have hKl : ∀ i, (x.ks i).length ≤ 1099511627776 := fun i => by unfold RawG.ks; split <;> assumption
  have hKv : ∀ i, ∀ n ∈ x.ks i, U8 n := fun i => by unfold RawG.ks; split; exact hx.k0; exact hx.k1
  refine aIf.mkL (fun hk1 => ?_) (fun hk1 => ?_) <;> simp at hk1
  · have hK2 : kindsN x = 2 := by rw [hKn, if_neg (by omega)]
    rw [hK2] at hK
    (repeat (first | with_reducible (first | refine wL fun _ => ?_ | refine wD fun _ => ?_ | refine wE ?_ | refine adrZ.go ?_) | simp [go_sem]))
    refine ALoop.start (ALoop.ind (α := Nat) (fun a => ⟨[(1, .ref 0 0 12 0 0), (2, .ref 1 0 9 0 0), (3, .ref 20 0 9 0 0), (4, .v (.int .i64 K)), (5, .v (.int .i64 a))],
      [(0, .rows true 0 12 [encRaw x]), (1, .rows true 0 9 [[.v (.int .i64 0), AV.nils, AV.nils, AV.nils, .v (.int .i64 0), .v (.bool false), AV.nils, .v (.int .i64 0), .v (.int .i64 0)]]), (20, .rows true 0 9 [[.v (.int .i64 b.cells), encIss b.next, encIs b.turn, .sl 22 a 3 0 a, .v (.int .i64 R), .v (.bool (decide (x.f1.tmod 4 = 3))), AV.nils, .v (.int .i64 3), .v (.int .i64 2)]]), (22, .rows true a 3 (ksR x a))], 23⟩)
      (fun d a => a + d = K) ?_ K 0 ?_) ?_ ?_
    · rintro d0 i i1 hrec
      (repeat (first | with_reducible (first | refine wL fun _ => ?_ | refine wD fun _ => ?_ | refine wE ?_ | refine adrZ.go ?_) | simp [go_sem]))
      refine aIf.mkL (fun hi => ?_) (fun hi => ?_) <;> simp at hi
      · have hi2 : i = 0 ∨ i = 1 := by omega
        have hkl := hKl i
        have hkv := hKv i
        have hks : kindOf x i = ⟨if i = 0 then nameA else nameB, ((x.ks i).take 4).map (fun n => madeP n b.next.length K x.rights), bitU x.f2 i⟩ := by rw [hbb, hK, ← hK2]; rfl
        rcases hi2 with rfl | rfl
        · obtain ⟨kk, hkk⟩ : ∃ kk, kk = x.ks 0 := ⟨_, rfl⟩
          have hk0 : x.k0 = kk := hkk.symm
          rw [← hkk] at hkl hkv hks
          have hbit : bitU x.f2 0 = decide (andN .u8 x.f2 1 = 1) := by simp [bitU]
          obtain ⟨f, hf⟩ : ∃ f, f = (fun n => madeP n b.next.length K x.rights) := ⟨_, rfl⟩
          have hfp : ∀ n, U8 n → Pure Try.prog 25 [.v (.int .u8 n), .v (.int .i64 b.next.length), .v (.int .i64 K), .v (.int .i64 R)] (encProg (f n)) := fun n hn => by
            rw [hf, ← hR]; exact R2Made_pure n _ _ _ hn (by omega) (by omega) (by omega)
          rw [← hf, hbit] at hks
          (repeat (first | with_reducible (first | refine wL fun _ => ?_ | refine wD fun _ => ?_ | refine wE ?_ | refine adrZ.go ?_) | simp [go_sem, hk0]))
          refine ALoop.start (ALoop.ind (α := Nat) (fun n => ⟨[(1, .ref 0 0 12 0 0), (2, .ref 1 0 9 0 0), (3, .ref 20 0 9 0 0), (4, .v (.int .i64 K)), (5, .v (.int .i64 0)), (6, .ref 35 0 3 0 0), (7, .v (.int .i64 n))],
            [(0, .rows true 0 12 [encRaw x]), (1, .rows true 0 9 [[.v (.int .i64 0), AV.nils, AV.nils, AV.nils, .v (.int .i64 0), .v (.bool false), AV.nils, .v (.int .i64 0), .v (.int .i64 0)]]), (20, .rows true 0 9 [[.v (.int .i64 b.cells), encIss b.next, encIs b.turn, .sl 22 0 3 0 0, .v (.int .i64 R), .v (.bool (decide (x.f1.tmod 4 = 3))), AV.nils, .v (.int .i64 3), .v (.int .i64 2)]]), (22, .rows true 0 3 (ksR x 0)), (35, .rows true 0 3 [[.v (.string ⟨#[97]⟩), .sl 37 n 1 0 n, .v (.bool (decide (andN .u8 x.f2 1 = 1)))]]), (37, .rows true n 1 (psR f kk n))], 38⟩)
            (fun d n => n + d = min kk.length 4) ?_ (min kk.length 4) 0 ?_) ?_ ?_
          · rintro d n n1 hrec1
            (repeat (first | with_reducible (first | refine wL fun _ => ?_ | refine wD fun _ => ?_ | refine wE ?_ | refine adrZ.go ?_) | simp [go_sem, hk0]))
            refine aIf.mkL (fun hn => ?_) (fun hn => ?_) <;> simp at hn
            · have hn1 : n < kk.length := by omega
              have hn2 := hkv _ (nth_mem hn1)
              have hpl := psR_len f kk (n := n) (by omega)
              (repeat (first | with_reducible (first | refine wL fun _ => ?_ | refine wD fun _ => ?_ | refine wE ?_ | refine adrZ.go ?_) | simp [go_sem, hk0, hn1]))
              try ((with_reducible refine adrZ.go ?_); (try simp [go_sem]))
              refine dCall.plain (hfp _ hn2) (by simp [go_sem]) ?_
              (repeat (first | with_reducible (first | refine wL fun _ => ?_ | refine wD fun _ => ?_ | refine wE ?_ | refine adrZ.go ?_) | simp [go_sem, hk0, hn1, hpl]))
              refine ALoop.start (hrec1 (d - 1) (by omega) (n + 1) (by omega)) ?_ (by simp)
              simp [go_sem, Wk_eq, hk0, psR_succ f kk hn1]
            · have hne : n = min kk.length 4 := by omega
              (repeat (first | with_reducible (first | refine wL fun _ => ?_ | refine wD fun _ => ?_ | refine wE ?_ | refine adrZ.go ?_) | simp [go_sem]))
              refine ALoop.start (hrec (d0 - 1) (by omega) (0 + 1) (by omega)) ?_ (by simp)
              have hkx : kRow (kindOf x 0) = [.v (.string ⟨#[97]⟩), .lst 1 (psR f kk n), .v (.bool (decide (andN .u8 x.f2 1 = 1)))] := by rw [hks, show psR f kk n = psR f kk (min kk.length 4) by rw [← hne]]; simp [kRow, encKind, psR, nameA, nameB, encProg]; omega
              have hpl := psR_len f kk (n := n) (by omega)
              simp [go_sem, Wk_eq, hk0, ksR_succ x 0, hkx]
              (try refine leRows_append (.refl _) (.cons (.cons (.refl _) (.cons ?_ (.cons (.refl _) .nil))) .nil))
              refine LeV.frz rfl ?_ ?_ (LeRows.of_eq ?_) <;> simp [mkH, upd, hpl, List.take_of_length_le]
          · omega
          · simp [go_sem, Wk_eq, hk0]
          · simp
        · obtain ⟨kk, hkk⟩ : ∃ kk, kk = x.ks 1 := ⟨_, rfl⟩
          have hk0 : x.k1 = kk := hkk.symm
          rw [← hkk] at hkl hkv hks
          have hbit : bitU x.f2 1 = decide (andN .u8 (x.f2.fdiv 2) 1 = 1) := by simp [bitU]
          obtain ⟨f, hf⟩ : ∃ f, f = (fun n => madeP n b.next.length K x.rights) := ⟨_, rfl⟩
          have hfp : ∀ n, U8 n → Pure Try.prog 25 [.v (.int .u8 n), .v (.int .i64 b.next.length), .v (.int .i64 K), .v (.int .i64 R)] (encProg (f n)) := fun n hn => by
            rw [hf, ← hR]; exact R2Made_pure n _ _ _ hn (by omega) (by omega) (by omega)
          rw [← hf, hbit] at hks
          (repeat (first | with_reducible (first | refine wL fun _ => ?_ | refine wD fun _ => ?_ | refine wE ?_ | refine adrZ.go ?_) | simp [go_sem, hk0]))
          refine ALoop.start (ALoop.ind (α := Nat) (fun n => ⟨[(1, .ref 0 0 12 0 0), (2, .ref 1 0 9 0 0), (3, .ref 20 0 9 0 0), (4, .v (.int .i64 K)), (5, .v (.int .i64 1)), (6, .ref 35 0 3 0 0), (7, .v (.int .i64 n))],
            [(0, .rows true 0 12 [encRaw x]), (1, .rows true 0 9 [[.v (.int .i64 0), AV.nils, AV.nils, AV.nils, .v (.int .i64 0), .v (.bool false), AV.nils, .v (.int .i64 0), .v (.int .i64 0)]]), (20, .rows true 0 9 [[.v (.int .i64 b.cells), encIss b.next, encIs b.turn, .sl 22 1 3 0 1, .v (.int .i64 R), .v (.bool (decide (x.f1.tmod 4 = 3))), AV.nils, .v (.int .i64 3), .v (.int .i64 2)]]), (22, .rows true 1 3 (ksR x 1)), (35, .rows true 0 3 [[.v (.string ⟨#[98, 101, 101]⟩), .sl 37 n 1 0 n, .v (.bool (decide (andN .u8 (x.f2.fdiv 2) 1 = 1)))]]), (37, .rows true n 1 (psR f kk n))], 38⟩)
            (fun d n => n + d = min kk.length 4) ?_ (min kk.length 4) 0 ?_) ?_ ?_
          · rintro d n n1 hrec1
            (repeat (first | with_reducible (first | refine wL fun _ => ?_ | refine wD fun _ => ?_ | refine wE ?_ | refine adrZ.go ?_) | simp [go_sem, hk0]))
            refine aIf.mkL (fun hn => ?_) (fun hn => ?_) <;> simp at hn
            · have hn1 : n < kk.length := by omega
              have hn2 := hkv _ (nth_mem hn1)
              have hpl := psR_len f kk (n := n) (by omega)
              (repeat (first | with_reducible (first | refine wL fun _ => ?_ | refine wD fun _ => ?_ | refine wE ?_ | refine adrZ.go ?_) | simp [go_sem, hk0, hn1]))
              try ((with_reducible refine adrZ.go ?_); (try simp [go_sem]))
              refine dCall.plain (hfp _ hn2) (by simp [go_sem]) ?_
              (repeat (first | with_reducible (first | refine wL fun _ => ?_ | refine wD fun _ => ?_ | refine wE ?_ | refine adrZ.go ?_) | simp [go_sem, hk0, hn1, hpl]))
              refine ALoop.start (hrec1 (d - 1) (by omega) (n + 1) (by omega)) ?_ (by simp)
              simp [go_sem, Wk_eq, hk0, psR_succ f kk hn1]
            · have hne : n = min kk.length 4 := by omega
              (repeat (first | with_reducible (first | refine wL fun _ => ?_ | refine wD fun _ => ?_ | refine wE ?_ | refine adrZ.go ?_) | simp [go_sem]))
              refine ALoop.start (hrec (d0 - 1) (by omega) (1 + 1) (by omega)) ?_ (by simp)
              have hkx : kRow (kindOf x 1) = [.v (.string ⟨#[98, 101, 101]⟩), .lst 1 (psR f kk n), .v (.bool (decide (andN .u8 (x.f2.fdiv 2) 1 = 1)))] := by rw [hks, show psR f kk n = psR f kk (min kk.length 4) by rw [← hne]]; simp [kRow, encKind, psR, nameA, nameB, encProg]; omega
              have hpl := psR_len f kk (n := n) (by omega)
              simp [go_sem, Wk_eq, hk0, ksR_succ x 1, hkx]
              (try refine leRows_append (.refl _) (.cons (.cons (.refl _) (.cons ?_ (.cons (.refl _) .nil))) .nil))
              refine LeV.frz rfl ?_ ?_ (LeRows.of_eq ?_) <;> simp [mkH, upd, hpl, List.take_of_length_le]
          · omega
          · simp [go_sem, Wk_eq, hk0]
          · simp
      · have hiK : i = K := by omega
        subst hiK
        (repeat (first | with_reducible (first | refine wL fun _ => ?_ | refine wD fun _ => ?_ | refine wE ?_ | refine adrZ.go ?_) | simp [go_sem]))
        refine aIf.mkL (fun hb3 => ?_) (fun hb3 => ?_) <;> simp at hb3 <;> (repeat (first | with_reducible (first | refine wL fun _ => ?_ | refine wD fun _ => ?_ | refine wE ?_ | refine adrZ.go ?_) | simp [go_sem]))
        all_goals refine aIf.mkL (fun hb4 => ?_) (fun hb4 => ?_) <;> simp at hb4 <;> (repeat (first | with_reducible (first | refine wL fun _ => ?_ | refine wD fun _ => ?_ | refine wE ?_ | refine adrZ.go ?_) | simp [go_sem]))
        all_goals (
          refine ALoop.start (ALoop.ind (α := Nat) (fun a => ⟨[(1, .ref 0 0 12 0 0), (2, .ref 1 0 9 0 0), (3, .ref 20 0 9 0 0), (4, .v (.int .i64 i)), (8, .v (.int .i64 a))],
            [(0, .rows true 0 12 [encRaw x]), (1, .rows true 0 9 [[.v (.int .i64 0), AV.nils, AV.nils, AV.nils, .v (.int .i64 0), .v (.bool false), AV.nils, .v (.int .i64 0), .v (.int .i64 0)]]), (20, .rows true 0 9 [[.v (.int .i64 b.cells), encIss b.next, encIs b.turn, .sl 22 i 3 0 i, .v (.int .i64 R), .v (.bool (decide (x.f1.tmod 4 = 3))), .sl 23 a 4 0 a, .v (.int .i64 bl), .v (.int .i64 en)]]), (22, .rows true i 3 (ksR x i)), (23, .rows true a 4 (clR b.cells i x.c a))], 24⟩)
            (fun d a => a + d = min x.c.length 3) ?_ (min x.c.length 3) 0 ?_) ?_ ?_
          · rintro d j j1 hrec2
            (repeat (first | with_reducible (first | refine wL fun _ => ?_ | refine wD fun _ => ?_ | refine wE ?_ | refine adrZ.go ?_) | simp [go_sem]))
            refine aIf.mkL (fun hj => ?_) (fun hj => ?_) <;> simp at hj
            · have hj1 : j < x.c.length := by omega
              have hjc := hx.c _ (nth_mem hj1)
              have hpl := clR_len b.cells i x.c (n := j) (by omega)
              have hsu := clR_succ b.cells i x.c hj1
              generalize hcx : nth x.c j = c at *
              obtain ⟨c0, c1, c2⟩ := c
              obtain ⟨u0, u1, u2⟩ := hjc
              obtain ⟨w0, w0'⟩ := qq _ u0
              obtain ⟨v0, v0'⟩ := u0
              obtain ⟨v1, v1'⟩ := u1
              obtain ⟨v2, v2'⟩ := u2
              simp only at v0 v0' v1 v1' v2 v2' w0 w0'
              have t0 := Int.tmod_nonneg 3 v0
              have t1 := Int.tmod_lt_of_pos c0 (show (0 : Int) < 3 by decide)
              have hip : (0 : Int) < i := by omega
              have k0 := Int.tmod_nonneg i v1
              have n0 := Int.tmod_nonneg b.cells v2
              have n1 := Int.tmod_nonneg 3 v2
              rcases (show c0.tmod 3 = 0 ∨ c0.tmod 3 = 1 ∨ c0.tmod 3 = 2 by omega) with ht | ht | ht
              · have hr : cRow (clauseOf b.cells i (c0, c1, c2)) = [.v (.int .i64 1), .v (.int .i64 (c1.tmod i)), .v (.int .i64 0), .v (.int .i64 (1 + (c0.tdiv 4).tmod 3))] := by simp [cRow, clauseOf, encClause, ht]
                (repeat (first | with_reducible (first | refine wL fun _ => ?_ | refine wD fun _ => ?_ | refine wE ?_ | refine adrZ.go ?_) | simp [go_sem, hj1, hcx, ht, hpl]))
                refine ALoop.start (hrec2 (d - 1) (by omega) (j + 1) (by omega)) ?_ (by simp)
                simp [go_sem, Wk_eq, hsu, hr]
              · have hr : cRow (clauseOf b.cells i (c0, c1, c2)) = [.v (.int .i64 2), .v (.int .i64 (c1.tmod i)), .v (.int .i64 (c2.tmod b.cells)), .v (.int .i64 (1 + (c0.tdiv 4).tmod 3))] := by simp [cRow, clauseOf, encClause, ht]
                (repeat (first | with_reducible (first | refine wL fun _ => ?_ | refine wD fun _ => ?_ | refine wE ?_ | refine adrZ.go ?_) | simp [go_sem, hj1, hcx, ht, hpl]))
                refine ALoop.start (hrec2 (d - 1) (by omega) (j + 1) (by omega)) ?_ (by simp)
                simp [go_sem, Wk_eq, hsu, hr]
              · have hr : cRow (clauseOf b.cells i (c0, c1, c2)) = [.v (.int .i64 3), .v (.int .i64 0), .v (.int .i64 (c2.tmod 3)), .v (.int .i64 (1 + (c0.tdiv 4).tmod 3))] := by simp [cRow, clauseOf, encClause, ht]
                (repeat (first | with_reducible (first | refine wL fun _ => ?_ | refine wD fun _ => ?_ | refine wE ?_ | refine adrZ.go ?_) | simp [go_sem, hj1, hcx, ht, hpl]))
                refine ALoop.start (hrec2 (d - 1) (by omega) (j + 1) (by omega)) ?_ (by simp)
                simp [go_sem, Wk_eq, hsu, hr]
            · have hki : kindsN x = i := by rw [hK2, hK]
              have hjm : j = min x.c.length 3 := by omega
              have htk : x.c.take (min x.c.length 3) = x.c.take 3 := by rw [List.take_eq_take_iff]; omega
              have hpl := clR_len b.cells i x.c (n := j) (by omega)
              have hkl : (ksR x i).length = i := ksR_len x i
              have hcl : clR b.cells i x.c j = ((x.c.take 3).map (clauseOf b.cells i)).map encClause := by unfold clR; rw [hjm, htk]
              have hG : madeG x = { cells := b.cells, next := b.next, turn := b.turn, kinds := (List.range i).map (kindOf x), rights := R, must := decide (x.f1.tmod 4 = 3), clauses := (x.c.take 3).map (clauseOf b.cells i), blocked := bl, endless := en } := by
                unfold madeG; rw [hki, ← hbb, ← hR, ← hbl, ← hen]
              have hEnc : eg = [.v (.int .i64 b.cells), encIss b.next, encIs b.turn, .lst 3 (ksR x i), .v (.int .i64 R), .v (.bool (decide (x.f1.tmod 4 = 3))), .lst 4 (clR b.cells i x.c j), .v (.int .i64 bl), .v (.int .i64 en)] := by
                rw [heg, hG, hcl]; rfl
              (repeat (first | with_reducible (first | refine wL fun _ => ?_ | refine wD fun _ => ?_ | refine wE ?_ | refine adrZ.go ?_) | simp [go_sem]))
              rw [hEnc]
              refine ⟨.cons (.refl _) (.cons (.refl _) (.cons (.refl _) (.cons (leV_frz rfl (by omega) (by simp [noH]) (by rw [List.drop_zero, List.take_of_length_le (by omega)])) (.cons (.refl _) (.cons (.refl _) (.cons (leV_frz rfl (by omega) (by simp [noH]) (by rw [List.drop_zero, List.take_of_length_le (by omega)])) (.cons (.refl _) (.cons (.refl _) .nil)))))))), ?_⟩
              intro c hc
              simp only [List.mem_cons, List.not_mem_nil, or_false] at hc
              rcases hc with rfl | rfl | rfl | rfl | rfl | rfl | rfl | rfl | rfl
              all_goals first | exact .v _ | simp [go_sem]
          · omega
          · simp [go_sem, Wk_eq, hbl, hen, hb3, hb4]
          · simp)
    · omega
    · simp [go_sem, Wk_eq, hK]
    · simp
  · have hK2 : kindsN x = 1 := by rw [hKn, if_pos (by simp [hk1])]
    rw [hK2] at hK
    (repeat (first | with_reducible (first | refine wL fun _ => ?_ | refine wD fun _ => ?_ | refine wE ?_ | refine adrZ.go ?_) | simp [go_sem]))
    refine ALoop.start (ALoop.ind (α := Nat) (fun a => ⟨[(1, .ref 0 0 12 0 0), (2, .ref 1 0 9 0 0), (3, .ref 20 0 9 0 0), (4, .v (.int .i64 K)), (5, .v (.int .i64 a))],
      [(0, .rows true 0 12 [encRaw x]), (1, .rows true 0 9 [[.v (.int .i64 0), AV.nils, AV.nils, AV.nils, .v (.int .i64 0), .v (.bool false), AV.nils, .v (.int .i64 0), .v (.int .i64 0)]]), (20, .rows true 0 9 [[.v (.int .i64 b.cells), encIss b.next, encIs b.turn, .sl 22 a 3 0 a, .v (.int .i64 R), .v (.bool (decide (x.f1.tmod 4 = 3))), AV.nils, .v (.int .i64 3), .v (.int .i64 2)]]), (22, .rows true a 3 (ksR x a))], 23⟩)
      (fun d a => a + d = K) ?_ K 0 ?_) ?_ ?_
    · rintro d0 i i1 hrec
      (repeat (first | with_reducible (first | refine wL fun _ => ?_ | refine wD fun _ => ?_ | refine wE ?_ | refine adrZ.go ?_) | simp [go_sem]))
      refine aIf.mkL (fun hi => ?_) (fun hi => ?_) <;> simp at hi
      · have hi2 : i = 0 ∨ i = 1 := by omega
        have hkl := hKl i
        have hkv := hKv i
        have hks : kindOf x i = ⟨if i = 0 then nameA else nameB, ((x.ks i).take 4).map (fun n => madeP n b.next.length K x.rights), bitU x.f2 i⟩ := by rw [hbb, hK, ← hK2]; rfl
        rcases hi2 with rfl | rfl
        · obtain ⟨kk, hkk⟩ : ∃ kk, kk = x.ks 0 := ⟨_, rfl⟩
          have hk0 : x.k0 = kk := hkk.symm
          rw [← hkk] at hkl hkv hks
          have hbit : bitU x.f2 0 = decide (andN .u8 x.f2 1 = 1) := by simp [bitU]
          obtain ⟨f, hf⟩ : ∃ f, f = (fun n => madeP n b.next.length K x.rights) := ⟨_, rfl⟩
          have hfp : ∀ n, U8 n → Pure Try.prog 25 [.v (.int .u8 n), .v (.int .i64 b.next.length), .v (.int .i64 K), .v (.int .i64 R)] (encProg (f n)) := fun n hn => by
            rw [hf, ← hR]; exact R2Made_pure n _ _ _ hn (by omega) (by omega) (by omega)
          rw [← hf, hbit] at hks
          (repeat (first | with_reducible (first | refine wL fun _ => ?_ | refine wD fun _ => ?_ | refine wE ?_ | refine adrZ.go ?_) | simp [go_sem, hk0]))
          refine ALoop.start (ALoop.ind (α := Nat) (fun n => ⟨[(1, .ref 0 0 12 0 0), (2, .ref 1 0 9 0 0), (3, .ref 20 0 9 0 0), (4, .v (.int .i64 K)), (5, .v (.int .i64 0)), (6, .ref 35 0 3 0 0), (7, .v (.int .i64 n))],
            [(0, .rows true 0 12 [encRaw x]), (1, .rows true 0 9 [[.v (.int .i64 0), AV.nils, AV.nils, AV.nils, .v (.int .i64 0), .v (.bool false), AV.nils, .v (.int .i64 0), .v (.int .i64 0)]]), (20, .rows true 0 9 [[.v (.int .i64 b.cells), encIss b.next, encIs b.turn, .sl 22 0 3 0 0, .v (.int .i64 R), .v (.bool (decide (x.f1.tmod 4 = 3))), AV.nils, .v (.int .i64 3), .v (.int .i64 2)]]), (22, .rows true 0 3 (ksR x 0)), (35, .rows true 0 3 [[.v (.string ⟨#[97]⟩), .sl 37 n 1 0 n, .v (.bool (decide (andN .u8 x.f2 1 = 1)))]]), (37, .rows true n 1 (psR f kk n))], 38⟩)
            (fun d n => n + d = min kk.length 4) ?_ (min kk.length 4) 0 ?_) ?_ ?_
          · rintro d n n1 hrec1
            (repeat (first | with_reducible (first | refine wL fun _ => ?_ | refine wD fun _ => ?_ | refine wE ?_ | refine adrZ.go ?_) | simp [go_sem, hk0]))
            refine aIf.mkL (fun hn => ?_) (fun hn => ?_) <;> simp at hn
            · have hn1 : n < kk.length := by omega
              have hn2 := hkv _ (nth_mem hn1)
              have hpl := psR_len f kk (n := n) (by omega)
              (repeat (first | with_reducible (first | refine wL fun _ => ?_ | refine wD fun _ => ?_ | refine wE ?_ | refine adrZ.go ?_) | simp [go_sem, hk0, hn1]))
              try ((with_reducible refine adrZ.go ?_); (try simp [go_sem]))
              refine dCall.plain (hfp _ hn2) (by simp [go_sem]) ?_
              (repeat (first | with_reducible (first | refine wL fun _ => ?_ | refine wD fun _ => ?_ | refine wE ?_ | refine adrZ.go ?_) | simp [go_sem, hk0, hn1, hpl]))
              refine ALoop.start (hrec1 (d - 1) (by omega) (n + 1) (by omega)) ?_ (by simp)
              simp [go_sem, Wk_eq, hk0, psR_succ f kk hn1]
            · have hne : n = min kk.length 4 := by omega
              (repeat (first | with_reducible (first | refine wL fun _ => ?_ | refine wD fun _ => ?_ | refine wE ?_ | refine adrZ.go ?_) | simp [go_sem]))
              refine ALoop.start (hrec (d0 - 1) (by omega) (0 + 1) (by omega)) ?_ (by simp)
              have hkx : kRow (kindOf x 0) = [.v (.string ⟨#[97]⟩), .lst 1 (psR f kk n), .v (.bool (decide (andN .u8 x.f2 1 = 1)))] := by rw [hks, show psR f kk n = psR f kk (min kk.length 4) by rw [← hne]]; simp [kRow, encKind, psR, nameA, nameB, encProg]; omega
              have hpl := psR_len f kk (n := n) (by omega)
              simp [go_sem, Wk_eq, hk0, ksR_succ x 0, hkx]
              (try refine leRows_append (.refl _) (.cons (.cons (.refl _) (.cons ?_ (.cons (.refl _) .nil))) .nil))
              refine LeV.frz rfl ?_ ?_ (LeRows.of_eq ?_) <;> simp [mkH, upd, hpl, List.take_of_length_le]
          · omega
          · simp [go_sem, Wk_eq, hk0]
          · simp
        · obtain ⟨kk, hkk⟩ : ∃ kk, kk = x.ks 1 := ⟨_, rfl⟩
          have hk0 : x.k1 = kk := hkk.symm
          rw [← hkk] at hkl hkv hks
          have hbit : bitU x.f2 1 = decide (andN .u8 (x.f2.fdiv 2) 1 = 1) := by simp [bitU]
          obtain ⟨f, hf⟩ : ∃ f, f = (fun n => madeP n b.next.length K x.rights) := ⟨_, rfl⟩
          have hfp : ∀ n, U8 n → Pure Try.prog 25 [.v (.int .u8 n), .v (.int .i64 b.next.length), .v (.int .i64 K), .v (.int .i64 R)] (encProg (f n)) := fun n hn => by
            rw [hf, ← hR]; exact R2Made_pure n _ _ _ hn (by omega) (by omega) (by omega)
          rw [← hf, hbit] at hks
          (repeat (first | with_reducible (first | refine wL fun _ => ?_ | refine wD fun _ => ?_ | refine wE ?_ | refine adrZ.go ?_) | simp [go_sem, hk0]))
          refine ALoop.start (ALoop.ind (α := Nat) (fun n => ⟨[(1, .ref 0 0 12 0 0), (2, .ref 1 0 9 0 0), (3, .ref 20 0 9 0 0), (4, .v (.int .i64 K)), (5, .v (.int .i64 1)), (6, .ref 35 0 3 0 0), (7, .v (.int .i64 n))],
            [(0, .rows true 0 12 [encRaw x]), (1, .rows true 0 9 [[.v (.int .i64 0), AV.nils, AV.nils, AV.nils, .v (.int .i64 0), .v (.bool false), AV.nils, .v (.int .i64 0), .v (.int .i64 0)]]), (20, .rows true 0 9 [[.v (.int .i64 b.cells), encIss b.next, encIs b.turn, .sl 22 1 3 0 1, .v (.int .i64 R), .v (.bool (decide (x.f1.tmod 4 = 3))), AV.nils, .v (.int .i64 3), .v (.int .i64 2)]]), (22, .rows true 1 3 (ksR x 1)), (35, .rows true 0 3 [[.v (.string ⟨#[98, 101, 101]⟩), .sl 37 n 1 0 n, .v (.bool (decide (andN .u8 (x.f2.fdiv 2) 1 = 1)))]]), (37, .rows true n 1 (psR f kk n))], 38⟩)
            (fun d n => n + d = min kk.length 4) ?_ (min kk.length 4) 0 ?_) ?_ ?_
          · rintro d n n1 hrec1
            (repeat (first | with_reducible (first | refine wL fun _ => ?_ | refine wD fun _ => ?_ | refine wE ?_ | refine adrZ.go ?_) | simp [go_sem, hk0]))
            refine aIf.mkL (fun hn => ?_) (fun hn => ?_) <;> simp at hn
            · have hn1 : n < kk.length := by omega
              have hn2 := hkv _ (nth_mem hn1)
              have hpl := psR_len f kk (n := n) (by omega)
              (repeat (first | with_reducible (first | refine wL fun _ => ?_ | refine wD fun _ => ?_ | refine wE ?_ | refine adrZ.go ?_) | simp [go_sem, hk0, hn1]))
              try ((with_reducible refine adrZ.go ?_); (try simp [go_sem]))
              refine dCall.plain (hfp _ hn2) (by simp [go_sem]) ?_
              (repeat (first | with_reducible (first | refine wL fun _ => ?_ | refine wD fun _ => ?_ | refine wE ?_ | refine adrZ.go ?_) | simp [go_sem, hk0, hn1, hpl]))
              refine ALoop.start (hrec1 (d - 1) (by omega) (n + 1) (by omega)) ?_ (by simp)
              simp [go_sem, Wk_eq, hk0, psR_succ f kk hn1]
            · have hne : n = min kk.length 4 := by omega
              (repeat (first | with_reducible (first | refine wL fun _ => ?_ | refine wD fun _ => ?_ | refine wE ?_ | refine adrZ.go ?_) | simp [go_sem]))
              refine ALoop.start (hrec (d0 - 1) (by omega) (1 + 1) (by omega)) ?_ (by simp)
              have hkx : kRow (kindOf x 1) = [.v (.string ⟨#[98, 101, 101]⟩), .lst 1 (psR f kk n), .v (.bool (decide (andN .u8 (x.f2.fdiv 2) 1 = 1)))] := by rw [hks, show psR f kk n = psR f kk (min kk.length 4) by rw [← hne]]; simp [kRow, encKind, psR, nameA, nameB, encProg]; omega
              have hpl := psR_len f kk (n := n) (by omega)
              simp [go_sem, Wk_eq, hk0, ksR_succ x 1, hkx]
              (try refine leRows_append (.refl _) (.cons (.cons (.refl _) (.cons ?_ (.cons (.refl _) .nil))) .nil))
              refine LeV.frz rfl ?_ ?_ (LeRows.of_eq ?_) <;> simp [mkH, upd, hpl, List.take_of_length_le]
          · omega
          · simp [go_sem, Wk_eq, hk0]
          · simp
      · have hiK : i = K := by omega
        subst hiK
        (repeat (first | with_reducible (first | refine wL fun _ => ?_ | refine wD fun _ => ?_ | refine wE ?_ | refine adrZ.go ?_) | simp [go_sem]))
        refine aIf.mkL (fun hb3 => ?_) (fun hb3 => ?_) <;> simp at hb3 <;> (repeat (first | with_reducible (first | refine wL fun _ => ?_ | refine wD fun _ => ?_ | refine wE ?_ | refine adrZ.go ?_) | simp [go_sem]))
        all_goals refine aIf.mkL (fun hb4 => ?_) (fun hb4 => ?_) <;> simp at hb4 <;> (repeat (first | with_reducible (first | refine wL fun _ => ?_ | refine wD fun _ => ?_ | refine wE ?_ | refine adrZ.go ?_) | simp [go_sem]))
        all_goals (
          refine ALoop.start (ALoop.ind (α := Nat) (fun a => ⟨[(1, .ref 0 0 12 0 0), (2, .ref 1 0 9 0 0), (3, .ref 20 0 9 0 0), (4, .v (.int .i64 i)), (8, .v (.int .i64 a))],
            [(0, .rows true 0 12 [encRaw x]), (1, .rows true 0 9 [[.v (.int .i64 0), AV.nils, AV.nils, AV.nils, .v (.int .i64 0), .v (.bool false), AV.nils, .v (.int .i64 0), .v (.int .i64 0)]]), (20, .rows true 0 9 [[.v (.int .i64 b.cells), encIss b.next, encIs b.turn, .sl 22 i 3 0 i, .v (.int .i64 R), .v (.bool (decide (x.f1.tmod 4 = 3))), .sl 23 a 4 0 a, .v (.int .i64 bl), .v (.int .i64 en)]]), (22, .rows true i 3 (ksR x i)), (23, .rows true a 4 (clR b.cells i x.c a))], 24⟩)
            (fun d a => a + d = min x.c.length 3) ?_ (min x.c.length 3) 0 ?_) ?_ ?_
          · rintro d j j1 hrec2
            (repeat (first | with_reducible (first | refine wL fun _ => ?_ | refine wD fun _ => ?_ | refine wE ?_ | refine adrZ.go ?_) | simp [go_sem]))
            refine aIf.mkL (fun hj => ?_) (fun hj => ?_) <;> simp at hj
            · have hj1 : j < x.c.length := by omega
              have hjc := hx.c _ (nth_mem hj1)
              have hpl := clR_len b.cells i x.c (n := j) (by omega)
              have hsu := clR_succ b.cells i x.c hj1
              generalize hcx : nth x.c j = c at *
              obtain ⟨c0, c1, c2⟩ := c
              obtain ⟨u0, u1, u2⟩ := hjc
              obtain ⟨w0, w0'⟩ := qq _ u0
              obtain ⟨v0, v0'⟩ := u0
              obtain ⟨v1, v1'⟩ := u1
              obtain ⟨v2, v2'⟩ := u2
              simp only at v0 v0' v1 v1' v2 v2' w0 w0'
              have t0 := Int.tmod_nonneg 3 v0
              have t1 := Int.tmod_lt_of_pos c0 (show (0 : Int) < 3 by decide)
              have hip : (0 : Int) < i := by omega
              have k0 := Int.tmod_nonneg i v1
              have n0 := Int.tmod_nonneg b.cells v2
              have n1 := Int.tmod_nonneg 3 v2
              rcases (show c0.tmod 3 = 0 ∨ c0.tmod 3 = 1 ∨ c0.tmod 3 = 2 by omega) with ht | ht | ht
              · have hr : cRow (clauseOf b.cells i (c0, c1, c2)) = [.v (.int .i64 1), .v (.int .i64 (c1.tmod i)), .v (.int .i64 0), .v (.int .i64 (1 + (c0.tdiv 4).tmod 3))] := by simp [cRow, clauseOf, encClause, ht]
                (repeat (first | with_reducible (first | refine wL fun _ => ?_ | refine wD fun _ => ?_ | refine wE ?_ | refine adrZ.go ?_) | simp [go_sem, hj1, hcx, ht, hpl]))
                refine ALoop.start (hrec2 (d - 1) (by omega) (j + 1) (by omega)) ?_ (by simp)
                simp [go_sem, Wk_eq, hsu, hr]
              · have hr : cRow (clauseOf b.cells i (c0, c1, c2)) = [.v (.int .i64 2), .v (.int .i64 (c1.tmod i)), .v (.int .i64 (c2.tmod b.cells)), .v (.int .i64 (1 + (c0.tdiv 4).tmod 3))] := by simp [cRow, clauseOf, encClause, ht]
                (repeat (first | with_reducible (first | refine wL fun _ => ?_ | refine wD fun _ => ?_ | refine wE ?_ | refine adrZ.go ?_) | simp [go_sem, hj1, hcx, ht, hpl]))
                refine ALoop.start (hrec2 (d - 1) (by omega) (j + 1) (by omega)) ?_ (by simp)
                simp [go_sem, Wk_eq, hsu, hr]
              · have hr : cRow (clauseOf b.cells i (c0, c1, c2)) = [.v (.int .i64 3), .v (.int .i64 0), .v (.int .i64 (c2.tmod 3)), .v (.int .i64 (1 + (c0.tdiv 4).tmod 3))] := by simp [cRow, clauseOf, encClause, ht]
                (repeat (first | with_reducible (first | refine wL fun _ => ?_ | refine wD fun _ => ?_ | refine wE ?_ | refine adrZ.go ?_) | simp [go_sem, hj1, hcx, ht, hpl]))
                refine ALoop.start (hrec2 (d - 1) (by omega) (j + 1) (by omega)) ?_ (by simp)
                simp [go_sem, Wk_eq, hsu, hr]
            · have hki : kindsN x = i := by rw [hK2, hK]
              have hjm : j = min x.c.length 3 := by omega
              have htk : x.c.take (min x.c.length 3) = x.c.take 3 := by rw [List.take_eq_take_iff]; omega
              have hpl := clR_len b.cells i x.c (n := j) (by omega)
              have hkl : (ksR x i).length = i := ksR_len x i
              have hcl : clR b.cells i x.c j = ((x.c.take 3).map (clauseOf b.cells i)).map encClause := by unfold clR; rw [hjm, htk]
              have hG : madeG x = { cells := b.cells, next := b.next, turn := b.turn, kinds := (List.range i).map (kindOf x), rights := R, must := decide (x.f1.tmod 4 = 3), clauses := (x.c.take 3).map (clauseOf b.cells i), blocked := bl, endless := en } := by
                unfold madeG; rw [hki, ← hbb, ← hR, ← hbl, ← hen]
              have hEnc : eg = [.v (.int .i64 b.cells), encIss b.next, encIs b.turn, .lst 3 (ksR x i), .v (.int .i64 R), .v (.bool (decide (x.f1.tmod 4 = 3))), .lst 4 (clR b.cells i x.c j), .v (.int .i64 bl), .v (.int .i64 en)] := by
                rw [heg, hG, hcl]; rfl
              (repeat (first | with_reducible (first | refine wL fun _ => ?_ | refine wD fun _ => ?_ | refine wE ?_ | refine adrZ.go ?_) | simp [go_sem]))
              rw [hEnc]
              refine ⟨.cons (.refl _) (.cons (.refl _) (.cons (.refl _) (.cons (leV_frz rfl (by omega) (by simp [noH]) (by rw [List.drop_zero, List.take_of_length_le (by omega)])) (.cons (.refl _) (.cons (.refl _) (.cons (leV_frz rfl (by omega) (by simp [noH]) (by rw [List.drop_zero, List.take_of_length_le (by omega)])) (.cons (.refl _) (.cons (.refl _) .nil)))))))), ?_⟩
              intro c hc
              simp only [List.mem_cons, List.not_mem_nil, or_false] at hc
              rcases hc with rfl | rfl | rfl | rfl | rfl | rfl | rfl | rfl | rfl
              all_goals first | exact .v _ | simp [go_sem]
          · omega
          · simp [go_sem, Wk_eq, hbl, hen, hb3, hb4]
          · simp)
    · omega
    · simp [go_sem, Wk_eq, hK]
    · simp
end Go.Av
end
