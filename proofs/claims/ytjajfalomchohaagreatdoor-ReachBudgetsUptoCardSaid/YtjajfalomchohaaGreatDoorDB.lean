/- Contracts, programs: at, Lib of the reference. -/
import Derived.Test.YtjajfalomchohaaGreatDoorD3
set_option linter.unusedSimpArgs false
set_option linter.unusedVariables false
section
open Go Go.Proofs
set_option maxRecDepth 20000
set_option maxHeartbeats 4000000
namespace Go.Av
def encProg (p : List (Int × Int)) : AV := .lst 2 (p.map encStep)
theorem bel_S {n : Nat} {l : List (Int × Int)} : (∀ r ∈ l.map encStep, ∀ c ∈ r, Bel n c) = True := by
  refine eq_true ?_
  intro r hr c hc
  obtain ⟨x, _, rfl⟩ := List.mem_map.1 hr
  simp only [encStep, List.mem_cons, List.mem_nil_iff, or_false] at hc
  rcases hc with rfl | rfl <;> exact .v _
theorem bel_Prog {n : Nat} {l : List (Int × Int)} : Bel n (.lst 2 (l.map encStep)) = True := by rw [Bel_lst, bel_S]
attribute [go_sem] encProg
attribute [go_sem high] bel_Prog
theorem R2at_pure (l : List Int) (i : Nat) (hi : i ≤ 1000) (hl : l.length ≤ 9223372036854775807) (hv : ∀ x ∈ l, 0 ≤ x ∧ x ≤ 255) : Pure Tryz.prog 235 [encUs l, .v (.int .i64 i)] (.v (.int .i64 (if i < l.length then nth l i else 0))) := by
  refine pF Tryz.func235 ?_
  (repeat (first|with_reducible (first|refine wL fun _=>?_|refine wD fun _=>?_|refine wE ?_|refine wZ ?_)|simp [go_sem]))
  refine aIf.mkL (fun h => ?_) (fun h => ?_) <;> simp at h
  · have hb := hv _ (nth_mem h)
    rw [if_pos h]
    (repeat (first|with_reducible (first|refine wL fun _=>?_|refine wD fun _=>?_|refine wE ?_|refine wZ ?_)|simp [go_sem, h]))
  · rw [if_neg (by omega)]
    (repeat (first|with_reducible (first|refine wL fun _=>?_|refine wD fun _=>?_|refine wE ?_|refine wZ ?_)|simp [go_sem]))
def libL (d e k r : Int) : List (List (Int × Int)) :=
  [[(1, d), (3, 0)], [(1, d), (4, 0), (6, 0)], [(2, d)], [(2, d), (4, 0), (6, 0)], [(1, d), (4, 0), (6, 0), (1, d)], [(1, d), (1, e)], [(1, d), (7, d)], [(1, d), (3, 0), (8, k)],
   [(9, r), (1, d), (1, d), (10, r)], [(1, d), (5, 0), (1, d), (3, 0)], [(10, r), (1, d)], [(1, d), (4, 0), (6, 0), (1, (d + 4).tmod 8)], [(1, d), (4, 0), (6, 0), (1, e), (4, 0), (6, 0)], [(2, d), (5, 0), (1, d)], [(1, d), (4, 0), (6, 0), (8, k)], [(1, d), (7, d), (1, e)]]
theorem R2Lib_pure (a b c d e : Int) (hv : ∀ x ∈ [a, b, c, d, e], 0 ≤ x ∧ x ≤ 255) : Pure Tryz.prog 183 [encUs [a, b, c, d, e]] (encProg (nth (libL (b.tmod 8) (c.tmod 8) (d.tmod 6) (e.tmod 4)) (a.tmod 16).toNat)) := by
  refine pF Tryz.func183 ?_
  have hA := fun (i : Nat) (hi : i < 5) => R2at_pure [a, b, c, d, e] i (by omega) (by simp) hv
  have h0 := hA 0 (by omega)
  have h1 := hA 1 (by omega)
  have h2 := hA 2 (by omega)
  have h3 := hA 3 (by omega)
  have h4 := hA 4 (by omega)
  clear hA
  simp [nth] at h0 h1 h2 h3 h4 hv
  obtain ⟨v0, v1, v2, v3, v4⟩ := hv
  have b0 := Int.tmod_nonneg 8 v1.1
  have b1 := Int.tmod_lt_of_pos b (show (0 : Int) < 8 by decide)
  have a0 := Int.tmod_nonneg 16 v0.1
  have a1 := Int.tmod_lt_of_pos a (show (0 : Int) < 16 by decide)
  (repeat (first|with_reducible (first|refine wL fun _=>?_|refine wD fun _=>?_|refine wE ?_|refine wZ ?_)|simp [go_sem]))
  refine ACallP.plain h1 (by simp [go_sem]) ?_
  (repeat (first|with_reducible (first|refine wL fun _=>?_|refine wD fun _=>?_|refine wE ?_|refine wZ ?_)|simp [go_sem]))
  refine ACallP.plain h2 (by simp [go_sem]) ?_
  (repeat (first|with_reducible (first|refine wL fun _=>?_|refine wD fun _=>?_|refine wE ?_|refine wZ ?_)|simp [go_sem]))
  refine ACallP.plain h3 (by simp [go_sem]) ?_
  (repeat (first|with_reducible (first|refine wL fun _=>?_|refine wD fun _=>?_|refine wE ?_|refine wZ ?_)|simp [go_sem]))
  refine ACallP.plain h4 (by simp [go_sem]) ?_
  generalize hbv : b.tmod 8 = B at *
  generalize hcv : c.tmod 8 = C at *
  generalize hdv : d.tmod 6 = D at *
  generalize hev : e.tmod 4 = E at *
  (repeat (first|with_reducible (first|refine wL fun _=>?_|refine wD fun _=>?_|refine wE ?_|refine wZ ?_)|simp [go_sem, hbv, hcv, hdv, hev]))
  refine ACallP.plain h0 (by simp [go_sem]) ?_
  (repeat (first|with_reducible (first|refine wL fun _=>?_|refine wD fun _=>?_|refine wE ?_|refine wZ ?_)|simp [go_sem]))
  obtain ⟨i, hi⟩ : ∃ i : Nat, a.tmod 16 = i := ⟨(a.tmod 16).toNat, by omega⟩
  rw [hi] at a0 a1 ⊢
  rcases (show i = 0 ∨ i = 1 ∨ i = 2 ∨ i = 3 ∨ i = 4 ∨ i = 5 ∨ i = 6 ∨ i = 7 ∨ i = 8 ∨ i = 9 ∨ i = 10 ∨ i = 11 ∨ i = 12 ∨ i = 13 ∨ i = 14 ∨ i = 15 by omega) with rfl | rfl | rfl | rfl | rfl | rfl | rfl | rfl | rfl | rfl | rfl | rfl | rfl | rfl | rfl | rfl <;>
    (simp [nth, cel, libL, encStep]; refine LeV.frz rfl ?_ ?_ (LeRows.of_eq ?_) <;> simp [noH])
end Go.Av
end
section
open Go Go.Proofs
set_option maxRecDepth 20000
set_option maxHeartbeats 4000000
namespace Go.Av
def fitStep (dirs kinds rights : Int) (x : Int × Int) : Option (Int × Int) :=
 if x.1 = 1 ∨ x.1 = 2 ∨ x.1 = 7 then some (x.1, x.2.tmod dirs) else if x.1 = 8 then some (x.1, x.2.tmod kinds)
 else if x.1 = 9 ∨ x.1 = 10 then (if rights = 0 then none else some (x.1, x.2.tmod rights)) else some x
def fitP (dirs kinds rights : Int) (p : List (Int × Int)) : List (Int × Int) := if p.filterMap (fitStep dirs kinds rights) = [] then [(3, 0)] else p.filterMap (fitStep dirs kinds rights)
theorem fm_take {α β : Type} [Inhabited α] (f : α → Option β) (l : List α) (j : Nat) (h : j < l.length) : (l.take (j + 1)).filterMap f = (l.take j).filterMap f ++ (f (nth l j)).toList := by
 rw [List.take_add_one, List.filterMap_append, List.getElem?_eq_getElem h, nth_eq _ _ h]
 cases hf : f l[j] <;> simp [hf]
theorem R2Fit_pure (p : List (Int × Int)) (hp : p.length ≤ 1048576) (dirs kinds rights : Int) (hd : 1 ≤ dirs) (hk : 1 ≤ kinds) (hr : 0 ≤ rights) :
  Pure Tryz.prog 182 [encProg p, .v (.int .i64 dirs), .v (.int .i64 kinds), .v (.int .i64 rights)] (encProg (fitP dirs kinds rights p)) := by
 refine pF Tryz.func182 ?_
 (repeat (first|with_reducible (first|refine wL fun _=>?_|refine wD fun _=>?_|refine wE ?_|refine wZ ?_)|simp [go_sem]))
 refine ALoop.start (ALoop.ind (α := Nat × List (Int × Int)) (fun a => ⟨[(0, encProg p), (1, .v (.int .i64 dirs)), (2, .v (.int .i64 kinds)), (3, .v (.int .i64 rights)), (9, .sl 0 a.2.length 2 0 a.2.length), (10, .v (.int .i64 a.1))], [(0, .rows true a.2.length 2 (a.2.map encStep))], 1⟩)
  (fun d a => a.1 + d = p.length ∧ a.2 = (p.take a.1).filterMap (fitStep dirs kinds rights) ∧ a.2.length ≤ a.1) ?_ p.length (0, []) ?_) ?_ ?_
 ·rintro d ⟨j, out⟩ ⟨i1, i2, i3⟩ hrec
  simp only at i1 i2 i3
  (repeat (first|with_reducible (first|refine wL fun _=>?_|refine wD fun _=>?_|refine wE ?_|refine wZ ?_)|simp [go_sem]))
  refine aIf.mkL (fun hj => ?_) (fun hj => ?_) <;> simp at hj
  ·have hs := fm_take (fitStep dirs kinds rights) p j hj
   rw [← i2] at hs
   generalize hx : nth p j = x at *
   obtain ⟨op, n⟩ := x
   have hgo : ∀ y, fitStep dirs kinds rights (op, n) = some y → out ++ [y] = (p.take (j + 1)).filterMap (fitStep dirs kinds rights) ∧ (out ++ [y]).length ≤ j + 1 := fun y hy => by rw [hs, hy]; simp; omega
   have hbel : ∀ y : Int × Int, ∀ r ∈ (out ++ [y]).map encStep, ∀ c ∈ r, Bel 1 c := fun y => of_eq_true bel_S
   rcases (show (op = 1 ∨ op = 2 ∨ op = 7) ∨ op = 8 ∨ (op = 9 ∨ op = 10) ∨ (op ≠ 1 ∧ op ≠ 2 ∧ op ≠ 7 ∧ op ≠ 8 ∧ op ≠ 9 ∧ op ≠ 10) by omega) with c1 | c1 | c1 | ⟨c1, c2, c3, c4, c5, c6⟩
   ·have hf : fitStep dirs kinds rights (op, n) = some (op, n.tmod dirs) := by unfold fitStep; rw [if_pos c1]
    obtain ⟨k1, k2⟩ := hgo _ hf
    have hb := hbel (op, n.tmod dirs)
    rcases c1 with rfl | rfl | rfl <;>
    ·(repeat (first|with_reducible (first|refine wL fun _=>?_|refine wD fun _=>?_|refine wE ?_|refine wZ ?_)|simp [go_sem, hj, hx]))
     refine ALoop.start (hrec (d - 1) (by omega) (j + 1, out ++ [(_, n.tmod dirs)]) ⟨by simp only; omega, k1, k2⟩) ?_ (by simp)
     simp [go_sem, Wk_eq] at hb ⊢
     try exact hb
   ·have hf : fitStep dirs kinds rights (op, n) = some (op, n.tmod kinds) := by unfold fitStep; rw [if_neg (by omega), if_pos c1]
    obtain ⟨k1, k2⟩ := hgo _ hf
    have hb := hbel (op, n.tmod kinds)
    subst c1
    (repeat (first|with_reducible (first|refine wL fun _=>?_|refine wD fun _=>?_|refine wE ?_|refine wZ ?_)|simp [go_sem, hj, hx]))
    refine ALoop.start (hrec (d - 1) (by omega) (j + 1, out ++ [(_, n.tmod kinds)]) ⟨by simp only; omega, k1, k2⟩) ?_ (by simp)
    simp [go_sem, Wk_eq] at hb ⊢
    try exact hb
   ·by_cases hr0 : rights = 0
    ·have hf : fitStep dirs kinds rights (op, n) = none := by unfold fitStep; rw [if_neg (by omega), if_neg (by omega), if_pos c1, if_pos hr0]
     rw [hf, Option.toList_none, List.append_nil] at hs
     have hb := hbel (op, n)
     subst hr0
     rcases c1 with rfl | rfl <;>
     ·(repeat (first|with_reducible (first|refine wL fun _=>?_|refine wD fun _=>?_|refine wE ?_|refine wZ ?_)|simp [go_sem, hj, hx]))
      refine ALoop.start (hrec (d - 1) (by omega) (j + 1, out) ⟨by simp only; omega, hs.symm, by simp only; omega⟩) ?_ (by simp)
      simp [go_sem, Wk_eq]
      rintro r x y _ rfl c hc
      simp at hc
      rcases hc with rfl | rfl <;> exact .v _
    ·have hf : fitStep dirs kinds rights (op, n) = some (op, n.tmod rights) := by unfold fitStep; rw [if_neg (by omega), if_neg (by omega), if_pos c1, if_neg hr0]
     obtain ⟨k1, k2⟩ := hgo _ hf
     have hb := hbel (op, n.tmod rights)
     rcases c1 with rfl | rfl <;>
     ·(repeat (first|with_reducible (first|refine wL fun _=>?_|refine wD fun _=>?_|refine wE ?_|refine wZ ?_)|simp [go_sem, hj, hx, hr0]))
      refine ALoop.start (hrec (d - 1) (by omega) (j + 1, out ++ [(_, n.tmod rights)]) ⟨by simp only; omega, k1, k2⟩) ?_ (by simp)
      simp [go_sem, Wk_eq] at hb ⊢
      try exact hb
   ·have hf : fitStep dirs kinds rights (op, n) = some (op, n) := by unfold fitStep; rw [if_neg (by omega), if_neg (by omega), if_neg (by omega)]
    obtain ⟨k1, k2⟩ := hgo _ hf
    have hb := hbel (op, n)
    (repeat (first|with_reducible (first|refine wL fun _=>?_|refine wD fun _=>?_|refine wE ?_|refine wZ ?_)|simp [go_sem, hj, hx, c1, c2, c3, c4, c5, c6]))
    refine ALoop.start (hrec (d - 1) (by omega) (j + 1, out ++ [(op, n)]) ⟨by simp only; omega, k1, k2⟩) ?_ (by simp)
    simp [go_sem, Wk_eq] at hb ⊢
    try exact hb
  ·have hout : fitP dirs kinds rights p = if out = [] then [(3, 0)] else out := by
    unfold fitP
    rw [i2, List.take_of_length_le hj]
   rw [hout]
   (repeat (first|with_reducible (first|refine wL fun _=>?_|refine wD fun _=>?_|refine wE ?_|refine wZ ?_)|simp [go_sem]))
   refine aIf.mkL (fun ho => ?_) (fun ho => ?_) <;> simp at ho
   ·rw [if_pos ho]
    (repeat (first|with_reducible (first|refine wL fun _=>?_|refine wD fun _=>?_|refine wE ?_|refine wZ ?_)|simp [go_sem]))
    refine LeV.frz rfl ?_ ?_ (LeRows.of_eq ?_) <;> simp [noH]
   ·rw [if_neg ho]
    (repeat (first|with_reducible (first|refine wL fun _=>?_|refine wD fun _=>?_|refine wE ?_|refine wZ ?_)|simp [go_sem]))
    refine LeV.frz rfl ?_ ?_ (LeRows.of_eq ?_) <;> simp [noH, List.take_of_length_le]
 ·simp
 ·simp [go_sem, Wk_eq]
 ·simp
def madeP (n dirs kinds rights : Int) : List (Int × Int) :=
 fitP dirs kinds rights (nth (libL ((n.tdiv 16).tmod 8) ((n.tdiv 16 + n.tmod 5).tmod 8) ((n.tdiv 3).tmod 6) (n.tmod 4)) (n.tmod 16).toNat)
theorem libL_len (d e k r : Int) (i : Nat) : (nth (libL d e k r) i).length ≤ 6 := by
 rcases Nat.lt_or_ge i 16 with h | h
 ·have : ∀ l ∈ libL d e k r, l.length ≤ 6 := by simp [libL]
  exact this _ (nth_mem h)
 ·have : nth (libL d e k r) i = [] := by
   unfold nth
   rw [List.getD_eq_getElem?_getD, List.getElem?_eq_none (by exact h)]; rfl
  rw [this]; simp
theorem R2Made_pure (n dirs kinds rights : Int) (hn : 0 ≤ n ∧ n ≤ 255) (hd : 1 ≤ dirs) (hk : 1 ≤ kinds) (hr : 0 ≤ rights) :
  Pure Tryz.prog 136 [.v (.int .u8 n), .v (.int .i64 dirs), .v (.int .i64 kinds), .v (.int .i64 rights)] (encProg (madeP n dirs kinds rights)) := by
 refine pF Tryz.func136 ?_
 have q0 : 0 ≤ n.tdiv 16 ∧ n.tdiv 16 ≤ 15 := by rw [Int.tdiv_eq_ediv_of_nonneg hn.1]; omega
 have q1 : 0 ≤ n.tdiv 3 ∧ n.tdiv 3 ≤ 255 := by rw [Int.tdiv_eq_ediv_of_nonneg hn.1]; omega
 have m0 := Int.tmod_nonneg 5 hn.1
 have m1 := Int.tmod_lt_of_pos n (show (0 : Int) < 5 by decide)
 have hL := R2Lib_pure n (n.tdiv 16) (n.tdiv 16 + n.tmod 5) (n.tdiv 3) n (by simp; omega)
 unfold madeP
 have hpl := libL_len ((n.tdiv 16).tmod 8) ((n.tdiv 16 + n.tmod 5).tmod 8) ((n.tdiv 3).tmod 6) (n.tmod 4) (n.tmod 16).toNat
 generalize nth (libL ((n.tdiv 16).tmod 8) ((n.tdiv 16 + n.tmod 5).tmod 8) ((n.tdiv 3).tmod 6) (n.tmod 4)) (n.tmod 16).toNat = p at *
 have hF := R2Fit_pure p (by omega) dirs kinds rights hd hk hr
 generalize hqa : n.tdiv 16 = qa at *
 generalize hqb : n.tdiv 3 = qb at *
 generalize hmc : n.tmod 5 = mc at *
 (repeat (first|with_reducible (first|refine wL fun _=>?_|refine wD fun _=>?_|refine wE ?_|refine wZ ?_)|simp [go_sem, hqa, hqb, hmc]))
 refine ACallP.pureF [0] hL ?_ (by simp [go_sem]) ?_
 ·refine LeRow.cons ?_ LeRow.nil
  refine LeV.frz rfl ?_ ?_ (LeRows.of_eq ?_) <;> simp [frzO, frz1, upd, encU]
 ·(repeat (first|with_reducible (first|refine wL fun _=>?_|refine wD fun _=>?_|refine wE ?_|refine wZ ?_)|simp [go_sem]))
  refine ACallP.plain hF (by simp [go_sem]) ?_
  (repeat (first|with_reducible (first|refine wL fun _=>?_|refine wD fun _=>?_|refine wE ?_|refine wZ ?_)|simp [go_sem]))
end Go.Av
end
section
open Go Go.Proofs
set_option maxRecDepth 20000
set_option maxHeartbeats 4000000
namespace Go.Av
theorem R3in_pure (n a b : Int) : Pure Tryz.prog 166 [.v (.int .i64 n), .v (.int .i64 a), .v (.int .i64 b)] (.v (.bool (decide (a ≤ n ∧ n ≤ b)))) := by
 refine pF Tryz.func166 ?_
 (repeat (first|with_reducible (first|refine wL fun _=>?_|refine wD fun _=>?_|refine wE ?_|refine wZ ?_)|simp [go_sem]))
def manOf (c : Int) : Int × Int := if 1 ≤ c ∧ c ≤ 12 then ((c - 1).tdiv 2, (c - 1).tmod 2) else (-1, -1)
theorem R3Of_pure (c : Int) : Pure Tryz.prog 112 [.v (.int .i64 c)] (.agg [.v (.int .i64 (manOf c).1), .v (.int .i64 (manOf c).2)]) := by
 refine pF Tryz.func112 ?_
 (repeat (first|with_reducible (first|refine wL fun _=>?_|refine wD fun _=>?_|refine wE ?_|refine wZ ?_)|simp [go_sem]))
 refine ACallP.plain (R3in_pure c 1 12) (by simp [go_sem]) ?_
 by_cases h : 1 ≤ c ∧ c ≤ 12
 ·have e : manOf c = ((c - 1).tdiv 2, (c - 1).tmod 2) := by unfold manOf; rw [if_pos h]
  have q : (c - 1).tdiv 2 = (c - 1) / 2 := Int.tdiv_eq_ediv_of_nonneg (by omega)
  rw [e]
  (repeat (first|with_reducible (first|refine wL fun _=>?_|refine wD fun _=>?_|refine wE ?_|refine wZ ?_)|simp [go_sem, h, q]))
 ·have e : manOf c = (-1, -1) := by unfold manOf; rw [if_neg h]
  rw [e]
  (repeat (first|with_reducible (first|refine wL fun _=>?_|refine wD fun _=>?_|refine wE ?_|refine wZ ?_)|simp [go_sem, h]))
def codeOf (k s : Int) : Int := if (0 ≤ k ∧ k ≤ 5) ∧ 0 ≤ s ∧ s ≤ 1 then 2 * k + 1 + s else 0
theorem R3Code_pure (k s : Int) : Pure Tryz.prog 168 [.v (.int .i64 k), .v (.int .i64 s)] (.v (.int .i64 (codeOf k s))) := by
 refine pF Tryz.func168 ?_
 (repeat (first|with_reducible (first|refine wL fun _=>?_|refine wD fun _=>?_|refine wE ?_|refine wZ ?_)|simp [go_sem]))
 refine ACallP.plain (R3in_pure k 0 5) (by simp [go_sem]) ?_
 (repeat (first|with_reducible (first|refine wL fun _=>?_|refine wD fun _=>?_|refine wE ?_|refine wZ ?_)|simp [go_sem]))
 refine aGC.plain _ (fun _ => R3in_pure s 0 1) (by simp [go_sem]) ?_
 (repeat (first|with_reducible (first|refine wL fun _=>?_|refine wD fun _=>?_|refine wE ?_|refine wZ ?_)|simp [go_sem]))
 refine aIf.mkL (fun h => ?_) (fun h => ?_) <;> simp at h
 ·have e : codeOf k s = 0 := by unfold codeOf; rw [if_neg (by omega)]
  rw [e]
  (repeat (first|with_reducible (first|refine wL fun _=>?_|refine wD fun _=>?_|refine wE ?_|refine wZ ?_)|simp [go_sem]))
 ·have e : codeOf k s = 2 * k + 1 + s := by unfold codeOf; rw [if_pos (by omega)]
  rw [e]
  (repeat (first|with_reducible (first|refine wL fun _=>?_|refine wD fun _=>?_|refine wE ?_|refine wZ ?_)|simp [go_sem]))
  exact LeV.of_eq (by congr 2; omega)
end Go.Av
end
section
open Go Go.Proofs
namespace Go.Av
structure StD where
 p : PosD
 kind : Int
 cursor : Int
 took : Bool
 deriving DecidableEq
structure OutD where
 pos : PosD
 took : Bool
 deriving DecidableEq
instance : Inhabited StD := ⟨⟨default, 0, 0, false⟩⟩
instance : Inhabited OutD := ⟨⟨default, false⟩⟩
def encState (s : StD) : List AV := [encIs s.p.at_, encIs s.p.h0, encIs s.p.h1, .v (.int .i64 s.p.rights), .v (.int .i64 s.p.side), .v (.int .i64 s.kind), .v (.int .i64 s.cursor), .v (.bool s.took)]
def encSs (l : List StD) : AV := .lst 8 (l.map encState)
def encOut (o : OutD) : List AV := [encIs o.pos.at_, encIs o.pos.h0, encIs o.pos.h1, .v (.int .i64 o.pos.rights), .v (.int .i64 o.pos.side), .v (.bool o.took)]
def encOs (l : List OutD) : AV := .lst 6 (l.map encOut)
attribute [go_sem] encState encSs encOut encOs
theorem bel_St {n : Nat} {l : List StD} : (∀ r ∈ l.map encState, ∀ c ∈ r, Bel n c) = True := by
 refine eq_true ?_
 intro r hr c hc
 obtain ⟨x, _, rfl⟩ := List.mem_map.1 hr
 revert c
 simp [go_sem]
theorem bel_Sts {n : Nat} {l : List StD} : Bel n (.lst 8 (l.map encState)) = True := by rw [Bel_lst, bel_St]
theorem bel_Ou {n : Nat} {l : List OutD} : (∀ r ∈ l.map encOut, ∀ c ∈ r, Bel n c) = True := by
 refine eq_true ?_
 intro r hr c hc
 obtain ⟨x, _, rfl⟩ := List.mem_map.1 hr
 revert c
 simp [go_sem]
theorem bel_Ous {n : Nat} {l : List OutD} : Bel n (.lst 6 (l.map encOut)) = True := by rw [Bel_lst, bel_Ou]
attribute [go_sem high] bel_Sts bel_Ous
def PosD.hand (p : PosD) (side : Int) : List Int := if side = 0 then p.h0 else p.h1
def PosD.withHand (p : PosD) (side : Int) (l : List Int) : PosD := if side = 0 then { p with h0 := l } else { p with h1 := l }
structure StepOk (dirs kinds rights : Int) (x : Int × Int) : Prop where
 op : 1 ≤ x.1 ∧ x.1 ≤ 10
 dir : x.1 = 1 ∨ x.1 = 2 ∨ x.1 = 7 → 0 ≤ x.2 ∧ x.2 < dirs
 zero : x.1 = 3 ∨ x.1 = 4 ∨ x.1 = 5 ∨ x.1 = 6 → x.2 = 0
 kind : x.1 = 8 → 0 ≤ x.2 ∧ x.2 < kinds
 right : x.1 = 9 ∨ x.1 = 10 → 0 ≤ x.2 ∧ x.2 < rights
def countOp (p : List (Int × Int)) (op : Int) : Nat := p.countP (fun x => x.1 == op)
structure ProgOk (dirs kinds rights : Int) (p : List (Int × Int)) : Prop where
 ne : 1 ≤ p.length
 len : p.length ≤ 8
 st : ∀ x ∈ p, StepOk dirs kinds rights x
 take : countOp p 6 ≤ 2
 push : countOp p 7 ≤ 1
 become : countOp p 8 ≤ 1
structure ClauseOk (cells kinds : Int) (c : Int × Int × Int × Int) : Prop where
 cond : c.1 = 1 ∨ c.1 = 2 ∨ c.1 = 3
 kind : 0 ≤ c.2.1 ∧ c.2.1 < kinds
 n : 0 ≤ c.2.2.1 ∧ (c.1 = 2 → c.2.2.1 < cells) ∧ (c.1 = 1 → c.2.2.1 = 0) ∧ c.2.2.1 ≤ 64
 then_ : 1 ≤ c.2.2.2 ∧ c.2.2.2 ≤ 3
 few : c.1 = 3 → c.2.1 = 0
structure GOk (g : GameD) : Prop where
 board : BoardOk g.board
 c1 : 1 ≤ g.cells
 c9 : g.cells ≤ 9
 d1 : 1 ≤ g.next.length
 d8 : g.next.length ≤ 8
 turn : ∀ d, d < g.turn.length → nth g.turn (nth g.turn d).toNat = d
 k1 : 1 ≤ g.kinds.length
 k6 : g.kinds.length ≤ 6
 pn : ∀ k ∈ g.kinds, k.progs.length ≤ 8
 pr : ∀ k ∈ g.kinds, ∀ p ∈ k.progs, ProgOk g.next.length g.kinds.length g.rights p
 r0 : 0 ≤ g.rights
 r4 : g.rights ≤ 4
 cl : ∀ c ∈ g.clauses, ClauseOk g.cells g.kinds.length c
 cn : g.clauses.length ≤ 6
 bl : 1 ≤ g.blocked ∧ g.blocked ≤ 3
 en : 1 ≤ g.endless ∧ g.endless ≤ 3
def slideGo (s : StD) : List Int → List StD
 | [] => []
 | c :: l => { s with cursor := c } :: (if nth s.p.at_ c.toNat = 0 then slideGo s l else [])
def slideS (b : BoardD) (s : StD) (n : Int) : List StD := slideGo s (lineB b s.p.side n s.cursor)
def clr (p : PosD) (c : Int) : PosD := { p with at_ := p.at_.set c.toNat 0 }
def takeS (g : GameD) (s : StD) : List StD :=
 let m := manOf (nth s.p.at_ s.cursor.toNat)
 if m.1 < 0 ∨ m.2 = s.p.side then [] else
 if (nth g.kinds m.1.toNat).keep = true then
  if 8 < nth (s.p.hand s.p.side) m.1.toNat + 1 then []
  else [{ s with p := (clr s.p s.cursor).withHand s.p.side ((s.p.hand s.p.side).set m.1.toNat (nth (s.p.hand s.p.side) m.1.toNat + 1)), took := true }]
 else [{ s with p := clr s.p s.cursor, took := true }]
def pushS (g : GameD) (s : StD) (n : Int) : List StD :=
 let to := toB g.board s.p.side n s.cursor
 if nth s.p.at_ s.cursor.toNat = 0 ∨ to < 0 ∨ nth s.p.at_ to.toNat ≠ 0 then []
 else [{ s with p := { s.p with at_ := (s.p.at_.set to.toNat (nth s.p.at_ s.cursor.toNat)).set s.cursor.toNat 0 } }]
def onlyS (s : StD) (b : Bool) : List StD := if b then [s] else []
def stepS (g : GameD) (s : StD) (x : Int × Int) : List StD :=
 let m := manOf (nth s.p.at_ s.cursor.toNat)
 if x.1 = 1 then onlyS { s with cursor := toB g.board s.p.side x.2 s.cursor } (decide (0 ≤ toB g.board s.p.side x.2 s.cursor))
 else if x.1 = 2 then slideS g.board s x.2
 else if x.1 = 3 then onlyS s (decide (m.1 < 0))
 else if x.1 = 4 then onlyS s (decide (0 ≤ m.1 ∧ m.2 ≠ s.p.side))
 else if x.1 = 5 then onlyS s (decide (0 ≤ m.1 ∧ m.2 = s.p.side))
 else if x.1 = 6 then takeS g s
 else if x.1 = 7 then pushS g s x.2
 else if x.1 = 8 then [{ s with kind := x.2 }]
 else if x.1 = 9 then onlyS s (decide (andN .i64 (s.p.rights.fdiv (2 ^ x.2.toNat)) 1 = 1))
 else if x.1 = 10 then [{ s with p := { s.p with rights := andNotN .i64 s.p.rights (2 ^ x.2.toNat) } }]
 else [s]
def addS (l : List StD) (more : List StD) : List StD := more.foldl (fun l s => if s ∈ l then l else l ++ [s]) l
def nextS (g : GameD) (now : List StD) (x : Int × Int) : List StD := now.foldl (fun next s => addS next (stepS g s x)) []
def startS (p : PosD) (cell : Int) : StD := ⟨clr p cell, (manOf (nth p.at_ cell.toNat)).1, cell, false⟩
def lastS (g : GameD) (p : PosD) (cell : Int) (prog : List (Int × Int)) : List StD := prog.foldl (nextS g) [startS p cell]
def progOf (g : GameD) (p : PosD) (cell i : Int) : List (Int × Int) := nth (nth g.kinds (manOf (nth p.at_ cell.toNat)).1.toNat).progs i.toNat
def putS (side : Int) (s : StD) : Option OutD :=
 if nth s.p.at_ s.cursor.toNat = 0 then some ⟨{ s.p with at_ := s.p.at_.set s.cursor.toNat (codeOf s.kind side), side := 1 - side }, s.took⟩ else none
def cmpO (a b : OutD) : Int := lexI (cmpP a.pos b.pos) (number (if a.took then 1 else 0) (if b.took then 1 else 0))
theorem cmp_out : Cmp cmpO := by
 have h : Cmp (fun (a b : Bool) => number (if a then 1 else 0) (if b then 1 else 0)) :=
  cmp_number.pull (fun b : Bool => if b then (1 : Int) else 0) (fun a b => by cases a <;> cases b <;> simp)
 exact (cmp_pos.prod h).pull (fun o : OutD => (o.pos, o.took)) (fun a b e => by cases a; cases b; simp at e; simp [e])
def lessO (a b : OutD) : Bool := decide (cmpP a.pos b.pos < 0) || (decide (cmpP a.pos b.pos = 0) && !a.took && b.took)
theorem lessO_eq (a b : OutD) : lessO a b = decide (cmpO a b < 0) := by
 unfold lessO cmpO lexI
 by_cases h : cmpP a.pos b.pos = 0
 ·rw [if_neg (by simpa using h)]
  simp only [h]
  cases a.took <;> cases b.took <;> simp [number]
 ·rw [if_pos h]
  simp [h]
def insertO (x : OutD) : List OutD → List OutD
 | [] => [x]
 | y :: l => if lessO y x then y :: insertO x l else if lessO x y then x :: y :: l else y :: l
theorem insertO_mem {x z : OutD} : ∀ {l : List OutD}, z ∈ insertO x l ↔ z = x ∨ z ∈ l
 | [] => by simp [insertO]
 | y :: l => by
  simp only [insertO]
  split
  ·rw [List.mem_cons, insertO_mem, List.mem_cons]
   exact ⟨fun h => by rcases h with h | h | h <;> simp [h], fun h => by rcases h with h | h | h <;> simp [h]⟩
  ·split
   ·simp
   ·rename_i h1 h2
    rw [lessO_eq] at h1 h2
    have := cmp_out.swap x y
    have e := (cmp_out.eq x y).1 (by simp at h1 h2; omega)
    subst e
    simp
theorem insertO_pw {x : OutD} : ∀ {l : List OutD}, l.Pairwise (fun a b => cmpO a b < 0) → (insertO x l).Pairwise (fun a b => cmpO a b < 0)
 | [], _ => by simp [insertO]
 | y :: l, h => by
  rw [List.pairwise_cons] at h
  simp only [insertO]
  split
  ·rename_i h1
   rw [lessO_eq] at h1
   rw [List.pairwise_cons]
   refine ⟨fun z hz => ?_, insertO_pw h.2⟩
   rcases insertO_mem.1 hz with rfl | hz
   ·simpa using h1
   ·exact h.1 z hz
  ·split
   ·rename_i h1
    rw [lessO_eq] at h1
    have hxy : cmpO x y < 0 := by simpa using h1
    refine List.pairwise_cons.2 ⟨fun z hz => ?_, List.pairwise_cons.2 h⟩
    rcases List.mem_cons.1 hz with rfl | hz
    ·exact hxy
    ·have hyz := h.1 z hz
     have t := cmp_out.tr x y z (by omega) (by omega)
     rcases Int.lt_or_eq_of_le t with h | h
     ·exact h
     ·have e := (cmp_out.eq _ _).1 h
      subst e
      have := cmp_out.swap x y
      omega
   ·exact List.pairwise_cons.2 h
theorem insertO_fold : ∀ (l acc : List OutD), acc.Pairwise (fun a b => cmpO a b < 0) →
  (l.foldl (fun a x => insertO x a) acc).Pairwise (fun a b => cmpO a b < 0) ∧ ∀ z, z ∈ l.foldl (fun a x => insertO x a) acc ↔ z ∈ l ∨ z ∈ acc
 | [], acc, h => ⟨h, fun z => by simp⟩
 | x :: l, acc, h => by
  obtain ⟨h1, h2⟩ := insertO_fold l (insertO x acc) (insertO_pw h)
  refine ⟨h1, fun z => ?_⟩
  rw [List.foldl_cons, h2, insertO_mem, List.mem_cons]
  exact ⟨fun h => by rcases h with h | h | h <;> simp [h], fun h => by rcases h with (h | h) | h <;> simp [h]⟩
theorem insertO_all (l : List OutD) : l.foldl (fun a x => insertO x a) [] = sortU cmpO l :=
 (sortU_unique cmp_out (insertO_fold l [] (by simp)).1 (fun z => by rw [(insertO_fold l [] (by simp)).2]; simp)).symm
def runsP (g : GameD) (p : PosD) (cell i : Int) : List OutD := sortU cmpO ((lastS g p cell (progOf g p cell i)).filterMap (putS p.side))
def dropP (g : GameD) (p : PosD) (k c : Nat) : Option PosD :=
 if nth (p.hand p.side) k = 0 ∨ nth p.at_ c ≠ 0 then none
 else some { ({ p with at_ := p.at_.set c (codeOf k p.side) }.withHand p.side ((p.hand p.side).set k (nth (p.hand p.side) k - 1))) with side := 1 - p.side }
def dropsL (g : GameD) (p : PosD) : List PosD := (List.range g.kinds.length).flatMap fun k => (List.range p.at_.length).filterMap fun c => dropP g p k c
def dropsP (g : GameD) (p : PosD) : List PosD := sortU cmpP (dropsL g p)
def isMan (p : PosD) (side kind : Int) (c : Int) : Bool := decide (0 ≤ (manOf c).1) && decide ((manOf c).2 = side) && (decide (kind < 0) || decide ((manOf c).1 = kind))
def menP (p : PosD) (side kind : Int) : Nat := p.at_.countP (isMan p side kind)
def condP (c : Int × Int × Int × Int) (p : PosD) : Bool :=
 if c.1 = 1 then decide (menP p p.side c.2.1 = 0)
 else if c.1 = 2 then decide (nth p.at_ c.2.2.1.toNat = codeOf c.2.1 (1 - p.side))
 else decide ((menP p p.side (-1) : Int) ≤ c.2.2.1)
def endedP (g : GameD) (p : PosD) : Int := match g.clauses.findIdx? (fun c => condP c p) with | some i => (i : Int) | none => -1
def outsAt (g : GameD) (p : PosD) (c : Nat) : List OutD :=
 if 0 ≤ (manOf (nth p.at_ c)).1 ∧ (manOf (nth p.at_ c)).2 = p.side then
  (List.range (nth g.kinds (manOf (nth p.at_ c)).1.toNat).progs.length).flatMap fun (i : Nat) => runsP g p c i
 else []
def outsP (g : GameD) (p : PosD) : List OutD := (List.range p.at_.length).flatMap (outsAt g p)
def mustP (g : GameD) (p : PosD) : Bool := g.must && (outsP g p).any (·.took)
def movesL (g : GameD) (p : PosD) : List PosD := ((outsP g p).filter fun o => !mustP g p || o.took).map (·.pos) ++ (if mustP g p then [] else dropsP g p)
def movesP (g : GameD) (p : PosD) : List PosD := if 0 ≤ endedP g p then [] else sortU cmpP (movesL g p)
def walkP (g : GameD) : PosD → List Int → List PosD
 | p, [] => [p]
 | p, k :: l => if movesP g p = [] then [p] else p :: walkP g (nth (movesP g p) (k.emod (movesP g p).length).toNat) l
end Go.Av
end
section
open Go Go.Proofs
namespace Go.Av
structure RawG where
 w : Int
 h : Int
 cut : Int
 k0 : List Int
 k1 : List Int
 c : List (Int × Int × Int)
 f0 : Int
 f1 : Int
 f2 : Int
 f3 : Int
 f4 : Int
 f5 : Int
def U8 (n : Int) : Prop := 0 ≤ n ∧ n ≤ 255
structure RawOk (x : RawG) : Prop where
 w : U8 x.w
 h : U8 x.h
 cut : U8 x.cut
 k0 : ∀ n ∈ x.k0, U8 n
 k1 : ∀ n ∈ x.k1, U8 n
 c : ∀ t ∈ x.c, U8 t.1 ∧ U8 t.2.1 ∧ U8 t.2.2
 f0 : U8 x.f0
 f1 : U8 x.f1
 f2 : U8 x.f2
 f3 : U8 x.f3
 f4 : U8 x.f4
 f5 : U8 x.f5
def encC3 (c : Int × Int × Int) : List AV := [.v (.int .u8 c.1), .v (.int .u8 c.2.1), .v (.int .u8 c.2.2)]
def encRaw (x : RawG) : List AV := [.v (.int .u8 x.w), .v (.int .u8 x.h), .v (.int .u8 x.cut), encUs x.k0, encUs x.k1, .lst 3 (x.c.map encC3),
 .v (.int .u8 x.f0), .v (.int .u8 x.f1), .v (.int .u8 x.f2), .v (.int .u8 x.f3), .v (.int .u8 x.f4), .v (.int .u8 x.f5)]
attribute [go_sem] encC3 encRaw
theorem bel_C3 {n : Nat} {l : List (Int × Int × Int)} : (∀ r ∈ l.map encC3, ∀ c ∈ r, Bel n c) = True := by
 refine eq_true ?_
 intro r hr c hc
 obtain ⟨x, _, rfl⟩ := List.mem_map.1 hr
 revert c
 simp [go_sem]
theorem bel_C3s {n : Nat} {l : List (Int × Int × Int)} : Bel n (.lst 3 (l.map encC3)) = True := by rw [Bel_lst, bel_C3]
theorem bel_K {n : Nat} {l : List KindD} : (∀ r ∈ l.map encKind, ∀ c ∈ r, Bel n c) = True := by
 refine eq_true ?_
 intro r hr c hc
 obtain ⟨x, _, rfl⟩ := List.mem_map.1 hr
 simp only [encKind, List.mem_cons, List.not_mem_nil, or_false] at hc
 rcases hc with rfl | rfl | rfl
 ·exact .v _
 ·refine .lst fun r hr c hc => ?_
  obtain ⟨p, _, rfl⟩ := List.mem_map.1 hr
  simp only [List.mem_cons, List.not_mem_nil, or_false] at hc
  subst hc
  exact of_eq_true bel_Prog
 ·exact .v _
theorem bel_Ks {n : Nat} {l : List KindD} : Bel n (.lst 3 (l.map encKind)) = True := by rw [Bel_lst, bel_K]
theorem bel_Cl {n : Nat} {l : List (Int × Int × Int × Int)} : (∀ r ∈ l.map encClause, ∀ c ∈ r, Bel n c) = True := by
 refine eq_true ?_
 intro r hr c hc
 obtain ⟨x, _, rfl⟩ := List.mem_map.1 hr
 revert c
 simp [go_sem]
theorem bel_Cls {n : Nat} {l : List (Int × Int × Int × Int)} : Bel n (.lst 4 (l.map encClause)) = True := by rw [Bel_lst, bel_Cl]
theorem bel_Pr {n : Nat} {l : List (List (Int × Int))} : (∀ r ∈ l.map (fun p => [encProg p]), ∀ c ∈ r, Bel n c) = True := by
 refine eq_true ?_
 intro r hr c hc
 obtain ⟨p, _, rfl⟩ := List.mem_map.1 hr
 simp only [List.mem_cons, List.not_mem_nil, or_false] at hc
 subst hc
 exact of_eq_true bel_Prog
theorem bel_Prs {n : Nat} {l : List (List (Int × Int))} : Bel n (.lst 1 (l.map (fun p => [encProg p]))) = True := by rw [Bel_lst, bel_Pr]
attribute [go_sem high] bel_C3s bel_Ks bel_Cls bel_Prs
attribute [go_sem ↓] bel_C3 bel_K bel_Cl bel_Pr bel_P bel_I bel_St bel_Ou List.forall_mem_append
def nameA : ByteArray := ⟨#[97]⟩
def nameB : ByteArray := ⟨#[98, 101, 101]⟩
def bitU (f : Int) (i : Nat) : Bool := decide (andN .u8 (f.fdiv (2 ^ i)) 1 = 1)
def kindsN (x : RawG) : Nat := if x.k1 = [] then 1 else 2
def RawG.board (x : RawG) : BoardD := madeB x.w x.h x.cut
def RawG.rights (x : RawG) : Int := x.f0.tmod 3
def RawG.ks (x : RawG) (i : Nat) : List Int := if i = 0 then x.k0 else x.k1
def kindOf (x : RawG) (i : Nat) : KindD :=
 ⟨if i = 0 then nameA else nameB, ((x.ks i).take 4).map (fun n => madeP n x.board.next.length (kindsN x) x.rights), bitU x.f2 i⟩
def clauseOf (cells kinds : Int) (c : Int × Int × Int) : Int × Int × Int × Int :=
 (1 + c.1.tmod 3, (if 1 + c.1.tmod 3 ≠ 3 then c.2.1.tmod kinds else 0), (if 1 + c.1.tmod 3 = 2 then c.2.2.tmod cells else if 1 + c.1.tmod 3 = 3 then c.2.2.tmod 3 else 0), 1 + (c.1.tdiv 4).tmod 3)
def madeG (x : RawG) : GameD :=
 { cells := x.board.cells, next := x.board.next, turn := x.board.turn, kinds := (List.range (kindsN x)).map (kindOf x), rights := x.rights, must := decide (x.f1.tmod 4 = 3), clauses := (x.c.take 3).map (clauseOf x.board.cells (kindsN x)), blocked := if x.f3.tmod 4 = 3 then 1 + (x.f3.tdiv 4).tmod 3 else 3, endless := if x.f4.tmod 4 = 3 then 1 + (x.f4.tdiv 4).tmod 3 else 2 }
@[go_sem] theorem oneCell_string (s : ByteArray) : (Value.string s).oneCell' = true := rfl
def ksR (x : RawG) (i : Nat) : List (List AV) := ((List.range i).map (kindOf x)).map encKind
def kRow (k : KindD) : List AV := encKind k
theorem ksR_succ (x : RawG) (i : Nat) : ksR x (i + 1) = ksR x i ++ [kRow (kindOf x i)] := by simp [ksR, List.range_succ, kRow]
@[go_sem] theorem ksR_zero (x : RawG) : ksR x 0 = [] := rfl
@[go_sem] theorem ksR_len (x : RawG) (i : Nat) : (ksR x i).length = i := by simp [ksR]
@[go_sem ↓] theorem bel_ksR {n : Nat} {x : RawG} {i : Nat} : (∀ r ∈ ksR x i, ∀ c ∈ r, Bel n c) = True := bel_K
def psR (f : Int → List (Int × Int)) (l : List Int) (n : Nat) : List (List AV) := ((l.take n).map f).map fun p => [encProg p]
theorem psR_succ (f : Int → List (Int × Int)) (l : List Int) {n : Nat} (h : n < l.length) : psR f l (n + 1) = psR f l n ++ [[encProg (f (nth l n))]] := by
 unfold psR
 rw [List.take_add_one, List.getElem?_eq_getElem h, nth_eq _ _ h, Option.toList_some, List.map_append, List.map_append]
 rfl
theorem psR_len (f : Int → List (Int × Int)) (l : List Int) {n : Nat} (h : n ≤ l.length) : (psR f l n).length = n := by simp [psR]; omega
@[go_sem] theorem psR_zero (f : Int → List (Int × Int)) (l : List Int) : psR f l 0 = [] := rfl
@[go_sem ↓] theorem bel_psR {m : Nat} {f : Int → List (Int × Int)} {l : List Int} {n : Nat} : (∀ r ∈ psR f l n, ∀ c ∈ r, Bel m c) = True := bel_Pr
def clR (cells kinds : Int) (l : List (Int × Int × Int)) (n : Nat) : List (List AV) := ((l.take n).map (clauseOf cells kinds)).map encClause
def cRow (c : Int × Int × Int × Int) : List AV := encClause c
theorem clR_succ (cells kinds : Int) (l : List (Int × Int × Int)) {n : Nat} (h : n < l.length) : clR cells kinds l (n + 1) = clR cells kinds l n ++ [cRow (clauseOf cells kinds (nth l n))] := by
 unfold clR
 rw [List.take_add_one, List.getElem?_eq_getElem h, nth_eq _ _ h, Option.toList_some, List.map_append, List.map_append]
 rfl
theorem clR_len (cells kinds : Int) (l : List (Int × Int × Int)) {n : Nat} (h : n ≤ l.length) : (clR cells kinds l n).length = n := by simp [clR]; omega
@[go_sem] theorem clR_zero (cells kinds : Int) (l : List (Int × Int × Int)) : clR cells kinds l 0 = [] := rfl
@[go_sem ↓] theorem bel_clR {m : Nat} {cells kinds : Int} {l : List (Int × Int × Int)} {n : Nat} : (∀ r ∈ clR cells kinds l n, ∀ c ∈ r, Bel m c) = True := bel_Cl
theorem madeB_dirs (w h cut : Int) : (madeB w h cut).next.length = 8 := by
 unfold madeB
 split <;> simp [withoutB, withoutNext, gridB, gridNext]
theorem madeB_cells {w h : Int} (hw : 0 ≤ w) (hh : 0 ≤ h) (cut : Int) : 1 ≤ (madeB w h cut).cells ∧ (madeB w h cut).cells ≤ 9 := by
 have a0 := Int.tmod_nonneg 3 hw
 have a1 := Int.tmod_lt_of_pos w (show (0 : Int) < 3 by decide)
 have b0 := Int.tmod_nonneg 3 hh
 have b1 := Int.tmod_lt_of_pos h (show (0 : Int) < 3 by decide)
 have e : (madeB w h cut).cells = ((1 + w.tmod 3).toNat : Int) * ((1 + h.tmod 3).toNat : Int) := by
  unfold madeB
  split <;> simp [withoutB, gridB]
 rw [e]
 obtain ⟨W, hW⟩ : ∃ W : Nat, 1 + w.tmod 3 = W := ⟨(1 + w.tmod 3).toNat, by omega⟩
 obtain ⟨H, hH⟩ : ∃ H : Nat, 1 + h.tmod 3 = H := ⟨(1 + h.tmod 3).toNat, by omega⟩
 rw [hW, hH, Int.toNat_natCast, Int.toNat_natCast]
 rcases (show W = 1 ∨ W = 2 ∨ W = 3 by omega) with rfl | rfl | rfl <;> omega
end Go.Av
end
section
open Go Go.Proofs
namespace Go.Av
@[go_sem ↓] theorem bel_setI {n k : Nat} {l : List Int} {v : Value} : (∀ r ∈ (l.map encI).set k [.v v], ∀ c ∈ r, Bel n c) = True := by
 refine eq_true fun r hr c hc => ?_
 rcases List.mem_or_eq_of_mem_set hr with hr | rfl
 ·exact of_eq_true bel_I r hr c hc
 ·simp only [List.mem_cons, List.not_mem_nil, or_false] at hc; subst hc; exact .v _
structure RawP where
 cell : List Int
 kind : List Int
 hand : List Int
 rights : Int
 side : Int
structure RawPOk (x : RawP) : Prop where
 c6 : x.cell.length = 6
 k6 : x.kind.length = 6
 h4 : x.hand.length = 4
 cv : ∀ n ∈ x.cell, U8 n
 kv : ∀ n ∈ x.kind, U8 n
 hv : ∀ n ∈ x.hand, U8 n
 r : U8 x.rights
 s : U8 x.side
def encRawP (x : RawP) : List AV := x.cell.map (fun n => .v (.int .u8 n)) ++ (x.kind.map (fun n => .v (.int .u8 n)) ++ (x.hand.map (fun n => .v (.int .u8 n)) ++ [.v (.int .u8 x.rights), .v (.int .u8 x.side)]))
theorem cel_u8 (l : List Int) (r : List AV) (i : Nat) (h : i < l.length) : cel (l.map (fun n => AV.v (.int .u8 n)) ++ r) i = .v (.int .u8 (nth l i)) := by
 unfold cel nth
 rw [List.getD_eq_getElem?_getD, List.getD_eq_getElem?_getD, List.getElem?_append_left (by simpa using h), List.getElem?_map, List.getElem?_eq_getElem h]
 rfl
theorem cel_u8s (l : List Int) (r : List AV) (i : Nat) : cel (l.map (fun n => AV.v (.int .u8 n)) ++ r) (l.length + i) = cel r i := by
 unfold cel
 rw [List.getD_eq_getElem?_getD, List.getD_eq_getElem?_getD, List.getElem?_append_right (by simp)]
 simp
structure RawRow (x : RawP) (er : List AV) : Prop where
 len : er.length = 18
 c : ∀ i, i < 6 → cel er i = .v (.int .u8 (nth x.cell i))
 k : ∀ i, i < 6 → cel er (6 + i) = .v (.int .u8 (nth x.kind i))
 h : ∀ i, i < 4 → cel er (12 + i) = .v (.int .u8 (nth x.hand i))
 r : cel er 16 = .v (.int .u8 x.rights)
 s : cel er 17 = .v (.int .u8 x.side)
 b : ∀ n, (∀ c ∈ er, Bel n c) = True
theorem rawRow {x : RawP} (hx : RawPOk x) : RawRow x (encRawP x) := by
 obtain ⟨a, b, c, _, _, _, _, _⟩ := hx
 have e1 : ∀ i, cel (encRawP x) (6 + i) = cel (x.kind.map (fun n => AV.v (.int .u8 n)) ++ (x.hand.map (fun n => AV.v (.int .u8 n)) ++ [.v (.int .u8 x.rights), .v (.int .u8 x.side)])) i := fun i => by
  have := cel_u8s x.cell (x.kind.map (fun n => .v (.int .u8 n)) ++ (x.hand.map (fun n => .v (.int .u8 n)) ++ [.v (.int .u8 x.rights), .v (.int .u8 x.side)])) i
  rw [a] at this; exact this
 have e2 : ∀ i, cel (encRawP x) (12 + i) = cel (x.hand.map (fun n => AV.v (.int .u8 n)) ++ [.v (.int .u8 x.rights), .v (.int .u8 x.side)]) i := fun i => by
  have := cel_u8s x.kind (x.hand.map (fun n => .v (.int .u8 n)) ++ [.v (.int .u8 x.rights), .v (.int .u8 x.side)]) i
  rw [b] at this
  rw [show 12 + i = 6 + (6 + i) by omega, e1, this]
 have e3 : ∀ i, cel (encRawP x) (16 + i) = cel [AV.v (.int .u8 x.rights), .v (.int .u8 x.side)] i := fun i => by
  have := cel_u8s x.hand [.v (.int .u8 x.rights), .v (.int .u8 x.side)] i
  rw [c] at this
  rw [show 16 + i = 12 + (4 + i) by omega, e2, this]
 refine ⟨by simp [encRawP, a, b, c], fun i hi => cel_u8 x.cell _ i (by omega), fun i hi => ?_, fun i hi => ?_, e3 0, e3 1, fun n => eq_true ?_⟩
 ·rw [e1]; exact cel_u8 x.kind _ i (by omega)
 ·rw [e2]; exact cel_u8 x.hand _ i (by omega)
 ·intro c hc
  simp only [encRawP, List.mem_append, List.mem_map, List.mem_cons, List.not_mem_nil, or_false] at hc
  rcases hc with ⟨_, _, rfl⟩ | ⟨_, _, rfl⟩ | ⟨_, _, rfl⟩ | rfl | rfl <;> exact .v _
def atStep (g : GameD) (x : RawP) (l : List Int) (i : Nat) : List Int :=
 if (nth x.cell i).tmod (g.cells + 1) < g.cells then l.set ((nth x.cell i).tmod (g.cells + 1)).toNat (1 + 2 * (nth x.kind i).tmod g.kinds.length + (i : Int).tmod 2) else l
def madeAt (g : GameD) (x : RawP) (n : Nat) : List Int := (List.range n).foldl (atStep g x) (List.replicate g.cells.toNat 0)
theorem madeAt_succ (g : GameD) (x : RawP) (n : Nat) : madeAt g x (n + 1) = atStep g x (madeAt g x n) n := by simp [madeAt, List.range_succ]
theorem atStep_len (g : GameD) (x : RawP) (l : List Int) (i : Nat) : (atStep g x l i).length = l.length := by unfold atStep; split <;> simp
theorem madeAt_len (g : GameD) (x : RawP) (n : Nat) : (madeAt g x n).length = g.cells.toNat := by
 induction n with
 | zero => simp [madeAt]
 | succ n ih => rw [madeAt_succ, atStep_len, ih]
def handV (g : GameD) (x : RawP) (s k : Nat) : Int :=
 if (nth g.kinds k).keep = true then (if 250 < nth x.hand (2 * s + k) then 8 else (nth x.hand (2 * s + k)).tmod 3) else 0
def handL (g : GameD) (x : RawP) (s n : Nat) : List Int := (List.range g.kinds.length).map fun j => if j < n then handV g x s j else 0
theorem handL_len (g : GameD) (x : RawP) (s n : Nat) : (handL g x s n).length = g.kinds.length := by simp [handL]
theorem handL_zero (g : GameD) (x : RawP) (s : Nat) : handL g x s 0 = List.replicate g.kinds.length 0 := by
 unfold handL
 apply List.ext_getElem <;> simp
theorem handL_succ (g : GameD) (x : RawP) (s n : Nat) : handL g x s (n + 1) = (handL g x s n).set n (handV g x s n) := by
 apply List.ext_getElem
 ·simp [handL]
 ·intro i h1 h2
  simp only [handL, List.getElem_map, List.getElem_range, List.getElem_set]
  by_cases h : n = i
  ·subst h; simp
  ·rw [if_neg h]
   by_cases h' : i < n
   ·rw [if_pos h', if_pos (by omega)]
   ·rw [if_neg h', if_neg (by omega)]
theorem handL_skip (g : GameD) (x : RawP) (s n : Nat) (h : handV g x s n = 0) : handL g x s (n + 1) = handL g x s n := by
 unfold handL
 apply List.map_congr_left
 intro j _
 by_cases h' : j < n
 ·rw [if_pos h', if_pos (by omega)]
 ·rw [if_neg h']
  split
  ·obtain rfl : j = n := by omega
   exact h
  ·rfl
def madePos (g : GameD) (x : RawP) : PosD := ⟨madeAt g x 6, handL g x 0 (min g.kinds.length 2), handL g x 1 (min g.kinds.length 2), x.rights.tmod (2 ^ g.rights.toNat), x.side.tmod 2⟩
end Go.Av
end
section
open Go Go.Proofs
namespace Go.Av
theorem nth_z {α : Type} [Inhabited α] (x : α) (l : List α) : nth (x :: l) 0 = x := rfl
theorem nth_setE {α : Type} [Inhabited α] (l : List α) (i j : Nat) (v : α) : nth (l.set i v) j = if i = j ∧ j < l.length then v else nth l j := by
 unfold nth
 rw [List.getD_eq_getElem?_getD, List.getD_eq_getElem?_getD, List.getElem?_set]
 by_cases h : i = j
 ·subst h
  by_cases h2 : i < l.length
  ·simp [h2]
  ·simp [h2, List.getElem?_eq_none (Nat.not_lt.1 h2)]
 ·simp [h]
structure HandOk (g : GameD) (l : List Int) : Prop where
 len : l.length = g.kinds.length
 v : ∀ i, i < l.length → 0 ≤ nth l i ∧ nth l i ≤ 8 ∧ (0 < nth l i → (nth g.kinds i).keep = true)
theorem handGo_iff : ∀ (l : List Int) (ks : List KindD), l.length = ks.length → (handGo l ks = true ↔ ∀ i, i < l.length → 0 ≤ nth l i ∧ nth l i ≤ 8 ∧ (0 < nth l i → (nth ks i).keep = true))
 | [], [], _ => by simp [handGo]
 | x :: l, k :: ks, h => by
  have ih := handGo_iff l ks (by simpa using h)
  rw [handGo]
  simp only [Bool.and_eq_true, decide_eq_true_eq, Bool.or_eq_true, Bool.not_eq_true']
  rw [ih]
  constructor
  ·rintro ⟨⟨⟨h1, h2⟩, h3⟩, h4⟩ i hi
   cases i with
   | zero =>
    refine ⟨h1, h2, fun h => ?_⟩
    rcases h3 with h3 | h3
    ·rw [nth_z] at h; simp at h3; omega
    ·exact h3
   | succ i => exact h4 i (by simpa using hi)
  ·intro h
   have h0 := h 0 (by simp)
   refine ⟨⟨⟨h0.1, h0.2.1⟩, ?_⟩, fun i hi => h (i + 1) (by simpa using hi)⟩
   by_cases hx : 0 < x
   ·exact .inr (h0.2.2 hx)
   ·exact .inl (by simpa using hx)
theorem handOk_iff {g : GameD} {l : List Int} : handOk g l = true ↔ HandOk g l := by
 unfold handOk
 rw [Bool.and_eq_true, decide_eq_true_eq]
 exact ⟨fun ⟨a, b⟩ => ⟨a, (handGo_iff _ _ a).1 b⟩, fun ⟨a, b⟩ => ⟨a, (handGo_iff _ _ a).2 b⟩⟩
structure POk (g : GameD) (p : PosD) : Prop where
 al : (p.at_.length : Int) = g.cells
 av : ∀ c ∈ p.at_, 0 ≤ c ∧ c ≤ 2 * g.kinds.length
 h0 : HandOk g p.h0
 h1 : HandOk g p.h1
 r0 : 0 ≤ p.rights
 r1 : p.rights < 2 ^ g.rights.toNat
 s : p.side = 0 ∨ p.side = 1
theorem pOk_iff {g : GameD} {p : PosD} : posOk g p = true ↔ POk g p := by
 rw [posOk_iff, handOk_iff, handOk_iff]
 exact ⟨fun ⟨a, b, c, d, e, f, g⟩ => ⟨a, b, c, d, e, f, g⟩, fun ⟨a, b, c, d, e, f, g⟩ => ⟨a, b, c, d, e, f, g⟩⟩
theorem POk.fits {g : GameD} (hg : GOk g) {p : PosD} (h : POk g p) : FitsP p := by
 have := hg.c9
 have := hg.k6
 have a := h.al
 have b := h.h0.len
 have c := h.h1.len
 unfold FitsP Fits
 omega
structure StOk (g : GameD) (s : StD) : Prop where
 p : POk g s.p
 c0 : 0 ≤ s.cursor
 c1 : s.cursor < g.cells
 k : 0 ≤ s.kind ∧ s.kind < g.kinds.length
theorem manOf_cases {c : Int} {K : Nat} (h0 : 0 ≤ c) (h1 : c ≤ 2 * K) (hK : K ≤ 6) :
  (c = 0 ∧ manOf c = (-1, -1)) ∨ (c ≠ 0 ∧ 0 ≤ (manOf c).1 ∧ (manOf c).1 < K ∧ ((manOf c).2 = 0 ∨ (manOf c).2 = 1) ∧ c = 1 + 2 * (manOf c).1 + (manOf c).2) := by
 unfold manOf
 by_cases hc : c = 0
 ·left; rw [if_neg (by omega)]; exact ⟨hc, rfl⟩
 ·right
  rw [if_pos (by omega)]
  have e1 : (c - 1).tdiv 2 = (c - 1) / 2 := Int.tdiv_eq_ediv_of_nonneg (by omega)
  have e2 : (c - 1).tmod 2 = (c - 1) % 2 := Int.tmod_eq_emod_of_nonneg (by omega)
  simp only [e1, e2]
  omega
theorem codeOf_ok {k s : Int} {K : Nat} (hk : 0 ≤ k ∧ k < K) (hK : K ≤ 6) (hs : s = 0 ∨ s = 1) : codeOf k s = 1 + 2 * k + s := by
 unfold codeOf
 rw [if_pos (by omega)]; omega
theorem andNot_small : ∀ (r : Fin 16) (m : Fin 4), 0 ≤ andNotN .i64 (r.val : Int) (2 ^ m.val) ∧ andNotN .i64 (r.val : Int) (2 ^ m.val) ≤ (r.val : Int) := by decide
theorem andNot_le {r : Int} {m : Nat} (h0 : 0 ≤ r) (h1 : r < 16) (hm : m < 4) : 0 ≤ andNotN .i64 r (2 ^ m) ∧ andNotN .i64 r (2 ^ m) ≤ r := by
 have := andNot_small ⟨r.toNat, by omega⟩ ⟨m, hm⟩
 simp only [Int.toNat_of_nonneg h0] at this
 exact this
theorem pow_le16 {r : Int} (h0 : 0 ≤ r) (h4 : r ≤ 4) : (1 : Int) ≤ 2 ^ r.toNat ∧ (2 : Int) ^ r.toNat ≤ 16 := by
 rcases (show r.toNat = 0 ∨ r.toNat = 1 ∨ r.toNat = 2 ∨ r.toNat = 3 ∨ r.toNat = 4 by omega) with h | h | h | h | h <;> rw [h] <;> decide
theorem lineGo_mem {b : BoardD} (hb : BoardOk b) {side d c : Int} : ∀ (f : Nat) (x : Int) (seen : List Int), x < b.cells → (∀ y ∈ seen, 0 ≤ y ∧ y < b.cells) → ∀ y ∈ lineGo b side d c f x seen, 0 ≤ y ∧ y < b.cells
 | 0, x, seen, _, h, y, hy => h y hy
 | f + 1, x, seen, hx, h, y, hy => by
  rw [lineGo] at hy
  split at hy
  ·rename_i hc
   refine lineGo_mem hb f _ _ (toB_lt hb _ _ _) (fun z hz => ?_) y hy
   rcases List.mem_append.1 hz with hz | hz
   ·exact h z hz
   ·simp at hz; omega
  ·exact h y hy
theorem lineB_mem {b : BoardD} (hb : BoardOk b) {side d c : Int} : ∀ y ∈ lineB b side d c, 0 ≤ y ∧ y < b.cells :=
 lineGo_mem hb _ _ _ (toB_lt hb _ _ _) (by simp)
theorem lineGo_len {b : BoardD} {side d c : Int} : ∀ (f : Nat) (x : Int) (seen : List Int), (lineGo b side d c f x seen).length ≤ seen.length + f
 | 0, x, seen => by simp [lineGo]
 | f + 1, x, seen => by
  rw [lineGo]
  split
  ·have := lineGo_len (b := b) (side := side) (d := d) (c := c) f (toB b side d x) (seen ++ [x])
   simp at this; omega
  ·omega
theorem lineB_len {b : BoardD} {side d c : Int} : (lineB b side d c).length ≤ b.cells.toNat + 1 := by
 have := lineGo_len (b := b) (side := side) (d := d) (c := c) (b.cells.toNat + 1) (toB b side d c) []
 simpa [lineB] using this
theorem POk.setAt {g : GameD} {p : PosD} (h : POk g p) (i : Nat) {v : Int} (hv : 0 ≤ v ∧ v ≤ 2 * g.kinds.length) : POk g { p with at_ := p.at_.set i v } :=
 ⟨by simpa using h.al, fun c hc => by rcases List.mem_or_eq_of_mem_set hc with hc | rfl; exact h.av c hc; exact hv, h.h0, h.h1, h.r0, h.r1, h.s⟩
theorem POk.hand {g : GameD} {p : PosD} (h : POk g p) (side : Int) : HandOk g (p.hand side) := by unfold PosD.hand; split; exact h.h0; exact h.h1
theorem POk.withHand {g : GameD} {p : PosD} (h : POk g p) (side : Int) {l : List Int} (hl : HandOk g l) : POk g (p.withHand side l) := by
 unfold PosD.withHand
 split
 ·exact ⟨h.al, h.av, hl, h.h1, h.r0, h.r1, h.s⟩
 ·exact ⟨h.al, h.av, h.h0, hl, h.r0, h.r1, h.s⟩
theorem HandOk.set {g : GameD} {l : List Int} (h : HandOk g l) (i : Nat) {v : Int} (hv : 0 ≤ v ∧ v ≤ 8) (hk : 0 < v → (nth g.kinds i).keep = true) : HandOk g (l.set i v) := by
 refine ⟨by simpa using h.len, fun j hj => ?_⟩
 have hj' : j < l.length := by simpa using hj
 rw [nth_setE]
 split
 ·rename_i e
  obtain ⟨rfl, _⟩ := e
  exact ⟨hv.1, hv.2, hk⟩
 ·exact h.v j hj'
theorem POk.at {g : GameD} {p : PosD} (h : POk g p) {i : Nat} (hi : (i : Int) < g.cells) : 0 ≤ nth p.at_ i ∧ nth p.at_ i ≤ 2 * g.kinds.length :=
 h.av _ (nth_mem (by have := h.al; omega))
theorem POk.side {g : GameD} {p : PosD} (h : POk g p) {s : Int} (hs : s = 0 ∨ s = 1) : POk g { p with side := s } := ⟨h.al, h.av, h.h0, h.h1, h.r0, h.r1, hs⟩
theorem withHand_side (p : PosD) (s : Int) (l : List Int) : (p.withHand s l).side = p.side := by unfold PosD.withHand; split <;> rfl
theorem POk.clr {g : GameD} {p : PosD} (h : POk g p) (c : Int) : POk g (clr p c) := h.setAt _ (by omega)
theorem slideGo_ok {g : GameD} {s : StD} (h : StOk g s) : ∀ {l : List Int}, (∀ y ∈ l, 0 ≤ y ∧ y < g.cells) → ∀ t ∈ slideGo s l, StOk g t ∧ t.p.side = s.p.side
 | [], _, t, ht => by simp [slideGo] at ht
 | c :: l, hl, t, ht => by
  rw [slideGo, List.mem_cons] at ht
  rcases ht with rfl | ht
  ·have := hl c (by simp)
   exact ⟨⟨h.p, this.1, this.2, h.k⟩, rfl⟩
  ·split at ht
   ·exact slideGo_ok h (fun y hy => hl y (List.mem_cons_of_mem _ hy)) t ht
   ·simp at ht
theorem slideGo_len {s : StD} : ∀ (l : List Int), (slideGo s l).length ≤ l.length
 | [] => by simp [slideGo]
 | c :: l => by
  rw [slideGo]
  have := slideGo_len (s := s) l
  split <;> simp <;> omega
theorem stepS_ok {g : GameD} (hg : GOk g) {s : StD} (h : StOk g s) {x : Int × Int} (hx : StepOk g.next.length g.kinds.length g.rights x) : ∀ t ∈ stepS g s x, StOk g t ∧ t.p.side = s.p.side := by
 intro t ht
 have hb := hg.board
 have hcur : (s.cursor.toNat : Int) < g.cells := by have := h.c0; have := h.c1; omega
 have hat := h.p.at hcur
 have only : ∀ {u : StD} {b : Bool}, t ∈ onlyS u b → b = true ∧ t = u := fun {u b} hu => by
  unfold onlyS at hu
  split at hu
  ·rename_i hb'; exact ⟨hb', by simpa using hu⟩
  ·simp at hu
 have hbc : g.board.cells = g.cells := rfl
 unfold stepS at ht
 simp only at ht
 split at ht
 ·obtain ⟨h1, rfl⟩ := only ht
  have := toB_lt hb s.p.side x.2 s.cursor
  exact ⟨⟨h.p, by simpa using h1, by rw [hbc] at this; exact this, h.k⟩, rfl⟩
 split at ht
 ·exact slideGo_ok h (fun y hy => lineB_mem hb y hy) t ht
 split at ht
 ·obtain ⟨h1, rfl⟩ := only ht; exact ⟨h, rfl⟩
 split at ht
 ·obtain ⟨h1, rfl⟩ := only ht; exact ⟨h, rfl⟩
 split at ht
 ·obtain ⟨h1, rfl⟩ := only ht; exact ⟨h, rfl⟩
 split at ht
 ·unfold takeS at ht
  simp only at ht
  split at ht
  ·simp at ht
  ·rename_i hm
   split at ht
   ·rename_i hkeep
    split at ht
    ·simp at ht
    ·rename_i h8
     simp only [List.mem_singleton] at ht
     subst ht
     refine ⟨⟨(h.p.clr _).withHand _ ((h.p.hand _).set _ ?_ (fun _ => hkeep)), h.c0, h.c1, h.k⟩, withHand_side _ _ _⟩
     have hh := h.p.hand s.p.side
     rcases manOf_cases hat.1 hat.2 hg.k6 with ⟨e, e2⟩ | ⟨e, e2, e3, _⟩
     ·rw [e2] at hm; simp at hm
     ·have := hh.v (manOf (nth s.p.at_ s.cursor.toNat)).1.toNat (by rw [hh.len]; omega)
      omega
   ·simp only [List.mem_singleton] at ht
    subst ht
    exact ⟨⟨h.p.clr _, h.c0, h.c1, h.k⟩, rfl⟩
 split at ht
 ·unfold pushS at ht
  simp only at ht
  split at ht
  ·simp at ht
  ·simp only [List.mem_singleton] at ht
   subst ht
   exact ⟨⟨(h.p.setAt _ hat).setAt _ (by omega), h.c0, h.c1, h.k⟩, rfl⟩
 split at ht
 ·rename_i e
  simp only [List.mem_singleton] at ht
  subst ht
  exact ⟨⟨h.p, h.c0, h.c1, hx.kind e⟩, rfl⟩
 split at ht
 ·obtain ⟨h1, rfl⟩ := only ht; exact ⟨h, rfl⟩
 split at ht
 ·rename_i e
  simp only [List.mem_singleton] at ht
  subst ht
  have hr := hx.right (.inr e)
  have hp := pow_le16 hg.r0 hg.r4
  have a := h.p.r0
  have b := h.p.r1
  have c := hg.r4
  obtain ⟨k1, k2⟩ := andNot_le (r := s.p.rights) (m := x.2.toNat) a (by omega) (by omega)
  exact ⟨⟨⟨h.p.al, h.p.av, h.p.h0, h.p.h1, k1, by simp only; omega, h.p.s⟩, h.c0, h.c1, h.k⟩, rfl⟩
 ·simp only [List.mem_singleton] at ht
  subst ht
  exact ⟨h, rfl⟩
theorem stepS_len {g : GameD} (hg : GOk g) (s : StD) (x : Int × Int) : (stepS g s x).length ≤ 10 := by
 have c9 := hg.c9
 have on : ∀ (u : StD) (b : Bool), (onlyS u b).length ≤ 10 := fun u b => by unfold onlyS; split <;> simp
 unfold stepS
 simp only
 split; exact on _ _
 split
 ·have h1 := slideGo_len (s := s) (lineB g.board s.p.side x.2 s.cursor)
  have h2 := lineB_len (b := g.board) (side := s.p.side) (d := x.2) (c := s.cursor)
  have : g.board.cells = g.cells := rfl
  unfold slideS; omega
 split; exact on _ _
 split; exact on _ _
 split; exact on _ _
 split
 ·unfold takeS; simp only; (repeat' split) <;> simp
 split
 ·unfold pushS; simp only; (repeat' split) <;> simp
 split; simp
 split; exact on _ _
 split <;> simp
end Go.Av
end
section
open Go Go.Proofs
set_option maxRecDepth 20000
set_option maxHeartbeats 4000000
namespace Go.Av
theorem R5same_pure (a b : StD) (ha : FitsP a.p) (hb : FitsP b.p) : Pure Tryz.prog 283 [.agg (encState a), .agg (encState b)] (.v (.bool (decide (a = b)))) := by
 refine pF Tryz.func283 ?_
 have hC := Compare_pure _ _ ha hb
 have he := cmpP_eq (p := a.p) (q := b.p)
 obtain ⟨pa, ka, ca, ta⟩ := a
 obtain ⟨pb, kb, cb, tb⟩ := b
 simp only at hC he
 (repeat (first|with_reducible (first|refine wL fun _=>?_|refine wD fun _=>?_|refine wE ?_|refine wZ ?_)|simp [go_sem]))
 refine aGC.plain _ (fun _ => hC) (by simp [go_sem]) ?_
 (repeat (first|with_reducible (first|refine wL fun _=>?_|refine wD fun _=>?_|refine wE ?_|refine wZ ?_)|simp [go_sem]))
 refine LeV.of_eq ?_
 by_cases h1 : pa = pb <;> by_cases h2 : ka = kb <;> by_cases h3 : ca = cb <;> cases ta <;> cases tb <;> simp_all
theorem R5only_pure (s : StD) (b : Bool) : Pure Tryz.prog 256 [.agg (encState s), .v (.bool b)] (encSs (onlyS s b)) := by
 refine pF Tryz.func256 ?_
 cases b
 ·(repeat (first|with_reducible (first|refine wL fun _=>?_|refine wD fun _=>?_|refine wE ?_|refine wZ ?_)|simp [go_sem, onlyS]))
  (refine leV_frz rfl (by simp) (by simp [noH, upd]) ?_; first | (simp [go_sem]; done) | (simp [go_sem]; exact List.take_of_length_le (by simp)))
 ·(repeat (first|with_reducible (first|refine wL fun _=>?_|refine wD fun _=>?_|refine wE ?_|refine wZ ?_)|simp [go_sem, onlyS]))
  (refine leV_frz rfl (by simp) (by simp [noH, upd]) ?_; first | (simp [go_sem]; done) | (simp [go_sem]; exact List.take_of_length_le (by simp)))
theorem R5slide_pure (g : GameD) (hg : GOk g) (s : StD) (hs : StOk g s) (n : Int) : Pure Tryz.prog 257 [.agg (encGame g), .agg (encState s), .v (.int .i64 n)] (encSs (slideS g.board s n)) := by
 refine pF Tryz.func257 ?_
 have hL := R1Line_pure g.board hg.board s.p.side n s.cursor
 have hlm := lineB_mem hg.board (side := s.p.side) (d := n) (c := s.cursor)
 have hll := lineB_len (b := g.board) (side := s.p.side) (d := n) (c := s.cursor)
 have c9 := hg.c9
 have c1 := hg.c1
 have hal := hs.p.al
 rw [show g.board.cells = g.cells from rfl] at hlm hll
 unfold slideS
 generalize lineB g.board s.p.side n s.cursor = line at *
 generalize hR : slideGo s line = R
 (repeat (first|with_reducible (first|refine wL fun _=>?_|refine wD fun _=>?_|refine wE ?_|refine wZ ?_)|simp [go_sem]))
 refine ACallP.plain hL (by simp [go_sem]) ?_
 (repeat (first|with_reducible (first|refine wL fun _=>?_|refine wD fun _=>?_|refine wE ?_|refine wZ ?_)|simp [go_sem]))
 refine ALoop.start (ALoop.ind (α := Nat × List StD) (fun a => ⟨[(4, .ref 1 0 8 0 0), (7, .sl 2 a.2.length 8 0 a.2.length), (8, encIs line), (9, .v (.int .i64 a.1))], [(1, .rows true 0 8 [encState s]), (2, .rows true a.2.length 8 (a.2.map encState))], 3⟩)
  (fun d a => a.1 + d = line.length ∧ a.2.length = a.1 ∧ R = a.2 ++ slideGo s (line.drop a.1)) ?_ line.length (0, []) ?_) ?_ ?_
 ·rintro d ⟨i, out⟩ ⟨i1, i2, i3⟩ hrec
  simp only at i1 i2 i3
  (repeat (first|with_reducible (first|refine wL fun _=>?_|refine wD fun _=>?_|refine wE ?_|refine wZ ?_)|simp [go_sem]))
  refine aIf.mkL (fun hi => ?_) (fun hi => ?_) <;> simp at hi
  ·have hli := hlm _ (nth_mem hi)
   have hlt : (nth line i).toNat < s.p.at_.length := by omega
   rw [dropG_cons hi, slideGo] at i3
   (repeat (first|with_reducible (first|refine wL fun _=>?_|refine wD fun _=>?_|refine wE ?_|refine wZ ?_)|simp [go_sem, hi, hlt]))
   refine aIf.mkL (fun hz => ?_) (fun hz => ?_) <;> simp at hz
   ·rw [if_neg (by simpa using hz)] at i3
    (repeat (first|with_reducible (first|refine wL fun _=>?_|refine wD fun _=>?_|refine wE ?_|refine wZ ?_)|simp [go_sem]))
    rw [i3]
    (refine leV_frz rfl (by simp) (by simp [noH, upd]) ?_; first | (simp [go_sem]; done) | (simp [go_sem]; exact List.take_of_length_le (by simp)))
   ·rw [if_pos (by simpa using hz)] at i3
    (repeat (first|with_reducible (first|refine wL fun _=>?_|refine wD fun _=>?_|refine wE ?_|refine wZ ?_)|simp [go_sem]))
    refine ALoop.start (hrec (d - 1) (by omega) (i + 1, out ++ [{ s with cursor := nth line i }]) ⟨by simp only; omega, by simp; omega, by simpa using i3⟩) ?_ (by simp)
    simp [go_sem, Wk_eq]
  ·rw [List.drop_eq_nil_of_le hi, slideGo] at i3
   (repeat (first|with_reducible (first|refine wL fun _=>?_|refine wD fun _=>?_|refine wE ?_|refine wZ ?_)|simp [go_sem]))
   rw [i3]
   (refine leV_frz rfl (by simp) (by simp [noH, upd]) ?_; first | (simp [go_sem]; done) | (simp [go_sem]; exact List.take_of_length_le (by simp)))
 ·simp [hR]
 ·simp [go_sem, Wk_eq]
 ·simp
theorem R5take_pure (g : GameD) (hg : GOk g) (s : StD) (hs : StOk g s) : Pure Tryz.prog 258 [.agg (encGame g), .agg (encState s)] (encSs (takeS g s)) := by
 refine pF Tryz.func258 ?_
 have hal := hs.p.al
 have hc0 := hs.c0
 have hc1 := hs.c1
 have hcur : s.cursor.toNat < s.p.at_.length := by omega
 have hO := R3Of_pure (nth s.p.at_ s.cursor.toNat)
 have hat := hs.p.at (i := s.cursor.toNat) (by omega)
 have hman := manOf_cases hat.1 hat.2 hg.k6
 have hcp := copied_owns s.p (hs.p.fits hg)
 unfold takeS
 generalize hm : manOf (nth s.p.at_ s.cursor.toNat) = m at *
 obtain ⟨mk, ms⟩ := m
 simp only [Prod.mk.injEq] at hman
 (repeat (first|with_reducible (first|refine wL fun _=>?_|refine wD fun _=>?_|refine wE ?_|refine wZ ?_)|simp [go_sem, hcur]))
 refine ACallP.plain hO (by simp [go_sem]) ?_
 (repeat (first|with_reducible (first|refine wL fun _=>?_|refine wD fun _=>?_|refine wE ?_|refine wZ ?_)|simp [go_sem]))
 refine aIf.mkL (fun hc => ?_) (fun hc => ?_) <;> simp at hc
 ·rw [if_pos hc]
  (repeat (first|with_reducible (first|refine wL fun _=>?_|refine wD fun _=>?_|refine wE ?_|refine wZ ?_)|simp [go_sem]))
  (refine leV_frz rfl (by simp) (by simp [noH, upd]) ?_; first | (simp [go_sem]; done) | (simp [go_sem]; exact List.take_of_length_le (by simp)))
 ·rw [if_neg (by omega)]
  (repeat (first|with_reducible (first|refine wL fun _=>?_|refine wD fun _=>?_|refine wE ?_|refine wZ ?_)|simp [go_sem]))
  refine ACallP.ownsPlain hcp (by simp [go_sem]) ?_
  have hmk : mk.toNat < g.kinds.length := by omega
  (repeat (first|with_reducible (first|refine wL fun _=>?_|refine wD fun _=>?_|refine wE ?_|refine wZ ?_)|simp [go_sem, hcur, hmk]))
  refine aIf.mkL (fun hk => ?_) (fun hk => ?_)
  ·rw [if_pos hk]
   have hl0 := hs.p.h0.len
   have hl1 := hs.p.h1.len
   rcases hs.p.s with hsd | hsd
   ·have hmk0 : mk.toNat < s.p.h0.length := by omega
    have hmk' : 0 ≤ mk := by omega
    have hv := hs.p.h0.v _ hmk0
    (repeat (first|with_reducible (first|refine wL fun _=>?_|refine wD fun _=>?_|refine wE ?_|refine wZ ?_)|simp [go_sem, hsd, hmk0, hcur]))
    refine aIf.mkL (fun h8 => ?_) (fun h8 => ?_) <;> simp at h8
    ·rw [if_pos (by simpa [PosD.hand, hsd] using h8)]
     (repeat (first|with_reducible (first|refine wL fun _=>?_|refine wD fun _=>?_|refine wE ?_|refine wZ ?_)|simp [go_sem]))
     (refine leV_frz rfl (by simp) (by simp [noH, upd]) ?_; first | (simp [go_sem]; done) | (simp [go_sem]; exact List.take_of_length_le (by simp)))
    ·rw [if_neg (by simpa [PosD.hand, hsd] using h8)]
     (repeat (first|with_reducible (first|refine wL fun _=>?_|refine wD fun _=>?_|refine wE ?_|refine wZ ?_)|simp [go_sem, hsd, PosD.withHand, PosD.hand, clr]))
     ((refine LeV.frz rfl (by simp) (by simp [noH, upd]) ?_); (try simp only [List.drop_zero, List.take_succ_cons, List.take_zero, List.map_cons, List.map_nil]); (repeat (first | (with_reducible exact LeRows.nil) | (with_reducible refine LeRows.cons ?_ ?_) | (with_reducible exact LeRow.nil) | (with_reducible refine LeRow.cons ?_ ?_) | (with_reducible exact LeV.refl _) | (refine leV_frz rfl (by simp) (by simp [noH, upd]) ?_; first | (simp [go_sem]; done) | (simp [go_sem]; exact List.take_of_length_le (by simp))))))
   ·have hmk0 : mk.toNat < s.p.h1.length := by omega
    have hmk' : 0 ≤ mk := by omega
    have hv := hs.p.h1.v _ hmk0
    (repeat (first|with_reducible (first|refine wL fun _=>?_|refine wD fun _=>?_|refine wE ?_|refine wZ ?_)|simp [go_sem, hsd, hmk0, hcur]))
    refine aIf.mkL (fun h8 => ?_) (fun h8 => ?_) <;> simp at h8
    ·rw [if_pos (by simpa [PosD.hand, hsd] using h8)]
     (repeat (first|with_reducible (first|refine wL fun _=>?_|refine wD fun _=>?_|refine wE ?_|refine wZ ?_)|simp [go_sem]))
     (refine leV_frz rfl (by simp) (by simp [noH, upd]) ?_; first | (simp [go_sem]; done) | (simp [go_sem]; exact List.take_of_length_le (by simp)))
    ·rw [if_neg (by simpa [PosD.hand, hsd] using h8)]
     (repeat (first|with_reducible (first|refine wL fun _=>?_|refine wD fun _=>?_|refine wE ?_|refine wZ ?_)|simp [go_sem, hsd, PosD.withHand, PosD.hand, clr]))
     ((refine LeV.frz rfl (by simp) (by simp [noH, upd]) ?_); (try simp only [List.drop_zero, List.take_succ_cons, List.take_zero, List.map_cons, List.map_nil]); (repeat (first | (with_reducible exact LeRows.nil) | (with_reducible refine LeRows.cons ?_ ?_) | (with_reducible exact LeRow.nil) | (with_reducible refine LeRow.cons ?_ ?_) | (with_reducible exact LeV.refl _) | (refine leV_frz rfl (by simp) (by simp [noH, upd]) ?_; first | (simp [go_sem]; done) | (simp [go_sem]; exact List.take_of_length_le (by simp))))))
  ·rw [if_neg (by simpa using hk)]
   (repeat (first|with_reducible (first|refine wL fun _=>?_|refine wD fun _=>?_|refine wE ?_|refine wZ ?_)|simp [go_sem, clr]))
   ((refine LeV.frz rfl (by simp) (by simp [noH, upd]) ?_); (try simp only [List.drop_zero, List.take_succ_cons, List.take_zero, List.map_cons, List.map_nil]); (repeat (first | (with_reducible exact LeRows.nil) | (with_reducible refine LeRows.cons ?_ ?_) | (with_reducible exact LeRow.nil) | (with_reducible refine LeRow.cons ?_ ?_) | (with_reducible exact LeV.refl _) | (refine leV_frz rfl (by simp) (by simp [noH, upd]) ?_; first | (simp [go_sem]; done) | (simp [go_sem]; exact List.take_of_length_le (by simp))))))
theorem R5push_pure (g : GameD) (hg : GOk g) (s : StD) (hs : StOk g s) (n : Int) : Pure Tryz.prog 259 [.agg (encGame g), .agg (encState s), .v (.int .i64 n)] (encSs (pushS g s n)) := by
 refine pF Tryz.func259 ?_
 have hT := R1To_pure g.board hg.board s.p.side n s.cursor
 (repeat (first|with_reducible (first|refine wL fun _=>?_|refine wD fun _=>?_|refine wE ?_|refine wZ ?_)|simp [go_sem]))
 refine ACallP.plain hT (by simp [go_sem]) ?_
 have hal := hs.p.al
 have hc0 := hs.c0
 have hc1 := hs.c1
 have hcur : s.cursor.toNat < s.p.at_.length := by omega
 have hcp := copied_owns s.p (hs.p.fits hg)
 have hto := toB_lt hg.board s.p.side n s.cursor
 rw [show g.board.cells = g.cells from rfl] at hto
 unfold pushS
 generalize toB g.board s.p.side n s.cursor = to at *
 by_cases ht : to < 0
 ·rw [if_pos (.inr (.inl ht))]
  have ht0 : to.toNat = 0 := by omega
  have h0l : 0 < s.p.at_.length := by omega
  (repeat (first|with_reducible (first|refine wL fun _=>?_|refine wD fun _=>?_|refine wE ?_|refine wZ ?_)|simp [go_sem, hcur, ht, ht0, h0l]))
  (refine leV_frz rfl (by simp) (by simp [noH, upd]) ?_; first | (simp [go_sem]; done) | (simp [go_sem]; exact List.take_of_length_le (by simp)))
 ·have htl : to.toNat < s.p.at_.length := by omega
  have ht' : 0 ≤ to := by omega
  (repeat (first|with_reducible (first|refine wL fun _=>?_|refine wD fun _=>?_|refine wE ?_|refine wZ ?_)|simp [go_sem, hcur, ht, htl]))
  refine aIf.mkL (fun hc => ?_) (fun hc => ?_) <;> simp at hc
  ·rw [if_pos (by by_cases h : nth s.p.at_ s.cursor.toNat = 0; exact .inl h; exact .inr (hc.resolve_left h))]
   (repeat (first|with_reducible (first|refine wL fun _=>?_|refine wD fun _=>?_|refine wE ?_|refine wZ ?_)|simp [go_sem]))
   (refine leV_frz rfl (by simp) (by simp [noH, upd]) ?_; first | (simp [go_sem]; done) | (simp [go_sem]; exact List.take_of_length_le (by simp)))
  ·rw [if_neg (by rintro (h | h); exact hc.1 h; exact h hc.2)]
   (repeat (first|with_reducible (first|refine wL fun _=>?_|refine wD fun _=>?_|refine wE ?_|refine wZ ?_)|simp [go_sem, hcur]))
   refine ACallP.ownsPlain hcp (by simp [go_sem]) ?_
   (repeat (first|with_reducible (first|refine wL fun _=>?_|refine wD fun _=>?_|refine wE ?_|refine wZ ?_)|simp [go_sem, hcur, htl]))
   ((refine LeV.frz rfl (by simp) (by simp [noH, upd]) ?_); (try simp only [List.drop_zero, List.take_succ_cons, List.take_zero, List.map_cons, List.map_nil]); (repeat (first | (with_reducible exact LeRows.nil) | (with_reducible refine LeRows.cons ?_ ?_) | (with_reducible exact LeRow.nil) | (with_reducible refine LeRow.cons ?_ ?_) | (with_reducible exact LeV.refl _) | (refine leV_frz rfl (by simp) (by simp [noH, upd]) ?_; first | (simp [go_sem]; done) | (simp [go_sem]; exact List.take_of_length_le (by simp))))))
end Go.Av
end
