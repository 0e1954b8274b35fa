/- Texts of ours, part 8: our library and contracts of functions. -/
import Derived.Test.YtblaonmapofniaaGreatDoorB07
set_option linter.unusedSimpArgs false
set_option linter.unusedVariables false
set_option maxRecDepth 100000
set_option maxHeartbeats 40000000
section
/- Contracts, paths: counts, shapes, equality; turned programs. -/
open Go Go.Proofs
namespace Go.Av
theorem bel_Steps {n : Nat} {l : List (Int × Int)} : (∀ r ∈ l.map encStep, ∀ c ∈ r, Bel n c) = True := by
 refine eq_true ?_
 intro r hr c hc
 obtain ⟨x, _, rfl⟩ := List.mem_map.1 hr
 revert c
 simp [go_sem]
attribute [go_sem ↓] bel_Steps
theorem cntCells_drop (l : List (List PathD)) {i : Nat} (h : i < l.length) : cntCells (l.drop i) = (nth l i).length + cntCells (l.drop (i + 1)) := by
 unfold cntCells
 rw [dropG_cons h, List.map_cons, List.sum_cons]
theorem cntSide_drop (l : List (List (List PathD))) {i : Nat} (h : i < l.length) : cntSide (l.drop i) = cntCells (nth l i) + cntSide (l.drop (i + 1)) := by
 unfold cntSide
 rw [dropG_cons h, List.map_cons, List.sum_cons]
theorem gCount_pure (c : CodeD) (hc : countC c ≤ 4611686018427387904) (h1 : c.1.length ≤ 1048576) (h2 : c.2.length ≤ 1048576) (hl : ∀ x ∈ c.1 ++ c.2, x.length ≤ 1048576) :
  Pure Tryz.prog 54 [.agg (encCode c)] (.v (.int .i64 (countC c))) := by
 refine pF Tryz.func54 ?_
 obtain ⟨a, b⟩ := c
 simp only at h1 h2 hl
 have hT : countC (a, b) = cntSide a + cntSide b := rfl
 rw [hT] at hc ⊢
 have key : ∀ (l : List (List (List PathD))) (s : Int) (n T : Nat) (Q : Post), l.length ≤ 1048576 → (∀ x ∈ l, x.length ≤ 1048576) → n + cntSide l = T → True := fun _ _ _ _ _ _ _ _ => trivial
 (repeat (first|with_reducible refine wV fun _=>?_|simp [go_sem]))
 refine ALoop.start (ALoop.ind (α := Nat × Nat) (fun x => ⟨[(3, .v (.int .i64 x.2)), (11, .agg [encSide a, encSide b]), (12, .v (.int .i64 x.1))], [], 0⟩)
  (fun d x => x.1 + d = 2 ∧ x.2 = (if x.1 = 0 then 0 else if x.1 = 1 then cntSide a else cntSide a + cntSide b)) ?_ 2 (0, 0) ?_) ?_ ?_
 ·rintro d ⟨s, n⟩ ⟨s1, s2⟩ hrec
  simp only at s1 s2
  rcases (show s = 2 ∨ s < 2 by omega) with rfl | hs2
  ·simp at s2
   subst s2
   (repeat (first|with_reducible refine wV fun _=>?_|simp [go_sem]))
  ·obtain ⟨l, hl0, hl1, hl2, hl3⟩ : ∃ l : List (List (List PathD)), cel [encSide a, encSide b] s = encSide l ∧ l.length ≤ 1048576 ∧ (∀ x ∈ l, x.length ≤ 1048576) ∧ (if s + 1 = 0 then 0 else if s + 1 = 1 then cntSide a else cntSide a + cntSide b) = n + cntSide l := by
    rcases (show s = 0 ∨ s = 1 by omega) with rfl | rfl
    ·simp at s2
     exact ⟨a, rfl, h1, fun x hx => hl x (by simp [hx]), by simp [s2]⟩
    ·simp at s2
     exact ⟨b, rfl, h2, fun x hx => hl x (by simp [hx]), by simp [s2]⟩
   have hcap : n + cntSide l ≤ 4611686018427387904 := by rw [← hl3]; split <;> (try split) <;> omega
   simp only [encSide, encCells, encPt] at hl0
   (repeat (first|with_reducible refine wV fun _=>?_|simp [go_sem, hl0]))
   (refine aIf.mkL (fun hT => ?_) (fun hT => by first | omega | (simp at hT; omega)); clear hT)
   (repeat (first|with_reducible refine wV fun _=>?_|simp [go_sem, hl0]))
   refine ALoop.start (ALoop.ind (α := Nat × Nat) (fun x => ⟨[(3, .v (.int .i64 x.2)), (11, .agg [encSide a, encSide b]), (12, .v (.int .i64 s)), (15, encSide l), (16, .v (.int .i64 l.length)), (17, .v (.int .i64 x.1))], [], 0⟩)
    (fun d x => x.1 + d = l.length ∧ x.2 + cntSide (l.drop x.1) = n + cntSide l) ?_ l.length (0, n) ?_) ?_ ?_
   ·rintro d2 ⟨j, m⟩ ⟨j1, j2⟩ hrec2
    simp only at j1 j2
    (repeat (first|with_reducible refine wV fun _=>?_|simp [go_sem]))
    refine aIf.mkL (fun hj => ?_) (fun hj => ?_) <;> simp at hj
    ·have hll := hl2 _ (nth_mem hj)
     rw [cntSide_drop l hj] at j2
     (repeat (first|with_reducible refine wV fun _=>?_|simp [go_sem, hj]))
     refine ALoop.start (ALoop.ind (α := Nat × Nat) (fun x => ⟨[(3, .v (.int .i64 x.2)), (11, .agg [encSide a, encSide b]), (12, .v (.int .i64 s)), (15, encSide l), (16, .v (.int .i64 l.length)), (17, .v (.int .i64 j)), (21, encCells (nth l j)), (22, .v (.int .i64 (nth l j).length)), (23, .v (.int .i64 x.1))], [], 0⟩)
      (fun d x => x.1 + d = (nth l j).length ∧ x.2 + cntCells ((nth l j).drop x.1) = m + cntCells (nth l j)) ?_ (nth l j).length (0, m) ?_) ?_ ?_
     ·rintro d3 ⟨k, q⟩ ⟨k1, k2⟩ hrec3
      simp only at k1 k2
      (repeat (first|with_reducible refine wV fun _=>?_|simp [go_sem]))
      refine aIf.mkL (fun hk => ?_) (fun hk => ?_) <;> simp at hk
      ·rw [cntCells_drop _ hk] at k2
       (repeat (first|with_reducible refine wV fun _=>?_|simp [go_sem, hk]))
       refine ALoop.start (hrec3 (d3 - 1) (by omega) (k + 1, q + (nth (nth l j) k).length) ⟨by simp only; omega, by simp only; omega⟩) ?_ (by simp)
       simp [go_sem, Wk_eq]
      ·rw [List.drop_eq_nil_of_le hk] at k2
       simp [cntCells] at k2
       (repeat (first|with_reducible refine wV fun _=>?_|simp [go_sem]))
       refine ALoop.start (hrec2 (d2 - 1) (by omega) (j + 1, q) ⟨by simp only; omega, by simp only [cntCells] at j2 ⊢; omega⟩) ?_ (by simp)
       simp [go_sem, Wk_eq]
     ·exact ⟨by simp, by simp⟩
     ·simp [go_sem, Wk_eq]
     ·simp
    ·rw [List.drop_eq_nil_of_le hj] at j2
     simp [cntSide] at j2
     (repeat (first|with_reducible refine wV fun _=>?_|simp [go_sem]))
     refine ALoop.start (hrec (d - 1) (by omega) (s + 1, m) ⟨by simp only; omega, ?_⟩) ?_ (by simp)
     ·simp only
      rw [hl3, j2]
      rfl
     ·simp [go_sem, Wk_eq]
   ·exact ⟨by simp, by simp⟩
   ·simp [go_sem, Wk_eq]
   ·simp
 ·exact ⟨rfl, rfl⟩
 ·simp [go_sem, Wk_eq]
 ·simp
structure ShapeOk (g : GameD) (c : CodeD) : Prop where
 l1 : c.1.length = g.kinds.length
 l2 : c.2.length = g.kinds.length
 c1 : ∀ x ∈ c.1, (x.length : Int) = g.cells
 c2 : ∀ x ∈ c.2, (x.length : Int) = g.cells
theorem ShapeOk.side {g : GameD} {c : CodeD} (h : ShapeOk g c) {s : Nat} (hs : s < 2) : ∃ l, cel [encSide c.1, encSide c.2] s = encSide l ∧ l.length = g.kinds.length ∧ ∀ x ∈ l, (x.length : Int) = g.cells := by
 rcases (show s = 0 ∨ s = 1 by omega) with rfl | rfl
 ·exact ⟨_, rfl, h.l1, h.c1⟩
 ·exact ⟨_, rfl, h.l2, h.c2⟩
theorem shape_codeP {g : GameD} (hg : GOk g) : ShapeOk g (codeP g) := by
 have h : ∀ s, ∀ x ∈ sideP g s, (x.length : Int) = g.cells := by
  intro s x hx
  obtain ⟨k, _, rfl⟩ := List.mem_map.1 hx
  have : g.board.cells = g.cells := rfl
  have := hg.c1
  simp [cellsP]
  omega
 exact ⟨by simp [codeP, sideP], by simp [codeP, sideP], h 0, h 1⟩
theorem Shaped_true (g : GameD) (hg : GOk g) (c : CodeD) (hc : ShapeOk g c) : Pure Tryz.prog 118 [.agg (encGame g), .agg (encCode c)] (.v (.bool true)) := by
 refine pF Tryz.func118 ?_
 have hk6 := hg.k6
 (repeat (first|with_reducible refine wV fun _=>?_|simp [go_sem]))
 refine ALoop.start (ALoop.ind (α := Nat) (fun s => ⟨[(2, .ref 0 0 9 0 0), (3, .ref 1 0 2 0 0), (5, .v (.int .i64 s))], [(0, .rows true 0 9 [encGame g]), (1, .rows true 0 2 [[encSide c.1, encSide c.2]])], 2⟩)
  (fun d s => s + d = 2) ?_ 2 0 ?_) ?_ ?_
 ·rintro d s s1 hrec
  rcases (show s = 2 ∨ s < 2 by omega) with rfl | hs2
  ·(repeat (first|with_reducible refine wV fun _=>?_|simp [go_sem]))
  ·obtain ⟨l, hl0, hl1, hl2⟩ := hc.side hs2
   simp only [encSide, encCells, encPt] at hl0
   (repeat (first|with_reducible refine wV fun _=>?_|simp [go_sem, hl0]))
   (refine aIf.mkL (fun hT => ?_) (fun hT => by first | omega | (simp at hT; omega)); clear hT)
   (repeat (first|with_reducible refine wV fun _=>?_|simp [go_sem, hl0]))
   (refine aIf.mkL (fun hF => by first | omega | (simp at hF; omega)) (fun hF => ?_); clear hF)
   (repeat (first|with_reducible refine wV fun _=>?_|simp [go_sem, hl0]))
   refine ALoop.start (ALoop.ind (α := Nat) (fun k => ⟨[(2, .ref 0 0 9 0 0), (3, .ref 1 0 2 0 0), (5, .v (.int .i64 s)), (6, .v (.int .i64 k))], [(0, .rows true 0 9 [encGame g]), (1, .rows true 0 2 [[encSide c.1, encSide c.2]])], 2⟩)
    (fun d k => k + d = g.kinds.length) ?_ g.kinds.length 0 ?_) ?_ ?_
   ·rintro d2 k k1 hrec2
    (repeat (first|with_reducible refine wV fun _=>?_|simp [go_sem]))
    refine aIf.mkL (fun hk => ?_) (fun hk => ?_) <;> simp at hk
    ·have hkl : k < l.length := by omega
     have hx := hl2 _ (nth_mem hkl)
     (repeat (first|with_reducible refine wV fun _=>?_|simp [go_sem, hl0, hkl]))
     (refine aIf.mkL (fun hF => by first | omega | (simp at hF; omega)) (fun hF => ?_); clear hF)
     (repeat (first|with_reducible refine wV fun _=>?_|simp [go_sem]))
     refine ALoop.start (hrec2 (d2 - 1) (by omega) (k + 1) (by omega)) ?_ (by simp)
     simp [go_sem, Wk_eq]
    ·(repeat (first|with_reducible refine wV fun _=>?_|simp [go_sem]))
     refine ALoop.start (hrec (d - 1) (by omega) (s + 1) (by omega)) ?_ (by simp)
     simp [go_sem, Wk_eq]
   ·simp
   ·simp [go_sem, Wk_eq]
   ·simp
 ·simp
 ·simp [go_sem, Wk_eq]
 ·simp
theorem SamePaths_true (a : List PathD) (ha : a.length ≤ 1099511627776) (hb : ActsLe 1048576 a) : Pure Tryz.prog 112 [encPt a, encPt a] (.v (.bool true)) := by
 refine pF Tryz.func112 ?_
 (repeat (first|with_reducible refine wV fun _=>?_|simp [go_sem]))
 refine ALoop.start (ALoop.ind (α := Nat) (fun i => ⟨[(0, encPt a), (1, encPt a), (5, .v (.int .i64 i))], [], 0⟩)
  (fun d i => i + d = a.length) ?_ a.length 0 ?_) ?_ ?_
 ·rintro d i i1 hrec
  (repeat (first|with_reducible refine wV fun _=>?_|simp [go_sem]))
  refine aIf.mkL (fun hi => ?_) (fun hi => ?_) <;> simp at hi
  ·have hx := hb _ (nth_mem hi)
   (repeat (first|with_reducible refine wV fun _=>?_|simp [go_sem, hi]))
   refine ALoop.start (ALoop.ind (α := Nat) (fun k => ⟨[(0, encPt a), (1, encPt a), (5, .v (.int .i64 i)), (6, .v (.int .i64 k))], [], 0⟩)
    (fun d k => k + d = (nth a i).acts.length) ?_ (nth a i).acts.length 0 ?_) ?_ ?_
   ·rintro d2 k k1 hrec2
    (repeat (first|with_reducible refine wV fun _=>?_|simp [go_sem, hi]))
    refine aIf.mkL (fun hk => ?_) (fun hk => ?_) <;> simp at hk
    ·(repeat (first|with_reducible refine wV fun _=>?_|simp [go_sem, hi, hk]))
     refine ALoop.start (hrec2 (d2 - 1) (by omega) (k + 1) (by omega)) ?_ (by simp)
     simp [go_sem, Wk_eq]
    ·(repeat (first|with_reducible refine wV fun _=>?_|simp [go_sem]))
     refine ALoop.start (hrec (d - 1) (by omega) (i + 1) (by omega)) ?_ (by simp)
     simp [go_sem, Wk_eq]
   ·simp
   ·simp [go_sem, Wk_eq]
   ·simp
  ·(repeat (first|with_reducible refine wV fun _=>?_|simp [go_sem]))
 ·simp
 ·simp [go_sem, Wk_eq]
 ·simp
end Go.Av
end
section
/- Contracts, the law of layer 8: row, paths, cell, acts, sanity. -/
open Go Go.Proofs
namespace Go.Av
def rowG (p : List (Int × Int)) : GameD := ⟨3, [[1, 2, -1], [-1, 0, 1]], [1, 0], [⟨nameA, [p], false⟩], 4, false, [], 3, 2⟩
theorem rowG_ok {p : List (Int × Int)} (hp : ProgOk 2 1 4 p) : GOk (rowG p) := by
 refine ⟨⟨rfl, ?_, ?_, ?_, by simp [rowG, GameD.board], by simp [rowG, GameD.board], by simp [rowG, GameD.board]⟩, by simp [rowG], by simp [rowG], by simp [rowG], by simp [rowG], ?_, by simp [rowG], by simp [rowG], ?_, ?_, by simp [rowG], by simp [rowG], by simp [rowG], by simp [rowG], by simp [rowG], by simp [rowG]⟩
 ·intro t ht; simp [rowG, GameD.board] at ht ⊢; omega
 ·intro l hl; simp [rowG, GameD.board] at hl ⊢; rcases hl with rfl | rfl <;> rfl
 ·intro l hl x hx; simp [rowG, GameD.board] at hl ⊢; rcases hl with rfl | rfl <;> simp at hx <;> omega
 ·intro d hd
  simp [rowG] at hd
  rcases (show d = 0 ∨ d = 1 by omega) with rfl | rfl <;> rfl
 ·intro k hk; simp [rowG] at hk; subst hk; simp
 ·intro k hk q hq; simp [rowG] at hk; subst hk; simp at hq; subst hq; exact hp
theorem row_pure (p : List (Int × Int)) : Pure Tryz.prog 114 [encProg p] (.agg (encGame (rowG p))) := by
 refine pF Tryz.func114 ?_
 unfold rowG
 simp only [nameA]
 (repeat (first|with_reducible refine wV fun _=>?_|simp [go_sem]))
 refine ⟨?_, ?_, ?_⟩ <;> (first|done|exact leX)
def rowP (p : List (Int × Int)) (side cell : Int) : List PathD := pathsP (rowG p).board side p cell
theorem kindP_one (b : BoardD) (side : Int) (p : List (Int × Int)) (cell : Int) : kindP b side [p] cell = pathsP b side p cell := by simp [kindP]
theorem paths8_pure (p : List (Int × Int)) (hp : ProgOk 2 1 4 p) (side cell : Nat) (hs : side < 2) (hc : cell < 3) : Pure Tryz.prog 113 [encProg p, .v (.int .i64 side), .v (.int .i64 cell)] (encPt (rowP p side cell)) := by
 refine pF Tryz.func113 ?_
 have hR := row_pure p
 have hg := rowG_ok hp
 have hC := Compile_pure (rowG p) hg
 have hS := Shaped_true (rowG p) hg (codeP (rowG p)) (shape_codeP hg)
 have hcel : cel (encCode (codeP (rowG p))) side = encSide (sideP (rowG p) side) := by
  rcases (show side = 0 ∨ side = 1 by omega) with rfl | rfl <;> rfl
 have hsd : sideP (rowG p) side = [(List.range 3).map fun (c : Nat) => rowP p side c] := by
  unfold sideP cellsP
  simp only [rowG, List.map_cons, List.map_nil, GameD.board, kindP_one]
  rfl
 have hcl : (encCode (codeP (rowG p))).length = 2 := rfl
 have hcb : ∀ n, (∀ c ∈ encCode (codeP (rowG p)), Bel n c) = True := fun n => by simp [go_sem]
 have hgl : (encGame (rowG p)).length = 9 := rfl
 have hgb : ∀ n, (∀ c ∈ encGame (rowG p), Bel n c) = True := fun n => by simp [go_sem]
 rw [hsd] at hcel
 have hne : nth ((List.range 3).map fun (c : Nat) => rowP p side c) cell = rowP p side cell := by
  rw [nth_map _ _ _ (by simpa using hc), nth_eq _ _ (by simpa using hc), List.getElem_range]
 generalize encCode (codeP (rowG p)) = ec at *
 generalize encGame (rowG p) = eg at *
 generalize hL : ((List.range 3).map fun (c : Nat) => rowP p side c) = L at *
 have hLl : L.length = 3 := by rw [← hL]; simp
 generalize rowP p side cell = R at *
 simp only [encSide, encCells, encPt, List.map_cons, List.map_nil] at hcel
 have hcL : cell < L.length := by omega
 (repeat (first|with_reducible refine wV fun _=>?_|simp [go_sem, hcl, hgl]))
 refine ACallP.plain hR (by simp [go_sem]) ?_
 (repeat (first|with_reducible refine wV fun _=>?_|simp [go_sem, hcl, hgl]))
 refine ACallP.plain hC (by simp [go_sem, hgb]) ?_
 (repeat (first|with_reducible refine wV fun _=>?_|simp [go_sem, hcl, hgl]))
 refine dCall.plain hR (by simp [go_sem]) ?_
 (repeat (first|with_reducible refine wV fun _=>?_|simp [go_sem, hcl, hgl]))
 refine dCall.plain hS (by simp [go_sem, hgb, hcb]) ?_
 (repeat (first|with_reducible refine wV fun _=>?_|simp [go_sem, hcl, hgl, hcel, hcL, hne]))
end Go.Av
end
section
/- Contracts, the law of layer 8: sanity. -/
open Go Go.Proofs
namespace Go.Av
theorem row_e1 : rowP [(2, 0)] 0 0 = [⟨[], 1⟩, ⟨[(3, 1, 0)], 2⟩] := by rfl
theorem row_e2 : rowP [(2, 0)] 1 0 = [] := by rfl
theorem row_e3 : rowP [(1, 0), (4, 0), (6, 0)] 0 1 = [⟨[(4, 2, 0), (6, 2, 0)], 2⟩] := by rfl
theorem row_e4 : rowP [(1, 0), (7, 0)] 0 0 = [⟨[(7, 1, 2)], 1⟩] := by rfl
theorem row_e5 : rowP [(1, 0), (7, 0)] 0 1 = [] := by rfl
theorem row_e6 : rowP [(9, 3), (1, 0)] 0 0 = [⟨[(9, 3, 0)], 1⟩] := by rfl
theorem row_e7 : countC (codeP (rowG [(2, 0)])) = 6 := by rfl
theorem okS : ProgOk 2 1 4 [(2, 0)] := ⟨by simp, by simp, by simp; exact ⟨by simp, by simp, by simp, by simp, by simp⟩, by decide, by decide, by decide⟩
theorem okT : ProgOk 2 1 4 [(1, 0), (4, 0), (6, 0)] := ⟨by simp, by simp, by simp; refine ⟨?_, ?_, ?_⟩ <;> exact ⟨by simp, by simp, by simp, by simp, by simp⟩, by decide, by decide, by decide⟩
theorem okP : ProgOk 2 1 4 [(1, 0), (7, 0)] := ⟨by simp, by simp, by simp; refine ⟨?_, ?_⟩ <;> exact ⟨by simp, by simp, by simp, by simp, by simp⟩, by decide, by decide, by decide⟩
theorem okN : ProgOk 2 1 4 [(9, 3), (1, 0)] := ⟨by simp, by simp, by simp; refine ⟨?_, ?_⟩ <;> exact ⟨by simp, by simp, by simp, by simp, by simp⟩, by decide, by decide, by decide⟩
theorem sanity8_pure : Pure Tryz.prog 50 [] (.v (.bool true)) := by
 refine pF Tryz.func50 ?_
 have p1 := paths8_pure _ okS 0 0 (by omega) (by omega)
 have p2 := paths8_pure _ okS 1 0 (by omega) (by omega)
 have p3 := paths8_pure _ okT 0 1 (by omega) (by omega)
 have p4 := paths8_pure _ okP 0 0 (by omega) (by omega)
 have p5 := paths8_pure _ okP 0 1 (by omega) (by omega)
 have p6 := paths8_pure _ okN 0 0 (by omega) (by omega)
 simp only [Int.natCast_zero, Int.natCast_one, row_e1, row_e2, row_e3, row_e4, row_e5, row_e6, Int.ofNat_eq_natCast, Int.cast_ofNat_Int] at p1 p2 p3 p4 p5 p6
 have s1 := SamePaths_true [⟨[], 1⟩, ⟨[(3, 1, 0)], 2⟩] (by simp) (by simp [ActsLe])
 have s3 := SamePaths_true [⟨[(4, 2, 0), (6, 2, 0)], 2⟩] (by simp) (by simp [ActsLe])
 have s4 := SamePaths_true [⟨[(7, 1, 2)], 1⟩] (by simp) (by simp [ActsLe])
 have s6 := SamePaths_true [⟨[(9, 3, 0)], 1⟩] (by simp) (by simp [ActsLe])
 have c0 := gCount_pure ([], []) (by decide) (by simp) (by simp) (by simp)
 have hRow := row_pure [(2, 0)]
 have hgok := rowG_ok okS
 have hCom := Compile_pure (rowG [(2, 0)]) hgok
 have hsh := shape_codeP hgok
 have hCnt := gCount_pure (codeP (rowG [(2, 0)])) (by rw [row_e7]; omega) (by rw [hsh.l1]; decide) (by rw [hsh.l2]; decide) (fun x hx => by
  have h3 : (rowG [(2, 0)]).cells = 3 := rfl
  rcases List.mem_append.1 hx with h | h
  ·have := hsh.c1 x h; omega
  ·have := hsh.c2 x h; omega)
 rw [row_e7] at hCnt
 have hegl : (encGame (rowG [(2, 0)])).length = 9 := rfl
 have hegb : ∀ n, (∀ c ∈ encGame (rowG [(2, 0)]), Bel n c) = True := fun n => by simp [go_sem]
 have hecl : (encCode (codeP (rowG [(2, 0)]))).length = 2 := rfl
 have hecb : ∀ n, (∀ c ∈ encCode (codeP (rowG [(2, 0)])), Bel n c) = True := fun n => by simp [go_sem]
 generalize encCode (codeP (rowG [(2, 0)])) = ec at *
 generalize encGame (rowG [(2, 0)]) = eg at *
 have hc0 : countC (([], []) : CodeD) = 0 := rfl
 rw [hc0] at c0
 (repeat (first|with_reducible refine wV fun _=>?_|simp [go_sem]))
 refine ACallP.pureF [0] p1 ?_ (by simp [go_sem]) ?_
 ·(first|done|exact leX)
 (repeat (first|with_reducible refine wV fun _=>?_|simp [go_sem]))
 refine ACallP.flat s1 (.v _) ?_ (by simp [go_sem]) ?_
 ·(first|done|exact leX)
 (repeat (first|with_reducible refine wV fun _=>?_|simp [go_sem]))
 refine aGC.go ?_
 refine ACallP.pureF [0] p2 ?_ (by simp [go_sem]) ?_
 ·(first|done|exact leX)
 (repeat (first|with_reducible refine wV fun _=>?_|simp [go_sem]))
 refine ACallP.pureF [2] p3 ?_ (by simp [go_sem]) ?_
 ·(first|done|exact leX)
 (repeat (first|with_reducible refine wV fun _=>?_|simp [go_sem]))
 refine ACallP.flat s3 (.v _) ?_ (by simp [go_sem]) ?_
 ·(first|done|exact leX)
 (repeat (first|with_reducible refine wV fun _=>?_|simp [go_sem]))
 refine ACallP.pureF [1] p4 ?_ (by simp [go_sem]) ?_
 ·(first|done|exact leX)
 (repeat (first|with_reducible refine wV fun _=>?_|simp [go_sem]))
 refine ACallP.flat s4 (.v _) ?_ (by simp [go_sem]) ?_
 ·(first|done|exact leX)
 (repeat (first|with_reducible refine wV fun _=>?_|simp [go_sem]))
 refine aGC.go ?_
 refine ACallP.pureF [1] p5 ?_ (by simp [go_sem]) ?_
 ·(first|done|exact leX)
 (repeat (first|with_reducible refine wV fun _=>?_|simp [go_sem]))
 refine aGC.go ?_
 refine ACallP.pureF [3] p6 ?_ (by simp [go_sem]) ?_
 ·(first|done|exact leX)
 (repeat (first|with_reducible refine wV fun _=>?_|simp [go_sem]))
 refine aGC.go ?_
 refine ACallP.flat s6 (.v _) ?_ (by simp [go_sem]) ?_
 ·(first|done|exact leX)
 (repeat (first|with_reducible refine wV fun _=>?_|simp [go_sem]))
 refine aGC.go ?_
 refine ACallP.pureF [0] hRow ?_ (by simp [go_sem]) ?_
 ·(first|done|exact leX)
 (repeat (first|with_reducible refine wV fun _=>?_|simp [go_sem, hegl]))
 refine aGC.plain _ (fun _ => hCom) (by simp [go_sem, hegb]) ?_
 (repeat (first|with_reducible refine wV fun _=>?_|simp [go_sem, hegl, hecl]))
 refine aGC.plain _ (fun _ => hCnt) (by simp [go_sem, hecb]) ?_
 (repeat (first|with_reducible refine wV fun _=>?_|simp [go_sem]))
 refine aGC.go ?_
 refine ACallP.flat c0 (.v _) ?_ (by simp [go_sem]) ?_
 ·simp only [encCode, encSide, List.map_nil]
  (first|done|exact leX)
 (repeat (first|with_reducible refine wV fun _=>?_|simp [go_sem]))
end Go.Av
end
section
/- Contracts, lists of positions: half, Sort, Same of the reference. -/
open Go Go.Proofs
namespace Go.Av
theorem R4Same_pure (a b : PosD) (ha : FitsP a) (hb : FitsP b) : Pure Tryz.prog 71 [.agg (encPos a), .agg (encPos b)] (.v (.bool (decide (cmpP a b = 0)))) := by
 refine pF Tryz.func71 ?_
 (repeat (first|with_reducible refine wV fun _=>?_|simp [go_sem]))
 refine ACallP.plain (Compare_pure a b ha hb) (by simp [go_sem]) ?_
 (repeat (first|with_reducible refine wV fun _=>?_|simp [go_sem]))
attribute [go_sem ↓] bel_P bel_I List.forall_mem_append
theorem bel1 {x : AV} (h : Bel 0 x) : ∀ c ∈ [x], Bel 0 c := by simpa using h
theorem bel_encPs {n : Nat} (l : List PosD) : Bel n (encPs l) := of_eq_true bel_Ps
theorem half_pure : ∀ (f : Nat) (l : List PosD), l.length ≤ f + 1 → l.length ≤ 68719476736 → (∀ p ∈ l, FitsP p) → Pure Tryz.prog 162 [encPs l] (encPs (sortC cmpP l)) := by
 intro f
 induction f with
 | zero =>
  intro l h1 h2 h3
  rw [sortC_short (by omega)]
  refine pF Tryz.func162 ?_
  (repeat (first|with_reducible refine wV fun _=>?_|simp [go_sem]))
  (refine aIf.mkL (fun hT => ?_) (fun hT => by first | omega | (simp at hT; omega)); clear hT)
  (repeat (first|with_reducible refine wV fun _=>?_|simp [go_sem]))
 | succ f ih =>
  intro l h1 h2 h3
  by_cases hs : l.length < 2
  ·rw [sortC_short hs]
   refine pF Tryz.func162 ?_
   (repeat (first|with_reducible refine wV fun _=>?_|simp [go_sem]))
   (refine aIf.mkL (fun hT => ?_) (fun hT => by first | omega | (simp at hT; omega)); clear hT)
   (repeat (first|with_reducible refine wV fun _=>?_|simp [go_sem]))
  ·have hm := sortC_merge cmp_pos (l.take (l.length / 2)) (l.drop (l.length / 2))
   rw [List.take_append_drop] at hm
   have hA := ih (l.take (l.length / 2)) (by simp; omega) (by simp; omega) (fun p hp => h3 p (List.mem_of_mem_take hp))
   have hB := ih (l.drop (l.length / 2)) (by simp; omega) (by simp; omega) (fun p hp => h3 p (List.mem_of_mem_drop hp))
   have fA : ∀ p ∈ sortC cmpP (l.take (l.length / 2)), FitsP p := fun p hp => h3 p (List.mem_of_mem_take (sortC_mem.1 hp))
   have fB : ∀ p ∈ sortC cmpP (l.drop (l.length / 2)), FitsP p := fun p hp => h3 p (List.mem_of_mem_drop (sortC_mem.1 hp))
   have lA : (sortC cmpP (l.take (l.length / 2))).length = l.length / 2 := by rw [sortC_len]; simp; omega
   have lB : (sortC cmpP (l.drop (l.length / 2))).length = l.length - l.length / 2 := by rw [sortC_len]; simp
   rw [← hm]
   generalize sortC cmpP (l.take (l.length / 2)) = xs at *
   generalize sortC cmpP (l.drop (l.length / 2)) = ys at *
   have hq : ((l.length : Int) / 2).toNat = l.length / 2 := by omega
   have eA : AV.lst 5 (List.take (l.length / 2) (l.map encPos)) = encPs (l.take (l.length / 2)) := by simp [encPs, List.map_take]
   have eB : AV.lst 5 (List.take (l.length - l.length / 2) (List.drop (l.length / 2) (l.map encPos))) = encPs (l.drop (l.length / 2)) := by rw [List.take_of_length_le (by simp)]; simp [encPs, List.map_drop]
   generalize hR : List.merge xs ys (leC cmpP) = R
   refine pF Tryz.func162 ?_
   (repeat (first|with_reducible refine wV fun _=>?_|simp [go_sem]))
   (refine aIf.mkL (fun hF => by first | omega | (simp at hF; omega)) (fun hF => ?_); clear hF)
   (repeat (first|with_reducible refine wV fun _=>?_|simp [go_sem, hq]))
   rw [eA]
   refine ACallP.plain hA (bel1 (bel_encPs _)) ?_
   (repeat (first|with_reducible refine wV fun _=>?_|simp [go_sem, hq]))
   rw [eB]
   refine ACallP.plain hB (bel1 (bel_encPs _)) ?_
   (repeat (first|with_reducible refine wV fun _=>?_|simp [go_sem, hq]))
   refine ALoop.start (ALoop.ind (α := Nat × Nat × List PosD) (fun a => ⟨[(3, encPs xs), (4, encPs ys), (5, .sl 0 a.2.2.length 5 0 a.2.2.length), (6, .v (.int .i64 a.1)), (7, .v (.int .i64 a.2.1))], [(0, .rows true a.2.2.length 5 (a.2.2.map encPos))], 1⟩)
    (fun d a => a.1 + a.2.1 + d = xs.length + ys.length ∧ a.1 ≤ xs.length ∧ a.2.1 ≤ ys.length ∧ a.2.2.length = a.1 + a.2.1 ∧ R = a.2.2 ++ List.merge (xs.drop a.1) (ys.drop a.2.1) (leC cmpP)) ?_ (xs.length + ys.length) (0, 0, []) ?_) ?_ ?_
   ·rintro d ⟨i, k, out⟩ ⟨i1, i2, i3, i4, i5⟩ hrec
    simp only at i1 i2 i3 i4 i5
    (repeat (first|with_reducible refine wV fun _=>?_|simp [go_sem]))
    refine aIf.mkL (fun hj => ?_) (fun hj => ?_) <;> simp at hj
    ·by_cases hk : k < ys.length
     ·by_cases hi : i < xs.length
      ·have fa := fA _ (nth_mem hi)
       have fb := fB _ (nth_mem hk)
       rw [dropG_cons hi, dropG_cons hk, List.cons_merge_cons, ← dropG_cons hi, ← dropG_cons hk] at i5
       have hk' := Nat.not_le.2 hk
       (repeat (first|with_reducible refine wV fun _=>?_|simp [go_sem, hk, hk', hi]))
       refine dGC.plain _ (fun _ => Compare_pure _ _ fa fb) (by simp [go_sem]) ?_
       (repeat (first|with_reducible refine wV fun _=>?_|simp [go_sem, hk, hk', hi]))
       refine aIf.mkL (fun hc => ?_) (fun hc => ?_) <;> simp at hc
       ·rw [if_pos (by simpa [leC] using hc)] at i5
        (repeat (first|with_reducible refine wV fun _=>?_|simp [go_sem, hk, hi]))
        refine ALoop.start (hrec (d - 1) (by omega) (i + 1, k, out ++ [nth xs i]) ⟨by simp only; omega, by simp only; omega, i3, by simp; omega, by simpa using i5⟩) ?_ (by simp)
        simp [go_sem, Wk_eq]
       ·rw [if_neg (by simpa [leC] using hc)] at i5
        (repeat (first|with_reducible refine wV fun _=>?_|simp [go_sem, hk, hi]))
        refine ALoop.start (hrec (d - 1) (by omega) (i, k + 1, out ++ [nth ys k]) ⟨by simp only; omega, i2, by simp only; omega, by simp; omega, by simpa using i5⟩) ?_ (by simp)
        simp [go_sem, Wk_eq]
      ·rw [List.drop_eq_nil_of_le (show xs.length ≤ i by omega), List.nil_merge, dropG_cons hk] at i5
       have hk' := Nat.not_le.2 hk
       (repeat (first|with_reducible refine wV fun _=>?_|simp [go_sem, hk, hk', hi]))
       refine dGC.skip (.v (.int .i64 0)) ?_
       (repeat (first|with_reducible refine wV fun _=>?_|simp [go_sem, hk, hk', hi]))
       refine ALoop.start (hrec (d - 1) (by omega) (i, k + 1, out ++ [nth ys k]) ⟨by simp only; omega, i2, by simp only; omega, by simp; omega, by simp [List.drop_eq_nil_of_le (show xs.length ≤ i by omega), i5]⟩) ?_ (by simp)
       simp [go_sem, Wk_eq]
     ·have hi : i < xs.length := by omega
      rw [List.drop_eq_nil_of_le (show ys.length ≤ k by omega), List.merge_right, dropG_cons hi] at i5
      have hk' := Nat.not_lt.1 hk
      (repeat (first|with_reducible refine wV fun _=>?_|simp [go_sem, hk, hk', hi]))
      refine dGC.skip (.v (.int .i64 0)) ?_
      (repeat (first|with_reducible refine wV fun _=>?_|simp [go_sem, hk, hk', hi]))
      refine ALoop.start (hrec (d - 1) (by omega) (i + 1, k, out ++ [nth xs i]) ⟨by simp only; omega, by simp only; omega, i3, by simp; omega, by simp [List.drop_eq_nil_of_le (show ys.length ≤ k by omega), i5]⟩) ?_ (by simp)
      simp [go_sem, Wk_eq]
    ·rw [List.drop_eq_nil_of_le (show xs.length ≤ i by omega), List.drop_eq_nil_of_le (show ys.length ≤ k by omega)] at i5
     (repeat (first|with_reducible refine wV fun _=>?_|simp [go_sem]))
     rw [i5]
     exact frX
   ·simp [hR]
   ·simp [go_sem, Wk_eq]
   ·simp
end Go.Av
end
section
/- Contracts, lists of positions: Sort of the reference. -/
open Go Go.Proofs
namespace Go.Av
def ddAt (all : List PosD) (i : Nat) : List PosD := if i = 0 then dedup all else dedupGo (nth all (i - 1)) (all.drop i)
theorem ddAt_zero (all : List PosD) : ddAt all 0 = dedup all := rfl
theorem ddAt_end {all : List PosD} {i : Nat} (h : all.length ≤ i) : ddAt all i = [] := by
 unfold ddAt
 split
 ·cases all with
  | nil => rfl
  | cons a l => simp at h; omega
 ·rw [List.drop_eq_nil_of_le h]; rfl
theorem ddAt_keep {all : List PosD} {i : Nat} (h : i < all.length) (hk : i = 0 ∨ nth all i ≠ nth all (i - 1)) : ddAt all i = nth all i :: ddAt all (i + 1) := by
 unfold ddAt
 rw [if_neg (show ¬ i + 1 = 0 by omega), Nat.add_sub_cancel]
 split
 ·rename_i h0
  subst h0
  cases all with
  | nil => simp at h
  | cons a l => rfl
 ·rw [dropG_cons h, dedupGo, if_neg (by rcases hk with h | h; omega; exact h)]
theorem ddAt_skip {all : List PosD} {i : Nat} (h : i < all.length) (hi : i ≠ 0) (hk : nth all i = nth all (i - 1)) : ddAt all i = ddAt all (i + 1) := by
 unfold ddAt
 rw [if_neg (show ¬ i + 1 = 0 by omega), Nat.add_sub_cancel, if_neg hi, dropG_cons h, dedupGo, if_pos hk, hk]
theorem R4Sort_pure (l : List PosD) (hl : l.length ≤ 68719476736) (hf : ∀ p ∈ l, FitsP p) : Pure Tryz.prog 87 [encPs l] (encPs (sortU cmpP l)) := by
 have hH := half_pure l.length l (by omega) hl hf
 unfold sortU
 have fA : ∀ p ∈ sortC cmpP l, FitsP p := fun p hp => hf p (sortC_mem.1 hp)
 have lA : (sortC cmpP l).length = l.length := sortC_len l
 generalize sortC cmpP l = all at *
 generalize hR : dedup all = R
 refine pF Tryz.func87 ?_
 (repeat (first|with_reducible refine wV fun _=>?_|simp [go_sem]))
 refine ACallP.plain hH (bel1 (bel_encPs _)) ?_
 (repeat (first|with_reducible refine wV fun _=>?_|simp [go_sem]))
 refine ALoop.start (ALoop.ind (α := Nat × List PosD) (fun a => ⟨[(3, encPs all), (4, .sl 0 a.2.length 5 0 a.2.length), (5, .v (.int .i64 a.1))], [(0, .rows true a.2.length 5 (a.2.map encPos))], 1⟩)
  (fun d a => a.1 + d = all.length ∧ a.2.length ≤ a.1 ∧ R = a.2 ++ ddAt all a.1) ?_ all.length (0, []) ?_) ?_ ?_
 ·rintro d ⟨i, out⟩ ⟨i1, i2, i3⟩ hrec
  simp only at i1 i2 i3
  (repeat (first|with_reducible refine wV fun _=>?_|simp [go_sem]))
  refine aIf.mkL (fun hi => ?_) (fun hi => ?_) <;> simp at hi
  ·by_cases h0 : i = 0
   ·rw [ddAt_keep hi (.inl h0)] at i3
    subst h0
    (repeat (first|with_reducible refine wV fun _=>?_|simp [go_sem, hi]))
    refine dGC.skip (.v (.bool true)) ?_
    (repeat (first|with_reducible refine wV fun _=>?_|simp [go_sem, hi]))
    refine ALoop.start (hrec (d - 1) (by omega) (0 + 1, out ++ [nth all 0]) ⟨by simp only; omega, by simp only [List.length_append, List.length_singleton]; omega, by simpa using i3⟩) ?_ (by simp)
    simp [go_sem, Wk_eq]
   ·have fa := fA _ (nth_mem hi)
    have hi' : i - 1 < all.length := by omega
    have e1 : ((i : Int) - 1).toNat = i - 1 := by omega
    have fb := fA _ (nth_mem hi')
    (repeat (first|with_reducible refine wV fun _=>?_|simp [go_sem, hi, h0, e1, hi']))
    refine dGC.plain _ (fun _ => R4Same_pure _ _ fa fb) (by simp [go_sem]) ?_
    (repeat (first|with_reducible refine wV fun _=>?_|simp [go_sem, hi, h0]))
    refine aIf.mkL (fun hc => ?_) (fun hc => ?_) <;> simp at hc
    ·rw [cmpP_eq] at hc
     rw [ddAt_keep hi (.inr hc)] at i3
     (repeat (first|with_reducible refine wV fun _=>?_|simp [go_sem, hi]))
     refine ALoop.start (hrec (d - 1) (by omega) (i + 1, out ++ [nth all i]) ⟨by simp only; omega, by simp; omega, by simpa using i3⟩) ?_ (by simp)
     simp [go_sem, Wk_eq]
    ·rw [cmpP_eq] at hc
     rw [ddAt_skip hi h0 hc] at i3
     (repeat (first|with_reducible refine wV fun _=>?_|simp [go_sem, hi]))
     refine ALoop.start (hrec (d - 1) (by omega) (i + 1, out) ⟨by simp only; omega, by simp only; omega, i3⟩) ?_ (by simp)
     simp [go_sem, Wk_eq]
  ·rw [ddAt_end hi] at i3
   (repeat (first|with_reducible refine wV fun _=>?_|simp [go_sem]))
   rw [i3]
   exact frX
 ·simp [hR, ddAt_zero]
 ·simp [go_sem, Wk_eq]
 ·simp
end Go.Av
end
section
/- Contracts, runs: Runs, Drops of the reference. -/
open Go Go.Proofs
namespace Go.Av
def outsF (side : Int) (l : List StD) (n : Nat) : List OutD := ((l.take n).filterMap (putS side)).foldl (fun a x => insertO x a) []
@[go_sem] theorem outsF_zero (side : Int) (l : List StD) : outsF side l 0 = [] := rfl
theorem outsF_succ (side : Int) (l : List StD) {n : Nat} (h : n < l.length) : outsF side l (n + 1) = match putS side (nth l n) with | some o => insertO o (outsF side l n) | none => outsF side l n := by
 unfold outsF
 rw [fm_take _ _ _ h, List.foldl_append]
 cases putS side (nth l n) <;> rfl
theorem insertO_le (x : OutD) : ∀ l : List OutD, (insertO x l).length ≤ l.length + 1
 | [] => by simp [insertO]
 | y :: l => by
  rw [insertO]
  split
  ·have := insertO_le x l; simp; omega
  ·split <;> simp
theorem outsF_len (side : Int) (l : List StD) : ∀ n, n ≤ l.length → (outsF side l n).length ≤ n := by
 intro n
 induction n with
 | zero => intro _; simp [outsF]
 | succ n ih =>
  intro h
  have := ih (by omega)
  rw [outsF_succ side l (by omega)]
  split
  ·rename_i o _
   have := insertO_le o (outsF side l n)
   omega
  ·omega
theorem putS_fits {g : GameD} (hg : GOk g) {s : StD} (hs : StOk g s) {side : Int} {o : OutD} (h : putS side s = some o) : FitsP o.pos := by
 have hf := hs.p.fits hg
 unfold putS at h
 split at h
 ·simp only [Option.some.injEq] at h
  subst h
  obtain ⟨a, b, c⟩ := hf
  exact ⟨by unfold Fits at *; simpa using a, b, c⟩
 ·cases h
theorem outsF_fits {g : GameD} (hg : GOk g) {side : Int} {l : List StD} (hl : ∀ s ∈ l, StOk g s) : ∀ n, n ≤ l.length → ∀ o ∈ outsF side l n, FitsP o.pos := by
 intro n
 induction n with
 | zero => intro _ o ho; simp [outsF] at ho
 | succ n ih =>
  intro h o ho
  rw [outsF_succ side l (by omega)] at ho
  cases hp : putS side (nth l n) with
  | none => rw [hp] at ho; exact ih (by omega) o ho
  | some q =>
   rw [hp] at ho
   rcases insertO_mem.1 ho with rfl | ho
   ·exact putS_fits hg (hl _ (nth_mem (by omega))) hp
   ·exact ih (by omega) o ho
theorem outsF_all (g : GameD) (p : PosD) (cell i : Int) : outsF p.side (lastS g p cell (progOf g p cell i)) (lastS g p cell (progOf g p cell i)).length = runsP g p cell i := by
 unfold outsF runsP
 rw [List.take_length, insertO_all]
theorem R5Runs_pure (g : GameD) (hg : GOk g) (p : PosD) (hp : POk g p) (cell i : Int) (hc : ChoiceOk g p cell i) :
  Pure Tryz.prog 170 [.agg (encGame g), .agg (encPos p), .v (.int .i64 cell), .v (.int .i64 i)] (.tup [encOs (runsP g p cell i), .v (.int .i64 0)]) := by
 refine pF Tryz.func170 ?_
 have hRun := R5Run_pure g hg p hp cell i hc
 have hal := hp.al
 have hat := hp.at (i := cell.toNat) (by have := hc.c0; have := hc.c1; omega)
 have hkl : (manOf (nth p.at_ cell.toNat)).1.toNat < g.kinds.length := by
  have cm := hc.man
  rcases manOf_cases hat.1 hat.2 hg.k6 with ⟨_, e⟩ | ⟨_, a, b, _⟩
  ·rw [e] at cm; simp at cm
  ·omega
 have hil : i.toNat < (nth g.kinds (manOf (nth p.at_ cell.toNat)).1.toNat).progs.length := by have := hc.i0; have := hc.i1; omega
 have hpg := hg.pr _ (nth_mem hkl) _ (nth_mem hil)
 have hpe : progOf g p cell i = nth (nth g.kinds (manOf (nth p.at_ cell.toNat)).1.toNat).progs i.toNat := rfl
 rw [← hpe] at hpg
 have hst := stageS_ok hg hp hc.c0 hc.c1 hc.man hpg.st _ (Nat.le_refl _)
 have hlen := Nat.le_trans hst.2 (pow10_le hpg.len)
 have hstR := stR_len g p cell (progOf g p cell i) ((progOf g p cell i).length + 1)
 have hnS := nth_stR g p cell (progOf g p cell i) (n := (progOf g p cell i).length + 1) (j := (progOf g p cell i).length) (by omega)
 have hal' := outsF_all g p cell i
 rw [stageS_last] at hnS hlen hst
 have hps := hp.s
 obtain ⟨m, hm⟩ : ∃ m, m = (progOf g p cell i).length := ⟨_, rfl⟩
 have hm8 := hpg.len
 rw [← hm] at hRun hstR hnS hm8
 generalize stR g p cell (progOf g p cell i) (m + 1) = sr at *
 generalize lastS g p cell (progOf g p cell i) = last at *
 obtain ⟨R, hR⟩ : ∃ R, R = runsP g p cell i := ⟨_, rfl⟩
 rw [← hR] at hal' ⊢
 (repeat (first|with_reducible refine wV fun _=>?_|simp [go_sem]))
 refine ACallP.plain hRun (by simp [go_sem]) ?_
 (repeat (first|with_reducible refine wV fun _=>?_|simp [go_sem, hstR, hnS]))
 refine ALoop.start (ALoop.ind (α := Nat) (fun k => ⟨[(5, .ref 1 0 5 0 0), (11, encOs (outsF p.side last k)), (12, encSs last), (13, .v (.int .i64 k))], [(1, .rows true 0 5 [encPos p])], 2⟩)
  (fun d k => k + d = last.length) ?_ last.length 0 ?_) ?_ ?_
 ·rintro d k k1 hrec
  (repeat (first|with_reducible refine wV fun _=>?_|simp [go_sem]))
  refine aIf.mkL (fun hk => ?_) (fun hk => ?_) <;> simp at hk
  ·have hsk := hst.1 _ (nth_mem hk)
   have hsu := outsF_succ p.side last hk
   have hol := outsF_len p.side last k (by omega)
   have hof := outsF_fits hg (fun s hs => (hst.1 s hs).1) (side := p.side) k (by omega)
   have hpf := fun o => putS_fits hg hsk.1 (side := p.side) (o := o)
   have hps' : putS p.side (nth last k) = if nth (nth last k).p.at_ (nth last k).cursor.toNat = 0 then some ⟨{ (nth last k).p with at_ := (nth last k).p.at_.set (nth last k).cursor.toNat (codeOf (nth last k).kind p.side), side := 1 - p.side }, (nth last k).took⟩ else none := rfl
   have hcp := copied_owns (nth last k).p (hsk.1.p.fits hg)
   have hal2 := hsk.1.p.al
   have hc0 := hsk.1.c0
   have hc1 := hsk.1.c1
   have hcc := R3Code_pure (nth last k).kind p.side
   have hcur : (nth last k).cursor.toNat < (nth last k).p.at_.length := by omega
   by_cases hz : nth (nth last k).p.at_ (nth last k).cursor.toNat = 0
   ·rw [if_pos hz] at hps'
    simp only [hps'] at hsu
    have hfo := hpf _ hps'
    have hIns := R5Insert_pure (outsF p.side last k) _ (by omega) hof hfo
    (repeat (first|with_reducible refine wV fun _=>?_|simp [go_sem, hk, hcur, hz]))
    refine ACallP.ownsPlain hcp (by simp [go_sem]) ?_
    (repeat (first|with_reducible refine wV fun _=>?_|simp [go_sem, hcur]))
    refine dCall.plain hcc (by simp [go_sem]) ?_
    (repeat (first|with_reducible refine wV fun _=>?_|simp [go_sem, hcur]))
    refine ACallP.pureF [5, 6, 11] hIns ?_ (by simp [go_sem]) ?_
    ·(first|done|exact agX)
    ·rw [← hsu]
     (repeat (first|with_reducible refine wV fun _=>?_|simp [go_sem]))
     refine ALoop.start (hrec (d - 1) (by omega) (k + 1) (by omega)) ?_ (by simp)
     simp [go_sem, Wk_eq, frzO, frz1, upd]
   ·rw [if_neg hz] at hps'
    simp only [hps'] at hsu
    (repeat (first|with_reducible refine wV fun _=>?_|simp [go_sem, hk, hcur, hz]))
    refine ALoop.start (hrec (d - 1) (by omega) (k + 1) (by omega)) ?_ (by simp)
    simp [go_sem, Wk_eq, hsu]
  ·have hkl : k = last.length := by omega
   subst hkl
   rw [hal']
   (repeat (first|with_reducible refine wV fun _=>?_|simp [go_sem]))
 ·omega
 ·simp [go_sem, Wk_eq]
  exact frX
 ·simp
end Go.Av
end
section
/- Contracts, runs: Drops of the reference. -/
open Go Go.Proofs
namespace Go.Av
def dropsK (g : GameD) (p : PosD) (k : Nat) : List PosD := (List.range k).flatMap fun k => (List.range p.at_.length).filterMap fun c => dropP g p k c
def dropsC (g : GameD) (p : PosD) (k c : Nat) : List PosD := dropsK g p k ++ (List.range c).filterMap fun c => dropP g p k c
theorem dropsC_all (g : GameD) (p : PosD) (k : Nat) : dropsC g p k p.at_.length = dropsK g p (k + 1) := by simp [dropsC, dropsK, List.range_succ, List.flatMap_append]
theorem dropsC_zero (g : GameD) (p : PosD) (k : Nat) : dropsC g p k 0 = dropsK g p k := by simp [dropsC]
theorem dropsC_succ (g : GameD) (p : PosD) (k c : Nat) : dropsC g p k (c + 1) = dropsC g p k c ++ (dropP g p k c).toList := by
 simp only [dropsC, List.range_succ, List.filterMap_append, List.append_assoc]
 cases h : dropP g p k c <;> simp [h]
theorem dropsK_all (g : GameD) (p : PosD) : dropsK g p g.kinds.length = dropsL g p := rfl
theorem flatMap_range_len {α : Type} (f : Nat → List α) (m : Nat) (hf : ∀ k, (f k).length ≤ m) : ∀ n, ((List.range n).flatMap f).length ≤ n * m
 | 0 => by simp
 | n + 1 => by
  have := flatMap_range_len f m hf n
  have := hf n
  simp only [List.range_succ, List.flatMap_append, List.length_append, List.flatMap_cons, List.flatMap_nil, List.append_nil, Nat.add_mul, Nat.one_mul]
  omega
theorem dropsK_len (g : GameD) (p : PosD) (k : Nat) : (dropsK g p k).length ≤ k * p.at_.length :=
 flatMap_range_len _ _ (fun k => Nat.le_trans (List.length_filterMap_le _ _) (by simp)) k
theorem dropsC_len (g : GameD) (p : PosD) (k c : Nat) : (dropsC g p k c).length ≤ k * p.at_.length + c := by
 have h1 := dropsK_len g p k
 have h2 : ((List.range c).filterMap fun c => dropP g p k c).length ≤ c := Nat.le_trans (List.length_filterMap_le _ _) (by simp)
 simp only [dropsC, List.length_append]
 omega
theorem dropP_ok {g : GameD} (hg : GOk g) {p : PosD} (hp : POk g p) {k c : Nat} (hk : k < g.kinds.length) {q : PosD} (h : dropP g p k c = some q) : POk g q ∧ q.side = 1 - p.side := by
 unfold dropP at h
 split at h
 ·cases h
 ·rename_i hc
  simp only [Option.some.injEq] at h
  subst h
  have k6 := hg.k6
  have hcode : codeOf k p.side = 1 + 2 * k + p.side := codeOf_ok (K := g.kinds.length) ⟨by omega, by omega⟩ k6 hp.s
  have hs := hp.s
  have hh := hp.hand p.side
  have hl := hh.len
  have hv := hh.v k (by omega)
  refine ⟨POk.side (POk.withHand (hp.setAt c (by rw [hcode]; omega)) _ (hh.set k ?_ ?_)) (by omega), rfl⟩
  ·simp only [not_or] at hc; omega
  ·intro _; exact hv.2.2 (by simp only [not_or] at hc; omega)
theorem R5Drops_pure (g : GameD) (hg : GOk g) (p : PosD) (hp : POk g p) : Pure Tryz.prog 95 [.agg (encGame g), .agg (encPos p)] (encPs (dropsP g p)) := by
 refine pF Tryz.func95 ?_
 have hal := hp.al
 have c9 := hg.c9
 have k6 := hg.k6
 have hcp := copied_owns p (hp.fits hg)
 obtain ⟨gk, hgk⟩ : ∃ gk, gk = g.kinds.length := ⟨_, rfl⟩
 have hl0 := hp.h0.len
 have hl1 := hp.h1.len
 (repeat (first|with_reducible refine wV fun _=>?_|simp [go_sem]))
 refine ALoop.start (ALoop.ind (α := Nat) (fun k => ⟨[(2, .ref 0 0 9 0 0), (3, .ref 1 0 5 0 0), (5, .sl 2 (dropsK g p k).length 5 0 (dropsK g p k).length), (6, .v (.int .i64 k))], [(0, .rows true 0 9 [encGame g]), (1, .rows true 0 5 [encPos p]), (2, .rows true (dropsK g p k).length 5 ((dropsK g p k).map encPos))], 3⟩)
  (fun d k => k + d = g.kinds.length) ?_ g.kinds.length 0 ?_) ?_ ?_
 ·rintro d k k1 hrec
  (repeat (first|with_reducible refine wV fun _=>?_|simp [go_sem]))
  refine aIf.mkL (fun hk => ?_) (fun hk => ?_) <;> simp at hk
  ·have hz := dropsC_zero g p k
   have ha := dropsC_all g p k
   (repeat (first|with_reducible refine wV fun _=>?_|simp [go_sem]))
   refine ALoop.start (ALoop.ind (α := Nat) (fun c => ⟨[(2, .ref 0 0 9 0 0), (3, .ref 1 0 5 0 0), (5, .sl 2 (dropsC g p k c).length 5 0 (dropsC g p k c).length), (6, .v (.int .i64 k)), (7, .v (.int .i64 c))], [(0, .rows true 0 9 [encGame g]), (1, .rows true 0 5 [encPos p]), (2, .rows true (dropsC g p k c).length 5 ((dropsC g p k c).map encPos))], 3⟩)
    (fun d c => c + d = p.at_.length) ?_ p.at_.length 0 ?_) ?_ ?_
   ·rintro d2 c c1 hrec2
    (repeat (first|with_reducible refine wV fun _=>?_|simp [go_sem]))
    refine aIf.mkL (fun hci => ?_) (fun hci => ?_) <;> simp at hci
    ·have hD : dropP g p k c = if nth (p.hand p.side) k = 0 ∨ nth p.at_ c ≠ 0 then none
      else some { ({ p with at_ := p.at_.set c (codeOf k p.side) }.withHand p.side ((p.hand p.side).set k (nth (p.hand p.side) k - 1))) with side := 1 - p.side } := rfl
     rcases hp.s with hsd | hsd
     ·have hsn : p.side.toNat = 0 := by omega
      have hkh : k < p.h0.length := by omega
      have hhv := hp.h0.v k hkh
      have hD' : dropP g p k c = if nth p.h0 k = 0 ∨ nth p.at_ c ≠ 0 then none else some { p with at_ := p.at_.set c (codeOf k p.side), h0 := p.h0.set k (nth p.h0 k - 1), side := 1 - p.side } := by
       rw [hD]; simp [PosD.hand, PosD.withHand, hsd]
      (repeat (first|with_reducible refine wV fun _=>?_|simp [go_sem, hsn, hkh, hci]))
      refine aIf.mkL (fun hcc => ?_) (fun hcc => ?_) <;> simp at hcc
      ·rw [if_pos (by omega)] at hD'
       have hsu := dropsC_succ g p k c
       rw [hD'] at hsu
       simp only [Option.toList_none, List.append_nil] at hsu
       (repeat (first|with_reducible refine wV fun _=>?_|simp [go_sem]))
       refine ALoop.start (hrec2 (d2 - 1) (by omega) (c + 1) (by omega)) ?_ (by simp)
       simp [go_sem, Wk_eq, hsu]
      ·rw [if_neg (by omega)] at hD'
       have hsu := dropsC_succ g p k c
       rw [hD'] at hsu
       simp only [Option.toList_some] at hsu
       have hcl := dropsC_len g p k c
       have hkm : k * p.at_.length ≤ 6 * 9 := Nat.mul_le_mul (by omega) (by omega)
       (repeat (first|with_reducible refine wV fun _=>?_|simp [go_sem, hci]))
       refine ACallP.ownsPlain hcp (by simp [go_sem]) ?_
       (repeat (first|with_reducible refine wV fun _=>?_|simp [go_sem, hci]))
       refine dCall.plain (R3Code_pure (k : Int) p.side) (by simp [go_sem]) ?_
       (repeat (first|with_reducible refine wV fun _=>?_|simp [go_sem, hsn, hci, hkh]))
       refine ALoop.start (hrec2 (d2 - 1) (by omega) (c + 1) (by omega)) ?_ (by simp)
       simp [go_sem, Wk_eq, hsu]
       (first|done|exact rwX)
     ·have hsn : p.side.toNat = 1 := by omega
      have hkh : k < p.h1.length := by omega
      have hhv := hp.h1.v k hkh
      have hD' : dropP g p k c = if nth p.h1 k = 0 ∨ nth p.at_ c ≠ 0 then none else some { p with at_ := p.at_.set c (codeOf k p.side), h1 := p.h1.set k (nth p.h1 k - 1), side := 1 - p.side } := by
       rw [hD]; simp [PosD.hand, PosD.withHand, hsd]
      (repeat (first|with_reducible refine wV fun _=>?_|simp [go_sem, hsn, hkh, hci]))
      refine aIf.mkL (fun hcc => ?_) (fun hcc => ?_) <;> simp at hcc
      ·rw [if_pos (by omega)] at hD'
       have hsu := dropsC_succ g p k c
       rw [hD'] at hsu
       simp only [Option.toList_none, List.append_nil] at hsu
       (repeat (first|with_reducible refine wV fun _=>?_|simp [go_sem]))
       refine ALoop.start (hrec2 (d2 - 1) (by omega) (c + 1) (by omega)) ?_ (by simp)
       simp [go_sem, Wk_eq, hsu]
      ·rw [if_neg (by omega)] at hD'
       have hsu := dropsC_succ g p k c
       rw [hD'] at hsu
       simp only [Option.toList_some] at hsu
       have hcl := dropsC_len g p k c
       have hkm : k * p.at_.length ≤ 6 * 9 := Nat.mul_le_mul (by omega) (by omega)
       (repeat (first|with_reducible refine wV fun _=>?_|simp [go_sem, hci]))
       refine ACallP.ownsPlain hcp (by simp [go_sem]) ?_
       (repeat (first|with_reducible refine wV fun _=>?_|simp [go_sem, hci]))
       refine dCall.plain (R3Code_pure (k : Int) p.side) (by simp [go_sem]) ?_
       (repeat (first|with_reducible refine wV fun _=>?_|simp [go_sem, hsn, hci, hkh]))
       refine ALoop.start (hrec2 (d2 - 1) (by omega) (c + 1) (by omega)) ?_ (by simp)
       simp [go_sem, Wk_eq, hsu]
       (first|done|exact rwX)
    ·have hcl : c = p.at_.length := by omega
     subst hcl
     rw [ha]
     (repeat (first|with_reducible refine wV fun _=>?_|simp [go_sem]))
     refine ALoop.start (hrec (d - 1) (by omega) (k + 1) (by omega)) ?_ (by simp)
     simp [go_sem, Wk_eq]
   ·omega
   ·simp [go_sem, Wk_eq, hz]
   ·simp
  ·have hkl : k = g.kinds.length := by omega
   subst hkl
   have hdl := dropsK_len g p g.kinds.length
   have hkm : g.kinds.length * p.at_.length ≤ 6 * 9 := Nat.mul_le_mul k6 (by omega)
   have hS := R4Sort_pure (dropsK g p g.kinds.length) (by omega) (fun q hq => by
    rw [dropsK_all] at hq
    obtain ⟨k, hk, hq⟩ := List.mem_flatMap.1 hq
    obtain ⟨c, hc, hq⟩ := List.mem_filterMap.1 hq
    exact (dropP_ok hg hp (by simpa using hk) hq).1.fits hg)
   rw [show sortU cmpP (dropsK g p g.kinds.length) = dropsP g p from rfl] at hS
   generalize dropsK g p g.kinds.length = l at *
   generalize dropsP g p = r at *
   (repeat (first|with_reducible refine wV fun _=>?_|simp [go_sem]))
   refine ACallP.pureF [2] hS ?_ (bel1 (bel_encPs _)) ?_
   ·(first|done|exact agX)
   ·(repeat (first|with_reducible refine wV fun _=>?_|simp [go_sem]))
 ·omega
 ·simp [go_sem, Wk_eq, show dropsK g p 0 = [] from rfl]
 ·simp
end Go.Av
end
section
/- Plain: outcomes and moves are valid. -/
open Go Go.Proofs
namespace Go.Av
theorem kind_lt {g : GameD} (hg : GOk g) {p : PosD} (hp : POk g p) {cell : Int} (h0 : 0 ≤ cell) (h1 : cell < g.cells) (hm : 0 ≤ (manOf (nth p.at_ cell.toNat)).1) :
  (manOf (nth p.at_ cell.toNat)).1.toNat < g.kinds.length := by
 have hat := hp.at (i := cell.toNat) (by omega)
 rcases manOf_cases hat.1 hat.2 hg.k6 with ⟨_, e⟩ | ⟨_, a, b, _⟩
 ·rw [e] at hm; simp at hm
 ·omega
theorem prog_ok {g : GameD} (hg : GOk g) {p : PosD} (hp : POk g p) {cell i : Int} (hc : ChoiceOk g p cell i) : ProgOk g.next.length g.kinds.length g.rights (progOf g p cell i) :=
 hg.pr _ (nth_mem (kind_lt hg hp hc.c0 hc.c1 hc.man)) _ (nth_mem (by have := hc.i0; have := hc.i1; omega))
theorem lastS_ok {g : GameD} (hg : GOk g) {p : PosD} (hp : POk g p) {cell i : Int} (hc : ChoiceOk g p cell i) :
  (∀ s ∈ lastS g p cell (progOf g p cell i), StOk g s ∧ s.p.side = p.side) ∧ (lastS g p cell (progOf g p cell i)).length ≤ 100000000 := by
 have hpg := prog_ok hg hp hc
 have h := stageS_ok hg hp hc.c0 hc.c1 hc.man hpg.st _ (Nat.le_refl _)
 rw [stageS_last] at h
 exact ⟨h.1, Nat.le_trans h.2 (pow10_le hpg.len)⟩
theorem putS_ok {g : GameD} (hg : GOk g) {s : StD} (hs : StOk g s) {side : Int} (hsd : side = 0 ∨ side = 1) {o : OutD} (h : putS side s = some o) : POk g o.pos ∧ o.pos.side = 1 - side := by
 unfold putS at h
 split at h
 ·simp only [Option.some.injEq] at h
  subst h
  have hc : codeOf s.kind side = 1 + 2 * s.kind + side := codeOf_ok (K := g.kinds.length) hs.k hg.k6 hsd
  have hk := hs.k
  exact ⟨POk.side (hs.p.setAt _ (by rw [hc]; omega)) (by omega), rfl⟩
 ·cases h
theorem runsP_ok {g : GameD} (hg : GOk g) {p : PosD} (hp : POk g p) {cell i : Int} (hc : ChoiceOk g p cell i) : ∀ o ∈ runsP g p cell i, POk g o.pos ∧ o.pos.side = 1 - p.side := by
 intro o ho
 unfold runsP at ho
 rw [sortU_mem] at ho
 obtain ⟨s, hs, h⟩ := List.mem_filterMap.1 ho
 exact putS_ok hg ((lastS_ok hg hp hc).1 s hs).1 hp.s h
theorem runsP_len {g : GameD} (hg : GOk g) {p : PosD} (hp : POk g p) {cell i : Int} (hc : ChoiceOk g p cell i) : (runsP g p cell i).length ≤ 100000000 := by
 unfold runsP
 have h1 := sortU_le cmpO ((lastS g p cell (progOf g p cell i)).filterMap (putS p.side))
 have h2 : ((lastS g p cell (progOf g p cell i)).filterMap (putS p.side)).length ≤ (lastS g p cell (progOf g p cell i)).length := List.length_filterMap_le _ _
 have h3 := (lastS_ok hg hp hc).2
 omega
theorem choice_of {g : GameD} {p : PosD} {c i : Nat} (hp : POk g p) (hc : c < p.at_.length) (hm : 0 ≤ (manOf (nth p.at_ c)).1 ∧ (manOf (nth p.at_ c)).2 = p.side)
  (hi : i < (nth g.kinds (manOf (nth p.at_ c)).1.toNat).progs.length) : ChoiceOk g p c i := by
 have := hp.al
 exact ⟨by omega, by omega, hm.1, hm.2, by omega, by simp only [Int.toNat_natCast]; omega⟩
theorem mem_outsP {g : GameD} {p : PosD} (hp : POk g p) {o : OutD} : o ∈ outsP g p ↔ ∃ c i : Nat, ChoiceOk g p c i ∧ o ∈ runsP g p c i := by
 have hal := hp.al
 unfold outsP
 rw [List.mem_flatMap]
 constructor
 ·rintro ⟨c, hc, ho⟩
  rw [List.mem_range] at hc
  unfold outsAt at ho
  split at ho
  ·rename_i hm
   obtain ⟨i, hi, ho⟩ := List.mem_flatMap.1 ho
   rw [List.mem_range] at hi
   exact ⟨c, i, choice_of hp hc hm hi, ho⟩
  ·simp at ho
 ·rintro ⟨c, i, hc, ho⟩
  refine ⟨c, ?_, ?_⟩
  ·have := hc.c1; rw [List.mem_range]; omega
  ·have h1 := hc.man
   have h2 := hc.side
   have h3 := hc.i1
   simp only [Int.toNat_natCast] at h1 h2 h3
   unfold outsAt
   rw [if_pos ⟨h1, h2⟩]
   exact List.mem_flatMap.2 ⟨i, by rw [List.mem_range]; omega, ho⟩
theorem outsP_ok {g : GameD} (hg : GOk g) {p : PosD} (hp : POk g p) : ∀ o ∈ outsP g p, POk g o.pos ∧ o.pos.side = 1 - p.side := by
 intro o ho
 obtain ⟨c, i, hc, ho⟩ := (mem_outsP hp).1 ho
 exact runsP_ok hg hp hc o ho
theorem flatMap_range_le {α : Type} (f : Nat → List α) (m : Nat) : ∀ n, (∀ k, k < n → (f k).length ≤ m) → ((List.range n).flatMap f).length ≤ n * m
 | 0, _ => by simp
 | n + 1, hf => by
  have := flatMap_range_le f m n (fun k hk => hf k (by omega))
  have := hf n (by omega)
  simp only [List.range_succ, List.flatMap_append, List.length_append, List.flatMap_cons, List.flatMap_nil, List.append_nil, Nat.add_mul, Nat.one_mul]
  omega
theorem outsAt_len {g : GameD} (hg : GOk g) {p : PosD} (hp : POk g p) {c : Nat} (hc : c < p.at_.length) : (outsAt g p c).length ≤ 800000000 := by
 unfold outsAt
 split
 ·rename_i hm
  have hal := hp.al
  have hk := kind_lt hg hp (cell := c) (by omega) (by omega) (by simpa using hm.1)
  simp only [Int.toNat_natCast] at hk
  have h8 := hg.pn _ (nth_mem hk)
  have h1 := flatMap_range_le (fun (i : Nat) => runsP g p c i) 100000000 (nth g.kinds (manOf (nth p.at_ c)).1.toNat).progs.length (fun i hi => runsP_len hg hp (choice_of hp hc hm hi))
  have h2 : (nth g.kinds (manOf (nth p.at_ c)).1.toNat).progs.length * 100000000 ≤ 8 * 100000000 := Nat.mul_le_mul_right _ h8
  omega
 ·simp
theorem outsK_len {g : GameD} (hg : GOk g) {p : PosD} (hp : POk g p) {k : Nat} (hk : k ≤ p.at_.length) : ((List.range k).flatMap (outsAt g p)).length ≤ 7200000000 := by
 have hal := hp.al
 have c9 := hg.c9
 have h1 := flatMap_range_le (outsAt g p) 800000000 k (fun c hc => outsAt_len hg hp (by omega))
 have h2 : k * 800000000 ≤ 9 * 800000000 := Nat.mul_le_mul_right _ (by omega)
 omega
theorem outsP_len {g : GameD} (hg : GOk g) {p : PosD} (hp : POk g p) : (outsP g p).length ≤ 7200000000 := outsK_len hg hp (Nat.le_refl _)
theorem dropsP_ok {g : GameD} (hg : GOk g) {p : PosD} (hp : POk g p) : ∀ q ∈ dropsP g p, POk g q ∧ q.side = 1 - p.side := by
 intro q hq
 unfold dropsP at hq
 rw [sortU_mem] at hq
 obtain ⟨k, hk, hq⟩ := List.mem_flatMap.1 hq
 obtain ⟨c, hc, hq⟩ := List.mem_filterMap.1 hq
 exact dropP_ok hg hp (by simpa using hk) hq
theorem dropsP_len {g : GameD} (hg : GOk g) {p : PosD} (hp : POk g p) : (dropsP g p).length ≤ 54 := by
 have h1 := sortU_le cmpP (dropsL g p)
 have h2 := dropsK_len g p g.kinds.length
 rw [dropsK_all] at h2
 have hal := hp.al
 have c9 := hg.c9
 have h3 : g.kinds.length * p.at_.length ≤ 6 * 9 := Nat.mul_le_mul hg.k6 (by omega)
 unfold dropsP
 omega
theorem movesL_ok {g : GameD} (hg : GOk g) {p : PosD} (hp : POk g p) : ∀ q ∈ movesL g p, POk g q ∧ q.side = 1 - p.side := by
 intro q hq
 unfold movesL at hq
 rcases List.mem_append.1 hq with hq | hq
 ·obtain ⟨o, ho, rfl⟩ := List.mem_map.1 hq
  exact outsP_ok hg hp o (List.mem_filter.1 ho).1
 ·split at hq
  ·simp at hq
  ·exact dropsP_ok hg hp q hq
theorem movesL_len {g : GameD} (hg : GOk g) {p : PosD} (hp : POk g p) : (movesL g p).length ≤ 7200000054 := by
 have h1 := outsP_len hg hp
 have h2 := dropsP_len hg hp
 have h3 : ((outsP g p).filter fun o => !mustP g p || o.took).length ≤ (outsP g p).length := List.length_filter_le _ _
 unfold movesL
 rw [List.length_append, List.length_map]
 split <;> simp <;> omega
theorem movesP_ok {g : GameD} (hg : GOk g) {p : PosD} (hp : POk g p) : ∀ q ∈ movesP g p, POk g q ∧ q.side = 1 - p.side := by
 intro q hq
 unfold movesP at hq
 split at hq
 ·simp at hq
 ·exact movesL_ok hg hp q (sortU_mem.1 hq)
theorem movesP_len {g : GameD} (hg : GOk g) {p : PosD} (hp : POk g p) : (movesP g p).length ≤ 7200000054 := by
 unfold movesP
 split
 ·simp
 ·exact Nat.le_trans (sortU_le _ _) (movesL_len hg hp)
theorem walkP_ok {g : GameD} (hg : GOk g) : ∀ (l : List Int) {p : PosD}, POk g p → ∀ q ∈ walkP g p l, POk g q
 | [], p, hp, q, hq => by simp [walkP] at hq; subst hq; exact hp
 | k :: l, p, hp, q, hq => by
  rw [walkP] at hq
  split at hq
  ·simp at hq; subst hq; exact hp
  ·rename_i hne
   rcases List.mem_cons.1 hq with rfl | hq
   ·exact hp
   ·refine walkP_ok hg l ((movesP_ok hg hp) _ (nth_mem ?_)).1 q hq
    have hpos : 0 < (movesP g p).length := List.length_pos_iff.2 hne
    have h1 : 0 ≤ k.emod (movesP g p).length := Int.emod_nonneg k (show ((movesP g p).length : Int) ≠ 0 by omega)
    have h2 : k.emod (movesP g p).length < (movesP g p).length := Int.emod_lt_of_pos k (show (0 : Int) < (movesP g p).length by omega)
    omega
theorem walkP_ne (g : GameD) (p : PosD) (l : List Int) : walkP g p l ≠ [] := by
 cases l with
 | nil => simp [walkP]
 | cons k l => rw [walkP]; split <;> simp
theorem walkP_len (g : GameD) : ∀ (l : List Int) (p : PosD), (walkP g p l).length ≤ l.length + 1
 | [], p => by simp [walkP]
 | k :: l, p => by
  rw [walkP]
  split
  ·simp
  ·have := walkP_len g l (nth (movesP g p) (k.emod (movesP g p).length).toNat)
   simp; omega
end Go.Av
end
section
/- Contracts, moves: men, Condition, Ended of the reference. -/
open Go Go.Proofs
namespace Go.Av
theorem countP_take (f : Int → Bool) (l : List Int) {i : Nat} (h : i < l.length) : (l.take (i + 1)).countP f = (l.take i).countP f + (if f (nth l i) then 1 else 0) := by
 rw [List.take_add_one, List.getElem?_eq_getElem h, nth_eq _ _ h, Option.toList_some, List.countP_append]
 simp [List.countP_cons]
theorem R6men_pure (p : PosD) (hp : FitsP p) (side kind : Int) : Pure Tryz.prog 209 [.agg (encPos p), .v (.int .i64 side), .v (.int .i64 kind)] (.v (.int .i64 (menP p side kind))) := by
 refine pF Tryz.func209 ?_
 obtain ⟨f1, _, _⟩ := hp
 unfold Fits at f1
 (repeat (first|with_reducible refine wV fun _=>?_|simp [go_sem]))
 refine ALoop.start (ALoop.ind (α := Nat) (fun i => ⟨[(1, .v (.int .i64 side)), (2, .v (.int .i64 kind)), (3, .ref 0 0 5 0 0), (7, .v (.int .i64 ((p.at_.take i).countP (isMan p side kind) : Nat))), (8, .v (.int .i64 i))], [(0, .rows true 0 5 [encPos p])], 1⟩)
  (fun d i => i + d = p.at_.length) ?_ p.at_.length 0 ?_) ?_ ?_
 ·rintro d i i1 hrec
  (repeat (first|with_reducible refine wV fun _=>?_|simp [go_sem]))
  refine aIf.mkL (fun hi => ?_) (fun hi => ?_) <;> simp at hi
  ·have hO := R3Of_pure (nth p.at_ i)
   have hcs := countP_take (isMan p side kind) p.at_ hi
   have hle : (p.at_.take i).countP (isMan p side kind) ≤ i := Nat.le_trans List.countP_le_length (by simp; omega)
   have hM : isMan p side kind (nth p.at_ i) = (decide (0 ≤ (manOf (nth p.at_ i)).1) && decide ((manOf (nth p.at_ i)).2 = side) && (decide (kind < 0) || decide ((manOf (nth p.at_ i)).1 = kind))) := rfl
   generalize manOf (nth p.at_ i) = m at *
   (repeat (first|with_reducible refine wV fun _=>?_|simp [go_sem, hi]))
   refine ACallP.plain hO (by simp [go_sem]) ?_
   (repeat (first|with_reducible refine wV fun _=>?_|simp [go_sem]))
   by_cases hm : isMan p side kind (nth p.at_ i) = true
   ·have hm' := hm
    rw [hM] at hm'
    rw [if_pos hm] at hcs
    simp only [hm']
    (repeat (first|with_reducible refine wV fun _=>?_|simp [go_sem]))
    refine ALoop.start (hrec (d - 1) (by omega) (i + 1) (by omega)) ?_ (by simp)
    simp [go_sem, Wk_eq, hcs]
   ·have hm' := hm
    rw [hM] at hm'
    rw [if_neg hm] at hcs
    simp only [Bool.not_eq_true] at hm'
    simp only [hm']
    (repeat (first|with_reducible refine wV fun _=>?_|simp [go_sem]))
    refine ALoop.start (hrec (d - 1) (by omega) (i + 1) (by omega)) ?_ (by simp)
    simp [go_sem, Wk_eq, hcs]
  ·have hil : i = p.at_.length := by omega
   subst hil
   have hM : menP p side kind = (p.at_.take p.at_.length).countP (isMan p side kind) := by rw [List.take_length]; rfl
   rw [hM]
   (repeat (first|with_reducible refine wV fun _=>?_|simp [go_sem]))
 ·omega
 ·simp [go_sem, Wk_eq]
 ·simp
theorem R6Condition_pure (g : GameD) (hg : GOk g) (p : PosD) (hp : POk g p) (c : Int × Int × Int × Int) (hc : ClauseOk g.cells g.kinds.length c) :
  Pure Tryz.prog 169 [.agg (encClause c), .agg (encPos p)] (.v (.bool (condP c p))) := by
 refine pF Tryz.func169 ?_
 have hps := hp.s
 have hal := hp.al
 have hM := fun s k => R6men_pure p (hp.fits hg) s k
 have hml : ∀ s k, menP p s k ≤ 9 := fun s k => Nat.le_trans List.countP_le_length (by have := hg.c9; omega)
 obtain ⟨c0, c1, c2, c3⟩ := c
 obtain ⟨k1, k2, k3, k4, k5⟩ := hc
 simp only at k1 k2 k3 k4 k5
 unfold condP
 rcases k1 with rfl | rfl | rfl
 ·have h1 := hM p.side c1
  (repeat (first|with_reducible refine wV fun _=>?_|simp [go_sem]))
  refine ACallP.plain h1 (by simp [go_sem]) ?_
  (repeat (first|with_reducible refine wV fun _=>?_|simp [go_sem]))
 ·have hci : c2.toNat < p.at_.length := by omega
  (repeat (first|with_reducible refine wV fun _=>?_|simp [go_sem, hci]))
  refine dCall.plain (R3Code_pure c1 (1 - p.side)) (by simp [go_sem]) ?_
  (repeat (first|with_reducible refine wV fun _=>?_|simp [go_sem, hci]))
 ·have h1 := hM p.side (-1)
  have := hml p.side (-1)
  (repeat (first|with_reducible refine wV fun _=>?_|simp [go_sem]))
  refine dCall.plain h1 (by simp [go_sem]) ?_
  (repeat (first|with_reducible refine wV fun _=>?_|simp [go_sem]))
theorem findIdx_some {α : Type} [Inhabited α] (f : α → Bool) (l : List α) {i : Nat} (hi : i < l.length) (hb : ∀ j, j < i → f (nth l j) = false) (h : f (nth l i) = true) : l.findIdx? f = some i := by
 rw [List.findIdx?_eq_some_iff_getElem]
 refine ⟨hi, by rw [← nth_eq _ _ hi]; exact h, fun j hj => ?_⟩
 have := hb j hj
 rw [nth_eq _ _ (by omega)] at this
 simp [this]
theorem findIdx_none {α : Type} [Inhabited α] (f : α → Bool) (l : List α) (hb : ∀ j, j < l.length → f (nth l j) = false) : l.findIdx? f = none := by
 rw [List.findIdx?_eq_none_iff]
 intro x hx
 obtain ⟨j, hj, rfl⟩ := List.getElem_of_mem hx
 have := hb j hj
 rwa [nth_eq _ _ hj] at this
theorem R6Ended_pure (g : GameD) (hg : GOk g) (p : PosD) (hp : POk g p) : Pure Tryz.prog 93 [.agg (encGame g), .agg (encPos p)] (.v (.int .i64 (endedP g p))) := by
 refine pF Tryz.func93 ?_
 have hcn := hg.cn
 (repeat (first|with_reducible refine wV fun _=>?_|simp [go_sem]))
 refine ALoop.start (ALoop.ind (α := Nat) (fun i => ⟨[(2, .ref 0 0 9 0 0), (3, .ref 1 0 5 0 0), (5, .v (.int .i64 i))], [(0, .rows true 0 9 [encGame g]), (1, .rows true 0 5 [encPos p])], 2⟩)
  (fun d i => i + d = g.clauses.length ∧ ∀ j, j < i → condP (nth g.clauses j) p = false) ?_ g.clauses.length 0 ?_) ?_ ?_
 ·rintro d i ⟨i1, i2⟩ hrec
  (repeat (first|with_reducible refine wV fun _=>?_|simp [go_sem]))
  refine aIf.mkL (fun hi => ?_) (fun hi => ?_) <;> simp at hi
  ·have hC := R6Condition_pure g hg p hp _ (hg.cl _ (nth_mem hi))
   (repeat (first|with_reducible refine wV fun _=>?_|simp [go_sem, hi]))
   refine dCall.plain hC (by simp [go_sem]) ?_
   (repeat (first|with_reducible refine wV fun _=>?_|simp [go_sem]))
   by_cases hc : condP (nth g.clauses i) p = true
   ·have he : endedP g p = i := by unfold endedP; rw [findIdx_some (fun c => condP c p) g.clauses hi i2 hc]
    (repeat (first|with_reducible refine wV fun _=>?_|simp [go_sem, hc, he]))
   ·(repeat (first|with_reducible refine wV fun _=>?_|simp [go_sem, hc]))
    refine ALoop.start (hrec (d - 1) (by omega) (i + 1) ⟨by omega, fun j hj => ?_⟩) ?_ (by simp)
    ·rcases Nat.lt_or_ge j i with h | h
     ·exact i2 j h
     ·obtain rfl : j = i := by omega
      simpa using hc
    ·simp [go_sem, Wk_eq]
  ·have he : endedP g p = -1 := by unfold endedP; rw [findIdx_none (fun c => condP c p) g.clauses (fun j hj => i2 j (by omega))]
   (repeat (first|with_reducible refine wV fun _=>?_|simp [go_sem, he]))
 ·exact ⟨by simp, fun j hj => by omega⟩
 ·simp [go_sem, Wk_eq]
 ·simp
end Go.Av
end
section
/- Contracts, moves: Outcomes, Moves of the reference. -/
open Go Go.Proofs
namespace Go.Av
def outsK (g : GameD) (p : PosD) (c : Nat) : List OutD := (List.range c).flatMap (outsAt g p)
theorem outsK_succ (g : GameD) (p : PosD) (c : Nat) : outsK g p (c + 1) = outsK g p c ++ outsAt g p c := by simp [outsK, List.range_succ, List.flatMap_append]
theorem outsK_zero (g : GameD) (p : PosD) : outsK g p 0 = [] := rfl
def outsI (g : GameD) (p : PosD) (c i : Nat) : List OutD := outsK g p c ++ (List.range i).flatMap fun (i : Nat) => runsP g p c i
theorem outsI_zero (g : GameD) (p : PosD) (c : Nat) : outsI g p c 0 = outsK g p c := by simp [outsI]
theorem outsI_succ (g : GameD) (p : PosD) (c i : Nat) : outsI g p c (i + 1) = outsI g p c i ++ runsP g p c i := by simp [outsI, List.range_succ, List.flatMap_append]
theorem R6Outcomes_pure (g : GameD) (hg : GOk g) (p : PosD) (hp : POk g p) : Pure Tryz.prog 94 [.agg (encGame g), .agg (encPos p)] (encOs (outsP g p)) := by
 refine pF Tryz.func94 ?_
 have hal := hp.al
 have c9 := hg.c9
 have k6 := hg.k6
 have hU : ∀ c i, c < p.at_.length → 0 ≤ (manOf (nth p.at_ c)).1 ∧ (manOf (nth p.at_ c)).2 = p.side → i ≤ (nth g.kinds (manOf (nth p.at_ c)).1.toNat).progs.length → (outsI g p c i).length ≤ 8000000000 := fun c i hc hm hi => by
  have h1 : (outsK g p c).length ≤ 7200000000 := outsK_len hg hp (by omega)
  have hk := kind_lt hg hp (cell := c) (by omega) (by omega) (by simpa using hm.1)
  simp only [Int.toNat_natCast] at hk
  have h8 := hg.pn _ (nth_mem hk)
  have h2 := flatMap_range_le (fun (i : Nat) => runsP g p c i) 100000000 i (fun j hj => runsP_len hg hp (choice_of hp hc hm (by omega)))
  have h3 : i * 100000000 ≤ 8 * 100000000 := Nat.mul_le_mul_right _ (by omega)
  simp only [outsI, List.length_append]
  omega
 (repeat (first|with_reducible refine wV fun _=>?_|simp [go_sem]))
 refine ALoop.start (ALoop.ind (α := Nat × Nat) (fun a => ⟨[(2, .ref 0 0 9 0 0), (3, .ref 1 0 5 0 0), (5, .sl 2 a.2 6 0 (outsK g p a.1).length), (6, .v (.int .i64 a.1))], [(0, .rows true 0 9 [encGame g]), (1, .rows true 0 5 [encPos p]), (2, .rows true a.2 6 ((outsK g p a.1).map encOut))], 3⟩)
  (fun d a => a.1 + d = p.at_.length) ?_ p.at_.length (0, 0) ?_) ?_ ?_
 ·rintro d ⟨c, G⟩ c1 hrec
  simp only at c1
  (repeat (first|with_reducible refine wV fun _=>?_|simp [go_sem]))
  refine aIf.mkL (fun hc => ?_) (fun hc => ?_) <;> simp at hc
  ·have hO := R3Of_pure (nth p.at_ c)
   have hsu := outsK_succ g p c
   have hat := hp.at (i := c) (by omega)
   have hman := manOf_cases hat.1 hat.2 hg.k6
   have hAt : outsAt g p c = if 0 ≤ (manOf (nth p.at_ c)).1 ∧ (manOf (nth p.at_ c)).2 = p.side then (List.range (nth g.kinds (manOf (nth p.at_ c)).1.toNat).progs.length).flatMap fun (i : Nat) => runsP g p c i else [] := rfl
   have hU' := fun i => hU c i hc
   have hCh := fun i => choice_of (g := g) (i := i) hp hc
   generalize manOf (nth p.at_ c) = m at *
   obtain ⟨mk, ms⟩ := m
   simp only [Prod.mk.injEq] at hman hAt hU' hCh
   (repeat (first|with_reducible refine wV fun _=>?_|simp [go_sem, hc]))
   refine ACallP.plain hO (by simp [go_sem]) ?_
   (repeat (first|with_reducible refine wV fun _=>?_|simp [go_sem]))
   refine aIf.mkL (fun hm => ?_) (fun hm => ?_) <;> simp at hm
   ·rw [if_neg (by omega)] at hAt
    rw [hAt, List.append_nil] at hsu
    (repeat (first|with_reducible refine wV fun _=>?_|simp [go_sem]))
    refine ALoop.start (hrec (d - 1) (by omega) (c + 1, G) (by simp only; omega)) ?_ (by simp)
    simp [go_sem, Wk_eq, hsu]
   ·have hm' : 0 ≤ mk ∧ ms = p.side := by omega
    rw [if_pos hm'] at hAt
    have hkl : mk.toNat < g.kinds.length := by omega
    have hpn := hg.pn _ (nth_mem hkl)
    have hz := outsI_zero g p c
    (repeat (first|with_reducible refine wV fun _=>?_|simp [go_sem]))
    refine ALoop.start (ALoop.ind (α := Nat × Nat) (fun a => ⟨[(2, .ref 0 0 9 0 0), (3, .ref 1 0 5 0 0), (5, .sl 2 a.2 6 0 (outsI g p c a.1).length), (6, .v (.int .i64 c)), (7, .ref 3 0 2 0 0), (8, .v (.int .i64 a.1))],
      [(0, .rows true 0 9 [encGame g]), (1, .rows true 0 5 [encPos p]), (2, .rows true a.2 6 ((outsI g p c a.1).map encOut)), (3, .rows true 0 2 [[.v (.int .i64 mk), .v (.int .i64 ms)]])], 4⟩)
     (fun d a => a.1 + d = (nth g.kinds mk.toNat).progs.length) ?_ (nth g.kinds mk.toNat).progs.length (0, G) ?_) ?_ ?_
    ·rintro d2 ⟨i, G'⟩ i1 hrec2
     simp only at i1
     (repeat (first|with_reducible refine wV fun _=>?_|simp [go_sem, hkl]))
     refine aIf.mkL (fun hi => ?_) (fun hi => ?_) <;> simp at hi
     ·have hR := R5Runs_pure g hg p hp c i (hCh i hm' hi)
      have hsi := outsI_succ g p c i
      have hUi := hU' i hm' (by omega)
      have hUj := hU' (i + 1) hm' (by omega)
      rw [hsi, List.length_append] at hUj
      (repeat (first|with_reducible refine wV fun _=>?_|simp [go_sem]))
      refine ACallP.plain hR (by simp [go_sem]) ?_
      (repeat (first|with_reducible refine wV fun _=>?_|simp [go_sem]))
      refine ALoop.start (hrec2 (d2 - 1) (by omega) (i + 1, G' + 1) (by simp only; omega)) ?_ (by simp)
      simp [go_sem, Wk_eq, hsi]
     ·have hil : i = (nth g.kinds mk.toNat).progs.length := by omega
      subst hil
      have hfin : outsI g p c (nth g.kinds mk.toNat).progs.length = outsK g p (c + 1) := by rw [hsu, hAt]; rfl
      rw [hfin]
      (repeat (first|with_reducible refine wV fun _=>?_|simp [go_sem]))
      refine ALoop.start (hrec (d - 1) (by omega) (c + 1, G') (by simp only; omega)) ?_ (by simp)
      simp [go_sem, Wk_eq]
    ·simp
    ·simp [go_sem, Wk_eq, hz]
    ·simp
  ·have hcl : c = p.at_.length := by omega
   subst hcl
   have e : outsP g p = outsK g p p.at_.length := rfl
   rw [e]
   (repeat (first|with_reducible refine wV fun _=>?_|simp [go_sem]))
   exact frX
 ·simp
 ·simp [go_sem, Wk_eq, outsK_zero]
 ·simp
end Go.Av
end
section
/- Contracts, moves: Moves of the reference. -/
open Go Go.Proofs
namespace Go.Av
def mustK (gm : Bool) (l : List OutD) (i : Nat) : Bool := gm && (l.take i).any (·.took)
theorem mustK_zero (gm : Bool) (l : List OutD) : mustK gm l 0 = false := by simp [mustK]
theorem mustK_succ (gm : Bool) (l : List OutD) {i : Nat} (h : i < l.length) : mustK gm l (i + 1) = (mustK gm l i || (gm && (nth l i).took)) := by
 unfold mustK
 rw [List.take_add_one, List.getElem?_eq_getElem h, nth_eq _ _ h, Option.toList_some, List.any_append]
 simp only [List.any_cons, List.any_nil, Bool.or_false, Bool.and_or_distrib_left]
def keepK (must : Bool) (l : List OutD) (i : Nat) : List PosD := ((l.take i).filter fun o => !must || o.took).map (·.pos)
theorem keepK_zero (must : Bool) (l : List OutD) : keepK must l 0 = [] := by simp [keepK]
theorem keepK_succ (must : Bool) (l : List OutD) {i : Nat} (h : i < l.length) : keepK must l (i + 1) = keepK must l i ++ (if (!must || (nth l i).took) = true then [(nth l i).pos] else []) := by
 unfold keepK
 rw [List.take_add_one, List.getElem?_eq_getElem h, nth_eq _ _ h, Option.toList_some, List.filter_append, List.map_append]
 congr 1
 by_cases hc : (!must || l[i].took) = true <;> simp [hc]
theorem keepK_len (must : Bool) (l : List OutD) (i : Nat) : (keepK must l i).length ≤ i := by
 unfold keepK
 rw [List.length_map]
 refine Nat.le_trans (List.length_filter_le _ _) ?_
 simp; omega
theorem R6Moves_pure (g : GameD) (hg : GOk g) (p : PosD) (hp : POk g p) : Pure Tryz.prog 40 [.agg (encGame g), .agg (encPos p)] (encPs (movesP g p)) := by
 refine pF Tryz.func40 ?_
 have hE := R6Ended_pure g hg p hp
 have hO := R6Outcomes_pure g hg p hp
 have hD := R5Drops_pure g hg p hp
 have hdl := dropsP_len hg hp
 have hol := outsP_len hg hp
 have hS := R4Sort_pure (movesL g p) (by have := movesL_len hg hp; omega) (fun q hq => (movesL_ok hg hp q hq).1.fits hg)
 have hml : movesL g p = keepK (mustP g p) (outsP g p) (outsP g p).length ++ (if mustP g p then [] else dropsP g p) := by unfold movesL keepK; rw [List.take_length]
 have hmu : mustP g p = mustK g.must (outsP g p) (outsP g p).length := by unfold mustP mustK; rw [List.take_length]
 have hmv : movesP g p = if 0 ≤ endedP g p then [] else sortU cmpP (movesL g p) := rfl
 obtain ⟨R, hR⟩ : ∃ R, R = movesP g p := ⟨_, rfl⟩
 rw [← hR] at hmv ⊢
 generalize outsP g p = l at *
 generalize dropsP g p = ds at *
 generalize movesL g p = ml at *
 generalize endedP g p = en at *
 (repeat (first|with_reducible refine wV fun _=>?_|simp [go_sem]))
 refine ACallP.plain hE (by simp [go_sem]) ?_
 (repeat (first|with_reducible refine wV fun _=>?_|simp [go_sem]))
 refine aIf.mkL (fun he => ?_) (fun he => ?_) <;> simp at he
 ·rw [if_pos he] at hmv
  rw [hmv]
  (repeat (first|with_reducible refine wV fun _=>?_|simp [go_sem]))
 ·rw [if_neg (by omega)] at hmv
  (repeat (first|with_reducible refine wV fun _=>?_|simp [go_sem]))
  refine ACallP.plain hO (by simp [go_sem]) ?_
  (repeat (first|with_reducible refine wV fun _=>?_|simp [go_sem]))
  refine ALoop.start (ALoop.ind (α := Nat) (fun i => ⟨[(2, .ref 0 0 9 0 0), (3, .ref 1 0 5 0 0), (5, encOs l), (6, .sl 2 0 5 0 0), (7, .v (.bool (mustK g.must l i))), (8, .v (.int .i64 i))], [(0, .rows true 0 9 [encGame g]), (1, .rows true 0 5 [encPos p]), (2, .rows true 0 5 [])], 3⟩)
   (fun d i => i + d = l.length) ?_ l.length 0 ?_) ?_ ?_
  ·rintro d i i1 hrec
   (repeat (first|with_reducible refine wV fun _=>?_|simp [go_sem]))
   refine aIf.mkL (fun hi => ?_) (fun hi => ?_) <;> simp at hi
   ·have hms := mustK_succ g.must l hi
    cases hmk : mustK g.must l i
    ·rw [hmk, Bool.false_or] at hms
     cases hgm : g.must
     ·rw [hgm, Bool.false_and] at hms
      (repeat (first|with_reducible refine wV fun _=>?_|simp [go_sem, hmk, hgm, hi]))
      refine ALoop.start (hrec (d - 1) (by omega) (i + 1) (by omega)) ?_ (by simp)
      simp [go_sem, Wk_eq, hms, hgm]
     ·rw [hgm, Bool.true_and] at hms
      (repeat (first|with_reducible refine wV fun _=>?_|simp [go_sem, hmk, hgm, hi]))
      refine ALoop.start (hrec (d - 1) (by omega) (i + 1) (by omega)) ?_ (by simp)
      simp [go_sem, Wk_eq, hms, hgm]
    ·rw [hmk, Bool.true_or] at hms
     (repeat (first|with_reducible refine wV fun _=>?_|simp [go_sem, hmk, hi]))
     refine ALoop.start (hrec (d - 1) (by omega) (i + 1) (by omega)) ?_ (by simp)
     simp [go_sem, Wk_eq, hms]
   ·have hil : i = l.length := by omega
    subst hil
    rw [← hmu]
    generalize mustP g p = must at *
    (repeat (first|with_reducible refine wV fun _=>?_|simp [go_sem]))
    refine ALoop.start (ALoop.ind (α := Nat) (fun i => ⟨[(2, .ref 0 0 9 0 0), (3, .ref 1 0 5 0 0), (5, encOs l), (6, .sl 2 (keepK must l i).length 5 0 (keepK must l i).length), (7, .v (.bool must)), (9, .v (.int .i64 i))], [(0, .rows true 0 9 [encGame g]), (1, .rows true 0 5 [encPos p]), (2, .rows true (keepK must l i).length 5 ((keepK must l i).map encPos))], 3⟩)
     (fun d i => i + d = l.length) ?_ l.length 0 ?_) ?_ ?_
    ·rintro d i i1 hrec2
     (repeat (first|with_reducible refine wV fun _=>?_|simp [go_sem]))
     refine aIf.mkL (fun hi => ?_) (fun hi => ?_) <;> simp at hi
     ·have hks := keepK_succ must l hi
      have hkl := keepK_len must l i
      cases must
      ·simp only [Bool.not_false, Bool.true_or, if_true] at hks
       (repeat (first|with_reducible refine wV fun _=>?_|simp [go_sem, hi]))
       refine ALoop.start (hrec2 (d - 1) (by omega) (i + 1) (by omega)) ?_ (by simp)
       simp [go_sem, Wk_eq, hks]
      ·cases ht : (nth l i).took
       ·simp [ht] at hks
        (repeat (first|with_reducible refine wV fun _=>?_|simp [go_sem, hi, ht]))
        refine ALoop.start (hrec2 (d - 1) (by omega) (i + 1) (by omega)) ?_ (by simp)
        simp [go_sem, Wk_eq, hks]
       ·simp [ht] at hks
        (repeat (first|with_reducible refine wV fun _=>?_|simp [go_sem, hi, ht]))
        refine ALoop.start (hrec2 (d - 1) (by omega) (i + 1) (by omega)) ?_ (by simp)
        simp [go_sem, Wk_eq, hks]
     ·have hil : i = l.length := by omega
      subst hil
      have hkl := keepK_len must l l.length
      rw [hmv]
      generalize keepK must l l.length = kk at *
      cases must
      ·simp only [Bool.false_eq_true, if_false] at hml
       (repeat (first|with_reducible refine wV fun _=>?_|simp [go_sem]))
       refine ACallP.plain hD (by simp [go_sem]) ?_
       (repeat (first|with_reducible refine wV fun _=>?_|simp [go_sem]))
       subst hml
       refine ACallP.pureF [2] hS ?_ (bel1 (bel_encPs _)) ?_
       ·(first|done|exact agX)
       ·(repeat (first|with_reducible refine wV fun _=>?_|simp [go_sem]))
      ·simp only [if_true, List.append_nil] at hml
       subst hml
       (repeat (first|with_reducible refine wV fun _=>?_|simp [go_sem]))
       refine ACallP.pureF [2] hS ?_ (bel1 (bel_encPs _)) ?_
       ·(first|done|exact agX)
       ·(repeat (first|with_reducible refine wV fun _=>?_|simp [go_sem]))
    ·omega
    ·simp [go_sem, Wk_eq, keepK_zero]
    ·simp
  ·omega
  ·simp [go_sem, Wk_eq, mustK_zero]
  ·simp
end Go.Av
end
section
/- Contracts, games: Made of the reference. -/
open Go Go.Proofs
namespace Go.Av
theorem R3Made_pure (x : RawG) (hx : RawOk x) (hl : x.c.length ≤ 1099511627776) (hl0 : x.k0.length ≤ 1099511627776) (hl1 : x.k1.length ≤ 1099511627776) : Pure Tryz.prog 70 [.agg (encRaw x)] (.agg (encGame (madeG x))) := by
 refine pF Tryz.func70 ?_
 obtain ⟨eg, heg⟩ : ∃ eg, eg = encGame (madeG x) := ⟨_, rfl⟩
 rw [← heg]
 have hB := R1Made_pure x.w x.h x.cut hx.w hx.h hx.cut
 have hok := boardOk_made hx.w.1 hx.h.1 x.cut
 have hb : madeB x.w x.h x.cut = x.board := rfl
 rw [hb] at hB hok
 have r0 := Int.tmod_nonneg 3 hx.f0.1
 have r1 := Int.tmod_lt_of_pos x.f0 (show (0 : Int) < 3 by decide)
 have f0 : 0 ≤ x.f0 ∧ x.f0 ≤ 255 := hx.f0
 have f1 : 0 ≤ x.f1 ∧ x.f1 ≤ 255 := hx.f1
 have f2 : 0 ≤ x.f2 ∧ x.f2 ≤ 255 := hx.f2
 have f3 : 0 ≤ x.f3 ∧ x.f3 ≤ 255 := hx.f3
 have f4 : 0 ≤ x.f4 ∧ x.f4 ≤ 255 := hx.f4
 have m1 := Int.tmod_nonneg 4 hx.f1.1
 have m3 := Int.tmod_nonneg 4 hx.f3.1
 have m4 := Int.tmod_nonneg 4 hx.f4.1
 have qq : ∀ n : Int, U8 n → (0 ≤ n.tdiv 4 ∧ n.tdiv 4 ≤ 63) ∧ 0 ≤ (n.tdiv 4).tmod 3 ∧ (n.tdiv 4).tmod 3 < 3 := fun n hn => by
  have h : n.tdiv 4 = n / 4 := Int.tdiv_eq_ediv_of_nonneg hn.1
  have h1 := hn.1
  have h2 := hn.2
  have h3 := Int.tmod_nonneg 3 (show 0 ≤ n.tdiv 4 by omega)
  have h4 := Int.tmod_lt_of_pos (n.tdiv 4) (show (0 : Int) < 3 by decide)
  omega
 obtain ⟨q3, q3'⟩ := qq _ hx.f3
 obtain ⟨q4, q4'⟩ := qq _ hx.f4
 obtain ⟨bl, hbl⟩ : ∃ bl, bl = if x.f3.tmod 4 = 3 then 1 + (x.f3.tdiv 4).tmod 3 else 3 := ⟨_, rfl⟩
 obtain ⟨en, hen⟩ : ∃ en, en = if x.f4.tmod 4 = 3 then 1 + (x.f4.tdiv 4).tmod 3 else 2 := ⟨_, rfl⟩
 obtain ⟨R, hR⟩ : ∃ R, R = x.rights := ⟨_, rfl⟩
 have hR' : x.f0.tmod 3 = R := by rw [hR]; rfl
 obtain ⟨b, hbb⟩ : ∃ b, b = x.board := ⟨_, rfl⟩
 rw [← hbb] at hB hok
 (repeat (first|with_reducible refine wV fun _=>?_|simp [go_sem]))
 refine dCall.plain hB (by simp [go_sem]) ?_
 (repeat (first|with_reducible refine wV fun _=>?_|simp [go_sem, hR']))
 have hd8 : b.next.length = 8 := by rw [hbb]; exact madeB_dirs _ _ _
 have hcell : 1 ≤ b.cells ∧ b.cells ≤ 9 := by rw [hbb]; exact madeB_cells hx.w.1 hx.h.1 _
 obtain ⟨K, hK⟩ : ∃ K : Nat, K = kindsN x := ⟨_, rfl⟩
 have hKn : kindsN x = if x.k1.length = 0 then 1 else 2 := by unfold kindsN; simp only [List.length_eq_zero_iff]
 have hKl : ∀ i, (x.ks i).length ≤ 1099511627776 := fun i => by unfold RawG.ks; split <;> assumption
 have hKv : ∀ i, ∀ n ∈ x.ks i, U8 n := fun i => by unfold RawG.ks; split; exact hx.k0; exact hx.k1
 refine aIf.mkL (fun hk1 => ?_) (fun hk1 => ?_) <;> simp at hk1
 ·have hK2 : kindsN x = 2 := by rw [hKn, if_neg (by omega)]
  rw [hK2] at hK
  (repeat (first|with_reducible refine wV fun _=>?_|simp [go_sem]))
  refine ALoop.start (ALoop.ind (α := Nat) (fun a => ⟨[(1, .ref 0 0 12 0 0), (2, .ref 1 0 9 0 0), (3, .ref 20 0 9 0 0), (4, .v (.int .i64 K)), (5, .v (.int .i64 a))],
   [(0, .rows true 0 12 [encRaw x]), (1, .rows true 0 9 [[.v (.int .i64 0), AV.nils, AV.nils, AV.nils, .v (.int .i64 0), .v (.bool false), AV.nils, .v (.int .i64 0), .v (.int .i64 0)]]), (20, .rows true 0 9 [[.v (.int .i64 b.cells), encIss b.next, encIs b.turn, .sl 22 a 3 0 a, .v (.int .i64 R), .v (.bool (decide (x.f1.tmod 4 = 3))), AV.nils, .v (.int .i64 3), .v (.int .i64 2)]]), (22, .rows true a 3 (ksR x a))], 23⟩)
   (fun d a => a + d = K) ?_ K 0 ?_) ?_ ?_
  ·rintro d0 i i1 hrec
   (repeat (first|with_reducible refine wV fun _=>?_|simp [go_sem]))
   refine aIf.mkL (fun hi => ?_) (fun hi => ?_) <;> simp at hi
   ·have hi2 : i = 0 ∨ i = 1 := by omega
    have hkl := hKl i
    have hkv := hKv i
    have hks : kindOf x i = ⟨if i = 0 then nameA else nameB, ((x.ks i).take 4).map (fun n => madeP n b.next.length K x.rights), bitU x.f2 i⟩ := by rw [hbb, hK, ← hK2]; rfl
    rcases hi2 with rfl | rfl
    ·obtain ⟨kk, hkk⟩ : ∃ kk, kk = x.ks 0 := ⟨_, rfl⟩
     have hk0 : x.k0 = kk := hkk.symm
     rw [← hkk] at hkl hkv hks
     have hbit : bitU x.f2 0 = decide (andN .u8 x.f2 1 = 1) := by simp [bitU]
     obtain ⟨f, hf⟩ : ∃ f, f = (fun n => madeP n b.next.length K x.rights) := ⟨_, rfl⟩
     have hfp : ∀ n, U8 n → Pure Tryz.prog 148 [.v (.int .u8 n), .v (.int .i64 b.next.length), .v (.int .i64 K), .v (.int .i64 R)] (encProg (f n)) := fun n hn => by
      rw [hf, ← hR]; exact R2Made_pure n _ _ _ hn (by omega) (by omega) (by omega)
     rw [← hf, hbit] at hks
     (repeat (first|with_reducible refine wV fun _=>?_|simp [go_sem, hk0]))
     refine ALoop.start (ALoop.ind (α := Nat) (fun n => ⟨[(1, .ref 0 0 12 0 0), (2, .ref 1 0 9 0 0), (3, .ref 20 0 9 0 0), (4, .v (.int .i64 K)), (5, .v (.int .i64 0)), (6, .ref 35 0 3 0 0), (7, .v (.int .i64 n))],
      [(0, .rows true 0 12 [encRaw x]), (1, .rows true 0 9 [[.v (.int .i64 0), AV.nils, AV.nils, AV.nils, .v (.int .i64 0), .v (.bool false), AV.nils, .v (.int .i64 0), .v (.int .i64 0)]]), (20, .rows true 0 9 [[.v (.int .i64 b.cells), encIss b.next, encIs b.turn, .sl 22 0 3 0 0, .v (.int .i64 R), .v (.bool (decide (x.f1.tmod 4 = 3))), AV.nils, .v (.int .i64 3), .v (.int .i64 2)]]), (22, .rows true 0 3 (ksR x 0)), (35, .rows true 0 3 [[.v (.string ⟨#[97]⟩), .sl 37 n 1 0 n, .v (.bool (decide (andN .u8 x.f2 1 = 1)))]]), (37, .rows true n 1 (psR f kk n))], 38⟩)
      (fun d n => n + d = min kk.length 4) ?_ (min kk.length 4) 0 ?_) ?_ ?_
     ·rintro d n n1 hrec1
      (repeat (first|with_reducible refine wV fun _=>?_|simp [go_sem, hk0]))
      refine aIf.mkL (fun hn => ?_) (fun hn => ?_) <;> simp at hn
      ·have hn1 : n < kk.length := by omega
       have hn2 := hkv _ (nth_mem hn1)
       have hpl := psR_len f kk (n := n) (by omega)
       (repeat (first|with_reducible refine wV fun _=>?_|simp [go_sem, hk0, hn1]))
       refine dCall.plain (hfp _ hn2) (by simp [go_sem]) ?_
       (repeat (first|with_reducible refine wV fun _=>?_|simp [go_sem, hk0, hn1, hpl]))
       refine ALoop.start (hrec1 (d - 1) (by omega) (n + 1) (by omega)) ?_ (by simp)
       simp [go_sem, Wk_eq, hk0, psR_succ f kk hn1]
      ·have hne : n = min kk.length 4 := by omega
       (repeat (first|with_reducible refine wV fun _=>?_|simp [go_sem]))
       refine ALoop.start (hrec (d0 - 1) (by omega) (0 + 1) (by omega)) ?_ (by simp)
       have hkx : kRow (kindOf x 0) = [.v (.string ⟨#[97]⟩), .lst 1 (psR f kk n), .v (.bool (decide (andN .u8 x.f2 1 = 1)))] := by rw [hks, show psR f kk n = psR f kk (min kk.length 4) by rw [← hne]]; simp [kRow, encKind, psR, nameA, nameB, encProg]; omega
       have hpl := psR_len f kk (n := n) (by omega)
       simp [go_sem, Wk_eq, hk0, ksR_succ x 0, hkx]
       (try refine leRows_append (.refl _) (.cons (.cons (.refl _) (.cons ?_ (.cons (.refl _) .nil))) .nil))
       refine LeV.frz rfl ?_ ?_ (LeRows.of_eq ?_) <;> simp [mkH, upd, hpl, List.take_of_length_le]
     ·omega
     ·simp [go_sem, Wk_eq, hk0]
     ·simp
    ·obtain ⟨kk, hkk⟩ : ∃ kk, kk = x.ks 1 := ⟨_, rfl⟩
     have hk0 : x.k1 = kk := hkk.symm
     rw [← hkk] at hkl hkv hks
     have hbit : bitU x.f2 1 = decide (andN .u8 (x.f2.fdiv 2) 1 = 1) := by simp [bitU]
     obtain ⟨f, hf⟩ : ∃ f, f = (fun n => madeP n b.next.length K x.rights) := ⟨_, rfl⟩
     have hfp : ∀ n, U8 n → Pure Tryz.prog 148 [.v (.int .u8 n), .v (.int .i64 b.next.length), .v (.int .i64 K), .v (.int .i64 R)] (encProg (f n)) := fun n hn => by
      rw [hf, ← hR]; exact R2Made_pure n _ _ _ hn (by omega) (by omega) (by omega)
     rw [← hf, hbit] at hks
     (repeat (first|with_reducible refine wV fun _=>?_|simp [go_sem, hk0]))
     refine ALoop.start (ALoop.ind (α := Nat) (fun n => ⟨[(1, .ref 0 0 12 0 0), (2, .ref 1 0 9 0 0), (3, .ref 20 0 9 0 0), (4, .v (.int .i64 K)), (5, .v (.int .i64 1)), (6, .ref 35 0 3 0 0), (7, .v (.int .i64 n))],
      [(0, .rows true 0 12 [encRaw x]), (1, .rows true 0 9 [[.v (.int .i64 0), AV.nils, AV.nils, AV.nils, .v (.int .i64 0), .v (.bool false), AV.nils, .v (.int .i64 0), .v (.int .i64 0)]]), (20, .rows true 0 9 [[.v (.int .i64 b.cells), encIss b.next, encIs b.turn, .sl 22 1 3 0 1, .v (.int .i64 R), .v (.bool (decide (x.f1.tmod 4 = 3))), AV.nils, .v (.int .i64 3), .v (.int .i64 2)]]), (22, .rows true 1 3 (ksR x 1)), (35, .rows true 0 3 [[.v (.string ⟨#[98, 101, 101]⟩), .sl 37 n 1 0 n, .v (.bool (decide (andN .u8 (x.f2.fdiv 2) 1 = 1)))]]), (37, .rows true n 1 (psR f kk n))], 38⟩)
      (fun d n => n + d = min kk.length 4) ?_ (min kk.length 4) 0 ?_) ?_ ?_
     ·rintro d n n1 hrec1
      (repeat (first|with_reducible refine wV fun _=>?_|simp [go_sem, hk0]))
      refine aIf.mkL (fun hn => ?_) (fun hn => ?_) <;> simp at hn
      ·have hn1 : n < kk.length := by omega
       have hn2 := hkv _ (nth_mem hn1)
       have hpl := psR_len f kk (n := n) (by omega)
       (repeat (first|with_reducible refine wV fun _=>?_|simp [go_sem, hk0, hn1]))
       refine dCall.plain (hfp _ hn2) (by simp [go_sem]) ?_
       (repeat (first|with_reducible refine wV fun _=>?_|simp [go_sem, hk0, hn1, hpl]))
       refine ALoop.start (hrec1 (d - 1) (by omega) (n + 1) (by omega)) ?_ (by simp)
       simp [go_sem, Wk_eq, hk0, psR_succ f kk hn1]
      ·have hne : n = min kk.length 4 := by omega
       (repeat (first|with_reducible refine wV fun _=>?_|simp [go_sem]))
       refine ALoop.start (hrec (d0 - 1) (by omega) (1 + 1) (by omega)) ?_ (by simp)
       have hkx : kRow (kindOf x 1) = [.v (.string ⟨#[98, 101, 101]⟩), .lst 1 (psR f kk n), .v (.bool (decide (andN .u8 (x.f2.fdiv 2) 1 = 1)))] := by rw [hks, show psR f kk n = psR f kk (min kk.length 4) by rw [← hne]]; simp [kRow, encKind, psR, nameA, nameB, encProg]; omega
       have hpl := psR_len f kk (n := n) (by omega)
       simp [go_sem, Wk_eq, hk0, ksR_succ x 1, hkx]
       (try refine leRows_append (.refl _) (.cons (.cons (.refl _) (.cons ?_ (.cons (.refl _) .nil))) .nil))
       refine LeV.frz rfl ?_ ?_ (LeRows.of_eq ?_) <;> simp [mkH, upd, hpl, List.take_of_length_le]
     ·omega
     ·simp [go_sem, Wk_eq, hk0]
     ·simp
   ·have hiK : i = K := by omega
    subst hiK
    (repeat (first|with_reducible refine wV fun _=>?_|simp [go_sem]))
    refine aIf.mkL (fun hb3 => ?_) (fun hb3 => ?_) <;> simp at hb3 <;> (repeat (first|with_reducible refine wV fun _=>?_|simp [go_sem]))
    all_goals refine aIf.mkL (fun hb4 => ?_) (fun hb4 => ?_) <;> simp at hb4 <;> (repeat (first|with_reducible refine wV fun _=>?_|simp [go_sem]))
    all_goals (
     refine ALoop.start (ALoop.ind (α := Nat) (fun a => ⟨[(1, .ref 0 0 12 0 0), (2, .ref 1 0 9 0 0), (3, .ref 20 0 9 0 0), (4, .v (.int .i64 i)), (8, .v (.int .i64 a))],
      [(0, .rows true 0 12 [encRaw x]), (1, .rows true 0 9 [[.v (.int .i64 0), AV.nils, AV.nils, AV.nils, .v (.int .i64 0), .v (.bool false), AV.nils, .v (.int .i64 0), .v (.int .i64 0)]]), (20, .rows true 0 9 [[.v (.int .i64 b.cells), encIss b.next, encIs b.turn, .sl 22 i 3 0 i, .v (.int .i64 R), .v (.bool (decide (x.f1.tmod 4 = 3))), .sl 23 a 4 0 a, .v (.int .i64 bl), .v (.int .i64 en)]]), (22, .rows true i 3 (ksR x i)), (23, .rows true a 4 (clR b.cells i x.c a))], 24⟩)
      (fun d a => a + d = min x.c.length 3) ?_ (min x.c.length 3) 0 ?_) ?_ ?_
     ·rintro d j j1 hrec2
      (repeat (first|with_reducible refine wV fun _=>?_|simp [go_sem]))
      refine aIf.mkL (fun hj => ?_) (fun hj => ?_) <;> simp at hj
      ·have hj1 : j < x.c.length := by omega
       have hjc := hx.c _ (nth_mem hj1)
       have hpl := clR_len b.cells i x.c (n := j) (by omega)
       have hsu := clR_succ b.cells i x.c hj1
       generalize hcx : nth x.c j = c at *
       obtain ⟨c0, c1, c2⟩ := c
       obtain ⟨u0, u1, u2⟩ := hjc
       obtain ⟨w0, w0'⟩ := qq _ u0
       obtain ⟨v0, v0'⟩ := u0
       obtain ⟨v1, v1'⟩ := u1
       obtain ⟨v2, v2'⟩ := u2
       simp only at v0 v0' v1 v1' v2 v2' w0 w0'
       have t0 := Int.tmod_nonneg 3 v0
       have t1 := Int.tmod_lt_of_pos c0 (show (0 : Int) < 3 by decide)
       have hip : (0 : Int) < i := by omega
       have k0 := Int.tmod_nonneg i v1
       have n0 := Int.tmod_nonneg b.cells v2
       have n1 := Int.tmod_nonneg 3 v2
       rcases (show c0.tmod 3 = 0 ∨ c0.tmod 3 = 1 ∨ c0.tmod 3 = 2 by omega) with ht | ht | ht
       ·have hr : cRow (clauseOf b.cells i (c0, c1, c2)) = [.v (.int .i64 1), .v (.int .i64 (c1.tmod i)), .v (.int .i64 0), .v (.int .i64 (1 + (c0.tdiv 4).tmod 3))] := by simp [cRow, clauseOf, encClause, ht]
        (repeat (first|with_reducible refine wV fun _=>?_|simp [go_sem, hj1, hcx, ht, hpl]))
        refine ALoop.start (hrec2 (d - 1) (by omega) (j + 1) (by omega)) ?_ (by simp)
        simp [go_sem, Wk_eq, hsu, hr]
       ·have hr : cRow (clauseOf b.cells i (c0, c1, c2)) = [.v (.int .i64 2), .v (.int .i64 (c1.tmod i)), .v (.int .i64 (c2.tmod b.cells)), .v (.int .i64 (1 + (c0.tdiv 4).tmod 3))] := by simp [cRow, clauseOf, encClause, ht]
        (repeat (first|with_reducible refine wV fun _=>?_|simp [go_sem, hj1, hcx, ht, hpl]))
        refine ALoop.start (hrec2 (d - 1) (by omega) (j + 1) (by omega)) ?_ (by simp)
        simp [go_sem, Wk_eq, hsu, hr]
       ·have hr : cRow (clauseOf b.cells i (c0, c1, c2)) = [.v (.int .i64 3), .v (.int .i64 0), .v (.int .i64 (c2.tmod 3)), .v (.int .i64 (1 + (c0.tdiv 4).tmod 3))] := by simp [cRow, clauseOf, encClause, ht]
        (repeat (first|with_reducible refine wV fun _=>?_|simp [go_sem, hj1, hcx, ht, hpl]))
        refine ALoop.start (hrec2 (d - 1) (by omega) (j + 1) (by omega)) ?_ (by simp)
        simp [go_sem, Wk_eq, hsu, hr]
      ·have hki : kindsN x = i := by rw [hK2, hK]
       have hjm : j = min x.c.length 3 := by omega
       have htk : x.c.take (min x.c.length 3) = x.c.take 3 := by rw [List.take_eq_take_iff]; omega
       have hpl := clR_len b.cells i x.c (n := j) (by omega)
       have hkl : (ksR x i).length = i := ksR_len x i
       have hcl : clR b.cells i x.c j = ((x.c.take 3).map (clauseOf b.cells i)).map encClause := by unfold clR; rw [hjm, htk]
       have hG : madeG x = { cells := b.cells, next := b.next, turn := b.turn, kinds := (List.range i).map (kindOf x), rights := R, must := decide (x.f1.tmod 4 = 3), clauses := (x.c.take 3).map (clauseOf b.cells i), blocked := bl, endless := en } := by
        unfold madeG; rw [hki, ← hbb, ← hR, ← hbl, ← hen]
       have hEnc : eg = [.v (.int .i64 b.cells), encIss b.next, encIs b.turn, .lst 3 (ksR x i), .v (.int .i64 R), .v (.bool (decide (x.f1.tmod 4 = 3))), .lst 4 (clR b.cells i x.c j), .v (.int .i64 bl), .v (.int .i64 en)] := by
        rw [heg, hG, hcl]; rfl
       (repeat (first|with_reducible refine wV fun _=>?_|simp [go_sem]))
       rw [hEnc]
       refine ⟨.cons (.refl _) (.cons (.refl _) (.cons (.refl _) (.cons (leV_frz rfl (by omega) (by simp [noH]) (by rw [List.drop_zero, List.take_of_length_le (by omega)])) (.cons (.refl _) (.cons (.refl _) (.cons (leV_frz rfl (by omega) (by simp [noH]) (by rw [List.drop_zero, List.take_of_length_le (by omega)])) (.cons (.refl _) (.cons (.refl _) .nil)))))))), ?_⟩
       intro c hc
       simp only [List.mem_cons, List.not_mem_nil, or_false] at hc
       rcases hc with rfl | rfl | rfl | rfl | rfl | rfl | rfl | rfl | rfl
       all_goals first | exact .v _ | simp [go_sem]
     ·omega
     ·simp [go_sem, Wk_eq, hbl, hen, hb3, hb4]
     ·simp)
  ·omega
  ·simp [go_sem, Wk_eq, hK]
  ·simp
 ·have hK2 : kindsN x = 1 := by rw [hKn, if_pos (by simp [hk1])]
  rw [hK2] at hK
  (repeat (first|with_reducible refine wV fun _=>?_|simp [go_sem]))
  refine ALoop.start (ALoop.ind (α := Nat) (fun a => ⟨[(1, .ref 0 0 12 0 0), (2, .ref 1 0 9 0 0), (3, .ref 20 0 9 0 0), (4, .v (.int .i64 K)), (5, .v (.int .i64 a))],
   [(0, .rows true 0 12 [encRaw x]), (1, .rows true 0 9 [[.v (.int .i64 0), AV.nils, AV.nils, AV.nils, .v (.int .i64 0), .v (.bool false), AV.nils, .v (.int .i64 0), .v (.int .i64 0)]]), (20, .rows true 0 9 [[.v (.int .i64 b.cells), encIss b.next, encIs b.turn, .sl 22 a 3 0 a, .v (.int .i64 R), .v (.bool (decide (x.f1.tmod 4 = 3))), AV.nils, .v (.int .i64 3), .v (.int .i64 2)]]), (22, .rows true a 3 (ksR x a))], 23⟩)
   (fun d a => a + d = K) ?_ K 0 ?_) ?_ ?_
  ·rintro d0 i i1 hrec
   (repeat (first|with_reducible refine wV fun _=>?_|simp [go_sem]))
   refine aIf.mkL (fun hi => ?_) (fun hi => ?_) <;> simp at hi
   ·have hi2 : i = 0 ∨ i = 1 := by omega
    have hkl := hKl i
    have hkv := hKv i
    have hks : kindOf x i = ⟨if i = 0 then nameA else nameB, ((x.ks i).take 4).map (fun n => madeP n b.next.length K x.rights), bitU x.f2 i⟩ := by rw [hbb, hK, ← hK2]; rfl
    rcases hi2 with rfl | rfl
    ·obtain ⟨kk, hkk⟩ : ∃ kk, kk = x.ks 0 := ⟨_, rfl⟩
     have hk0 : x.k0 = kk := hkk.symm
     rw [← hkk] at hkl hkv hks
     have hbit : bitU x.f2 0 = decide (andN .u8 x.f2 1 = 1) := by simp [bitU]
     obtain ⟨f, hf⟩ : ∃ f, f = (fun n => madeP n b.next.length K x.rights) := ⟨_, rfl⟩
     have hfp : ∀ n, U8 n → Pure Tryz.prog 148 [.v (.int .u8 n), .v (.int .i64 b.next.length), .v (.int .i64 K), .v (.int .i64 R)] (encProg (f n)) := fun n hn => by
      rw [hf, ← hR]; exact R2Made_pure n _ _ _ hn (by omega) (by omega) (by omega)
     rw [← hf, hbit] at hks
     (repeat (first|with_reducible refine wV fun _=>?_|simp [go_sem, hk0]))
     refine ALoop.start (ALoop.ind (α := Nat) (fun n => ⟨[(1, .ref 0 0 12 0 0), (2, .ref 1 0 9 0 0), (3, .ref 20 0 9 0 0), (4, .v (.int .i64 K)), (5, .v (.int .i64 0)), (6, .ref 35 0 3 0 0), (7, .v (.int .i64 n))],
      [(0, .rows true 0 12 [encRaw x]), (1, .rows true 0 9 [[.v (.int .i64 0), AV.nils, AV.nils, AV.nils, .v (.int .i64 0), .v (.bool false), AV.nils, .v (.int .i64 0), .v (.int .i64 0)]]), (20, .rows true 0 9 [[.v (.int .i64 b.cells), encIss b.next, encIs b.turn, .sl 22 0 3 0 0, .v (.int .i64 R), .v (.bool (decide (x.f1.tmod 4 = 3))), AV.nils, .v (.int .i64 3), .v (.int .i64 2)]]), (22, .rows true 0 3 (ksR x 0)), (35, .rows true 0 3 [[.v (.string ⟨#[97]⟩), .sl 37 n 1 0 n, .v (.bool (decide (andN .u8 x.f2 1 = 1)))]]), (37, .rows true n 1 (psR f kk n))], 38⟩)
      (fun d n => n + d = min kk.length 4) ?_ (min kk.length 4) 0 ?_) ?_ ?_
     ·rintro d n n1 hrec1
      (repeat (first|with_reducible refine wV fun _=>?_|simp [go_sem, hk0]))
      refine aIf.mkL (fun hn => ?_) (fun hn => ?_) <;> simp at hn
      ·have hn1 : n < kk.length := by omega
       have hn2 := hkv _ (nth_mem hn1)
       have hpl := psR_len f kk (n := n) (by omega)
       (repeat (first|with_reducible refine wV fun _=>?_|simp [go_sem, hk0, hn1]))
       refine dCall.plain (hfp _ hn2) (by simp [go_sem]) ?_
       (repeat (first|with_reducible refine wV fun _=>?_|simp [go_sem, hk0, hn1, hpl]))
       refine ALoop.start (hrec1 (d - 1) (by omega) (n + 1) (by omega)) ?_ (by simp)
       simp [go_sem, Wk_eq, hk0, psR_succ f kk hn1]
      ·have hne : n = min kk.length 4 := by omega
       (repeat (first|with_reducible refine wV fun _=>?_|simp [go_sem]))
       refine ALoop.start (hrec (d0 - 1) (by omega) (0 + 1) (by omega)) ?_ (by simp)
       have hkx : kRow (kindOf x 0) = [.v (.string ⟨#[97]⟩), .lst 1 (psR f kk n), .v (.bool (decide (andN .u8 x.f2 1 = 1)))] := by rw [hks, show psR f kk n = psR f kk (min kk.length 4) by rw [← hne]]; simp [kRow, encKind, psR, nameA, nameB, encProg]; omega
       have hpl := psR_len f kk (n := n) (by omega)
       simp [go_sem, Wk_eq, hk0, ksR_succ x 0, hkx]
       (try refine leRows_append (.refl _) (.cons (.cons (.refl _) (.cons ?_ (.cons (.refl _) .nil))) .nil))
       refine LeV.frz rfl ?_ ?_ (LeRows.of_eq ?_) <;> simp [mkH, upd, hpl, List.take_of_length_le]
     ·omega
     ·simp [go_sem, Wk_eq, hk0]
     ·simp
    ·obtain ⟨kk, hkk⟩ : ∃ kk, kk = x.ks 1 := ⟨_, rfl⟩
     have hk0 : x.k1 = kk := hkk.symm
     rw [← hkk] at hkl hkv hks
     have hbit : bitU x.f2 1 = decide (andN .u8 (x.f2.fdiv 2) 1 = 1) := by simp [bitU]
     obtain ⟨f, hf⟩ : ∃ f, f = (fun n => madeP n b.next.length K x.rights) := ⟨_, rfl⟩
     have hfp : ∀ n, U8 n → Pure Tryz.prog 148 [.v (.int .u8 n), .v (.int .i64 b.next.length), .v (.int .i64 K), .v (.int .i64 R)] (encProg (f n)) := fun n hn => by
      rw [hf, ← hR]; exact R2Made_pure n _ _ _ hn (by omega) (by omega) (by omega)
     rw [← hf, hbit] at hks
     (repeat (first|with_reducible refine wV fun _=>?_|simp [go_sem, hk0]))
     refine ALoop.start (ALoop.ind (α := Nat) (fun n => ⟨[(1, .ref 0 0 12 0 0), (2, .ref 1 0 9 0 0), (3, .ref 20 0 9 0 0), (4, .v (.int .i64 K)), (5, .v (.int .i64 1)), (6, .ref 35 0 3 0 0), (7, .v (.int .i64 n))],
      [(0, .rows true 0 12 [encRaw x]), (1, .rows true 0 9 [[.v (.int .i64 0), AV.nils, AV.nils, AV.nils, .v (.int .i64 0), .v (.bool false), AV.nils, .v (.int .i64 0), .v (.int .i64 0)]]), (20, .rows true 0 9 [[.v (.int .i64 b.cells), encIss b.next, encIs b.turn, .sl 22 1 3 0 1, .v (.int .i64 R), .v (.bool (decide (x.f1.tmod 4 = 3))), AV.nils, .v (.int .i64 3), .v (.int .i64 2)]]), (22, .rows true 1 3 (ksR x 1)), (35, .rows true 0 3 [[.v (.string ⟨#[98, 101, 101]⟩), .sl 37 n 1 0 n, .v (.bool (decide (andN .u8 (x.f2.fdiv 2) 1 = 1)))]]), (37, .rows true n 1 (psR f kk n))], 38⟩)
      (fun d n => n + d = min kk.length 4) ?_ (min kk.length 4) 0 ?_) ?_ ?_
     ·rintro d n n1 hrec1
      (repeat (first|with_reducible refine wV fun _=>?_|simp [go_sem, hk0]))
      refine aIf.mkL (fun hn => ?_) (fun hn => ?_) <;> simp at hn
      ·have hn1 : n < kk.length := by omega
       have hn2 := hkv _ (nth_mem hn1)
       have hpl := psR_len f kk (n := n) (by omega)
       (repeat (first|with_reducible refine wV fun _=>?_|simp [go_sem, hk0, hn1]))
       refine dCall.plain (hfp _ hn2) (by simp [go_sem]) ?_
       (repeat (first|with_reducible refine wV fun _=>?_|simp [go_sem, hk0, hn1, hpl]))
       refine ALoop.start (hrec1 (d - 1) (by omega) (n + 1) (by omega)) ?_ (by simp)
       simp [go_sem, Wk_eq, hk0, psR_succ f kk hn1]
      ·have hne : n = min kk.length 4 := by omega
       (repeat (first|with_reducible refine wV fun _=>?_|simp [go_sem]))
       refine ALoop.start (hrec (d0 - 1) (by omega) (1 + 1) (by omega)) ?_ (by simp)
       have hkx : kRow (kindOf x 1) = [.v (.string ⟨#[98, 101, 101]⟩), .lst 1 (psR f kk n), .v (.bool (decide (andN .u8 (x.f2.fdiv 2) 1 = 1)))] := by rw [hks, show psR f kk n = psR f kk (min kk.length 4) by rw [← hne]]; simp [kRow, encKind, psR, nameA, nameB, encProg]; omega
       have hpl := psR_len f kk (n := n) (by omega)
       simp [go_sem, Wk_eq, hk0, ksR_succ x 1, hkx]
       (try refine leRows_append (.refl _) (.cons (.cons (.refl _) (.cons ?_ (.cons (.refl _) .nil))) .nil))
       refine LeV.frz rfl ?_ ?_ (LeRows.of_eq ?_) <;> simp [mkH, upd, hpl, List.take_of_length_le]
     ·omega
     ·simp [go_sem, Wk_eq, hk0]
     ·simp
   ·have hiK : i = K := by omega
    subst hiK
    (repeat (first|with_reducible refine wV fun _=>?_|simp [go_sem]))
    refine aIf.mkL (fun hb3 => ?_) (fun hb3 => ?_) <;> simp at hb3 <;> (repeat (first|with_reducible refine wV fun _=>?_|simp [go_sem]))
    all_goals refine aIf.mkL (fun hb4 => ?_) (fun hb4 => ?_) <;> simp at hb4 <;> (repeat (first|with_reducible refine wV fun _=>?_|simp [go_sem]))
    all_goals (
     refine ALoop.start (ALoop.ind (α := Nat) (fun a => ⟨[(1, .ref 0 0 12 0 0), (2, .ref 1 0 9 0 0), (3, .ref 20 0 9 0 0), (4, .v (.int .i64 i)), (8, .v (.int .i64 a))],
      [(0, .rows true 0 12 [encRaw x]), (1, .rows true 0 9 [[.v (.int .i64 0), AV.nils, AV.nils, AV.nils, .v (.int .i64 0), .v (.bool false), AV.nils, .v (.int .i64 0), .v (.int .i64 0)]]), (20, .rows true 0 9 [[.v (.int .i64 b.cells), encIss b.next, encIs b.turn, .sl 22 i 3 0 i, .v (.int .i64 R), .v (.bool (decide (x.f1.tmod 4 = 3))), .sl 23 a 4 0 a, .v (.int .i64 bl), .v (.int .i64 en)]]), (22, .rows true i 3 (ksR x i)), (23, .rows true a 4 (clR b.cells i x.c a))], 24⟩)
      (fun d a => a + d = min x.c.length 3) ?_ (min x.c.length 3) 0 ?_) ?_ ?_
     ·rintro d j j1 hrec2
      (repeat (first|with_reducible refine wV fun _=>?_|simp [go_sem]))
      refine aIf.mkL (fun hj => ?_) (fun hj => ?_) <;> simp at hj
      ·have hj1 : j < x.c.length := by omega
       have hjc := hx.c _ (nth_mem hj1)
       have hpl := clR_len b.cells i x.c (n := j) (by omega)
       have hsu := clR_succ b.cells i x.c hj1
       generalize hcx : nth x.c j = c at *
       obtain ⟨c0, c1, c2⟩ := c
       obtain ⟨u0, u1, u2⟩ := hjc
       obtain ⟨w0, w0'⟩ := qq _ u0
       obtain ⟨v0, v0'⟩ := u0
       obtain ⟨v1, v1'⟩ := u1
       obtain ⟨v2, v2'⟩ := u2
       simp only at v0 v0' v1 v1' v2 v2' w0 w0'
       have t0 := Int.tmod_nonneg 3 v0
       have t1 := Int.tmod_lt_of_pos c0 (show (0 : Int) < 3 by decide)
       have hip : (0 : Int) < i := by omega
       have k0 := Int.tmod_nonneg i v1
       have n0 := Int.tmod_nonneg b.cells v2
       have n1 := Int.tmod_nonneg 3 v2
       rcases (show c0.tmod 3 = 0 ∨ c0.tmod 3 = 1 ∨ c0.tmod 3 = 2 by omega) with ht | ht | ht
       ·have hr : cRow (clauseOf b.cells i (c0, c1, c2)) = [.v (.int .i64 1), .v (.int .i64 (c1.tmod i)), .v (.int .i64 0), .v (.int .i64 (1 + (c0.tdiv 4).tmod 3))] := by simp [cRow, clauseOf, encClause, ht]
        (repeat (first|with_reducible refine wV fun _=>?_|simp [go_sem, hj1, hcx, ht, hpl]))
        refine ALoop.start (hrec2 (d - 1) (by omega) (j + 1) (by omega)) ?_ (by simp)
        simp [go_sem, Wk_eq, hsu, hr]
       ·have hr : cRow (clauseOf b.cells i (c0, c1, c2)) = [.v (.int .i64 2), .v (.int .i64 (c1.tmod i)), .v (.int .i64 (c2.tmod b.cells)), .v (.int .i64 (1 + (c0.tdiv 4).tmod 3))] := by simp [cRow, clauseOf, encClause, ht]
        (repeat (first|with_reducible refine wV fun _=>?_|simp [go_sem, hj1, hcx, ht, hpl]))
        refine ALoop.start (hrec2 (d - 1) (by omega) (j + 1) (by omega)) ?_ (by simp)
        simp [go_sem, Wk_eq, hsu, hr]
       ·have hr : cRow (clauseOf b.cells i (c0, c1, c2)) = [.v (.int .i64 3), .v (.int .i64 0), .v (.int .i64 (c2.tmod 3)), .v (.int .i64 (1 + (c0.tdiv 4).tmod 3))] := by simp [cRow, clauseOf, encClause, ht]
        (repeat (first|with_reducible refine wV fun _=>?_|simp [go_sem, hj1, hcx, ht, hpl]))
        refine ALoop.start (hrec2 (d - 1) (by omega) (j + 1) (by omega)) ?_ (by simp)
        simp [go_sem, Wk_eq, hsu, hr]
      ·have hki : kindsN x = i := by rw [hK2, hK]
       have hjm : j = min x.c.length 3 := by omega
       have htk : x.c.take (min x.c.length 3) = x.c.take 3 := by rw [List.take_eq_take_iff]; omega
       have hpl := clR_len b.cells i x.c (n := j) (by omega)
       have hkl : (ksR x i).length = i := ksR_len x i
       have hcl : clR b.cells i x.c j = ((x.c.take 3).map (clauseOf b.cells i)).map encClause := by unfold clR; rw [hjm, htk]
       have hG : madeG x = { cells := b.cells, next := b.next, turn := b.turn, kinds := (List.range i).map (kindOf x), rights := R, must := decide (x.f1.tmod 4 = 3), clauses := (x.c.take 3).map (clauseOf b.cells i), blocked := bl, endless := en } := by
        unfold madeG; rw [hki, ← hbb, ← hR, ← hbl, ← hen]
       have hEnc : eg = [.v (.int .i64 b.cells), encIss b.next, encIs b.turn, .lst 3 (ksR x i), .v (.int .i64 R), .v (.bool (decide (x.f1.tmod 4 = 3))), .lst 4 (clR b.cells i x.c j), .v (.int .i64 bl), .v (.int .i64 en)] := by
        rw [heg, hG, hcl]; rfl
       (repeat (first|with_reducible refine wV fun _=>?_|simp [go_sem]))
       rw [hEnc]
       refine ⟨.cons (.refl _) (.cons (.refl _) (.cons (.refl _) (.cons (leV_frz rfl (by omega) (by simp [noH]) (by rw [List.drop_zero, List.take_of_length_le (by omega)])) (.cons (.refl _) (.cons (.refl _) (.cons (leV_frz rfl (by omega) (by simp [noH]) (by rw [List.drop_zero, List.take_of_length_le (by omega)])) (.cons (.refl _) (.cons (.refl _) .nil)))))))), ?_⟩
       intro c hc
       simp only [List.mem_cons, List.not_mem_nil, or_false] at hc
       rcases hc with rfl | rfl | rfl | rfl | rfl | rfl | rfl | rfl | rfl
       all_goals first | exact .v _ | simp [go_sem]
     ·omega
     ·simp [go_sem, Wk_eq, hbl, hen, hb3, hb4]
     ·simp)
  ·omega
  ·simp [go_sem, Wk_eq, hK]
  ·simp
end Go.Av
end
section
/- Contracts, positions: Made of the reference. -/
open Go Go.Proofs
namespace Go.Av
theorem R4Made_pure (g : GameD) (hg : GOk g) (x : RawP) (hx : RawPOk x) : Pure Tryz.prog 22 [.agg (encGame g), .agg (encRawP x)] (.agg (encPos (madePos g x))) := by
 refine pF Tryz.func22 ?_
 obtain ⟨q, hq⟩ : ∃ q, q = madePos g x := ⟨_, rfl⟩
 have hrow := rawRow hx
 obtain ⟨er, her⟩ : ∃ er, er = encRawP x := ⟨_, rfl⟩
 rw [← hq, ← her]
 rw [← her] at hrow
 obtain ⟨rl, rc, rk, rh, rr, rs, rb⟩ := hrow
 have c1 := hg.c1
 have c9 := hg.c9
 have k1 := hg.k1
 have k6 := hg.k6
 have hr0 := hg.r0
 have hr4 := hg.r4
 obtain ⟨gc, hgc⟩ : ∃ gc : Nat, g.cells = gc := ⟨g.cells.toNat, by omega⟩
 have hpow : (1 : Int) ≤ 2 ^ g.rights.toNat ∧ (2 : Int) ^ g.rights.toNat ≤ 16 := by
  rcases (show g.rights.toNat = 0 ∨ g.rights.toNat = 1 ∨ g.rights.toNat = 2 ∨ g.rights.toNat = 3 ∨ g.rights.toNat = 4 by omega) with h | h | h | h | h <;> rw [h] <;> decide
 have hrt := hx.r
 have hsd := hx.s
 obtain ⟨rt, hrt'⟩ : ∃ rt, x.rights = rt := ⟨_, rfl⟩
 obtain ⟨pw, hpw⟩ : ∃ pw : Int, (2 : Int) ^ g.rights.toNat = pw := ⟨_, rfl⟩
 have r1 : 0 ≤ x.rights ∧ x.rights ≤ 255 := hx.r
 have s1 : 0 ≤ x.side ∧ x.side ≤ 255 := hx.s
 have s0 := Int.tmod_nonneg 2 s1.1
 have s2 := Int.tmod_lt_of_pos x.side (show (0 : Int) < 2 by decide)
 rw [hpw] at hpow
 generalize heg : encGame g = eg at *
 have hel : eg.length = 9 := by rw [← heg]; rfl
 have hbl : ∀ n, (∀ c' ∈ eg, Bel n c') = True := fun n => by rw [← heg]; simp [go_sem]
 have e0 : cel eg 0 = .v (.int .i64 g.cells) := by rw [← heg]; rfl
 have e3 : cel eg 3 = .lst 3 (g.kinds.map encKind) := by rw [← heg]; rfl
 have e4 : cel eg 4 = .v (.int .i64 g.rights) := by rw [← heg]; rfl
 (repeat (first|with_reducible refine wV fun _=>?_|simp [go_sem, hel, e0, e3, e4, rl, rr, rs, rb, hbl, hpw]))
 have hcz : g.cells.toNat = gc := by omega
 have hkne : g.kinds ≠ [] := by intro h; rw [h] at k1; simp at k1
 have hz : List.replicate gc [AV.v (.int .i64 0)] = (madeAt g x 0).map encI := by simp [madeAt, hcz, encI]
 refine ALoop.start (ALoop.ind (α := Nat) (fun i => ⟨[(2, .ref 0 0 9 0 0), (3, .ref 1 0 18 0 0), (4, .ref 2 0 5 0 0), (5, .ref 19 0 5 0 0), (6, .v (.int .i64 i))], [(0, .rows true 0 9 [eg]), (1, .rows true 0 18 [er]), (2, .rows true 0 5 [[AV.nils, AV.nils, AV.nils, .v (.int .i64 0), .v (.int .i64 0)]]), (6, .rows true 0 1 ((madeAt g x i).map encI)), (19, .rows true 0 5 [[.sl 6 0 1 0 gc, AV.nils, AV.nils, .v (.int .i64 (x.rights.tmod pw)), .v (.int .i64 (x.side.tmod 2))]])], 21⟩)
  (fun d i => i + d = 6) ?_ 6 0 ?_) ?_ ?_
 ·rintro d i i1 hrec
  (repeat (first|with_reducible refine wV fun _=>?_|simp [go_sem]))
  refine aIf.mkL (fun hi => ?_) (fun hi => ?_) <;> simp at hi
  ·have hci := hx.cv _ (nth_mem (l := x.cell) (i := i) (by rw [hx.c6]; omega))
   have hki := hx.kv _ (nth_mem (l := x.kind) (i := i) (by rw [hx.k6]; omega))
   have hci' : 0 ≤ nth x.cell i ∧ nth x.cell i ≤ 255 := hci
   have hki' : 0 ≤ nth x.kind i ∧ nth x.kind i ≤ 255 := hki
   have m0 := Int.tmod_nonneg (g.cells + 1) hci'.1
   have m1 := Int.tmod_nonneg (g.kinds.length : Int) hki'.1
   have m2 := Int.tmod_lt_of_pos (nth x.kind i) (show (0 : Int) < g.kinds.length by omega)
   have m3 := Int.tmod_nonneg 2 (show (0 : Int) ≤ i by omega)
   have m4 := Int.tmod_lt_of_pos (i : Int) (show (0 : Int) < 2 by decide)
   have hrc := rc i (by omega)
   have hrk := rk i (by omega)
   have hsu := madeAt_succ g x i
   have hal := madeAt_len g x i
   rw [hcz] at hal
   unfold atStep at hsu
   (repeat (first|with_reducible refine wV fun _=>?_|simp [go_sem, hel, e0, e3, e4, hrc, hrk]))
   refine aIf.mkL (fun hc => ?_) (fun hc => ?_) <;> simp at hc
   ·have hc1 := hc.1
    rw [if_pos hc1] at hsu
    (repeat (first|with_reducible refine wV fun _=>?_|simp [go_sem, hel, e0, e3, e4, hrc, hrk, hal]))
    refine ALoop.start (hrec (d - 1) (by omega) (i + 1) (by omega)) ?_ (by simp)
    simp [go_sem, Wk_eq, hsu, rb, hbl]
   ·have hc1 : ¬ (nth x.cell i).tmod (g.cells + 1) < g.cells := fun h => hkne (hc h)
    rw [if_neg hc1] at hsu
    (repeat (first|with_reducible refine wV fun _=>?_|simp [go_sem, hel, e0, e3, e4, hrc, hrk]))
    refine ALoop.start (hrec (d - 1) (by omega) (i + 1) (by omega)) ?_ (by simp)
    simp [go_sem, Wk_eq, hsu, rb, hbl]
  ·obtain rfl : i = 6 := by omega
   have hal := madeAt_len g x 6
   rw [hcz] at hal
   have hqe : q = ⟨madeAt g x 6, handL g x 0 (min g.kinds.length 2), handL g x 1 (min g.kinds.length 2), x.rights.tmod pw, x.side.tmod 2⟩ := by rw [hq, ← hpw]; rfl
   clear hq
   have hq := hqe
   (repeat (first|with_reducible refine wV fun _=>?_|simp [go_sem, hel, e0, e3, e4]))
   refine ALoop.unroll ?_
   (repeat (first|with_reducible refine wV fun _=>?_|simp [go_sem, hel, e0, e3, e4]))
   have hz0 := handL_zero g x 0
   refine ALoop.start (ALoop.ind (α := Nat) (fun k => ⟨[(2, .ref 0 0 9 0 0), (3, .ref 1 0 18 0 0), (4, .ref 2 0 5 0 0), (5, .ref 19 0 5 0 0), (8, .v (.int .i64 0)), (9, .v (.int .i64 k))], [(0, .rows true 0 9 [eg]), (1, .rows true 0 18 [er]), (2, .rows true 0 5 [[AV.nils, AV.nils, AV.nils, .v (.int .i64 0), .v (.int .i64 0)]]), (6, .rows true 0 1 ((madeAt g x 6).map encI)), (19, .rows true 0 5 [[.sl 6 0 1 0 gc, .sl 21 0 1 0 g.kinds.length, AV.nils, .v (.int .i64 (x.rights.tmod pw)), .v (.int .i64 (x.side.tmod 2))]]), (21, .rows true 0 1 ((handL g x 0 k).map encI))], 22⟩)
    (fun d k => k + d = min g.kinds.length 2) ?_ (min g.kinds.length 2) 0 ?_) ?_ ?_
   ·rintro d k j1 hrec0
    (repeat (first|with_reducible refine wV fun _=>?_|simp [go_sem, hel, e0, e3, e4]))
    refine aIf.mkL (fun hj => ?_) (fun hj => ?_) <;> simp at hj
    ·have hk2 : k < 2 := by omega
     have hkk : k < g.kinds.length := by omega
     have hhv := hx.hv _ (nth_mem (l := x.hand) (i := 2 * 0 + k) (by rw [hx.h4]; omega))
     have hh1 : 0 ≤ nth x.hand (2 * 0 + k) ∧ nth x.hand (2 * 0 + k) ≤ 255 := hhv
     have hrh := rh (2 * 0 + k) (by omega)
     have m0 := Int.tmod_nonneg 3 hh1.1
     have hsu := handL_succ g x 0 k
     have hsk := handL_skip g x 0 k
     have hhl := handL_len g x 0 k
     have hV : handV g x 0 k = if (nth g.kinds k).keep = true then (if 250 < nth x.hand (2 * 0 + k) then 8 else (nth x.hand (2 * 0 + k)).tmod 3) else 0 := rfl
     simp only [Nat.mul_zero, Nat.zero_add, Nat.mul_one] at hrh hh1 m0 hV
     (repeat (first|with_reducible refine wV fun _=>?_|simp [go_sem, hel, e0, e3, e4, hkk]))
     refine aIf.mkL (fun hkeep => ?_) (fun hkeep => ?_)
     ·rw [if_pos hkeep] at hV
      have eI : ((k : Int)).toNat = k := by omega
      have eI2 : (k : Int) < 4 := by omega
      (repeat (first|with_reducible refine wV fun _=>?_|simp [go_sem, hel, e0, e3, e4, hkk, hrh, hhl, eI, eI2]))
      refine aIf.mkL (fun hbig => ?_) (fun hbig => ?_) <;> simp at hbig
      ·rw [if_pos hbig] at hV
       rw [hV] at hsu
       (repeat (first|with_reducible refine wV fun _=>?_|simp [go_sem, hel, e0, e3, e4, hkk, hrh, hhl]))
       refine ALoop.start (hrec0 (d - 1) (by omega) (k + 1) (by omega)) ?_ (by simp)
       simp [go_sem, Wk_eq, hsu, rb, hbl]
      ·rw [if_neg (by omega)] at hV
       rw [hV] at hsu
       (repeat (first|with_reducible refine wV fun _=>?_|simp [go_sem, hel, e0, e3, e4, hkk, hrh, hhl]))
       refine ALoop.start (hrec0 (d - 1) (by omega) (k + 1) (by omega)) ?_ (by simp)
       simp [go_sem, Wk_eq, hsu, rb, hbl]
     ·rw [if_neg (by simpa using hkeep)] at hV
      have hsk' := hsk hV
      (repeat (first|with_reducible refine wV fun _=>?_|simp [go_sem, hel, e0, e3, e4]))
      refine ALoop.start (hrec0 (d - 1) (by omega) (k + 1) (by omega)) ?_ (by simp)
      simp [go_sem, Wk_eq, hsk', rb, hbl]
    ·have hkm : k = min g.kinds.length 2 := by omega
     subst hkm
     (repeat (first|with_reducible refine wV fun _=>?_|simp [go_sem, hel, e0, e3, e4]))
     refine ALoop.unroll ?_
     (repeat (first|with_reducible refine wV fun _=>?_|simp [go_sem, hel, e0, e3, e4]))
     have hz1 := handL_zero g x 1
     refine ALoop.start (ALoop.ind (α := Nat) (fun k => ⟨[(2, .ref 0 0 9 0 0), (3, .ref 1 0 18 0 0), (4, .ref 2 0 5 0 0), (5, .ref 19 0 5 0 0), (8, .v (.int .i64 1)), (9, .v (.int .i64 k))], [(0, .rows true 0 9 [eg]), (1, .rows true 0 18 [er]), (2, .rows true 0 5 [[AV.nils, AV.nils, AV.nils, .v (.int .i64 0), .v (.int .i64 0)]]), (6, .rows true 0 1 ((madeAt g x 6).map encI)), (19, .rows true 0 5 [[.sl 6 0 1 0 gc, .sl 21 0 1 0 g.kinds.length, .sl 22 0 1 0 g.kinds.length, .v (.int .i64 (x.rights.tmod pw)), .v (.int .i64 (x.side.tmod 2))]]), (21, .rows true 0 1 ((handL g x 0 (min g.kinds.length 2)).map encI)), (22, .rows true 0 1 ((handL g x 1 k).map encI))], 23⟩)
      (fun d k => k + d = min g.kinds.length 2) ?_ (min g.kinds.length 2) 0 ?_) ?_ ?_
     ·rintro d k j1 hrec1
      (repeat (first|with_reducible refine wV fun _=>?_|simp [go_sem, hel, e0, e3, e4]))
      refine aIf.mkL (fun hj => ?_) (fun hj => ?_) <;> simp at hj
      ·have hk2 : k < 2 := by omega
       have hkk : k < g.kinds.length := by omega
       have hhv := hx.hv _ (nth_mem (l := x.hand) (i := 2 * 1 + k) (by rw [hx.h4]; omega))
       have hh1 : 0 ≤ nth x.hand (2 * 1 + k) ∧ nth x.hand (2 * 1 + k) ≤ 255 := hhv
       have hrh := rh (2 * 1 + k) (by omega)
       have m0 := Int.tmod_nonneg 3 hh1.1
       have hsu := handL_succ g x 1 k
       have hsk := handL_skip g x 1 k
       have hhl := handL_len g x 1 k
       have hV : handV g x 1 k = if (nth g.kinds k).keep = true then (if 250 < nth x.hand (2 * 1 + k) then 8 else (nth x.hand (2 * 1 + k)).tmod 3) else 0 := rfl
       simp only [Nat.mul_zero, Nat.zero_add, Nat.mul_one] at hrh hh1 m0 hV
       (repeat (first|with_reducible refine wV fun _=>?_|simp [go_sem, hel, e0, e3, e4, hkk]))
       refine aIf.mkL (fun hkeep => ?_) (fun hkeep => ?_)
       ·rw [if_pos hkeep] at hV
        have eI : (2 + (k : Int)).toNat = 2 + k := by omega
        have eI2 : 2 + (k : Int) < 4 := by omega
        (repeat (first|with_reducible refine wV fun _=>?_|simp [go_sem, hel, e0, e3, e4, hkk, hrh, hhl, eI, eI2]))
        refine aIf.mkL (fun hbig => ?_) (fun hbig => ?_) <;> simp at hbig
        ·rw [if_pos hbig] at hV
         rw [hV] at hsu
         (repeat (first|with_reducible refine wV fun _=>?_|simp [go_sem, hel, e0, e3, e4, hkk, hrh, hhl]))
         refine ALoop.start (hrec1 (d - 1) (by omega) (k + 1) (by omega)) ?_ (by simp)
         simp [go_sem, Wk_eq, hsu, rb, hbl]
        ·rw [if_neg (by omega)] at hV
         rw [hV] at hsu
         (repeat (first|with_reducible refine wV fun _=>?_|simp [go_sem, hel, e0, e3, e4, hkk, hrh, hhl]))
         refine ALoop.start (hrec1 (d - 1) (by omega) (k + 1) (by omega)) ?_ (by simp)
         simp [go_sem, Wk_eq, hsu, rb, hbl]
       ·rw [if_neg (by simpa using hkeep)] at hV
        have hsk' := hsk hV
        (repeat (first|with_reducible refine wV fun _=>?_|simp [go_sem, hel, e0, e3, e4]))
        refine ALoop.start (hrec1 (d - 1) (by omega) (k + 1) (by omega)) ?_ (by simp)
        simp [go_sem, Wk_eq, hsk', rb, hbl]
      ·have hkm : k = min g.kinds.length 2 := by omega
       subst hkm
       (repeat (first|with_reducible refine wV fun _=>?_|simp [go_sem, hel, e0, e3, e4]))
       (repeat (first|with_reducible refine wV fun _=>?_|simp [go_sem, hel, e0, e3, e4]))
       refine ALoop.unroll ?_
       (repeat (first|with_reducible refine wV fun _=>?_|simp [go_sem, hel, e0, e3, e4]))
       rw [hq]
       exact ⟨leV_frz rfl (by simp [hal]) (by simp [noH]) (by simp [List.take_of_length_le, hal]), leV_frz rfl (by simp [handL_len]) (by simp [noH]) (by simp [List.take_of_length_le, handL_len]), leV_frz rfl (by simp [handL_len]) (by simp [noH]) (by simp [List.take_of_length_le, handL_len]), .refl _, .refl _⟩
     ·omega
     ·simp [go_sem, Wk_eq, rb, hbl, hz1]
     ·simp
   ·omega
   ·simp [go_sem, Wk_eq, rb, hbl, hz0]
   ·simp
 ·rfl
 ·simp [go_sem, Wk_eq, rb, hbl, hz, hcz]
 ·simp
end Go.Av
end
section
/- Contracts, moves: Walk, Made of the reference. -/
open Go Go.Proofs
namespace Go.Av
theorem R6Walk_pure (g : GameD) (hg : GOk g) (p : PosD) (hp : POk g p) (picks : List Int) (hl : picks.length ≤ 4294967296) (hk : ∀ k ∈ picks, 0 ≤ k ∧ k ≤ 9223372036854775807) :
    Pure Tryz.prog 21 [.agg (encGame g), .agg (encPos p), encIs picks] (encPs (walkP g p picks)) := by
  refine pF Tryz.func21 ?_
  generalize hR : walkP g p picks = R
  (repeat (first|with_reducible refine wV fun _=>?_|simp [go_sem]))
  refine ALoop.start (ALoop.ind (α := Nat × List PosD × PosD) (fun a => ⟨[(2, encIs picks), (3, .ref 0 0 9 0 0), (4, .ref 1 0 5 0 0), (7, .sl 2 a.2.1.length 5 0 (a.2.1.length + 1)), (8, .v (.int .i64 a.1))], [(0, .rows true 0 9 [encGame g]), (1, .rows true 0 5 [encPos a.2.2]), (2, .rows true a.2.1.length 5 ((a.2.1 ++ [a.2.2]).map encPos))], 3⟩)
    (fun d a => a.1 + d = picks.length ∧ a.2.1.length = a.1 ∧ POk g a.2.2 ∧ R = a.2.1 ++ walkP g a.2.2 (picks.drop a.1)) ?_ picks.length (0, [], p) ?_) ?_ ?_
  · rintro d ⟨i, pre, cur⟩ ⟨i1, i2, i3, i4⟩ hrec
    simp only at i1 i2 i3 i4
    (repeat (first|with_reducible refine wV fun _=>?_|simp [go_sem]))
    refine aIf.mkL (fun hi => ?_) (fun hi => ?_) <;> simp at hi
    · have hM := R6Moves_pure g hg cur i3
      have hki := hk _ (nth_mem hi)
      have hml := movesP_len hg i3
      have hmo := movesP_ok hg i3
      rw [dropG_cons hi, walkP] at i4
      generalize movesP g cur = l at *
      (repeat (first|with_reducible refine wV fun _=>?_|simp [go_sem]))
      refine ACallP.plain hM (by simp [go_sem]) ?_
      (repeat (first|with_reducible refine wV fun _=>?_|simp [go_sem]))
      by_cases hz : l = []
      · rw [if_pos hz] at i4
        subst hz
        (repeat (first|with_reducible refine wV fun _=>?_|simp [go_sem]))
        rw [i4]
        exact frX
      · rw [if_neg hz] at i4
        have hlp : 0 < l.length := List.length_pos_iff.2 hz
        have e1 : (nth picks i).tmod l.length = (nth picks i).emod l.length := Int.tmod_eq_emod_of_nonneg hki.1
        have e2 : 0 ≤ (nth picks i).emod l.length := Int.emod_nonneg _ (by omega)
        have e3 : (nth picks i).emod l.length < l.length := Int.emod_lt_of_pos _ (by omega)
        generalize (nth picks i).emod l.length = j at *
        have hjl : j.toNat < l.length := by omega
        (repeat (first|with_reducible refine wV fun _=>?_|simp [go_sem, hi, hz, e1, hjl]))
        (refine aIf.mkL (fun hF => by first | omega | (simp at hF; omega)) (fun hF => ?_); clear hF)
        (repeat (first|with_reducible refine wV fun _=>?_|simp [go_sem, hjl]))
        refine ALoop.start (hrec (d - 1) (by omega) (i + 1, pre ++ [cur], nth l j.toNat) ⟨by simp only; omega, by simp; omega, (hmo _ (nth_mem hjl)).1, by simpa using i4⟩) ?_ (by simp)
        simp [go_sem, Wk_eq]
    · rw [List.drop_eq_nil_of_le hi, walkP] at i4
      (repeat (first|with_reducible refine wV fun _=>?_|simp [go_sem]))
      rw [i4]
      exact frX
  · exact ⟨by simp, rfl, hp, by simp [hR]⟩
  · simp [go_sem, Wk_eq]
  · simp
structure Raw6 where
  g : RawG
  p : RawP
  picks : List Int
structure Raw6Ok (x : Raw6) : Prop where
  g : RawOk x.g
  p : RawPOk x.p
  k : ∀ n ∈ x.picks, U8 n
  lk : x.picks.length ≤ 1099511627776
  l0 : x.g.k0.length ≤ 1099511627776
  l1 : x.g.k1.length ≤ 1099511627776
  lc : x.g.c.length ≤ 1099511627776
def encRaw6 (x : Raw6) : List AV := encRaw x.g ++ (encRawP x.p ++ [encUs x.picks])
def game6 (x : Raw6) : GameD := madeG x.g
def walk6 (x : Raw6) : List PosD := walkP (game6 x) (madePos (game6 x) x.p) (x.picks.take 6)
def pos6 (x : Raw6) : PosD := nth (walk6 x) ((walk6 x).length - 1)
theorem game6_ok {x : Raw6} (hx : Raw6Ok x) : GOk (game6 x) := madeG_ok hx.g
theorem pos6_ok {x : Raw6} (hx : Raw6Ok x) : POk (game6 x) (pos6 x) := by
  have hne := List.length_pos_iff.2 (walkP_ne (game6 x) (madePos (game6 x) x.p) (x.picks.take 6))
  exact walkP_ok (game6_ok hx) _ (madePos_ok (game6_ok hx) hx.p) _ (nth_mem (by unfold walk6; omega))
theorem R6Made_pure (x : Raw6) (hx : Raw6Ok x) : Pure Tryz.prog 16 [.agg (encRaw6 x)] (.tup [.agg (encGame (game6 x)), .agg (encPos (pos6 x))]) := by
  refine pF Tryz.func16 ?_
  have hg := game6_ok hx
  have hG := R3Made_pure x.g hx.g hx.lc hx.l0 hx.l1
  have hP := R4Made_pure (game6 x) hg x.p hx.p
  have hlk := hx.lk
  have hW := R6Walk_pure (game6 x) hg (madePos (game6 x) x.p) (madePos_ok hg hx.p) (x.picks.take 6) (by simp; omega) (fun k hk => by have := hx.k k (List.mem_of_mem_take hk); have h0 := this.1; have h1 := this.2; omega)
  have hwl := walkP_len (game6 x) (x.picks.take 6) (madePos (game6 x) x.p)
  have hwp := List.length_pos_iff.2 (walkP_ne (game6 x) (madePos (game6 x) x.p) (x.picks.take 6))
  rw [show walkP (game6 x) (madePos (game6 x) x.p) (x.picks.take 6) = walk6 x from rfl] at hW hwl hwp
  have hq : pos6 x = nth (walk6 x) ((walk6 x).length - 1) := rfl
  rw [show madeG x.g = game6 x from rfl] at hG
  obtain ⟨eg, heg⟩ : ∃ eg, eg = encGame (game6 x) := ⟨_, rfl⟩
  have hegl : eg.length = 9 := by rw [heg]; rfl
  have hegb : ∀ n, (∀ c ∈ eg, Bel n c) = True := fun n => by rw [heg]; simp [go_sem]
  rw [← heg] at hG hP hW ⊢
  generalize walk6 x = w at *
  generalize pos6 x = q at *
  unfold encRaw6
  have hrow := rawRow hx.p
  obtain ⟨er, her⟩ : ∃ er, er = encRawP x.p := ⟨_, rfl⟩
  rw [← her] at hrow hP ⊢
  obtain ⟨rl, _, _, _, _, _, rb⟩ := hrow
  obtain ⟨er1, her1⟩ : ∃ er1, er1 = encRaw x.g := ⟨_, rfl⟩
  have er1l : er1.length = 12 := by rw [her1]; rfl
  have er1b : ∀ n, (∀ c ∈ er1, Bel n c) = True := fun n => by rw [her1]; simp [go_sem]
  rw [← her1] at hG ⊢
  have hc30 : cel (er1 ++ (er ++ [AV.lst 1 (x.picks.map encU)])) 30 = .lst 1 (x.picks.map encU) := by
    unfold cel
    rw [List.getD_eq_getElem?_getD, List.getElem?_append_right (by omega), List.getElem?_append_right (by omega)]
    simp [er1l, rl]
  have hd12 : List.take 18 (List.drop 12 (er1 ++ (er ++ [AV.lst 1 (x.picks.map encU)]))) = er := by
    rw [← er1l, List.drop_left, ← rl, List.take_left]
  (repeat (first|with_reducible refine wV fun _=>?_|simp [go_sem, rl, rb, er1l, er1b, hegl, hegb]))
  refine ACallP.plain hG (by simp [go_sem, er1b]) ?_
  (repeat (first|with_reducible refine wV fun _=>?_|simp [go_sem, rl, rb, er1l, er1b, hegl, hegb, hc30]))
  obtain ⟨pk, hpk⟩ : ∃ pk : Nat → List Int, ∀ i, pk i = x.picks.take i := ⟨_, fun _ => rfl⟩
  have htl : ∀ i, i ≤ x.picks.length → (pk i).length = i := fun i hi => by rw [hpk]; simp; omega
  have hts : ∀ i, i < x.picks.length → pk (i + 1) = pk i ++ [nth x.picks i] := fun i hi => by rw [hpk, hpk, List.take_add_one, List.getElem?_eq_getElem hi, nth_eq _ _ hi]; rfl
  have hp0 : pk 0 = [] := by rw [hpk]; rfl
  rw [← hpk] at hW
  refine ALoop.start (ALoop.ind (α := Nat) (fun i => ⟨[(1, .ref 0 0 31 0 0), (2, .ref 1 0 9 0 0), (3, .ref 2 0 5 0 0), (4, .ref 3 0 9 0 0), (5, .sl 4 i 1 0 i), (6, .v (.int .i64 i))],
      [(0, .rows true 0 31 [er1 ++ (er ++ [AV.lst 1 (x.picks.map encU)])]), (1, .rows true 0 9 [[.v (.int .i64 0), AV.nils, AV.nils, AV.nils, .v (.int .i64 0), .v (.bool false), AV.nils, .v (.int .i64 0), .v (.int .i64 0)]]),
       (2, .rows true 0 5 [[AV.nils, AV.nils, AV.nils, .v (.int .i64 0), .v (.int .i64 0)]]), (3, .rows true 0 9 [eg]), (4, .rows true i 1 ((pk i).map encI))], 5⟩)
    (fun d i => i + d = min x.picks.length 6) ?_ (min x.picks.length 6) 0 ?_) ?_ ?_
  · rintro d i i1 hrec
    (repeat (first|with_reducible refine wV fun _=>?_|simp [go_sem, rl, rb, er1l, er1b, hegl, hegb, hc30]))
    refine aIf.mkL (fun hi => ?_) (fun hi => ?_) <;> simp at hi
    · have hil : i < x.picks.length := by omega
      have hki := hx.k _ (nth_mem hil)
      have hk0 := hki.1
      have hk1 := hki.2
      have e1 := htl i (by omega)
      have e2 := hts i hil
      (repeat (first|with_reducible refine wV fun _=>?_|simp [go_sem, rl, er1l, hc30, hil, e1]))
      refine ALoop.start (hrec (d - 1) (by omega) (i + 1) (by omega)) ?_ (by simp)
      simp [go_sem, Wk_eq, e2, rb, er1b, hegb]
    · have hil : i = min x.picks.length 6 := by omega
      have e1 := htl i (by omega)
      have e2 : pk i = pk 6 := by rw [hpk, hpk, hil, List.take_eq_take_iff]; omega
      rw [← e2] at hW
      (repeat (first|with_reducible refine wV fun _=>?_|simp [go_sem, rl, rb, er1l, er1b, hegl, hegb, hd12]))
      refine dCall.plain hP (by simp [go_sem, hegb, rb]) ?_
      (repeat (first|with_reducible refine wV fun _=>?_|simp [go_sem, rl, rb, er1l, er1b, hegl, hegb]))
      refine dCall.frz [.agg eg, .agg (encPos (madePos (game6 x) x.p)), encIs (pk i)] _ [4] [(4, some (.rows false i 1 ((pk i).map encI)))] hW ?_ ?_ (by simp [go_sem, hegb]) ?_
      · intro p hp
        simp only [List.mem_singleton] at hp
        subst hp
        exact ⟨by simp, i, 1, _, rfl, by simp [upd]⟩
      · intro h₁ hS
        have h7 := hS 4 (by simp)
        simp [upd] at h7
        exact .cons (.refl _) (.cons (.refl _) (.cons (leV_frz h7.symm (by simp [e1]) (by simp [applyW, upd]) (by rw [List.drop_zero, List.take_of_length_le (by simp [e1])])) .nil))
      · have h6 : (x.picks.take 6).length ≤ 6 := by simp; omega
        have hw7 : w.length ≤ 7 := by omega
        have hwi : ((w.length : Int) - 1).toNat = w.length - 1 := by omega
        have hwn : w.length - 1 < w.length := by omega
        rw [hq]
        (repeat (first|with_reducible refine wV fun _=>?_|simp [go_sem, rl, rb, er1l, er1b, hegl, hegb, hwi, hwn]))
  · omega
  · simp [go_sem, Wk_eq, rb, er1b, hegb, hp0]
  · simp
theorem raw6_len {x : Raw6} (hx : Raw6Ok x) : (encRaw6 x).length = 31 := by
  obtain ⟨rl, _, _, _, _, _, rb⟩ := rawRow hx.p
  simp [encRaw6, encRaw, rl]
theorem raw6_bel {x : Raw6} (hx : Raw6Ok x) (n : Nat) : (∀ c ∈ encRaw6 x, Bel n c) = True := by
  obtain ⟨rl, _, _, _, _, _, rb⟩ := rawRow hx.p
  refine eq_true ?_
  intro c hc
  unfold encRaw6 at hc
  rcases List.mem_append.1 hc with h | h
  · have : (∀ c ∈ encRaw x.g, Bel n c) = True := by simp [go_sem]
    exact of_eq_true this c h
  · rcases List.mem_append.1 h with h | h
    · exact of_eq_true (rb n) c h
    · simp only [List.mem_singleton] at h
      subst h
      simp [go_sem]
end Go.Av
end
section
/- Plain: codes fit; programs that are made slide at most once. -/
open Go Go.Proofs
namespace Go.Av
theorem sideP_nth (g : GameD) (s : Int) {k c : Nat} (hk : k < g.kinds.length) (hc : c < g.cells.toNat) : nth (nth (sideP g s) k) c = kindP g.board s (nth g.kinds k).progs c := by
 unfold sideP
 rw [nth_map _ _ _ hk]
 have hc' : c < (List.range g.board.cells.toNat).length := by rw [List.length_range]; exact hc
 show nth ((List.range g.board.cells.toNat).map fun (c : Nat) => kindP g.board s (nth g.kinds k).progs c) c = _
 rw [nth_map _ _ _ hc', nth_eq _ _ hc', List.getElem_range]
structure FitC (g : GameD) (c : CodeD) : Prop where
 sh : ShapeOk g c
 len : ∀ l ∈ c.1 ++ c.2, ∀ x ∈ l, x.length ≤ 1099511627776 ∧ ActsLe 1048576 x
theorem fit_codeP {g : GameD} (hg : GOk g) : FitC g (codeP g) := by
 refine ⟨shape_codeP hg, ?_⟩
 have h : ∀ s, ∀ l ∈ sideP g s, ∀ x ∈ l, x.length ≤ 1099511627776 ∧ ActsLe 1048576 x := by
  intro s l hl x hx
  obtain ⟨k, hk, rfl⟩ := List.mem_map.1 hl
  obtain ⟨c, _, rfl⟩ := List.mem_map.1 hx
  exact ⟨by have := kindP_len hg s hk (c : Nat); omega, kindP_acts hg s hk _⟩
 intro l hl
 rcases List.mem_append.1 hl with hl | hl
 ·exact h 0 l hl
 ·exact h 1 l hl
theorem FitC.side {g : GameD} {c : CodeD} (h : FitC g c) {s : Nat} (hs : s < 2) : ∃ l, cel [encSide c.1, encSide c.2] s = encSide l ∧ l.length = g.kinds.length ∧ (∀ x ∈ l, (x.length : Int) = g.cells) ∧ ∀ x ∈ l, ∀ y ∈ x, y.length ≤ 1099511627776 ∧ ActsLe 1048576 y := by
 rcases (show s = 0 ∨ s = 1 by omega) with rfl | rfl
 ·exact ⟨_, rfl, h.sh.l1, h.sh.c1, fun x hx => h.len x (by simp [hx])⟩
 ·exact ⟨_, rfl, h.sh.l2, h.sh.c2, fun x hx => h.len x (by simp [hx])⟩
theorem libL_slide (d e k r : Int) (i : Nat) : countOp (nth (libL d e k r) i) 2 ≤ 1 := by
 rcases Nat.lt_or_ge i 16 with h | h
 ·have : ∀ p ∈ libL d e k r, countOp p 2 ≤ 1 := by
   intro p hp
   simp only [libL, List.mem_cons, List.not_mem_nil, or_false] at hp
   rcases hp with rfl | rfl | rfl | rfl | rfl | rfl | rfl | rfl | rfl | rfl | rfl | rfl | rfl | rfl | rfl | rfl <;> simp [countOp]
  exact this _ (nth_mem h)
 ·have e : nth (libL d e k r) i = [] := by
   unfold nth
   rw [List.getD_eq_getElem?_getD, List.getElem?_eq_none (by exact h)]; rfl
  rw [e]
  simp [countOp]
theorem fitP_slide {dirs kinds rights : Int} {p : List (Int × Int)} (h : countOp p 2 ≤ 1) : countOp (fitP dirs kinds rights p) 2 ≤ 1 := by
 unfold fitP
 split
 ·simp [countOp]
 ·exact Nat.le_trans (fit_count 2 p) h
theorem madeG_slide (x : RawG) : OneSlide (madeG x) := by
 intro k hk p hp
 obtain ⟨i, _, rfl⟩ := List.mem_map.1 hk
 obtain ⟨n, _, rfl⟩ := List.mem_map.1 hp
 exact fitP_slide (libL_slide _ _ _ _ _)
end Go.Av
end
