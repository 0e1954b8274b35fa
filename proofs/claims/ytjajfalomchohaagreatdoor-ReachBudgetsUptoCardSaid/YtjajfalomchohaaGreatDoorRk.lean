/- Contracts: reach.Check, skewerref27.Check. -/
import Derived.Test.YtjajfalomchohaaGreatDoorHL
import Derived.Test.YtjajfalomchohaaGreatDoorGR
import Derived.Test.YtjajfalomchohaaGreatDoorGO
import GoSem.ClaimJoined
import Derived.Test.YtjajfalomchohaaGreatDoorCards
import Derived.Test.YtjajfalomchohaaGreatDoorTie
import Derived.Deep.DeepHandedRow
import Derived.LaidHandle
import Derived.LaidMore
set_option linter.unusedSimpArgs false
set_option linter.unusedVariables false
section
open Go Go.Proofs
set_option maxRecDepth 20000
set_option maxHeartbeats 4000000
namespace Go.Av
def checkP (g : GameD) (s q : PosD) (l : List PosD) : Bool := decide (l ≠ [] ∧ nth l 0 = s ∧ nth l (l.length - 1) = q ∧ ∀ j, j < l.length - 1 → nth l (j + 1) ∈ movesP g (nth l j))
theorem checkP_false {g : GameD} {s q : PosD} {l : List PosD} (h : ¬ (l ≠ [] ∧ nth l 0 = s ∧ nth l (l.length - 1) = q ∧ ∀ j, j < l.length - 1 → nth l (j + 1) ∈ movesP g (nth l j))) : checkP g s q l = false := decide_eq_false h
theorem Check_pure (g : GameD) (hg : GOk g) (s q : PosD) (hs : FitsP s) (hq : FitsP q) (l : List PosD) (hl : l.length ≤ 17179869184) (hp : ∀ x ∈ l, POk g x) :
  Pure Tryz.prog 25 [.agg (encGame g), .agg (encPos s), .agg (encPos q), encPs l] (.v (.bool (checkP g s q l))) := by
 refine pF Tryz.func25 ?_
 have hC := fun x (hx : x ∈ l) y (hy : FitsP y) => pCompare_pure x y ((hp x hx).fits hg) hy
 have hL := fun x (hx : x ∈ l) y (hy : y ∈ l) => Legal_pure g hg x (hp x hx) y ((hp y hy).fits hg)
 by_cases hl0 : l = []
 ·have hc : checkP g s q l = false := checkP_false (by simp [hl0])
  rw [hc]
  subst hl0
  (repeat (first|with_reducible (first|refine wL fun _=>?_|refine wD fun _=>?_|refine wE ?_|refine wZ ?_)|simp [go_sem]))
  refine dGC.skip (.v (.int .i64 0)) ?_
  (repeat (first|with_reducible (first|refine wL fun _=>?_|refine wD fun _=>?_|refine wE ?_|refine wZ ?_)|simp [go_sem]))
  refine dGC.skip (.v (.int .i64 0)) ?_
  (repeat (first|with_reducible (first|refine wL fun _=>?_|refine wD fun _=>?_|refine wE ?_|refine wZ ?_)|simp [go_sem]))
 ·have hlp := List.length_pos_iff.2 hl0
  have hm1 := nth_mem (l := l) (i := 0) hlp
  have hm2 := nth_mem (l := l) (i := l.length - 1) (by omega)
  have h1 := hC _ hm1 s hs
  have h2 := hC _ hm2 q hq
  have hnm : nth (l.map encPos) (l.length - 1) = encPos (nth l (l.length - 1)) := nth_map _ _ _ (by omega)
  have e1 : cmpP (nth l 0) s = 0 ↔ nth l 0 = s := cmpP_eq
  have e2 : cmpP (nth l (l.length - 1)) q = 0 ↔ nth l (l.length - 1) = q := cmpP_eq
  obtain ⟨c, hc⟩ : ∃ c, c = checkP g s q l := ⟨_, rfl⟩
  have hcf : ¬ (l ≠ [] ∧ nth l 0 = s ∧ nth l (l.length - 1) = q ∧ ∀ j, j < l.length - 1 → nth l (j + 1) ∈ movesP g (nth l j)) → c = false := fun h => hc.trans (checkP_false h)
  have hct : (l ≠ [] ∧ nth l 0 = s ∧ nth l (l.length - 1) = q ∧ ∀ j, j < l.length - 1 → nth l (j + 1) ∈ movesP g (nth l j)) → c = true := fun h => hc.trans (decide_eq_true h)
  rw [← hc]
  clear hc
  have hegl : (encGame g).length = 9 := rfl
  have hegb : ∀ n, (∀ c ∈ encGame g, Bel n c) = True := fun n => by simp [go_sem]
  generalize encGame g = eg at *
  (repeat (first|with_reducible (first|refine wL fun _=>?_|refine wD fun _=>?_|refine wE ?_|refine wZ ?_)|simp [go_sem, hegl, hl0, hlp]))
  refine dGC.plain _ (fun _ => h1) (by simp [go_sem]) ?_
  generalize cmpP (nth l 0) s = a at *
  by_cases ha : a = 0
  ·(repeat (first|with_reducible (first|refine wL fun _=>?_|refine wD fun _=>?_|refine wE ?_|refine wZ ?_)|simp [go_sem, hegl, hl0, hlp, ha, hnm]))
   refine dGC.plain _ (fun _ => h2) (by simp [go_sem]) ?_
   generalize cmpP (nth l (l.length - 1)) q = b at *
   by_cases hb : b = 0
   ·(repeat (first|with_reducible (first|refine wL fun _=>?_|refine wD fun _=>?_|refine wE ?_|refine wZ ?_)|simp [go_sem, hegl, hl0, hlp, ha, hnm, hb]))
    have hct' := fun h => hct ⟨hl0, e1.1 ha, e2.1 hb, h⟩
    have hcf' := fun (h : ¬ ∀ j, j < l.length - 1 → nth l (j + 1) ∈ movesP g (nth l j)) => hcf (fun h' => h h'.2.2.2)
    clear hcf hct hC
    refine ALoop.start (ALoop.ind (α := Nat) (fun i => ⟨[(3, encPs l), (4, .ref 0 0 9 0 0), (34, .v (.int .i64 ((l.length - 1 : Nat) : Int))), (35, .v (.int .i64 i))], [(0, .rows true 0 9 [eg])], 3⟩)
     (fun d i => i + d = l.length - 1 ∧ ∀ j, j < i → nth l (j + 1) ∈ movesP g (nth l j)) ?_ (l.length - 1) 0 ?_) ?_ ?_
    ·rintro d i ⟨i1, i2⟩ hrec
     (repeat (first|with_reducible (first|refine wL fun _=>?_|refine wD fun _=>?_|refine wE ?_|refine wZ ?_)|simp [go_sem, hegl]))
     refine aIf.mkL (fun hi => ?_) (fun hi => ?_) <;> simp at hi
     ·have hi1 : i < l.length := by omega
      have hi2 : i + 1 < l.length := by omega
      have h := hL _ (nth_mem hi1) _ (nth_mem hi2)
      have hdb : decide (nth l (i + 1) ∈ movesP g (nth l i)) = true ↔ nth l (i + 1) ∈ movesP g (nth l i) := decide_eq_true_iff
      generalize decide (nth l (i + 1) ∈ movesP g (nth l i)) = m at *
      (repeat (first|with_reducible (first|refine wL fun _=>?_|refine wD fun _=>?_|refine wE ?_|refine wZ ?_)|simp [go_sem, hegl, hi1, hi2]))
      refine dCall.plain h (by simp [go_sem, hegb]) ?_
      cases m
      ·have : c = false := hcf' (fun h => by have := hdb.2 (h i (by omega)); simp at this)
       subst this
       (repeat (first|with_reducible (first|refine wL fun _=>?_|refine wD fun _=>?_|refine wE ?_|refine wZ ?_)|simp [go_sem, hegl]))
      ·(repeat (first|with_reducible (first|refine wL fun _=>?_|refine wD fun _=>?_|refine wE ?_|refine wZ ?_)|simp [go_sem, hegl]))
       refine ALoop.start (hrec (d - 1) (by omega) (i + 1) ⟨by omega, fun j hj => ?_⟩) ?_ (by simp)
       ·rcases Nat.lt_or_ge j i with h | h
        ·exact i2 j h
        ·obtain rfl : j = i := by omega
         exact hdb.1 rfl
       ·simp [go_sem, Wk_eq, hegb]
     ·have : c = true := hct' (fun j hj => i2 j (by omega))
      subst this
      (repeat (first|with_reducible (first|refine wL fun _=>?_|refine wD fun _=>?_|refine wE ?_|refine wZ ?_)|simp [go_sem, hegl]))
    ·exact ⟨by omega, fun j hj => by omega⟩
    ·simp [go_sem, Wk_eq, hegb]
    ·simp
   ·have : c = false := hcf (fun h => hb (e2.2 h.2.2.1))
    subst this
    (repeat (first|with_reducible (first|refine wL fun _=>?_|refine wD fun _=>?_|refine wE ?_|refine wZ ?_)|simp [go_sem, hegl, hl0, hlp, ha, hnm, hb]))
  ·have : c = false := hcf (fun h => ha (e1.2 h.2.1))
   subst this
   (repeat (first|with_reducible (first|refine wL fun _=>?_|refine wD fun _=>?_|refine wE ?_|refine wZ ?_)|simp [go_sem, hegl, hl0, hlp, ha]))
   refine dGC.skip (.v (.int .i64 0)) ?_
   (repeat (first|with_reducible (first|refine wL fun _=>?_|refine wD fun _=>?_|refine wE ?_|refine wZ ?_)|simp [go_sem, hegl, hl0, hlp, ha]))
theorem Check27_pure (g : GameD) (hg : GOk g) (s q : PosD) (hs : FitsP s) (hq : FitsP q) (l : List PosD) (hl : l.length ≤ 17179869184) (hp : ∀ x ∈ l, POk g x) :
  Pure Tryz.prog 26 [.agg (encGame g), .agg (encPos s), .agg (encPos q), encPs l] (.v (.bool (checkP g s q l))) := by
 refine pF Tryz.func26 ?_
 have hC := fun x (hx : x ∈ l) y (hy : FitsP y) => R4Same_pure x y ((hp x hx).fits hg) hy
 have hL := fun x (hx : x ∈ l) y (hy : y ∈ l) => R6Legal_pure g hg x (hp x hx) y ((hp y hy).fits hg)
 by_cases hl0 : l = []
 ·have hc : checkP g s q l = false := checkP_false (by simp [hl0])
  rw [hc]
  subst hl0
  (repeat (first|with_reducible (first|refine wL fun _=>?_|refine wD fun _=>?_|refine wE ?_|refine wZ ?_)|simp [go_sem]))
  refine dGC.skip (.v (.bool true)) ?_
  (repeat (first|with_reducible (first|refine wL fun _=>?_|refine wD fun _=>?_|refine wE ?_|refine wZ ?_)|simp [go_sem]))
  refine dGC.skip (.v (.bool true)) ?_
  (repeat (first|with_reducible (first|refine wL fun _=>?_|refine wD fun _=>?_|refine wE ?_|refine wZ ?_)|simp [go_sem]))
 ·have hlp := List.length_pos_iff.2 hl0
  have hm1 := nth_mem (l := l) (i := 0) hlp
  have hm2 := nth_mem (l := l) (i := l.length - 1) (by omega)
  have h1 := hC _ hm1 s hs
  have h2 := hC _ hm2 q hq
  have hnm : nth (l.map encPos) (l.length - 1) = encPos (nth l (l.length - 1)) := nth_map _ _ _ (by omega)
  have e1 : decide (cmpP (nth l 0) s = 0) = true ↔ nth l 0 = s := decide_eq_true_iff.trans cmpP_eq
  have e2 : decide (cmpP (nth l (l.length - 1)) q = 0) = true ↔ nth l (l.length - 1) = q := decide_eq_true_iff.trans cmpP_eq
  obtain ⟨c, hc⟩ : ∃ c, c = checkP g s q l := ⟨_, rfl⟩
  have hcf : ¬ (l ≠ [] ∧ nth l 0 = s ∧ nth l (l.length - 1) = q ∧ ∀ j, j < l.length - 1 → nth l (j + 1) ∈ movesP g (nth l j)) → c = false := fun h => hc.trans (checkP_false h)
  have hct : (l ≠ [] ∧ nth l 0 = s ∧ nth l (l.length - 1) = q ∧ ∀ j, j < l.length - 1 → nth l (j + 1) ∈ movesP g (nth l j)) → c = true := fun h => hc.trans (decide_eq_true h)
  rw [← hc]
  clear hc
  have hegl : (encGame g).length = 9 := rfl
  have hegb : ∀ n, (∀ c ∈ encGame g, Bel n c) = True := fun n => by simp [go_sem]
  generalize encGame g = eg at *
  (repeat (first|with_reducible (first|refine wL fun _=>?_|refine wD fun _=>?_|refine wE ?_|refine wZ ?_)|simp [go_sem, hegl, hl0, hlp]))
  refine dGC.plain _ (fun _ => h1) (by simp [go_sem]) ?_
  generalize decide (cmpP (nth l 0) s = 0) = a at *
  cases a
  ·have : c = false := hcf (fun h => by have := e1.2 h.2.1; simp at this)
   subst this
   (repeat (first|with_reducible (first|refine wL fun _=>?_|refine wD fun _=>?_|refine wE ?_|refine wZ ?_)|simp [go_sem, hegl, hl0, hlp]))
   refine dGC.skip (.v (.bool true)) ?_
   (repeat (first|with_reducible (first|refine wL fun _=>?_|refine wD fun _=>?_|refine wE ?_|refine wZ ?_)|simp [go_sem, hegl, hl0, hlp]))
  ·(repeat (first|with_reducible (first|refine wL fun _=>?_|refine wD fun _=>?_|refine wE ?_|refine wZ ?_)|simp [go_sem, hegl, hl0, hlp, hnm]))
   refine dGC.plain _ (fun _ => h2) (by simp [go_sem]) ?_
   generalize decide (cmpP (nth l (l.length - 1)) q = 0) = b at *
   cases b
   ·have : c = false := hcf (fun h => by have := e2.2 h.2.2.1; simp at this)
    subst this
    (repeat (first|with_reducible (first|refine wL fun _=>?_|refine wD fun _=>?_|refine wE ?_|refine wZ ?_)|simp [go_sem, hegl, hl0, hlp, hnm]))
   ·(repeat (first|with_reducible (first|refine wL fun _=>?_|refine wD fun _=>?_|refine wE ?_|refine wZ ?_)|simp [go_sem, hegl, hl0, hlp, hnm]))
    have hct' := fun h => hct ⟨hl0, e1.1 rfl, e2.1 rfl, h⟩
    have hcf' := fun (h : ¬ ∀ j, j < l.length - 1 → nth l (j + 1) ∈ movesP g (nth l j)) => hcf (fun h' => h h'.2.2.2)
    clear hcf hct hC
    refine ALoop.start (ALoop.ind (α := Nat) (fun i => ⟨[(3, encPs l), (4, .ref 0 0 9 0 0), (9, .v (.int .i64 (i + 1)))], [(0, .rows true 0 9 [eg])], 3⟩)
     (fun d i => i + d = l.length - 1 ∧ ∀ j, j < i → nth l (j + 1) ∈ movesP g (nth l j)) ?_ (l.length - 1) 0 ?_) ?_ ?_
    ·rintro d i ⟨i1, i2⟩ hrec
     (repeat (first|with_reducible (first|refine wL fun _=>?_|refine wD fun _=>?_|refine wE ?_|refine wZ ?_)|simp [go_sem, hegl]))
     refine aIf.mkL (fun hi => ?_) (fun hi => ?_) <;> simp at hi
     ·have hi1 : i < l.length := by omega
      have hi2 : i + 1 < l.length := by omega
      have h := hL _ (nth_mem hi1) _ (nth_mem hi2)
      have hdb : decide (nth l (i + 1) ∈ movesP g (nth l i)) = true ↔ nth l (i + 1) ∈ movesP g (nth l i) := decide_eq_true_iff
      generalize decide (nth l (i + 1) ∈ movesP g (nth l i)) = m at *
      (repeat (first|with_reducible (first|refine wL fun _=>?_|refine wD fun _=>?_|refine wE ?_|refine wZ ?_)|simp [go_sem, hegl, hi1, hi2]))
      refine dCall.plain h (by simp [go_sem, hegb]) ?_
      cases m
      ·have : c = false := hcf' (fun h => by have := hdb.2 (h i (by omega)); simp at this)
       subst this
       (repeat (first|with_reducible (first|refine wL fun _=>?_|refine wD fun _=>?_|refine wE ?_|refine wZ ?_)|simp [go_sem, hegl]))
      ·(repeat (first|with_reducible (first|refine wL fun _=>?_|refine wD fun _=>?_|refine wE ?_|refine wZ ?_)|simp [go_sem, hegl]))
       refine ALoop.start (hrec (d - 1) (by omega) (i + 1) ⟨by omega, fun j hj => ?_⟩) ?_ (by simp)
       ·rcases Nat.lt_or_ge j i with h | h
        ·exact i2 j h
        ·obtain rfl : j = i := by omega
         exact hdb.1 rfl
       ·simp [go_sem, Wk_eq, hegb]
     ·have : c = true := hct' (fun j hj => i2 j (by omega))
      subst this
      (repeat (first|with_reducible (first|refine wL fun _=>?_|refine wD fun _=>?_|refine wE ?_|refine wZ ?_)|simp [go_sem, hegl]))
    ·exact ⟨by omega, fun j hj => by omega⟩
    ·simp [go_sem, Wk_eq, hegb]
    ·simp
end Go.Av
end
section
open Go Go.Proofs
set_option maxRecDepth 20000
set_option maxHeartbeats 4000000
namespace Go.Av
end Go.Av
end
section
open Go Go.Proofs
set_option maxRecDepth 20000
set_option maxHeartbeats 4000000
namespace Go.Av
end Go.Av
end
section
open Go Go.Proofs
set_option maxRecDepth 20000
set_option maxHeartbeats 4000000
namespace Go.Av
def at6 (a b c side : Int) : PosD := ⟨[a, b, c], [0], [0], 0, side⟩
def small6 : GameD := ⟨3, [[1, 2, -1], [-1, 0, 1]], [1, 0], [⟨⟨⟨[97]⟩⟩, [[(1, 0), (3, 0)], [(1, 0), (4, 0), (6, 0)]], false⟩], 0, false, [], 3, 2⟩
end Go.Av
end
section
open Go Go.Proofs
set_option maxRecDepth 20000
set_option maxHeartbeats 4000000
namespace Go.Av
theorem handOk6 : HandOk small6 [0] := ⟨rfl, fun i hi => by
 obtain rfl : i = 0 := by simpa using hi
 exact ⟨by decide, by decide, by decide⟩⟩
theorem at6_ok (a b c side : Int) (ha : 0 ≤ a ∧ a ≤ 2) (hb : 0 ≤ b ∧ b ≤ 2) (hc : 0 ≤ c ∧ c ≤ 2) (hs : side = 0 ∨ side = 1) : POk small6 (at6 a b c side) :=
 ⟨rfl, by
  intro x hx
  simp only [at6, List.mem_cons, List.not_mem_nil, or_false] at hx
  have : (small6.kinds.length : Int) = 1 := rfl
  rcases hx with rfl | rfl | rfl <;> omega, handOk6, handOk6, by simp [at6], by simp [at6, small6], hs⟩
theorem small6_ok : GOk small6 := by
 refine ⟨?_, by decide, by decide, by decide, by decide, ?_, by decide, by decide, ?_, ?_, by decide, by decide, ?_, by decide, by decide, by decide⟩
 ·refine ⟨?_, ?_, ?_, ?_, ?_, ?_, ?_⟩ <;> first | decide | skip
 ·intro d hd
  have : d = 0 ∨ d = 1 := by
   have : small6.turn.length = 2 := rfl
   omega
  rcases this with rfl | rfl <;> decide
 ·intro k hk
  simp only [small6, List.mem_singleton] at hk
  subst hk
  decide
 ·intro k hk q hq
  simp only [small6, List.mem_singleton] at hk
  subst hk
  simp only [List.mem_cons, List.not_mem_nil, or_false] at hq
  rcases hq with rfl | rfl
  ·refine ⟨by decide, by decide, fun x hx => ?_, by decide, by decide, by decide⟩
   simp only [List.mem_cons, List.not_mem_nil, or_false] at hx
   rcases hx with rfl | rfl <;> exact ⟨by decide, by decide, by decide, by decide, by decide⟩
  ·refine ⟨by decide, by decide, fun x hx => ?_, by decide, by decide, by decide⟩
   simp only [List.mem_cons, List.not_mem_nil, or_false] at hx
   rcases hx with rfl | rfl | rfl <;> exact ⟨by decide, by decide, by decide, by decide, by decide⟩
 ·intro c hc
  simp [small6] at hc
end Go.Av
end
section
open Go Go.Proofs
set_option maxRecDepth 20000
set_option maxHeartbeats 4000000
namespace Go.Av
def encFound (x : List PosD × Int) : AV := .agg [encPs x.1, .v (.int .i64 x.2)]
theorem found_pure (g : GameD) (hg : GOk g) (p : PosD) (hp : POk g p) (goal : PosD) (hq : FitsP goal) (n : Int) :
  Pure Tryz.prog 23 [.agg (encGame g), .agg (encPos p), .agg (encPos goal), .v (.int .i64 n)] (encFound (gameP g p goal n)) := by
 refine pF Tryz.func23 ?_
 have hG := Game_pure g hg p hp goal hq n
 generalize gameP g p goal n = x at *
 unfold encFound
 (repeat (first|with_reducible (first|refine wL fun _=>?_|refine wD fun _=>?_|refine wE ?_|refine wZ ?_)|simp [go_sem]))
 refine ACallP.plain hG (by simp [go_sem]) ?_
 (repeat (first|with_reducible (first|refine wL fun _=>?_|refine wD fun _=>?_|refine wE ?_|refine wZ ?_)|simp [go_sem]))
theorem Same27_pure (a b : List PosD × Int) (ha : a.1.length ≤ 17179869184) (hb : b.1.length ≤ 17179869184) (hfa : ∀ p ∈ a.1, FitsP p) (hfb : ∀ p ∈ b.1, FitsP p) :
  Pure Tryz.prog 22 [encFound a, encFound b] (.v (.bool (decide (a = b)))) := by
 refine pF Tryz.func22 ?_
 have hS := SameLists_pure a.1 b.1 ha hb hfa hfb
 have e : decide (a = b) = (decide (a.1 = b.1) && decide (a.2 = b.2)) := by
  rw [← Bool.decide_and, decide_eq_decide]
  exact Prod.ext_iff
 rw [e]
 generalize decide (a.1 = b.1) = s at *
 unfold encFound
 (repeat (first|with_reducible (first|refine wL fun _=>?_|refine wD fun _=>?_|refine wE ?_|refine wZ ?_)|simp [go_sem]))
 refine ACallP.plain hS (by simp [go_sem]) ?_
 cases s
 ·(repeat (first|with_reducible (first|refine wL fun _=>?_|refine wD fun _=>?_|refine wE ?_|refine wZ ?_)|simp [go_sem]))
 ·(repeat (first|with_reducible (first|refine wL fun _=>?_|refine wD fun _=>?_|refine wE ?_|refine wZ ?_)|simp [go_sem]))
theorem at27_pure (a b c side : Int) : Pure Tryz.prog 69 [.v (.int .i64 a), .v (.int .i64 b), .v (.int .i64 c), .v (.int .i64 side)] (.agg (encPos (at6 a b c side))) := by
 refine pF Tryz.func69 ?_
 (repeat (first|with_reducible (first|refine wL fun _=>?_|refine wD fun _=>?_|refine wE ?_|refine wZ ?_)|simp [go_sem]))
 simp only [at6, List.map_cons, List.map_nil, encI]
 (repeat' apply And.intro) <;> first | exact LeV.refl _ | exact leV_frz rfl (by simp) (by simp [noH, upd]) (by simp)
theorem seen27_pure (g : GameD) (hg : GOk g) (p : PosD) (hp : POk g p) (n : Int) :
  Pure Tryz.prog 27 [.agg (encGame g), .agg (encPos p), .v (.int .i64 n)] (.agg [.lst 1 (encD [seenP g p n]), .v (.bool (fullP (searchP g p n)))]) := by
 refine pF Tryz.func27 ?_
 have hS := Seen_pure g hg p hp n
 generalize seenP g p n = s at *
 generalize fullP (searchP g p n) = f at *
 (repeat (first|with_reducible (first|refine wL fun _=>?_|refine wD fun _=>?_|refine wE ?_|refine wZ ?_)|simp [go_sem]))
 refine ACallP.plain hS (by simp [go_sem]) ?_
 (repeat (first|with_reducible (first|refine wL fun _=>?_|refine wD fun _=>?_|refine wE ?_|refine wZ ?_)|simp [go_sem]))
 exact leV_frz rfl (by simp [encD]) (by simp [noH, upd]) (by simp [encD, encPs])
theorem game_27a : gameP small6 (at6 1 0 2 0) (at6 1 0 2 0) 0 = ([at6 1 0 2 0], 0) := by kernel_rfl
theorem game_27b : gameP small6 (at6 1 0 2 0) (at6 0 2 0 0) 9 = ([at6 1 0 2 0, at6 0 1 2 1, at6 0 2 0 0], 0) := by kernel_rfl
theorem game_27c : gameP small6 (at6 1 0 2 0) (at6 1 0 2 1) 9 = ([], 270) := by kernel_rfl
theorem game_27d : gameP small6 (at6 1 0 2 0) (at6 0 2 0 0) 1 = ([], 2) := by kernel_rfl
theorem check_27a : checkP small6 (at6 1 0 2 0) (at6 0 2 0 0) [at6 1 0 2 0, at6 0 1 2 1, at6 0 2 0 0] = true := by kernel_rfl
theorem check_27b : checkP small6 (at6 1 0 2 0) (at6 0 2 0 0) [at6 1 0 2 0, at6 0 2 0 0] = false := by kernel_rfl
theorem check_27c : checkP small6 (at6 1 0 2 0) (at6 1 0 2 0) [] = false := by kernel_rfl
theorem seen_27s : seenP small6 (at6 1 0 2 0) 4000 = sortU cmpP [at6 1 0 2 0, at6 0 1 2 1, at6 0 2 0 0] := by kernel_rfl
theorem seen_27 : (seenP small6 (at6 1 0 2 0) 4000).length = 3 := by
 rw [seen_27s, sortU_nodup_len (by decide)]
 rfl
theorem full_27 : fullP (searchP small6 (at6 1 0 2 0) 4000) = true := by kernel_rfl
theorem sanity27_pure : Pure Tryz.prog 19 [] (.v (.bool true)) := by
 have ka := at6_ok 1 0 2 0 (by omega) (by omega) (by omega) (.inl rfl)
 have kb := at6_ok 0 1 2 1 (by omega) (by omega) (by omega) (.inr rfl)
 have kc := at6_ok 0 2 0 0 (by omega) (by omega) (by omega) (.inl rfl)
 have kd := at6_ok 1 0 2 1 (by omega) (by omega) (by omega) (.inr rfl)
 have fa := ka.fits small6_ok
 have fb := kb.fits small6_ok
 have fc := kc.fits small6_ok
 have fd := kd.fits small6_ok
 have hA := at27_pure 1 0 2 0
 have hB := at27_pure 0 1 2 1
 have hC := at27_pure 0 2 0 0
 have hD := at27_pure 1 0 2 1
 have g1 := found_pure small6 small6_ok _ ka _ fa 0
 have g2 := found_pure small6 small6_ok _ ka _ fc 9
 have g3 := found_pure small6 small6_ok _ ka _ fd 9
 have g4 := found_pure small6 small6_ok _ ka _ fc 1
 rw [game_27a] at g1
 rw [game_27b] at g2
 rw [game_27c] at g3
 rw [game_27d] at g4
 have c1 := Check_pure small6 small6_ok _ _ fa fc [at6 1 0 2 0, at6 0 1 2 1, at6 0 2 0 0] (by simp) (by simp [ka, kb, kc])
 have c2 := Check_pure small6 small6_ok _ _ fa fc [at6 1 0 2 0, at6 0 2 0 0] (by simp) (by simp [ka, kc])
 have c3 := Check_pure small6 small6_ok _ _ fa fa [] (by simp) (by simp)
 rw [check_27a] at c1
 rw [check_27b] at c2
 rw [check_27c] at c3
 have s1 := seen27_pure small6 small6_ok _ ka 4000
 have hsl := seen_27
 rw [full_27] at s1
 generalize seenP small6 (at6 1 0 2 0) 4000 = sn at *
 have q1 := Same27_pure ([at6 1 0 2 0], 0) ([at6 1 0 2 0], 0) (by simp) (by simp) (by simp [fa]) (by simp [fa])
 have q2 := Same27_pure ([at6 1 0 2 0, at6 0 1 2 1, at6 0 2 0 0], 0) ([at6 1 0 2 0, at6 0 1 2 1, at6 0 2 0 0], 0) (by simp) (by simp) (by simp [fa, fb, fc]) (by simp [fa, fb, fc])
 rw [decide_eq_true rfl] at q1 q2
 generalize at6 1 0 2 0 = a at *
 generalize at6 0 1 2 1 = b at *
 generalize at6 0 2 0 0 = c at *
 generalize at6 1 0 2 1 = d at *
 clear ka kb kc kd fa fb fc fd
 have hen : nth (encD [sn]) 0 = [encPs sn] := rfl
 refine pF Tryz.func19 ?_
 (repeat (first|with_reducible (first|refine wL fun _=>?_|refine wD fun _=>?_|refine wE ?_|refine wZ ?_)|simp [go_sem]))
 refine ACallP.plain hA (by simp [go_sem]) ?_
 (repeat (first|with_reducible (first|refine wL fun _=>?_|refine wD fun _=>?_|refine wE ?_|refine wZ ?_)|simp [go_sem]))
 refine ACallP.plain hB (by simp [go_sem]) ?_
 (repeat (first|with_reducible (first|refine wL fun _=>?_|refine wD fun _=>?_|refine wE ?_|refine wZ ?_)|simp [go_sem]))
 refine ACallP.plain hC (by simp [go_sem]) ?_
 (repeat (first|with_reducible (first|refine wL fun _=>?_|refine wD fun _=>?_|refine wE ?_|refine wZ ?_)|simp [go_sem]))
 refine ACallP.pureF [0, 1, 2, 3, 4, 5, 6, 7] s1 ?_ (by simp [go_sem]) ?_
 ·simp only [small6, encGame, encIss, encIs, encKind, encProg, encStep, encI, List.map_cons, List.map_nil]
  ((try simp only [encProg, encStep, encAct, encAs, encPath, encPt, encOut, encState, encPos, encOs, encSs, encPs, encIs, encGame, List.map_cons, List.map_nil, List.nil_append, List.append_nil, List.cons_append]); (repeat (first | (with_reducible exact LeRow.nil) | (with_reducible exact LeRows.nil) | (with_reducible exact LeV.refl _) | (with_reducible exact LeRow.refl _ _ _ _) | (with_reducible exact LeRows.refl _) | (with_reducible refine LeRow.cons ?_ ?_) | (with_reducible refine LeRows.cons ?_ ?_) | (with_reducible refine LeV.agg ?_) | (with_reducible refine LeV.tup ?_) | (with_reducible refine LeV.fn ?_ ?_) | (with_reducible exact LeV.nil _) | (with_reducible refine leRows_append (LeRows.refl _) ?_) | ((refine leV_frz rfl (by simp) (by simp [frzO, frz1, upd, noH]) ?_); (first | (simp [go_sem]; done) | (simp [go_sem]; exact List.take_of_length_le (by simp)))) | ((refine LeV.frz rfl (by simp) (by simp [frzO, frz1, upd, noH]) ?_); (simp only [List.drop_zero, List.take_succ_cons, List.take_zero, List.map_cons, List.map_nil])) | ((refine LeV.frzP rfl (by simp) (by simp) (by simp [frzO, frz1, upd, noH]) ?_); (simp only [nth_zero, List.drop_zero])))))
 (repeat (first|with_reducible (first|refine wL fun _=>?_|refine wD fun _=>?_|refine wE ?_|refine wZ ?_)|simp [go_sem, hsl, encFound, hen]))
 refine dCall.frz [.agg (encGame small6), .agg (encPos a), .agg (encPos a), .v (.int .i64 0)] _ [0, 1, 2, 3, 4, 5, 6, 7] [] g1 (by simp) ?_ (by simp [go_sem]) ?_
 ·intro h₁ hS
  have h0 := (hS 0 (by simp)).symm
  have h1 := (hS 1 (by simp)).symm
  have h2 := (hS 2 (by simp)).symm
  have h3 := (hS 3 (by simp)).symm
  have h4 := (hS 4 (by simp)).symm
  have h5 := (hS 5 (by simp)).symm
  have h6 := (hS 6 (by simp)).symm
  have h7 := (hS 7 (by simp)).symm
  clear hS
  simp [upd, frzO, frz1] at h0 h1 h2 h3 h4 h5 h6 h7
  simp only [small6, encGame, encIss, encIs, encKind, encProg, encStep, encI, List.map_cons, List.map_nil]
  ((try simp only [encProg, encStep, encAct, encAs, encPath, encPt, encOut, encState, encPos, encOs, encSs, encPs, encIs, encGame, List.map_cons, List.map_nil, List.nil_append, List.append_nil, List.cons_append]); (repeat (first | (with_reducible exact LeRow.nil) | (with_reducible exact LeRows.nil) | (with_reducible exact LeV.refl _) | (with_reducible exact LeRow.refl _ _ _ _) | (with_reducible exact LeRows.refl _) | (with_reducible refine LeRow.cons ?_ ?_) | (with_reducible refine LeRows.cons ?_ ?_) | (with_reducible refine LeV.agg ?_) | (with_reducible refine LeV.tup ?_) | (with_reducible refine LeV.fn ?_ ?_) | (with_reducible exact LeV.nil _) | (with_reducible refine leRows_append (LeRows.refl _) ?_) | ((refine leV_frz (by first | rfl | assumption) (by simp [h0, h1, h2, h3, h4, h5, h6, h7]) (by simp [frzO, frz1, upd, noH, applyW, h0, h1, h2, h3, h4, h5, h6, h7]) ?_); (first | (simp [go_sem, h0, h1, h2, h3, h4, h5, h6, h7]; done) | (simp [go_sem, h0, h1, h2, h3, h4, h5, h6, h7]; exact List.take_of_length_le (by simp [h0, h1, h2, h3, h4, h5, h6, h7])))) | ((refine LeV.frz (by first | rfl | assumption) (by simp [h0, h1, h2, h3, h4, h5, h6, h7]) (by simp [frzO, frz1, upd, noH, applyW, h0, h1, h2, h3, h4, h5, h6, h7]) ?_); (simp only [List.drop_zero, List.take_succ_cons, List.take_zero, List.map_cons, List.map_nil])) | ((refine LeV.frzP (by first | rfl | assumption) (by simp [h0, h1, h2, h3, h4, h5, h6, h7]) (by simp) (by simp [frzO, frz1, upd, noH, applyW, h0, h1, h2, h3, h4, h5, h6, h7]) ?_); (simp only [nth_zero, List.drop_zero])))))
 (repeat (first|with_reducible (first|refine wL fun _=>?_|refine wD fun _=>?_|refine wE ?_|refine wZ ?_)|simp [go_sem, hsl, encFound, hen]))
 refine dCall.flat [encFound ([a], 0), encFound ([a], 0)] (.v (.bool true)) [18] q1 (.v _) ?_ (by simp [go_sem, encFound]) ?_
 ·intro h₁ hS
  have h18 := (hS 18 (by simp)).symm
  simp [upd, frzO, frz1] at h18
  simp only [encFound]
  ((try simp only [encProg, encStep, encAct, encAs, encPath, encPt, encOut, encState, encPos, encOs, encSs, encPs, encIs, encGame, List.map_cons, List.map_nil, List.nil_append, List.append_nil, List.cons_append]); (repeat (first | (with_reducible exact LeRow.nil) | (with_reducible exact LeRows.nil) | (with_reducible exact LeV.refl _) | (with_reducible exact LeRow.refl _ _ _ _) | (with_reducible exact LeRows.refl _) | (with_reducible refine LeRow.cons ?_ ?_) | (with_reducible refine LeRows.cons ?_ ?_) | (with_reducible refine LeV.agg ?_) | (with_reducible refine LeV.tup ?_) | (with_reducible refine LeV.fn ?_ ?_) | (with_reducible exact LeV.nil _) | (with_reducible refine leRows_append (LeRows.refl _) ?_) | ((refine leV_frz (by first | rfl | assumption) (by simp [h18]) (by simp [frzO, frz1, upd, noH, applyW, h18]) ?_); (first | (simp [go_sem, h18]; done) | (simp [go_sem, h18]; exact List.take_of_length_le (by simp [h18])))) | ((refine LeV.frz (by first | rfl | assumption) (by simp [h18]) (by simp [frzO, frz1, upd, noH, applyW, h18]) ?_); (simp only [List.drop_zero, List.take_succ_cons, List.take_zero, List.map_cons, List.map_nil])) | ((refine LeV.frzP (by first | rfl | assumption) (by simp [h18]) (by simp) (by simp [frzO, frz1, upd, noH, applyW, h18]) ?_); (simp only [nth_zero, List.drop_zero])))))
 (repeat (first|with_reducible (first|refine wL fun _=>?_|refine wD fun _=>?_|refine wE ?_|refine wZ ?_)|simp [go_sem, hsl, encFound, hen]))
 refine dGC.frz [.agg (encGame small6), .agg (encPos a), .agg (encPos c), .v (.int .i64 9)] _ [0, 1, 2, 3, 4, 5, 6, 7] [] g2 (by simp) ?_ (by simp [go_sem]) ?_
 ·intro h₁ hS
  have h0 := (hS 0 (by simp)).symm
  have h1 := (hS 1 (by simp)).symm
  have h2 := (hS 2 (by simp)).symm
  have h3 := (hS 3 (by simp)).symm
  have h4 := (hS 4 (by simp)).symm
  have h5 := (hS 5 (by simp)).symm
  have h6 := (hS 6 (by simp)).symm
  have h7 := (hS 7 (by simp)).symm
  clear hS
  simp [upd, frzO, frz1] at h0 h1 h2 h3 h4 h5 h6 h7
  simp only [small6, encGame, encIss, encIs, encKind, encProg, encStep, encI, List.map_cons, List.map_nil]
  ((try simp only [encProg, encStep, encAct, encAs, encPath, encPt, encOut, encState, encPos, encOs, encSs, encPs, encIs, encGame, List.map_cons, List.map_nil, List.nil_append, List.append_nil, List.cons_append]); (repeat (first | (with_reducible exact LeRow.nil) | (with_reducible exact LeRows.nil) | (with_reducible exact LeV.refl _) | (with_reducible exact LeRow.refl _ _ _ _) | (with_reducible exact LeRows.refl _) | (with_reducible refine LeRow.cons ?_ ?_) | (with_reducible refine LeRows.cons ?_ ?_) | (with_reducible refine LeV.agg ?_) | (with_reducible refine LeV.tup ?_) | (with_reducible refine LeV.fn ?_ ?_) | (with_reducible exact LeV.nil _) | (with_reducible refine leRows_append (LeRows.refl _) ?_) | ((refine leV_frz (by first | rfl | assumption) (by simp [h0, h1, h2, h3, h4, h5, h6, h7]) (by simp [frzO, frz1, upd, noH, applyW, h0, h1, h2, h3, h4, h5, h6, h7]) ?_); (first | (simp [go_sem, h0, h1, h2, h3, h4, h5, h6, h7]; done) | (simp [go_sem, h0, h1, h2, h3, h4, h5, h6, h7]; exact List.take_of_length_le (by simp [h0, h1, h2, h3, h4, h5, h6, h7])))) | ((refine LeV.frz (by first | rfl | assumption) (by simp [h0, h1, h2, h3, h4, h5, h6, h7]) (by simp [frzO, frz1, upd, noH, applyW, h0, h1, h2, h3, h4, h5, h6, h7]) ?_); (simp only [List.drop_zero, List.take_succ_cons, List.take_zero, List.map_cons, List.map_nil])) | ((refine LeV.frzP (by first | rfl | assumption) (by simp [h0, h1, h2, h3, h4, h5, h6, h7]) (by simp) (by simp [frzO, frz1, upd, noH, applyW, h0, h1, h2, h3, h4, h5, h6, h7]) ?_); (simp only [nth_zero, List.drop_zero])))))
 (repeat (first|with_reducible (first|refine wL fun _=>?_|refine wD fun _=>?_|refine wE ?_|refine wZ ?_)|simp [go_sem, hsl, encFound, hen]))
 refine dGC.flat [encFound ([a, b, c], 0), encFound ([a, b, c], 0)] (.v (.bool true)) [29] (fun _ => q2) (.v _) ?_ (by simp [go_sem, encFound]) ?_
 ·intro h₁ hS
  have h29 := (hS 29 (by simp)).symm
  simp [upd, frzO, frz1] at h29
  simp only [encFound]
  ((try simp only [encProg, encStep, encAct, encAs, encPath, encPt, encOut, encState, encPos, encOs, encSs, encPs, encIs, encGame, List.map_cons, List.map_nil, List.nil_append, List.append_nil, List.cons_append]); (repeat (first | (with_reducible exact LeRow.nil) | (with_reducible exact LeRows.nil) | (with_reducible exact LeV.refl _) | (with_reducible exact LeRow.refl _ _ _ _) | (with_reducible exact LeRows.refl _) | (with_reducible refine LeRow.cons ?_ ?_) | (with_reducible refine LeRows.cons ?_ ?_) | (with_reducible refine LeV.agg ?_) | (with_reducible refine LeV.tup ?_) | (with_reducible refine LeV.fn ?_ ?_) | (with_reducible exact LeV.nil _) | (with_reducible refine leRows_append (LeRows.refl _) ?_) | ((refine leV_frz (by first | rfl | assumption) (by simp [h29]) (by simp [frzO, frz1, upd, noH, applyW, h29]) ?_); (first | (simp [go_sem, h29]; done) | (simp [go_sem, h29]; exact List.take_of_length_le (by simp [h29])))) | ((refine LeV.frz (by first | rfl | assumption) (by simp [h29]) (by simp [frzO, frz1, upd, noH, applyW, h29]) ?_); (simp only [List.drop_zero, List.take_succ_cons, List.take_zero, List.map_cons, List.map_nil])) | ((refine LeV.frzP (by first | rfl | assumption) (by simp [h29]) (by simp) (by simp [frzO, frz1, upd, noH, applyW, h29]) ?_); (simp only [nth_zero, List.drop_zero])))))
 (repeat (first|with_reducible (first|refine wL fun _=>?_|refine wD fun _=>?_|refine wE ?_|refine wZ ?_)|simp [go_sem, hsl, encFound, hen]))
 refine dGC.plain _ (fun _ => hD) (by simp [go_sem]) ?_
 (repeat (first|with_reducible (first|refine wL fun _=>?_|refine wD fun _=>?_|refine wE ?_|refine wZ ?_)|simp [go_sem, hsl, encFound, hen]))
 refine dGC.frz [.agg (encGame small6), .agg (encPos a), .agg (encPos d), .v (.int .i64 9)] _ [0, 1, 2, 3, 4, 5, 6, 7] [] g3 (by simp) ?_ (by simp [go_sem]) ?_
 ·intro h₁ hS
  have h0 := (hS 0 (by simp)).symm
  have h1 := (hS 1 (by simp)).symm
  have h2 := (hS 2 (by simp)).symm
  have h3 := (hS 3 (by simp)).symm
  have h4 := (hS 4 (by simp)).symm
  have h5 := (hS 5 (by simp)).symm
  have h6 := (hS 6 (by simp)).symm
  have h7 := (hS 7 (by simp)).symm
  clear hS
  simp [upd, frzO, frz1] at h0 h1 h2 h3 h4 h5 h6 h7
  simp only [small6, encGame, encIss, encIs, encKind, encProg, encStep, encI, List.map_cons, List.map_nil]
  ((try simp only [encProg, encStep, encAct, encAs, encPath, encPt, encOut, encState, encPos, encOs, encSs, encPs, encIs, encGame, List.map_cons, List.map_nil, List.nil_append, List.append_nil, List.cons_append]); (repeat (first | (with_reducible exact LeRow.nil) | (with_reducible exact LeRows.nil) | (with_reducible exact LeV.refl _) | (with_reducible exact LeRow.refl _ _ _ _) | (with_reducible exact LeRows.refl _) | (with_reducible refine LeRow.cons ?_ ?_) | (with_reducible refine LeRows.cons ?_ ?_) | (with_reducible refine LeV.agg ?_) | (with_reducible refine LeV.tup ?_) | (with_reducible refine LeV.fn ?_ ?_) | (with_reducible exact LeV.nil _) | (with_reducible refine leRows_append (LeRows.refl _) ?_) | ((refine leV_frz (by first | rfl | assumption) (by simp [h0, h1, h2, h3, h4, h5, h6, h7]) (by simp [frzO, frz1, upd, noH, applyW, h0, h1, h2, h3, h4, h5, h6, h7]) ?_); (first | (simp [go_sem, h0, h1, h2, h3, h4, h5, h6, h7]; done) | (simp [go_sem, h0, h1, h2, h3, h4, h5, h6, h7]; exact List.take_of_length_le (by simp [h0, h1, h2, h3, h4, h5, h6, h7])))) | ((refine LeV.frz (by first | rfl | assumption) (by simp [h0, h1, h2, h3, h4, h5, h6, h7]) (by simp [frzO, frz1, upd, noH, applyW, h0, h1, h2, h3, h4, h5, h6, h7]) ?_); (simp only [List.drop_zero, List.take_succ_cons, List.take_zero, List.map_cons, List.map_nil])) | ((refine LeV.frzP (by first | rfl | assumption) (by simp [h0, h1, h2, h3, h4, h5, h6, h7]) (by simp) (by simp [frzO, frz1, upd, noH, applyW, h0, h1, h2, h3, h4, h5, h6, h7]) ?_); (simp only [nth_zero, List.drop_zero])))))
 (repeat (first|with_reducible (first|refine wL fun _=>?_|refine wD fun _=>?_|refine wE ?_|refine wZ ?_)|simp [go_sem, hsl, encFound, hen]))
 refine dGC.frz [.agg (encGame small6), .agg (encPos a), .agg (encPos c), .v (.int .i64 1)] _ [0, 1, 2, 3, 4, 5, 6, 7] [] g4 (by simp) ?_ (by simp [go_sem]) ?_
 ·intro h₁ hS
  have h0 := (hS 0 (by simp)).symm
  have h1 := (hS 1 (by simp)).symm
  have h2 := (hS 2 (by simp)).symm
  have h3 := (hS 3 (by simp)).symm
  have h4 := (hS 4 (by simp)).symm
  have h5 := (hS 5 (by simp)).symm
  have h6 := (hS 6 (by simp)).symm
  have h7 := (hS 7 (by simp)).symm
  clear hS
  simp [upd, frzO, frz1] at h0 h1 h2 h3 h4 h5 h6 h7
  simp only [small6, encGame, encIss, encIs, encKind, encProg, encStep, encI, List.map_cons, List.map_nil]
  ((try simp only [encProg, encStep, encAct, encAs, encPath, encPt, encOut, encState, encPos, encOs, encSs, encPs, encIs, encGame, List.map_cons, List.map_nil, List.nil_append, List.append_nil, List.cons_append]); (repeat (first | (with_reducible exact LeRow.nil) | (with_reducible exact LeRows.nil) | (with_reducible exact LeV.refl _) | (with_reducible exact LeRow.refl _ _ _ _) | (with_reducible exact LeRows.refl _) | (with_reducible refine LeRow.cons ?_ ?_) | (with_reducible refine LeRows.cons ?_ ?_) | (with_reducible refine LeV.agg ?_) | (with_reducible refine LeV.tup ?_) | (with_reducible refine LeV.fn ?_ ?_) | (with_reducible exact LeV.nil _) | (with_reducible refine leRows_append (LeRows.refl _) ?_) | ((refine leV_frz (by first | rfl | assumption) (by simp [h0, h1, h2, h3, h4, h5, h6, h7]) (by simp [frzO, frz1, upd, noH, applyW, h0, h1, h2, h3, h4, h5, h6, h7]) ?_); (first | (simp [go_sem, h0, h1, h2, h3, h4, h5, h6, h7]; done) | (simp [go_sem, h0, h1, h2, h3, h4, h5, h6, h7]; exact List.take_of_length_le (by simp [h0, h1, h2, h3, h4, h5, h6, h7])))) | ((refine LeV.frz (by first | rfl | assumption) (by simp [h0, h1, h2, h3, h4, h5, h6, h7]) (by simp [frzO, frz1, upd, noH, applyW, h0, h1, h2, h3, h4, h5, h6, h7]) ?_); (simp only [List.drop_zero, List.take_succ_cons, List.take_zero, List.map_cons, List.map_nil])) | ((refine LeV.frzP (by first | rfl | assumption) (by simp [h0, h1, h2, h3, h4, h5, h6, h7]) (by simp) (by simp [frzO, frz1, upd, noH, applyW, h0, h1, h2, h3, h4, h5, h6, h7]) ?_); (simp only [nth_zero, List.drop_zero])))))
 (repeat (first|with_reducible (first|refine wL fun _=>?_|refine wD fun _=>?_|refine wE ?_|refine wZ ?_)|simp [go_sem, hsl, encFound, hen]))
 refine dGC.flat [.agg (encGame small6), .agg (encPos a), .agg (encPos c), encPs [a, b, c]] (.v (.bool true)) [0, 1, 2, 3, 4, 5, 6, 7, 56] (fun _ => c1) (.v _) ?_ (by simp [go_sem]) ?_
 ·intro h₁ hS
  have h0 := (hS 0 (by simp)).symm
  have h1 := (hS 1 (by simp)).symm
  have h2 := (hS 2 (by simp)).symm
  have h3 := (hS 3 (by simp)).symm
  have h4 := (hS 4 (by simp)).symm
  have h5 := (hS 5 (by simp)).symm
  have h6 := (hS 6 (by simp)).symm
  have h7 := (hS 7 (by simp)).symm
  have h56 := (hS 56 (by simp)).symm
  clear hS
  simp [upd, frzO, frz1] at h0 h1 h2 h3 h4 h5 h6 h7 h56
  simp only [small6, encGame, encIss, encIs, encKind, encProg, encStep, encI, List.map_cons, List.map_nil]
  ((try simp only [encProg, encStep, encAct, encAs, encPath, encPt, encOut, encState, encPos, encOs, encSs, encPs, encIs, encGame, List.map_cons, List.map_nil, List.nil_append, List.append_nil, List.cons_append]); (repeat (first | (with_reducible exact LeRow.nil) | (with_reducible exact LeRows.nil) | (with_reducible exact LeV.refl _) | (with_reducible exact LeRow.refl _ _ _ _) | (with_reducible exact LeRows.refl _) | (with_reducible refine LeRow.cons ?_ ?_) | (with_reducible refine LeRows.cons ?_ ?_) | (with_reducible refine LeV.agg ?_) | (with_reducible refine LeV.tup ?_) | (with_reducible refine LeV.fn ?_ ?_) | (with_reducible exact LeV.nil _) | (with_reducible refine leRows_append (LeRows.refl _) ?_) | ((refine leV_frz (by first | rfl | assumption) (by simp [h0, h1, h2, h3, h4, h5, h6, h7, h56]) (by simp [frzO, frz1, upd, noH, applyW, h0, h1, h2, h3, h4, h5, h6, h7, h56]) ?_); (first | (simp [go_sem, h0, h1, h2, h3, h4, h5, h6, h7, h56]; done) | (simp [go_sem, h0, h1, h2, h3, h4, h5, h6, h7, h56]; exact List.take_of_length_le (by simp [h0, h1, h2, h3, h4, h5, h6, h7, h56])))) | ((refine LeV.frz (by first | rfl | assumption) (by simp [h0, h1, h2, h3, h4, h5, h6, h7, h56]) (by simp [frzO, frz1, upd, noH, applyW, h0, h1, h2, h3, h4, h5, h6, h7, h56]) ?_); (simp only [List.drop_zero, List.take_succ_cons, List.take_zero, List.map_cons, List.map_nil])) | ((refine LeV.frzP (by first | rfl | assumption) (by simp [h0, h1, h2, h3, h4, h5, h6, h7, h56]) (by simp) (by simp [frzO, frz1, upd, noH, applyW, h0, h1, h2, h3, h4, h5, h6, h7, h56]) ?_); (simp only [nth_zero, List.drop_zero])))))
 (repeat (first|with_reducible (first|refine wL fun _=>?_|refine wD fun _=>?_|refine wE ?_|refine wZ ?_)|simp [go_sem, hsl, encFound, hen]))
 refine dGC.flat [.agg (encGame small6), .agg (encPos a), .agg (encPos c), encPs [a, c]] (.v (.bool false)) [0, 1, 2, 3, 4, 5, 6, 7, 65] (fun _ => c2) (.v _) ?_ (by simp [go_sem]) ?_
 ·intro h₁ hS
  have h0 := (hS 0 (by simp)).symm
  have h1 := (hS 1 (by simp)).symm
  have h2 := (hS 2 (by simp)).symm
  have h3 := (hS 3 (by simp)).symm
  have h4 := (hS 4 (by simp)).symm
  have h5 := (hS 5 (by simp)).symm
  have h6 := (hS 6 (by simp)).symm
  have h7 := (hS 7 (by simp)).symm
  have h65 := (hS 65 (by simp)).symm
  clear hS
  simp [upd, frzO, frz1] at h0 h1 h2 h3 h4 h5 h6 h7 h65
  simp only [small6, encGame, encIss, encIs, encKind, encProg, encStep, encI, List.map_cons, List.map_nil]
  ((try simp only [encProg, encStep, encAct, encAs, encPath, encPt, encOut, encState, encPos, encOs, encSs, encPs, encIs, encGame, List.map_cons, List.map_nil, List.nil_append, List.append_nil, List.cons_append]); (repeat (first | (with_reducible exact LeRow.nil) | (with_reducible exact LeRows.nil) | (with_reducible exact LeV.refl _) | (with_reducible exact LeRow.refl _ _ _ _) | (with_reducible exact LeRows.refl _) | (with_reducible refine LeRow.cons ?_ ?_) | (with_reducible refine LeRows.cons ?_ ?_) | (with_reducible refine LeV.agg ?_) | (with_reducible refine LeV.tup ?_) | (with_reducible refine LeV.fn ?_ ?_) | (with_reducible exact LeV.nil _) | (with_reducible refine leRows_append (LeRows.refl _) ?_) | ((refine leV_frz (by first | rfl | assumption) (by simp [h0, h1, h2, h3, h4, h5, h6, h7, h65]) (by simp [frzO, frz1, upd, noH, applyW, h0, h1, h2, h3, h4, h5, h6, h7, h65]) ?_); (first | (simp [go_sem, h0, h1, h2, h3, h4, h5, h6, h7, h65]; done) | (simp [go_sem, h0, h1, h2, h3, h4, h5, h6, h7, h65]; exact List.take_of_length_le (by simp [h0, h1, h2, h3, h4, h5, h6, h7, h65])))) | ((refine LeV.frz (by first | rfl | assumption) (by simp [h0, h1, h2, h3, h4, h5, h6, h7, h65]) (by simp [frzO, frz1, upd, noH, applyW, h0, h1, h2, h3, h4, h5, h6, h7, h65]) ?_); (simp only [List.drop_zero, List.take_succ_cons, List.take_zero, List.map_cons, List.map_nil])) | ((refine LeV.frzP (by first | rfl | assumption) (by simp [h0, h1, h2, h3, h4, h5, h6, h7, h65]) (by simp) (by simp [frzO, frz1, upd, noH, applyW, h0, h1, h2, h3, h4, h5, h6, h7, h65]) ?_); (simp only [nth_zero, List.drop_zero])))))
 (repeat (first|with_reducible (first|refine wL fun _=>?_|refine wD fun _=>?_|refine wE ?_|refine wZ ?_)|simp [go_sem, hsl, encFound, hen]))
 refine dGC.flat [.agg (encGame small6), .agg (encPos a), .agg (encPos a), encPs []] (.v (.bool false)) [0, 1, 2, 3, 4, 5, 6, 7] (fun _ => c3) (.v _) ?_ (by simp [go_sem]) ?_
 ·intro h₁ hS
  have h0 := (hS 0 (by simp)).symm
  have h1 := (hS 1 (by simp)).symm
  have h2 := (hS 2 (by simp)).symm
  have h3 := (hS 3 (by simp)).symm
  have h4 := (hS 4 (by simp)).symm
  have h5 := (hS 5 (by simp)).symm
  have h6 := (hS 6 (by simp)).symm
  have h7 := (hS 7 (by simp)).symm
  clear hS
  simp [upd, frzO, frz1] at h0 h1 h2 h3 h4 h5 h6 h7
  simp only [small6, encGame, encIss, encIs, encKind, encProg, encStep, encI, List.map_cons, List.map_nil]
  ((try simp only [encProg, encStep, encAct, encAs, encPath, encPt, encOut, encState, encPos, encOs, encSs, encPs, encIs, encGame, List.map_cons, List.map_nil, List.nil_append, List.append_nil, List.cons_append]); (repeat (first | (with_reducible exact LeRow.nil) | (with_reducible exact LeRows.nil) | (with_reducible exact LeV.refl _) | (with_reducible exact LeRow.refl _ _ _ _) | (with_reducible exact LeRows.refl _) | (with_reducible refine LeRow.cons ?_ ?_) | (with_reducible refine LeRows.cons ?_ ?_) | (with_reducible refine LeV.agg ?_) | (with_reducible refine LeV.tup ?_) | (with_reducible refine LeV.fn ?_ ?_) | (with_reducible exact LeV.nil _) | (with_reducible refine leRows_append (LeRows.refl _) ?_) | ((refine leV_frz (by first | rfl | assumption) (by simp [h0, h1, h2, h3, h4, h5, h6, h7]) (by simp [frzO, frz1, upd, noH, applyW, h0, h1, h2, h3, h4, h5, h6, h7]) ?_); (first | (simp [go_sem, h0, h1, h2, h3, h4, h5, h6, h7]; done) | (simp [go_sem, h0, h1, h2, h3, h4, h5, h6, h7]; exact List.take_of_length_le (by simp [h0, h1, h2, h3, h4, h5, h6, h7])))) | ((refine LeV.frz (by first | rfl | assumption) (by simp [h0, h1, h2, h3, h4, h5, h6, h7]) (by simp [frzO, frz1, upd, noH, applyW, h0, h1, h2, h3, h4, h5, h6, h7]) ?_); (simp only [List.drop_zero, List.take_succ_cons, List.take_zero, List.map_cons, List.map_nil])) | ((refine LeV.frzP (by first | rfl | assumption) (by simp [h0, h1, h2, h3, h4, h5, h6, h7]) (by simp) (by simp [frzO, frz1, upd, noH, applyW, h0, h1, h2, h3, h4, h5, h6, h7]) ?_); (simp only [nth_zero, List.drop_zero])))))
 (repeat (first|with_reducible (first|refine wL fun _=>?_|refine wD fun _=>?_|refine wE ?_|refine wZ ?_)|simp [go_sem, hsl, encFound, hen]))
end Go.Av
end
section
open Go Go.Proofs
set_option maxRecDepth 20000
set_option maxHeartbeats 4000000
namespace Go.Av
theorem gameP_ok {g : GameD} (hg : GOk g) {p : PosD} (hp : POk g p) (goal : PosD) (n : Int) : (gameP g p goal n).1.length ≤ 4002 ∧ ∀ q ∈ (gameP g p goal n).1, POk g q := by
 unfold gameP
 cases hf : (searchP g p n).findIdx? (fun x => decide (goal ∈ x.1)) with
 | none => simp
 | some d =>
  obtain ⟨hd, hin, _⟩ := List.findIdx?_eq_some_iff_getElem.1 hf
  simp only
  obtain ⟨h1, h2, h3⟩ := searchP_past hg hp n d
  have hc := searchP_chain g p n d
  have hgl : goal ∈ nth (((searchP g p n).take (d + 1)).map (·.1)) ((((searchP g p n).take (d + 1)).map (·.1)).length - 1) := by
   have hl : (((searchP g p n).take (d + 1)).map (·.1)).length = d + 1 := by simp; omega
   rw [hl, Nat.add_sub_cancel, nth_map _ _ _ (by simp; omega), nth_eq _ _ (by simp; omega)]
   simpa using hin
  generalize ((searchP g p n).take (d + 1)).map (·.1) = past at *
  refine ⟨by simpa [traceP] using h1, fun q hq => ?_⟩
  obtain ⟨i, hi, rfl⟩ := List.mem_map.1 hq
  have hi := List.mem_range.1 hi
  exact h2 _ (nth_mem hi) _ (goodP_sub hi hgl _ (wayP_mem hc hgl i hi))
end Go.Av
end
section
open Go Go.Proofs
set_option maxRecDepth 20000
namespace Go.Av
def itK (g : GameD) : Nat → List PosD → List PosD → List PosD × List PosD
 | 0, k, n => (k, n)
 | i + 1, k, n => itK g i (k ++ nextP g k n) (sortU cmpP (nextP g k n))
theorem itK_succ (g : GameD) : ∀ (i : Nat) (k n : List PosD), itK g (i + 1) k n = ((itK g i k n).1 ++ nextP g (itK g i k n).1 (itK g i k n).2, sortU cmpP (nextP g (itK g i k n).1 (itK g i k n).2))
 | 0, k, n => rfl
 | i + 1, k, n => by
  rw [itK, itK_succ g i]
  rfl
theorem itK_ok {g : GameD} (hg : GOk g) : ∀ (i : Nat) {k n : List PosD}, SearchOk g k n → SearchOk g (itK g i k n).1 (itK g i k n).2
 | 0, k, n, h => h
 | i + 1, k, n, h => itK_ok hg i (h.next hg)
theorem layersP_nth (g : GameD) (b : Int) : ∀ (f : Nat) (k n : List PosD) (i : Nat), i < (layersP g b f k n).length → (nth (layersP g b f k n) i).1 = (itK g i k n).2
 | 0, k, n, i, h => by simp [layersP] at h
 | f + 1, k, n, i, h => by
  rw [layersP] at h ⊢
  split at h
  ·rename_i hk
   rw [if_pos hk]
   simp only [List.length_singleton] at h
   obtain rfl : i = 0 := by omega
   rfl
  ·rename_i hk
   rw [if_neg hk]
   split at h
   ·rename_i hz
    rw [if_pos hz]
    simp only [List.length_singleton] at h
    obtain rfl : i = 0 := by omega
    rfl
   ·rename_i hz
    rw [if_neg hz]
    cases i with
    | zero => rfl
    | succ i =>
     rw [nth_succ, itK]
     exact layersP_nth g b f _ _ i (by simpa using h)
theorem layersP_more (g : GameD) (b : Int) : ∀ (f : Nat) (k n : List PosD) (i : Nat), i + 1 < (layersP g b f k n).length → ((itK g i k n).1.length : Int) ≤ b ∧ nextP g (itK g i k n).1 (itK g i k n).2 ≠ []
 | 0, k, n, i, h => by simp [layersP] at h
 | f + 1, k, n, i, h => by
  rw [layersP] at h
  split at h
  ·simp at h
  ·rename_i hk
   split at h
   ·simp at h
   ·rename_i hz
    cases i with
    | zero => exact ⟨by simpa [itK] using hk, hz⟩
    | succ i =>
     rw [itK]
     exact layersP_more g b f _ _ i (by simpa using h)
theorem layersP_end (g : GameD) (b : Int) (hb : 0 ≤ b) : ∀ (f : Nat) (k n : List PosD) (i : Nat), b.toNat + 2 ≤ f + k.length → i + 1 = (layersP g b f k n).length →
  ((nth (layersP g b f k n) i).2 = true ∧ ((itK g i k n).1.length : Int) ≤ b ∧ nextP g (itK g i k n).1 (itK g i k n).2 = []) ∨ ((nth (layersP g b f k n) i).2 = false ∧ b < ((itK g i k n).1.length : Int))
 | 0, k, n, i, hf, h => by simp [layersP] at h
 | f + 1, k, n, i, hf, h => by
  rw [layersP] at h ⊢
  split at h
  ·rename_i hk
   rw [if_pos hk]
   simp only [List.length_singleton] at h
   obtain rfl : i = 0 := by omega
   exact .inr ⟨rfl, hk⟩
  ·rename_i hk
   rw [if_neg hk]
   split at h
   ·rename_i hz
    rw [if_pos hz]
    simp only [List.length_singleton] at h
    obtain rfl : i = 0 := by omega
    exact .inl ⟨rfl, by simpa [itK] using hk, hz⟩
   ·rename_i hz
    rw [if_neg hz]
    have hnl := List.length_pos_iff.2 hz
    have hf2 : b.toNat + 2 ≤ f + (k ++ nextP g k n).length := by rw [List.length_append]; omega
    have h0 : 0 < (layersP g b f (k ++ nextP g k n) (sortU cmpP (nextP g k n))).length := by
     cases f with
     | zero => omega
     | succ f => exact List.length_pos_iff.2 (layersP_ne g b f _ _)
    simp only [List.length_cons] at h
    cases i with
    | zero => omega
    | succ i =>
     rw [nth_succ, itK]
     exact layersP_end g b hb f _ _ i hf2 (by omega)
def layK (g : GameD) (p : PosD) (i : Nat) : List PosD := (itK g i [p] [p]).2
def knoK (g : GameD) (p : PosD) (i : Nat) : List PosD := (itK g i [p] [p]).1
def endK (g : GameD) (p : PosD) (n : Int) : Nat := (searchP g p n).length - 1
theorem endK_len (g : GameD) (p : PosD) (n : Int) : (searchP g p n).length = endK g p n + 1 := by
 have := List.length_pos_iff.2 (searchP_ne g p n)
 unfold endK
 omega
theorem search_nth {g : GameD} {p : PosD} {n : Int} {i : Nat} (h : i ≤ endK g p n) : (nth (searchP g p n) i).1 = layK g p i := by
 have := endK_len g p n
 exact layersP_nth g _ _ _ _ i (show i < (searchP g p n).length by omega)
theorem search_more {g : GameD} {p : PosD} {n : Int} {i : Nat} (h : i < endK g p n) : ((knoK g p i).length : Int) ≤ budP n ∧ nextP g (knoK g p i) (layK g p i) ≠ [] := by
 have := endK_len g p n
 exact layersP_more g _ _ _ _ i (show i + 1 < (searchP g p n).length by omega)
theorem fullP_end2 (g : GameD) (p : PosD) (n : Int) : fullP (searchP g p n) = (nth (searchP g p n) (endK g p n)).2 := fullP_nth (searchP_ne g p n)
theorem search_end (g : GameD) (p : PosD) (n : Int) :
  (fullP (searchP g p n) = true ∧ ((knoK g p (endK g p n)).length : Int) ≤ budP n ∧ nextP g (knoK g p (endK g p n)) (layK g p (endK g p n)) = []) ∨ (fullP (searchP g p n) = false ∧ budP n < ((knoK g p (endK g p n)).length : Int)) := by
 rw [fullP_end2]
 exact layersP_end g (budP n) (budP_range n).1 _ [p] [p] _ (by simp) (endK_len g p n).symm
theorem layK_zero (g : GameD) (p : PosD) : layK g p 0 = [p] := rfl
theorem knoK_zero (g : GameD) (p : PosD) : knoK g p 0 = [p] := rfl
theorem layK_succ (g : GameD) (p : PosD) (i : Nat) : layK g p (i + 1) = sortU cmpP (nextP g (knoK g p i) (layK g p i)) := congrArg Prod.snd (itK_succ g i [p] [p])
theorem knoK_succ (g : GameD) (p : PosD) (i : Nat) : knoK g p (i + 1) = knoK g p i ++ nextP g (knoK g p i) (layK g p i) := congrArg Prod.fst (itK_succ g i [p] [p])
theorem layK_ok {g : GameD} (hg : GOk g) {p : PosD} (hp : POk g p) (i : Nat) : SearchOk g (knoK g p i) (layK g p i) := itK_ok hg i (SearchOk.start hp)
theorem layK_mem {g : GameD} {p q : PosD} {i : Nat} : q ∈ layK g p (i + 1) ↔ (∃ r ∈ layK g p i, q ∈ movesP g r) ∧ q ∉ knoK g p i := by rw [layK_succ, sortU_mem, nextP_mem]
theorem knoK_mem {g : GameD} {p q : PosD} {i : Nat} : q ∈ knoK g p (i + 1) ↔ q ∈ knoK g p i ∨ q ∈ layK g p (i + 1) := by rw [knoK_succ, layK_succ, sortU_mem, List.mem_append]
theorem knoK_lay {g : GameD} {p q : PosD} : ∀ {i : Nat}, q ∈ knoK g p i ↔ ∃ j, j ≤ i ∧ q ∈ layK g p j
 | 0 => by
  constructor
  ·intro h; exact ⟨0, by omega, h⟩
  ·rintro ⟨j, hj, h⟩
   obtain rfl : j = 0 := by omega
   exact h
 | i + 1 => by
  rw [knoK_mem, knoK_lay (i := i)]
  constructor
  ·rintro (⟨j, hj, h⟩ | h)
   ·exact ⟨j, by omega, h⟩
   ·exact ⟨i + 1, by omega, h⟩
  ·rintro ⟨j, hj, h⟩
   by_cases e : j = i + 1
   ·subst e; exact .inr h
   ·exact .inl ⟨j, by omega, h⟩
theorem knoK_mono {g : GameD} {p q : PosD} {i j : Nat} (h : i ≤ j) (hq : q ∈ knoK g p i) : q ∈ knoK g p j := by
 obtain ⟨k, hk, hq⟩ := knoK_lay.1 hq
 exact knoK_lay.2 ⟨k, by omega, hq⟩
theorem layK_kno {g : GameD} {p q : PosD} {i : Nat} (hq : q ∈ layK g p i) : q ∈ knoK g p i := knoK_lay.2 ⟨i, by omega, hq⟩
theorem layK_one {g : GameD} {p q : PosD} {i j : Nat} (hi : q ∈ layK g p i) (hj : q ∈ layK g p j) : i = j := by
 have hlt : ∀ {i j : Nat}, i < j → q ∈ layK g p i → q ∈ layK g p j → False := by
  intro i j h hi hj
  cases j with
  | zero => omega
  | succ j => exact (layK_mem.1 hj).2 (knoK_lay.2 ⟨i, by omega, hi⟩)
 by_cases h1 : i < j
 ·exact (hlt h1 hi hj).elim
 ·by_cases h2 : j < i
  ·exact (hlt h2 hj hi).elim
  ·omega
theorem knoK_move {g : GameD} {p q r : PosD} {i : Nat} (hr : r ∈ knoK g p i) (hq : q ∈ movesP g r) : q ∈ knoK g p (i + 1) := by
 obtain ⟨j, hj, hr⟩ := knoK_lay.1 hr
 refine knoK_mono (show j + 1 ≤ i + 1 by omega) ?_
 rw [knoK_mem]
 by_cases h : q ∈ knoK g p j
 ·exact .inl h
 ·exact .inr (layK_mem.2 ⟨⟨r, hr, hq⟩, h⟩)
def ChainP (g : GameD) (l : List PosD) : Prop := ∀ j, j + 1 < l.length → nth l (j + 1) ∈ movesP g (nth l j)
theorem chain_kno {g : GameD} {p : PosD} {l : List PosD} (hc : ChainP g l) {i : Nat} : ∀ (k j : Nat), nth l j ∈ knoK g p i → j + k < l.length → nth l (j + k) ∈ knoK g p (i + k)
 | 0, j, h, hl => h
 | k + 1, j, h, hl => by
  have := chain_kno hc k j h (by omega)
  exact knoK_move this (hc (j + k) (by omega))
theorem full_move {g : GameD} {p : PosD} {n : Int} (hf : fullP (searchP g p n) = true) {q r : PosD} (hr : r ∈ knoK g p (endK g p n)) (hq : q ∈ movesP g r) : q ∈ knoK g p (endK g p n) := by
 have h1 : nextP g (knoK g p (endK g p n)) (layK g p (endK g p n)) = [] := by
  rcases search_end g p n with h | h
  ·exact h.2.2
  ·rw [hf] at h; simp at h
 have := knoK_move hr hq
 rwa [knoK_succ, h1, List.append_nil] at this
theorem full_chain {g : GameD} {p : PosD} {n : Int} (hf : fullP (searchP g p n) = true) {l : List PosD} (hc : ChainP g l) (h0 : nth l 0 = p) : ∀ j, j < l.length → nth l j ∈ knoK g p (endK g p n)
 | 0, _ => by rw [h0]; exact knoK_lay.2 ⟨0, by omega, by rw [layK_zero]; simp⟩
 | j + 1, h => full_move hf (full_chain hf hc h0 j (by omega)) (hc j h)
theorem allOf_mem {g : GameD} {p q : PosD} {n : Int} : q ∈ allOf (searchP g p n) ↔ q ∈ knoK g p (endK g p n) := by
 unfold allOf
 rw [List.mem_flatMap, knoK_lay]
 have hl := endK_len g p n
 constructor
 ·rintro ⟨x, hx, hq⟩
  obtain ⟨i, hi, rfl⟩ := mem_nth hx
  rw [search_nth (by omega)] at hq
  exact ⟨i, by omega, hq⟩
 ·rintro ⟨j, hj, hq⟩
  exact ⟨nth (searchP g p n) j, nth_mem (by omega), by rwa [search_nth hj]⟩
theorem seenP_mem {g : GameD} {p q : PosD} {n : Int} : q ∈ seenP g p n ↔ q ∈ knoK g p (endK g p n) := by rw [seenP, sortU_mem, allOf_mem]
theorem seenP_inc (g : GameD) (p : PosD) (n : Int) : Inc (seenP g p n) := sortU_pw cmp_pos _
def laysK (g : GameD) (p : PosD) (d : Nat) : List (List PosD) := (List.range (d + 1)).map (layK g p)
theorem laysK_len (g : GameD) (p : PosD) (d : Nat) : (laysK g p d).length = d + 1 := by simp [laysK]
theorem laysK_nth {g : GameD} {p : PosD} {d i : Nat} (h : i ≤ d) : nth (laysK g p d) i = layK g p i := by
 unfold laysK
 rw [nth_map _ _ _ (by simp; omega), nth_eq _ _ (by simp; omega)]
 simp
theorem laysK_eq {g : GameD} {p : PosD} {n : Int} {d : Nat} (h : d ≤ endK g p n) : ((searchP g p n).take (d + 1)).map (·.1) = laysK g p d := by
 have hl := endK_len g p n
 refine List.ext_getElem (by simp [laysK]; omega) fun i h1 h2 => ?_
 have hi : i < d + 1 := by simpa [laysK] using h2
 have h3 := search_nth (g := g) (p := p) (n := n) (i := i) (by omega)
 rw [nth_eq _ _ (by omega)] at h3
 simp [laysK, h3]
theorem laysK_chain (g : GameD) (p : PosD) (d : Nat) : ChainOk g (laysK g p d) := by
 refine ⟨by simp [laysK], ⟨p, by rw [laysK_nth (by omega)]; rfl⟩, fun i hi q hq => ?_⟩
 rw [laysK_len] at hi
 rw [laysK_nth (by omega)] at hq ⊢
 exact (layK_mem.1 hq).1
theorem laysK_last {g : GameD} {p goal : PosD} {d : Nat} (h : goal ∈ layK g p d) : goal ∈ nth (laysK g p d) ((laysK g p d).length - 1) := by
 rw [laysK_len, Nat.add_sub_cancel, laysK_nth (Nat.le_refl d)]
 exact h
theorem gameP_some {g : GameD} {p goal : PosD} {n : Int} {d : Nat} (hd : d ≤ endK g p n) (h : goal ∈ layK g p d) : gameP g p goal n = (traceP g (laysK g p d) goal, 0) := by
 have hl := endK_len g p n
 rw [gameP_at (d := d) (by omega) (by rwa [search_nth hd]) (fun j hj => by
  rw [search_nth (by omega)]
  intro h2
  have := layK_one h h2
  omega), laysK_eq hd]
theorem gameP_none {g : GameD} {p goal : PosD} {n : Int} (h : goal ∉ knoK g p (endK g p n)) : gameP g p goal n = ([], if fullP (searchP g p n) then 270 else 2) := by
 have hl := endK_len g p n
 refine gameP_no fun j hj h2 => h ?_
 rw [search_nth (by omega)] at h2
 exact knoK_lay.2 ⟨j, by omega, h2⟩
theorem gameP_ok_iff {g : GameD} {p goal : PosD} {n : Int} : (gameP g p goal n).2 = 0 ↔ goal ∈ knoK g p (endK g p n) := by
 constructor
 ·intro h
  refine Classical.byContradiction fun h2 => ?_
  rw [gameP_none h2] at h
  simp only at h
  split at h <;> omega
 ·intro h
  obtain ⟨d, hd, h⟩ := knoK_lay.1 h
  rw [gameP_some hd h]
theorem gameP_err {g : GameD} {p goal : PosD} {n : Int} (h : (gameP g p goal n).2 ≠ 0) : gameP g p goal n = ([], if fullP (searchP g p n) then 270 else 2) := gameP_none fun h2 => h (gameP_ok_iff.2 h2)
theorem frst_least {g : GameD} {p q : PosD} {l : List PosD} (hl : Inc l) (hq : q ∈ l) (hm : q ∈ movesP g p) : nth l (frstP g p l).toNat ∈ l ∧ nth l (frstP g p l).toNat ∈ movesP g p ∧ cmpP (nth l (frstP g p l).toNat) q ≤ 0 := by
 obtain ⟨h1, h2, h3⟩ := frstP_some (frstP_iff.2 ⟨q, hq, hm⟩)
 refine ⟨nth_mem h1, h2, ?_⟩
 obtain ⟨j, hj, rfl⟩ := mem_nth hq
 by_cases h : j < (frstP g p l).toNat
 ·exact absurd hm (h3 j h)
 ·by_cases e : j = (frstP g p l).toNat
  ·subst e
   rw [(cmp_pos.eq _ _).2 rfl]
   omega
  ·have := hl.lt (i := (frstP g p l).toNat) (j := j) (by omega) hj
   omega
theorem cmpP_anti {p q : PosD} (h1 : cmpP p q ≤ 0) (h2 : cmpP q p ≤ 0) : p = q := by
 have := cmp_pos.swap p q
 exact (cmp_pos.eq p q).1 (by omega)
section Ways
variable {g : GameD} (hg : GOk g) {p : PosD} (hp : POk g p)
def gooK (g : GameD) (p : PosD) (d : Nat) (goal : PosD) (i : Nat) : List PosD := nth (goodP g (laysK g p d) goal) i
def wayK (g : GameD) (p : PosD) (d : Nat) (goal : PosD) (i : Nat) : PosD := wayP g (laysK g p d) goal i
theorem gooK_last (g : GameD) (p : PosD) (d : Nat) (goal : PosD) : gooK g p d goal d = [goal] := by
 have := goodP_last g goal (laysK g p d) (by simp [laysK])
 rwa [laysK_len, Nat.add_sub_cancel] at this
theorem gooK_mem {g : GameD} {p : PosD} {d : Nat} {goal : PosD} {i : Nat} (h : i < d) {q : PosD} : q ∈ gooK g p d goal i ↔ q ∈ layK g p i ∧ ∃ r ∈ gooK g p d goal (i + 1), r ∈ movesP g q := by
 unfold gooK
 rw [goodP_at g goal (laysK g p d) i (by rw [laysK_len]; omega), List.mem_filter, laysK_nth (by omega), decide_eq_true_eq, frstP_iff]
theorem gooK_inc {g : GameD} (hg : GOk g) {p : PosD} (hp : POk g p) {d : Nat} {goal : PosD} {i : Nat} (h : i ≤ d) : Inc (gooK g p d goal i) := by
 by_cases e : i = d
 ·subst e
  rw [gooK_last]
  simp [Inc]
 ·unfold gooK
  rw [goodP_at g goal (laysK g p d) i (by rw [laysK_len]; omega), laysK_nth (by omega)]
  exact List.Pairwise.filter _ (layK_ok hg hp i).inc
theorem gooK_lay {g : GameD} {p : PosD} {d : Nat} {goal : PosD} (hgo : goal ∈ layK g p d) {i : Nat} (h : i ≤ d) {q : PosD} (hq : q ∈ gooK g p d goal i) : q ∈ layK g p i := by
 by_cases e : i = d
 ·subst e
  rw [gooK_last] at hq
  simp only [List.mem_singleton] at hq
  subst hq
  exact hgo
 ·exact (gooK_mem (by omega)).1 hq |>.1
theorem wayK_goo {g : GameD} {p : PosD} {d : Nat} {goal : PosD} (hgo : goal ∈ layK g p d) {i : Nat} (h : i ≤ d) : wayK g p d goal i ∈ gooK g p d goal i :=
 wayP_mem (laysK_chain g p d) (laysK_last hgo) i (by rw [laysK_len]; omega)
theorem wayK_lay {g : GameD} {p : PosD} {d : Nat} {goal : PosD} (hgo : goal ∈ layK g p d) {i : Nat} (h : i ≤ d) : wayK g p d goal i ∈ layK g p i := gooK_lay hgo h (wayK_goo hgo h)
theorem wayK_zero (g : GameD) (p : PosD) (d : Nat) (goal : PosD) : wayK g p d goal 0 = p := by
 unfold wayK wayP
 rw [laysK_nth (by omega)]
 rfl
theorem wayK_last {g : GameD} {p : PosD} {d : Nat} {goal : PosD} (hgo : goal ∈ layK g p d) : wayK g p d goal d = goal := by
 have := wayK_goo hgo (Nat.le_refl d)
 rw [gooK_last] at this
 simpa using this
theorem wayK_succ (g : GameD) (p : PosD) (d : Nat) (goal : PosD) (i : Nat) : wayK g p d goal (i + 1) = nth (gooK g p d goal (i + 1)) (frstP g (wayK g p d goal i) (gooK g p d goal (i + 1))).toNat := rfl
theorem wayK_move {g : GameD} {p : PosD} {d : Nat} {goal : PosD} (hgo : goal ∈ layK g p d) {i : Nat} (h : i < d) : wayK g p d goal (i + 1) ∈ movesP g (wayK g p d goal i) := by
 obtain ⟨r, hr, hm⟩ := ((gooK_mem h).1 (wayK_goo hgo (Nat.le_of_lt h))).2
 rw [wayK_succ]
 exact (frstP_some (frstP_iff.2 ⟨r, hr, hm⟩)).2.1
theorem wayK_least {g : GameD} (hg : GOk g) {p : PosD} (hp : POk g p) {d : Nat} {goal : PosD} {i : Nat} (h : i < d) {q : PosD} (hq : q ∈ gooK g p d goal (i + 1)) (hm : q ∈ movesP g (wayK g p d goal i)) : cmpP (wayK g p d goal (i + 1)) q ≤ 0 := by
 rw [wayK_succ]
 exact (frst_least (gooK_inc hg hp (by omega)) hq hm).2.2
theorem trace_len (g : GameD) (p : PosD) (d : Nat) (goal : PosD) : (traceP g (laysK g p d) goal).length = d + 1 := by simp [traceP, laysK_len]
theorem trace_nth {g : GameD} {p : PosD} {d : Nat} {goal : PosD} {i : Nat} (h : i ≤ d) : nth (traceP g (laysK g p d) goal) i = wayK g p d goal i := by
 unfold traceP
 rw [nth_map _ _ _ (by rw [List.length_range, laysK_len]; omega), nth_eq _ _ (by rw [List.length_range, laysK_len]; omega)]
 simp [wayK]
theorem trace_ext {g : GameD} {p : PosD} {d n : Nat} {a b : PosD} (h : n ≤ d) (he : ∀ i, i ≤ n → wayK g p n a i = wayK g p d b i) : traceP g (laysK g p n) a = (traceP g (laysK g p d) b).take (n + 1) := by
 refine List.ext_getElem (by rw [trace_len, List.length_take, trace_len]; omega) fun i h1 h2 => ?_
 rw [trace_len] at h1
 have e1 := trace_nth (g := g) (p := p) (d := n) (goal := a) (i := i) (by omega)
 have e2 := trace_nth (g := g) (p := p) (d := d) (goal := b) (i := i) (by omega)
 rw [nth_eq _ _ (by rw [trace_len]; omega)] at e1 e2
 rw [e1, List.getElem_take, e2]
 exact he i (by omega)
theorem wayK_part {g : GameD} (hg : GOk g) {p : PosD} (hp : POk g p) {d : Nat} {goal : PosD} (hgo : goal ∈ layK g p d) {n : Nat} (h : n ≤ d) : ∀ i, i ≤ n → wayK g p n (wayK g p d goal n) i = wayK g p d goal i := by
 have hw := wayK_lay hgo h
 have hsub : ∀ k i, i + k = n → ∀ q ∈ gooK g p n (wayK g p d goal n) i, q ∈ gooK g p d goal i := by
  intro k
  induction k with
  | zero =>
   intro i hi q hq
   obtain rfl : i = n := by omega
   rw [gooK_last] at hq
   simp only [List.mem_singleton] at hq
   subst hq
   exact wayK_goo hgo h
  | succ k ih =>
   intro i hi q hq
   obtain ⟨h1, r, hr, hm⟩ := (gooK_mem (by omega)).1 hq
   exact (gooK_mem (by omega)).2 ⟨h1, r, ih (i + 1) (by omega) r hr, hm⟩
 have hin : ∀ k i, i + k = n → wayK g p d goal i ∈ gooK g p n (wayK g p d goal n) i := by
  intro k
  induction k with
  | zero =>
   intro i hi
   obtain rfl : i = n := by omega
   rw [gooK_last]
   simp
  | succ k ih =>
   intro i hi
   exact (gooK_mem (by omega)).2 ⟨wayK_lay hgo (by omega), _, ih (i + 1) (by omega), wayK_move hgo (by omega)⟩
 intro i
 induction i with
 | zero => intro _; rw [wayK_zero, wayK_zero]
 | succ i ih =>
  intro hi
  have e := ih (by omega)
  refine cmpP_anti ?_ ?_
  ·refine wayK_least hg hp (by omega) (hin (n - (i + 1)) (i + 1) (by omega)) ?_
   rw [e]
   exact wayK_move hgo (by omega)
  ·refine wayK_least hg hp (by omega) (hsub (n - (i + 1)) (i + 1) (by omega) _ (wayK_goo hw hi)) ?_
   rw [← e]
   exact wayK_move hw (by omega)
end Ways
theorem gameP_part {g : GameD} (hg : GOk g) {p : PosD} (hp : POk g p) {goal : PosD} {n : Int} (h : (gameP g p goal n).2 = 0) {k : Nat} (hk : k < (gameP g p goal n).1.length) :
  gameP g p (nth (gameP g p goal n).1 k) n = ((gameP g p goal n).1.take (k + 1), 0) := by
 obtain ⟨d, hd, hgo⟩ := knoK_lay.1 (gameP_ok_iff.1 h)
 rw [gameP_some hd hgo] at hk ⊢
 simp only at hk ⊢
 rw [trace_len] at hk
 rw [trace_nth (by omega), gameP_some (d := k) (by omega) (wayK_lay hgo (by omega))]
 rw [trace_ext (by omega) (wayK_part hg hp hgo (by omega))]
theorem gameP_game {g : GameD} {p goal : PosD} {n : Int} (h : (gameP g p goal n).2 = 0) : checkP g p goal (gameP g p goal n).1 = true := by
 obtain ⟨d, hd, hgo⟩ := knoK_lay.1 (gameP_ok_iff.1 h)
 rw [gameP_some hd hgo]
 unfold checkP
 simp only
 refine decide_eq_true ⟨?_, ?_, ?_, fun j hj => ?_⟩
 ·intro h
  have := congrArg List.length h
  rw [trace_len] at this
  simp at this
 ·rw [trace_nth (by omega), wayK_zero]
 ·rw [trace_len, Nat.add_sub_cancel, trace_nth (Nat.le_refl d), wayK_last hgo]
 ·rw [trace_len, Nat.add_sub_cancel] at hj
  rw [trace_nth (by omega), trace_nth (by omega)]
  exact wayK_move hgo hj
theorem chain_side {g : GameD} (hg : GOk g) {l : List PosD} (hc : ChainP g l) (h0 : POk g (nth l 0)) : ∀ j, j < l.length → POk g (nth l j) ∧ (nth l j).side = if j % 2 = 0 then (nth l 0).side else 1 - (nth l 0).side
 | 0, _ => ⟨h0, rfl⟩
 | j + 1, h => by
  obtain ⟨h1, h2⟩ := chain_side hg hc h0 j (by omega)
  obtain ⟨h3, h4⟩ := movesP_ok hg h1 _ (hc j h)
  refine ⟨h3, ?_⟩
  rw [h4, h2]
  by_cases e : j % 2 = 0
  ·rw [if_pos e, if_neg (by omega)]
  ·rw [if_neg e, if_pos (by omega)]
   omega
theorem gameP_short {g : GameD} (hg : GOk g) {p : PosD} (hp : POk g p) {n : Int} {l : List PosD} (hne : l ≠ []) (hc : ChainP g l) (h0 : nth l 0 = p) (h : (gameP g p (nth l (l.length - 1)) n).2 = 0) :
  (gameP g p (nth l (l.length - 1)) n).1 ≠ [] ∧ (gameP g p (nth l (l.length - 1)) n).1.length ≤ l.length ∧
   ((gameP g p (nth l (l.length - 1)) n).1.length = l.length → ∀ i, i < l.length → (∀ j, j < i → nth (gameP g p (nth l (l.length - 1)) n).1 j = nth l j) → cmpP (nth (gameP g p (nth l (l.length - 1)) n).1 i) (nth l i) ≤ 0) := by
 have hll := List.length_pos_iff.2 hne
 obtain ⟨d, hd, hgo⟩ := knoK_lay.1 (gameP_ok_iff.1 h)
 have hp0 : p ∈ knoK g p 0 := by rw [knoK_zero]; simp
 have hk : ∀ j, j < l.length → nth l j ∈ knoK g p j := fun j hj => by
  have := chain_kno (p := p) hc (i := 0) j 0 (by rwa [h0]) (by omega)
  simpa using this
 have hle : d ≤ l.length - 1 := by
  obtain ⟨j, hj, hm⟩ := knoK_lay.1 (hk (l.length - 1) (by omega))
  have := layK_one hm hgo
  omega
 rw [gameP_some hd hgo]
 simp only
 refine ⟨fun h => by have := congrArg List.length h; rw [trace_len] at this; simp at this, by rw [trace_len]; omega, fun hlen i hi hj => ?_⟩
 rw [trace_len] at hlen
 have hlay : ∀ j, j < l.length → nth l j ∈ layK g p j := fun j hj => by
  obtain ⟨m, hm, hl⟩ := knoK_lay.1 (hk j hj)
  by_cases e : m = j
  ·subst e; exact hl
  ·exfalso
   have := chain_kno (p := p) hc (i := m) (l.length - 1 - j) j (layK_kno hl) (by omega)
   rw [show j + (l.length - 1 - j) = l.length - 1 by omega] at this
   obtain ⟨k, hk2, hk3⟩ := knoK_lay.1 this
   have := layK_one hk3 hgo
   omega
 have hgoo : ∀ k j, j + k = d → nth l j ∈ gooK g p d (nth l (l.length - 1)) j := by
  intro k
  induction k with
  | zero =>
   intro j hj
   obtain rfl : j = d := by omega
   rw [gooK_last, show j = l.length - 1 by omega]
   simp
  | succ k ih =>
   intro j hj
   exact (gooK_mem (by omega)).2 ⟨hlay j (by omega), _, ih (j + 1) (by omega), hc j (by omega)⟩
 rw [trace_nth (by omega)]
 cases i with
 | zero =>
  rw [wayK_zero, h0, (cmp_pos.eq p p).2 rfl]
  omega
 | succ i =>
  have e := hj i (by omega)
  rw [trace_nth (by omega)] at e
  refine wayK_least hg hp (by omega) (hgoo (d - (i + 1)) (i + 1) (by omega)) ?_
  rw [e]
  exact hc i hi
theorem budP_mono {m n : Int} (h : m ≤ n) : budP m ≤ budP n := by
 unfold budP
 (repeat' split) <;> omega
theorem endK_mono {g : GameD} {p : PosD} {m n : Int} (h : m ≤ n) : endK g p m ≤ endK g p n ∧ (fullP (searchP g p m) = true → endK g p m = endK g p n ∧ fullP (searchP g p n) = true) := by
 have hb := budP_mono h
 have h1 : endK g p m ≤ endK g p n := by
  refine Nat.le_of_not_lt fun hlt => ?_
  have := search_more hlt
  rcases search_end g p n with h2 | h2
  ·exact this.2 h2.2.2
  ·omega
 refine ⟨h1, fun hf => ?_⟩
 have e : endK g p m = endK g p n := by
  refine Nat.le_antisymm h1 (Nat.le_of_not_lt fun hlt => ?_)
  have := search_more hlt
  rcases search_end g p m with h2 | h2
  ·exact this.2 h2.2.2
  ·rw [hf] at h2; simp at h2
 refine ⟨e, ?_⟩
 rcases search_end g p n with h2 | h2
 ·exact h2.1
 ·rcases search_end g p m with h3 | h3
  ·rw [e] at h3; omega
  ·rw [hf] at h3; simp at h3
theorem gameP_mono {g : GameD} {p goal : PosD} {m n : Int} (h : m ≤ n) : ((gameP g p goal m).2 = 0 → gameP g p goal n = gameP g p goal m) ∧ ((gameP g p goal m).2 = 270 → (gameP g p goal n).2 = 270) := by
 obtain ⟨h1, h2⟩ := endK_mono (g := g) (p := p) h
 constructor
 ·intro h0
  obtain ⟨d, hd, hgo⟩ := knoK_lay.1 (gameP_ok_iff.1 h0)
  rw [gameP_some hd hgo, gameP_some (by omega) hgo]
 ·intro h0
  have he := gameP_err (g := g) (p := p) (goal := goal) (n := m) (by omega)
  rw [he] at h0
  simp only at h0
  by_cases hf : fullP (searchP g p m) = true
  ·obtain ⟨e, hf2⟩ := h2 hf
   have hno : goal ∉ knoK g p (endK g p m) := fun h3 => by
    have := gameP_ok_iff.2 h3
    rw [he] at this
    simp only at this
    rw [if_pos hf] at this
    omega
   rw [gameP_none (by rwa [← e]), if_pos hf2]
  ·rw [if_neg hf] at h0
   omega
theorem seenP_mono {g : GameD} {p : PosD} {m n : Int} (h : m ≤ n) : (∀ q ∈ seenP g p m, q ∈ seenP g p n) ∧ (fullP (searchP g p m) = true → fullP (searchP g p n) = true ∧ seenP g p m = seenP g p n) := by
 obtain ⟨h1, h2⟩ := endK_mono (g := g) (p := p) h
 refine ⟨fun q hq => seenP_mem.2 (knoK_mono h1 (seenP_mem.1 hq)), fun hf => ?_⟩
 obtain ⟨e, hf2⟩ := h2 hf
 refine ⟨hf2, strict_ext cmp_pos (seenP_inc g p m) (seenP_inc g p n) fun q => ?_⟩
 rw [seenP_mem, seenP_mem, e]
end Go.Av
end
section
open Go Go.Proofs
set_option maxRecDepth 20000
set_option maxHeartbeats 4000000
namespace Go.Av
end Go.Av
end
section
open Go Go.Proofs
set_option maxRecDepth 20000
set_option maxHeartbeats 4000000
namespace Go.Av
end Go.Av
end
section
open Go Go.Proofs
set_option maxRecDepth 20000
set_option maxHeartbeats 4000000
namespace Go.Av
theorem walkP_zero (g : GameD) (p : PosD) (l : List Int) : nth (walkP g p l) 0 = p := by
 cases l with
 | nil => rfl
 | cons k l => rw [walkP]; split <;> rfl
theorem walkP_step (g : GameD) : ∀ (l : List Int) (p : PosD) (i : Nat), i + 1 < (walkP g p l).length → i < l.length ∧ movesP g (nth (walkP g p l) i) ≠ [] ∧
  nth (walkP g p l) (i + 1) = nth (movesP g (nth (walkP g p l) i)) ((nth l i).emod (movesP g (nth (walkP g p l) i)).length).toNat
 | [], p, i, h => by simp [walkP] at h
 | k :: l, p, i, h => by
  rw [walkP] at h ⊢
  split at h
  ·simp at h
  ·rename_i hm
   rw [if_neg hm]
   cases i with
   | zero => exact ⟨by simp, hm, walkP_zero _ _ _⟩
   | succ i =>
    rw [nth_succ, nth_succ, nth_succ]
    have := walkP_step g l (nth (movesP g p) (k.emod (movesP g p).length).toNat) i (by simpa using h)
    exact ⟨by have := this.1; simp; omega, this.2⟩
end Go.Av
end
section
open Go Go.Proofs
set_option maxRecDepth 100000
set_option maxHeartbeats 4000000
namespace Go.Av
theorem tok_func {P : Program} {t : TypeId} {fn : Fn} {first caps : Array Value} {l : List UInt8} (hl : l ≠ []) (h : funcToken P (t, .func fn first caps) = l) :
  ∃ f F, fn = .func f ∧ first = #[] ∧ caps = #[] ∧ P.funcs[f]? = some F ∧ P.funcNamed F.name = some f ∧ F.name.toUTF8.data.toList = l := by
 unfold funcToken at h
 cases fn with
 | func f =>
  simp only at h
  split at h
  ·rename_i hc
   simp only [Bool.and_eq_true, Array.isEmpty_iff] at hc
   split at h
   ·rename_i F hF
    split at h
    ·rename_i hn
     exact ⟨f, F, rfl, hc.1, hc.2, hF, by simpa using hn, h⟩
    ·exact absurd h.symm hl
   ·exact absurd h.symm hl
  ·exact absurd h.symm hl
 | _ => exact absurd h.symm hl
theorem trod_fn {P : Program} {w : World} {sp : Nat → Bool} {fuel : Nat} {e : TypeId} {d : TypeDesc} {v : Value} {l : List UInt8} {q : List MemPlace} (hd : P.underlying e = some d) (hf : ∃ a b c, d = .func a b c) (h : DataW.trod (funcToken P) P w 0 sp true fuel e [v] = some (.held l, q)) :
  ∃ fn first caps, v = .func fn first caps ∧ funcToken P (e, .func fn first caps) = l := by
 obtain ⟨a, b, c, rfl⟩ := hf
 cases fuel with
 | zero => simp [DataW.trod] at h
 | succ fuel =>
  simp only [DataW.trod, hd] at h
  cases v <;> simp at h
  exact ⟨_, _, _, rfl, h.1⟩
theorem trod_nilf {P : Program} {w : World} {sp : Nat → Bool} {fuel : Nat} {e : TypeId} {d : TypeDesc} {v : Value} {q : List MemPlace} (hd : P.underlying e = some d) (hf : ∃ a b c, d = .func a b c) (h : DataW.trod (funcToken P) P w 0 sp true fuel e [v] = some (.nil, q)) : v = .nilFunc := by
 obtain ⟨a, b, c, rfl⟩ := hf
 cases fuel with
 | zero => simp [DataW.trod] at h
 | succ fuel =>
  simp only [DataW.trod, hd] at h
  cases v <;> simp at h
  rfl
theorem bytes_name {a b : String} (h : a.toUTF8.data.toList = b.toUTF8.data.toList) : a = b := by
 have h1 : a.toUTF8 = b.toUTF8 := ByteArray.ext (Array.toList_inj.1 h)
 exact String.toByteArray_inj.1 h1
theorem fn_named {n : String} {k : FuncId} {l : List UInt8} {t : TypeId} {fn : Fn} {first caps : Array Value} (hk : Tryz.prog.funcNamed n = some k) (hl : n.toUTF8.data.toList = l) (hne : l ≠ []) (h : funcToken Tryz.prog (t, .func fn first caps) = l) : fn = .func k ∧ first = #[] ∧ caps = #[] := by
 obtain ⟨f, F, h1, h2, h3, h4, h5, h6⟩ := tok_func hne h
 have e : F.name = n := bytes_name (h6.trans hl.symm)
 rw [e, hk] at h5
 cases h5
 exact ⟨h1, h2, h3⟩
def condsD : DataW Unit := .agg [.nil, .iface "func" (.lit (.string [115, 107, 101, 119, 101, 114, 47, 112, 108, 97, 121, 46, 99, 111, 110, 100, 105, 116, 105, 111, 110, 115, 36, 49])), .iface "func" (.lit (.string [115, 107, 101, 119, 101, 114, 47, 112, 108, 97, 121, 46, 99, 111, 110, 100, 105, 116, 105, 111, 110, 115, 36, 50])), .iface "func" (.lit (.string [115, 107, 101, 119, 101, 114, 47, 112, 108, 97, 121, 46, 99, 111, 110, 100, 105, 116, 105, 111, 110, 115, 36, 51]))]
theorem conds_cells {W : World} (h : funcsAt Tryz.prog W "skewer/play.conditions" condsD) :
  ∃ cs T fz, W.heap[0]? = some (.cells cs T fz) ∧ cs.toList = [.nilFunc, .func (.func 316) #[] #[], .func (.func 318) #[] #[], .func (.func 319) #[] #[]] := by
 obtain ⟨g, t, cs, fuel, p, hg, ht, hcs, htr⟩ := h
 obtain rfl : g = 0 := (Option.some.inj ((show Tryz.prog.globalNamed "skewer/play.conditions" = some 0 by kernel_rfl).symm.trans hg)).symm
 obtain rfl : t = 199 := (Option.some.inj ((show (Tryz.prog.globals[0]?).map (·.type) = some 199 by kernel_rfl).symm.trans ht)).symm
 have hu : Tryz.prog.underlying 199 = some (.array 4 198) := by kernel_rfl
 have hc1 : Tryz.prog.cellsOf 198 = 1 := by kernel_rfl
 have hc4 : Tryz.prog.cellsOf 199 = 4 := by kernel_rfl
 have hheap : ∃ T fz, W.heap[0]? = some (.cells cs T fz) := by
  unfold World.var? at hcs
  rw [show Tryz.prog.globalNamed "skewer/play.conditions" = some 0 by kernel_rfl] at hcs
  simp only [Option.bind_some] at hcs
  split at hcs
  ·rename_i c T fz hb
   cases hcs
   exact ⟨T, fz, hb⟩
  ·cases hcs
 obtain ⟨T, fz, hb⟩ := hheap
 refine ⟨cs, T, fz, hb, ?_⟩
 cases fuel with
 | zero => simp [DataW.trod] at htr
 | succ fuel =>
  simp only [DataW.trod, hu, hc1, hc4, Nat.mul_one] at htr
  split at htr
  ·rename_i hl
   match hcl : cs.toList, hl with
   | [a, b, c, d], _ =>
    rw [hcl] at htr
    obtain ⟨xs, hm, hx⟩ := Option.map_eq_some_iff.1 htr
    simp only [show List.range 4 = [0, 1, 2, 3] from rfl, List.mapM_cons, List.mapM_nil, List.drop_zero, List.drop_succ_cons, List.take_succ_cons, List.take_zero, Option.bind_eq_bind, Option.bind_eq_some_iff, Option.pure_def, Option.some.injEq] at hm
    obtain ⟨⟨y0, q0⟩, h0, l1, ⟨⟨y1, q1⟩, h1, l2, ⟨⟨y2, q2⟩, h2, l3, ⟨⟨y3, q3⟩, h3, l4, rfl, rfl⟩, rfl⟩, rfl⟩, rfl⟩ := hm
    have hx1 := congrArg Prod.fst hx
    simp only [condsD, DataW.funcsOut, DataW.funcsOutAll, List.map_cons, List.map_nil, DataW.agg.injEq, List.cons.injEq, and_true] at hx1
    simp at hx1
    obtain ⟨rfl, rfl, rfl, rfl⟩ := hx1
    have hd : Tryz.prog.underlying 198 = some (.func #[42, 45, 115] #[4] false) := by kernel_rfl
    have hf : ∃ a b c, TypeDesc.func #[42, 45, 115] #[4] false = .func a b c := ⟨_, _, _, rfl⟩
    obtain rfl := trod_nilf hd hf h0
    obtain ⟨f1, i1, c1, rfl, t1⟩ := trod_fn hd hf h1
    obtain ⟨f2, i2, c2, rfl, t2⟩ := trod_fn hd hf h2
    obtain ⟨f3, i3, c3, rfl, t3⟩ := trod_fn hd hf h3
    obtain ⟨rfl, rfl, rfl⟩ := fn_named (n := "skewer/play.conditions$1") (k := 316) (by kernel_rfl) (by decide +kernel) (by simp) t1
    obtain ⟨rfl, rfl, rfl⟩ := fn_named (n := "skewer/play.conditions$2") (k := 318) (by kernel_rfl) (by decide +kernel) (by simp) t2
    obtain ⟨rfl, rfl, rfl⟩ := fn_named (n := "skewer/play.conditions$3") (k := 319) (by kernel_rfl) (by decide +kernel) (by simp) t3
    rfl
  ·cases htr
theorem glb_of_conds {W : World} (h : funcsAt Tryz.prog W "skewer/play.conditions" condsD) : GlbOk W (fun _ => False) := by
 obtain ⟨cs, T, fz, hb, hcs⟩ := conds_cells h
 have hsz : cs.size = 4 := by rw [← Array.length_toList, hcs]; rfl
 intro q hq
 have e : q = (0, [AV.v .nilFunc, .fn (.func 316) [] [], .fn (.func 318) [] [], .fn (.func 319) [] []]) := by simpa [glbs] using hq
 subst e
 refine Rel.fp (C := cs) (T := T) (fz := fz) rfl (fun h => h) hb (by simp [hsz]) ?_ ?_
 ·intro u hu
  simp only [hcs, List.drop_zero] at hu
  simp at hu
  rcases hu with rfl | rfl | rfl | rfl <;> rfl
 ·simp only [hcs, List.drop_zero]
  exact .cons (.v _) (.cons (.fn .nil .nil) (.cons (.fn .nil .nil) (.cons (.fn .nil .nil) .nil)))
end Go.Av
end
section
open Go Go.Proofs Go.Av Go.ChangeShapes Go.RowKit
set_option maxRecDepth 100000
namespace Go.Proofs.YtjajfalomchohaaGreatDoor
theorem door_own : ownKnob Tryz.prog.godebug = none := by kernel_rfl
theorem door_lo : laidOutB Tryz.prog = true := by kernel_rfl
abbrev doorList : List (String × DataW Unit) := [("math/bits.deBruijn32tab", Rows.laid_math_bits_deBruijn32tab), ("math/bits.deBruijn64tab", Rows.laid_math_bits_deBruijn64tab), ("internal/strconv.uint64pow10", Rows.laid_internal_strconv_uint64pow10), ("skewer/play.conditions", Rows.laid_skewer_play_conditions)]
theorem door_met (os : Os) (args : Array Value) : laidMetH Tryz.prog doorList ((World.doorLaid Tryz.prog 29 os).forCall (fun _ _ => 0) ⟨#[], args, []⟩).memory :=
 laidMetH_of_parts3 (fuel := 8) (laidMet_of_run' 8 (by kernel_rfl) (by kernel_rfl)) (by kernel_rfl) (by kernel_rfl)
theorem door_vars (os : Os) (args : Array Value) : ((World.doorLaid Tryz.prog 29 os).forCall (fun _ _ => 0) ⟨#[], args, []⟩).variablesB Tryz.prog = true := by kernel_rfl
theorem door_heap (os : Os) (args : Array Value) : (((World.doorLaid Tryz.prog 29 os).forCall (fun _ _ => 0) ⟨#[], args, []⟩).heap.toList.drop Tryz.prog.globals.size).take ((begin Tryz.prog (fun _ _ => 0) default).world.heap.size - Tryz.prog.globals.size) =
  (begin Tryz.prog (fun _ _ => 0) default).world.heap.toList.drop Tryz.prog.globals.size := by kernel_rfl
end Go.Proofs.YtjajfalomchohaaGreatDoor
end
