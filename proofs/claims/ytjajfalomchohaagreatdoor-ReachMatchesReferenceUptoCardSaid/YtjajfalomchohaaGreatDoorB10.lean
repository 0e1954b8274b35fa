/- Texts of ours, part 10: our library and contracts of functions. -/
import Derived.Test.YtjajfalomchohaaGreatDoorB09
import GoSem.ClaimJoined
import Derived.Test.YtjajfalomchohaaGreatDoorCards
import Derived.Test.YtjajfalomchohaaGreatDoorTie
import Derived.Deep.DeepHandedRow
import Derived.LaidHandle
import Derived.LaidMore
import Derived.OpenShut
import Derived.Test.YtjajfalomchohaaGreatDoorRows
set_option linter.unusedSimpArgs false
set_option linter.unusedVariables false
set_option maxRecDepth 100000
set_option maxHeartbeats 40000000
section
/- Contracts: reach.Game, reach.Check. -/
open Go Go.Proofs
namespace Go.Av
theorem gameP_at {g : GameD} {p goal : PosD} {n : Int} {d : Nat} (hd : d < (searchP g p n).length) (h : goal ∈ (nth (searchP g p n) d).1) (hb : ∀ j, j < d → goal ∉ (nth (searchP g p n) j).1) :
  gameP g p goal n = (traceP g (((searchP g p n).take (d + 1)).map (·.1)) goal, 0) := by
 have : (searchP g p n).findIdx? (fun x => decide (goal ∈ x.1)) = some d := by
  rw [List.findIdx?_eq_some_iff_getElem]
  refine ⟨hd, by rw [← nth_eq _ _ hd]; simpa using h, fun j hj => ?_⟩
  have := hb j hj
  rw [nth_eq _ _ (by omega)] at this
  simpa using this
 unfold gameP
 rw [this]
theorem gameP_no {g : GameD} {p goal : PosD} {n : Int} (hb : ∀ j, j < (searchP g p n).length → goal ∉ (nth (searchP g p n) j).1) :
  gameP g p goal n = ([], if fullP (searchP g p n) then 270 else 2) := by
 have : (searchP g p n).findIdx? (fun x => decide (goal ∈ x.1)) = none := by
  rw [List.findIdx?_eq_none_iff]
  intro x hx
  obtain ⟨j, hj, rfl⟩ := List.getElem_of_mem hx
  have := hb j hj
  rw [nth_eq _ _ hj] at this
  simpa using this
 unfold gameP
 rw [this]
theorem layersP_last (g : GameD) (b : Int) : ∀ (f : Nat) (known now : List PosD) (i : Nat), (nth (layersP g b f known now) i).2 = true → i < (layersP g b f known now).length → i + 1 = (layersP g b f known now).length
 | 0, known, now, i, h, hl => by simp [layersP] at hl
 | f + 1, known, now, i, h, hl => by
  rw [layersP] at h hl ⊢
  split at h
  ·rename_i hk
   rw [if_pos hk] at hl ⊢
   simp at hl ⊢
   omega
  ·rename_i hk
   rw [if_neg hk] at hl ⊢
   split at h
   ·rename_i hz
    rw [if_pos hz] at hl ⊢
    simp at hl ⊢
    omega
   ·rename_i hz
    rw [if_neg hz] at hl ⊢
    cases i with
    | zero => simp [nth_zero] at h
    | succ i =>
     rw [nth_succ] at h
     have := layersP_last g b f _ _ i h (by simpa using hl)
     simp only [List.length_cons]
     omega
theorem searchP_past {g : GameD} (hg : GOk g) {p : PosD} (hp : POk g p) (n : Int) (d : Nat) :
  (((searchP g p n).take (d + 1)).map (·.1)).length ≤ 4002 ∧ (∀ l ∈ ((searchP g p n).take (d + 1)).map (·.1), ∀ q ∈ l, POk g q) ∧ ∀ l ∈ ((searchP g p n).take (d + 1)).map (·.1), l.length ≤ 1889788001 := by
 have hcnt := searchP_count g p n
 have hok := searchP_ok hg hp n
 have hlen := searchP_len hg hp n
 generalize searchP g p n = L at *
 refine ⟨by simp; omega, fun l hl => ?_, fun l hl => ?_⟩
 ·obtain ⟨x, hx, rfl⟩ := List.mem_map.1 hl
  exact (hok x (List.mem_of_mem_take hx)).2
 ·obtain ⟨x, hx, rfl⟩ := List.mem_map.1 hl
  have hx := List.mem_of_mem_take hx
  obtain ⟨i, hi, rfl⟩ := List.getElem_of_mem hx
  have e : allOf L = allOf (L.take i) ++ (L[i].1 ++ allOf (L.drop (i + 1))) := by
   unfold allOf
   rw [← List.flatMap_cons, ← List.drop_eq_getElem_cons hi, ← List.flatMap_append, List.take_append_drop]
  have := congrArg List.length e
  simp only [List.length_append] at this
  omega
theorem Game_pure (g : GameD) (hg : GOk g) (p : PosD) (hp : POk g p) (goal : PosD) (hq : FitsP goal) (n : Int) :
  Pure Tryz.prog 70 [.agg (encGame g), .agg (encPos p), .agg (encPos goal), .v (.int .i64 n)] (.tup [encPs (gameP g p goal n).1, .v (.int .i64 (gameP g p goal n).2)]) := by
 refine pF Tryz.func70 ?_
 have hS : Owns Tryz.prog 142 [.agg (encGame g), .agg (encPos p), .v (.int .i64 n)] (fun k => layR k) (fun k => layH g p n k) 3 := layers_owns g p n
 have hQ := layersF_seq g hg p hp (budP n) (budP_range n)
 simp only [layR, layH] at hS
 rw [show layersP g (budP n) ((budP n).toNat + 2) [p] [p] = searchP g p n from rfl] at hQ
 have hA := fun d => gameP_at (g := g) (p := p) (goal := goal) (n := n) (d := d)
 have hN := gameP_no (g := g) (p := p) (goal := goal) (n := n)
 have hpast := searchP_past hg hp n
 have hchain := searchP_chain g p n
 have hok := searchP_ok hg hp n
 have hne := searchP_ne g p n
 have hfull := fullP_nth hne
 have hcnt := searchP_count g p n
 have hlst : ∀ i, (nth (searchP g p n) i).2 = true → i < (searchP g p n).length → i + 1 = (searchP g p n).length := layersP_last g (budP n) ((budP n).toNat + 2) [p] [p]
 have hlen := searchP_len hg hp n
 generalize gameP g p goal n = gm at *
 generalize searchP g p n = L at *
 (repeat (first|with_reducible (first|refine wV fun _=>?_|refine wE ?_)|simp [go_sem, GH]))
 refine ACallP.ownsPlain hS (by simp [go_sem]) ?_
 (repeat (first|with_reducible (first|refine wV fun _=>?_|refine wE ?_)|simp [go_sem, GH]))
 refine aRange.mk [.fp (encPos p), .fp [.v (.int .i64 (budP n))], .fp (encGame g)] (frzO _ [6, 7, 8]) hQ (frz_frzO _ _) ?_ (by simp [go_sem]) (fun xs hx => by obtain ⟨y, _, rfl⟩ := List.mem_map.1 hx; rfl) ?_
 ·refine LeRow.cons (.frzP rfl ?_ ?_ ?_ ?_) (LeRow.cons (.frzP rfl ?_ ?_ ?_ ?_) (LeRow.cons (.frzP rfl ?_ ?_ ?_ ?_) .nil)) <;> first | exact LeRow.refl _ _ _ _ | simp [frzO, frz1, upd]
 obtain ⟨D, hD⟩ : ∃ D : Nat → List (List PosD), ∀ k, D k = (L.take k).map (·.1) := ⟨_, fun _ => rfl⟩
 have hDl : ∀ k, k ≤ L.length → (D k).length = k := fun k hk => by rw [hD]; simp; omega
 have hDs : ∀ k, k < L.length → D (k + 1) = D k ++ [(nth L k).1] := fun k hk => by rw [hD, hD, List.take_add_one, List.getElem?_eq_getElem hk, nth_eq _ _ hk, Option.toList_some, List.map_append]; rfl
 have hD0 : D 0 = [] := by rw [hD]; rfl
 simp only [← hD] at hA hpast hchain
 refine Fgt.to (ARange.ind (α := Nat) (fun k => ([(4, .ref 0 0 9 0 0), (6, .ref 2 0 5 0 0), (8, .ref 3 0 1 0 0), (9, .ref 4 0 1 0 0), (10, .ref 5 0 1 0 0)], [(0, .rows true 0 9 [encGame g]), (2, .rows true 0 5 [encPos goal]), (3, .rows true 0 1 [[AV.nils]]), (4, .rows true 0 1 [[.v (.int .i64 0)]]), (5, .rows true 0 1 [[.sl 9 k 1 0 k]]), (9, .rows true k 1 (encD (D k)))], 10))
  (fun rows k => rows = (L.drop k).map rowL ∧ k ≤ L.length ∧ (∀ j, j < k → goal ∉ (nth L j).1 ∧ (nth L j).2 = false)) ?_ ?_ _ 0 ?_) ?_ ?_
 ·rintro k ⟨i1, i2, i3⟩
  have hk : k = L.length := by
   have := congrArg List.length i1
   simp at this
   omega
  subst hk
  refine ⟨rfl, ?_⟩
  have hl := List.length_pos_iff.2 hne
  have hff : fullP L = false := by rw [hfull]; exact (i3 _ (by omega)).2
  have hgm := hN (fun j hj => (i3 j hj).1)
  rw [hff] at hgm
  subst hgm
  (repeat (first|with_reducible (first|refine wV fun _=>?_|refine wE ?_)|simp [go_sem, GH]))
 ·rintro xs rs k ⟨i1, i2, i3⟩ hrec
  have hk : k < L.length := by
   have := congrArg List.length i1
   simp at this
   omega
  rw [dropG_cons hk, List.map_cons, List.cons.injEq] at i1
  obtain ⟨rfl, rfl⟩ := i1
  generalize hrs : (L.drop (k + 1)).map rowL = rs at *
  have hDk := hDl k i2
  have hDs := hDs k hk
  have hokk := hok _ (nth_mem hk)
  have hF := pFind_pure (nth L k).1 hokk.1 (by
   have := (hpast k).2.2 (nth L k).1 (by rw [hDs]; simp)
   omega) (fun q h => (hokk.2 q h).fits hg) goal hq
  have hFm := fndP_mem hokk.1 (p := goal)
  refine ARange.go (Nat.zero_le _) ?_
  generalize fndP (nth L k).1 goal = fi at *
  generalize hnx : nth L k = x at *
  obtain ⟨now, full⟩ := x
  simp only at hF hFm hDs
  (repeat (first|with_reducible (first|refine wV fun _=>?_|refine wE ?_)|simp [go_sem, GH, rowL, hDk]))
  refine ACallP.plain hF (by simp [go_sem]) ?_
  (repeat (first|with_reducible (first|refine wV fun _=>?_|refine wE ?_)|simp [go_sem, GH]))
  refine aIf.mkL (fun hz => ?_) (fun hz => ?_) <;> simp at hz
  ·have hin := hFm.1 hz
   have hgm := hA k hk (by rw [hnx]; exact hin) (fun j hj => (i3 j hj).1)
   have hp1 := hpast k
   have hDl1 := hDl (k + 1) (by omega)
   have hT := trace_pure g hg (D (k + 1)) goal hp1.1 (hchain k) (by rw [hDl1, hDs, nth_eq _ _ (by simp; omega)]; simp [hDk, hin]) hp1.2.1 hp1.2.2
   rw [hgm]
   generalize traceP g (D (k + 1)) goal = tr at *
   (repeat (first|with_reducible (first|refine wV fun _=>?_|refine wE ?_)|simp [go_sem, GH]))
   refine ACallP.pureF [9] hT ?_ (by simp [go_sem]) ?_
   ·refine .cons (.refl _) (.cons (leV_frz rfl (by simp [hDk, encD]) (by simp [frzO, frz1, upd, noH]) ?_) (.cons (.refl _) .nil))
    rw [hDs, encD_append]
    simp only [List.drop_zero]
    exact List.take_of_length_le (by simp [hDk, encD])
   ·(repeat (first|with_reducible (first|refine wV fun _=>?_|refine wE ?_)|simp [go_sem, GH]))
  ·have hnin : goal ∉ now := fun h => by have := hFm.2 h; omega
   cases full
   ·(repeat (first|with_reducible (first|refine wV fun _=>?_|refine wE ?_)|simp [go_sem, GH]))
    refine Fgt.to (hrec (k + 1) ⟨hrs.symm, by omega, fun j hj => ?_⟩) ?_ (by simp)
    ·rcases Nat.lt_or_ge j k with h | h
     ·exact i3 j h
     ·obtain rfl : j = k := by omega
      rw [hnx]
      exact ⟨hnin, rfl⟩
    ·simp [go_sem, Wk_eq, GH, hDs, encD]
   ·have hkl := hlst k (by rw [hnx]) hk
    have hff : fullP L = true := by rw [hfull, show L.length - 1 = k by omega, hnx]
    have hgm := hN (fun j hj => by
     rcases Nat.lt_or_ge j k with h | h
     ·exact (i3 j h).1
     ·obtain rfl : j = k := by omega
      rw [hnx]; exact hnin)
    rw [hff] at hgm
    subst hgm
    (repeat (first|with_reducible (first|refine wV fun _=>?_|refine wE ?_)|simp [go_sem, GH]))
 ·exact ⟨rfl, Nat.zero_le _, fun j hj => by omega⟩
 ·simp [go_sem, Wk_eq, hD0, encD]
 ·simp
end Go.Av
end
section
/- Contracts: reach.Check, skewerref27.Check. -/
open Go Go.Proofs
namespace Go.Av
def checkP (g : GameD) (s q : PosD) (l : List PosD) : Bool := decide (l ≠ [] ∧ nth l 0 = s ∧ nth l (l.length - 1) = q ∧ ∀ j, j < l.length - 1 → nth l (j + 1) ∈ movesP g (nth l j))
theorem checkP_false {g : GameD} {s q : PosD} {l : List PosD} (h : ¬ (l ≠ [] ∧ nth l 0 = s ∧ nth l (l.length - 1) = q ∧ ∀ j, j < l.length - 1 → nth l (j + 1) ∈ movesP g (nth l j))) : checkP g s q l = false := decide_eq_false h
theorem Check_pure (g : GameD) (hg : GOk g) (s q : PosD) (hs : FitsP s) (hq : FitsP q) (l : List PosD) (hl : l.length ≤ 17179869184) (hp : ∀ x ∈ l, POk g x) :
  Pure Tryz.prog 25 [.agg (encGame g), .agg (encPos s), .agg (encPos q), encPs l] (.v (.bool (checkP g s q l))) := by
 refine pF Tryz.func25 ?_
 have hC := fun x (hx : x ∈ l) y (hy : FitsP y) => pCompare_pure x y ((hp x hx).fits hg) hy
 have hL := fun x (hx : x ∈ l) y (hy : y ∈ l) => Legal_pure g hg x (hp x hx) y ((hp y hy).fits hg)
 by_cases hl0 : l = []
 ·have hc : checkP g s q l = false := checkP_false (by simp [hl0])
  rw [hc]
  subst hl0
  (repeat (first|with_reducible (first|refine wV fun _=>?_|refine wE ?_)|simp [go_sem]))
  refine dGC.skip (.v (.int .i64 0)) ?_
  (repeat (first|with_reducible (first|refine wV fun _=>?_|refine wE ?_)|simp [go_sem]))
  refine dGC.skip (.v (.int .i64 0)) ?_
  (repeat (first|with_reducible (first|refine wV fun _=>?_|refine wE ?_)|simp [go_sem]))
 ·have hlp := List.length_pos_iff.2 hl0
  have hm1 := nth_mem (l := l) (i := 0) hlp
  have hm2 := nth_mem (l := l) (i := l.length - 1) (by omega)
  have h1 := hC _ hm1 s hs
  have h2 := hC _ hm2 q hq
  have hnm : nth (l.map encPos) (l.length - 1) = encPos (nth l (l.length - 1)) := nth_map _ _ _ (by omega)
  have e1 : cmpP (nth l 0) s = 0 ↔ nth l 0 = s := cmpP_eq
  have e2 : cmpP (nth l (l.length - 1)) q = 0 ↔ nth l (l.length - 1) = q := cmpP_eq
  obtain ⟨c, hc⟩ : ∃ c, c = checkP g s q l := ⟨_, rfl⟩
  have hcf : ¬ (l ≠ [] ∧ nth l 0 = s ∧ nth l (l.length - 1) = q ∧ ∀ j, j < l.length - 1 → nth l (j + 1) ∈ movesP g (nth l j)) → c = false := fun h => hc.trans (checkP_false h)
  have hct : (l ≠ [] ∧ nth l 0 = s ∧ nth l (l.length - 1) = q ∧ ∀ j, j < l.length - 1 → nth l (j + 1) ∈ movesP g (nth l j)) → c = true := fun h => hc.trans (decide_eq_true h)
  rw [← hc]
  clear hc
  have hegl : (encGame g).length = 9 := rfl
  have hegb : ∀ n, (∀ c ∈ encGame g, Bel n c) = True := fun n => by simp [go_sem]
  generalize encGame g = eg at *
  (repeat (first|with_reducible (first|refine wV fun _=>?_|refine wE ?_)|simp [go_sem, hegl, hl0, hlp]))
  refine dGC.plain _ (fun _ => h1) (by simp [go_sem]) ?_
  generalize cmpP (nth l 0) s = a at *
  by_cases ha : a = 0
  ·(repeat (first|with_reducible (first|refine wV fun _=>?_|refine wE ?_)|simp [go_sem, hegl, hl0, hlp, ha, hnm]))
   refine dGC.plain _ (fun _ => h2) (by simp [go_sem]) ?_
   generalize cmpP (nth l (l.length - 1)) q = b at *
   by_cases hb : b = 0
   ·(repeat (first|with_reducible (first|refine wV fun _=>?_|refine wE ?_)|simp [go_sem, hegl, hl0, hlp, ha, hnm, hb]))
    have hct' := fun h => hct ⟨hl0, e1.1 ha, e2.1 hb, h⟩
    have hcf' := fun (h : ¬ ∀ j, j < l.length - 1 → nth l (j + 1) ∈ movesP g (nth l j)) => hcf (fun h' => h h'.2.2.2)
    clear hcf hct hC
    refine ALoop.start (ALoop.ind (α := Nat) (fun i => ⟨[(3, encPs l), (4, .ref 0 0 9 0 0), (34, .v (.int .i64 ((l.length - 1 : Nat) : Int))), (35, .v (.int .i64 i))], [(0, .rows true 0 9 [eg])], 3⟩)
     (fun d i => i + d = l.length - 1 ∧ ∀ j, j < i → nth l (j + 1) ∈ movesP g (nth l j)) ?_ (l.length - 1) 0 ?_) ?_ ?_
    ·rintro d i ⟨i1, i2⟩ hrec
     (repeat (first|with_reducible (first|refine wV fun _=>?_|refine wE ?_)|simp [go_sem, hegl]))
     refine aIf.mkL (fun hi => ?_) (fun hi => ?_) <;> simp at hi
     ·have hi1 : i < l.length := by omega
      have hi2 : i + 1 < l.length := by omega
      have h := hL _ (nth_mem hi1) _ (nth_mem hi2)
      have hdb : decide (nth l (i + 1) ∈ movesP g (nth l i)) = true ↔ nth l (i + 1) ∈ movesP g (nth l i) := decide_eq_true_iff
      generalize decide (nth l (i + 1) ∈ movesP g (nth l i)) = m at *
      (repeat (first|with_reducible (first|refine wV fun _=>?_|refine wE ?_)|simp [go_sem, hegl, hi1, hi2]))
      refine dCall.plain h (by simp [go_sem, hegb]) ?_
      cases m
      ·have : c = false := hcf' (fun h => by have := hdb.2 (h i (by omega)); simp at this)
       subst this
       (repeat (first|with_reducible (first|refine wV fun _=>?_|refine wE ?_)|simp [go_sem, hegl]))
      ·(repeat (first|with_reducible (first|refine wV fun _=>?_|refine wE ?_)|simp [go_sem, hegl]))
       refine ALoop.start (hrec (d - 1) (by omega) (i + 1) ⟨by omega, fun j hj => ?_⟩) ?_ (by simp)
       ·rcases Nat.lt_or_ge j i with h | h
        ·exact i2 j h
        ·obtain rfl : j = i := by omega
         exact hdb.1 rfl
       ·simp [go_sem, Wk_eq, hegb]
     ·have : c = true := hct' (fun j hj => i2 j (by omega))
      subst this
      (repeat (first|with_reducible (first|refine wV fun _=>?_|refine wE ?_)|simp [go_sem, hegl]))
    ·exact ⟨by omega, fun j hj => by omega⟩
    ·simp [go_sem, Wk_eq, hegb]
    ·simp
   ·have : c = false := hcf (fun h => hb (e2.2 h.2.2.1))
    subst this
    (repeat (first|with_reducible (first|refine wV fun _=>?_|refine wE ?_)|simp [go_sem, hegl, hl0, hlp, ha, hnm, hb]))
  ·have : c = false := hcf (fun h => ha (e1.2 h.2.1))
   subst this
   (repeat (first|with_reducible (first|refine wV fun _=>?_|refine wE ?_)|simp [go_sem, hegl, hl0, hlp, ha]))
   refine dGC.skip (.v (.int .i64 0)) ?_
   (repeat (first|with_reducible (first|refine wV fun _=>?_|refine wE ?_)|simp [go_sem, hegl, hl0, hlp, ha]))
end Go.Av
end
section
/- Contracts: skewerref27.leading, skewerref27.least. -/
open Go Go.Proofs
namespace Go.Av
end Go.Av
end
section
/- Contracts: skewerref27.Game. -/
open Go Go.Proofs
namespace Go.Av
end Go.Av
end
section
/- Contracts, laws of play: the game and the positions of the examples. -/
open Go Go.Proofs
namespace Go.Av
def at6 (a b c side : Int) : PosD := ⟨[a, b, c], [0], [0], 0, side⟩
def small6 : GameD := ⟨3, [[1, 2, -1], [-1, 0, 1]], [1, 0], [⟨⟨⟨[97]⟩⟩, [[(1, 0), (3, 0)], [(1, 0), (4, 0), (6, 0)]], false⟩], 0, false, [], 3, 2⟩
end Go.Av
end
section
/- Laws of play: the examples are a game and positions of it. -/
open Go Go.Proofs
namespace Go.Av
theorem handOk6 : HandOk small6 [0] := ⟨rfl, fun i hi => by
 obtain rfl : i = 0 := by simpa using hi
 exact ⟨by decide, by decide, by decide⟩⟩
theorem at6_ok (a b c side : Int) (ha : 0 ≤ a ∧ a ≤ 2) (hb : 0 ≤ b ∧ b ≤ 2) (hc : 0 ≤ c ∧ c ≤ 2) (hs : side = 0 ∨ side = 1) : POk small6 (at6 a b c side) :=
 ⟨rfl, by
  intro x hx
  simp only [at6, List.mem_cons, List.not_mem_nil, or_false] at hx
  have : (small6.kinds.length : Int) = 1 := rfl
  rcases hx with rfl | rfl | rfl <;> omega, handOk6, handOk6, by simp [at6], by simp [at6, small6], hs⟩
theorem small6_ok : GOk small6 := by
 refine ⟨?_, by decide, by decide, by decide, by decide, ?_, by decide, by decide, ?_, ?_, by decide, by decide, ?_, by decide, by decide, by decide⟩
 ·refine ⟨?_, ?_, ?_, ?_, ?_, ?_, ?_⟩ <;> first | decide | skip
 ·intro d hd
  have : d = 0 ∨ d = 1 := by
   have : small6.turn.length = 2 := rfl
   omega
  rcases this with rfl | rfl <;> decide
 ·intro k hk
  simp only [small6, List.mem_singleton] at hk
  subst hk
  decide
 ·intro k hk q hq
  simp only [small6, List.mem_singleton] at hk
  subst hk
  simp only [List.mem_cons, List.not_mem_nil, or_false] at hq
  rcases hq with rfl | rfl
  ·refine ⟨by decide, by decide, fun x hx => ?_, by decide, by decide, by decide⟩
   simp only [List.mem_cons, List.not_mem_nil, or_false] at hx
   rcases hx with rfl | rfl <;> exact ⟨by decide, by decide, by decide, by decide, by decide⟩
  ·refine ⟨by decide, by decide, fun x hx => ?_, by decide, by decide, by decide⟩
   simp only [List.mem_cons, List.not_mem_nil, or_false] at hx
   rcases hx with rfl | rfl | rfl <;> exact ⟨by decide, by decide, by decide, by decide, by decide⟩
 ·intro c hc
  simp [small6] at hc
end Go.Av
end
section
/- Contracts: the helpers of skewerlaw27. -/
open Go Go.Proofs
namespace Go.Av
def encFound (x : List PosD × Int) : AV := .agg [encPs x.1, .v (.int .i64 x.2)]
theorem found_pure (g : GameD) (hg : GOk g) (p : PosD) (hp : POk g p) (goal : PosD) (hq : FitsP goal) (n : Int) :
  Pure Tryz.prog 23 [.agg (encGame g), .agg (encPos p), .agg (encPos goal), .v (.int .i64 n)] (encFound (gameP g p goal n)) := by
 refine pF Tryz.func23 ?_
 have hG := Game_pure g hg p hp goal hq n
 generalize gameP g p goal n = x at *
 unfold encFound
 (repeat (first|with_reducible (first|refine wV fun _=>?_|refine wE ?_)|simp [go_sem]))
 refine ACallP.plain hG (by simp [go_sem]) ?_
 (repeat (first|with_reducible (first|refine wV fun _=>?_|refine wE ?_)|simp [go_sem]))
theorem Same27_pure (a b : List PosD × Int) (ha : a.1.length ≤ 17179869184) (hb : b.1.length ≤ 17179869184) (hfa : ∀ p ∈ a.1, FitsP p) (hfb : ∀ p ∈ b.1, FitsP p) :
  Pure Tryz.prog 22 [encFound a, encFound b] (.v (.bool (decide (a = b)))) := by
 refine pF Tryz.func22 ?_
 have hS := SameLists_pure a.1 b.1 ha hb hfa hfb
 have e : decide (a = b) = (decide (a.1 = b.1) && decide (a.2 = b.2)) := by
  rw [← Bool.decide_and, decide_eq_decide]
  exact Prod.ext_iff
 rw [e]
 generalize decide (a.1 = b.1) = s at *
 unfold encFound
 (repeat (first|with_reducible (first|refine wV fun _=>?_|refine wE ?_)|simp [go_sem]))
 refine ACallP.plain hS (by simp [go_sem]) ?_
 cases s
 ·(repeat (first|with_reducible (first|refine wV fun _=>?_|refine wE ?_)|simp [go_sem]))
 ·(repeat (first|with_reducible (first|refine wV fun _=>?_|refine wE ?_)|simp [go_sem]))
theorem at27_pure (a b c side : Int) : Pure Tryz.prog 69 [.v (.int .i64 a), .v (.int .i64 b), .v (.int .i64 c), .v (.int .i64 side)] (.agg (encPos (at6 a b c side))) := by
 refine pF Tryz.func69 ?_
 (repeat (first|with_reducible (first|refine wV fun _=>?_|refine wE ?_)|simp [go_sem]))
 simp only [at6, List.map_cons, List.map_nil, encI]
 (repeat' apply And.intro) <;> first | exact LeV.refl _ | exact leV_frz rfl (by simp) (by simp [noH, upd]) (by simp)
theorem seen27_pure (g : GameD) (hg : GOk g) (p : PosD) (hp : POk g p) (n : Int) :
  Pure Tryz.prog 27 [.agg (encGame g), .agg (encPos p), .v (.int .i64 n)] (.agg [.lst 1 (encD [seenP g p n]), .v (.bool (fullP (searchP g p n)))]) := by
 refine pF Tryz.func27 ?_
 have hS := Seen_pure g hg p hp n
 generalize seenP g p n = s at *
 generalize fullP (searchP g p n) = f at *
 (repeat (first|with_reducible (first|refine wV fun _=>?_|refine wE ?_)|simp [go_sem]))
 refine ACallP.plain hS (by simp [go_sem]) ?_
 (repeat (first|with_reducible (first|refine wV fun _=>?_|refine wE ?_)|simp [go_sem]))
 exact leV_frz rfl (by simp [encD]) (by simp [noH, upd]) (by simp [encD, encPs])
theorem game_27a : gameP small6 (at6 1 0 2 0) (at6 1 0 2 0) 0 = ([at6 1 0 2 0], 0) := by kernel_rfl
theorem game_27b : gameP small6 (at6 1 0 2 0) (at6 0 2 0 0) 9 = ([at6 1 0 2 0, at6 0 1 2 1, at6 0 2 0 0], 0) := by kernel_rfl
theorem game_27c : gameP small6 (at6 1 0 2 0) (at6 1 0 2 1) 9 = ([], 270) := by kernel_rfl
theorem game_27d : gameP small6 (at6 1 0 2 0) (at6 0 2 0 0) 1 = ([], 2) := by kernel_rfl
theorem check_27a : checkP small6 (at6 1 0 2 0) (at6 0 2 0 0) [at6 1 0 2 0, at6 0 1 2 1, at6 0 2 0 0] = true := by kernel_rfl
theorem check_27b : checkP small6 (at6 1 0 2 0) (at6 0 2 0 0) [at6 1 0 2 0, at6 0 2 0 0] = false := by kernel_rfl
theorem check_27c : checkP small6 (at6 1 0 2 0) (at6 1 0 2 0) [] = false := by kernel_rfl
theorem seen_27s : seenP small6 (at6 1 0 2 0) 4000 = sortU cmpP [at6 1 0 2 0, at6 0 1 2 1, at6 0 2 0 0] := by kernel_rfl
theorem seen_27 : (seenP small6 (at6 1 0 2 0) 4000).length = 3 := by
 rw [seen_27s, sortU_nodup_len (by decide)]
 rfl
theorem full_27 : fullP (searchP small6 (at6 1 0 2 0) 4000) = true := by kernel_rfl
theorem sanity27_pure : Pure Tryz.prog 19 [] (.v (.bool true)) := by
 have ka := at6_ok 1 0 2 0 (by omega) (by omega) (by omega) (.inl rfl)
 have kb := at6_ok 0 1 2 1 (by omega) (by omega) (by omega) (.inr rfl)
 have kc := at6_ok 0 2 0 0 (by omega) (by omega) (by omega) (.inl rfl)
 have kd := at6_ok 1 0 2 1 (by omega) (by omega) (by omega) (.inr rfl)
 have fa := ka.fits small6_ok
 have fb := kb.fits small6_ok
 have fc := kc.fits small6_ok
 have fd := kd.fits small6_ok
 have hA := at27_pure 1 0 2 0
 have hB := at27_pure 0 1 2 1
 have hC := at27_pure 0 2 0 0
 have hD := at27_pure 1 0 2 1
 have g1 := found_pure small6 small6_ok _ ka _ fa 0
 have g2 := found_pure small6 small6_ok _ ka _ fc 9
 have g3 := found_pure small6 small6_ok _ ka _ fd 9
 have g4 := found_pure small6 small6_ok _ ka _ fc 1
 rw [game_27a] at g1
 rw [game_27b] at g2
 rw [game_27c] at g3
 rw [game_27d] at g4
 have c1 := Check_pure small6 small6_ok _ _ fa fc [at6 1 0 2 0, at6 0 1 2 1, at6 0 2 0 0] (by simp) (by simp [ka, kb, kc])
 have c2 := Check_pure small6 small6_ok _ _ fa fc [at6 1 0 2 0, at6 0 2 0 0] (by simp) (by simp [ka, kc])
 have c3 := Check_pure small6 small6_ok _ _ fa fa [] (by simp) (by simp)
 rw [check_27a] at c1
 rw [check_27b] at c2
 rw [check_27c] at c3
 have s1 := seen27_pure small6 small6_ok _ ka 4000
 have hsl := seen_27
 rw [full_27] at s1
 generalize seenP small6 (at6 1 0 2 0) 4000 = sn at *
 have q1 := Same27_pure ([at6 1 0 2 0], 0) ([at6 1 0 2 0], 0) (by simp) (by simp) (by simp [fa]) (by simp [fa])
 have q2 := Same27_pure ([at6 1 0 2 0, at6 0 1 2 1, at6 0 2 0 0], 0) ([at6 1 0 2 0, at6 0 1 2 1, at6 0 2 0 0], 0) (by simp) (by simp) (by simp [fa, fb, fc]) (by simp [fa, fb, fc])
 rw [decide_eq_true rfl] at q1 q2
 generalize at6 1 0 2 0 = a at *
 generalize at6 0 1 2 1 = b at *
 generalize at6 0 2 0 0 = c at *
 generalize at6 1 0 2 1 = d at *
 clear ka kb kc kd fa fb fc fd
 have hen : nth (encD [sn]) 0 = [encPs sn] := rfl
 refine pF Tryz.func19 ?_
 (repeat (first|with_reducible (first|refine wV fun _=>?_|refine wE ?_)|simp [go_sem]))
 refine ACallP.plain hA (by simp [go_sem]) ?_
 (repeat (first|with_reducible (first|refine wV fun _=>?_|refine wE ?_)|simp [go_sem]))
 refine ACallP.plain hB (by simp [go_sem]) ?_
 (repeat (first|with_reducible (first|refine wV fun _=>?_|refine wE ?_)|simp [go_sem]))
 refine ACallP.plain hC (by simp [go_sem]) ?_
 (repeat (first|with_reducible (first|refine wV fun _=>?_|refine wE ?_)|simp [go_sem]))
 refine ACallP.pureF [0, 1, 2, 3, 4, 5, 6, 7] s1 ?_ (by simp [go_sem]) ?_
 ·simp only [small6, encGame, encIss, encIs, encKind, encProg, encStep, encI, List.map_cons, List.map_nil]
  exact leX
 (repeat (first|with_reducible (first|refine wV fun _=>?_|refine wE ?_)|simp [go_sem, hsl, encFound, hen]))
 refine dCall.frz [.agg (encGame small6), .agg (encPos a), .agg (encPos a), .v (.int .i64 0)] _ [0, 1, 2, 3, 4, 5, 6, 7] [] g1 (by simp) ?_ (by simp [go_sem]) ?_
 ·intro h₁ hS
  have h0 := (hS 0 (by simp)).symm
  have h1 := (hS 1 (by simp)).symm
  have h2 := (hS 2 (by simp)).symm
  have h3 := (hS 3 (by simp)).symm
  have h4 := (hS 4 (by simp)).symm
  have h5 := (hS 5 (by simp)).symm
  have h6 := (hS 6 (by simp)).symm
  have h7 := (hS 7 (by simp)).symm
  clear hS
  simp [upd, frzO, frz1] at h0 h1 h2 h3 h4 h5 h6 h7
  simp only [small6, encGame, encIss, encIs, encKind, encProg, encStep, encI, List.map_cons, List.map_nil]
  ((try simp only [encProg, encStep, encAct, encAs, encPath, encPt, encOut, encState, encPos, encOs, encSs, encPs, encIs, encGame, List.map_cons, List.map_nil, List.nil_append, List.append_nil, List.cons_append]); (repeat (first | (with_reducible exact LeRow.nil) | (with_reducible exact LeRows.nil) | (with_reducible exact LeV.refl _) | (with_reducible exact LeRow.refl _ _ _ _) | (with_reducible exact LeRows.refl _) | (with_reducible refine LeRow.cons ?_ ?_) | (with_reducible refine LeRows.cons ?_ ?_) | (with_reducible refine LeV.agg ?_) | (with_reducible refine LeV.tup ?_) | (with_reducible refine LeV.fn ?_ ?_) | (with_reducible exact LeV.nil _) | (with_reducible refine leRows_append (LeRows.refl _) ?_) | ((refine leV_frz (by first | rfl | assumption) (by simp [h0, h1, h2, h3, h4, h5, h6, h7]) (by simp [frzO, frz1, upd, noH, applyW, h0, h1, h2, h3, h4, h5, h6, h7]) ?_); (first | (simp [go_sem, h0, h1, h2, h3, h4, h5, h6, h7]; done) | (simp [go_sem, h0, h1, h2, h3, h4, h5, h6, h7]; exact List.take_of_length_le (by simp [h0, h1, h2, h3, h4, h5, h6, h7])))) | ((refine LeV.frz (by first | rfl | assumption) (by simp [h0, h1, h2, h3, h4, h5, h6, h7]) (by simp [frzO, frz1, upd, noH, applyW, h0, h1, h2, h3, h4, h5, h6, h7]) ?_); (simp only [List.drop_zero, List.take_succ_cons, List.take_zero, List.map_cons, List.map_nil])) | ((refine LeV.frzP (by first | rfl | assumption) (by simp [h0, h1, h2, h3, h4, h5, h6, h7]) (by simp) (by simp [frzO, frz1, upd, noH, applyW, h0, h1, h2, h3, h4, h5, h6, h7]) ?_); (simp only [nth_zero, List.drop_zero])))))
 (repeat (first|with_reducible (first|refine wV fun _=>?_|refine wE ?_)|simp [go_sem, hsl, encFound, hen]))
 refine dCall.flat [encFound ([a], 0), encFound ([a], 0)] (.v (.bool true)) [18] q1 (.v _) ?_ (by simp [go_sem, encFound]) ?_
 ·intro h₁ hS
  have h18 := (hS 18 (by simp)).symm
  simp [upd, frzO, frz1] at h18
  simp only [encFound]
  ((try simp only [encProg, encStep, encAct, encAs, encPath, encPt, encOut, encState, encPos, encOs, encSs, encPs, encIs, encGame, List.map_cons, List.map_nil, List.nil_append, List.append_nil, List.cons_append]); (repeat (first | (with_reducible exact LeRow.nil) | (with_reducible exact LeRows.nil) | (with_reducible exact LeV.refl _) | (with_reducible exact LeRow.refl _ _ _ _) | (with_reducible exact LeRows.refl _) | (with_reducible refine LeRow.cons ?_ ?_) | (with_reducible refine LeRows.cons ?_ ?_) | (with_reducible refine LeV.agg ?_) | (with_reducible refine LeV.tup ?_) | (with_reducible refine LeV.fn ?_ ?_) | (with_reducible exact LeV.nil _) | (with_reducible refine leRows_append (LeRows.refl _) ?_) | ((refine leV_frz (by first | rfl | assumption) (by simp [h18]) (by simp [frzO, frz1, upd, noH, applyW, h18]) ?_); (first | (simp [go_sem, h18]; done) | (simp [go_sem, h18]; exact List.take_of_length_le (by simp [h18])))) | ((refine LeV.frz (by first | rfl | assumption) (by simp [h18]) (by simp [frzO, frz1, upd, noH, applyW, h18]) ?_); (simp only [List.drop_zero, List.take_succ_cons, List.take_zero, List.map_cons, List.map_nil])) | ((refine LeV.frzP (by first | rfl | assumption) (by simp [h18]) (by simp) (by simp [frzO, frz1, upd, noH, applyW, h18]) ?_); (simp only [nth_zero, List.drop_zero])))))
 (repeat (first|with_reducible (first|refine wV fun _=>?_|refine wE ?_)|simp [go_sem, hsl, encFound, hen]))
 refine dGC.frz [.agg (encGame small6), .agg (encPos a), .agg (encPos c), .v (.int .i64 9)] _ [0, 1, 2, 3, 4, 5, 6, 7] [] g2 (by simp) ?_ (by simp [go_sem]) ?_
 ·intro h₁ hS
  have h0 := (hS 0 (by simp)).symm
  have h1 := (hS 1 (by simp)).symm
  have h2 := (hS 2 (by simp)).symm
  have h3 := (hS 3 (by simp)).symm
  have h4 := (hS 4 (by simp)).symm
  have h5 := (hS 5 (by simp)).symm
  have h6 := (hS 6 (by simp)).symm
  have h7 := (hS 7 (by simp)).symm
  clear hS
  simp [upd, frzO, frz1] at h0 h1 h2 h3 h4 h5 h6 h7
  simp only [small6, encGame, encIss, encIs, encKind, encProg, encStep, encI, List.map_cons, List.map_nil]
  ((try simp only [encProg, encStep, encAct, encAs, encPath, encPt, encOut, encState, encPos, encOs, encSs, encPs, encIs, encGame, List.map_cons, List.map_nil, List.nil_append, List.append_nil, List.cons_append]); (repeat (first | (with_reducible exact LeRow.nil) | (with_reducible exact LeRows.nil) | (with_reducible exact LeV.refl _) | (with_reducible exact LeRow.refl _ _ _ _) | (with_reducible exact LeRows.refl _) | (with_reducible refine LeRow.cons ?_ ?_) | (with_reducible refine LeRows.cons ?_ ?_) | (with_reducible refine LeV.agg ?_) | (with_reducible refine LeV.tup ?_) | (with_reducible refine LeV.fn ?_ ?_) | (with_reducible exact LeV.nil _) | (with_reducible refine leRows_append (LeRows.refl _) ?_) | ((refine leV_frz (by first | rfl | assumption) (by simp [h0, h1, h2, h3, h4, h5, h6, h7]) (by simp [frzO, frz1, upd, noH, applyW, h0, h1, h2, h3, h4, h5, h6, h7]) ?_); (first | (simp [go_sem, h0, h1, h2, h3, h4, h5, h6, h7]; done) | (simp [go_sem, h0, h1, h2, h3, h4, h5, h6, h7]; exact List.take_of_length_le (by simp [h0, h1, h2, h3, h4, h5, h6, h7])))) | ((refine LeV.frz (by first | rfl | assumption) (by simp [h0, h1, h2, h3, h4, h5, h6, h7]) (by simp [frzO, frz1, upd, noH, applyW, h0, h1, h2, h3, h4, h5, h6, h7]) ?_); (simp only [List.drop_zero, List.take_succ_cons, List.take_zero, List.map_cons, List.map_nil])) | ((refine LeV.frzP (by first | rfl | assumption) (by simp [h0, h1, h2, h3, h4, h5, h6, h7]) (by simp) (by simp [frzO, frz1, upd, noH, applyW, h0, h1, h2, h3, h4, h5, h6, h7]) ?_); (simp only [nth_zero, List.drop_zero])))))
 (repeat (first|with_reducible (first|refine wV fun _=>?_|refine wE ?_)|simp [go_sem, hsl, encFound, hen]))
 refine dGC.flat [encFound ([a, b, c], 0), encFound ([a, b, c], 0)] (.v (.bool true)) [29] (fun _ => q2) (.v _) ?_ (by simp [go_sem, encFound]) ?_
 ·intro h₁ hS
  have h29 := (hS 29 (by simp)).symm
  simp [upd, frzO, frz1] at h29
  simp only [encFound]
  ((try simp only [encProg, encStep, encAct, encAs, encPath, encPt, encOut, encState, encPos, encOs, encSs, encPs, encIs, encGame, List.map_cons, List.map_nil, List.nil_append, List.append_nil, List.cons_append]); (repeat (first | (with_reducible exact LeRow.nil) | (with_reducible exact LeRows.nil) | (with_reducible exact LeV.refl _) | (with_reducible exact LeRow.refl _ _ _ _) | (with_reducible exact LeRows.refl _) | (with_reducible refine LeRow.cons ?_ ?_) | (with_reducible refine LeRows.cons ?_ ?_) | (with_reducible refine LeV.agg ?_) | (with_reducible refine LeV.tup ?_) | (with_reducible refine LeV.fn ?_ ?_) | (with_reducible exact LeV.nil _) | (with_reducible refine leRows_append (LeRows.refl _) ?_) | ((refine leV_frz (by first | rfl | assumption) (by simp [h29]) (by simp [frzO, frz1, upd, noH, applyW, h29]) ?_); (first | (simp [go_sem, h29]; done) | (simp [go_sem, h29]; exact List.take_of_length_le (by simp [h29])))) | ((refine LeV.frz (by first | rfl | assumption) (by simp [h29]) (by simp [frzO, frz1, upd, noH, applyW, h29]) ?_); (simp only [List.drop_zero, List.take_succ_cons, List.take_zero, List.map_cons, List.map_nil])) | ((refine LeV.frzP (by first | rfl | assumption) (by simp [h29]) (by simp) (by simp [frzO, frz1, upd, noH, applyW, h29]) ?_); (simp only [nth_zero, List.drop_zero])))))
 (repeat (first|with_reducible (first|refine wV fun _=>?_|refine wE ?_)|simp [go_sem, hsl, encFound, hen]))
 refine dGC.plain _ (fun _ => hD) (by simp [go_sem]) ?_
 (repeat (first|with_reducible (first|refine wV fun _=>?_|refine wE ?_)|simp [go_sem, hsl, encFound, hen]))
 refine dGC.frz [.agg (encGame small6), .agg (encPos a), .agg (encPos d), .v (.int .i64 9)] _ [0, 1, 2, 3, 4, 5, 6, 7] [] g3 (by simp) ?_ (by simp [go_sem]) ?_
 ·intro h₁ hS
  have h0 := (hS 0 (by simp)).symm
  have h1 := (hS 1 (by simp)).symm
  have h2 := (hS 2 (by simp)).symm
  have h3 := (hS 3 (by simp)).symm
  have h4 := (hS 4 (by simp)).symm
  have h5 := (hS 5 (by simp)).symm
  have h6 := (hS 6 (by simp)).symm
  have h7 := (hS 7 (by simp)).symm
  clear hS
  simp [upd, frzO, frz1] at h0 h1 h2 h3 h4 h5 h6 h7
  simp only [small6, encGame, encIss, encIs, encKind, encProg, encStep, encI, List.map_cons, List.map_nil]
  ((try simp only [encProg, encStep, encAct, encAs, encPath, encPt, encOut, encState, encPos, encOs, encSs, encPs, encIs, encGame, List.map_cons, List.map_nil, List.nil_append, List.append_nil, List.cons_append]); (repeat (first | (with_reducible exact LeRow.nil) | (with_reducible exact LeRows.nil) | (with_reducible exact LeV.refl _) | (with_reducible exact LeRow.refl _ _ _ _) | (with_reducible exact LeRows.refl _) | (with_reducible refine LeRow.cons ?_ ?_) | (with_reducible refine LeRows.cons ?_ ?_) | (with_reducible refine LeV.agg ?_) | (with_reducible refine LeV.tup ?_) | (with_reducible refine LeV.fn ?_ ?_) | (with_reducible exact LeV.nil _) | (with_reducible refine leRows_append (LeRows.refl _) ?_) | ((refine leV_frz (by first | rfl | assumption) (by simp [h0, h1, h2, h3, h4, h5, h6, h7]) (by simp [frzO, frz1, upd, noH, applyW, h0, h1, h2, h3, h4, h5, h6, h7]) ?_); (first | (simp [go_sem, h0, h1, h2, h3, h4, h5, h6, h7]; done) | (simp [go_sem, h0, h1, h2, h3, h4, h5, h6, h7]; exact List.take_of_length_le (by simp [h0, h1, h2, h3, h4, h5, h6, h7])))) | ((refine LeV.frz (by first | rfl | assumption) (by simp [h0, h1, h2, h3, h4, h5, h6, h7]) (by simp [frzO, frz1, upd, noH, applyW, h0, h1, h2, h3, h4, h5, h6, h7]) ?_); (simp only [List.drop_zero, List.take_succ_cons, List.take_zero, List.map_cons, List.map_nil])) | ((refine LeV.frzP (by first | rfl | assumption) (by simp [h0, h1, h2, h3, h4, h5, h6, h7]) (by simp) (by simp [frzO, frz1, upd, noH, applyW, h0, h1, h2, h3, h4, h5, h6, h7]) ?_); (simp only [nth_zero, List.drop_zero])))))
 (repeat (first|with_reducible (first|refine wV fun _=>?_|refine wE ?_)|simp [go_sem, hsl, encFound, hen]))
 refine dGC.frz [.agg (encGame small6), .agg (encPos a), .agg (encPos c), .v (.int .i64 1)] _ [0, 1, 2, 3, 4, 5, 6, 7] [] g4 (by simp) ?_ (by simp [go_sem]) ?_
 ·intro h₁ hS
  have h0 := (hS 0 (by simp)).symm
  have h1 := (hS 1 (by simp)).symm
  have h2 := (hS 2 (by simp)).symm
  have h3 := (hS 3 (by simp)).symm
  have h4 := (hS 4 (by simp)).symm
  have h5 := (hS 5 (by simp)).symm
  have h6 := (hS 6 (by simp)).symm
  have h7 := (hS 7 (by simp)).symm
  clear hS
  simp [upd, frzO, frz1] at h0 h1 h2 h3 h4 h5 h6 h7
  simp only [small6, encGame, encIss, encIs, encKind, encProg, encStep, encI, List.map_cons, List.map_nil]
  ((try simp only [encProg, encStep, encAct, encAs, encPath, encPt, encOut, encState, encPos, encOs, encSs, encPs, encIs, encGame, List.map_cons, List.map_nil, List.nil_append, List.append_nil, List.cons_append]); (repeat (first | (with_reducible exact LeRow.nil) | (with_reducible exact LeRows.nil) | (with_reducible exact LeV.refl _) | (with_reducible exact LeRow.refl _ _ _ _) | (with_reducible exact LeRows.refl _) | (with_reducible refine LeRow.cons ?_ ?_) | (with_reducible refine LeRows.cons ?_ ?_) | (with_reducible refine LeV.agg ?_) | (with_reducible refine LeV.tup ?_) | (with_reducible refine LeV.fn ?_ ?_) | (with_reducible exact LeV.nil _) | (with_reducible refine leRows_append (LeRows.refl _) ?_) | ((refine leV_frz (by first | rfl | assumption) (by simp [h0, h1, h2, h3, h4, h5, h6, h7]) (by simp [frzO, frz1, upd, noH, applyW, h0, h1, h2, h3, h4, h5, h6, h7]) ?_); (first | (simp [go_sem, h0, h1, h2, h3, h4, h5, h6, h7]; done) | (simp [go_sem, h0, h1, h2, h3, h4, h5, h6, h7]; exact List.take_of_length_le (by simp [h0, h1, h2, h3, h4, h5, h6, h7])))) | ((refine LeV.frz (by first | rfl | assumption) (by simp [h0, h1, h2, h3, h4, h5, h6, h7]) (by simp [frzO, frz1, upd, noH, applyW, h0, h1, h2, h3, h4, h5, h6, h7]) ?_); (simp only [List.drop_zero, List.take_succ_cons, List.take_zero, List.map_cons, List.map_nil])) | ((refine LeV.frzP (by first | rfl | assumption) (by simp [h0, h1, h2, h3, h4, h5, h6, h7]) (by simp) (by simp [frzO, frz1, upd, noH, applyW, h0, h1, h2, h3, h4, h5, h6, h7]) ?_); (simp only [nth_zero, List.drop_zero])))))
 (repeat (first|with_reducible (first|refine wV fun _=>?_|refine wE ?_)|simp [go_sem, hsl, encFound, hen]))
 refine dGC.flat [.agg (encGame small6), .agg (encPos a), .agg (encPos c), encPs [a, b, c]] (.v (.bool true)) [0, 1, 2, 3, 4, 5, 6, 7, 56] (fun _ => c1) (.v _) ?_ (by simp [go_sem]) ?_
 ·intro h₁ hS
  have h0 := (hS 0 (by simp)).symm
  have h1 := (hS 1 (by simp)).symm
  have h2 := (hS 2 (by simp)).symm
  have h3 := (hS 3 (by simp)).symm
  have h4 := (hS 4 (by simp)).symm
  have h5 := (hS 5 (by simp)).symm
  have h6 := (hS 6 (by simp)).symm
  have h7 := (hS 7 (by simp)).symm
  have h56 := (hS 56 (by simp)).symm
  clear hS
  simp [upd, frzO, frz1] at h0 h1 h2 h3 h4 h5 h6 h7 h56
  simp only [small6, encGame, encIss, encIs, encKind, encProg, encStep, encI, List.map_cons, List.map_nil]
  ((try simp only [encProg, encStep, encAct, encAs, encPath, encPt, encOut, encState, encPos, encOs, encSs, encPs, encIs, encGame, List.map_cons, List.map_nil, List.nil_append, List.append_nil, List.cons_append]); (repeat (first | (with_reducible exact LeRow.nil) | (with_reducible exact LeRows.nil) | (with_reducible exact LeV.refl _) | (with_reducible exact LeRow.refl _ _ _ _) | (with_reducible exact LeRows.refl _) | (with_reducible refine LeRow.cons ?_ ?_) | (with_reducible refine LeRows.cons ?_ ?_) | (with_reducible refine LeV.agg ?_) | (with_reducible refine LeV.tup ?_) | (with_reducible refine LeV.fn ?_ ?_) | (with_reducible exact LeV.nil _) | (with_reducible refine leRows_append (LeRows.refl _) ?_) | ((refine leV_frz (by first | rfl | assumption) (by simp [h0, h1, h2, h3, h4, h5, h6, h7, h56]) (by simp [frzO, frz1, upd, noH, applyW, h0, h1, h2, h3, h4, h5, h6, h7, h56]) ?_); (first | (simp [go_sem, h0, h1, h2, h3, h4, h5, h6, h7, h56]; done) | (simp [go_sem, h0, h1, h2, h3, h4, h5, h6, h7, h56]; exact List.take_of_length_le (by simp [h0, h1, h2, h3, h4, h5, h6, h7, h56])))) | ((refine LeV.frz (by first | rfl | assumption) (by simp [h0, h1, h2, h3, h4, h5, h6, h7, h56]) (by simp [frzO, frz1, upd, noH, applyW, h0, h1, h2, h3, h4, h5, h6, h7, h56]) ?_); (simp only [List.drop_zero, List.take_succ_cons, List.take_zero, List.map_cons, List.map_nil])) | ((refine LeV.frzP (by first | rfl | assumption) (by simp [h0, h1, h2, h3, h4, h5, h6, h7, h56]) (by simp) (by simp [frzO, frz1, upd, noH, applyW, h0, h1, h2, h3, h4, h5, h6, h7, h56]) ?_); (simp only [nth_zero, List.drop_zero])))))
 (repeat (first|with_reducible (first|refine wV fun _=>?_|refine wE ?_)|simp [go_sem, hsl, encFound, hen]))
 refine dGC.flat [.agg (encGame small6), .agg (encPos a), .agg (encPos c), encPs [a, c]] (.v (.bool false)) [0, 1, 2, 3, 4, 5, 6, 7, 65] (fun _ => c2) (.v _) ?_ (by simp [go_sem]) ?_
 ·intro h₁ hS
  have h0 := (hS 0 (by simp)).symm
  have h1 := (hS 1 (by simp)).symm
  have h2 := (hS 2 (by simp)).symm
  have h3 := (hS 3 (by simp)).symm
  have h4 := (hS 4 (by simp)).symm
  have h5 := (hS 5 (by simp)).symm
  have h6 := (hS 6 (by simp)).symm
  have h7 := (hS 7 (by simp)).symm
  have h65 := (hS 65 (by simp)).symm
  clear hS
  simp [upd, frzO, frz1] at h0 h1 h2 h3 h4 h5 h6 h7 h65
  simp only [small6, encGame, encIss, encIs, encKind, encProg, encStep, encI, List.map_cons, List.map_nil]
  ((try simp only [encProg, encStep, encAct, encAs, encPath, encPt, encOut, encState, encPos, encOs, encSs, encPs, encIs, encGame, List.map_cons, List.map_nil, List.nil_append, List.append_nil, List.cons_append]); (repeat (first | (with_reducible exact LeRow.nil) | (with_reducible exact LeRows.nil) | (with_reducible exact LeV.refl _) | (with_reducible exact LeRow.refl _ _ _ _) | (with_reducible exact LeRows.refl _) | (with_reducible refine LeRow.cons ?_ ?_) | (with_reducible refine LeRows.cons ?_ ?_) | (with_reducible refine LeV.agg ?_) | (with_reducible refine LeV.tup ?_) | (with_reducible refine LeV.fn ?_ ?_) | (with_reducible exact LeV.nil _) | (with_reducible refine leRows_append (LeRows.refl _) ?_) | ((refine leV_frz (by first | rfl | assumption) (by simp [h0, h1, h2, h3, h4, h5, h6, h7, h65]) (by simp [frzO, frz1, upd, noH, applyW, h0, h1, h2, h3, h4, h5, h6, h7, h65]) ?_); (first | (simp [go_sem, h0, h1, h2, h3, h4, h5, h6, h7, h65]; done) | (simp [go_sem, h0, h1, h2, h3, h4, h5, h6, h7, h65]; exact List.take_of_length_le (by simp [h0, h1, h2, h3, h4, h5, h6, h7, h65])))) | ((refine LeV.frz (by first | rfl | assumption) (by simp [h0, h1, h2, h3, h4, h5, h6, h7, h65]) (by simp [frzO, frz1, upd, noH, applyW, h0, h1, h2, h3, h4, h5, h6, h7, h65]) ?_); (simp only [List.drop_zero, List.take_succ_cons, List.take_zero, List.map_cons, List.map_nil])) | ((refine LeV.frzP (by first | rfl | assumption) (by simp [h0, h1, h2, h3, h4, h5, h6, h7, h65]) (by simp) (by simp [frzO, frz1, upd, noH, applyW, h0, h1, h2, h3, h4, h5, h6, h7, h65]) ?_); (simp only [nth_zero, List.drop_zero])))))
 (repeat (first|with_reducible (first|refine wV fun _=>?_|refine wE ?_)|simp [go_sem, hsl, encFound, hen]))
 refine dGC.flat [.agg (encGame small6), .agg (encPos a), .agg (encPos a), encPs []] (.v (.bool false)) [0, 1, 2, 3, 4, 5, 6, 7] (fun _ => c3) (.v _) ?_ (by simp [go_sem]) ?_
 ·intro h₁ hS
  have h0 := (hS 0 (by simp)).symm
  have h1 := (hS 1 (by simp)).symm
  have h2 := (hS 2 (by simp)).symm
  have h3 := (hS 3 (by simp)).symm
  have h4 := (hS 4 (by simp)).symm
  have h5 := (hS 5 (by simp)).symm
  have h6 := (hS 6 (by simp)).symm
  have h7 := (hS 7 (by simp)).symm
  clear hS
  simp [upd, frzO, frz1] at h0 h1 h2 h3 h4 h5 h6 h7
  simp only [small6, encGame, encIss, encIs, encKind, encProg, encStep, encI, List.map_cons, List.map_nil]
  ((try simp only [encProg, encStep, encAct, encAs, encPath, encPt, encOut, encState, encPos, encOs, encSs, encPs, encIs, encGame, List.map_cons, List.map_nil, List.nil_append, List.append_nil, List.cons_append]); (repeat (first | (with_reducible exact LeRow.nil) | (with_reducible exact LeRows.nil) | (with_reducible exact LeV.refl _) | (with_reducible exact LeRow.refl _ _ _ _) | (with_reducible exact LeRows.refl _) | (with_reducible refine LeRow.cons ?_ ?_) | (with_reducible refine LeRows.cons ?_ ?_) | (with_reducible refine LeV.agg ?_) | (with_reducible refine LeV.tup ?_) | (with_reducible refine LeV.fn ?_ ?_) | (with_reducible exact LeV.nil _) | (with_reducible refine leRows_append (LeRows.refl _) ?_) | ((refine leV_frz (by first | rfl | assumption) (by simp [h0, h1, h2, h3, h4, h5, h6, h7]) (by simp [frzO, frz1, upd, noH, applyW, h0, h1, h2, h3, h4, h5, h6, h7]) ?_); (first | (simp [go_sem, h0, h1, h2, h3, h4, h5, h6, h7]; done) | (simp [go_sem, h0, h1, h2, h3, h4, h5, h6, h7]; exact List.take_of_length_le (by simp [h0, h1, h2, h3, h4, h5, h6, h7])))) | ((refine LeV.frz (by first | rfl | assumption) (by simp [h0, h1, h2, h3, h4, h5, h6, h7]) (by simp [frzO, frz1, upd, noH, applyW, h0, h1, h2, h3, h4, h5, h6, h7]) ?_); (simp only [List.drop_zero, List.take_succ_cons, List.take_zero, List.map_cons, List.map_nil])) | ((refine LeV.frzP (by first | rfl | assumption) (by simp [h0, h1, h2, h3, h4, h5, h6, h7]) (by simp) (by simp [frzO, frz1, upd, noH, applyW, h0, h1, h2, h3, h4, h5, h6, h7]) ?_); (simp only [nth_zero, List.drop_zero])))))
 (repeat (first|with_reducible (first|refine wV fun _=>?_|refine wE ?_)|simp [go_sem, hsl, encFound, hen]))
end Go.Av
end
section
/- The law ReachMatchesReference: its call gives true. -/
open Go Go.Proofs
namespace Go.Av
end Go.Av
end
section
/- What the rows list of play.conditions gives: the world invariant of our contracts. -/
open Go Go.Proofs
namespace Go.Av
theorem tok_func {P : Program} {t : TypeId} {fn : Fn} {first caps : Array Value} {l : List UInt8} (hl : l ≠ []) (h : funcToken P (t, .func fn first caps) = l) :
  ∃ f F, fn = .func f ∧ first = #[] ∧ caps = #[] ∧ P.funcs[f]? = some F ∧ P.funcNamed F.name = some f ∧ F.name.toUTF8.data.toList = l := by
 unfold funcToken at h
 cases fn with
 | func f =>
  simp only at h
  split at h
  ·rename_i hc
   simp only [Bool.and_eq_true, Array.isEmpty_iff] at hc
   split at h
   ·rename_i F hF
    split at h
    ·rename_i hn
     exact ⟨f, F, rfl, hc.1, hc.2, hF, by simpa using hn, h⟩
    ·exact absurd h.symm hl
   ·exact absurd h.symm hl
  ·exact absurd h.symm hl
 | _ => exact absurd h.symm hl
theorem trod_fn {P : Program} {w : World} {sp : Nat → Bool} {fuel : Nat} {e : TypeId} {d : TypeDesc} {v : Value} {l : List UInt8} {q : List MemPlace} (hd : P.underlying e = some d) (hf : ∃ a b c, d = .func a b c) (h : DataW.trod (funcToken P) P w 0 sp true fuel e [v] = some (.held l, q)) :
  ∃ fn first caps, v = .func fn first caps ∧ funcToken P (e, .func fn first caps) = l := by
 obtain ⟨a, b, c, rfl⟩ := hf
 cases fuel with
 | zero => simp [DataW.trod] at h
 | succ fuel =>
  simp only [DataW.trod, hd] at h
  cases v <;> simp at h
  exact ⟨_, _, _, rfl, h.1⟩
theorem trod_nilf {P : Program} {w : World} {sp : Nat → Bool} {fuel : Nat} {e : TypeId} {d : TypeDesc} {v : Value} {q : List MemPlace} (hd : P.underlying e = some d) (hf : ∃ a b c, d = .func a b c) (h : DataW.trod (funcToken P) P w 0 sp true fuel e [v] = some (.nil, q)) : v = .nilFunc := by
 obtain ⟨a, b, c, rfl⟩ := hf
 cases fuel with
 | zero => simp [DataW.trod] at h
 | succ fuel =>
  simp only [DataW.trod, hd] at h
  cases v <;> simp at h
  rfl
theorem bytes_name {a b : String} (h : a.toUTF8.data.toList = b.toUTF8.data.toList) : a = b := by
 have h1 : a.toUTF8 = b.toUTF8 := ByteArray.ext (Array.toList_inj.1 h)
 exact String.toByteArray_inj.1 h1
theorem fn_named {n : String} {k : FuncId} {l : List UInt8} {t : TypeId} {fn : Fn} {first caps : Array Value} (hk : Tryz.prog.funcNamed n = some k) (hl : n.toUTF8.data.toList = l) (hne : l ≠ []) (h : funcToken Tryz.prog (t, .func fn first caps) = l) : fn = .func k ∧ first = #[] ∧ caps = #[] := by
 obtain ⟨f, F, h1, h2, h3, h4, h5, h6⟩ := tok_func hne h
 have e : F.name = n := bytes_name (h6.trans hl.symm)
 rw [e, hk] at h5
 cases h5
 exact ⟨h1, h2, h3⟩
def condsD : DataW Unit := .agg [.nil, .iface "func" (.lit (.string [115, 107, 101, 119, 101, 114, 47, 112, 108, 97, 121, 46, 99, 111, 110, 100, 105, 116, 105, 111, 110, 115, 36, 49])), .iface "func" (.lit (.string [115, 107, 101, 119, 101, 114, 47, 112, 108, 97, 121, 46, 99, 111, 110, 100, 105, 116, 105, 111, 110, 115, 36, 50])), .iface "func" (.lit (.string [115, 107, 101, 119, 101, 114, 47, 112, 108, 97, 121, 46, 99, 111, 110, 100, 105, 116, 105, 111, 110, 115, 36, 51]))]
theorem conds_cells {W : World} (h : funcsAt Tryz.prog W "skewer/play.conditions" condsD) :
  ∃ cs T fz, W.heap[0]? = some (.cells cs T fz) ∧ cs.toList = [.nilFunc, .func (.func 316) #[] #[], .func (.func 318) #[] #[], .func (.func 319) #[] #[]] := by
 obtain ⟨g, t, cs, fuel, p, hg, ht, hcs, htr⟩ := h
 obtain rfl : g = 0 := (Option.some.inj ((show Tryz.prog.globalNamed "skewer/play.conditions" = some 0 by kernel_rfl).symm.trans hg)).symm
 obtain rfl : t = 199 := (Option.some.inj ((show (Tryz.prog.globals[0]?).map (·.type) = some 199 by kernel_rfl).symm.trans ht)).symm
 have hu : Tryz.prog.underlying 199 = some (.array 4 198) := by kernel_rfl
 have hc1 : Tryz.prog.cellsOf 198 = 1 := by kernel_rfl
 have hc4 : Tryz.prog.cellsOf 199 = 4 := by kernel_rfl
 have hheap : ∃ T fz, W.heap[0]? = some (.cells cs T fz) := by
  unfold World.var? at hcs
  rw [show Tryz.prog.globalNamed "skewer/play.conditions" = some 0 by kernel_rfl] at hcs
  simp only [Option.bind_some] at hcs
  split at hcs
  ·rename_i c T fz hb
   cases hcs
   exact ⟨T, fz, hb⟩
  ·cases hcs
 obtain ⟨T, fz, hb⟩ := hheap
 refine ⟨cs, T, fz, hb, ?_⟩
 cases fuel with
 | zero => simp [DataW.trod] at htr
 | succ fuel =>
  simp only [DataW.trod, hu, hc1, hc4, Nat.mul_one] at htr
  split at htr
  ·rename_i hl
   match hcl : cs.toList, hl with
   | [a, b, c, d], _ =>
    rw [hcl] at htr
    obtain ⟨xs, hm, hx⟩ := Option.map_eq_some_iff.1 htr
    simp only [show List.range 4 = [0, 1, 2, 3] from rfl, List.mapM_cons, List.mapM_nil, List.drop_zero, List.drop_succ_cons, List.take_succ_cons, List.take_zero, Option.bind_eq_bind, Option.bind_eq_some_iff, Option.pure_def, Option.some.injEq] at hm
    obtain ⟨⟨y0, q0⟩, h0, l1, ⟨⟨y1, q1⟩, h1, l2, ⟨⟨y2, q2⟩, h2, l3, ⟨⟨y3, q3⟩, h3, l4, rfl, rfl⟩, rfl⟩, rfl⟩, rfl⟩ := hm
    have hx1 := congrArg Prod.fst hx
    simp only [condsD, DataW.funcsOut, DataW.funcsOutAll, List.map_cons, List.map_nil, DataW.agg.injEq, List.cons.injEq, and_true] at hx1
    simp at hx1
    obtain ⟨rfl, rfl, rfl, rfl⟩ := hx1
    have hd : Tryz.prog.underlying 198 = some (.func #[42, 45, 115] #[4] false) := by kernel_rfl
    have hf : ∃ a b c, TypeDesc.func #[42, 45, 115] #[4] false = .func a b c := ⟨_, _, _, rfl⟩
    obtain rfl := trod_nilf hd hf h0
    obtain ⟨f1, i1, c1, rfl, t1⟩ := trod_fn hd hf h1
    obtain ⟨f2, i2, c2, rfl, t2⟩ := trod_fn hd hf h2
    obtain ⟨f3, i3, c3, rfl, t3⟩ := trod_fn hd hf h3
    obtain ⟨rfl, rfl, rfl⟩ := fn_named (n := "skewer/play.conditions$1") (k := 316) (by kernel_rfl) (by decide +kernel) (by simp) t1
    obtain ⟨rfl, rfl, rfl⟩ := fn_named (n := "skewer/play.conditions$2") (k := 318) (by kernel_rfl) (by decide +kernel) (by simp) t2
    obtain ⟨rfl, rfl, rfl⟩ := fn_named (n := "skewer/play.conditions$3") (k := 319) (by kernel_rfl) (by decide +kernel) (by simp) t3
    rfl
  ·cases htr
theorem glb_of_conds {W : World} (h : funcsAt Tryz.prog W "skewer/play.conditions" condsD) : GlbOk W (fun _ => False) := by
 obtain ⟨cs, T, fz, hb, hcs⟩ := conds_cells h
 have hsz : cs.size = 4 := by rw [← Array.length_toList, hcs]; rfl
 intro q hq
 have e : q = (0, [AV.v .nilFunc, .fn (.func 316) [] [], .fn (.func 318) [] [], .fn (.func 319) [] []]) := by simpa [glbs] using hq
 subst e
 refine Rel.fp (C := cs) (T := T) (fz := fz) rfl (fun h => h) hb (by simp [hsz]) ?_ ?_
 ·intro u hu
  simp only [hcs, List.drop_zero] at hu
  simp at hu
  rcases hu with rfl | rfl | rfl | rfl <;> rfl
 ·simp only [hcs, List.drop_zero]
  exact .cons (.v _) (.cons (.fn .nil .nil) (.cons (.fn .nil .nil) (.cons (.fn .nil .nil) .nil)))
end Go.Av
end
section
/- Rows that are tied cards: the world that the text lays. -/
open Go Go.Proofs Go.Av Go.ChangeShapes Go.RowKit
namespace Go.Proofs.YtjajfalomchohaaGreatDoor
theorem door_own : ownKnob Tryz.prog.godebug = none := by kernel_rfl
theorem door_lo : laidOutB Tryz.prog = true := by kernel_rfl
abbrev doorList : List (String × DataW Unit) := [("math/bits.deBruijn32tab", Rows.laid_math_bits_deBruijn32tab), ("math/bits.deBruijn64tab", Rows.laid_math_bits_deBruijn64tab), ("internal/strconv.uint64pow10", Rows.laid_internal_strconv_uint64pow10), ("skewer/play.conditions", Rows.laid_skewer_play_conditions)]
theorem door_met (os : Os) (args : Array Value) : laidMetH Tryz.prog doorList ((World.doorLaid Tryz.prog 29 os).forCall (fun _ _ => 0) ⟨#[], args, []⟩).memory :=
 laidMetH_of_parts3 (fuel := 8) (laidMet_of_run' 8 (by kernel_rfl) (by kernel_rfl)) (by kernel_rfl) (by kernel_rfl)
theorem door_vars (os : Os) (args : Array Value) : ((World.doorLaid Tryz.prog 29 os).forCall (fun _ _ => 0) ⟨#[], args, []⟩).variablesB Tryz.prog = true := by kernel_rfl
theorem door_heap (os : Os) (args : Array Value) : (((World.doorLaid Tryz.prog 29 os).forCall (fun _ _ => 0) ⟨#[], args, []⟩).heap.toList.drop Tryz.prog.globals.size).take ((begin Tryz.prog (fun _ _ => 0) default).world.heap.size - Tryz.prog.globals.size) =
  (begin Tryz.prog (fun _ _ => 0) default).world.heap.toList.drop Tryz.prog.globals.size := by kernel_rfl
end Go.Proofs.YtjajfalomchohaaGreatDoor
end
section
/- Our library, part 14: arguments, as the statements read them, are values of the abstract domain. -/
namespace Go.Av
open Go

abbrev NoM : Nat → Prop := fun _ => False

structure Bulk (B : Nat) (bk : ∀ {H : Type}, DataW H → Nat) : Prop where
 len : ∀ {H : Type} (l r : List (DataW H)), bk (.slice l r) ≤ B → l.length ≤ maxLen → l.length ≤ B
 elem : ∀ {H : Type} (l r : List (DataW H)) d, d ∈ l → bk (.slice l r) ≤ B → bk d ≤ B
 part : ∀ {H : Type} (l : List (DataW H)) d, d ∈ l → bk (.agg l) ≤ B → bk d ≤ B
 str : ∀ {H : Type} (l : List UInt8), bk (DataW.lit (H := H) (.string l)) ≤ B → l.length ≤ maxLen → l.length ≤ B

theorem Bulk.any : Bulk maxLen (fun _ => 0) := ⟨fun _ _ _ h => h, fun _ _ _ _ _ => Nat.zero_le _, fun _ _ _ _ => Nat.zero_le _, fun _ _ h => h⟩

def Opn (P : Program) (B : Nat) (bk : ∀ {H : Type}, DataW H → Nat) {α : Type} (t : TypeId) (en : α → List AV) (Q : α → Prop) : Prop :=
 ∀ {H : Type} (enc : TypeId × Value → H) (w : World) (fuel : Nat) (cs : List Value) (d : DataW H) (ps : List MemPlace),
  DataW.trod enc P w 0 (fun _ => true) true fuel t cs = some (d, ps) → bk d ≤ B → ∃ x, RelL noP w NoM (en x) cs ∧ (∀ c ∈ cs, cellV c = true) ∧ cs.length = P.cellsOf t ∧ Q x

section
variable {P : Program} {B : Nat} {bk : ∀ {H : Type}, DataW H → Nat}
theorem Opn.int {t : TypeId} {k : IntKind} (ht : P.underlying t = some (.int k)) (hc : P.cellsOf t = 1) : Opn P B bk t (fun n : Int => [.v (.int k n)]) (fun n => (Lit.int k n).wf = true) := by
 intro H enc w fuel cs d ps h _
 obtain ⟨n, rfl, _, hw⟩ := DataW.trod_int ht h
 exact ⟨n, .cons (.v _) .nil, by simp [cellV, Value.oneCell'], by simp [hc], hw⟩
theorem Opn.bool {t : TypeId} (ht : P.underlying t = some .bool) (hc : P.cellsOf t = 1) : Opn P B bk t (fun b : Bool => [.v (.bool b)]) (fun _ => True) := by
 intro H enc w fuel cs d ps h _
 obtain ⟨n, rfl, _⟩ := DataW.trod_bool ht h
 exact ⟨n, .cons (.v _) .nil, by simp [cellV, Value.oneCell'], by simp [hc], trivial⟩
theorem Opn.string {t : TypeId} (hB : Bulk B bk) (ht : P.underlying t = some .string) (hc : P.cellsOf t = 1) : Opn P B bk t (fun s : ByteArray => [.v (.string s)]) (fun s => s.size ≤ B) := by
 intro H enc w fuel cs d ps h hb
 obtain ⟨n, rfl, hx, hm⟩ := DataW.trod_string ht h
 simp only [Prod.mk.injEq] at hx
 obtain ⟨rfl, _⟩ := hx
 refine ⟨n, .cons (.v _) .nil, by simp [cellV, Value.oneCell'], by simp [hc], ?_⟩
 have := hB.str _ hb (by simpa using hm)
 simpa using this
theorem Opn.imp {α : Type} {t : TypeId} {en : α → List AV} {Q Q' : α → Prop} (h : Opn P B bk t en Q) (hq : ∀ x, Q x → Q' x) : Opn P B bk t en Q' := by
 intro H enc w fuel cs d ps h1 h2
 obtain ⟨x, a, b, c, e⟩ := h enc w fuel cs d ps h1 h2
 exact ⟨x, a, b, c, hq x e⟩
theorem Opn.map {α β : Type} {t : TypeId} {en : α → List AV} {en' : β → List AV} {Q : α → Prop} {Q' : β → Prop} (h : Opn P B bk t en Q) (f : α → β) (hq : ∀ x, Q x → Q' (f x)) (he : ∀ x, Q x → en' (f x) = en x) : Opn P B bk t en' Q' := by
 intro H enc w fuel cs d ps h1 h2
 obtain ⟨x, a, b, c, e⟩ := h enc w fuel cs d ps h1 h2
 exact ⟨f x, by rw [he x e]; exact a, b, c, hq x e⟩
theorem cells?_get {w : World} {a : Addr} {n : Nat} {cs : List Value} (h : w.cells? 0 a n = some cs) : cs.length = n ∧ ∀ i, i < n → w.cell? (a.add i) = cs[i]? := by
 unfold World.cells? at h
 rw [if_pos (Nat.zero_le _)] at h
 exact ⟨by simpa using mapM_some_length h, fun i hi => mapM_some_get h i i (by simp [hi])⟩
theorem cell?_block {w : World} {a : Addr} {v : Value} (h : w.cell? a = some v) : ∃ C T fz, w.heap[a.block]? = some (.cells C T fz) ∧ a.spot = none ∧ C[a.off]? = some v := by
 unfold World.cell? at h
 split at h
 ·rename_i C T fz hb
  split at h
  ·cases h
  ·rename_i hs
   refine ⟨C, T, fz, hb, ?_, h⟩
   cases hsp : a.spot with
   | none => rfl
   | some x => simp [hsp] at hs
 ·cases h
theorem add_block (a : Addr) (n : Nat) : (a.add n).block = a.block := by unfold Addr.add; split <;> rfl
theorem add_off (a : Addr) (n : Nat) : (a.add n).off = a.off + n := by
 unfold Addr.add
 split
 ·rename_i h; subst h; rfl
 ·rfl
theorem relL_flatten {φ : Place} {w : World} {M : Nat → Prop} {rows : List (List AV)} {L : List Value} {sz : Nat} (hl : L.length = rows.length * sz)
  (h : ∀ i (hi : i < rows.length), RelL φ w M rows[i] ((L.drop (i * sz)).take sz)) : RelL φ w M rows.flatten L := by
 induction rows generalizing L with
 | nil => simp at hl; subst hl; exact .nil
 | cons r rows ih =>
  have h0 := h 0 (by simp)
  simp only [List.getElem_cons_zero, Nat.zero_mul, List.drop_zero] at h0
  rw [List.flatten_cons, ← List.take_append_drop sz L]
  refine RelL.append h0 (ih (by simp at hl ⊢; rw [hl, Nat.add_mul]; omega) fun i hi => ?_)
  have := h (i + 1) (by simpa using hi)
  simp only [List.getElem_cons_succ] at this
  rw [List.drop_drop, show sz + i * sz = (i + 1) * sz by rw [Nat.add_mul]; omega]
  exact this
theorem exists_list {α : Type} (n : Nat) (p : Nat → α → Prop) (h : ∀ i, i < n → ∃ x, p i x) : ∃ l : List α, l.length = n ∧ ∀ i (hi : i < l.length), p i l[i] := by
 induction n with
 | zero => exact ⟨[], rfl, fun i hi => by simp at hi⟩
 | succ n ih =>
  obtain ⟨l, hl, hp⟩ := ih fun i hi => h i (by omega)
  obtain ⟨x, hx⟩ := h n (by omega)
  refine ⟨l ++ [x], by simp [hl], fun i hi => ?_⟩
  rcases Nat.lt_or_ge i l.length with h1 | h1
  ·rw [List.getElem_append_left h1]; exact hp i h1
  ·have : i = n := by simp at hi; omega
   subst this
   simp [List.getElem_append_right, hl, hx]
theorem Opn.slice {α : Type} {t e : TypeId} {en : α → List AV} {Q : α → Prop} {sz : Nat} (hB : Bulk B bk) (ht : P.underlying t = some (.slice e)) (hc : P.cellsOf t = 1) (hz : P.cellsOf e = sz) (hp : 0 < sz)
  (he : Opn P B bk e en Q) : Opn P B bk t (fun l : List α => [.lst sz (l.map en)]) (fun l => l.length ≤ B ∧ ∀ x ∈ l, Q x) := by
 intro H enc w fuel cs d ps h hb
 rcases DataW.trod_slice ht h with ⟨rfl, _⟩ | ⟨a, len, cap, elems, rest, n, rfl, rfl, hx, _, hlen, hmax, hel, hget, _, _⟩
 ·exact ⟨[], .cons (.nil _ _ _) .nil, by simp [cellV, Value.oneCell'], by simp [hc], by simp, by simp⟩
 ·simp only [Prod.mk.injEq] at hx
  obtain ⟨rfl, _⟩ := hx
  rw [hz] at hget
  have key : ∀ i (hi : i < len), ∃ x ci, w.cells? 0 (a.add (i * sz)) sz = some ci ∧ RelL noP w NoM (en x) ci ∧ (∀ c ∈ ci, cellV c = true) ∧ Q x := by
   intro i hi
   have h1 := hget i hi
   rw [List.getElem?_eq_getElem (by omega), Option.bind_eq_some_iff] at h1
   obtain ⟨ci, h2, h3⟩ := h1
   obtain ⟨x, a1, a2, _, a4⟩ := he enc w n ci elems[i].1 elems[i].2 h3 (hB.elem _ _ _ (List.mem_map.2 ⟨elems[i], List.getElem_mem _, rfl⟩) hb)
   exact ⟨x, ci, h2, a1, a2, a4⟩
  have hlb : len ≤ B := by have := hB.len _ _ hb (by simp; omega); simp at this; omega
  obtain ⟨l, hl, hx⟩ := exists_list len _ key
  refine ⟨l, ?_, by simp [cellV, Value.oneCell'], by simp [hc], by omega, fun x hxm => ?_⟩
  ·rcases Nat.eq_zero_or_pos len with h0 | h0
   ·have : l = [] := List.eq_nil_of_length_eq_zero (by omega)
    subst this
    rw [h0]
    exact .cons (.nil _ _ _) .nil
   ·have cellI : ∀ i, i < len → ∀ j, j < sz → ∃ v, w.cell? (a.add (i * sz + j)) = some v ∧ cellV v = true := by
     intro i hi j hj
     obtain ⟨x, ci, h2, a1, a2, a3⟩ := key i hi
     obtain ⟨hcl, hcg⟩ := cells?_get h2
     refine ⟨ci[j], ?_, a2 _ (List.getElem_mem (by omega))⟩
     have := hcg j hj
     rw [List.getElem?_eq_getElem (by omega)] at this
     rw [← this]
     simp only [World.cell?, add_block, add_off, Nat.add_assoc]
     by_cases hj0 : j = 0
     ·subst hj0; simp [Addr.add]
     ·simp [Addr.add, hj0]
    obtain ⟨v0, hv0, _⟩ := cellI 0 h0 0 hp
    obtain ⟨C, T, fz, hC, hs, _⟩ := cell?_block hv0
    simp only [Nat.zero_mul, Nat.zero_add, Addr.add, if_true] at hC hs
    have cellC : ∀ k, k < len * sz → ∃ v, C[a.off + k]? = some v ∧ w.cell? (a.add k) = some v ∧ cellV v = true := by
     intro k hk
     have hi : k / sz < len := Nat.div_lt_of_lt_mul (by rw [Nat.mul_comm]; exact hk)
     have hj : k % sz < sz := Nat.mod_lt _ hp
     obtain ⟨v, h1, h2⟩ := cellI _ hi _ hj
     rw [show k / sz * sz + k % sz = k by rw [Nat.mul_comm]; exact Nat.div_add_mod k sz] at h1
     obtain ⟨C', T', fz', hC', hs', hv'⟩ := cell?_block h1
     rw [add_block, hC] at hC'
     simp only [Option.some.injEq, Obj.cells.injEq] at hC'
     obtain ⟨rfl, _, _⟩ := hC'
     rw [add_off] at hv'
     exact ⟨v, hv', h1, h2⟩
    have hsz : a.off + len * sz ≤ C.size := by
     have hpos : 0 < len * sz := Nat.mul_pos h0 hp
     obtain ⟨v, h1, _⟩ := cellC (len * sz - 1) (by omega)
     have := (Array.getElem?_eq_some_iff.1 h1).1
     omega
    have hL : ((C.toList.drop a.off).take (len * sz)).length = len * sz := by simp; omega
    have hget : ∀ k, k < len * sz → ((C.toList.drop a.off).take (len * sz))[k]? = C[a.off + k]? := by
     intro k hk
     rw [List.getElem?_take, if_pos hk, List.getElem?_drop]; simp
    have hrl : ∀ i (hi : i < l.length), ∃ ci, w.cells? 0 (a.add (i * sz)) sz = some ci ∧ RelL noP w NoM (en l[i]) ci := fun i hi => by
     obtain ⟨ci, h2, a1, _⟩ := hx i hi
     exact ⟨ci, h2, a1⟩
    refine .cons (.lst (C := C) (T := T) (fz := fz) hs (fun h => h) hC (fun r hr => ?_) (by simp; omega) (by rw [List.length_map, hl]; exact hsz) (by omega) (fun u hu => ?_) ?_) .nil
    ·obtain ⟨x, hxm, rfl⟩ := List.mem_map.1 hr
     obtain ⟨i, hi, rfl⟩ := List.getElem_of_mem hxm
     obtain ⟨ci, h2, a1⟩ := hrl i hi
     rw [a1.length, (cells?_get h2).1]
    ·rw [List.length_map, hl] at hu
     obtain ⟨k, hk, rfl⟩ := List.getElem_of_mem hu
     rw [hL] at hk
     obtain ⟨v, h1, _, h3⟩ := cellC k hk
     have := hget k hk
     rw [List.getElem?_eq_getElem (by omega), h1] at this
     simp only [Option.some.injEq] at this
     rw [this]; exact h3
    ·rw [List.length_map, hl]
     refine relL_flatten (sz := sz) (by rw [hL, List.length_map, hl]) fun i hi => ?_
     rw [List.length_map] at hi
     obtain ⟨ci, h2, a1⟩ := hrl i hi
     rw [List.getElem_map]
     obtain ⟨hcl, hcg⟩ := cells?_get h2
     have hle : (i + 1) * sz ≤ len * sz := Nat.mul_le_mul_right _ (by omega)
     rw [Nat.add_mul] at hle
     have : ci = (((C.toList.drop a.off).take (len * sz)).drop (i * sz)).take sz := by
      refine List.ext_getElem? fun j => ?_
      rcases Nat.lt_or_ge j sz with hj | hj
      ·rw [← hcg j hj, List.getElem?_take, if_pos hj, List.getElem?_drop, hget _ (by omega)]
       obtain ⟨v, h1, h3, _⟩ := cellC (i * sz + j) (by omega)
       rw [h1, ← h3]
       simp only [World.cell?, add_block, add_off, Nat.add_assoc]
       by_cases hj0 : j = 0
       ·subst hj0; simp [Addr.add]
       ·simp [Addr.add, hj0]
      ·rw [List.getElem?_eq_none (by omega), List.getElem?_eq_none (by simp; omega)]
     rw [← this]; exact a1
  ·obtain ⟨i, hi, rfl⟩ := List.getElem_of_mem hxm
   obtain ⟨ci, _, _, _, a4⟩ := hx i hi
   exact a4
theorem Opn.array {α : Type} {t e : TypeId} {en : α → List AV} {Q : α → Prop} {n sz : Nat} (hB : Bulk B bk) (ht : P.underlying t = some (.array n e)) (hz : P.cellsOf e = sz) (hc : P.cellsOf t = n * sz)
  (he : Opn P B bk e en Q) : Opn P B bk t (fun l : List α => (l.map en).flatten) (fun l => l.length = n ∧ ∀ x ∈ l, Q x) := by
 intro H enc w fuel cs d ps h hb
 obtain ⟨xs, m, _, hx, hl, hxl, hget⟩ := DataW.trod_array ht h
 simp only [Prod.mk.injEq] at hx
 obtain ⟨rfl, _⟩ := hx
 rw [hz] at hget
 have key : ∀ i, i < n → ∃ x, RelL noP w NoM (en x) ((cs.drop (i * sz)).take sz) ∧ (∀ c ∈ (cs.drop (i * sz)).take sz, cellV c = true) ∧ Q x := by
  intro i hi
  have h1 := hget i hi
  rw [List.getElem?_eq_getElem (by omega)] at h1
  obtain ⟨x, a1, a2, _, a4⟩ := he enc w m _ xs[i].1 xs[i].2 h1 (hB.part _ _ (List.mem_map.2 ⟨xs[i], List.getElem_mem _, rfl⟩) hb)
  exact ⟨x, a1, a2, a4⟩
 obtain ⟨l, hll, hx⟩ := exists_list n _ key
 rw [hc] at hl
 refine ⟨l, relL_flatten (sz := sz) (by rw [List.length_map, hll]; exact hl) (fun i hi => ?_), fun c hcm => ?_, by rw [hc]; exact hl, hll, fun x hxm => ?_⟩
 ·rw [List.length_map] at hi
  rw [List.getElem_map]; exact (hx i hi).1
 ·obtain ⟨k, hk, rfl⟩ := List.getElem_of_mem hcm
  have hp : 0 < sz := Nat.pos_of_ne_zero fun h0 => by subst h0; simp at hl; subst hl; simp at hk
  have hi : k / sz < n := Nat.div_lt_of_lt_mul (by rw [Nat.mul_comm, ← hl]; exact hk)
  have hj : k % sz < sz := Nat.mod_lt _ hp
  have e : k / sz * sz + k % sz = k := by rw [Nat.mul_comm]; exact Nat.div_add_mod k sz
  refine (hx (k / sz) (by omega)).2.1 _ (List.mem_iff_getElem?.2 ⟨k % sz, ?_⟩)
  rw [List.getElem?_take, if_pos hj, List.getElem?_drop, e]
  exact List.getElem?_eq_getElem hk
 ·obtain ⟨i, hi, rfl⟩ := List.getElem_of_mem hxm
  exact (hx i hi).2.2
def OpnF (P : Program) (B : Nat) (bk : ∀ {H : Type}, DataW H → Nat) {α : Type} (ts : List TypeId) (en : α → List AV) (Q : α → Prop) : Prop :=
 ∀ {H : Type} (enc : TypeId × Value → H) (w : World) (fuel : Nat) (cs : List Value), cs.length = (ts.map P.cellsOf).sum →
  (∀ i (hi : i < ts.length), ∃ d ps, DataW.trod enc P w 0 (fun _ => true) true fuel ts[i] ((cs.drop ((ts.take i).map P.cellsOf).sum).take (P.cellsOf ts[i])) = some (d, ps) ∧ bk d ≤ B) →
  ∃ x, RelL noP w NoM (en x) cs ∧ (∀ c ∈ cs, cellV c = true) ∧ Q x
theorem OpnF.nil : OpnF P B bk [] (fun _ : Unit => []) (fun _ => True) := by
 intro H enc w fuel cs hl _
 have : cs = [] := List.eq_nil_of_length_eq_zero (by simpa using hl)
 subst this
 exact ⟨(), .nil, by simp, trivial⟩
theorem OpnF.cons {α β : Type} {t : TypeId} {ts : List TypeId} {en : α → List AV} {Q : α → Prop} {en' : β → List AV} {Q' : β → Prop} (h : Opn P B bk t en Q) (h' : OpnF P B bk ts en' Q') :
  OpnF P B bk (t :: ts) (fun x : α × β => en x.1 ++ en' x.2) (fun x => Q x.1 ∧ Q' x.2) := by
 intro H enc w fuel cs hl hd
 obtain ⟨d, ps, h1, h2⟩ := hd 0 (by simp)
 simp only [List.getElem_cons_zero, List.take_zero, List.map_nil, List.sum_nil, List.drop_zero] at h1
 obtain ⟨x, a1, a2, a3, a4⟩ := h enc w fuel _ d ps h1 h2
 obtain ⟨y, b1, b2, b3⟩ := h' enc w fuel (cs.drop (P.cellsOf t)) (by simp at hl ⊢; omega) (fun i hi => by
  obtain ⟨d, ps, k1, k2⟩ := hd (i + 1) (by simpa using hi)
  simp only [List.getElem_cons_succ, List.take_succ_cons, List.map_cons, List.sum_cons] at k1
  exact ⟨d, ps, by rw [List.drop_drop]; exact k1, k2⟩)
 refine ⟨(x, y), ?_, fun c hc => ?_, a4, b3⟩
 ·rw [← List.take_append_drop (P.cellsOf t) cs]
  exact RelL.append a1 b1
 ·rw [← List.take_append_drop (P.cellsOf t) cs] at hc
  rcases List.mem_append.1 hc with hc | hc
  ·exact a2 c hc
  ·exact b2 c hc
def fieldsOk (P : Program) (t : TypeId) (ts : List TypeId) : Bool := match P.underlying t with
 | some (.struct fs) => decide (fs.toList.map (·.type) = ts) && decide (fs.toList.map (·.offset) = (List.range ts.length).map fun i => ((ts.take i).map P.cellsOf).sum) && decide (P.cellsOf t = (ts.map P.cellsOf).sum)
 | _ => false
theorem Opn.struct {α : Type} {t : TypeId} {ts : List TypeId} {en : α → List AV} {Q : α → Prop} (hB : Bulk B bk) (ht : fieldsOk P t ts = true) (h : OpnF P B bk ts en Q) : Opn P B bk t en Q := by
 unfold fieldsOk at ht
 split at ht
 ·rename_i fs hfs
  simp only [Bool.and_eq_true, decide_eq_true_eq] at ht
  obtain ⟨⟨h1, h2⟩, h3⟩ := ht
  intro H enc w fuel cs d ps hd hb
  obtain ⟨xs, n, _, hx, hl, hxl, hget⟩ := DataW.trod_struct hfs hd
  simp only [Prod.mk.injEq] at hx
  obtain ⟨rfl, _⟩ := hx
  have hlen : fs.size = ts.length := by rw [← h1]; simp
  obtain ⟨x, a1, a2, a3⟩ := h enc w n cs (by rw [hl, h3]) (fun i hi => by
   have hi' : i < fs.size := by omega
   have e1 : fs[i].type = ts[i] := by
    have := congrArg (fun l => l[i]?) h1
    simp [hi', List.getElem?_eq_getElem hi] at this
    exact this
   have e2 : fs[i].offset = ((ts.take i).map P.cellsOf).sum := by
    have := congrArg (fun l => l[i]?) h2
    simp [hi', hi] at this
    rw [this, List.map_take]
   have := hget i fs[i] (Array.getElem?_eq_getElem hi')
   rw [e1, e2, List.getElem?_eq_getElem (by omega)] at this
   exact ⟨xs[i].1, xs[i].2, this, hB.part _ _ (List.mem_map.2 ⟨xs[i], List.getElem_mem _, rfl⟩) hb⟩)
  exact ⟨x, a1, a2, hl, a3⟩
 ·cases ht
def outer (P : Program) (t : TypeId) : Bool := match P.underlying t with
 | some (.struct _) | some (.array _ _) => true
 | _ => false
def wrapAV (agg : Bool) (cs : List AV) : AV := if agg then .agg cs else cel cs 0
theorem Opn.arg {α : Type} {t : TypeId} {en : α → List AV} {Q : α → Prop} (h : Opn P B bk t en Q) {ag : Bool} (ho : outer P t = ag) (h1 : ag = false → P.cellsOf t = 1) {H : Type} {enc : TypeId × Value → H} {W : World} {base : Nat} {r : Reach} {v : Value} {d : DataW H} {ps : List MemPlace}
  (hval : Value.okWide P W r base t v) (hd : DataW.Trod enc P W 0 (fun _ => true) true t v d ps) (hb : bk d ≤ B) : ∃ x, Rel noP W NoM (wrapAV ag (en x)) v ∧ Q x := by
 obtain ⟨fuel, hd⟩ := hd
 obtain ⟨x, a1, a2, a3, a4⟩ := h enc W fuel _ d ps hd hb
 refine ⟨x, ?_, a4⟩
 unfold outer at ho
 unfold Value.okWide at hval
 split at ho
 ·rename_i hu
  subst ho
  rw [hu] at hval
  obtain ⟨cs, rfl, _, _⟩ := hval
  exact .agg (vs := cs.toList) a2 a1
 ·rename_i hu
  subst ho
  rw [hu] at hval
  obtain ⟨cs, rfl, _, _⟩ := hval
  exact .agg (vs := cs.toList) a2 a1
 ·subst ho
  rw [h1 rfl] at a3
  have hv : v.cells.toList = [v] := by
   unfold Value.cells at a3 a2 ⊢
   split
   ·rename_i cs
    exfalso
    split at hval
    ·simp_all
    ·simp_all
    ·unfold Cell.okWide at hval
     split at hval <;> simp_all [Cell.ok]
   ·rfl
  rw [hv] at a1
  cases he : en x with
  | nil => rw [he] at a1; cases a1
  | cons y ys =>
   rw [he] at a1
   cases a1 with
   | cons a1 _ => exact a1

theorem post_of_fr {f : Func} {s : ChangeSpec} {apart fresh handsOn again : Bool} {H : Type} {enc : TypeId × Value → H} {W W' : World} {args : Array Value} {v : Value} {ds gs : List (DataW H)} {before : List MemPlace}
  (hlo : laidOutB P = true) (hts : f.params.toList.all (fun t => P.readableRec t && decide (t < P.types.size)) = true) (hv : s.vars = [])
  (hW : DataW.Whole enc P f.params.toList s.vars apart W args.toList ds gs before)
  (hres : ∀ (b : Nat) (sp : Nat → Bool) (hd : Bool), DataW.TrodAll enc P W' b sp hd f.resultTypes.toList (v.resultList f.resultTypes.size) (s.fn H (ds ++ gs)).results [])
  (hargs : (s.fn H (ds ++ gs)).args = ds) (hvars : (s.fn H (ds ++ gs)).vars = [])
  (hfr : Fr W (fun _ => False) W')
  (hok : ∀ (j : Nat) (t : TypeId) (r : Value), f.resultTypes[j]? = some t → (v.resultList f.resultTypes.size)[j]? = some r → Value.okWide P W' .any 0 t r) :
  s.post enc P f apart fresh handsOn again W args v W' := by
 have hlt : ∀ p ∈ before, p.block < W.heap.size := fun p hp => hW.lt p hp
 have hsame : ∀ p : MemPlace, p.block < W.heap.size → W.sameAt W' p := fun p hp => (Go.RowKit.Below.same ⟨hfr.os, hfr.tape, hfr.output, hfr.size, fun k hk => hfr.block k hk (fun h => h)⟩ hp)
 obtain ⟨p, q, hA, hV, hpq, hz, hn⟩ := id hW
 rw [hv] at hV
 have hq : q = [] ∧ gs = [] := by
  cases gs with
  | nil => exact ⟨hV, rfl⟩
  | cons g gs => exact hV.elim
 obtain ⟨rfl, rfl⟩ := hq
 rw [List.append_nil] at hpq
 subst hpq
 have key : ∀ (sp : Nat → Bool) (ts : List TypeId) (vs : List Value) (ds : List (DataW H)) (ps : List MemPlace), ts.all (fun t => P.readableRec t && decide (t < P.types.size)) = true → (∀ x ∈ ps, x.block < W.heap.size) → (∀ x ∈ ps, sp x.block = true) →
   DataW.TrodAll enc P W 0 (fun _ => true) true ts vs ds ps → DataW.TrodAll enc P W' 0 sp true ts vs ds ps := by
  intro sp ts
  induction ts with
  | nil =>
   intro vs ds ps _ _ _ h
   cases vs <;> cases ds <;> simp [DataW.TrodAll] at h ⊢
   exact h
  | cons t ts ih =>
   intro vs ds ps ht hlt hsp h
   obtain ⟨v, vs', d, ds', a, b, rfl, rfl, rfl, h1, h2⟩ := ChangeShapes.trodAll_cons h
   simp only [List.all_cons, Bool.and_eq_true, decide_eq_true_eq] at ht
   obtain ⟨⟨hr, hs⟩, hts⟩ := ht
   exact ⟨a, b, WideElems.Trod_stays hlo hr hs h1 (fun x hx => hsame x (hlt x (List.mem_append_left _ hx))) (fun x hx => hsp x (List.mem_append_left _ hx)),
    ih _ _ _ (by simpa using hts) (fun x hx => hlt x (List.mem_append_right _ hx)) (fun x hx => hsp x (List.mem_append_right _ hx)) h2, rfl⟩
 have key' : ∀ sp : Nat → Bool, (∀ x ∈ before, sp x.block = true) → DataW.TrodAll enc P W' 0 sp true f.params.toList args.toList (s.fn H (ds ++ [])).args before := fun sp hsp => by
  rw [hargs]; exact key sp _ _ _ _ hts hlt hsp hA
 have kv : ∀ sp : Nat → Bool, DataW.TrodVars enc P W' sp s.vars (s.fn H (ds ++ [])).vars [] := fun sp => by rw [hv, hvars]; rfl
 refine ⟨ds, [], before, [], before, [], hW, hres _ _ _, key' _ (fun x hx => by simpa using hlt x hx), kv _, ?_, fun _ => ⟨hok, _, _, ([] ++ before) ++ [], ⟨[] ++ before, [], ChangeShapes.trodAll_append (key' _ fun _ _ => rfl) (hres _ _ _), kv _, rfl, ?_, ?_⟩, ?_⟩⟩
 ·refine ⟨hfr.os, hfr.output, fun i hi => ?_⟩
  rw [hfr.block i hi (fun h => h)]
  cases h : W.heap[i]? with
  | none => simp
  | some o => cases o <;> simp
 ·intro b off hp
  have hp' : MemPlace.cell b off ∈ before := by simpa using hp
  have hb := hlt _ hp'
  have := hz b off hp'
  unfold World.frozen? at this ⊢
  simp only [MemPlace.block] at hb
  rw [show W'.heap[b]? = W.heap[b]? from hfr.block b hb (fun h => h)]
  exact this
 ·intro ha
  simpa using hn ha
 ·intro x hx _
  simpa using hx
theorem contract_of_pure {f : FuncId} {fn : Func} {tb : TypeId} {s : ChangeSpec} {apart fresh handsOn again : Bool} {H : Type} {enc : TypeId × Value → H} {W : World} {args : Array Value} {ds gs : List (DataW H)} {before : List MemPlace}
  (hlo : laidOutB P = true) (hts : fn.params.toList.all (fun t => P.readableRec t && decide (t < P.types.size)) = true) (hv : s.vars = []) (hrt : fn.resultTypes = #[tb]) (hb : P.underlying tb = some .bool)
  (hW : DataW.Whole enc P fn.params.toList s.vars apart W args.toList ds gs before)
  (hfn : gs = [] → s.fn H (ds ++ gs) = { results := [.lit (.bool true)], args := ds }) {avs : List AV} (hp : Pure P f avs (.v (.bool true))) (hr : RelL noP W NoM avs args.toList) (hg : GlbOk W NoM := by intro p hp; simp [glbs] at hp) :
  Calls P f args W fun e W' => ∃ v, e = .returned v ∧ s.post enc P fn apart fresh handsOn again W args v W' := by
 have hgs : gs = [] := by
  obtain ⟨p, q, hA, hV, _⟩ := hW
  rw [hv] at hV
  cases gs with
  | nil => rfl
  | cons g gs => exact hV.elim
 have := hp.2 NoM W args.toList (fun k hk => hk.elim) hg hr
 rw [show (⟨args.toList⟩ : Array Value) = args from rfl] at this
 refine this.mono ?_
 rintro e W' ⟨v, rfl, hv', hfr⟩
 cases hv'
 refine ⟨_, rfl, post_of_fr hlo hts hv hW (fun b sp hd => ?_) (by rw [hfn hgs]) (by rw [hfn hgs]) hfr ?_⟩
 ·rw [hfn hgs, hrt]
  exact trodAll_cons_mk (RowKit.shut_bool hb _) ChangeShapes.trodAll_mk0
 ·exact RowKit.ok_one hrt rfl (RowKit.okWide_bool_mk hb true)
end
end Go.Av
end
section
/- What the bound of the second form gives, for our library. -/
open Go Go.Proofs
namespace Go.Av
open Go.Proofs.YtjajfalomchohaaGreatDoor
theorem upto_one {H : Type} (d : DataW H) : 1 ≤ Rows.uptoBulk d := by
 cases d with
 | lit l => cases l <;> simp [Rows.uptoBulk]
 | _ => simp [Rows.uptoBulk]
theorem upto_part {H : Type} {d : DataW H} {l : List (DataW H)} (h : d ∈ l) : Rows.uptoBulk d ≤ Rows.uptoBulkAll l := by
 induction l with
 | nil => cases h
 | cons x r ih =>
  simp only [Rows.uptoBulkAll]
  rcases List.mem_cons.1 h with e | e
  ·subst e; omega
  ·have := ih e; omega
theorem upto_length {H : Type} (l : List (DataW H)) : l.length ≤ Rows.uptoBulkAll l := by
 induction l with
 | nil => simp [Rows.uptoBulkAll]
 | cons x r ih => have := upto_one x; simp only [Rows.uptoBulkAll, List.length_cons]; omega
theorem Bulk.upto {B : Nat} : Bulk B (fun d => Rows.uptoBulk d) where
 len := fun l r h _ => by
  have := upto_length l
  simp only [Rows.uptoBulk] at h; omega
 elem := fun l r d hd h => by
  have := upto_part hd
  simp only [Rows.uptoBulk] at h; omega
 part := fun l d hd h => by
  have := upto_part hd
  simp only [Rows.uptoBulk] at h; omega
 str := fun l h _ => by
  simp only [Rows.uptoBulk] at h; omega
theorem upto_bound {H : Type} {l : List (DataW H)} (hk : Rows.uptoSmall H l = true) {d : DataW H} (hd : d ∈ l) : Rows.uptoBulk d ≤ 1048576 := by
 have := upto_part hd
 have h := of_decide_eq_true hk
 omega
end Go.Av
end
section
/- The argument of the statements on games and positions, as our library reads it. -/
open Go Go.Proofs Go.Av
namespace Go.Av
open Go.Proofs.YtjajfalomchohaaGreatDoor
abbrev UpB : {H : Type} → DataW H → Nat := fun d => Rows.uptoBulk d
abbrev G3T := Int × Int × Int × List (List Int) × List (List Int) × List Int × Unit
def encG3T (x : G3T) : List AV := [.v (.int .u8 x.1)] ++ ([.v (.int .u8 x.2.1)] ++ ([.v (.int .u8 x.2.2.1)] ++ ((x.2.2.2.1.map fun l => [AV.lst 1 (l.map fun n => [.v (.int .u8 n)])]).flatten ++
 ([AV.lst 3 (x.2.2.2.2.1.map fun l => (l.map fun n => [AV.v (.int .u8 n)]).flatten)] ++ ((x.2.2.2.2.2.1.map fun n => [AV.v (.int .u8 n)]).flatten ++ [])))))
abbrev P4T := List Int × List Int × List Int × Int × Int × Unit
def encP4T (x : P4T) : List AV := (x.1.map fun n => [AV.v (.int .u8 n)]).flatten ++ ((x.2.1.map fun n => [AV.v (.int .u8 n)]).flatten ++ ((x.2.2.1.map fun n => [AV.v (.int .u8 n)]).flatten ++ ([.v (.int .u8 x.2.2.2.1)] ++ ([.v (.int .u8 x.2.2.2.2.1)] ++ []))))
abbrev U8W (n : Int) : Prop := (Lit.int .u8 n).wf = true
theorem opn_u8 : Opn Tryz.prog 1048576 UpB 5 (fun n : Int => [.v (.int .u8 n)]) U8W := Opn.int Tryz.underlying5 (by kernel_rfl)
theorem opn_u8s : Opn Tryz.prog 1048576 UpB 22 (fun l : List Int => [.lst 1 (l.map fun n => [.v (.int .u8 n)])]) (fun l => l.length ≤ 1048576 ∧ ∀ x ∈ l, U8W x) :=
 Opn.slice (sz := 1) Bulk.upto Tryz.underlying22 (by kernel_rfl) (by kernel_rfl) Nat.one_pos opn_u8
theorem opn_g3 : Opn Tryz.prog 1048576 UpB 27 encRaw (fun x => RawOk x ∧ x.k0.length ≤ 1048576 ∧ x.k1.length ≤ 1048576 ∧ x.c.length ≤ 1048576) := by
 have hK : Opn Tryz.prog 1048576 UpB 23 (fun l : List (List Int) => (l.map fun l => [AV.lst 1 (l.map fun n => [.v (.int .u8 n)])]).flatten) (fun l => l.length = 2 ∧ ∀ x ∈ l, x.length ≤ 1048576 ∧ ∀ y ∈ x, U8W y) :=
  Opn.array (sz := 1) (n := 2) Bulk.upto Tryz.underlying23 (by kernel_rfl) (by kernel_rfl) opn_u8s
 have h3 : Opn Tryz.prog 1048576 UpB 197 (fun l : List Int => (l.map fun n => [AV.v (.int .u8 n)]).flatten) (fun l => l.length = 3 ∧ ∀ x ∈ l, U8W x) :=
  Opn.array (sz := 1) (n := 3) Bulk.upto Tryz.underlying197 (by kernel_rfl) (by kernel_rfl) opn_u8
 have hC : Opn Tryz.prog 1048576 UpB 24 (fun l : List (List Int) => [.lst 3 (l.map fun l => (l.map fun n => [AV.v (.int .u8 n)]).flatten)]) (fun l => l.length ≤ 1048576 ∧ ∀ x ∈ l, x.length = 3 ∧ ∀ y ∈ x, U8W y) :=
  Opn.slice (sz := 3) Bulk.upto Tryz.underlying24 (by kernel_rfl) (by kernel_rfl) (by decide) h3
 have hFF : Opn Tryz.prog 1048576 UpB 25 (fun l : List Int => (l.map fun n => [AV.v (.int .u8 n)]).flatten) (fun l => l.length = 6 ∧ ∀ x ∈ l, U8W x) :=
  Opn.array (sz := 1) (n := 6) Bulk.upto Tryz.underlying25 (by kernel_rfl) (by kernel_rfl) opn_u8
 have hF : OpnF Tryz.prog 1048576 UpB [5, 5, 5, 23, 24, 25] encG3T (fun x => U8W x.1 ∧ U8W x.2.1 ∧ U8W x.2.2.1 ∧ (x.2.2.2.1.length = 2 ∧ ∀ z ∈ x.2.2.2.1, z.length ≤ 1048576 ∧ ∀ y ∈ z, U8W y) ∧
   (x.2.2.2.2.1.length ≤ 1048576 ∧ ∀ z ∈ x.2.2.2.2.1, z.length = 3 ∧ ∀ y ∈ z, U8W y) ∧ (x.2.2.2.2.2.1.length = 6 ∧ ∀ y ∈ x.2.2.2.2.2.1, U8W y) ∧ True) :=
  OpnF.cons opn_u8 (OpnF.cons opn_u8 (OpnF.cons opn_u8 (OpnF.cons hK (OpnF.cons hC (OpnF.cons hFF OpnF.nil)))))
 have hT : Opn Tryz.prog 1048576 UpB 27 encG3T (fun x => U8W x.1 ∧ U8W x.2.1 ∧ U8W x.2.2.1 ∧ (x.2.2.2.1.length = 2 ∧ ∀ z ∈ x.2.2.2.1, z.length ≤ 1048576 ∧ ∀ y ∈ z, U8W y) ∧
   (x.2.2.2.2.1.length ≤ 1048576 ∧ ∀ z ∈ x.2.2.2.2.1, z.length = 3 ∧ ∀ y ∈ z, U8W y) ∧ (x.2.2.2.2.2.1.length = 6 ∧ ∀ y ∈ x.2.2.2.2.2.1, U8W y) ∧ True) := Opn.struct Bulk.upto (by kernel_rfl) hF
 intro H enc w fuel cs d ps k1 k2
 obtain ⟨x, r1, r2, r3, hx⟩ := hT enc w fuel cs d ps k1 k2
 obtain ⟨W, Hh, cut, K, C, F, ⟨⟩⟩ := x
 obtain ⟨h1, h2, h3', ⟨h4, h4'⟩, ⟨h5, h5'⟩, ⟨h6, h6'⟩, _⟩ := hx
 simp only at h1 h2 h3' h4 h4' h5 h5' h6 h6'
 match K, h4 with
 | [ka, kb], _ =>
  match F, h6 with
  | [f0, f1, f2, f3, f4, f5], _ =>
   have hCl : ∀ (C : List (List Int)), (∀ z ∈ C, z.length = 3) → (C.map fun l => (nth l 0, nth l 1, nth l 2)).map encC3 = C.map fun l => (l.map fun n => [AV.v (.int .u8 n)]).flatten := by
    intro C hC
    rw [List.map_map]
    refine List.map_congr_left fun l hl => ?_
    have := hC l hl
    match l, this with
    | [a, b, c], _ => rfl
   refine ⟨⟨W, Hh, cut, ka, kb, C.map fun l => (nth l 0, nth l 1, nth l 2), f0, f1, f2, f3, f4, f5⟩, ?_, r2, r3, ⟨bounds_u8 h1, bounds_u8 h2, bounds_u8 h3', fun n hn => bounds_u8 ((h4' ka (by simp)).2 n hn), fun n hn => bounds_u8 ((h4' kb (by simp)).2 n hn), ?_,
    bounds_u8 (h6' f0 (by simp)), bounds_u8 (h6' f1 (by simp)), bounds_u8 (h6' f2 (by simp)), bounds_u8 (h6' f3 (by simp)), bounds_u8 (h6' f4 (by simp)), bounds_u8 (h6' f5 (by simp))⟩, (h4' ka (by simp)).1, (h4' kb (by simp)).1, by simpa using h5⟩
   ·unfold encRaw
    simp only
    rw [hCl C (fun z hz => (h5' z hz).1)]
    exact r1
   ·intro t ht
    obtain ⟨z, hz, rfl⟩ := List.mem_map.1 ht
    obtain ⟨q1, q2⟩ := h5' z hz
    match z, q1 with
    | [a, b, c], _ => exact ⟨bounds_u8 (q2 a (by simp)), bounds_u8 (q2 b (by simp)), bounds_u8 (q2 c (by simp))⟩
theorem opn_p4 : Opn Tryz.prog 1048576 UpB 30 encRawP RawPOk := by
 have hFF : Opn Tryz.prog 1048576 UpB 25 (fun l : List Int => (l.map fun n => [AV.v (.int .u8 n)]).flatten) (fun l => l.length = 6 ∧ ∀ x ∈ l, U8W x) :=
  Opn.array (sz := 1) (n := 6) Bulk.upto Tryz.underlying25 (by kernel_rfl) (by kernel_rfl) opn_u8
 have h4 : Opn Tryz.prog 1048576 UpB 28 (fun l : List Int => (l.map fun n => [AV.v (.int .u8 n)]).flatten) (fun l => l.length = 4 ∧ ∀ x ∈ l, U8W x) :=
  Opn.array (sz := 1) (n := 4) Bulk.upto Tryz.underlying28 (by kernel_rfl) (by kernel_rfl) opn_u8
 have hF : OpnF Tryz.prog 1048576 UpB [25, 25, 28, 5, 5] encP4T (fun x => (x.1.length = 6 ∧ ∀ y ∈ x.1, U8W y) ∧ (x.2.1.length = 6 ∧ ∀ y ∈ x.2.1, U8W y) ∧ (x.2.2.1.length = 4 ∧ ∀ y ∈ x.2.2.1, U8W y) ∧ U8W x.2.2.2.1 ∧ U8W x.2.2.2.2.1 ∧ True) :=
  OpnF.cons hFF (OpnF.cons hFF (OpnF.cons h4 (OpnF.cons opn_u8 (OpnF.cons opn_u8 OpnF.nil))))
 have hT : Opn Tryz.prog 1048576 UpB 30 encP4T (fun x => (x.1.length = 6 ∧ ∀ y ∈ x.1, U8W y) ∧ (x.2.1.length = 6 ∧ ∀ y ∈ x.2.1, U8W y) ∧ (x.2.2.1.length = 4 ∧ ∀ y ∈ x.2.2.1, U8W y) ∧ U8W x.2.2.2.1 ∧ U8W x.2.2.2.2.1 ∧ True) := Opn.struct Bulk.upto (by kernel_rfl) hF
 intro H enc w fuel cs d ps k1 k2
 obtain ⟨x, r1, r2, r3, hx⟩ := hT enc w fuel cs d ps k1 k2
 obtain ⟨c, k, h, r, s, ⟨⟩⟩ := x
 obtain ⟨⟨a1, a2⟩, ⟨b1, b2⟩, ⟨c1, c2⟩, d1, e1, _⟩ := hx
 simp only at a1 a2 b1 b2 c1 c2 d1 e1
 have hfl : ∀ l : List Int, (l.map fun n => [AV.v (.int .u8 n)]).flatten = l.map fun n => AV.v (.int .u8 n) := fun l => by
  induction l with
  | nil => rfl
  | cons x l ih => simp only [List.map_cons, List.flatten_cons, ih]; rfl
 refine ⟨⟨c, k, h, r, s⟩, ?_, r2, r3, ⟨a1, b1, c1, fun n hn => bounds_u8 (a2 n hn), fun n hn => bounds_u8 (b2 n hn), fun n hn => bounds_u8 (c2 n hn), bounds_u8 d1, bounds_u8 e1⟩⟩
 unfold encP4T at r1
 rw [hfl, hfl, hfl] at r1
 exact r1
end Go.Av
end
section
/- The argument of the statements on games and positions, as our library reads it. -/
open Go Go.Proofs Go.Av
namespace Go.Av
open Go.Proofs.YtjajfalomchohaaGreatDoor
theorem opn_raw6 : Opn Tryz.prog 1048576 UpB 32 encRaw6 Raw6Ok := by
 have hF : OpnF Tryz.prog 1048576 UpB [27, 30, 22] (fun x : RawG × RawP × List Int × Unit => encRaw x.1 ++ (encRawP x.2.1 ++ ([.lst 1 (x.2.2.1.map fun n => [.v (.int .u8 n)])] ++ [])))
   (fun x => (RawOk x.1 ∧ x.1.k0.length ≤ 1048576 ∧ x.1.k1.length ≤ 1048576 ∧ x.1.c.length ≤ 1048576) ∧ RawPOk x.2.1 ∧ (x.2.2.1.length ≤ 1048576 ∧ ∀ y ∈ x.2.2.1, U8W y) ∧ True) := OpnF.cons opn_g3 (OpnF.cons opn_p4 (OpnF.cons opn_u8s OpnF.nil))
 have hT : Opn Tryz.prog 1048576 UpB 32 (fun x : RawG × RawP × List Int × Unit => encRaw x.1 ++ (encRawP x.2.1 ++ ([.lst 1 (x.2.2.1.map fun n => [.v (.int .u8 n)])] ++ [])))
   (fun x => (RawOk x.1 ∧ x.1.k0.length ≤ 1048576 ∧ x.1.k1.length ≤ 1048576 ∧ x.1.c.length ≤ 1048576) ∧ RawPOk x.2.1 ∧ (x.2.2.1.length ≤ 1048576 ∧ ∀ y ∈ x.2.2.1, U8W y) ∧ True) := Opn.struct Bulk.upto (by kernel_rfl) hF
 intro H enc w fuel cs d ps k1 k2
 obtain ⟨x, r1, r2, r3, hx⟩ := hT enc w fuel cs d ps k1 k2
 obtain ⟨g, p, k, ⟨⟩⟩ := x
 obtain ⟨⟨a1, a2, a3, a4⟩, b1, ⟨c1, c2⟩, _⟩ := hx
 simp only at a1 a2 a3 a4 b1 c1 c2
 exact ⟨⟨g, p, k⟩, r1, r2, r3, ⟨a1, b1, fun n hn => bounds_u8 (c2 n hn), by simp only; omega, by simp only; omega, by simp only; omega, by simp only; omega⟩⟩
end Go.Av
end
