/- Texts of ours, part 11: our library and contracts of functions. -/
import Derived.Test.YtblaonmapofniaaGreatDoorB10
import GoSem.ClaimJoined
import Derived.Test.YtblaonmapofniaaGreatDoorCards
import Derived.Test.YtblaonmapofniaaGreatDoorTie
import Derived.Deep.DeepHandedRow
import Derived.LaidHandle
import Derived.LaidMore
import Derived.OpenShut
import Derived.Test.YtblaonmapofniaaGreatDoorRows
set_option linter.unusedSimpArgs false
set_option linter.unusedVariables false
set_option maxRecDepth 100000
set_option maxHeartbeats 40000000
section
/- Contracts: gen.Run for any cell; Moves of the reference of chapter 8. -/
open Go Go.Proofs
namespace Go.Av
theorem gRunAny_pure (g : GameD) (hg : GOk g) (c : CodeD) (hc : CodeOk g c) (p : PosD) (hp : POk g p) (cell : Int) :
  Pure Tryz.prog 57 [.agg (encGame g), .agg (encCode c), .agg (encPos p), .v (.int .i64 cell)] (encOs (runC g c p cell)) := by
 by_cases hin : 0 ≤ cell ∧ cell < g.cells
 ·exact gRun_pure g hg c hc p hp cell hin.1 hin.2
 ·have e : runC g c p cell = [] := if_neg (fun h => hin ⟨h.1, h.2.1⟩)
  rw [e]
  have hal := hp.al
  refine pF Tryz.func57 ?_
  by_cases h0 : cell < 0
  ·have hz0 : cell.toNat = 0 := by omega
   have hl0 : 0 < p.at_.length := by have := hg.c1; omega
   (repeat (first|with_reducible refine wV fun _=>?_|simp [go_sem, h0, hz0, hl0]))
   (first|done|exact leX)
  ·have h1 : (p.at_.length : Int) ≤ cell := by omega
   have hnn : nth (p.at_.map encI) cell.toNat = [] := by
    unfold nth
    rw [List.getD_eq_getElem?_getD, List.getElem?_eq_none (by simp; omega)]
    rfl
   have hn2 : ∀ k, cel [] k = AV.top := fun k => rfl
   (repeat (first|with_reducible refine wV fun _=>?_|simp [go_sem, h0, h1, hnn, hn2]))
   (first|done|exact leX)
theorem Moves8_pure (g : GameD) (hg : GOk g) (c : CodeD) (hc : CodeOk g c) (p : PosD) (hp : POk g p) (hf : CodeFew g c p) :
  Pure Tryz.prog 62 [.agg (encGame g), .agg (encCode c), .agg (encPos p)] (encPs (gMovesP g c p)) := by
 refine pF Tryz.func62 ?_
 have hal := hp.al
 have hc9 := hg.c9
 have hSt := R6Status_pure g hg p hp
 unfold encOver at hSt
 have hMan := fun i => R3Of_pure (nth p.at_ i)
 have hRun := fun (i : Nat) => Run8_pure g hg c hc p hp (i : Int)
 have hlen := fun n (hn : ((n : Nat) : Int) ≤ g.cells) => gAllN_len hf n hn
 have hD := R5Drops_pure g hg p hp
 have hdl := dropsP_len hg hp
 have hdo := fun q hq => ((dropsP_ok hg hp) q hq).1.fits hg
 have hR : gMovesP g c p = if (statusV g p).2 = true then [] else sortU cmpP (gMovesL g c p) := rfl
 rw [hR]
 generalize statusV g p = st at *
 obtain ⟨so, sb⟩ := st
 (repeat (first|with_reducible refine wV fun _=>?_|simp [go_sem]))
 (first | refine ACallP.plain (hSt) (by simp [go_sem]) ?_ | refine aGC.plain _ (fun _ => hSt) (by simp [go_sem]) ?_ | ((try ((with_reducible refine wZ ?_); (try simp [go_sem]))); first | refine dCall.plain (hSt) (by simp [go_sem]) ?_ | refine dGC.plain _ (fun _ => hSt) (by simp [go_sem]) ?_))
 (repeat (first|with_reducible refine wV fun _=>?_|simp [go_sem]))
 cases sb
 ·rw [if_neg (by simp)]
  (repeat (first|with_reducible refine wV fun _=>?_|simp [go_sem]))
  have hgs := gAllN_succ g c p
  refine ALoop.start (ALoop.ind (α := Nat) (fun i => ⟨[(3, .ref 0 0 9 0 0), (4, .ref 1 0 2 0 0), (5, .ref 2 0 5 0 0), (7, .sl 3 (ownN p i) 6 0 (gAllN g c p i).length), (8, .v (.bool false)), (9, .v (.int .i64 i))], [(0, .rows true 0 9 [encGame g]), (1, .rows true 0 2 [encCode c]), (2, .rows true 0 5 [encPos p]), (3, .rows true (ownN p i) 6 ((gAllN g c p i).map encOut))], 4⟩)
   (fun d i => i + d = p.at_.length) ?_ p.at_.length 0 ?_) ?_ ?_
  ·rintro d i i1 hrec
   (repeat (first|with_reducible refine wV fun _=>?_|simp [go_sem]))
   refine aIf.mkL (fun hi => ?_) (fun hi => ?_) <;> simp at hi
   ·have hM := hMan i
    have hRi := hRun i
    obtain ⟨l1, _⟩ := hlen i (by omega)
    obtain ⟨l2, _⟩ := hf i (by omega)
    have hgs := hgs i
    have hon : ownN p (i + 1) = ownN p i + if (manOf (nth p.at_ i)).2 = p.side then 1 else 0 := rfl
    generalize manOf (nth p.at_ i) = m at *
    obtain ⟨m1, m2⟩ := m
    simp only at hgs hon hM
    (repeat (first|with_reducible refine wV fun _=>?_|simp [go_sem, hi]))
    (first | refine ACallP.plain (hM) (by simp [go_sem]) ?_ | refine aGC.plain _ (fun _ => hM) (by simp [go_sem]) ?_ | ((try ((with_reducible refine wZ ?_); (try simp [go_sem]))); first | refine dCall.plain (hM) (by simp [go_sem]) ?_ | refine dGC.plain _ (fun _ => hM) (by simp [go_sem]) ?_))
    (repeat (first|with_reducible refine wV fun _=>?_|simp [go_sem, hi]))
    refine aIf.mkL (fun hs => ?_) (fun hs => ?_) <;> simp at hs
    ·rw [if_pos hs] at hgs hon
     (repeat (first|with_reducible refine wV fun _=>?_|simp [go_sem, hi]))
     (first | refine ACallP.plain (hRi) (by simp [go_sem]) ?_ | refine aGC.plain _ (fun _ => hRi) (by simp [go_sem]) ?_ | ((try ((with_reducible refine wZ ?_); (try simp [go_sem]))); first | refine dCall.plain (hRi) (by simp [go_sem]) ?_ | refine dGC.plain _ (fun _ => hRi) (by simp [go_sem]) ?_))
     (repeat (first|with_reducible refine wV fun _=>?_|simp [go_sem, hi]))
     refine ALoop.start (hrec (d - 1) (by omega) (i + 1) (by omega)) ?_ (by simp)
     simp [go_sem, Wk_eq, hon, hgs]
    ·rw [if_neg hs] at hgs hon
     rw [List.append_nil] at hgs
     (repeat (first|with_reducible refine wV fun _=>?_|simp [go_sem, hi]))
     refine ALoop.start (hrec (d - 1) (by omega) (i + 1) (by omega)) ?_ (by simp)
     simp [go_sem, Wk_eq, hon, hgs]
   ·obtain rfl : i = p.at_.length := by omega
    obtain ⟨l1, l2⟩ := hlen p.at_.length (by omega)
    have hgL : gMovesL g c p = gOuts (gMust g c p) (gAllN g c p p.at_.length) ++ (if gMust g c p then [] else dropsP g p) := rfl
    have hgM : gMust g c p = (g.must && (gAllN g c p p.at_.length).any (·.took)) := rfl
    rw [hgL]
    generalize gAllN g c p p.at_.length = al at *
    generalize dropsP g p = drops at *
    generalize ownN p p.at_.length = gen at *
    clear hgs hRun hlen hgL
    obtain ⟨mu, hmu⟩ : ∃ mu : Nat → Bool, mu = fun k => g.must && (al.take k).any (·.took) := ⟨_, rfl⟩
    have hmz : mu 0 = false := by rw [hmu]; simp
    have hme : mu al.length = gMust g c p := by rw [hmu, hgM]; simp
    have hms : ∀ k, k < al.length → mu (k + 1) = (mu k || (g.must && (nth al k).took)) := fun k hk => by
     rw [hmu]
     simp only
     rw [List.take_add_one, List.getElem?_eq_getElem hk, nth_eq _ _ hk, Option.toList_some, List.any_append]
     cases g.must <;> simp
    clear hmu
    (repeat (first|with_reducible refine wV fun _=>?_|simp [go_sem]))
    refine ALoop.start (ALoop.ind (α := Nat) (fun k => ⟨[(3, .ref 0 0 9 0 0), (5, .ref 2 0 5 0 0), (7, encOs al), (8, .v (.bool (mu k))), (10, .v (.int .i64 k))], [(0, .rows true 0 9 [encGame g]), (2, .rows true 0 5 [encPos p])], 4⟩)
     (fun d k => k + d = al.length) ?_ al.length 0 ?_) ?_ ?_
    ·rintro d2 k k1 hrec2
     (repeat (first|with_reducible refine wV fun _=>?_|simp [go_sem]))
     refine aIf.mkL (fun hk => ?_) (fun hk => ?_) <;> simp at hk
     ·have hms := hms k hk
      have hgo : nth (al.map encOut) k = encOut (nth al k) := nth_map _ _ _ hk
      generalize nth al k = o at *
      obtain ⟨op, ot⟩ := o
      simp only at hms
      cases hm1 : mu k <;> cases hgm : g.must
      all_goals
       (repeat (first|with_reducible refine wV fun _=>?_|simp [go_sem, hk, hgo, hm1, hgm]))
       refine ALoop.start (hrec2 (d2 - 1) (by omega) (k + 1) (by omega)) ?_ (by simp)
       simp [go_sem, Wk_eq, hms, hm1, hgm]
     ·obtain rfl : k = al.length := by omega
      rw [hme]
      generalize gMust g c p = mu at *
      obtain ⟨ol, hol⟩ : ∃ ol : Nat → List PosD, ol = fun k => gOuts mu (al.take k) := ⟨_, rfl⟩
      have hos : ∀ k, k < al.length → ol (k + 1) = if ((nth al k).took || !mu) = true then ol k ++ [(nth al k).pos] else ol k := fun k hk => by
       rw [hol]
       simp only [gOuts]
       rw [List.take_add_one, List.getElem?_eq_getElem hk, nth_eq _ _ hk, Option.toList_some, List.filter_append, List.map_append]
       by_cases hq : (al[k].took || !mu) = true
       ·simp [hq]
       ·simp [hq]
      have hoz : ol 0 = [] := by rw [hol]; simp [gOuts]
      have hoe : ol al.length = gOuts mu al := by rw [hol]; simp
      have hoL : ∀ k, (ol k).length ≤ 900 := fun k => by
       rw [hol]
       simp only [gOuts, List.length_map]
       have h1 := List.length_filter_le (fun o : OutD => o.took || !mu) (al.take k)
       have h2 : (al.take k).length ≤ al.length := by rw [List.length_take]; omega
       omega
      have hof : ∀ k, ∀ q ∈ ol k, FitsP q := fun k q hq => by
       rw [hol] at hq
       obtain ⟨o, ho, rfl⟩ := List.mem_map.1 hq
       exact l2 o (List.mem_of_mem_take (List.mem_filter.1 ho).1)
      clear hol
      (repeat (first|with_reducible refine wV fun _=>?_|simp [go_sem]))
      refine ALoop.start (ALoop.ind (α := Nat) (fun k => ⟨[(3, .ref 0 0 9 0 0), (5, .ref 2 0 5 0 0), (7, encOs al), (8, .v (.bool mu)), (11, .sl 4 (ol k).length 5 0 (ol k).length), (12, .v (.int .i64 k))], [(0, .rows true 0 9 [encGame g]), (2, .rows true 0 5 [encPos p]), (4, .rows true (ol k).length 5 ((ol k).map encPos))], 5⟩)
       (fun d k => k + d = al.length) ?_ al.length 0 ?_) ?_ ?_
      ·rintro d3 k k3 hrec3
       (repeat (first|with_reducible refine wV fun _=>?_|simp [go_sem]))
       refine aIf.mkL (fun hk => ?_) (fun hk => ?_) <;> simp at hk
       ·have hos := hos k hk
        have hl := hoL k
        have hgo : nth (al.map encOut) k = encOut (nth al k) := nth_map _ _ _ hk
        generalize nth al k = o at *
        obtain ⟨op, ot⟩ := o
        simp only at hos
        (repeat (first|with_reducible refine wV fun _=>?_|simp [go_sem, hk, hgo]))
        cases hb : (ot || !mu)
        ·rw [hb, if_neg (by simp)] at hos
         (repeat (first|with_reducible refine wV fun _=>?_|simp [go_sem, hk, hgo, hb]))
         refine ALoop.start (hrec3 (d3 - 1) (by omega) (k + 1) (by omega)) ?_ (by simp)
         simp [go_sem, Wk_eq, hos]
        ·rw [hb, if_pos rfl] at hos
         (repeat (first|with_reducible refine wV fun _=>?_|simp [go_sem, hk, hgo, hb]))
         refine ALoop.start (hrec3 (d3 - 1) (by omega) (k + 1) (by omega)) ?_ (by simp)
         simp [go_sem, Wk_eq, hos]
       ·obtain rfl : k = al.length := by omega
        have hl := hoL al.length
        have hfz := hof al.length
        rw [hoe] at hl hfz
        cases mu
        ·have hS1 := R4Sort_pure (gOuts false al ++ drops) (by rw [List.length_append]; omega) (fun q hq => by
          rcases List.mem_append.1 hq with h | h
          ·exact hfz q h
          ·exact hdo q h)
         rw [if_neg (by simp)]
         generalize sortU cmpP (gOuts false al ++ drops) = res at *
         generalize gOuts false al = ou at *
         (repeat (first|with_reducible refine wV fun _=>?_|simp [go_sem, hoe]))
         (first | refine ACallP.plain (hD) (by simp [go_sem]) ?_ | refine aGC.plain _ (fun _ => hD) (by simp [go_sem]) ?_ | ((try ((with_reducible refine wZ ?_); (try simp [go_sem]))); first | refine dCall.plain (hD) (by simp [go_sem]) ?_ | refine dGC.plain _ (fun _ => hD) (by simp [go_sem]) ?_))
         (repeat (first|with_reducible refine wV fun _=>?_|simp [go_sem, hoe]))
         refine ACallP.pureF [4] hS1 ?_ (bel1 (bel_encPs _)) ?_
         ·(first|done|exact agX)
         ·(repeat (first|with_reducible refine wV fun _=>?_|simp [go_sem]))
        ·have hS1 := R4Sort_pure (gOuts true al) (by omega) hfz
         rw [if_pos rfl, List.append_nil]
         generalize gOuts true al = ou at *
         (repeat (first|with_reducible refine wV fun _=>?_|simp [go_sem, hoe]))
         refine ACallP.pureF [4] hS1 ?_ (bel1 (bel_encPs _)) ?_
         ·(first|done|exact agX)
         ·(repeat (first|with_reducible refine wV fun _=>?_|simp [go_sem]))
      ·simp
      ·simp [go_sem, Wk_eq, hoz]
      ·simp
    ·simp
    ·simp [go_sem, Wk_eq, hmz]
     (first|done|exact leX)
    ·simp
  ·simp
  ·simp [go_sem, Wk_eq, gAllN, ownN]
  ·simp
 ·rw [if_pos rfl]
  (repeat (first|with_reducible refine wV fun _=>?_|simp [go_sem]))
  (first|done|exact leX)
end Go.Av
end
section
/- Contracts: Without of the reference of chapter 8; the law GenMatchesReference. -/
open Go Go.Proofs
namespace Go.Av
def dropK (cell : Nat) (k : List (List PathD)) : List (List PathD) := k.set cell ((nth k cell).take ((nth k cell).length - 1))
def withoutC (g : GameD) (c : CodeD) (cell : Int) : CodeD := if 0 ≤ cell ∧ cell < g.cells then (c.1.map (dropK cell.toNat), c.2.map (dropK cell.toNat)) else c
theorem below8_pure (n m : Int) : Pure Tryz.prog 130 [.v (.int .i64 n), .v (.int .i64 m)] (.v (.bool (decide (0 ≤ n) && decide (n < m)))) := by
 refine pF Tryz.func130 ?_
 (repeat (first|with_reducible refine wV fun _=>?_|simp [go_sem]))
def codeS (c : CodeD) (s : Nat) : List (List (List PathD)) := if s = 0 then c.1 else c.2
def dropS (cs : List (List (List PathD))) (cell j : Nat) : List (List (List PathD)) := (cs.take j).map (dropK cell)
theorem dropS_succ (cs : List (List (List PathD))) (cell : Nat) {j : Nat} (h : j < cs.length) : dropS cs cell (j + 1) = dropS cs cell j ++ [dropK cell (nth cs j)] := by
 unfold dropS
 rw [List.take_add_one, List.getElem?_eq_getElem h, nth_eq _ _ h, Option.toList_some, List.map_append]; rfl
theorem dropS_len (cs : List (List (List PathD))) (cell : Nat) {j : Nat} (h : j ≤ cs.length) : (dropS cs cell j).length = j := by simp [dropS]; omega
theorem Without8_pure (g : GameD) (hg : GOk g) (c : CodeD) (hc : CodeOk g c) (cell : Int) :
  Pure Tryz.prog 59 [.agg (encGame g), .agg (encCode c), .v (.int .i64 cell)] (.agg (encCode (withoutC g c cell))) := by
 refine pF Tryz.func59 ?_
 have hk6 := hg.k6
 have hB := below8_pure cell g.cells
 by_cases hin : 0 ≤ cell ∧ cell < g.cells
 ·have e : withoutC g c cell = (c.1.map (dropK cell.toNat), c.2.map (dropK cell.toNat)) := if_pos hin
  rw [e]
  rw [decide_eq_true hin.1, decide_eq_true hin.2] at hB
  have hcS : ∀ s, s < 2 → cel (encCode c) s = encSide (codeS c s) := fun s hs => by
   rcases (show s = 0 ∨ s = 1 by omega) with rfl | rfl <;> rfl
  have hcl : (encCode c).length = 2 := rfl
  have hcb : ∀ n, (∀ x ∈ encCode c, Bel n x) = True := fun n => by simp [go_sem]
  have hsl : ∀ s, (codeS c s).length = g.kinds.length := fun s => by unfold codeS; split; exact hc.l0; exact hc.l1
  have hskl : ∀ s, ∀ k ∈ codeS c s, (k.length : Int) = g.cells := fun s => by unfold codeS; split; exact hc.k0; exact hc.k1
  have hspl : ∀ s, ∀ k ∈ codeS c s, ∀ l ∈ k, l.length ≤ 1000000000 := fun s k hk l hl => by
   unfold codeS at hk
   split at hk
   ·exact (hc.p0 k hk l hl).1
   ·exact (hc.p1 k hk l hl).1
  obtain ⟨S0, hS0⟩ : ∃ S0, S0 = encSide (c.1.map (dropK cell.toNat)) := ⟨_, rfl⟩
  obtain ⟨S1, hS1⟩ : ∃ S1, S1 = encSide (c.2.map (dropK cell.toNat)) := ⟨_, rfl⟩
  have hSb0 : ∀ n, Bel n S0 = True := fun n => by rw [hS0]; simp [go_sem]
  have hSb1 : ∀ n, Bel n S1 = True := fun n => by rw [hS1]; simp [go_sem]
  have hR : encCode (c.1.map (dropK cell.toNat), c.2.map (dropK cell.toNat)) = [S0, S1] := by rw [hS0, hS1]; rfl
  rw [hR]
  have hbl : ∀ n, (∀ c' ∈ encGame g, Bel n c') = True := fun n => by simp [go_sem]
  have hel : (encGame g).length = 9 := rfl
  have hg2 : cel (encGame g) 3 = .lst 3 (g.kinds.map encKind) := rfl
  have hg3 : cel (encGame g) 0 = .v (.int .i64 g.cells) := rfl
  have hSe : ∀ s, s < 2 → (if s = 0 then S0 else S1) = encSide (dropS (codeS c s) cell.toNat g.kinds.length) := fun s hs => by
   rcases (show s = 0 ∨ s = 1 by omega) with rfl | rfl
   ·rw [if_pos rfl, hS0, dropS, show codeS c 0 = c.1 from rfl, ← hc.l0, List.take_length]
   ·rw [if_neg (by omega), hS1, dropS, show codeS c 1 = c.2 from rfl, ← hc.l1, List.take_length]
  clear hS0 hS1 hR
  generalize encGame g = eg at *
  generalize encCode c = ec at *
  (repeat (first|with_reducible refine wV fun _=>?_|simp [go_sem, hel, hg3, hcl]))
  (first | refine ACallP.plain (hB) (by simp [go_sem]) ?_ | refine aGC.plain _ (fun _ => hB) (by simp [go_sem]) ?_ | ((try ((with_reducible refine wZ ?_); (try simp [go_sem]))); first | refine dCall.plain (hB) (by simp [go_sem]) ?_ | refine dGC.plain _ (fun _ => hB) (by simp [go_sem]) ?_))
  (repeat (first|with_reducible refine wV fun _=>?_|simp [go_sem, hel, hcl]))
  refine ALoop.start (ALoop.ind (α := Nat) (fun s => ⟨[(2, .v (.int .i64 cell)), (3, .ref 0 0 9 0 0), (4, .ref 1 0 2 0 0), (6, .ref 2 0 2 0 0), (7, .ref 3 0 2 0 0), (8, .v (.int .i64 s))],
    [(0, .rows true 0 9 [eg]), (1, .rows true 0 2 [ec]), (2, .rows true 0 2 [[AV.v (.slice none 0 0), AV.v (.slice none 0 0)]]), (3, .rows true 0 2 [rowA S0 S1 s])], 4⟩)
   (fun d s => s + d = 2) ?_ 2 0 ?_) ?_ ?_
  ·rintro d0 s s1 hrec
   rcases (show s = 2 ∨ s < 2 by omega) with rfl | hs2
   ·simp only [rowA]
    (repeat (first|with_reducible refine wV fun _=>?_|simp [go_sem]))
    exact ⟨of_eq_true (hSb0 0), of_eq_true (hSb1 0)⟩
   have hAS : rowA S0 S1 s = rowS S0 s (.v (.slice none 0 0)) := by rcases (show s = 0 ∨ s = 1 by omega) with rfl | rfl <;> rfl
   rw [hAS]
   have hrl := rowS_len S0 s
   have hrc := rowS_cel S0 hs2
   have hrs := rowS_set S0 hs2
   have hcs := hcS s hs2
   have hsl := hsl s
   have hskl := hskl s
   have hspl := hspl s
   have hSe := hSe s hs2
   generalize codeS c s = cs at *
   (repeat (first|with_reducible refine wV fun _=>?_|simp [go_sem, hel, hcl]))
   (refine aIf.mkL (fun hT => ?_) (fun hT => by first | omega | (simp at hT; omega)); clear hT)
   (repeat (first|with_reducible refine wV fun _=>?_|simp [go_sem, hel, hcl]))
   refine ALoop.start (ALoop.ind (α := Nat) (fun j => ⟨[(2, .v (.int .i64 cell)), (3, .ref 0 0 9 0 0), (4, .ref 1 0 2 0 0), (6, .ref 2 0 2 0 0), (7, .ref 3 0 2 0 0), (8, .v (.int .i64 s)), (9, .v (.int .i64 j))],
     [(0, .rows true 0 9 [eg]), (1, .rows true 0 2 [ec]), (2, .rows true 0 2 [[AV.v (.slice none 0 0), AV.v (.slice none 0 0)]]), (3, .rows true 0 2 [rowS S0 s (.sl 4 j 1 0 j)]), (4, .rows true j 1 ((dropS cs cell.toNat j).map fun x => [encCells x]))], 5⟩)
    (fun d j => j + d = g.kinds.length) ?_ g.kinds.length 0 ?_) ?_ ?_
   ·rintro d j j1 hrec2
    have hlj := dropS_len cs cell.toNat (show j ≤ cs.length by omega)
    (repeat (first|with_reducible refine wV fun _=>?_|simp [go_sem, hel, hg2]))
    refine aIf.mkL (fun hj => ?_) (fun hj => ?_) <;> simp at hj
    ·have hjc : j < cs.length := by omega
     have hkm := nth_mem hjc
     have hsj := dropS_succ cs cell.toNat hjc
     have hkl := hskl _ hkm
     have hcc : cell.toNat < (nth cs j).length := by omega
     have hcl9 := hg.c9
     have hpl := hspl _ hkm _ (nth_mem hcc)
     have hdk : dropK cell.toNat (nth cs j) = (nth cs j).set cell.toNat ((nth (nth cs j) cell.toNat).take ((nth (nth cs j) cell.toNat).length - 1)) := rfl
     rw [hdk] at hsj
     clear hdk
     have hmx : (if ((nth (nth cs j) cell.toNat).length : Int) - 1 < 0 then 0 else ((nth (nth cs j) cell.toNat).length : Int) - 1).toNat = (nth (nth cs j) cell.toNat).length - 1 := by split <;> omega
     have hmy : (if 0 < ((nth (nth cs j) cell.toNat).length : Int) - 1 then ((nth (nth cs j) cell.toNat).length : Int) - 1 else 0).toNat = (nth (nth cs j) cell.toNat).length - 1 := by split <;> omega
     (repeat (first|with_reducible refine wV fun _=>?_|simp [go_sem, hel, hg2, hcl, hcs, hjc, hcc, hrl, hrc, hrs, hlj, hmx, hmy]))
     refine ALoop.start (hrec2 (d - 1) (by omega) (j + 1) (by omega)) ?_ (by simp)
     simp [go_sem, Wk_eq, hbl, hcb, hsj]
     refine ⟨rowS_bel (of_eq_true (hSb0 _)) (.sl (by omega)), ?_, fun r hr x hx => ?_⟩
     ·refine leRows_append (.refl _) (.cons (.cons ?_ .nil) .nil)
      refine LeV.frz rfl ?_ ?_ (LeRows.of_eq ?_)
      ·simp
      ·simp [noH, upd]
      ·simp only [List.drop_zero]
       have hmz : (if 1 < ((nth (nth cs j) cell.toNat).length : Int) then ((nth (nth cs j) cell.toNat).length : Int) - 1 else 0).toNat = (nth (nth cs j) cell.toNat).length - 1 := by split <;> omega
       rw [hmz]
       refine List.take_of_length_le ?_
       rw [List.length_set, List.length_map]
       exact Nat.le_refl _
     ·have hbP : ∀ l : List PathD, ∀ r ∈ l.map encPath, ∀ x ∈ r, Bel 5 x := fun l => of_eq_true bel_Pa
      rcases List.mem_or_eq_of_mem_set hr with h | rfl
      ·obtain ⟨l, _, rfl⟩ := List.mem_map.1 h
       simp only [List.mem_singleton] at hx
       subst hx
       exact .lst (hbP l)
      ·simp only [List.mem_singleton] at hx
       subst hx
       exact .lst fun r hr => hbP _ r (List.mem_of_mem_take hr)
    ·have hjk : j = g.kinds.length := by omega
     subst hjk
     (repeat (first|with_reducible refine wV fun _=>?_|simp [go_sem]))
     refine ALoop.start (hrec (d0 - 1) (by omega) (s + 1) (by omega)) ?_ (by simp)
     simp [go_sem, Wk_eq, hbl, hcb]
     refine ⟨?_, ?_⟩
     ·rcases (show s = 0 ∨ s = 1 by omega) with rfl | rfl
      ·rw [if_pos rfl] at hSe
       simp only [rowA, rowS, hSe, encSide, encCells, encPt]
       simp
       ((try simp only [encProg, encStep, encAct, encAs, encPath, encPt, encOut, encState, encPos, encOs, encSs, encPs, encIs, encGame, List.map_cons, List.map_nil, List.nil_append, List.append_nil, List.cons_append]); (repeat (first | (with_reducible exact LeRow.nil) | (with_reducible exact LeRows.nil) | (with_reducible exact LeV.refl _) | (with_reducible exact LeRow.refl _ _ _ _) | (with_reducible exact LeRows.refl _) | (with_reducible refine LeRow.cons ?_ ?_) | (with_reducible refine LeRows.cons ?_ ?_) | (with_reducible refine LeV.agg ?_) | (with_reducible refine LeV.tup ?_) | (with_reducible refine LeV.fn ?_ ?_) | (with_reducible exact LeV.nil _) | (with_reducible refine leRows_append (LeRows.refl _) ?_) | ((refine leV_frz rfl (by simp [hlj]) (by simp [frzO, frz1, upd, noH]) ?_); (first | (simp [go_sem, hlj]; done) | (simp [go_sem, hlj]; exact List.take_of_length_le (by simp [hlj])))) | ((refine LeV.frz rfl (by simp [hlj]) (by simp [frzO, frz1, upd, noH]) ?_); (simp only [List.drop_zero, List.take_succ_cons, List.take_zero, List.map_cons, List.map_nil])) | ((refine LeV.frzP rfl (by simp [hlj]) (by simp) (by simp [frzO, frz1, upd, noH]) ?_); (simp only [nth_zero, List.drop_zero])))))
      ·rw [if_neg (by omega)] at hSe
       simp only [rowA, rowS, hSe, encSide, encCells, encPt]
       simp
       ((try simp only [encProg, encStep, encAct, encAs, encPath, encPt, encOut, encState, encPos, encOs, encSs, encPs, encIs, encGame, List.map_cons, List.map_nil, List.nil_append, List.append_nil, List.cons_append]); (repeat (first | (with_reducible exact LeRow.nil) | (with_reducible exact LeRows.nil) | (with_reducible exact LeV.refl _) | (with_reducible exact LeRow.refl _ _ _ _) | (with_reducible exact LeRows.refl _) | (with_reducible refine LeRow.cons ?_ ?_) | (with_reducible refine LeRows.cons ?_ ?_) | (with_reducible refine LeV.agg ?_) | (with_reducible refine LeV.tup ?_) | (with_reducible refine LeV.fn ?_ ?_) | (with_reducible exact LeV.nil _) | (with_reducible refine leRows_append (LeRows.refl _) ?_) | ((refine leV_frz rfl (by simp [hlj]) (by simp [frzO, frz1, upd, noH]) ?_); (first | (simp [go_sem, hlj]; done) | (simp [go_sem, hlj]; exact List.take_of_length_le (by simp [hlj])))) | ((refine LeV.frz rfl (by simp [hlj]) (by simp [frzO, frz1, upd, noH]) ?_); (simp only [List.drop_zero, List.take_succ_cons, List.take_zero, List.map_cons, List.map_nil])) | ((refine LeV.frzP rfl (by simp [hlj]) (by simp) (by simp [frzO, frz1, upd, noH]) ?_); (simp only [nth_zero, List.drop_zero])))))
     ·intro x hx
      unfold rowA at hx
      simp only [List.mem_cons, List.not_mem_nil, or_false] at hx
      rcases hx with rfl | rfl
      ·exact of_eq_true (hSb0 _)
      ·split
       ·exact .v _
       ·exact of_eq_true (hSb1 _)
   ·simp
   ·have h0 : dropS cs cell.toNat 0 = [] := rfl
    simp [go_sem, Wk_eq, h0, hbl, hcb]
    refine ⟨rowS_le ?_, rowS_bel (of_eq_true (hSb0 _)) (.sl (by omega))⟩
    simp [go_sem]
   ·simp
  ·simp
  ·simp [go_sem, Wk_eq, hbl, hcb, rowA]
  ·simp
 ·have e : withoutC g c cell = c := if_neg hin
  rw [e]
  have hb : (decide (0 ≤ cell) && decide (cell < g.cells)) = false := by
   rw [← Bool.decide_and]; exact decide_eq_false hin
  rw [hb] at hB
  (repeat (first|with_reducible refine wV fun _=>?_|simp [go_sem]))
  (first | refine ACallP.plain (hB) (by simp [go_sem]) ?_ | refine aGC.plain _ (fun _ => hB) (by simp [go_sem]) ?_ | ((try ((with_reducible refine wZ ?_); (try simp [go_sem]))); first | refine dCall.plain (hB) (by simp [go_sem]) ?_ | refine dGC.plain _ (fun _ => hB) (by simp [go_sem]) ?_))
  (repeat (first|with_reducible refine wV fun _=>?_|simp [go_sem]))
end Go.Av
end
section
/- The law GenMatchesReference: its call gives true. -/
open Go Go.Proofs
namespace Go.Av
theorem nth_nilP {i : Nat} : nth ([] : List (List PathD)) i = [] := by simp [nth]; rfl
theorem dropK_mem {cell : Nat} {k : List (List PathD)} {i : Nat} {w : PathD} (h : w ∈ nth (dropK cell k) i) : w ∈ nth k i := by
 unfold dropK at h
 rw [nth_setE] at h
 split at h
 ·rename_i hc
  rw [← hc.1]
  exact List.mem_of_mem_take h
 ·exact h
theorem nth_big {α : Type} [Inhabited α] {l : List α} {i : Nat} (h : l.length ≤ i) : nth l i = default := by
 unfold nth
 rw [List.getD_eq_getElem?_getD, List.getElem?_eq_none h]
 rfl
theorem pathsC_without {g : GameD} {c : CodeD} {cell : Int} {side : Int} {k i : Nat} {w : PathD} (h : w ∈ pathsC (withoutC g c cell) side k i) : w ∈ pathsC c side k i := by
 unfold withoutC at h
 split at h
 ·unfold pathsC at h ⊢
  have key : ∀ cs : List (List (List PathD)), w ∈ nth (nth (cs.map (dropK cell.toNat)) k) i → w ∈ nth (nth cs k) i := fun cs hw => by
   by_cases hk : k < cs.length
   ·rw [nth_map _ _ _ hk] at hw
    exact dropK_mem hw
   ·have hb : (cs.map (dropK cell.toNat)).length ≤ k := by rw [List.length_map]; omega
    rw [nth_big hb] at hw
    have e : (default : List (List PathD)) = [] := rfl
    rw [e, nth_nilP] at hw
    cases hw
  split at h
  ·rename_i hs
   rw [if_pos hs]
   exact key _ h
  ·rename_i hs
   rw [if_neg hs]
   exact key _ h
 ·exact h
theorem codeOk_without {g : GameD} {c : CodeD} (hc : CodeOk g c) (cell : Int) : CodeOk g (withoutC g c cell) := by
 unfold withoutC
 split
 ·have key : ∀ cs : List (List (List PathD)), (∀ k ∈ cs, ∀ l ∈ k, l.length ≤ 1000000000 ∧ ∀ w ∈ l, (0 ≤ w.to ∧ w.to < g.cells) ∧ w.acts.length ≤ 1048576 ∧ ∀ a ∈ w.acts, ActOk g.cells g.kinds.length g.rights a) →
    (∀ k ∈ cs, (k.length : Int) = g.cells) → (∀ k ∈ cs.map (dropK cell.toNat), (k.length : Int) = g.cells) ∧
    ∀ k ∈ cs.map (dropK cell.toNat), ∀ l ∈ k, l.length ≤ 1000000000 ∧ ∀ w ∈ l, (0 ≤ w.to ∧ w.to < g.cells) ∧ w.acts.length ≤ 1048576 ∧ ∀ a ∈ w.acts, ActOk g.cells g.kinds.length g.rights a := fun cs h1 h2 => by
   refine ⟨fun k hk => ?_, fun k hk l hl => ?_⟩
   ·obtain ⟨k', hk', rfl⟩ := List.mem_map.1 hk
    unfold dropK
    rw [List.length_set]
    exact h2 k' hk'
   ·obtain ⟨k', hk', rfl⟩ := List.mem_map.1 hk
    unfold dropK at hl
    rcases List.mem_or_eq_of_mem_set hl with h | rfl
    ·exact h1 k' hk' l h
    ·by_cases hi : cell.toNat < k'.length
     ·obtain ⟨q1, q2⟩ := h1 k' hk' _ (nth_mem hi)
      refine ⟨by rw [List.length_take]; omega, fun w hw => q2 w (List.mem_of_mem_take hw)⟩
     ·rw [nth_big (by omega)]
      have e : (default : List PathD) = [] := rfl
      rw [e]
      exact ⟨by simp, fun w hw => by simp at hw⟩
  obtain ⟨a1, a2⟩ := key c.1 hc.p0 hc.k0
  obtain ⟨b1, b2⟩ := key c.2 hc.p1 hc.k1
  exact ⟨by simp only [List.length_map]; exact hc.l0, by simp only [List.length_map]; exact hc.l1, a1, b1, a2, b2⟩
 ·exact hc
theorem runC_pw (g : GameD) (c : CodeD) (p : PosD) (cell : Int) : (runC g c p cell).Pairwise (fun a b => cmpO a b < 0) := by
 unfold runC
 split
 ·exact sortU_pw cmp_out _
 ·simp
theorem codeFew_without {g : GameD} {c : CodeD} {p : PosD} (hf : CodeFew g c p) (cell : Int) : CodeFew g (withoutC g c cell) p := fun i hi => by
 obtain ⟨h1, h2⟩ := hf i hi
 have hm : ∀ o ∈ runC g (withoutC g c cell) p i, o ∈ runC g c p i := fun o ho => by
  unfold runC at ho ⊢
  split at ho
  ·rename_i hc
   rw [if_pos hc, sortU_mem]
   rw [sortU_mem] at ho
   obtain ⟨w, hw, hwo⟩ := List.mem_filterMap.1 ho
   exact List.mem_filterMap.2 ⟨w, pathsC_without hw, hwo⟩
  ·simp at ho
 have hnd : (runC g (withoutC g c cell) p i).Nodup := List.Pairwise.imp (fun {a b} hab e => by
  have := (cmp_out.eq a b).2 e
  omega) (runC_pw g _ p i)
 exact ⟨Nat.le_trans (len_sub hnd hm) h1, fun o ho => h2 o (hm o ho)⟩
theorem codeFew_any {g : GameD} {c : CodeD} {p : PosD} (hf : CodeFew g c p) (cell : Int) : (runC g c p cell).length ≤ 100 ∧ ∀ o ∈ runC g c p cell, FitsP o.pos := by
 by_cases hin : 0 ≤ cell ∧ cell < g.cells
 ·have := hf cell.toNat (by omega)
  rwa [Int.toNat_of_nonneg hin.1] at this
 ·have e : runC g c p cell = [] := if_neg (fun h => hin ⟨h.1, h.2.1⟩)
  rw [e]
  simp
theorem gMovesP_fits {g : GameD} (hg : GOk g) {c : CodeD} {p : PosD} (hp : POk g p) (hf : CodeFew g c p) : (gMovesP g c p).length ≤ 1000000 ∧ ∀ q ∈ gMovesP g c p, FitsP q := by
 have hal := hp.al
 have hc9 := hg.c9
 obtain ⟨l1, l2⟩ := gAllN_len hf p.at_.length (by omega)
 have hdl := dropsP_len hg hp
 have hdo := fun q hq => ((dropsP_ok hg hp) q hq).1.fits hg
 have e : gAll g c p = gAllN g c p p.at_.length := rfl
 unfold gMovesP
 split
 ·simp
 ·constructor
  ·have h1 := sortU_le cmpP (gMovesL g c p)
   have h2 : (gMovesL g c p).length ≤ 900 + 54 := by
    unfold gMovesL gOuts
    rw [List.length_append, List.length_map, e]
    have h3 := List.length_filter_le (fun o : OutD => o.took || !gMust g c p) (gAllN g c p p.at_.length)
    have h4 : (if gMust g c p = true then [] else dropsP g p).length ≤ (dropsP g p).length := by split <;> simp
    omega
   omega
  ·intro q hq
   rw [sortU_mem] at hq
   unfold gMovesL gOuts at hq
   rcases List.mem_append.1 hq with hq | hq
   ·obtain ⟨o, ho, rfl⟩ := List.mem_map.1 hq
    rw [e] at ho
    exact l2 o (List.mem_filter.1 ho).1
   ·split at hq
    ·simp at hq
    ·exact hdo q hq
theorem GenMatches_pure (x : Raw6) (hx : Raw6Ok x) (cell : Int) (hcell : -9223372036854775808 ≤ cell ∧ cell ≤ 9223372036854775807) : Pure Tryz.prog 12 [.agg (encRaw6 x), .v (.int .i64 cell)] (.v (.bool true)) := by
 refine pF Tryz.func12 ?_
 have hM := R6Made_pure x hx
 have hg := game6_ok hx
 have hp := pos6_ok hx
 have hs1 : OneSlide (game6 x) := madeG_slide x.g
 obtain ⟨er, her⟩ : ∃ er, er = encRaw6 x := ⟨_, rfl⟩
 have herl : er.length = 31 := by rw [her]; exact raw6_len hx
 have herb : ∀ n, (∀ c ∈ er, Bel n c) = True := fun n => by rw [her]; exact raw6_bel hx n
 rw [← her] at hM ⊢
 generalize game6 x = g at *
 generalize pos6 x = p at *
 have hal := hp.al
 have hc9 := hg.c9
 have hS := sanity8_pure
 have hC := Compile_pure g hg
 have hC8 := Compile8_pure g hg
 have hfit := fit_codeP hg
 have hSame := Same_true g hg (codeP g) hfit
 have hcl := countC_le hg hs1
 have hsh := hfit.sh
 have hlen : ∀ y ∈ (codeP g).1 ++ (codeP g).2, y.length ≤ 1048576 := fun y hy => by
  have hok := codeOk_codeP hg hs1
  rcases List.mem_append.1 hy with h | h
  ·have := hok.k0 y h; omega
  ·have := hok.k1 y h; omega
 have hk6 := hg.k6
 have hN := gCount_pure (codeP g) (by omega) (by rw [hsh.l1]; omega) (by rw [hsh.l2]; omega) hlen
 have hN8 := Count8_pure (codeP g) (by omega) (by rw [hsh.l1]; omega) (by rw [hsh.l2]; omega) hlen
 have hok := codeOk_codeP hg hs1
 have hfew := codeFew_codeP hg hs1 hp
 have hRun := fun i => gRunAny_pure g hg (codeP g) hok p hp i
 have hRun8 := fun i => Run8_pure g hg (codeP g) hok p hp i
 have hSO := fun i => SameOutcomes_true (runC g (codeP g) p i) (by have := (codeFew_any hfew i).1; omega) (codeFew_any hfew i).2
 have hW := Without8_pure g hg (codeP g) hok cell
 have hGm := gMoves_pure g hg (codeP g) hok p hp hfew
 have hGm8 := Moves8_pure g hg (codeP g) hok p hp hfew
 have hSP := SamePos_true (gMovesP g (codeP g) p) (by have := (gMovesP_fits hg hp hfew).1; omega) (gMovesP_fits hg hp hfew).2
 have hok2 := codeOk_without hok cell
 have hfew2 := codeFew_without hfew cell
 have hGo := gMoves_pure g hg _ hok2 p hp hfew2
 have hGo8 := Moves8_pure g hg _ hok2 p hp hfew2
 have hSPo := SamePos_true (gMovesP g (withoutC g (codeP g) cell) p) (by have := (gMovesP_fits hg hp hfew2).1; omega) (gMovesP_fits hg hp hfew2).2
 have hecl : (encCode (codeP g)).length = 2 := rfl
 have hecb : ∀ n, (∀ c ∈ encCode (codeP g), Bel n c) = True := fun n => by simp [go_sem]
 have heol : (encCode (withoutC g (codeP g) cell)).length = 2 := rfl
 have heob : ∀ n, (∀ c ∈ encCode (withoutC g (codeP g) cell), Bel n c) = True := fun n => by simp [go_sem]
 have hegl : (encGame g).length = 9 := rfl
 have hegb : ∀ n, (∀ c ∈ encGame g, Bel n c) = True := fun n => by simp [go_sem]
 generalize gMovesP g (withoutC g (codeP g) cell) p = mo at *
 generalize gMovesP g (codeP g) p = mv at *
 generalize encCode (withoutC g (codeP g) cell) = eo at *
 generalize countC (codeP g) = cn at *
 generalize hrr : runC g (codeP g) p = rr at *
 generalize encCode (codeP g) = ec at *
 generalize encGame g = eg at *
 clear hok hok2 hfew hfew2 hfit hsh hlen hrr
 (repeat (first|with_reducible refine wV fun _=>?_|simp [go_sem, herl]))
 (first | refine ACallP.plain (hS) (by simp [go_sem]) ?_ | refine aGC.plain _ (fun _ => hS) (by simp [go_sem]) ?_ | ((try ((with_reducible refine wZ ?_); (try simp [go_sem]))); first | refine dCall.plain (hS) (by simp [go_sem]) ?_ | refine dGC.plain _ (fun _ => hS) (by simp [go_sem]) ?_))
 (repeat (first|with_reducible refine wV fun _=>?_|simp [go_sem, herl]))
 (first | refine ACallP.plain (hM) (by simp [go_sem, herb]) ?_ | refine aGC.plain _ (fun _ => hM) (by simp [go_sem, herb]) ?_ | ((try ((with_reducible refine wZ ?_); (try simp [go_sem]))); first | refine dCall.plain (hM) (by simp [go_sem, herb]) ?_ | refine dGC.plain _ (fun _ => hM) (by simp [go_sem, herb]) ?_))
 (repeat (first|with_reducible refine wV fun _=>?_|simp [go_sem, herl, hegl]))
 (first | refine ACallP.plain (hC) (by simp [go_sem, hegb]) ?_ | refine aGC.plain _ (fun _ => hC) (by simp [go_sem, hegb]) ?_ | ((try ((with_reducible refine wZ ?_); (try simp [go_sem]))); first | refine dCall.plain (hC) (by simp [go_sem, hegb]) ?_ | refine dGC.plain _ (fun _ => hC) (by simp [go_sem, hegb]) ?_))
 (repeat (first|with_reducible refine wV fun _=>?_|simp [go_sem, hegl, hecl]))
 (first | refine ACallP.plain (hC8) (by simp [go_sem, hegb]) ?_ | refine aGC.plain _ (fun _ => hC8) (by simp [go_sem, hegb]) ?_ | ((try ((with_reducible refine wZ ?_); (try simp [go_sem]))); first | refine dCall.plain (hC8) (by simp [go_sem, hegb]) ?_ | refine dGC.plain _ (fun _ => hC8) (by simp [go_sem, hegb]) ?_))
 (repeat (first|with_reducible refine wV fun _=>?_|simp [go_sem, hegl, hecl]))
 (first | refine ACallP.plain (hSame) (by simp [go_sem, hegb, hecb]) ?_ | refine aGC.plain _ (fun _ => hSame) (by simp [go_sem, hegb, hecb]) ?_ | ((try ((with_reducible refine wZ ?_); (try simp [go_sem]))); first | refine dCall.plain (hSame) (by simp [go_sem, hegb, hecb]) ?_ | refine dGC.plain _ (fun _ => hSame) (by simp [go_sem, hegb, hecb]) ?_))
 (repeat (first|with_reducible refine wV fun _=>?_|simp [go_sem, hegl, hecl]))
 (first | refine ACallP.plain (hN) (by simp [go_sem, hecb]) ?_ | refine aGC.plain _ (fun _ => hN) (by simp [go_sem, hecb]) ?_ | ((try ((with_reducible refine wZ ?_); (try simp [go_sem]))); first | refine dCall.plain (hN) (by simp [go_sem, hecb]) ?_ | refine dGC.plain _ (fun _ => hN) (by simp [go_sem, hecb]) ?_))
 (repeat (first|with_reducible refine wV fun _=>?_|simp [go_sem, hegl, hecl]))
 (first | refine ACallP.plain (hN8) (by simp [go_sem, hecb]) ?_ | refine aGC.plain _ (fun _ => hN8) (by simp [go_sem, hecb]) ?_ | ((try ((with_reducible refine wZ ?_); (try simp [go_sem]))); first | refine dCall.plain (hN8) (by simp [go_sem, hecb]) ?_ | refine dGC.plain _ (fun _ => hN8) (by simp [go_sem, hecb]) ?_))
 (repeat (first|with_reducible refine wV fun _=>?_|simp [go_sem, hegl, hecl]))
 refine ALoop.start (ALoop.ind (α := Nat) (fun i => ⟨[(1, .v (.int .i64 cell)), (5, .v (.bool true)), (6, .ref 1 0 9 0 0), (7, .ref 2 0 5 0 0), (8, .ref 3 0 2 0 0), (9, .v (.int .i64 ((i : Int) - 1)))], [(1, .rows true 0 9 [eg]), (2, .rows true 0 5 [encPos p]), (3, .rows true 0 2 [ec])], 18⟩)
  (fun d i => i + d = p.at_.length + 2) ?_ (p.at_.length + 2) 0 ?_) ?_ ?_
 ·rintro d i i1 hrec
  (repeat (first|with_reducible refine wV fun _=>?_|simp [go_sem, hegl, hecl]))
  refine aIf.mkL (fun hi => ?_) (fun hi => ?_) <;> simp at hi
  ·have hR1 := hRun ((i : Int) - 1)
   have hR2 := hRun8 ((i : Int) - 1)
   have hR3 := hSO ((i : Int) - 1)
   generalize rr ((i : Int) - 1) = ri at *
   (repeat (first|with_reducible refine wV fun _=>?_|simp [go_sem, hegl, hecl]))
   (first | refine ACallP.plain (hR1) (by simp [go_sem, hegb, hecb]) ?_ | refine aGC.plain _ (fun _ => hR1) (by simp [go_sem, hegb, hecb]) ?_ | ((try ((with_reducible refine wZ ?_); (try simp [go_sem]))); first | refine dCall.plain (hR1) (by simp [go_sem, hegb, hecb]) ?_ | refine dGC.plain _ (fun _ => hR1) (by simp [go_sem, hegb, hecb]) ?_))
   (repeat (first|with_reducible refine wV fun _=>?_|simp [go_sem, hegl, hecl]))
   (first | refine ACallP.plain (hR2) (by simp [go_sem, hegb, hecb]) ?_ | refine aGC.plain _ (fun _ => hR2) (by simp [go_sem, hegb, hecb]) ?_ | ((try ((with_reducible refine wZ ?_); (try simp [go_sem]))); first | refine dCall.plain (hR2) (by simp [go_sem, hegb, hecb]) ?_ | refine dGC.plain _ (fun _ => hR2) (by simp [go_sem, hegb, hecb]) ?_))
   (repeat (first|with_reducible refine wV fun _=>?_|simp [go_sem, hegl, hecl]))
   (first | refine ACallP.plain (hR3) (by simp [go_sem]) ?_ | refine aGC.plain _ (fun _ => hR3) (by simp [go_sem]) ?_ | ((try ((with_reducible refine wZ ?_); (try simp [go_sem]))); first | refine dCall.plain (hR3) (by simp [go_sem]) ?_ | refine dGC.plain _ (fun _ => hR3) (by simp [go_sem]) ?_))
   (repeat (first|with_reducible refine wV fun _=>?_|simp [go_sem, hegl, hecl]))
   refine ALoop.start (hrec (d - 1) (by omega) (i + 1) (by omega)) ?_ (by simp)
   simp [go_sem, Wk_eq, hegb, hecb]
  ·have hR1 := hRun cell
   have hR2 := hRun8 cell
   have hR3 := hSO cell
   generalize rr cell = ri at *
   (repeat (first|with_reducible refine wV fun _=>?_|simp [go_sem, hegl, hecl]))
   (first | refine ACallP.plain (hW) (by simp [go_sem, hegb, hecb]) ?_ | refine aGC.plain _ (fun _ => hW) (by simp [go_sem, hegb, hecb]) ?_ | ((try ((with_reducible refine wZ ?_); (try simp [go_sem]))); first | refine dCall.plain (hW) (by simp [go_sem, hegb, hecb]) ?_ | refine dGC.plain _ (fun _ => hW) (by simp [go_sem, hegb, hecb]) ?_))
   (repeat (first|with_reducible refine wV fun _=>?_|simp [go_sem, hegl, hecl, heol]))
   (first | refine ACallP.plain (hR1) (by simp [go_sem, hegb, hecb]) ?_ | refine aGC.plain _ (fun _ => hR1) (by simp [go_sem, hegb, hecb]) ?_ | ((try ((with_reducible refine wZ ?_); (try simp [go_sem]))); first | refine dCall.plain (hR1) (by simp [go_sem, hegb, hecb]) ?_ | refine dGC.plain _ (fun _ => hR1) (by simp [go_sem, hegb, hecb]) ?_))
   (repeat (first|with_reducible refine wV fun _=>?_|simp [go_sem, hegl, hecl, heol]))
   (first | refine ACallP.plain (hR2) (by simp [go_sem, hegb, hecb]) ?_ | refine aGC.plain _ (fun _ => hR2) (by simp [go_sem, hegb, hecb]) ?_ | ((try ((with_reducible refine wZ ?_); (try simp [go_sem]))); first | refine dCall.plain (hR2) (by simp [go_sem, hegb, hecb]) ?_ | refine dGC.plain _ (fun _ => hR2) (by simp [go_sem, hegb, hecb]) ?_))
   (repeat (first|with_reducible refine wV fun _=>?_|simp [go_sem, hegl, hecl, heol]))
   (first | refine ACallP.plain (hR3) (by simp [go_sem]) ?_ | refine aGC.plain _ (fun _ => hR3) (by simp [go_sem]) ?_ | ((try ((with_reducible refine wZ ?_); (try simp [go_sem]))); first | refine dCall.plain (hR3) (by simp [go_sem]) ?_ | refine dGC.plain _ (fun _ => hR3) (by simp [go_sem]) ?_))
   (repeat (first|with_reducible refine wV fun _=>?_|simp [go_sem, hegl, hecl, heol]))
   (first | refine ACallP.plain (hGm) (by simp [go_sem, hegb, hecb]) ?_ | refine aGC.plain _ (fun _ => hGm) (by simp [go_sem, hegb, hecb]) ?_ | ((try ((with_reducible refine wZ ?_); (try simp [go_sem]))); first | refine dCall.plain (hGm) (by simp [go_sem, hegb, hecb]) ?_ | refine dGC.plain _ (fun _ => hGm) (by simp [go_sem, hegb, hecb]) ?_))
   (repeat (first|with_reducible refine wV fun _=>?_|simp [go_sem, hegl, hecl, heol]))
   (first | refine ACallP.plain (hGm8) (by simp [go_sem, hegb, hecb]) ?_ | refine aGC.plain _ (fun _ => hGm8) (by simp [go_sem, hegb, hecb]) ?_ | ((try ((with_reducible refine wZ ?_); (try simp [go_sem]))); first | refine dCall.plain (hGm8) (by simp [go_sem, hegb, hecb]) ?_ | refine dGC.plain _ (fun _ => hGm8) (by simp [go_sem, hegb, hecb]) ?_))
   (repeat (first|with_reducible refine wV fun _=>?_|simp [go_sem, hegl, hecl, heol]))
   (first | refine ACallP.plain (hSP) (by simp [go_sem]) ?_ | refine aGC.plain _ (fun _ => hSP) (by simp [go_sem]) ?_ | ((try ((with_reducible refine wZ ?_); (try simp [go_sem]))); first | refine dCall.plain (hSP) (by simp [go_sem]) ?_ | refine dGC.plain _ (fun _ => hSP) (by simp [go_sem]) ?_))
   (repeat (first|with_reducible refine wV fun _=>?_|simp [go_sem, hegl, hecl, heol]))
   (first | refine ACallP.plain (hGo) (by simp [go_sem, hegb, heob]) ?_ | refine aGC.plain _ (fun _ => hGo) (by simp [go_sem, hegb, heob]) ?_ | ((try ((with_reducible refine wZ ?_); (try simp [go_sem]))); first | refine dCall.plain (hGo) (by simp [go_sem, hegb, heob]) ?_ | refine dGC.plain _ (fun _ => hGo) (by simp [go_sem, hegb, heob]) ?_))
   (repeat (first|with_reducible refine wV fun _=>?_|simp [go_sem, hegl, hecl, heol]))
   (first | refine ACallP.plain (hGo8) (by simp [go_sem, hegb, heob]) ?_ | refine aGC.plain _ (fun _ => hGo8) (by simp [go_sem, hegb, heob]) ?_ | ((try ((with_reducible refine wZ ?_); (try simp [go_sem]))); first | refine dCall.plain (hGo8) (by simp [go_sem, hegb, heob]) ?_ | refine dGC.plain _ (fun _ => hGo8) (by simp [go_sem, hegb, heob]) ?_))
   (repeat (first|with_reducible refine wV fun _=>?_|simp [go_sem, hegl, hecl, heol]))
   (first | refine ACallP.plain (hSPo) (by simp [go_sem]) ?_ | refine aGC.plain _ (fun _ => hSPo) (by simp [go_sem]) ?_ | ((try ((with_reducible refine wZ ?_); (try simp [go_sem]))); first | refine dCall.plain (hSPo) (by simp [go_sem]) ?_ | refine dGC.plain _ (fun _ => hSPo) (by simp [go_sem]) ?_))
   (repeat (first|with_reducible refine wV fun _=>?_|simp [go_sem, hegl, hecl, heol]))
 ·simp
 ·simp [go_sem, Wk_eq, hegb, hecb]
 ·simp
end Go.Av
end
section
/- What the rows list of play.conditions gives: the world invariant of our contracts. -/
open Go Go.Proofs
namespace Go.Av
theorem tok_func {P : Program} {t : TypeId} {fn : Fn} {first caps : Array Value} {l : List UInt8} (hl : l ≠ []) (h : funcToken P (t, .func fn first caps) = l) :
  ∃ f F, fn = .func f ∧ first = #[] ∧ caps = #[] ∧ P.funcs[f]? = some F ∧ P.funcNamed F.name = some f ∧ F.name.toUTF8.data.toList = l := by
 unfold funcToken at h
 cases fn with
 | func f =>
  simp only at h
  split at h
  ·rename_i hc
   simp only [Bool.and_eq_true, Array.isEmpty_iff] at hc
   split at h
   ·rename_i F hF
    split at h
    ·rename_i hn
     exact ⟨f, F, rfl, hc.1, hc.2, hF, by simpa using hn, h⟩
    ·exact absurd h.symm hl
   ·exact absurd h.symm hl
  ·exact absurd h.symm hl
 | _ => exact absurd h.symm hl
theorem trod_fn {P : Program} {w : World} {sp : Nat → Bool} {fuel : Nat} {e : TypeId} {d : TypeDesc} {v : Value} {l : List UInt8} {q : List MemPlace} (hd : P.underlying e = some d) (hf : ∃ a b c, d = .func a b c) (h : DataW.trod (funcToken P) P w 0 sp true fuel e [v] = some (.held l, q)) :
  ∃ fn first caps, v = .func fn first caps ∧ funcToken P (e, .func fn first caps) = l := by
 obtain ⟨a, b, c, rfl⟩ := hf
 cases fuel with
 | zero => simp [DataW.trod] at h
 | succ fuel =>
  simp only [DataW.trod, hd] at h
  cases v <;> simp at h
  exact ⟨_, _, _, rfl, h.1⟩
theorem trod_nilf {P : Program} {w : World} {sp : Nat → Bool} {fuel : Nat} {e : TypeId} {d : TypeDesc} {v : Value} {q : List MemPlace} (hd : P.underlying e = some d) (hf : ∃ a b c, d = .func a b c) (h : DataW.trod (funcToken P) P w 0 sp true fuel e [v] = some (.nil, q)) : v = .nilFunc := by
 obtain ⟨a, b, c, rfl⟩ := hf
 cases fuel with
 | zero => simp [DataW.trod] at h
 | succ fuel =>
  simp only [DataW.trod, hd] at h
  cases v <;> simp at h
  rfl
theorem bytes_name {a b : String} (h : a.toUTF8.data.toList = b.toUTF8.data.toList) : a = b := by
 have h1 : a.toUTF8 = b.toUTF8 := ByteArray.ext (Array.toList_inj.1 h)
 exact String.toByteArray_inj.1 h1
theorem fn_named {n : String} {k : FuncId} {l : List UInt8} {t : TypeId} {fn : Fn} {first caps : Array Value} (hk : Tryz.prog.funcNamed n = some k) (hl : n.toUTF8.data.toList = l) (hne : l ≠ []) (h : funcToken Tryz.prog (t, .func fn first caps) = l) : fn = .func k ∧ first = #[] ∧ caps = #[] := by
 obtain ⟨f, F, h1, h2, h3, h4, h5, h6⟩ := tok_func hne h
 have e : F.name = n := bytes_name (h6.trans hl.symm)
 rw [e, hk] at h5
 cases h5
 exact ⟨h1, h2, h3⟩
def condsD : DataW Unit := .agg [.nil, .iface "func" (.lit (.string [115, 107, 101, 119, 101, 114, 47, 112, 108, 97, 121, 46, 99, 111, 110, 100, 105, 116, 105, 111, 110, 115, 36, 49])), .iface "func" (.lit (.string [115, 107, 101, 119, 101, 114, 47, 112, 108, 97, 121, 46, 99, 111, 110, 100, 105, 116, 105, 111, 110, 115, 36, 50])), .iface "func" (.lit (.string [115, 107, 101, 119, 101, 114, 47, 112, 108, 97, 121, 46, 99, 111, 110, 100, 105, 116, 105, 111, 110, 115, 36, 51]))]
theorem conds_cells {W : World} (h : funcsAt Tryz.prog W "skewer/play.conditions" condsD) :
  ∃ cs T fz, W.heap[0]? = some (.cells cs T fz) ∧ cs.toList = [.nilFunc, .func (.func 334) #[] #[], .func (.func 336) #[] #[], .func (.func 337) #[] #[]] := by
 obtain ⟨g, t, cs, fuel, p, hg, ht, hcs, htr⟩ := h
 obtain rfl : g = 0 := (Option.some.inj ((show Tryz.prog.globalNamed "skewer/play.conditions" = some 0 by kernel_rfl).symm.trans hg)).symm
 obtain rfl : t = 216 := (Option.some.inj ((show (Tryz.prog.globals[0]?).map (·.type) = some 216 by kernel_rfl).symm.trans ht)).symm
 have hu : Tryz.prog.underlying 216 = some (.array 4 215) := by kernel_rfl
 have hc1 : Tryz.prog.cellsOf 215 = 1 := by kernel_rfl
 have hc4 : Tryz.prog.cellsOf 216 = 4 := by kernel_rfl
 have hheap : ∃ T fz, W.heap[0]? = some (.cells cs T fz) := by
  unfold World.var? at hcs
  rw [show Tryz.prog.globalNamed "skewer/play.conditions" = some 0 by kernel_rfl] at hcs
  simp only [Option.bind_some] at hcs
  split at hcs
  ·rename_i c T fz hb
   cases hcs
   exact ⟨T, fz, hb⟩
  ·cases hcs
 obtain ⟨T, fz, hb⟩ := hheap
 refine ⟨cs, T, fz, hb, ?_⟩
 cases fuel with
 | zero => simp [DataW.trod] at htr
 | succ fuel =>
  simp only [DataW.trod, hu, hc1, hc4, Nat.mul_one] at htr
  split at htr
  ·rename_i hl
   match hcl : cs.toList, hl with
   | [a, b, c, d], _ =>
    rw [hcl] at htr
    obtain ⟨xs, hm, hx⟩ := Option.map_eq_some_iff.1 htr
    simp only [show List.range 4 = [0, 1, 2, 3] from rfl, List.mapM_cons, List.mapM_nil, List.drop_zero, List.drop_succ_cons, List.take_succ_cons, List.take_zero, Option.bind_eq_bind, Option.bind_eq_some_iff, Option.pure_def, Option.some.injEq] at hm
    obtain ⟨⟨y0, q0⟩, h0, l1, ⟨⟨y1, q1⟩, h1, l2, ⟨⟨y2, q2⟩, h2, l3, ⟨⟨y3, q3⟩, h3, l4, rfl, rfl⟩, rfl⟩, rfl⟩, rfl⟩ := hm
    have hx1 := congrArg Prod.fst hx
    simp only [condsD, DataW.funcsOut, DataW.funcsOutAll, List.map_cons, List.map_nil, DataW.agg.injEq, List.cons.injEq, and_true] at hx1
    simp at hx1
    obtain ⟨rfl, rfl, rfl, rfl⟩ := hx1
    have hd : Tryz.prog.underlying 215 = some (.func #[42, 45, 123] #[4] false) := by kernel_rfl
    have hf : ∃ a b c, TypeDesc.func #[42, 45, 123] #[4] false = .func a b c := ⟨_, _, _, rfl⟩
    obtain rfl := trod_nilf hd hf h0
    obtain ⟨f1, i1, c1, rfl, t1⟩ := trod_fn hd hf h1
    obtain ⟨f2, i2, c2, rfl, t2⟩ := trod_fn hd hf h2
    obtain ⟨f3, i3, c3, rfl, t3⟩ := trod_fn hd hf h3
    obtain ⟨rfl, rfl, rfl⟩ := fn_named (n := "skewer/play.conditions$1") (k := 334) (by kernel_rfl) (by decide +kernel) (by simp) t1
    obtain ⟨rfl, rfl, rfl⟩ := fn_named (n := "skewer/play.conditions$2") (k := 336) (by kernel_rfl) (by decide +kernel) (by simp) t2
    obtain ⟨rfl, rfl, rfl⟩ := fn_named (n := "skewer/play.conditions$3") (k := 337) (by kernel_rfl) (by decide +kernel) (by simp) t3
    rfl
  ·cases htr
theorem glb_of_conds {W : World} (h : funcsAt Tryz.prog W "skewer/play.conditions" condsD) : GlbOk W (fun _ => False) := by
 obtain ⟨cs, T, fz, hb, hcs⟩ := conds_cells h
 have hsz : cs.size = 4 := by rw [← Array.length_toList, hcs]; rfl
 intro q hq
 have e : q = (0, [AV.v .nilFunc, .fn (.func 334) [] [], .fn (.func 336) [] [], .fn (.func 337) [] []]) := by simpa [glbs] using hq
 subst e
 refine Rel.fp (C := cs) (T := T) (fz := fz) rfl (fun h => h) hb (by simp [hsz]) ?_ ?_
 ·intro u hu
  simp only [hcs, List.drop_zero] at hu
  simp at hu
  rcases hu with rfl | rfl | rfl | rfl <;> rfl
 ·simp only [hcs, List.drop_zero]
  exact .cons (.v _) (.cons (.fn .nil .nil) (.cons (.fn .nil .nil) (.cons (.fn .nil .nil) .nil)))
end Go.Av
end
section
/- Rows that are tied cards: the world that the text lays. -/
open Go Go.Proofs Go.Av Go.ChangeShapes Go.RowKit
namespace Go.Proofs.YtblaonmapofniaaGreatDoor
theorem door_own : ownKnob Tryz.prog.godebug = none := by kernel_rfl
theorem door_lo : laidOutB Tryz.prog = true := by kernel_rfl
abbrev doorList : List (String × DataW Unit) := [("math/bits.deBruijn32tab", Rows.laid_math_bits_deBruijn32tab), ("math/bits.deBruijn64tab", Rows.laid_math_bits_deBruijn64tab), ("internal/strconv.uint64pow10", Rows.laid_internal_strconv_uint64pow10), ("skewer/play.conditions", Rows.laid_skewer_play_conditions)]
theorem door_met (os : Os) (args : Array Value) : laidMetH Tryz.prog doorList ((World.doorLaid Tryz.prog 29 os).forCall (fun _ _ => 0) ⟨#[], args, []⟩).memory :=
 laidMetH_of_parts3 (fuel := 8) (laidMet_of_run' 8 (by kernel_rfl) (by kernel_rfl)) (by kernel_rfl) (by kernel_rfl)
theorem door_vars (os : Os) (args : Array Value) : ((World.doorLaid Tryz.prog 29 os).forCall (fun _ _ => 0) ⟨#[], args, []⟩).variablesB Tryz.prog = true := by kernel_rfl
theorem door_heap (os : Os) (args : Array Value) : (((World.doorLaid Tryz.prog 29 os).forCall (fun _ _ => 0) ⟨#[], args, []⟩).heap.toList.drop Tryz.prog.globals.size).take ((begin Tryz.prog (fun _ _ => 0) default).world.heap.size - Tryz.prog.globals.size) =
  (begin Tryz.prog (fun _ _ => 0) default).world.heap.toList.drop Tryz.prog.globals.size := by kernel_rfl
end Go.Proofs.YtblaonmapofniaaGreatDoor
end
section
/- Our library, part 14: arguments, as the statements read them, are values of the abstract domain. -/
namespace Go.Av
open Go

abbrev NoM : Nat → Prop := fun _ => False

structure Bulk (B : Nat) (bk : ∀ {H : Type}, DataW H → Nat) : Prop where
 len : ∀ {H : Type} (l r : List (DataW H)), bk (.slice l r) ≤ B → l.length ≤ maxLen → l.length ≤ B
 elem : ∀ {H : Type} (l r : List (DataW H)) d, d ∈ l → bk (.slice l r) ≤ B → bk d ≤ B
 part : ∀ {H : Type} (l : List (DataW H)) d, d ∈ l → bk (.agg l) ≤ B → bk d ≤ B
 str : ∀ {H : Type} (l : List UInt8), bk (DataW.lit (H := H) (.string l)) ≤ B → l.length ≤ maxLen → l.length ≤ B

theorem Bulk.any : Bulk maxLen (fun _ => 0) := ⟨fun _ _ _ h => h, fun _ _ _ _ _ => Nat.zero_le _, fun _ _ _ _ => Nat.zero_le _, fun _ _ h => h⟩

def Opn (P : Program) (B : Nat) (bk : ∀ {H : Type}, DataW H → Nat) {α : Type} (t : TypeId) (en : α → List AV) (Q : α → Prop) : Prop :=
 ∀ {H : Type} (enc : TypeId × Value → H) (w : World) (fuel : Nat) (cs : List Value) (d : DataW H) (ps : List MemPlace),
  DataW.trod enc P w 0 (fun _ => true) true fuel t cs = some (d, ps) → bk d ≤ B → ∃ x, RelL noP w NoM (en x) cs ∧ (∀ c ∈ cs, cellV c = true) ∧ cs.length = P.cellsOf t ∧ Q x

section
variable {P : Program} {B : Nat} {bk : ∀ {H : Type}, DataW H → Nat}
theorem Opn.int {t : TypeId} {k : IntKind} (ht : P.underlying t = some (.int k)) (hc : P.cellsOf t = 1) : Opn P B bk t (fun n : Int => [.v (.int k n)]) (fun n => (Lit.int k n).wf = true) := by
 intro H enc w fuel cs d ps h _
 obtain ⟨n, rfl, _, hw⟩ := DataW.trod_int ht h
 exact ⟨n, .cons (.v _) .nil, by simp [cellV, Value.oneCell'], by simp [hc], hw⟩
theorem Opn.bool {t : TypeId} (ht : P.underlying t = some .bool) (hc : P.cellsOf t = 1) : Opn P B bk t (fun b : Bool => [.v (.bool b)]) (fun _ => True) := by
 intro H enc w fuel cs d ps h _
 obtain ⟨n, rfl, _⟩ := DataW.trod_bool ht h
 exact ⟨n, .cons (.v _) .nil, by simp [cellV, Value.oneCell'], by simp [hc], trivial⟩
theorem Opn.string {t : TypeId} (hB : Bulk B bk) (ht : P.underlying t = some .string) (hc : P.cellsOf t = 1) : Opn P B bk t (fun s : ByteArray => [.v (.string s)]) (fun s => s.size ≤ B) := by
 intro H enc w fuel cs d ps h hb
 obtain ⟨n, rfl, hx, hm⟩ := DataW.trod_string ht h
 simp only [Prod.mk.injEq] at hx
 obtain ⟨rfl, _⟩ := hx
 refine ⟨n, .cons (.v _) .nil, by simp [cellV, Value.oneCell'], by simp [hc], ?_⟩
 have := hB.str _ hb (by simpa using hm)
 simpa using this
theorem Opn.imp {α : Type} {t : TypeId} {en : α → List AV} {Q Q' : α → Prop} (h : Opn P B bk t en Q) (hq : ∀ x, Q x → Q' x) : Opn P B bk t en Q' := by
 intro H enc w fuel cs d ps h1 h2
 obtain ⟨x, a, b, c, e⟩ := h enc w fuel cs d ps h1 h2
 exact ⟨x, a, b, c, hq x e⟩
theorem Opn.map {α β : Type} {t : TypeId} {en : α → List AV} {en' : β → List AV} {Q : α → Prop} {Q' : β → Prop} (h : Opn P B bk t en Q) (f : α → β) (hq : ∀ x, Q x → Q' (f x)) (he : ∀ x, Q x → en' (f x) = en x) : Opn P B bk t en' Q' := by
 intro H enc w fuel cs d ps h1 h2
 obtain ⟨x, a, b, c, e⟩ := h enc w fuel cs d ps h1 h2
 exact ⟨f x, by rw [he x e]; exact a, b, c, hq x e⟩
theorem cells?_get {w : World} {a : Addr} {n : Nat} {cs : List Value} (h : w.cells? 0 a n = some cs) : cs.length = n ∧ ∀ i, i < n → w.cell? (a.add i) = cs[i]? := by
 unfold World.cells? at h
 rw [if_pos (Nat.zero_le _)] at h
 exact ⟨by simpa using mapM_some_length h, fun i hi => mapM_some_get h i i (by simp [hi])⟩
theorem cell?_block {w : World} {a : Addr} {v : Value} (h : w.cell? a = some v) : ∃ C T fz, w.heap[a.block]? = some (.cells C T fz) ∧ a.spot = none ∧ C[a.off]? = some v := by
 unfold World.cell? at h
 split at h
 ·rename_i C T fz hb
  split at h
  ·cases h
  ·rename_i hs
   refine ⟨C, T, fz, hb, ?_, h⟩
   cases hsp : a.spot with
   | none => rfl
   | some x => simp [hsp] at hs
 ·cases h
theorem add_block (a : Addr) (n : Nat) : (a.add n).block = a.block := by unfold Addr.add; split <;> rfl
theorem add_off (a : Addr) (n : Nat) : (a.add n).off = a.off + n := by
 unfold Addr.add
 split
 ·rename_i h; subst h; rfl
 ·rfl
theorem relL_flatten {φ : Place} {w : World} {M : Nat → Prop} {rows : List (List AV)} {L : List Value} {sz : Nat} (hl : L.length = rows.length * sz)
  (h : ∀ i (hi : i < rows.length), RelL φ w M rows[i] ((L.drop (i * sz)).take sz)) : RelL φ w M rows.flatten L := by
 induction rows generalizing L with
 | nil => simp at hl; subst hl; exact .nil
 | cons r rows ih =>
  have h0 := h 0 (by simp)
  simp only [List.getElem_cons_zero, Nat.zero_mul, List.drop_zero] at h0
  rw [List.flatten_cons, ← List.take_append_drop sz L]
  refine RelL.append h0 (ih (by simp at hl ⊢; rw [hl, Nat.add_mul]; omega) fun i hi => ?_)
  have := h (i + 1) (by simpa using hi)
  simp only [List.getElem_cons_succ] at this
  rw [List.drop_drop, show sz + i * sz = (i + 1) * sz by rw [Nat.add_mul]; omega]
  exact this
theorem exists_list {α : Type} (n : Nat) (p : Nat → α → Prop) (h : ∀ i, i < n → ∃ x, p i x) : ∃ l : List α, l.length = n ∧ ∀ i (hi : i < l.length), p i l[i] := by
 induction n with
 | zero => exact ⟨[], rfl, fun i hi => by simp at hi⟩
 | succ n ih =>
  obtain ⟨l, hl, hp⟩ := ih fun i hi => h i (by omega)
  obtain ⟨x, hx⟩ := h n (by omega)
  refine ⟨l ++ [x], by simp [hl], fun i hi => ?_⟩
  rcases Nat.lt_or_ge i l.length with h1 | h1
  ·rw [List.getElem_append_left h1]; exact hp i h1
  ·have : i = n := by simp at hi; omega
   subst this
   simp [List.getElem_append_right, hl, hx]
theorem Opn.slice {α : Type} {t e : TypeId} {en : α → List AV} {Q : α → Prop} {sz : Nat} (hB : Bulk B bk) (ht : P.underlying t = some (.slice e)) (hc : P.cellsOf t = 1) (hz : P.cellsOf e = sz) (hp : 0 < sz)
  (he : Opn P B bk e en Q) : Opn P B bk t (fun l : List α => [.lst sz (l.map en)]) (fun l => l.length ≤ B ∧ ∀ x ∈ l, Q x) := by
 intro H enc w fuel cs d ps h hb
 rcases DataW.trod_slice ht h with ⟨rfl, _⟩ | ⟨a, len, cap, elems, rest, n, rfl, rfl, hx, _, hlen, hmax, hel, hget, _, _⟩
 ·exact ⟨[], .cons (.nil _ _ _) .nil, by simp [cellV, Value.oneCell'], by simp [hc], by simp, by simp⟩
 ·simp only [Prod.mk.injEq] at hx
  obtain ⟨rfl, _⟩ := hx
  rw [hz] at hget
  have key : ∀ i (hi : i < len), ∃ x ci, w.cells? 0 (a.add (i * sz)) sz = some ci ∧ RelL noP w NoM (en x) ci ∧ (∀ c ∈ ci, cellV c = true) ∧ Q x := by
   intro i hi
   have h1 := hget i hi
   rw [List.getElem?_eq_getElem (by omega), Option.bind_eq_some_iff] at h1
   obtain ⟨ci, h2, h3⟩ := h1
   obtain ⟨x, a1, a2, _, a4⟩ := he enc w n ci elems[i].1 elems[i].2 h3 (hB.elem _ _ _ (List.mem_map.2 ⟨elems[i], List.getElem_mem _, rfl⟩) hb)
   exact ⟨x, ci, h2, a1, a2, a4⟩
  have hlb : len ≤ B := by have := hB.len _ _ hb (by simp; omega); simp at this; omega
  obtain ⟨l, hl, hx⟩ := exists_list len _ key
  refine ⟨l, ?_, by simp [cellV, Value.oneCell'], by simp [hc], by omega, fun x hxm => ?_⟩
  ·rcases Nat.eq_zero_or_pos len with h0 | h0
   ·have : l = [] := List.eq_nil_of_length_eq_zero (by omega)
    subst this
    rw [h0]
    exact .cons (.nil _ _ _) .nil
   ·have cellI : ∀ i, i < len → ∀ j, j < sz → ∃ v, w.cell? (a.add (i * sz + j)) = some v ∧ cellV v = true := by
     intro i hi j hj
     obtain ⟨x, ci, h2, a1, a2, a3⟩ := key i hi
     obtain ⟨hcl, hcg⟩ := cells?_get h2
     refine ⟨ci[j], ?_, a2 _ (List.getElem_mem (by omega))⟩
     have := hcg j hj
     rw [List.getElem?_eq_getElem (by omega)] at this
     rw [← this]
     simp only [World.cell?, add_block, add_off, Nat.add_assoc]
     by_cases hj0 : j = 0
     ·subst hj0; simp [Addr.add]
     ·simp [Addr.add, hj0]
    obtain ⟨v0, hv0, _⟩ := cellI 0 h0 0 hp
    obtain ⟨C, T, fz, hC, hs, _⟩ := cell?_block hv0
    simp only [Nat.zero_mul, Nat.zero_add, Addr.add, if_true] at hC hs
    have cellC : ∀ k, k < len * sz → ∃ v, C[a.off + k]? = some v ∧ w.cell? (a.add k) = some v ∧ cellV v = true := by
     intro k hk
     have hi : k / sz < len := Nat.div_lt_of_lt_mul (by rw [Nat.mul_comm]; exact hk)
     have hj : k % sz < sz := Nat.mod_lt _ hp
     obtain ⟨v, h1, h2⟩ := cellI _ hi _ hj
     rw [show k / sz * sz + k % sz = k by rw [Nat.mul_comm]; exact Nat.div_add_mod k sz] at h1
     obtain ⟨C', T', fz', hC', hs', hv'⟩ := cell?_block h1
     rw [add_block, hC] at hC'
     simp only [Option.some.injEq, Obj.cells.injEq] at hC'
     obtain ⟨rfl, _, _⟩ := hC'
     rw [add_off] at hv'
     exact ⟨v, hv', h1, h2⟩
    have hsz : a.off + len * sz ≤ C.size := by
     have hpos : 0 < len * sz := Nat.mul_pos h0 hp
     obtain ⟨v, h1, _⟩ := cellC (len * sz - 1) (by omega)
     have := (Array.getElem?_eq_some_iff.1 h1).1
     omega
    have hL : ((C.toList.drop a.off).take (len * sz)).length = len * sz := by simp; omega
    have hget : ∀ k, k < len * sz → ((C.toList.drop a.off).take (len * sz))[k]? = C[a.off + k]? := by
     intro k hk
     rw [List.getElem?_take, if_pos hk, List.getElem?_drop]; simp
    have hrl : ∀ i (hi : i < l.length), ∃ ci, w.cells? 0 (a.add (i * sz)) sz = some ci ∧ RelL noP w NoM (en l[i]) ci := fun i hi => by
     obtain ⟨ci, h2, a1, _⟩ := hx i hi
     exact ⟨ci, h2, a1⟩
    refine .cons (.lst (C := C) (T := T) (fz := fz) hs (fun h => h) hC (fun r hr => ?_) (by simp; omega) (by rw [List.length_map, hl]; exact hsz) (by omega) (fun u hu => ?_) ?_) .nil
    ·obtain ⟨x, hxm, rfl⟩ := List.mem_map.1 hr
     obtain ⟨i, hi, rfl⟩ := List.getElem_of_mem hxm
     obtain ⟨ci, h2, a1⟩ := hrl i hi
     rw [a1.length, (cells?_get h2).1]
    ·rw [List.length_map, hl] at hu
     obtain ⟨k, hk, rfl⟩ := List.getElem_of_mem hu
     rw [hL] at hk
     obtain ⟨v, h1, _, h3⟩ := cellC k hk
     have := hget k hk
     rw [List.getElem?_eq_getElem (by omega), h1] at this
     simp only [Option.some.injEq] at this
     rw [this]; exact h3
    ·rw [List.length_map, hl]
     refine relL_flatten (sz := sz) (by rw [hL, List.length_map, hl]) fun i hi => ?_
     rw [List.length_map] at hi
     obtain ⟨ci, h2, a1⟩ := hrl i hi
     rw [List.getElem_map]
     obtain ⟨hcl, hcg⟩ := cells?_get h2
     have hle : (i + 1) * sz ≤ len * sz := Nat.mul_le_mul_right _ (by omega)
     rw [Nat.add_mul] at hle
     have : ci = (((C.toList.drop a.off).take (len * sz)).drop (i * sz)).take sz := by
      refine List.ext_getElem? fun j => ?_
      rcases Nat.lt_or_ge j sz with hj | hj
      ·rw [← hcg j hj, List.getElem?_take, if_pos hj, List.getElem?_drop, hget _ (by omega)]
       obtain ⟨v, h1, h3, _⟩ := cellC (i * sz + j) (by omega)
       rw [h1, ← h3]
       simp only [World.cell?, add_block, add_off, Nat.add_assoc]
       by_cases hj0 : j = 0
       ·subst hj0; simp [Addr.add]
       ·simp [Addr.add, hj0]
      ·rw [List.getElem?_eq_none (by omega), List.getElem?_eq_none (by simp; omega)]
     rw [← this]; exact a1
  ·obtain ⟨i, hi, rfl⟩ := List.getElem_of_mem hxm
   obtain ⟨ci, _, _, _, a4⟩ := hx i hi
   exact a4
theorem Opn.array {α : Type} {t e : TypeId} {en : α → List AV} {Q : α → Prop} {n sz : Nat} (hB : Bulk B bk) (ht : P.underlying t = some (.array n e)) (hz : P.cellsOf e = sz) (hc : P.cellsOf t = n * sz)
  (he : Opn P B bk e en Q) : Opn P B bk t (fun l : List α => (l.map en).flatten) (fun l => l.length = n ∧ ∀ x ∈ l, Q x) := by
 intro H enc w fuel cs d ps h hb
 obtain ⟨xs, m, _, hx, hl, hxl, hget⟩ := DataW.trod_array ht h
 simp only [Prod.mk.injEq] at hx
 obtain ⟨rfl, _⟩ := hx
 rw [hz] at hget
 have key : ∀ i, i < n → ∃ x, RelL noP w NoM (en x) ((cs.drop (i * sz)).take sz) ∧ (∀ c ∈ (cs.drop (i * sz)).take sz, cellV c = true) ∧ Q x := by
  intro i hi
  have h1 := hget i hi
  rw [List.getElem?_eq_getElem (by omega)] at h1
  obtain ⟨x, a1, a2, _, a4⟩ := he enc w m _ xs[i].1 xs[i].2 h1 (hB.part _ _ (List.mem_map.2 ⟨xs[i], List.getElem_mem _, rfl⟩) hb)
  exact ⟨x, a1, a2, a4⟩
 obtain ⟨l, hll, hx⟩ := exists_list n _ key
 rw [hc] at hl
 refine ⟨l, relL_flatten (sz := sz) (by rw [List.length_map, hll]; exact hl) (fun i hi => ?_), fun c hcm => ?_, by rw [hc]; exact hl, hll, fun x hxm => ?_⟩
 ·rw [List.length_map] at hi
  rw [List.getElem_map]; exact (hx i hi).1
 ·obtain ⟨k, hk, rfl⟩ := List.getElem_of_mem hcm
  have hp : 0 < sz := Nat.pos_of_ne_zero fun h0 => by subst h0; simp at hl; subst hl; simp at hk
  have hi : k / sz < n := Nat.div_lt_of_lt_mul (by rw [Nat.mul_comm, ← hl]; exact hk)
  have hj : k % sz < sz := Nat.mod_lt _ hp
  have e : k / sz * sz + k % sz = k := by rw [Nat.mul_comm]; exact Nat.div_add_mod k sz
  refine (hx (k / sz) (by omega)).2.1 _ (List.mem_iff_getElem?.2 ⟨k % sz, ?_⟩)
  rw [List.getElem?_take, if_pos hj, List.getElem?_drop, e]
  exact List.getElem?_eq_getElem hk
 ·obtain ⟨i, hi, rfl⟩ := List.getElem_of_mem hxm
  exact (hx i hi).2.2
def OpnF (P : Program) (B : Nat) (bk : ∀ {H : Type}, DataW H → Nat) {α : Type} (ts : List TypeId) (en : α → List AV) (Q : α → Prop) : Prop :=
 ∀ {H : Type} (enc : TypeId × Value → H) (w : World) (fuel : Nat) (cs : List Value), cs.length = (ts.map P.cellsOf).sum →
  (∀ i (hi : i < ts.length), ∃ d ps, DataW.trod enc P w 0 (fun _ => true) true fuel ts[i] ((cs.drop ((ts.take i).map P.cellsOf).sum).take (P.cellsOf ts[i])) = some (d, ps) ∧ bk d ≤ B) →
  ∃ x, RelL noP w NoM (en x) cs ∧ (∀ c ∈ cs, cellV c = true) ∧ Q x
theorem OpnF.nil : OpnF P B bk [] (fun _ : Unit => []) (fun _ => True) := by
 intro H enc w fuel cs hl _
 have : cs = [] := List.eq_nil_of_length_eq_zero (by simpa using hl)
 subst this
 exact ⟨(), .nil, by simp, trivial⟩
theorem OpnF.cons {α β : Type} {t : TypeId} {ts : List TypeId} {en : α → List AV} {Q : α → Prop} {en' : β → List AV} {Q' : β → Prop} (h : Opn P B bk t en Q) (h' : OpnF P B bk ts en' Q') :
  OpnF P B bk (t :: ts) (fun x : α × β => en x.1 ++ en' x.2) (fun x => Q x.1 ∧ Q' x.2) := by
 intro H enc w fuel cs hl hd
 obtain ⟨d, ps, h1, h2⟩ := hd 0 (by simp)
 simp only [List.getElem_cons_zero, List.take_zero, List.map_nil, List.sum_nil, List.drop_zero] at h1
 obtain ⟨x, a1, a2, a3, a4⟩ := h enc w fuel _ d ps h1 h2
 obtain ⟨y, b1, b2, b3⟩ := h' enc w fuel (cs.drop (P.cellsOf t)) (by simp at hl ⊢; omega) (fun i hi => by
  obtain ⟨d, ps, k1, k2⟩ := hd (i + 1) (by simpa using hi)
  simp only [List.getElem_cons_succ, List.take_succ_cons, List.map_cons, List.sum_cons] at k1
  exact ⟨d, ps, by rw [List.drop_drop]; exact k1, k2⟩)
 refine ⟨(x, y), ?_, fun c hc => ?_, a4, b3⟩
 ·rw [← List.take_append_drop (P.cellsOf t) cs]
  exact RelL.append a1 b1
 ·rw [← List.take_append_drop (P.cellsOf t) cs] at hc
  rcases List.mem_append.1 hc with hc | hc
  ·exact a2 c hc
  ·exact b2 c hc
def fieldsOk (P : Program) (t : TypeId) (ts : List TypeId) : Bool := match P.underlying t with
 | some (.struct fs) => decide (fs.toList.map (·.type) = ts) && decide (fs.toList.map (·.offset) = (List.range ts.length).map fun i => ((ts.take i).map P.cellsOf).sum) && decide (P.cellsOf t = (ts.map P.cellsOf).sum)
 | _ => false
theorem Opn.struct {α : Type} {t : TypeId} {ts : List TypeId} {en : α → List AV} {Q : α → Prop} (hB : Bulk B bk) (ht : fieldsOk P t ts = true) (h : OpnF P B bk ts en Q) : Opn P B bk t en Q := by
 unfold fieldsOk at ht
 split at ht
 ·rename_i fs hfs
  simp only [Bool.and_eq_true, decide_eq_true_eq] at ht
  obtain ⟨⟨h1, h2⟩, h3⟩ := ht
  intro H enc w fuel cs d ps hd hb
  obtain ⟨xs, n, _, hx, hl, hxl, hget⟩ := DataW.trod_struct hfs hd
  simp only [Prod.mk.injEq] at hx
  obtain ⟨rfl, _⟩ := hx
  have hlen : fs.size = ts.length := by rw [← h1]; simp
  obtain ⟨x, a1, a2, a3⟩ := h enc w n cs (by rw [hl, h3]) (fun i hi => by
   have hi' : i < fs.size := by omega
   have e1 : fs[i].type = ts[i] := by
    have := congrArg (fun l => l[i]?) h1
    simp [hi', List.getElem?_eq_getElem hi] at this
    exact this
   have e2 : fs[i].offset = ((ts.take i).map P.cellsOf).sum := by
    have := congrArg (fun l => l[i]?) h2
    simp [hi', hi] at this
    rw [this, List.map_take]
   have := hget i fs[i] (Array.getElem?_eq_getElem hi')
   rw [e1, e2, List.getElem?_eq_getElem (by omega)] at this
   exact ⟨xs[i].1, xs[i].2, this, hB.part _ _ (List.mem_map.2 ⟨xs[i], List.getElem_mem _, rfl⟩) hb⟩)
  exact ⟨x, a1, a2, hl, a3⟩
 ·cases ht
def outer (P : Program) (t : TypeId) : Bool := match P.underlying t with
 | some (.struct _) | some (.array _ _) => true
 | _ => false
def wrapAV (agg : Bool) (cs : List AV) : AV := if agg then .agg cs else cel cs 0
theorem Opn.arg {α : Type} {t : TypeId} {en : α → List AV} {Q : α → Prop} (h : Opn P B bk t en Q) {ag : Bool} (ho : outer P t = ag) (h1 : ag = false → P.cellsOf t = 1) {H : Type} {enc : TypeId × Value → H} {W : World} {base : Nat} {r : Reach} {v : Value} {d : DataW H} {ps : List MemPlace}
  (hval : Value.okWide P W r base t v) (hd : DataW.Trod enc P W 0 (fun _ => true) true t v d ps) (hb : bk d ≤ B) : ∃ x, Rel noP W NoM (wrapAV ag (en x)) v ∧ Q x := by
 obtain ⟨fuel, hd⟩ := hd
 obtain ⟨x, a1, a2, a3, a4⟩ := h enc W fuel _ d ps hd hb
 refine ⟨x, ?_, a4⟩
 unfold outer at ho
 unfold Value.okWide at hval
 split at ho
 ·rename_i hu
  subst ho
  rw [hu] at hval
  obtain ⟨cs, rfl, _, _⟩ := hval
  exact .agg (vs := cs.toList) a2 a1
 ·rename_i hu
  subst ho
  rw [hu] at hval
  obtain ⟨cs, rfl, _, _⟩ := hval
  exact .agg (vs := cs.toList) a2 a1
 ·subst ho
  rw [h1 rfl] at a3
  have hv : v.cells.toList = [v] := by
   unfold Value.cells at a3 a2 ⊢
   split
   ·rename_i cs
    exfalso
    split at hval
    ·simp_all
    ·simp_all
    ·unfold Cell.okWide at hval
     split at hval <;> simp_all [Cell.ok]
   ·rfl
  rw [hv] at a1
  cases he : en x with
  | nil => rw [he] at a1; cases a1
  | cons y ys =>
   rw [he] at a1
   cases a1 with
   | cons a1 _ => exact a1

theorem post_of_fr {f : Func} {s : ChangeSpec} {apart fresh handsOn again : Bool} {H : Type} {enc : TypeId × Value → H} {W W' : World} {args : Array Value} {v : Value} {ds gs : List (DataW H)} {before : List MemPlace}
  (hlo : laidOutB P = true) (hts : f.params.toList.all (fun t => P.readableRec t && decide (t < P.types.size)) = true) (hv : s.vars = [])
  (hW : DataW.Whole enc P f.params.toList s.vars apart W args.toList ds gs before)
  (hres : ∀ (b : Nat) (sp : Nat → Bool) (hd : Bool), DataW.TrodAll enc P W' b sp hd f.resultTypes.toList (v.resultList f.resultTypes.size) (s.fn H (ds ++ gs)).results [])
  (hargs : (s.fn H (ds ++ gs)).args = ds) (hvars : (s.fn H (ds ++ gs)).vars = [])
  (hfr : Fr W (fun _ => False) W')
  (hok : ∀ (j : Nat) (t : TypeId) (r : Value), f.resultTypes[j]? = some t → (v.resultList f.resultTypes.size)[j]? = some r → Value.okWide P W' .any 0 t r) :
  s.post enc P f apart fresh handsOn again W args v W' := by
 have hlt : ∀ p ∈ before, p.block < W.heap.size := fun p hp => hW.lt p hp
 have hsame : ∀ p : MemPlace, p.block < W.heap.size → W.sameAt W' p := fun p hp => (Go.RowKit.Below.same ⟨hfr.os, hfr.tape, hfr.output, hfr.size, fun k hk => hfr.block k hk (fun h => h)⟩ hp)
 obtain ⟨p, q, hA, hV, hpq, hz, hn⟩ := id hW
 rw [hv] at hV
 have hq : q = [] ∧ gs = [] := by
  cases gs with
  | nil => exact ⟨hV, rfl⟩
  | cons g gs => exact hV.elim
 obtain ⟨rfl, rfl⟩ := hq
 rw [List.append_nil] at hpq
 subst hpq
 have key : ∀ (sp : Nat → Bool) (ts : List TypeId) (vs : List Value) (ds : List (DataW H)) (ps : List MemPlace), ts.all (fun t => P.readableRec t && decide (t < P.types.size)) = true → (∀ x ∈ ps, x.block < W.heap.size) → (∀ x ∈ ps, sp x.block = true) →
   DataW.TrodAll enc P W 0 (fun _ => true) true ts vs ds ps → DataW.TrodAll enc P W' 0 sp true ts vs ds ps := by
  intro sp ts
  induction ts with
  | nil =>
   intro vs ds ps _ _ _ h
   cases vs <;> cases ds <;> simp [DataW.TrodAll] at h ⊢
   exact h
  | cons t ts ih =>
   intro vs ds ps ht hlt hsp h
   obtain ⟨v, vs', d, ds', a, b, rfl, rfl, rfl, h1, h2⟩ := ChangeShapes.trodAll_cons h
   simp only [List.all_cons, Bool.and_eq_true, decide_eq_true_eq] at ht
   obtain ⟨⟨hr, hs⟩, hts⟩ := ht
   exact ⟨a, b, WideElems.Trod_stays hlo hr hs h1 (fun x hx => hsame x (hlt x (List.mem_append_left _ hx))) (fun x hx => hsp x (List.mem_append_left _ hx)),
    ih _ _ _ (by simpa using hts) (fun x hx => hlt x (List.mem_append_right _ hx)) (fun x hx => hsp x (List.mem_append_right _ hx)) h2, rfl⟩
 have key' : ∀ sp : Nat → Bool, (∀ x ∈ before, sp x.block = true) → DataW.TrodAll enc P W' 0 sp true f.params.toList args.toList (s.fn H (ds ++ [])).args before := fun sp hsp => by
  rw [hargs]; exact key sp _ _ _ _ hts hlt hsp hA
 have kv : ∀ sp : Nat → Bool, DataW.TrodVars enc P W' sp s.vars (s.fn H (ds ++ [])).vars [] := fun sp => by rw [hv, hvars]; rfl
 refine ⟨ds, [], before, [], before, [], hW, hres _ _ _, key' _ (fun x hx => by simpa using hlt x hx), kv _, ?_, fun _ => ⟨hok, _, _, ([] ++ before) ++ [], ⟨[] ++ before, [], ChangeShapes.trodAll_append (key' _ fun _ _ => rfl) (hres _ _ _), kv _, rfl, ?_, ?_⟩, ?_⟩⟩
 ·refine ⟨hfr.os, hfr.output, fun i hi => ?_⟩
  rw [hfr.block i hi (fun h => h)]
  cases h : W.heap[i]? with
  | none => simp
  | some o => cases o <;> simp
 ·intro b off hp
  have hp' : MemPlace.cell b off ∈ before := by simpa using hp
  have hb := hlt _ hp'
  have := hz b off hp'
  unfold World.frozen? at this ⊢
  simp only [MemPlace.block] at hb
  rw [show W'.heap[b]? = W.heap[b]? from hfr.block b hb (fun h => h)]
  exact this
 ·intro ha
  simpa using hn ha
 ·intro x hx _
  simpa using hx
theorem contract_of_pure {f : FuncId} {fn : Func} {tb : TypeId} {s : ChangeSpec} {apart fresh handsOn again : Bool} {H : Type} {enc : TypeId × Value → H} {W : World} {args : Array Value} {ds gs : List (DataW H)} {before : List MemPlace}
  (hlo : laidOutB P = true) (hts : fn.params.toList.all (fun t => P.readableRec t && decide (t < P.types.size)) = true) (hv : s.vars = []) (hrt : fn.resultTypes = #[tb]) (hb : P.underlying tb = some .bool)
  (hW : DataW.Whole enc P fn.params.toList s.vars apart W args.toList ds gs before)
  (hfn : gs = [] → s.fn H (ds ++ gs) = { results := [.lit (.bool true)], args := ds }) {avs : List AV} (hp : Pure P f avs (.v (.bool true))) (hr : RelL noP W NoM avs args.toList) (hg : GlbOk W NoM := by intro p hp; simp [glbs] at hp) :
  Calls P f args W fun e W' => ∃ v, e = .returned v ∧ s.post enc P fn apart fresh handsOn again W args v W' := by
 have hgs : gs = [] := by
  obtain ⟨p, q, hA, hV, _⟩ := hW
  rw [hv] at hV
  cases gs with
  | nil => rfl
  | cons g gs => exact hV.elim
 have := hp.2 NoM W args.toList (fun k hk => hk.elim) hg hr
 rw [show (⟨args.toList⟩ : Array Value) = args from rfl] at this
 refine this.mono ?_
 rintro e W' ⟨v, rfl, hv', hfr⟩
 cases hv'
 refine ⟨_, rfl, post_of_fr hlo hts hv hW (fun b sp hd => ?_) (by rw [hfn hgs]) (by rw [hfn hgs]) hfr ?_⟩
 ·rw [hfn hgs, hrt]
  exact trodAll_cons_mk (RowKit.shut_bool hb _) ChangeShapes.trodAll_mk0
 ·exact RowKit.ok_one hrt rfl (RowKit.okWide_bool_mk hb true)
end
end Go.Av
end
section
/- What the bound of the second form gives, for our library. -/
open Go Go.Proofs
namespace Go.Av
open Go.Proofs.YtblaonmapofniaaGreatDoor
theorem upto_one {H : Type} (d : DataW H) : 1 ≤ Rows.uptoBulk d := by
 cases d with
 | lit l => cases l <;> simp [Rows.uptoBulk]
 | _ => simp [Rows.uptoBulk]
theorem upto_part {H : Type} {d : DataW H} {l : List (DataW H)} (h : d ∈ l) : Rows.uptoBulk d ≤ Rows.uptoBulkAll l := by
 induction l with
 | nil => cases h
 | cons x r ih =>
  simp only [Rows.uptoBulkAll]
  rcases List.mem_cons.1 h with e | e
  ·subst e; omega
  ·have := ih e; omega
theorem upto_length {H : Type} (l : List (DataW H)) : l.length ≤ Rows.uptoBulkAll l := by
 induction l with
 | nil => simp [Rows.uptoBulkAll]
 | cons x r ih => have := upto_one x; simp only [Rows.uptoBulkAll, List.length_cons]; omega
theorem Bulk.upto {B : Nat} : Bulk B (fun d => Rows.uptoBulk d) where
 len := fun l r h _ => by
  have := upto_length l
  simp only [Rows.uptoBulk] at h; omega
 elem := fun l r d hd h => by
  have := upto_part hd
  simp only [Rows.uptoBulk] at h; omega
 part := fun l d hd h => by
  have := upto_part hd
  simp only [Rows.uptoBulk] at h; omega
 str := fun l h _ => by
  simp only [Rows.uptoBulk] at h; omega
theorem upto_bound {H : Type} {l : List (DataW H)} (hk : Rows.uptoSmall H l = true) {d : DataW H} (hd : d ∈ l) : Rows.uptoBulk d ≤ 1048576 := by
 have := upto_part hd
 have h := of_decide_eq_true hk
 omega
end Go.Av
end
section
/- The argument of the statements on games and positions, as our library reads it. -/
open Go Go.Proofs Go.Av
namespace Go.Av
open Go.Proofs.YtblaonmapofniaaGreatDoor
abbrev UpB : {H : Type} → DataW H → Nat := fun d => Rows.uptoBulk d
abbrev G3T := Int × Int × Int × List (List Int) × List (List Int) × List Int × Unit
def encG3T (x : G3T) : List AV := [.v (.int .u8 x.1)] ++ ([.v (.int .u8 x.2.1)] ++ ([.v (.int .u8 x.2.2.1)] ++ ((x.2.2.2.1.map fun l => [AV.lst 1 (l.map fun n => [.v (.int .u8 n)])]).flatten ++
 ([AV.lst 3 (x.2.2.2.2.1.map fun l => (l.map fun n => [AV.v (.int .u8 n)]).flatten)] ++ ((x.2.2.2.2.2.1.map fun n => [AV.v (.int .u8 n)]).flatten ++ [])))))
abbrev P4T := List Int × List Int × List Int × Int × Int × Unit
def encP4T (x : P4T) : List AV := (x.1.map fun n => [AV.v (.int .u8 n)]).flatten ++ ((x.2.1.map fun n => [AV.v (.int .u8 n)]).flatten ++ ((x.2.2.1.map fun n => [AV.v (.int .u8 n)]).flatten ++ ([.v (.int .u8 x.2.2.2.1)] ++ ([.v (.int .u8 x.2.2.2.2.1)] ++ []))))
abbrev U8W (n : Int) : Prop := (Lit.int .u8 n).wf = true
theorem opn_u8 : Opn Tryz.prog 1048576 UpB 5 (fun n : Int => [.v (.int .u8 n)]) U8W := Opn.int Tryz.underlying5 (by kernel_rfl)
theorem opn_u8s : Opn Tryz.prog 1048576 UpB 22 (fun l : List Int => [.lst 1 (l.map fun n => [.v (.int .u8 n)])]) (fun l => l.length ≤ 1048576 ∧ ∀ x ∈ l, U8W x) :=
 Opn.slice (sz := 1) Bulk.upto Tryz.underlying22 (by kernel_rfl) (by kernel_rfl) Nat.one_pos opn_u8
theorem opn_g3 : Opn Tryz.prog 1048576 UpB 27 encRaw (fun x => RawOk x ∧ x.k0.length ≤ 1048576 ∧ x.k1.length ≤ 1048576 ∧ x.c.length ≤ 1048576) := by
 have hK : Opn Tryz.prog 1048576 UpB 23 (fun l : List (List Int) => (l.map fun l => [AV.lst 1 (l.map fun n => [.v (.int .u8 n)])]).flatten) (fun l => l.length = 2 ∧ ∀ x ∈ l, x.length ≤ 1048576 ∧ ∀ y ∈ x, U8W y) :=
  Opn.array (sz := 1) (n := 2) Bulk.upto Tryz.underlying23 (by kernel_rfl) (by kernel_rfl) opn_u8s
 have h3 : Opn Tryz.prog 1048576 UpB 214 (fun l : List Int => (l.map fun n => [AV.v (.int .u8 n)]).flatten) (fun l => l.length = 3 ∧ ∀ x ∈ l, U8W x) :=
  Opn.array (sz := 1) (n := 3) Bulk.upto Tryz.underlying214 (by kernel_rfl) (by kernel_rfl) opn_u8
 have hC : Opn Tryz.prog 1048576 UpB 24 (fun l : List (List Int) => [.lst 3 (l.map fun l => (l.map fun n => [AV.v (.int .u8 n)]).flatten)]) (fun l => l.length ≤ 1048576 ∧ ∀ x ∈ l, x.length = 3 ∧ ∀ y ∈ x, U8W y) :=
  Opn.slice (sz := 3) Bulk.upto Tryz.underlying24 (by kernel_rfl) (by kernel_rfl) (by decide) h3
 have hFF : Opn Tryz.prog 1048576 UpB 25 (fun l : List Int => (l.map fun n => [AV.v (.int .u8 n)]).flatten) (fun l => l.length = 6 ∧ ∀ x ∈ l, U8W x) :=
  Opn.array (sz := 1) (n := 6) Bulk.upto Tryz.underlying25 (by kernel_rfl) (by kernel_rfl) opn_u8
 have hF : OpnF Tryz.prog 1048576 UpB [5, 5, 5, 23, 24, 25] encG3T (fun x => U8W x.1 ∧ U8W x.2.1 ∧ U8W x.2.2.1 ∧ (x.2.2.2.1.length = 2 ∧ ∀ z ∈ x.2.2.2.1, z.length ≤ 1048576 ∧ ∀ y ∈ z, U8W y) ∧
   (x.2.2.2.2.1.length ≤ 1048576 ∧ ∀ z ∈ x.2.2.2.2.1, z.length = 3 ∧ ∀ y ∈ z, U8W y) ∧ (x.2.2.2.2.2.1.length = 6 ∧ ∀ y ∈ x.2.2.2.2.2.1, U8W y) ∧ True) :=
  OpnF.cons opn_u8 (OpnF.cons opn_u8 (OpnF.cons opn_u8 (OpnF.cons hK (OpnF.cons hC (OpnF.cons hFF OpnF.nil)))))
 have hT : Opn Tryz.prog 1048576 UpB 27 encG3T (fun x => U8W x.1 ∧ U8W x.2.1 ∧ U8W x.2.2.1 ∧ (x.2.2.2.1.length = 2 ∧ ∀ z ∈ x.2.2.2.1, z.length ≤ 1048576 ∧ ∀ y ∈ z, U8W y) ∧
   (x.2.2.2.2.1.length ≤ 1048576 ∧ ∀ z ∈ x.2.2.2.2.1, z.length = 3 ∧ ∀ y ∈ z, U8W y) ∧ (x.2.2.2.2.2.1.length = 6 ∧ ∀ y ∈ x.2.2.2.2.2.1, U8W y) ∧ True) := Opn.struct Bulk.upto (by kernel_rfl) hF
 intro H enc w fuel cs d ps k1 k2
 obtain ⟨x, r1, r2, r3, hx⟩ := hT enc w fuel cs d ps k1 k2
 obtain ⟨W, Hh, cut, K, C, F, ⟨⟩⟩ := x
 obtain ⟨h1, h2, h3', ⟨h4, h4'⟩, ⟨h5, h5'⟩, ⟨h6, h6'⟩, _⟩ := hx
 simp only at h1 h2 h3' h4 h4' h5 h5' h6 h6'
 match K, h4 with
 | [ka, kb], _ =>
  match F, h6 with
  | [f0, f1, f2, f3, f4, f5], _ =>
   have hCl : ∀ (C : List (List Int)), (∀ z ∈ C, z.length = 3) → (C.map fun l => (nth l 0, nth l 1, nth l 2)).map encC3 = C.map fun l => (l.map fun n => [AV.v (.int .u8 n)]).flatten := by
    intro C hC
    rw [List.map_map]
    refine List.map_congr_left fun l hl => ?_
    have := hC l hl
    match l, this with
    | [a, b, c], _ => rfl
   refine ⟨⟨W, Hh, cut, ka, kb, C.map fun l => (nth l 0, nth l 1, nth l 2), f0, f1, f2, f3, f4, f5⟩, ?_, r2, r3, ⟨bounds_u8 h1, bounds_u8 h2, bounds_u8 h3', fun n hn => bounds_u8 ((h4' ka (by simp)).2 n hn), fun n hn => bounds_u8 ((h4' kb (by simp)).2 n hn), ?_,
    bounds_u8 (h6' f0 (by simp)), bounds_u8 (h6' f1 (by simp)), bounds_u8 (h6' f2 (by simp)), bounds_u8 (h6' f3 (by simp)), bounds_u8 (h6' f4 (by simp)), bounds_u8 (h6' f5 (by simp))⟩, (h4' ka (by simp)).1, (h4' kb (by simp)).1, by simpa using h5⟩
   ·unfold encRaw
    simp only
    rw [hCl C (fun z hz => (h5' z hz).1)]
    exact r1
   ·intro t ht
    obtain ⟨z, hz, rfl⟩ := List.mem_map.1 ht
    obtain ⟨q1, q2⟩ := h5' z hz
    match z, q1 with
    | [a, b, c], _ => exact ⟨bounds_u8 (q2 a (by simp)), bounds_u8 (q2 b (by simp)), bounds_u8 (q2 c (by simp))⟩
theorem opn_p4 : Opn Tryz.prog 1048576 UpB 30 encRawP RawPOk := by
 have hFF : Opn Tryz.prog 1048576 UpB 25 (fun l : List Int => (l.map fun n => [AV.v (.int .u8 n)]).flatten) (fun l => l.length = 6 ∧ ∀ x ∈ l, U8W x) :=
  Opn.array (sz := 1) (n := 6) Bulk.upto Tryz.underlying25 (by kernel_rfl) (by kernel_rfl) opn_u8
 have h4 : Opn Tryz.prog 1048576 UpB 28 (fun l : List Int => (l.map fun n => [AV.v (.int .u8 n)]).flatten) (fun l => l.length = 4 ∧ ∀ x ∈ l, U8W x) :=
  Opn.array (sz := 1) (n := 4) Bulk.upto Tryz.underlying28 (by kernel_rfl) (by kernel_rfl) opn_u8
 have hF : OpnF Tryz.prog 1048576 UpB [25, 25, 28, 5, 5] encP4T (fun x => (x.1.length = 6 ∧ ∀ y ∈ x.1, U8W y) ∧ (x.2.1.length = 6 ∧ ∀ y ∈ x.2.1, U8W y) ∧ (x.2.2.1.length = 4 ∧ ∀ y ∈ x.2.2.1, U8W y) ∧ U8W x.2.2.2.1 ∧ U8W x.2.2.2.2.1 ∧ True) :=
  OpnF.cons hFF (OpnF.cons hFF (OpnF.cons h4 (OpnF.cons opn_u8 (OpnF.cons opn_u8 OpnF.nil))))
 have hT : Opn Tryz.prog 1048576 UpB 30 encP4T (fun x => (x.1.length = 6 ∧ ∀ y ∈ x.1, U8W y) ∧ (x.2.1.length = 6 ∧ ∀ y ∈ x.2.1, U8W y) ∧ (x.2.2.1.length = 4 ∧ ∀ y ∈ x.2.2.1, U8W y) ∧ U8W x.2.2.2.1 ∧ U8W x.2.2.2.2.1 ∧ True) := Opn.struct Bulk.upto (by kernel_rfl) hF
 intro H enc w fuel cs d ps k1 k2
 obtain ⟨x, r1, r2, r3, hx⟩ := hT enc w fuel cs d ps k1 k2
 obtain ⟨c, k, h, r, s, ⟨⟩⟩ := x
 obtain ⟨⟨a1, a2⟩, ⟨b1, b2⟩, ⟨c1, c2⟩, d1, e1, _⟩ := hx
 simp only at a1 a2 b1 b2 c1 c2 d1 e1
 have hfl : ∀ l : List Int, (l.map fun n => [AV.v (.int .u8 n)]).flatten = l.map fun n => AV.v (.int .u8 n) := fun l => by
  induction l with
  | nil => rfl
  | cons x l ih => simp only [List.map_cons, List.flatten_cons, ih]; rfl
 refine ⟨⟨c, k, h, r, s⟩, ?_, r2, r3, ⟨a1, b1, c1, fun n hn => bounds_u8 (a2 n hn), fun n hn => bounds_u8 (b2 n hn), fun n hn => bounds_u8 (c2 n hn), bounds_u8 d1, bounds_u8 e1⟩⟩
 unfold encP4T at r1
 rw [hfl, hfl, hfl] at r1
 exact r1
end Go.Av
end
section
/- The argument of the statements on games and positions, as our library reads it. -/
open Go Go.Proofs Go.Av
namespace Go.Av
open Go.Proofs.YtblaonmapofniaaGreatDoor
theorem opn_raw6 : Opn Tryz.prog 1048576 UpB 32 encRaw6 Raw6Ok := by
 have hF : OpnF Tryz.prog 1048576 UpB [27, 30, 22] (fun x : RawG × RawP × List Int × Unit => encRaw x.1 ++ (encRawP x.2.1 ++ ([.lst 1 (x.2.2.1.map fun n => [.v (.int .u8 n)])] ++ [])))
   (fun x => (RawOk x.1 ∧ x.1.k0.length ≤ 1048576 ∧ x.1.k1.length ≤ 1048576 ∧ x.1.c.length ≤ 1048576) ∧ RawPOk x.2.1 ∧ (x.2.2.1.length ≤ 1048576 ∧ ∀ y ∈ x.2.2.1, U8W y) ∧ True) := OpnF.cons opn_g3 (OpnF.cons opn_p4 (OpnF.cons opn_u8s OpnF.nil))
 have hT : Opn Tryz.prog 1048576 UpB 32 (fun x : RawG × RawP × List Int × Unit => encRaw x.1 ++ (encRawP x.2.1 ++ ([.lst 1 (x.2.2.1.map fun n => [.v (.int .u8 n)])] ++ [])))
   (fun x => (RawOk x.1 ∧ x.1.k0.length ≤ 1048576 ∧ x.1.k1.length ≤ 1048576 ∧ x.1.c.length ≤ 1048576) ∧ RawPOk x.2.1 ∧ (x.2.2.1.length ≤ 1048576 ∧ ∀ y ∈ x.2.2.1, U8W y) ∧ True) := Opn.struct Bulk.upto (by kernel_rfl) hF
 intro H enc w fuel cs d ps k1 k2
 obtain ⟨x, r1, r2, r3, hx⟩ := hT enc w fuel cs d ps k1 k2
 obtain ⟨g, p, k, ⟨⟩⟩ := x
 obtain ⟨⟨a1, a2, a3, a4⟩, b1, ⟨c1, c2⟩, _⟩ := hx
 simp only at a1 a2 a3 a4 b1 c1 c2
 exact ⟨⟨g, p, k⟩, r1, r2, r3, ⟨a1, b1, fun n hn => bounds_u8 (c2 n hn), by simp only; omega, by simp only; omega, by simp only; omega, by simp only; omega⟩⟩
end Go.Av
end
