/- Texts of ours, part 10: contracts and facts for this claim. -/
import Derived.Test.YtjajfalomchohaaGreatDoorB10
import Derived.Test.YtjajfalomchohaaGreatDoorRLx09
set_option linter.unusedSimpArgs false
set_option linter.unusedVariables false
set_option maxRecDepth 100000
set_option maxHeartbeats 40000000
section
open Go Go.Proofs
namespace Go.Av
theorem Check27_pure (g : GameD) (hg : GOk g) (s q : PosD) (hs : FitsP s) (hq : FitsP q) (l : List PosD) (hl : l.length ≤ 17179869184) (hp : ∀ x ∈ l, POk g x) :
  Pure Tryz.prog 26 [.agg (encGame g), .agg (encPos s), .agg (encPos q), encPs l] (.v (.bool (checkP g s q l))) := by
 refine pF Tryz.func26 ?_
 have hC := fun x (hx : x ∈ l) y (hy : FitsP y) => R4Same_pure x y ((hp x hx).fits hg) hy
 have hL := fun x (hx : x ∈ l) y (hy : y ∈ l) => R6Legal_pure g hg x (hp x hx) y ((hp y hy).fits hg)
 by_cases hl0 : l = []
 ·have hc : checkP g s q l = false := checkP_false (by simp [hl0])
  rw [hc]
  subst hl0
  (repeat (first|with_reducible (first|refine wV fun _=>?_|refine wE ?_)|simp [go_sem]))
  refine dGC.skip (.v (.bool true)) ?_
  (repeat (first|with_reducible (first|refine wV fun _=>?_|refine wE ?_)|simp [go_sem]))
  refine dGC.skip (.v (.bool true)) ?_
  (repeat (first|with_reducible (first|refine wV fun _=>?_|refine wE ?_)|simp [go_sem]))
 ·have hlp := List.length_pos_iff.2 hl0
  have hm1 := nth_mem (l := l) (i := 0) hlp
  have hm2 := nth_mem (l := l) (i := l.length - 1) (by omega)
  have h1 := hC _ hm1 s hs
  have h2 := hC _ hm2 q hq
  have hnm : nth (l.map encPos) (l.length - 1) = encPos (nth l (l.length - 1)) := nth_map _ _ _ (by omega)
  have e1 : decide (cmpP (nth l 0) s = 0) = true ↔ nth l 0 = s := decide_eq_true_iff.trans cmpP_eq
  have e2 : decide (cmpP (nth l (l.length - 1)) q = 0) = true ↔ nth l (l.length - 1) = q := decide_eq_true_iff.trans cmpP_eq
  obtain ⟨c, hc⟩ : ∃ c, c = checkP g s q l := ⟨_, rfl⟩
  have hcf : ¬ (l ≠ [] ∧ nth l 0 = s ∧ nth l (l.length - 1) = q ∧ ∀ j, j < l.length - 1 → nth l (j + 1) ∈ movesP g (nth l j)) → c = false := fun h => hc.trans (checkP_false h)
  have hct : (l ≠ [] ∧ nth l 0 = s ∧ nth l (l.length - 1) = q ∧ ∀ j, j < l.length - 1 → nth l (j + 1) ∈ movesP g (nth l j)) → c = true := fun h => hc.trans (decide_eq_true h)
  rw [← hc]
  clear hc
  have hegl : (encGame g).length = 9 := rfl
  have hegb : ∀ n, (∀ c ∈ encGame g, Bel n c) = True := fun n => by simp [go_sem]
  generalize encGame g = eg at *
  (repeat (first|with_reducible (first|refine wV fun _=>?_|refine wE ?_)|simp [go_sem, hegl, hl0, hlp]))
  refine dGC.plain _ (fun _ => h1) (by simp [go_sem]) ?_
  generalize decide (cmpP (nth l 0) s = 0) = a at *
  cases a
  ·have : c = false := hcf (fun h => by have := e1.2 h.2.1; simp at this)
   subst this
   (repeat (first|with_reducible (first|refine wV fun _=>?_|refine wE ?_)|simp [go_sem, hegl, hl0, hlp]))
   refine dGC.skip (.v (.bool true)) ?_
   (repeat (first|with_reducible (first|refine wV fun _=>?_|refine wE ?_)|simp [go_sem, hegl, hl0, hlp]))
  ·(repeat (first|with_reducible (first|refine wV fun _=>?_|refine wE ?_)|simp [go_sem, hegl, hl0, hlp, hnm]))
   refine dGC.plain _ (fun _ => h2) (by simp [go_sem]) ?_
   generalize decide (cmpP (nth l (l.length - 1)) q = 0) = b at *
   cases b
   ·have : c = false := hcf (fun h => by have := e2.2 h.2.2.1; simp at this)
    subst this
    (repeat (first|with_reducible (first|refine wV fun _=>?_|refine wE ?_)|simp [go_sem, hegl, hl0, hlp, hnm]))
   ·(repeat (first|with_reducible (first|refine wV fun _=>?_|refine wE ?_)|simp [go_sem, hegl, hl0, hlp, hnm]))
    have hct' := fun h => hct ⟨hl0, e1.1 rfl, e2.1 rfl, h⟩
    have hcf' := fun (h : ¬ ∀ j, j < l.length - 1 → nth l (j + 1) ∈ movesP g (nth l j)) => hcf (fun h' => h h'.2.2.2)
    clear hcf hct hC
    refine ALoop.start (ALoop.ind (α := Nat) (fun i => ⟨[(3, encPs l), (4, .ref 0 0 9 0 0), (9, .v (.int .i64 (i + 1)))], [(0, .rows true 0 9 [eg])], 3⟩)
     (fun d i => i + d = l.length - 1 ∧ ∀ j, j < i → nth l (j + 1) ∈ movesP g (nth l j)) ?_ (l.length - 1) 0 ?_) ?_ ?_
    ·rintro d i ⟨i1, i2⟩ hrec
     (repeat (first|with_reducible (first|refine wV fun _=>?_|refine wE ?_)|simp [go_sem, hegl]))
     refine aIf.mkL (fun hi => ?_) (fun hi => ?_) <;> simp at hi
     ·have hi1 : i < l.length := by omega
      have hi2 : i + 1 < l.length := by omega
      have h := hL _ (nth_mem hi1) _ (nth_mem hi2)
      have hdb : decide (nth l (i + 1) ∈ movesP g (nth l i)) = true ↔ nth l (i + 1) ∈ movesP g (nth l i) := decide_eq_true_iff
      generalize decide (nth l (i + 1) ∈ movesP g (nth l i)) = m at *
      (repeat (first|with_reducible (first|refine wV fun _=>?_|refine wE ?_)|simp [go_sem, hegl, hi1, hi2]))
      refine dCall.plain h (by simp [go_sem, hegb]) ?_
      cases m
      ·have : c = false := hcf' (fun h => by have := hdb.2 (h i (by omega)); simp at this)
       subst this
       (repeat (first|with_reducible (first|refine wV fun _=>?_|refine wE ?_)|simp [go_sem, hegl]))
      ·(repeat (first|with_reducible (first|refine wV fun _=>?_|refine wE ?_)|simp [go_sem, hegl]))
       refine ALoop.start (hrec (d - 1) (by omega) (i + 1) ⟨by omega, fun j hj => ?_⟩) ?_ (by simp)
       ·rcases Nat.lt_or_ge j i with h | h
        ·exact i2 j h
        ·obtain rfl : j = i := by omega
         exact hdb.1 rfl
       ·simp [go_sem, Wk_eq, hegb]
     ·have : c = true := hct' (fun j hj => i2 j (by omega))
      subst this
      (repeat (first|with_reducible (first|refine wV fun _=>?_|refine wE ?_)|simp [go_sem, hegl]))
    ·exact ⟨by omega, fun j hj => by omega⟩
    ·simp [go_sem, Wk_eq, hegb]
    ·simp
end Go.Av
end
section
open Go Go.Proofs
namespace Go.Av
def leadP (g : GameD) (l nx : List PosD) : List PosD := l.filter fun p => decide (0 ≤ frstP g p nx)
theorem frstP_any (g : GameD) (p : PosD) (nx : List PosD) : decide (0 ≤ frstP g p nx) = nx.any (fun q => decide (q ∈ movesP g p)) := idxOfP_any
theorem leading_pure (g : GameD) (hg : GOk g) (l nx : List PosD) (hl : l.length ≤ 1889788001) (hn : nx.length ≤ 1889788001) (hlo : ∀ q ∈ l, POk g q) (hno : ∀ q ∈ nx, FitsP q) :
  Pure Tryz.prog 71 [.agg (encGame g), encPs l, encPs nx] (encPs (leadP g l nx)) := by
 refine pF Tryz.func71 ?_
 unfold leadP
 simp only [frstP_any]
 obtain ⟨fl, hfl⟩ : ∃ fl : Nat → List PosD, ∀ k, fl k = (l.take k).filter (fun p => nx.any (fun q => decide (q ∈ movesP g p))) := ⟨_, fun _ => rfl⟩
 have hfll : ∀ k, (fl k).length ≤ 1889788001 := fun k => by
  have h1 : (fl k).length ≤ (l.take k).length := by rw [hfl]; exact List.length_filter_le _ _
  have h2 : (l.take k).length ≤ l.length := by simp; omega
  omega
 have hfl0 : fl 0 = [] := by rw [hfl]; rfl
 have hfls : ∀ k, k < l.length → fl (k + 1) = if nx.any (fun q => decide (q ∈ movesP g (nth l k))) = true then fl k ++ [nth l k] else fl k := fun k hk => by
  rw [hfl, hfl, List.take_add_one, List.getElem?_eq_getElem hk, nth_eq _ _ hk, Option.toList_some, List.filter_append]
  by_cases h : nx.any (fun q => decide (q ∈ movesP g l[k])) = true <;> simp [h]
 have hflE : fl l.length = l.filter (fun p => nx.any (fun q => decide (q ∈ movesP g p))) := by rw [hfl, List.take_length]
 rw [← hflE]
 clear hfl hflE
 have hM := fun i hi => R6Moves_pure g hg (nth l i) (hlo _ (nth_mem (i := i) hi))
 have hegl : (encGame g).length = 9 := rfl
 have hegb : ∀ n, (∀ c ∈ encGame g, Bel n c) = True := fun n => by simp [go_sem]
 (repeat (first|with_reducible (first|refine wV fun _=>?_|refine wE ?_)|simp [go_sem]))
 refine ALoop.start (ALoop.ind (α := Nat) (fun k => ⟨[(1, encPs l), (2, encPs nx), (3, .ref 0 0 9 0 0), (7, .sl 1 (fl k).length 5 0 (fl k).length), (8, .v (.int .i64 k))], [(0, .rows true 0 9 [encGame g]), (1, .rows true (fl k).length 5 ((fl k).map encPos))], 2⟩)
  (fun d k => k + d = l.length) ?_ l.length 0 ?_) ?_ ?_
 ·rintro d k k1 hrec
  (repeat (first|with_reducible (first|refine wV fun _=>?_|refine wE ?_)|simp [go_sem]))
  refine aIf.mkL (fun hk => ?_) (fun hk => ?_) <;> simp at hk
  ·have hMk := hM k hk
   have hfls := hfls k hk
   have h1 := hfll k
   have h2 := hfll (k + 1)
   have hok := hlo _ (nth_mem hk)
   have hml := movesP_len2 hg hok
   have hmf := fun m hm => ((movesP_ok hg hok) m hm).1.fits hg
   have hinc := movesP_inc g (nth l k)
   generalize hqk : nth l k = p at *
   generalize movesP g p = mv at *
   have hF := fun q hq => rFind_pure mv hinc (by omega) hmf q hq
   have hFm := fun q => fndP_mem hinc (p := q)
   obtain ⟨an, han⟩ : ∃ an : Nat → Bool, ∀ j, an j = (nx.take j).any (fun q => decide (q ∈ mv)) := ⟨_, fun _ => rfl⟩
   have han0 : an 0 = false := by rw [han]; rfl
   have hans : ∀ j, j < nx.length → an (j + 1) = (an j || decide (0 ≤ fndP mv (nth nx j))) := fun j hj => by
    rw [han, han, List.take_add_one, List.getElem?_eq_getElem hj, nth_eq _ _ hj, Option.toList_some, List.any_append]
    simp [hFm]
   have hanE : an nx.length = nx.any (fun q => decide (q ∈ mv)) := by rw [han, List.take_length]
   rw [← hanE] at hfls
   clear han hanE
   (repeat (first|with_reducible (first|refine wV fun _=>?_|refine wE ?_)|simp [go_sem, hk, hqk]))
   refine dCall.plain hMk (by simp [go_sem]) ?_
   (repeat (first|with_reducible (first|refine wV fun _=>?_|refine wE ?_)|simp [go_sem, hk, hqk]))
   refine ALoop.start (ALoop.ind (α := Nat) (fun j => ⟨[(1, encPs l), (2, encPs nx), (3, .ref 0 0 9 0 0), (7, .sl 1 (fl k).length 5 0 (fl k).length), (8, .v (.int .i64 k)), (9, encPs mv), (10, .v (.bool (an j))), (11, .v (.int .i64 j))], [(0, .rows true 0 9 [encGame g]), (1, .rows true (fl k).length 5 ((fl k).map encPos))], 2⟩)
    (fun d2 j => j + d2 = nx.length) ?_ nx.length 0 ?_) ?_ ?_
   ·rintro d2 j j1 hrec2
    (repeat (first|with_reducible (first|refine wV fun _=>?_|refine wE ?_)|simp [go_sem]))
    refine aIf.mkL (fun hj => ?_) (fun hj => ?_) <;> simp at hj
    ·have hans := hans j hj
     have hFj := hF _ (hno _ (nth_mem hj))
     generalize fndP mv (nth nx j) = fi at *
     generalize an j = a at *
     cases a
     ·(repeat (first|with_reducible (first|refine wV fun _=>?_|refine wE ?_)|simp [go_sem, hj]))
      refine aGC.plain _ (fun _ => hFj) (by simp [go_sem]) ?_
      (repeat (first|with_reducible (first|refine wV fun _=>?_|refine wE ?_)|simp [go_sem, hj]))
      refine ALoop.start (hrec2 (d2 - 1) (by omega) (j + 1) (by omega)) ?_ (by simp)
      simp [go_sem, Wk_eq, hans]
     ·(repeat (first|with_reducible (first|refine wV fun _=>?_|refine wE ?_)|simp [go_sem, hj]))
      refine aGC.skip (.v (.int .i64 0)) ?_
      (repeat (first|with_reducible (first|refine wV fun _=>?_|refine wE ?_)|simp [go_sem, hj]))
      refine ALoop.start (hrec2 (d2 - 1) (by omega) (j + 1) (by omega)) ?_ (by simp)
      simp [go_sem, Wk_eq, hans]
    ·obtain rfl : j = nx.length := by omega
     generalize an nx.length = a at *
     cases a
     ·(repeat (first|with_reducible (first|refine wV fun _=>?_|refine wE ?_)|simp [go_sem, hk, hqk]))
      refine ALoop.start (hrec (d - 1) (by omega) (k + 1) (by omega)) ?_ (by simp)
      simp [go_sem, Wk_eq, hfls]
     ·(repeat (first|with_reducible (first|refine wV fun _=>?_|refine wE ?_)|simp [go_sem, hk, hqk]))
      refine ALoop.start (hrec (d - 1) (by omega) (k + 1) (by omega)) ?_ (by simp)
      simp [go_sem, Wk_eq, hfls]
   ·show 0 + nx.length = nx.length
    omega
   ·simp [go_sem, Wk_eq, han0]
   ·simp
  ·obtain rfl : k = l.length := by omega
   have h1 := hfll l.length
   (repeat (first|with_reducible (first|refine wV fun _=>?_|refine wE ?_)|simp [go_sem]))
   exact frX
 ·show 0 + l.length = l.length
  omega
 ·simp [go_sem, Wk_eq, hfl0]
 ·simp
theorem least_pure (g : GameD) (hg : GOk g) (G : List (List PosD)) (hl : G.length ≤ 4002) (hn : ∀ l ∈ G, l.length ≤ 1889788001) (hok : ∀ l ∈ G, ∀ q ∈ l, POk g q) (hG : G ≠ []) (hG0 : nth G 0 ≠ [])
  (w : Nat → PosD) (hw0 : w 0 = nth (nth G 0) 0) (hws : ∀ i, i + 1 < G.length → 0 ≤ frstP g (w i) (nth G (i + 1)) ∧ w (i + 1) = nth (nth G (i + 1)) (frstP g (w i) (nth G (i + 1))).toNat) :
  Pure Tryz.prog 72 [.agg (encGame g), .lst 1 (encD G)] (encPs ((List.range G.length).map w)) := by
 refine pF Tryz.func72 ?_
 have hGl := List.length_pos_iff.2 hG
 have hG0l := List.length_pos_iff.2 hG0
 have hwm : ∀ i, i < G.length → w i ∈ nth G i := fun i hi => by
  cases i with
  | zero => rw [hw0]; exact nth_mem hG0l
  | succ i => rw [(hws i hi).2]; exact nth_mem (frstP_some (hws i hi).1).1
 have hwo : ∀ i, i < G.length → POk g (w i) := fun i hi => hok _ (nth_mem hi) _ (hwm i hi)
 obtain ⟨W, hW⟩ : ∃ W : Nat → List PosD, ∀ k, W k = (List.range k).map w := ⟨_, fun _ => rfl⟩
 have hWl : ∀ k, (W k).length = k := fun k => by rw [hW]; simp
 have hWs : ∀ k, W (k + 1) = W k ++ [w k] := fun k => by rw [hW, hW, List.range_succ, List.map_append]; rfl
 have hWn : ∀ k, nth (W (k + 1)) k = w k := fun k => by rw [hW, nth_map _ _ _ (by simp), nth_eq _ _ (by simp)]; simp
 rw [← hW]
 clear hW
 have hW1 : W 1 = [w 0] := by have := hWs 0; rw [show W 0 = [] from List.length_eq_zero_iff.1 (hWl 0)] at this; simpa using this
 have hGn : ∀ i, i < G.length → nth (encD G) i = [encPs (nth G i)] := fun i hi => nth_map _ _ _ hi
 have hDl : (encD G).length = G.length := by simp [encD]
 have hGn0 := hGn 0 hGl
 have hM := fun i hi => R6Moves_pure g hg (w i) (hwo i hi)
 have hegl : (encGame g).length = 9 := rfl
 have hegb : ∀ n, (∀ c ∈ encGame g, Bel n c) = True := fun n => by simp [go_sem]
 generalize hD : encD G = D at *
 have hDb : ∀ n, (∀ r ∈ D, ∀ c ∈ r, Bel n c) = True := fun n => by rw [← hD]; exact bel_encD
 clear hD
 (repeat (first|with_reducible (first|refine wV fun _=>?_|refine wE ?_)|simp [go_sem, hGn0, hDl, hGl, hG0l]))
 refine ALoop.start (ALoop.ind (α := Nat) (fun k => ⟨[(1, .lst 1 D), (2, .ref 0 0 9 0 0), (5, .sl 1 k 5 0 (k + 1)), (6, .v (.int .i64 (k + 1)))], [(0, .rows true 0 9 [encGame g]), (1, .rows true k 5 ((W (k + 1)).map encPos))], 2⟩)
  (fun d k => k + 1 + d = G.length) ?_ (G.length - 1) 0 ?_) ?_ ?_
 ·rintro d k k1 hrec
  have hWlk := hWl (k + 1)
  have hWnk := hWn k
  (repeat (first|with_reducible (first|refine wV fun _=>?_|refine wE ?_)|simp [go_sem, hDl]))
  refine aIf.mkL (fun hk => ?_) (fun hk => ?_) <;> simp at hk
  ·have hk0 : k < G.length := by omega
   have hk1 : k + 1 < G.length := by omega
   have hMk := hM k hk0
   have hGk := hGn (k + 1) hk1
   have hws := hws (k + 1 - 1) (by omega)
   rw [show k + 1 - 1 = k by omega] at hws
   have hGo := hok _ (nth_mem hk1)
   have hGlk := hn _ (nth_mem hk1)
   have hml := movesP_len2 hg (hwo k hk0)
   have hmf := fun m hm => ((movesP_ok hg (hwo k hk0)) m hm).1.fits hg
   have hinc := movesP_inc g (w k)
   have hF := fun q hq => rFind_pure (movesP g (w k)) hinc (by omega) hmf q hq
   have hFm := fun q => fndP_mem hinc (p := q)
   have hf1 := frstP_some hws.1
   have hWs := hWs (k + 1)
   have hWlk2 := hWl (k + 1 + 1)
   rw [hws.2] at hWs
   obtain ⟨f, hf⟩ : ∃ f : Nat, frstP g (w k) (nth G (k + 1)) = f := ⟨_, (Int.toNat_of_nonneg hws.1).symm⟩
   rw [hf] at hws hf1
   simp only [Int.toNat_natCast] at hf1
   rw [hf, Int.toNat_natCast] at hWs
   generalize nth G (k + 1) = N at *
   generalize w k = p at *
   generalize movesP g p = mv at *
   generalize hW2 : W (k + 1 + 1) = W2 at *
   generalize W (k + 1) = W1 at *
   (repeat (first|with_reducible (first|refine wV fun _=>?_|refine wE ?_)|simp [go_sem, hk, hWlk, hWnk]))
   refine dCall.plain hMk (by simp [go_sem]) ?_
   (repeat (first|with_reducible (first|refine wV fun _=>?_|refine wE ?_)|simp [go_sem, hk, hWlk, hWnk]))
   refine ALoop.start (ALoop.ind (α := Nat × Bool) (fun a => ⟨[(1, .lst 1 D), (2, .ref 0 0 9 0 0), (5, .sl 1 (bif a.2 then k + 1 else k) 5 0 (bif a.2 then k + 1 + 1 else k + 1)), (6, .v (.int .i64 (k + 1))), (7, encPs mv), (8, .v (.int .i64 a.1))], [(0, .rows true 0 9 [encGame g]), (1, .rows true (bif a.2 then k + 1 else k) 5 ((bif a.2 then W2 else W1).map encPos))], 2⟩)
    (fun d2 a => a.1 + d2 = f + 1 ∧ (a.2 = true ↔ a.1 = f + 1)) ?_ (f + 1) (0, false) ?_) ?_ ?_
   ·rintro d2 ⟨j, b⟩ ⟨j1, j2⟩ hrec2
    simp only at j1 j2
    cases b
    ·have hjf : j ≤ f := by
      have : j ≠ f + 1 := fun h => by have := j2.2 h; cases this
      omega
     have hj : j < N.length := by omega
     have hFj := hF _ ((hGo _ (nth_mem hj)).fits hg)
     have hFmj := hFm (nth N j)
     simp only [cond_true, cond_false]
     generalize hnj : nth N j = q at *
     generalize fndP mv q = fi at *
     (repeat (first|with_reducible (first|refine wV fun _=>?_|refine wE ?_)|simp [go_sem, hk, hGk, hj, hWlk, hDl, hnj]))
     refine ACallP.plain hFj (by simp [go_sem]) ?_
     (repeat (first|with_reducible (first|refine wV fun _=>?_|refine wE ?_)|simp [go_sem, hk, hGk, hj, hWlk, hnj]))
     refine aIf.mkL (fun hfi => ?_) (fun hfi => ?_) <;> simp at hfi
     ·have : j = f := by
       rcases Nat.lt_or_ge j f with h | h
       ·exact absurd (hFmj.1 hfi) (hnj ▸ hf1.2.2 j h)
       ·omega
      subst this
      rw [hnj] at hWs
      (repeat (first|with_reducible (first|refine wV fun _=>?_|refine wE ?_)|simp [go_sem, hk, hGk, hj, hWlk, hnj]))
      refine ALoop.start (hrec2 (d2 - 1) (by omega) (j + 1, true) ⟨by simp only; omega, by simp⟩) ?_ (by simp)
      simp [go_sem, Wk_eq, hWs, hDb]
     ·have : j ≠ f := by
       rintro rfl
       have := hFmj.2 (hnj ▸ hf1.2.1)
       omega
      (repeat (first|with_reducible (first|refine wV fun _=>?_|refine wE ?_)|simp [go_sem, hk, hGk, hj, hWlk, hnj]))
      refine ALoop.start (hrec2 (d2 - 1) (by omega) (j + 1, false) ⟨by simp only; omega, by simp; omega⟩) ?_ (by simp)
      simp [go_sem, Wk_eq, hDb]
    ·have hjf : j = f + 1 := j2.1 rfl
     subst hjf
     simp only [cond_true, cond_false]
     by_cases hj : f + 1 < N.length
     ·(repeat (first|with_reducible (first|refine wV fun _=>?_|refine wE ?_)|simp [go_sem, hk, hGk, hj, hWlk2, hDl]))
      refine ALoop.start (hrec (d - 1) (by omega) (k + 1) (by omega)) ?_ (by simp)
      simp [go_sem, Wk_eq, hW2, hDb]
     ·(repeat (first|with_reducible (first|refine wV fun _=>?_|refine wE ?_)|simp [go_sem, hk, hGk, hj, hWlk2, hDl]))
      refine ALoop.start (hrec (d - 1) (by omega) (k + 1) (by omega)) ?_ (by simp)
      simp [go_sem, Wk_eq, hW2, hDb]
   ·exact ⟨by simp only; omega, by simp⟩
   ·simp [go_sem, Wk_eq, hDb]
   ·simp
  ·have hkG : G.length = k + 1 := by omega
   rw [hkG]
   obtain ⟨W1, hW1'⟩ : ∃ x, x = W (k + 1) := ⟨_, rfl⟩
   rw [← hW1'] at hWlk hWnk ⊢
   obtain rfl : k = W1.length - 1 := by omega
   have hpos : 0 < W1.length := by omega
   have e1 : W1.length - 1 + 1 = W1.length := by omega
   simp only [e1]
   clear hrec hWnk
   (repeat (first|with_reducible (first|refine wV fun _=>?_|refine wE ?_)|simp [go_sem]))
   exact frX
 ·show 0 + 1 + (G.length - 1) = G.length
  omega
 ·simp [go_sem, Wk_eq, hW1, hw0, hDb]
 ·simp
end Go.Av
end
section
open Go Go.Proofs
namespace Go.Av
theorem goodP_way {g : GameD} {goal : PosD} {past : List (List PosD)} (hc : ChainOk g past) (hg : goal ∈ nth past (past.length - 1)) : wayP g past goal 0 = nth (nth (goodP g past goal) 0) 0 := by
 have h1 := goodP_first hc hg
 have hl := List.length_pos_iff.2 hc.ne
 have h2 := fun q => goodP_sub (g := g) (goal := goal) hl hg q
 obtain ⟨s, hs⟩ := hc.one
 have h3 : nth (nth (goodP g past goal) 0) 0 ∈ nth (goodP g past goal) 0 := nth_mem (List.length_pos_of_mem h1)
 have h4 := h2 _ h3
 rw [hs, List.mem_singleton] at h4
 rw [h4]
 show nth (nth past 0) 0 = s
 rw [hs]; rfl
theorem backR_all {G : List (List PosD)} : backR G.length G 0 = encD G := by
 refine List.ext_getElem (by simp [backR, encD]) fun j h1 h2 => ?_
 simp only [backR_len] at h1
 simp [backR, encD, nth_eq _ _ h1]
theorem Game27_pure (g : GameD) (hg : GOk g) (p : PosD) (hp : POk g p) (goal : PosD) (hq : FitsP goal) (n : Int) :
  Pure Tryz.prog 24 [.agg (encGame g), .agg (encPos p), .agg (encPos goal), .v (.int .i64 n)] (.agg [encPs (gameP g p goal n).1, .v (.int .i64 (gameP g p goal n).2)]) := by
 refine pF Tryz.func24 ?_
 have hGo := Go27_pure g hg p hp n
 have hA := fun d => gameP_at (g := g) (p := p) (goal := goal) (n := n) (d := d)
 have hN := gameP_no (g := g) (p := p) (goal := goal) (n := n)
 have hpast := searchP_past hg hp n
 have hchain := searchP_chain g p n
 have hok := searchP_ok hg hp n
 have hcnt := searchP_count g p n
 have hlen := searchP_len hg hp n
 generalize gameP g p goal n = gm at *
 unfold encSearch at hGo
 generalize hfp : fullP (searchP g p n) = fp at *
 generalize searchP g p n = L at *
 have hegl : (encGame g).length = 9 := rfl
 have hegb : ∀ n, (∀ c ∈ encGame g, Bel n c) = True := fun n => by simp [go_sem]
 obtain ⟨Ls, hLs⟩ : ∃ Ls, Ls = L.map (·.1) := ⟨_, rfl⟩
 have hLl : Ls.length = L.length := by rw [hLs]; simp
 have hLn : ∀ i, i < L.length → nth Ls i = (nth L i).1 := fun i hi => by rw [hLs, nth_map _ _ _ hi]
 have hLt : ∀ d, (L.take (d + 1)).map (·.1) = Ls.take (d + 1) := fun d => by rw [hLs, List.map_take]
 rw [← hLs] at hGo
 simp only [hLt] at hA hpast hchain
 clear hLs
 have hLe : ∀ i, i < L.length → nth (encD Ls) i = [encPs (nth Ls i)] := fun i hi => nth_encD (by omega)
 (repeat (first|with_reducible (first|refine wV fun _=>?_|refine wE ?_)|simp [go_sem, hegl]))
 refine ACallP.plain hGo (by simp [go_sem]) ?_
 (repeat (first|with_reducible (first|refine wV fun _=>?_|refine wE ?_)|simp [go_sem, hegl]))
 refine ALoop.start (ALoop.ind (α := Nat) (fun i => ⟨[(4, .ref 0 0 9 0 0), (6, .ref 2 0 5 0 0), (8, .ref 3 0 2 0 0), (9, .ref 4 0 2 0 0), (10, .v (.int .i64 i))], [(0, .rows true 0 9 [encGame g]), (2, .rows true 0 5 [encPos goal]), (3, .rows true 0 2 [[AV.nils, .v (.int .i64 0)]]), (4, .rows true 0 2 [[.lst 1 (encD Ls), .v (.bool fp)]])], 5⟩)
  (fun d i => i + d = L.length ∧ ∀ j, j < i → goal ∉ (nth L j).1) ?_ L.length 0 ?_) ?_ ?_
 ·rintro d i ⟨i1, i2⟩ hrec
  (repeat (first|with_reducible (first|refine wV fun _=>?_|refine wE ?_)|simp [go_sem, hLl]))
  refine aIf.mkL (fun hi => ?_) (fun hi => ?_) <;> simp at hi
  ·have hok := hok _ (nth_mem hi)
   have hpast := hpast i
   have hchain := hchain i
   have hA := hA i hi
   have hLei := hLe i hi
   have hLni := hLn i hi
   rw [← hLni] at hA hok
   have hi' : i < Ls.length := by omega
   have htk : Ls.take (i + 1) = Ls.take i ++ [nth Ls i] := by rw [List.take_add_one, List.getElem?_eq_getElem hi', nth_eq _ _ hi']; rfl
   have hF := rFind_pure (nth Ls i) hok.1 (by have := hpast.2.2 (nth Ls i) (by rw [htk]; simp); omega) (fun q h => (hok.2 q h).fits hg) goal hq
   have hFm := fndP_mem hok.1 (p := goal)
   generalize fndP (nth Ls i) goal = fi at *
   (repeat (first|with_reducible (first|refine wV fun _=>?_|refine wE ?_)|simp [go_sem, hi', hLei]))
   refine dCall.plain hF (by simp [go_sem]) ?_
   (repeat (first|with_reducible (first|refine wV fun _=>?_|refine wE ?_)|simp [go_sem, hi', hLei]))
   refine aIf.mkL (fun hz => ?_) (fun hz => ?_) <;> simp at hz
   ·have hnin : goal ∉ nth Ls i := fun h => by have := hFm.2 h; omega
    (repeat (first|with_reducible (first|refine wV fun _=>?_|refine wE ?_)|simp [go_sem, hi', hLei]))
    refine ALoop.start (hrec (d - 1) (by omega) (i + 1) ⟨by omega, fun j hj => ?_⟩) ?_ (by simp)
    ·rcases Nat.lt_or_ge j i with h | h
     ·exact i2 j h
     ·obtain rfl : j = i := by omega
      rw [← hLni]; exact hnin
    ·simp [go_sem, Wk_eq]
   ·have hin : goal ∈ nth Ls i := hFm.1 (by omega)
    have hgm := hA hin (fun j hj => i2 j hj)
    have hpl : (Ls.take (i + 1)).length = i + 1 := by simp; omega
    have hpn : ∀ j, j < i + 1 → nth (Ls.take (i + 1)) j = nth Ls j := fun j hj => by rw [nth_eq _ _ (by omega), nth_eq _ _ (by omega)]; simp
    have hgl : goal ∈ nth (Ls.take (i + 1)) ((Ls.take (i + 1)).length - 1) := by rw [hpl, Nat.add_sub_cancel, hpn i (by omega)]; exact hin
    rw [hgm]
    clear hgm hA hrec i2 hN
    unfold traceP
    generalize hpa : Ls.take (i + 1) = past at *
    have hlast := goodP_last g goal past hchain.ne
    have hsub := fun i (hi : i < past.length) => goodP_sub (g := g) (goal := goal) hi hgl
    have hat := goodP_at g goal past
    have hGle := goodP_len g goal past
    have hw0 := goodP_way hchain hgl
    have hwm := fun i (hi : i < past.length) => wayP_mem hchain hgl i hi
    have hfst := fun i (hi : i + 1 < past.length) => wayP_first hchain hgl hi
    have hws : ∀ i, wayP g past goal (i + 1) = nth (nth (goodP g past goal) (i + 1)) (frstP g (wayP g past goal i) (nth (goodP g past goal) (i + 1))).toNat := fun i => rfl
    have hfirst := goodP_first hchain hgl
    generalize goodP g past goal = G at *
    generalize wayP g past goal = way at *
    have hGok : ∀ j, j < past.length → ∀ q ∈ nth G j, POk g q := fun j hj q h => hpast.2.1 _ (nth_mem hj) q (hsub j hj q h)
    have hGl : ∀ j, j < past.length → (nth G j).length ≤ 1889788001 := fun j hj => by
     by_cases h : j + 1 < past.length
     ·rw [hat j h]
      exact Nat.le_trans (List.length_filter_le _ _) (hpast.2.2 _ (nth_mem hj))
     ·obtain rfl : j = past.length - 1 := by omega
      rw [hlast]; simp
    have hGe := hGle.trans hpl
    have hL := least_pure g hg G (by omega) (fun l hl => by obtain ⟨j, hj, rfl⟩ := List.getElem_of_mem hl; rw [← nth_eq _ _ hj]; exact hGl j (by omega))
     (fun l hl => by obtain ⟨j, hj, rfl⟩ := List.getElem_of_mem hl; rw [← nth_eq _ _ hj]; exact hGok j (by omega)) (by intro h; rw [h] at hGe; simp at hGe) (by intro h; rw [h] at hfirst; simp at hfirst) way hw0 (fun j hj => ⟨hfst j (by omega), hws j⟩)
    have hbl := backR_last (N := i + 1) (G := G) (goal := goal) (by omega) (by rw [← hpl]; exact hlast)
    simp only [Nat.add_sub_cancel] at hbl
    have hbE := backR_all (G := G)
    rw [hGe] at hbE hL
    rw [hpl]
    (repeat (first|with_reducible (first|refine wV fun _=>?_|refine wE ?_)|simp [go_sem, hi', hLei]))
    refine ALoop.start (ALoop.ind (α := Nat) (fun m => ⟨[(4, .ref 0 0 9 0 0), (8, .ref 3 0 2 0 0), (9, .ref 4 0 2 0 0), (11, .sl 13 0 1 0 (i + 1)), (12, .v (.int .i64 ((m : Int) - 1)))], [(0, .rows true 0 9 [encGame g]), (3, .rows true 0 2 [[AV.nils, .v (.int .i64 0)]]), (4, .rows true 0 2 [[.lst 1 (encD Ls), .v (.bool fp)]]), (13, .rows true 0 1 (backR (i + 1) G m))], 14⟩)
     (fun d m => d = m ∧ m ≤ i) ?_ i i ?_) ?_ ?_
    ·rintro d2 m ⟨rfl, m1⟩ hrec
     (repeat (first|with_reducible (first|refine wV fun _=>?_|refine wE ?_)|simp [go_sem]))
     refine aIf.mkL (fun hm => ?_) (fun hm => ?_) <;> simp at hm
     ·have e1 : ((d2 : Int) - 1).toNat = d2 - 1 := by omega
      have e2 : ((d2 : Int) - 1 + 1).toNat = d2 := by omega
      have hd1 : d2 - 1 < L.length := by omega
      have hd1' : d2 - 1 < Ls.length := by omega
      have hd2 : d2 - 1 < i + 1 := by omega
      have hd3 : d2 < i + 1 := by omega
      have hn := hLe (d2 - 1) hd1
      have hat := hat (d2 - 1) (by omega)
      rw [show d2 - 1 + 1 = d2 by omega, hpn _ hd2] at hat
      have hlm := nth_mem (show d2 - 1 < past.length by omega)
      rw [hpn _ hd2] at hlm
      have hLd := leading_pure g hg (nth Ls (d2 - 1)) (nth G d2) (hpast.2.2 _ hlm) (hGl _ (by omega)) (hpast.2.1 _ hlm) (fun q h => (hGok _ (by omega) q h).fits hg)
      rw [show leadP g (nth Ls (d2 - 1)) (nth G d2) = nth G (d2 - 1) from hat.symm] at hLd
      have hb1 : nth (backR (i + 1) G d2) d2 = [encPs (nth G d2)] := by rw [nth_backR _ _ _ (by omega), if_pos (Nat.le_refl _)]
      have hbs := backR_set (G := G) (N := i + 1) (m := d2 - 1) (by omega)
      rw [show d2 - 1 + 1 = d2 by omega] at hbs
      have ec : ((d2 - 1 : Nat) : Int) = (d2 : Int) - 1 := by omega
      (repeat (first|with_reducible (first|refine wV fun _=>?_|refine wE ?_)|simp [go_sem, hn, e1, e2, hd1', hd3, hb1]))
      refine dCall.plain hLd (by simp [go_sem, hegb]) ?_
      (repeat (first|with_reducible (first|refine wV fun _=>?_|refine wE ?_)|simp [go_sem, hn, e1, e2, hd1', hd2, hd3]))
      refine ALoop.start (hrec (d2 - 1) (by omega) (d2 - 1) ⟨rfl, by omega⟩) ?_ (by simp)
      simp [go_sem, Wk_eq, ec]
      rw [← hbs]
      exact .refl _
     ·obtain rfl : d2 = 0 := by omega
      rw [hbE]
      (repeat (first|with_reducible (first|refine wV fun _=>?_|refine wE ?_)|simp [go_sem]))
      refine ACallP.pureF [13] hL ?_ (by simp [go_sem]) ?_
      ·refine .cons (.refl _) (.cons (leV_frz rfl (by simp [encD_len, hGe]) (by simp [frzO, frz1, upd, noH]) ?_) .nil)
       rw [List.drop_zero]
       exact List.take_of_length_le (by simp [encD_len, hGe])
      ·(repeat (first|with_reducible (first|refine wV fun _=>?_|refine wE ?_)|simp [go_sem]))
    ·exact ⟨rfl, Nat.le_refl _⟩
    ·simp [go_sem, Wk_eq]
     rw [← hbl]
     exact leRows_setK (.cons (leV_frz rfl (by simp) (by simp [upd, noH]) (by simp [encPos, encIs])) .nil) _ _
    ·simp
  ·have hil : i = L.length := by omega
   subst hil
   have hgm := hN i2
   subst hgm
   (repeat (first|with_reducible (first|refine wV fun _=>?_|refine wE ?_)|simp [go_sem]))
   cases fp
   ·(repeat (first|with_reducible (first|refine wV fun _=>?_|refine wE ?_)|simp [go_sem]))
   ·(repeat (first|with_reducible (first|refine wV fun _=>?_|refine wE ?_)|simp [go_sem]))
 ·exact ⟨by omega, fun j hj => by omega⟩
 ·simp [go_sem, Wk_eq]
 ·simp
end Go.Av
end
section
open Go Go.Proofs
namespace Go.Av
theorem gameP_ok {g : GameD} (hg : GOk g) {p : PosD} (hp : POk g p) (goal : PosD) (n : Int) : (gameP g p goal n).1.length ≤ 4002 ∧ ∀ q ∈ (gameP g p goal n).1, POk g q := by
 unfold gameP
 cases hf : (searchP g p n).findIdx? (fun x => decide (goal ∈ x.1)) with
 | none => simp
 | some d =>
  obtain ⟨hd, hin, _⟩ := List.findIdx?_eq_some_iff_getElem.1 hf
  simp only
  obtain ⟨h1, h2, h3⟩ := searchP_past hg hp n d
  have hc := searchP_chain g p n d
  have hgl : goal ∈ nth (((searchP g p n).take (d + 1)).map (·.1)) ((((searchP g p n).take (d + 1)).map (·.1)).length - 1) := by
   have hl : (((searchP g p n).take (d + 1)).map (·.1)).length = d + 1 := by simp; omega
   rw [hl, Nat.add_sub_cancel, nth_map _ _ _ (by simp; omega), nth_eq _ _ (by simp; omega)]
   simpa using hin
  generalize ((searchP g p n).take (d + 1)).map (·.1) = past at *
  refine ⟨by simpa [traceP] using h1, fun q hq => ?_⟩
  obtain ⟨i, hi, rfl⟩ := List.mem_map.1 hq
  have hi := List.mem_range.1 hi
  exact h2 _ (nth_mem hi) _ (goodP_sub hi hgl _ (wayP_mem hc hgl i hi))
theorem ReachMatchesReference_pure (x : Raw6) (hx : Raw6Ok x) (y : RawP) (hy : RawPOk y) (picks : List Int) (hl : picks.length ≤ 1048576) (hb : ∀ k ∈ picks, -9223372036854775808 ≤ k ∧ k ≤ 9223372036854775807) :
  Pure Tryz.prog 4 [.agg (encRaw6 x), .agg (encRawP y), encIs picks] (.v (.bool true)) := by
 refine pF Tryz.func4 ?_
 have hM := R6Made_pure x hx
 have hg := game6_ok hx
 have hp := pos6_ok hx
 obtain ⟨er, her⟩ : ∃ er, er = encRaw6 x := ⟨_, rfl⟩
 have herl : er.length = 31 := by rw [her]; exact raw6_len hx
 have herb : ∀ n, (∀ c ∈ er, Bel n c) = True := fun n => by rw [her]; exact raw6_bel hx n
 rw [← her] at hM ⊢
 generalize game6 x = g at *
 generalize pos6 x = p at *
 have hY := R4Made_pure g hg y hy
 have hqo := madePos_ok hg hy
 obtain ⟨q, hq⟩ : ∃ q, q = madePos g y := ⟨_, rfl⟩
 rw [← hq] at hY hqo
 obtain ⟨yl, _, _, _, _, _, yb⟩ := rawRow hy
 obtain ⟨ey, hey⟩ : ∃ ey, ey = encRawP y := ⟨_, rfl⟩
 rw [← hey] at hY yl yb ⊢
 have hS := sanity27_pure
 have hWr := R6WalkA_pure g hg p hp picks (by omega)
 have hwl := walkP_len g picks p
 have hwo := fun m hm => walkP_ok hg picks hp m hm
 have hwp : 0 < (walkP g p picks).length := List.length_pos_iff.2 (walkP_ne g p picks)
 generalize walkP g p picks = w at *
 have hlo := hwo _ (nth_mem (show w.length - 1 < w.length by omega))
 have hwn : nth (w.map encPos) (w.length - 1) = encPos (nth w (w.length - 1)) := nth_map _ _ _ (by omega)
 have hF := fun goal (hq : POk g goal) n => found_pure g hg p hp goal (hq.fits hg) n
 have hG := fun goal (hq : POk g goal) n => Game27_pure g hg p hp goal (hq.fits hg) n
 have hQ := fun goal n => Same27_pure (gameP g p goal n) (gameP g p goal n) (by have := (gameP_ok hg hp goal n).1; omega) (by have := (gameP_ok hg hp goal n).1; omega) (fun m hm => ((gameP_ok hg hp goal n).2 m hm).fits hg) (fun m hm => ((gameP_ok hg hp goal n).2 m hm).fits hg)
 simp only [decide_true] at hQ
 have hC := fun goal (hq : POk g goal) (hl : w.length ≤ 17179869184) => Check_pure g hg p goal (hp.fits hg) (hq.fits hg) w hl hwo
 have hC2 := fun goal (hq : POk g goal) (hl : w.length ≤ 17179869184) => Check27_pure g hg p goal (hp.fits hg) (hq.fits hg) w hl hwo
 have hSn := fun n => seen27_pure g hg p hp n
 have hSr := fun n => Seen27_pure g hg p hp n
 have hGo := fun n => Go27_pure g hg p hp n
 generalize nth w (w.length - 1) = lst at *
 have hegl : (encGame g).length = 9 := rfl
 have hegb : ∀ n, (∀ c ∈ encGame g, Bel n c) = True := fun n => by simp [go_sem]
 generalize encGame g = eg at *
 (repeat (first|with_reducible (first|refine wV fun _=>?_|refine wE ?_)|simp [go_sem, herl, yl]))
 refine ACallP.plain hS (by simp [go_sem]) ?_
 (repeat (first|with_reducible (first|refine wV fun _=>?_|refine wE ?_)|simp [go_sem, herl, yl]))
 refine aIf.mkL (fun h8 => ?_) (fun h8 => ?_) <;> simp at h8
 ·(repeat (first|with_reducible (first|refine wV fun _=>?_|refine wE ?_)|simp [go_sem]))
 ·(repeat (first|with_reducible (first|refine wV fun _=>?_|refine wE ?_)|simp [go_sem, herl, yl]))
  refine ACallP.plain hM (by simp [go_sem, herb]) ?_
  (repeat (first|with_reducible (first|refine wV fun _=>?_|refine wE ?_)|simp [go_sem, herl, yl, hegl]))
  refine aIf.mkL (fun hA => ?one) (fun hA => ?two)
  case' one =>
   simp at hA
   have hnn : ((picks.length : Int) - 1).toNat = picks.length - 1 := by omega
   have hnk : nth (picks.map encI) (picks.length - 1) = [.v (.int .i64 (nth picks (picks.length - 1)))] := nth_map _ _ _ (by omega)
   (repeat (first|with_reducible (first|refine wV fun _=>?_|refine wE ?_)|simp [go_sem, herl, yl, hegl, hnn, hnk]))
   generalize (if 60 < nth picks (picks.length - 1) then 60 else nth picks (picks.length - 1)) = bud
  case' two =>
   simp at hA
   (repeat (first|with_reducible (first|refine wV fun _=>?_|refine wE ?_)|simp [go_sem, herl, yl, hegl]))
   generalize (60 : Int) = bud
  all_goals
   have hF1 := hF lst hlo bud
   have hF2 := hF q hqo bud
   have hG1 := hG lst hlo bud
   have hG2 := hG q hqo bud
   have hQ1 := hQ lst bud
   have hQ2 := hQ q bud
   have hC1 := hC lst hlo (by omega)
   have hC2' := hC q hqo (by omega)
   have hD1 := hC2 lst hlo (by omega)
   have hD2 := hC2 q hqo (by omega)
   have hSn := hSn bud
   have hSr := hSr bud
   have hGo := hGo bud
   have hsl := searchP_len hg hp bud
   have hsk := sortU_le cmpP (allOf (searchP g p bud))
   have hse : seenP g p bud = sortU cmpP (allOf (searchP g p bud)) := rfl
   have hso : ∀ m ∈ seenP g p bud, FitsP m := fun m hm => by
    rw [hse, sortU_mem] at hm
    obtain ⟨z, hz, hm⟩ := List.mem_flatMap.1 hm
    exact ((searchP_ok hg hp bud z hz).2 m hm).fits hg
   rw [← hse] at hsk
   have hSL := SameLists_pure (seenP g p bud) (seenP g p bud) (by omega) (by omega) hso hso
   rw [decide_eq_true rfl] at hSL
   unfold encSearch at hGo
   have hen : nth (encD [seenP g p bud]) 0 = [encPs (seenP g p bud)] := rfl
   clear hF hG hQ hC hC2
   generalize seenP g p bud = sn at *
   generalize fullP (searchP g p bud) = fl at *
   generalize (searchP g p bud).map (·.1) = dd at *
   generalize gameP g p lst bud = x1 at *
   generalize gameP g p q bud = x2 at *
   generalize checkP g p lst w = y1 at *
   generalize checkP g p q w = y2 at *
   refine ACallP.plain hWr (by simp [go_sem, hegb]) ?_
   (repeat (first|with_reducible (first|refine wV fun _=>?_|refine wE ?_)|simp [go_sem, herl, yl, hegl, hwn]))
   refine dCall.plain hY (by simp [go_sem, hegb, yb]) ?_
   (repeat (first|with_reducible (first|refine wV fun _=>?_|refine wE ?_)|simp [go_sem, herl, yl, hegl, hwn]))
   refine ALoop.start (ALoop.ind (α := Nat) (fun i => ⟨[(7, .v (.bool true)), (8, .ref 2 0 9 0 0), (9, .ref 3 0 5 0 0), (11, .v (.int .i64 bud)), (12, encPs w), (13, .ref 14 0 10 0 0), (14, .v (.int .i64 i))], [(2, .rows true 0 9 [eg]), (3, .rows true 0 5 [encPos p]), (14, .rows true 0 10 [encPos lst ++ encPos q])], 16⟩)
    (fun d i => i + d = 2) ?_ 2 0 ?_) ?_ ?_
   ·rintro d i i1 hrec
    (repeat (first|with_reducible (first|refine wV fun _=>?_|refine wE ?_)|simp [go_sem, hegl]))
    refine aIf.mkL (fun hi => ?_) (fun hi => ?_) <;> simp at hi
    ·have : i = 0 ∨ i = 1 := by omega
     rcases this with rfl | rfl
     ·(repeat (first|with_reducible (first|refine wV fun _=>?_|refine wE ?_)|simp [go_sem, hegl]))
      refine dCall.plain hF1 (by simp [go_sem, hegb]) ?_
      (repeat (first|with_reducible (first|refine wV fun _=>?_|refine wE ?_)|simp [go_sem, hegl]))
      refine dCall.plain hG1 (by simp [go_sem, hegb]) ?_
      (repeat (first|with_reducible (first|refine wV fun _=>?_|refine wE ?_)|simp [go_sem, hegl]))
      refine dCall.plain hQ1 (by simp [go_sem, hegb, encFound]) ?_
      (repeat (first|with_reducible (first|refine wV fun _=>?_|refine wE ?_)|simp [go_sem, hegl]))
      refine dGC.plain _ (fun _ => hC1) (by simp [go_sem, hegb]) ?_
      (repeat (first|with_reducible (first|refine wV fun _=>?_|refine wE ?_)|simp [go_sem, hegl]))
      refine dGC.plain _ (fun _ => hD1) (by simp [go_sem, hegb]) ?_
      (repeat (first|with_reducible (first|refine wV fun _=>?_|refine wE ?_)|simp [go_sem, hegl]))
      refine ALoop.start (hrec (d - 1) (by omega) 1 (by omega)) ?_ (by simp)
      simp [go_sem, Wk_eq, hegb]
     ·(repeat (first|with_reducible (first|refine wV fun _=>?_|refine wE ?_)|simp [go_sem, hegl]))
      refine dCall.plain hF2 (by simp [go_sem, hegb]) ?_
      (repeat (first|with_reducible (first|refine wV fun _=>?_|refine wE ?_)|simp [go_sem, hegl]))
      refine dCall.plain hG2 (by simp [go_sem, hegb]) ?_
      (repeat (first|with_reducible (first|refine wV fun _=>?_|refine wE ?_)|simp [go_sem, hegl]))
      refine dCall.plain hQ2 (by simp [go_sem, hegb, encFound]) ?_
      (repeat (first|with_reducible (first|refine wV fun _=>?_|refine wE ?_)|simp [go_sem, hegl]))
      refine dGC.plain _ (fun _ => hC2') (by simp [go_sem, hegb]) ?_
      (repeat (first|with_reducible (first|refine wV fun _=>?_|refine wE ?_)|simp [go_sem, hegl]))
      refine dGC.plain _ (fun _ => hD2) (by simp [go_sem, hegb]) ?_
      (repeat (first|with_reducible (first|refine wV fun _=>?_|refine wE ?_)|simp [go_sem, hegl]))
      refine ALoop.start (hrec (d - 1) (by omega) 2 (by omega)) ?_ (by simp)
      simp [go_sem, Wk_eq, hegb]
    ·(repeat (first|with_reducible (first|refine wV fun _=>?_|refine wE ?_)|simp [go_sem, hegl]))
     refine ACallP.plain hSn (by simp [go_sem, hegb]) ?_
     (repeat (first|with_reducible (first|refine wV fun _=>?_|refine wE ?_)|simp [go_sem, hegl, hen]))
     refine dCall.plain hSr (by simp [go_sem, hegb]) ?_
     (repeat (first|with_reducible (first|refine wV fun _=>?_|refine wE ?_)|simp [go_sem, hegl, hen]))
     refine dCall.plain hSL (by simp [go_sem]) ?_
     (repeat (first|with_reducible (first|refine wV fun _=>?_|refine wE ?_)|simp [go_sem, hegl, hen]))
     refine dGC.plain _ (fun _ => hGo) (by simp [go_sem, hegb]) ?_
     (repeat (first|with_reducible (first|refine wV fun _=>?_|refine wE ?_)|simp [go_sem, hegl, hen]))
   ·rfl
   ·simp [go_sem, Wk_eq, hegb]
   ·simp
end Go.Av
end
section
open Go Go.Proofs Go.Av
namespace Go.Av
open Go.Proofs.YtjajfalomchohaaGreatDoor
abbrev I64W (n : Int) : Prop := (Lit.int .i64 n).wf = true
theorem opn_ints : Opn Tryz.prog 1048576 UpB 36 (fun l : List Int => [.lst 1 (l.map fun n => [.v (.int .i64 n)])]) (fun l => l.length ≤ 1048576 ∧ ∀ x ∈ l, I64W x) :=
 Opn.slice (sz := 1) Bulk.upto Tryz.underlying36 (by kernel_rfl) (by kernel_rfl) Nat.one_pos (Opn.int Tryz.underlying3 (by kernel_rfl))
end Go.Av
end
