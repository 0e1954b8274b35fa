/- Texts of ours, part 9: contracts and facts for this claim. -/
import Derived.Test.YtjajfalomchohaaGreatDoorB09
set_option linter.unusedSimpArgs false
set_option linter.unusedVariables false
set_option maxRecDepth 100000
set_option maxHeartbeats 40000000
section
open Go Go.Proofs
namespace Go.Av
theorem goodP_len (g : GameD) (goal : PosD) : ∀ past : List (List PosD), (goodP g past goal).length = past.length
 | [] => rfl
 | [_] => rfl
 | l :: m :: ls => by
  have := goodP_len g goal (m :: ls)
  rw [goodP, List.length_cons, this, List.length_cons]
  simp
end Go.Av
end
section
open Go Go.Proofs
namespace Go.Av
theorem R6Legal_pure (g : GameD) (hg : GOk g) (p : PosD) (hp : POk g p) (q : PosD) (hq : FitsP q) : Pure Tryz.prog 73 [.agg (encGame g), .agg (encPos p), .agg (encPos q)] (.v (.bool (decide (q ∈ movesP g p)))) := by
 refine pF Tryz.func73 ?_
 have hM := R6Moves_pure g hg p hp
 have hml := movesP_len hg hp
 have hmf := fun m hm => ((movesP_ok hg hp) m hm).1.fits hg
 generalize movesP g p = l at *
 (repeat (first|with_reducible (first|refine wV fun _=>?_|refine wE ?_)|simp [go_sem]))
 refine ACallP.plain hM (by simp [go_sem]) ?_
 (repeat (first|with_reducible (first|refine wV fun _=>?_|refine wE ?_)|simp [go_sem]))
 refine ALoop.start (ALoop.ind (α := Nat) (fun i => ⟨[(5, .ref 2 0 5 0 0), (7, encPs l), (8, .v (.int .i64 i))], [(2, .rows true 0 5 [encPos q])], 3⟩)
  (fun d i => i + d = l.length ∧ ∀ j, j < i → nth l j ≠ q) ?_ l.length 0 ?_) ?_ ?_
 ·rintro d i ⟨i1, i2⟩ hrec
  (repeat (first|with_reducible (first|refine wV fun _=>?_|refine wE ?_)|simp [go_sem]))
  refine aIf.mkL (fun hi => ?_) (fun hi => ?_) <;> simp at hi
  ·have hS := R4Same_pure (nth l i) q (hmf _ (nth_mem hi)) hq
   have hmi := nth_mem hi
   rw [show decide (cmpP (nth l i) q = 0) = decide (nth l i = q) by rw [decide_eq_decide]; exact cmp_pos.eq _ _] at hS
   (repeat (first|with_reducible (first|refine wV fun _=>?_|refine wE ?_)|simp [go_sem, hi]))
   refine dCall.plain hS (by simp [go_sem]) ?_
   by_cases h : nth l i = q
   ·have e : decide (q ∈ l) = true := decide_eq_true (h ▸ hmi)
    rw [e]
    (repeat (first|with_reducible (first|refine wV fun _=>?_|refine wE ?_)|simp [go_sem, h]))
   ·(repeat (first|with_reducible (first|refine wV fun _=>?_|refine wE ?_)|simp [go_sem, h]))
    refine ALoop.start (hrec (d - 1) (by omega) (i + 1) ⟨by omega, fun j hj => ?_⟩) ?_ (by simp)
    ·rcases Nat.lt_or_ge j i with h' | h'
     ·exact i2 j h'
     ·obtain rfl : j = i := by omega
      exact h
    ·simp [go_sem, Wk_eq]
  ·have e : decide (q ∈ l) = false := decide_eq_false fun hm => by
    obtain ⟨j, hj, rfl⟩ := List.getElem_of_mem hm
    exact i2 j (by omega) (nth_eq _ _ hj)
   rw [e]
   (repeat (first|with_reducible (first|refine wV fun _=>?_|refine wE ?_)|simp [go_sem]))
 ·exact ⟨by simp, fun j hj => by omega⟩
 ·simp [go_sem, Wk_eq]
 ·simp
end Go.Av
end
section
open Go Go.Proofs
namespace Go.Av
theorem tmod_or (k : Int) {n : Int} (hn : 0 < n) : k.tmod n = k.emod n ∨ k.tmod n = k.emod n - n := by
 show k.tmod n = k % n ∨ k.tmod n = k % n - n
 rw [Int.tmod_eq_emod]
 split
 ·left; omega
 ·right; omega
theorem R6WalkA_pure (g : GameD) (hg : GOk g) (p : PosD) (hp : POk g p) (picks : List Int) (hl : picks.length ≤ 4294967296) :
  Pure Tryz.prog 20 [.agg (encGame g), .agg (encPos p), encIs picks] (encPs (walkP g p picks)) := by
 refine pF Tryz.func20 ?_
 generalize hR : walkP g p picks = R
 (repeat (first|with_reducible (first|refine wV fun _=>?_|refine wE ?_)|simp [go_sem]))
 refine ALoop.start (ALoop.ind (α := Nat × List PosD × PosD) (fun a => ⟨[(2, encIs picks), (3, .ref 0 0 9 0 0), (4, .ref 1 0 5 0 0), (7, .sl 2 a.2.1.length 5 0 (a.2.1.length + 1)), (8, .v (.int .i64 a.1))], [(0, .rows true 0 9 [encGame g]), (1, .rows true 0 5 [encPos a.2.2]), (2, .rows true a.2.1.length 5 ((a.2.1 ++ [a.2.2]).map encPos))], 3⟩)
  (fun d a => a.1 + d = picks.length ∧ a.2.1.length = a.1 ∧ POk g a.2.2 ∧ R = a.2.1 ++ walkP g a.2.2 (picks.drop a.1)) ?_ picks.length (0, [], p) ?_) ?_ ?_
 ·rintro d ⟨i, pre, cur⟩ ⟨i1, i2, i3, i4⟩ hrec
  simp only at i1 i2 i3 i4
  (repeat (first|with_reducible (first|refine wV fun _=>?_|refine wE ?_)|simp [go_sem]))
  refine aIf.mkL (fun hi => ?_) (fun hi => ?_) <;> simp at hi
  ·have hM := R6Moves_pure g hg cur i3
   have hml := movesP_len hg i3
   have hmo := movesP_ok hg i3
   rw [dropG_cons hi, walkP] at i4
   generalize movesP g cur = l at *
   (repeat (first|with_reducible (first|refine wV fun _=>?_|refine wE ?_)|simp [go_sem]))
   refine ACallP.plain hM (by simp [go_sem]) ?_
   (repeat (first|with_reducible (first|refine wV fun _=>?_|refine wE ?_)|simp [go_sem]))
   by_cases hz : l = []
   ·rw [if_pos hz] at i4
    subst hz
    (repeat (first|with_reducible (first|refine wV fun _=>?_|refine wE ?_)|simp [go_sem]))
    rw [i4]
    exact frX
   ·rw [if_neg hz] at i4
    have hlp : 0 < l.length := List.length_pos_iff.2 hz
    have e2 : 0 ≤ (nth picks i).emod l.length := Int.emod_nonneg _ (by omega)
    have e3 : (nth picks i).emod l.length < l.length := Int.emod_lt_of_pos _ (by omega)
    have h3 : (nth picks i).tmod l.length = (nth picks i).emod l.length ∨ (nth picks i).tmod l.length = (nth picks i).emod l.length - l.length := tmod_or (nth picks i) (by omega)
    generalize (nth picks i).emod l.length = j at *
    have hjl : j.toNat < l.length := by omega
    rcases h3 with e1 | e1
    ·(repeat (first|with_reducible (first|refine wV fun _=>?_|refine wE ?_)|simp [go_sem, hi, hz, e1, hjl]))
     (refine aIf.mkL (fun hF => by first | omega | (simp at hF; omega)) (fun hF => ?_); clear hF)
     (repeat (first|with_reducible (first|refine wV fun _=>?_|refine wE ?_)|simp [go_sem, hjl]))
     refine ALoop.start (hrec (d - 1) (by omega) (i + 1, pre ++ [cur], nth l j.toNat) ⟨by simp only; omega, by simp; omega, (hmo _ (nth_mem hjl)).1, by simpa using i4⟩) ?_ (by simp)
     simp [go_sem, Wk_eq]
    ·have e4 : j - (l.length : Int) + l.length = j := by omega
     (repeat (first|with_reducible (first|refine wV fun _=>?_|refine wE ?_)|simp [go_sem, hi, hz, e1, hjl, e4]))
     (refine aIf.mkL (fun hT => ?_) (fun hT => by first | omega | (simp at hT; omega)); clear hT)
     (repeat (first|with_reducible (first|refine wV fun _=>?_|refine wE ?_)|simp [go_sem, hjl, e4]))
     refine ALoop.start (hrec (d - 1) (by omega) (i + 1, pre ++ [cur], nth l j.toNat) ⟨by simp only; omega, by simp; omega, (hmo _ (nth_mem hjl)).1, by simpa using i4⟩) ?_ (by simp)
     simp [go_sem, Wk_eq]
  ·rw [List.drop_eq_nil_of_le hi, walkP] at i4
   (repeat (first|with_reducible (first|refine wV fun _=>?_|refine wE ?_)|simp [go_sem]))
   rw [i4]
   exact frX
 ·exact ⟨by simp, rfl, hp, by simp [hR]⟩
 ·simp [go_sem, Wk_eq]
 ·simp
end Go.Av
end
section
open Go Go.Proofs
namespace Go.Av
theorem Budget_pure (n : Int) : Pure Tryz.prog 76 [.v (.int .i64 n)] (.v (.int .i64 (budP n))) := by
 refine pF Tryz.func76 ?_
 have e : budP n = if 0 < (if 4000 < n then 4000 else n) then (if 4000 < n then 4000 else n) else 0 := by
  unfold budP
  split <;> split <;> (try split) <;> omega
 rw [e]
 (repeat (first|with_reducible (first|refine wV fun _=>?_|refine wE ?_)|simp [go_sem]))
theorem further_eq {g : GameD} {known now : List PosD} : (sortU cmpP (now.flatMap (movesP g))).filter (fun q => decide (fndP (sortU cmpP known) q < 0)) = sortU cmpP (nextP g known now) := by
 refine (sortU_unique cmp_pos ((sortU_pw cmp_pos _).filter _) fun x => ?_).symm
 rw [nextP_mem, List.mem_filter, sortU_mem, List.mem_flatMap, decide_eq_true_eq]
 have h := fndP_mem (l := sortU cmpP known) (sortU_pw cmp_pos _) (p := x)
 rw [sortU_mem] at h
 constructor
 ·rintro ⟨h1, h2⟩
  exact ⟨h1, by
   have : ¬ 0 ≤ fndP (sortU cmpP known) x := fun h' => h2 (h.1 h')
   omega⟩
 ·rintro ⟨h1, h2⟩
  exact ⟨h1, fun h' => by have := h.2 h'; omega⟩
theorem further_pure (g : GameD) (hg : GOk g) (known now : List PosD) (hs : SearchOk g known now) (hn : now.length ≤ 4000) (hk : known.length ≤ 17179869184) :
  Pure Tryz.prog 77 [.agg (encGame g), encPs now, encPs (sortU cmpP known)] (encPs (sortU cmpP (nextP g known now))) := by
 refine pF Tryz.func77 ?_
 have hok := hs.now_ok
 rw [← further_eq]
 obtain ⟨al, hal⟩ : ∃ al : Nat → List PosD, ∀ k, al k = (now.take k).flatMap (movesP g) := ⟨_, fun _ => rfl⟩
 have hall : ∀ k, (al k).length ≤ 1889784000 := fun k => by
  have := flatMap_moves_len hg (now := now.take k) (fun q hq => hok q (List.mem_of_mem_take hq))
  have h2 : (now.take k).length ≤ 4000 := by simp; omega
  rw [hal]
  omega
 have hals : ∀ k, k < now.length → al (k + 1) = al k ++ movesP g (nth now k) := fun k hk => by
  rw [hal, hal, List.take_add_one, List.getElem?_eq_getElem hk, nth_eq _ _ hk, Option.toList_some, List.flatMap_append]; simp
 have hal0 : al 0 = [] := by rw [hal]; rfl
 have halE : al now.length = now.flatMap (movesP g) := by rw [hal, List.take_length]
 have halo : ∀ q ∈ now.flatMap (movesP g), FitsP q := fun q hq => by
  obtain ⟨r, hr, hm⟩ := List.mem_flatMap.1 hq
  exact ((movesP_ok hg (hok r hr) q hm).1).fits hg
 have hkf : ∀ q ∈ sortU cmpP known, FitsP q := fun q hq => (hs.ok q (sortU_mem.1 hq)).fits hg
 have hkl : (sortU cmpP known).length ≤ 17179869184 := Nat.le_trans (sortU_le _ _) hk
 have hFd := fun q hq => rFind_pure (sortU cmpP known) (sortU_pw cmp_pos _) hkl hkf q hq
 have hM := fun i hi => R6Moves_pure g hg (nth now i) (hok _ (nth_mem (i := i) hi))
 clear hal
 generalize sortU cmpP known = kn at *
 (repeat (first|with_reducible (first|refine wV fun _=>?_|refine wE ?_)|simp [go_sem]))
 refine ALoop.start (ALoop.ind (α := Nat) (fun k => ⟨[(1, encPs now), (2, encPs kn), (3, .ref 0 0 9 0 0), (7, .sl 1 k 5 0 (al k).length), (8, .sl 2 0 5 0 0), (9, .v (.int .i64 k))], [(0, .rows true 0 9 [encGame g]), (1, .rows true k 5 ((al k).map encPos)), (2, .rows true 0 5 [])], 3⟩)
  (fun d k => k + d = now.length) ?_ now.length 0 ?_) ?_ ?_
 ·rintro d k k1 hrec
  (repeat (first|with_reducible (first|refine wV fun _=>?_|refine wE ?_)|simp [go_sem]))
  refine aIf.mkL (fun hk => ?_) (fun hk => ?_) <;> simp at hk
  ·have hMk := hM k hk
   have h1 := hall k
   have h2 := hall (k + 1)
   have hals := hals k hk
   have h3 : (al k).length + (movesP g (nth now k)).length ≤ 1889784000 := by rw [hals, List.length_append] at h2; exact h2
   generalize movesP g (nth now k) = mv at *
   (repeat (first|with_reducible (first|refine wV fun _=>?_|refine wE ?_)|simp [go_sem, hk]))
   refine dCall.plain hMk (by simp [go_sem]) ?_
   (repeat (first|with_reducible (first|refine wV fun _=>?_|refine wE ?_)|simp [go_sem, hk]))
   refine ALoop.start (hrec (d - 1) (by omega) (k + 1) (by omega)) ?_ (by simp)
   simp [go_sem, Wk_eq, hals]
  ·obtain rfl : k = now.length := by omega
   have h1 := hall now.length
   rw [halE] at *
   have hSo := R4Sort_pure (now.flatMap (movesP g)) (by omega) halo
   have hSl := sortU_le cmpP (now.flatMap (movesP g))
   have hSf : ∀ q ∈ sortU cmpP (now.flatMap (movesP g)), FitsP q := fun q hq => halo q (sortU_mem.1 hq)
   generalize now.flatMap (movesP g) = all at *
   generalize sortU cmpP all = S at *
   (repeat (first|with_reducible (first|refine wV fun _=>?_|refine wE ?_)|simp [go_sem]))
   refine ACallP.pureF [1] hSo ?_ (bel1 (bel_encPs _)) ?_
   ·exact agX
   (repeat (first|with_reducible (first|refine wV fun _=>?_|refine wE ?_)|simp [go_sem]))
   obtain ⟨fl, hfl⟩ : ∃ fl : Nat → List PosD, ∀ k, fl k = (S.take k).filter (fun q => decide (fndP kn q < 0)) := ⟨_, fun _ => rfl⟩
   have hfll : ∀ k, (fl k).length ≤ 1889784000 := fun k => by
    have h1 : (fl k).length ≤ (S.take k).length := by rw [hfl]; exact List.length_filter_le _ _
    have h2 : (S.take k).length ≤ S.length := by simp; omega
    omega
   have hfl0 : fl 0 = [] := by rw [hfl]; rfl
   have hfls : ∀ k, k < S.length → fl (k + 1) = if fndP kn (nth S k) < 0 then fl k ++ [nth S k] else fl k := fun k hk => by
    rw [hfl, hfl, List.take_add_one, List.getElem?_eq_getElem hk, nth_eq _ _ hk, Option.toList_some, List.filter_append]
    by_cases h : fndP kn S[k] < 0 <;> simp [h]
   have hflE : fl S.length = S.filter (fun q => decide (fndP kn q < 0)) := by rw [hfl, List.take_length]
   rw [← hflE]
   clear hfl hflE
   refine ALoop.start (ALoop.ind (α := Nat) (fun k => ⟨[(2, encPs kn), (7, encPs S), (8, .sl 2 (fl k).length 5 0 (fl k).length), (10, .v (.int .i64 k))], [(2, .rows true (fl k).length 5 ((fl k).map encPos))], 3⟩)
    (fun d k => k + d = S.length) ?_ S.length 0 ?_) ?_ ?_
   ·rintro d k k1 hrec
    (repeat (first|with_reducible (first|refine wV fun _=>?_|refine wE ?_)|simp [go_sem]))
    refine aIf.mkL (fun hk => ?_) (fun hk => ?_) <;> simp at hk
    ·have hC := hFd _ (hSf _ (nth_mem hk))
     have hfls := hfls k hk
     have h1 := hfll k
     have h2 := hfll (k + 1)
     generalize hq : nth S k = q at *
     generalize fndP kn q = fi at *
     (repeat (first|with_reducible (first|refine wV fun _=>?_|refine wE ?_)|simp [go_sem, hk, hq]))
     refine ACallP.plain hC (by simp [go_sem]) ?_
     (repeat (first|with_reducible (first|refine wV fun _=>?_|refine wE ?_)|simp [go_sem]))
     refine aIf.mkL (fun hz => ?_) (fun hz => ?_) <;> simp at hz
     ·rw [if_pos hz] at hfls
      (repeat (first|with_reducible (first|refine wV fun _=>?_|refine wE ?_)|simp [go_sem, hk, hq]))
      refine ALoop.start (hrec (d - 1) (by omega) (k + 1) (by omega)) ?_ (by simp)
      simp [go_sem, Wk_eq, hfls]
     ·rw [if_neg (by omega)] at hfls
      (repeat (first|with_reducible (first|refine wV fun _=>?_|refine wE ?_)|simp [go_sem]))
      refine ALoop.start (hrec (d - 1) (by omega) (k + 1) (by omega)) ?_ (by simp)
      simp [go_sem, Wk_eq, hfls]
    ·obtain rfl : k = S.length := by omega
     (repeat (first|with_reducible (first|refine wV fun _=>?_|refine wE ?_)|simp [go_sem]))
     exact frX
   ·simp
   ·simp [go_sem, Wk_eq, hfl0]
   ·simp
 ·simp
 ·simp [go_sem, Wk_eq, hal0]
 ·simp
def encSearch (L : List (List PosD × Bool)) : AV := .agg [.lst 1 (encD (L.map (·.1))), .v (.bool (fullP L))]
theorem fullP_end : ∀ (pre : List (List PosD)) (x : List PosD × Bool), fullP (pre.map (fun l => (l, false)) ++ [x]) = x.2
 | [], x => rfl
 | [l], x => rfl
 | l :: m :: pre, x => by
  have := fullP_end (m :: pre) x
  simp only [List.map_cons, List.cons_append] at this ⊢
  rw [fullP]
  ·exact this
  ·simp
theorem Go27_pure (g : GameD) (hg : GOk g) (p : PosD) (hp : POk g p) (n : Int) : Pure Tryz.prog 29 [.agg (encGame g), .agg (encPos p), .v (.int .i64 n)] (encSearch (searchP g p n)) := by
 refine pF Tryz.func29 ?_
 have hB := Budget_pure n
 have hb := budP_range n
 unfold searchP
 generalize budP n = b at *
 generalize hR : layersP g b (b.toNat + 2) [p] [p] = R
 unfold encSearch
 (repeat (first|with_reducible (first|refine wV fun _=>?_|refine wE ?_)|simp [go_sem]))
 refine ALoop.start (ALoop.ind (α := List PosD × List PosD × List (List PosD)) (fun a => ⟨[(2, .v (.int .i64 n)), (3, .ref 0 0 9 0 0), (6, .ref 2 0 2 0 0), (7, .ref 9 0 2 0 0), (8, encPs (sortU cmpP a.1))], [(0, .rows true 0 9 [encGame g]), (2, .rows true 0 2 [[AV.nils, .v (.bool false)]]), (5, .rows true a.2.2.length 1 (encD (a.2.2 ++ [a.2.1]))), (9, .rows true 0 2 [[.sl 5 a.2.2.length 1 0 (a.2.2.length + 1), .v (.bool false)]])], 12⟩)
  (fun d a => SearchOk g a.1 a.2.1 ∧ 1 ≤ d ∧ b.toNat + 2 ≤ a.1.length + d ∧ a.1.length ≤ 1889788000 ∧ a.2.2.length + d = b.toNat + 2 ∧ R = (a.2.2.map fun l => (l, false)) ++ layersP g b d a.1 a.2.1) ?_ (b.toNat + 2) ([p], [p], []) ?_) ?_ ?_
 ·rintro d ⟨known, now, pre⟩ ⟨i1, i2, i3, i4, i6, i5⟩ hrec
  simp only at i1 i2 i3 i4 i5 i6
  obtain ⟨d, rfl⟩ : ∃ d', d = d' + 1 := ⟨d - 1, by omega⟩
  rw [layersP] at i5
  have hkl := sortU_nodup_len i1.nd
  have hnl := i1.now_len
  (repeat (first|with_reducible (first|refine wV fun _=>?_|refine wE ?_)|simp [go_sem]))
  refine ACallP.plain hB (by simp [go_sem]) ?_
  (repeat (first|with_reducible (first|refine wV fun _=>?_|refine wE ?_)|simp [go_sem, hkl]))
  refine aIf.mkL (fun hk => ?_) (fun hk => ?_) <;> simp at hk
  ·rw [if_pos hk] at i5
   have hf : fullP R = false := by rw [i5]; exact fullP_end pre (now, false)
   have hD : R.map (·.1) = pre ++ [now] := by rw [i5]; simp [Function.comp_def]
   rw [hf, hD]
   (repeat (first|with_reducible (first|refine wV fun _=>?_|refine wE ?_)|simp [go_sem]))
   exact leV_frz rfl (by simp [encD]) (by simp [upd, noH]) (by rw [List.drop_zero]; exact List.take_of_length_le (by simp [encD]))
  ·rw [if_neg (by omega)] at i5
   have hF := further_pure g hg known now i1 (by omega) (by omega)
   have hnx := nextP_len hg (known := known) i1.now_ok
   have hn2 := i1.next hg
   have hnd : (known ++ nextP g known now).length = known.length + (nextP g known now).length := List.length_append
   have hsl := sortU_nodup_len (nextP_nodup g known now)
   have hso : ∀ q ∈ sortU cmpP (nextP g known now), FitsP q := fun q hq => (nextP_ok hg i1.now_ok q (sortU_mem.1 hq)).fits hg
   have hSo := R4Sort_pure (sortU cmpP known ++ sortU cmpP (nextP g known now)) (by rw [List.length_append, hkl, hsl]; omega) (fun q hq => by
    rcases List.mem_append.1 hq with h | h
    ·exact (i1.ok q (sortU_mem.1 h)).fits hg
    ·exact hso q h)
   have hSe : sortU cmpP (sortU cmpP known ++ sortU cmpP (nextP g known now)) = sortU cmpP (known ++ nextP g known now) := sortU_congr cmp_pos (fun x => by simp [sortU_mem])
   rw [hSe] at hSo
   have hce : nth (encD (pre ++ [now])) pre.length = [encPs now] := by rw [nth_encD (by simp), nth_eq _ _ (by simp)]; simp
   have hkl2 : (sortU cmpP known).length = known.length := hkl
   have hsl2 : (sortU cmpP (nextP g known now)).length = (nextP g known now).length := hsl
   have hz0 : (sortU cmpP (nextP g known now) = []) = (nextP g known now = []) := propext ⟨fun h => List.eq_nil_of_length_eq_zero (by rw [← hsl, h]; rfl), fun h => List.eq_nil_of_length_eq_zero (by rw [hsl, h]; rfl)⟩
   (repeat (first|with_reducible (first|refine wV fun _=>?_|refine wE ?_)|simp [go_sem, hce]))
   refine dCall.plain hF (by simp [go_sem]) ?_
   by_cases hz : nextP g known now = []
   ·rw [if_pos hz] at i5
    have hf : fullP R = true := by rw [i5]; exact fullP_end pre (now, true)
    have hD : R.map (·.1) = pre ++ [now] := by rw [i5]; simp [Function.comp_def]
    rw [hf, hD]
    have e0 : sortU cmpP ([] : List PosD) = [] := sortU_unique cmp_pos (by simp) (fun x => Iff.rfl)
    (repeat (first|with_reducible (first|refine wV fun _=>?_|refine wE ?_)|simp [go_sem, hsl2, hz0, hz, e0]))
    exact leV_frz rfl (by simp [encD]) (by simp [upd, noH]) (by rw [List.drop_zero]; exact List.take_of_length_le (by simp [encD]))
   ·rw [if_neg hz] at i5
    have hz2 : (nextP g known now = []) = False := eq_false hz
    have hpos := List.length_pos_iff.2 hz
    generalize nextP g known now = nx at *
    (repeat (first|with_reducible (first|refine wV fun _=>?_|refine wE ?_)|simp [go_sem, hsl2, hz0, hz2]))
    refine ACallP.pureF [25] hSo ?_ (bel1 (bel_encPs _)) ?_
    ·exact .cons (leV_frz rfl (by simp [hsl2]) (by simp [frzO, frz1, upd, noH]) (by simp; exact List.take_of_length_le (by simp [hsl2]))) .nil
    (repeat (first|with_reducible (first|refine wV fun _=>?_|refine wE ?_)|simp [go_sem]))
    refine ALoop.start (hrec d (by omega) (known ++ nx, sortU cmpP nx, pre ++ [now]) ⟨hn2, by omega, by simp only; omega, by simp only; omega, by simp; omega, by rw [i5]; simp⟩) ?_ (by simp)
    simp [go_sem, Wk_eq, encD]
 ·exact ⟨SearchOk.start hp, by omega, by simp only [List.length_singleton]; omega, by simp, by simp, by simp [hR]⟩
 ·have e1 : sortU cmpP [p] = [p] := sortU_unique cmp_pos (by simp) (fun x => Iff.rfl)
  simp [go_sem, Wk_eq, e1]
  refine ⟨leV_frz rfl (by simp) (by simp [noH, upd]) (by simp [go_sem]), .cons (.cons (leV_frz rfl (by simp) (by simp [noH, upd]) (by simp [go_sem])) .nil) .nil⟩
 ·simp
theorem Seen27_pure (g : GameD) (hg : GOk g) (p : PosD) (hp : POk g p) (n : Int) : Pure Tryz.prog 28 [.agg (encGame g), .agg (encPos p), .v (.int .i64 n)] (encPs (seenP g p n)) := by
 refine pF Tryz.func28 ?_
 have hG := Go27_pure g hg p hp n
 have hlen := searchP_len hg hp n
 have hok := allOf_ok hg hp n
 have hcnt := searchP_count g p n
 unfold seenP
 unfold encSearch at hG
 generalize searchP g p n = L at *
 obtain ⟨al, hal⟩ : ∃ al : Nat → List PosD, al = fun k => allOf (L.take k) := ⟨_, rfl⟩
 have hall : ∀ k, (al k).length ≤ 1889788001 := fun k => by
  have e : allOf L = allOf (L.take k) ++ allOf (L.drop k) := by
   unfold allOf
   rw [← List.flatMap_append, List.take_append_drop]
  rw [e, List.length_append] at hlen
  rw [hal]
  simp only
  omega
 have hals : ∀ k, k < L.length → al (k + 1) = al k ++ (nth L k).1 := fun k hk => by rw [hal]; simp only; unfold allOf; rw [List.take_add_one, List.getElem?_eq_getElem hk, nth_eq _ _ hk, Option.toList_some, List.flatMap_append]; simp
 have hal0 : al 0 = [] := by rw [hal]; rfl
 have halE : al L.length = allOf L := by rw [hal]; simp
 have hSo := R4Sort_pure (allOf L) (by omega) (fun q hq => (hok q hq).fits hg)
 have hDl : (L.map (·.1)).length = L.length := by simp
 have hDn : ∀ k, k < L.length → nth (encD (L.map (·.1))) k = [encPs (nth L k).1] := fun k hk => by rw [nth_encD (by simpa using hk), nth_map _ _ _ hk]
 rw [← halE] at hSo ⊢
 clear hal halE hlen hok
 generalize L.map (·.1) = D at *
 generalize fullP L = full at *
 (repeat (first|with_reducible (first|refine wV fun _=>?_|refine wE ?_)|simp [go_sem]))
 refine ACallP.plain hG (by simp [go_sem]) ?_
 (repeat (first|with_reducible (first|refine wV fun _=>?_|refine wE ?_)|simp [go_sem]))
 refine ALoop.start (ALoop.ind (α := Nat) (fun k => ⟨[(7, .ref 3 0 2 0 0), (8, .sl 2 k 5 0 (al k).length), (9, .v (.int .i64 k))], [(2, .rows true k 5 ((al k).map encPos)), (3, .rows true 0 2 [[.lst 1 (encD D), .v (.bool full)]])], 4⟩)
  (fun d k => k + d = L.length) ?_ L.length 0 ?_) ?_ ?_
 ·rintro d k k1 hrec
  (repeat (first|with_reducible (first|refine wV fun _=>?_|refine wE ?_)|simp [go_sem, hDl]))
  refine aIf.mkL (fun hk => ?_) (fun hk => ?_) <;> simp at hk
  ·have hn := hDn k hk
   have h1 := hall k
   have h2 := hall (k + 1)
   have hals := hals k hk
   have h3 : (al k).length + (nth L k).1.length ≤ 1889788001 := by rw [hals, List.length_append] at h2; exact h2
   have hkD : k < D.length := by omega
   generalize (nth L k).1 = now at *
   (repeat (first|with_reducible (first|refine wV fun _=>?_|refine wE ?_)|simp [go_sem, hn, hkD]))
   refine ALoop.start (hrec (d - 1) (by omega) (k + 1) (by omega)) ?_ (by simp)
   simp [go_sem, Wk_eq, hals]
  ·obtain rfl : k = L.length := by omega
   generalize al L.length = all at *
   (repeat (first|with_reducible (first|refine wV fun _=>?_|refine wE ?_)|simp [go_sem]))
   refine ACallP.pureF [2] hSo ?_ (bel1 (bel_encPs _)) ?_
   ·exact agX
   (repeat (first|with_reducible (first|refine wV fun _=>?_|refine wE ?_)|simp [go_sem]))
 ·simp
 ·simp [go_sem, Wk_eq, hal0]
 ·simp
end Go.Av
end
