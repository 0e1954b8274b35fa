/- Texts of ours, part 9: contracts and facts for this claim. -/
import Derived.Test.YtblaonmapofniaaGreatDoorB09
import Derived.Test.YtblaonmapofniaaGreatDoorRRx08
set_option linter.unusedSimpArgs false
set_option linter.unusedVariables false
set_option maxRecDepth 100000
set_option maxHeartbeats 40000000
section
open Go Go.Proofs
namespace Go.Av
theorem tmod_or (k : Int) {n : Int} (hn : 0 < n) : k.tmod n = k.emod n ∨ k.tmod n = k.emod n - n := by
 show k.tmod n = k % n ∨ k.tmod n = k % n - n
 rw [Int.tmod_eq_emod]
 split
 ·left; omega
 ·right; omega
theorem R6WalkA_pure (g : GameD) (hg : GOk g) (p : PosD) (hp : POk g p) (picks : List Int) (hl : picks.length ≤ 4294967296) :
  Pure Tryz.prog 21 [.agg (encGame g), .agg (encPos p), encIs picks] (encPs (walkP g p picks)) := by
 refine pF Tryz.func21 ?_
 generalize hR : walkP g p picks = R
 (repeat (first|with_reducible refine wV fun _=>?_|simp [go_sem]))
 refine ALoop.start (ALoop.ind (α := Nat × List PosD × PosD) (fun a => ⟨[(2, encIs picks), (3, .ref 0 0 9 0 0), (4, .ref 1 0 5 0 0), (7, .sl 2 a.2.1.length 5 0 (a.2.1.length + 1)), (8, .v (.int .i64 a.1))], [(0, .rows true 0 9 [encGame g]), (1, .rows true 0 5 [encPos a.2.2]), (2, .rows true a.2.1.length 5 ((a.2.1 ++ [a.2.2]).map encPos))], 3⟩)
  (fun d a => a.1 + d = picks.length ∧ a.2.1.length = a.1 ∧ POk g a.2.2 ∧ R = a.2.1 ++ walkP g a.2.2 (picks.drop a.1)) ?_ picks.length (0, [], p) ?_) ?_ ?_
 ·rintro d ⟨i, pre, cur⟩ ⟨i1, i2, i3, i4⟩ hrec
  simp only at i1 i2 i3 i4
  (repeat (first|with_reducible refine wV fun _=>?_|simp [go_sem]))
  refine aIf.mkL (fun hi => ?_) (fun hi => ?_) <;> simp at hi
  ·have hM := R6Moves_pure g hg cur i3
   have hml := movesP_len hg i3
   have hmo := movesP_ok hg i3
   rw [dropG_cons hi, walkP] at i4
   generalize movesP g cur = l at *
   (repeat (first|with_reducible refine wV fun _=>?_|simp [go_sem]))
   refine ACallP.plain hM (by simp [go_sem]) ?_
   (repeat (first|with_reducible refine wV fun _=>?_|simp [go_sem]))
   by_cases hz : l = []
   ·rw [if_pos hz] at i4
    subst hz
    (repeat (first|with_reducible refine wV fun _=>?_|simp [go_sem]))
    rw [i4]
    exact frX
   ·rw [if_neg hz] at i4
    have hlp : 0 < l.length := List.length_pos_iff.2 hz
    have e2 : 0 ≤ (nth picks i).emod l.length := Int.emod_nonneg _ (by omega)
    have e3 : (nth picks i).emod l.length < l.length := Int.emod_lt_of_pos _ (by omega)
    have h3 : (nth picks i).tmod l.length = (nth picks i).emod l.length ∨ (nth picks i).tmod l.length = (nth picks i).emod l.length - l.length := tmod_or (nth picks i) (by omega)
    generalize (nth picks i).emod l.length = j at *
    have hjl : j.toNat < l.length := by omega
    rcases h3 with e1 | e1
    ·(repeat (first|with_reducible refine wV fun _=>?_|simp [go_sem, hi, hz, e1, hjl]))
     (refine aIf.mkL (fun hF => by first | omega | (simp at hF; omega)) (fun hF => ?_); clear hF)
     (repeat (first|with_reducible refine wV fun _=>?_|simp [go_sem, hjl]))
     refine ALoop.start (hrec (d - 1) (by omega) (i + 1, pre ++ [cur], nth l j.toNat) ⟨by simp only; omega, by simp; omega, (hmo _ (nth_mem hjl)).1, by simpa using i4⟩) ?_ (by simp)
     simp [go_sem, Wk_eq]
    ·have e4 : j - (l.length : Int) + l.length = j := by omega
     (repeat (first|with_reducible refine wV fun _=>?_|simp [go_sem, hi, hz, e1, hjl, e4]))
     (refine aIf.mkL (fun hT => ?_) (fun hT => by first | omega | (simp at hT; omega)); clear hT)
     (repeat (first|with_reducible refine wV fun _=>?_|simp [go_sem, hjl, e4]))
     refine ALoop.start (hrec (d - 1) (by omega) (i + 1, pre ++ [cur], nth l j.toNat) ⟨by simp only; omega, by simp; omega, (hmo _ (nth_mem hjl)).1, by simpa using i4⟩) ?_ (by simp)
     simp [go_sem, Wk_eq]
  ·rw [List.drop_eq_nil_of_le hi, walkP] at i4
   (repeat (first|with_reducible refine wV fun _=>?_|simp [go_sem]))
   rw [i4]
   exact frX
 ·exact ⟨by simp, rfl, hp, by simp [hR]⟩
 ·simp [go_sem, Wk_eq]
 ·simp
end Go.Av
end
section
open Go Go.Proofs
namespace Go.Av
theorem encD_append (D E : List (List PosD)) : encD (D ++ E) = encD D ++ encD E := by simp [encD]
theorem nth_encD {D : List (List PosD)} {i : Nat} (h : i < D.length) : nth (encD D) i = [encPs (nth D i)] := nth_map _ _ _ h
end Go.Av
end
section
open Go Go.Proofs
namespace Go.Av
theorem trace11_pure (q : PosD) (hq : FitsP q) (mv : List PosD) (hi : Inc mv) (hl : mv.length ≤ 17179869184) (hf : ∀ r ∈ mv, FitsP r) :
  Pure Tryz.prog 174 [.agg (encPos q), .fp [encPs mv]] (.v (.bool (decide (q ∈ mv)))) := by
 refine pF Tryz.func174 ?_
 have hF := pFind_pure mv hi hl hf q hq
 have e : decide (q ∈ mv) = decide (0 ≤ fndP mv q) := by rw [decide_eq_decide]; exact (fndP_mem hi).symm
 rw [e]
 generalize fndP mv q = fi at *
 (repeat (first|with_reducible refine wV fun _=>?_|simp [go_sem]))
 refine ACallP.plain hF (by simp [go_sem]) ?_
 (repeat (first|with_reducible refine wV fun _=>?_|simp [go_sem]))
theorem trace1_pure (g : GameD) (hg : GOk g) (p : PosD) (hp : POk g p) (l : List PosD) (hl : l.length ≤ 17179869184) (hf : ∀ q ∈ l, FitsP q) :
  Pure Tryz.prog 173 [.agg (encPos p), encPs l, .fp (encGame g)] (.v (.int .i64 (frstP g p l))) := by
 refine pF Tryz.func173 ?_
 have hM := Moves_pure g hg p hp
 have hml := movesP_len2 hg hp
 have hmf := fun m hm => ((movesP_ok hg hp) m hm).1.fits hg
 have hinc := movesP_inc g p
 unfold frstP
 generalize movesP g p = mv at *
 have hC := IndexFuncP_pure l hl 174 [] [.fp [encPs mv]] (fun q => decide (q ∈ mv)) (fun q hq => trace11_pure q (hf q hq) mv hinc (by omega) hmf) (by simp) (by simp [go_sem])
 (repeat (first|with_reducible refine wV fun _=>?_|simp [go_sem]))
 refine ACallP.plain hM (by simp [go_sem]) ?_
 (repeat (first|with_reducible refine wV fun _=>?_|simp [go_sem]))
 refine ACallP.pureF [1] hC ?_ (by simp [go_sem]) ?_
 ·(first|done|exact leX)
 ·(repeat (first|with_reducible refine wV fun _=>?_|simp [go_sem]))
theorem leRows_setK {h h' : Heap} {n : Nat} {x y : List AV} (hx : LeRow h h' n x y) : ∀ (l : List (List AV)) (k : Nat), LeRows h h' n (l.set k x) (l.set k y)
 | [], _ => .nil
 | _ :: l, 0 => .cons hx (.refl _)
 | z :: l, k + 1 => .cons (.refl _ _ _ _) (leRows_setK hx l k)
theorem bel_setK {n : Nat} {l : List (List AV)} {k : Nat} {x : List AV} (h1 : ∀ r ∈ l, ∀ c ∈ r, Bel n c) (h2 : ∀ c ∈ x, Bel n c) : ∀ r ∈ l.set k x, ∀ c ∈ r, Bel n c := by
 intro r hr
 rcases List.mem_or_eq_of_mem_set hr with hr | rfl
 ·exact h1 r hr
 ·exact h2
theorem set_nth_self {α : Type} [Inhabited α] {l : List α} {k : Nat} (h : k < l.length) : l.set k (nth l k) = l := by
 rw [nth_eq _ _ h]
 exact List.set_getElem_self h
theorem leRows_ownK {h h' : Heap} {n o : Nat} {l : List (List AV)} {k : Nat} (hk : k < l.length) (e : nth l k = [AV.nils]) (hn : n ≤ o) (ho : h' o = some (.rows true 0 5 [])) : LeRows h h' n l (l.set k [.sl o 0 5 0 0]) := by
 have h1 : LeRow h h' n [AV.nils] [.sl o 0 5 0 0] := .cons (.own hn ho) .nil
 have := leRows_setK h1 l k
 rwa [← e, set_nth_self hk] at this
theorem nth_backR (N : Nat) (G : List (List PosD)) (m : Nat) {j : Nat} (hj : j < N) : nth (backR N G m) j = if m ≤ j then [encPs (nth G j)] else [AV.nils] := by
 rw [nth_eq _ _ (by rw [backR_len]; exact hj)]
 simp [backR]
theorem backR_set {N : Nat} {G : List (List PosD)} {m : Nat} (hm : m < N) : (backR N G (m + 1)).set m [encPs (nth G m)] = backR N G m := by
 refine List.ext_getElem (by simp [backR]) fun j h1 h2 => ?_
 rw [List.getElem_set]
 simp only [backR, List.getElem_map, List.getElem_range]
 by_cases h : m = j
 ·subst h
  simp
 ·rw [if_neg h]
  by_cases h' : m ≤ j
  ·rw [if_pos h', if_pos (by omega)]
  ·rw [if_neg h', if_neg (by omega)]
theorem backR_last {N : Nat} {G : List (List PosD)} {goal : PosD} (hN : 1 ≤ N) (hG : nth G (N - 1) = [goal]) : (List.replicate N [AV.nils]).set (N - 1) [encPs [goal]] = backR N G (N - 1) := by
 refine List.ext_getElem (by simp [backR]) fun j h1 h2 => ?_
 rw [List.getElem_set]
 simp only [backR, List.getElem_map, List.getElem_range, List.getElem_replicate]
 simp only [backR_len] at h2
 by_cases h : N - 1 = j
 ·subst h
  rw [if_pos rfl, if_pos (by omega), hG]
 ·rw [if_neg h, if_neg (by omega)]
theorem trace_pure (g : GameD) (hg : GOk g) (past : List (List PosD)) (goal : PosD) (hN4 : past.length ≤ 4002) (hc : ChainOk g past) (hgo : goal ∈ nth past (past.length - 1)) (hok : ∀ l ∈ past, ∀ q ∈ l, POk g q) (hll : ∀ l ∈ past, l.length ≤ 1889788001) :
  Pure Tryz.prog 97 [.agg (encGame g), .lst 1 (encD past), .agg (encPos goal)] (encPs (traceP g past goal)) := by
 refine pF Tryz.func97 ?_
 have hN1 := List.length_pos_iff.2 hc.ne
 have hlast := goodP_last g goal past hc.ne
 have hsub := fun i (hi : i < past.length) => goodP_sub (g := g) (goal := goal) hi hgo
 have hat := goodP_at g goal past
 have hway := fun i (hi : i < past.length) => wayP_mem hc hgo i hi
 have hfst := fun i (hi : i + 1 < past.length) => wayP_first hc hgo hi
 have hw0 : wayP g past goal 0 = nth (nth past 0) 0 := rfl
 have hws : ∀ i, wayP g past goal (i + 1) = nth (nth (goodP g past goal) (i + 1)) (frstP g (wayP g past goal i) (nth (goodP g past goal) (i + 1))).toNat := fun i => rfl
 unfold traceP
 generalize goodP g past goal = G at *
 generalize wayP g past goal = way at *
 have hnth : ∀ j, j < past.length → nth (encD past) j = [encPs (nth past j)] := fun j hj => nth_encD hj
 have hNn : ((past.length : Int) - 1).toNat = past.length - 1 := by omega
 have hbl := backR_last (G := G) (goal := goal) hN1 hlast
 have hGo : ∀ i, i < past.length → ∀ q ∈ nth G i, POk g q := fun i hi q hq => hok _ (nth_mem hi) q (hsub i hi q hq)
 have hGf : ∀ i, i < past.length → ∀ q ∈ nth G i, FitsP q := fun i hi q hq => (hGo i hi q hq).fits hg
 have hGl : ∀ i, i < past.length → (nth G i).length ≤ 1889788001 := fun i hi => by
  by_cases h : i + 1 < past.length
  ·rw [hat i h]
   exact Nat.le_trans (List.length_filter_le _ _) (hll _ (nth_mem hi))
  ·obtain rfl : i = past.length - 1 := by omega
   rw [hlast]; simp
 obtain ⟨out, hout⟩ : ∃ out : Nat → List PosD, ∀ i, out i = (List.range i).map way := ⟨_, fun _ => rfl⟩
 have houtl : ∀ i, (out i).length = i := fun i => by rw [hout]; simp
 have houts : ∀ i, out (i + 1) = out i ++ [way i] := fun i => by rw [hout, hout, List.range_succ, List.map_append]; rfl
 have houtn : ∀ i j, j < i → nth (out i) j = way j := fun i j hj => by rw [hout, nth_map _ _ _ (by simpa using hj), nth_eq _ _ (by simpa using hj)]; simp
 have hout0 : out 0 = [] := by rw [hout]; rfl
 rw [← hout]
 clear hout
 have hegl : (encGame g).length = 9 := rfl
 have hegb : ∀ n, (∀ c ∈ encGame g, Bel n c) = True := fun n => by simp [go_sem]
 have hFi := fun p (hp : POk g p) i (hi : i < past.length) => trace1_pure g hg p hp (nth G i) (by have := hGl i hi; omega) (hGf i hi)
 generalize encGame g = eg at *
 (repeat (first|with_reducible refine wV fun _=>?_|simp [go_sem, hNn, hegl]))
 refine ALoop.start (ALoop.ind (α := Nat) (fun m => ⟨[(1, .lst 1 (encD past)), (7, .v (.int .i64 ((past.length : Int) - 1))), (8, .sl 2 0 1 0 past.length), (9, .fn (.func 173) [] [.ref 0 0 9 0 0]), (10, .v (.int .i64 ((m : Int) - 1)))], [(0, .rows false 0 9 [eg]), (2, .rows true 0 1 (backR past.length G m))], 4⟩)
  (fun d m => d = m ∧ m ≤ past.length - 1) ?_ (past.length - 1) (past.length - 1) ?_) ?_ ?_
 ·rintro d m ⟨rfl, i1⟩ hrec
  (repeat (first|with_reducible refine wV fun _=>?_|simp [go_sem]))
  refine aIf.mkL (fun hm => ?_) (fun hm => ?_) <;> simp at hm
  ·have e1 : ((d : Int) - 1).toNat = d - 1 := by omega
   have e2 : ((d : Int) - 1 + 1).toNat = d := by omega
   have hn := hnth (d - 1) (by omega)
   have hat := hat (d - 1) (by omega)
   rw [show d - 1 + 1 = d by omega] at hat
   have hly := hok _ (nth_mem (show d - 1 < past.length by omega))
   have hlyl := hll _ (nth_mem (show d - 1 < past.length by omega))
   generalize nth past (d - 1) = ly at *
   have hFd := fun p hp => hFi p hp d (by omega)
   obtain ⟨fl, hfl⟩ : ∃ fl : Nat → List PosD, ∀ k, fl k = (ly.take k).filter (fun p => decide (0 ≤ frstP g p (nth G d))) := ⟨_, fun _ => rfl⟩
   have hfll : ∀ k, (fl k).length ≤ 1889788001 := fun k => by
    have h1 : (fl k).length ≤ (ly.take k).length := by rw [hfl]; exact List.length_filter_le _ _
    have h2 : (ly.take k).length ≤ ly.length := by simp; omega
    omega
   have hfl0 : fl 0 = [] := by rw [hfl]; rfl
   have hfls : ∀ k, k < ly.length → fl (k + 1) = if 0 ≤ frstP g (nth ly k) (nth G d) then fl k ++ [nth ly k] else fl k := fun k hk => by
    rw [hfl, hfl, List.take_add_one, List.getElem?_eq_getElem hk, nth_eq _ _ hk, Option.toList_some, List.filter_append]
    by_cases h : 0 ≤ frstP g ly[k] (nth G d) <;> simp [h]
   have hflE : fl ly.length = nth G (d - 1) := by rw [hfl, List.take_length, hat]
   have hb1 : nth (backR past.length G d) d = [encPs (nth G d)] := by rw [nth_backR _ _ _ (by omega), if_pos (Nat.le_refl _)]
   have hb2 : nth (backR past.length G d) (d - 1) = [AV.nils] := by rw [nth_backR _ _ _ (by omega), if_neg (by omega)]
   have hb3 : ∀ r : List AV, nth ((backR past.length G d).set (d - 1) r) d = [encPs (nth G d)] := fun r => by
    rw [nth_setE, if_neg (by omega), hb1]
   have hdl : d - 1 < past.length := by omega
   have hdl2 : d < past.length := by omega
   clear hfl hat
   (repeat (first|with_reducible refine wV fun _=>?_|simp [go_sem, hn, e1]))
   refine ALoop.start (ALoop.ind (α := Nat) (fun j => ⟨[(1, .lst 1 (encD past)), (7, .v (.int .i64 ((past.length : Int) - 1))), (8, .sl 2 0 1 0 past.length), (9, .fn (.func 173) [] [.ref 0 0 9 0 0]), (10, .v (.int .i64 ((d : Int) - 1))), (36, encPs ly), (37, .v (.int .i64 ly.length)), (38, .v (.int .i64 j))],
     [(0, .rows false 0 9 [eg]), (2, .rows true 0 1 ((backR past.length G d).set (d - 1) [.sl 4 (fl j).length 5 0 (fl j).length])), (4, .rows true (fl j).length 5 ((fl j).map encPos))], 5⟩)
    (fun d j => j + d = ly.length) ?_ ly.length 0 ?_) ?_ ?_
   ·rintro d2 j j1 hrec2
    (repeat (first|with_reducible refine wV fun _=>?_|simp [go_sem]))
    refine aIf.mkL (fun hj => ?_) (fun hj => ?_) <;> simp at hj
    ·have hpo := hly _ (nth_mem hj)
     have hF := hFd _ hpo
     have hfls := hfls j hj
     have h1 := hfll j
     have h2 := hfll (j + 1)
     generalize hq : nth ly j = q at *
     generalize frstP g q (nth G d) = fi at *
     (repeat (first|with_reducible refine wV fun _=>?_|simp [go_sem, hj, hq, e2, hb3, hdl2]))
     refine dCall.frz [.agg (encPos q), encPs (nth G d), .fp eg] _ [0] [] hF (by simp) ?_ (by simp [go_sem, hegb]) ?_
     ·intro h₁ hS
      have h0 := hS 0 (by simp)
      simp [upd] at h0
      exact .cons (.refl _) (.cons (.refl _) (.cons (.frzP h0.symm (by simp) (by simp) (by simp [applyW, upd, ← h0]) (.refl _ _ _ _)) .nil))
     ·(repeat (first|with_reducible refine wV fun _=>?_|simp [go_sem]))
      refine aIf.mkL (fun hz => ?_) (fun hz => ?_) <;> simp at hz
      ·rw [if_pos hz] at hfls
       (repeat (first|with_reducible refine wV fun _=>?_|simp [go_sem, hdl, e1]))
       refine ALoop.start (hrec2 (d2 - 1) (by omega) (j + 1) (by omega)) ?_ (by simp)
       simp [go_sem, Wk_eq, hfls, hegb]
       exact bel_setK (of_eq_true bel_backR) (by simp [go_sem])
      ·rw [if_neg (by omega)] at hfls
       (repeat (first|with_reducible refine wV fun _=>?_|simp [go_sem]))
       refine ALoop.start (hrec2 (d2 - 1) (by omega) (j + 1) (by omega)) ?_ (by simp)
       simp [go_sem, Wk_eq, hfls, hegb]
       exact bel_setK (of_eq_true bel_backR) (by simp [go_sem])
    ·obtain rfl : j = ly.length := by omega
     rw [hflE]
     have hbs := backR_set (G := G) (N := past.length) (m := d - 1) (by omega)
     rw [show d - 1 + 1 = d by omega] at hbs
     have ec : ((d - 1 : Nat) : Int) = (d : Int) - 1 := by omega
     (repeat (first|with_reducible refine wV fun _=>?_|simp [go_sem]))
     refine ALoop.start (hrec (d - 1) (by omega) (d - 1) ⟨rfl, by omega⟩) ?_ (by simp)
     simp [go_sem, Wk_eq, hegb, ec]
     rw [← hbs]
     exact leRows_setK (.cons (leV_frz rfl (by simp) (by simp [upd, noH]) (by simp; exact List.take_of_length_le (by simp))) .nil) _ _
   ·simp
   ·simp [go_sem, Wk_eq, hfl0, hegb]
    refine ⟨?_, bel_setK (of_eq_true bel_backR) (by simp [go_sem])⟩
    exact leRows_ownK (by rw [backR_len]; omega) hb2 (by simp) (by simp [mkH, upd])
   ·simp
  ·obtain rfl : d = 0 := by omega
   have hn0 := hnth 0 (by omega)
   obtain ⟨st, hst⟩ := hc.one
   have hz1 : nth (nth past 0) 0 = st := by rw [hst]; rfl
   rw [hst] at hn0
   rw [hz1] at hw0
   have hg0 := fun j (hj : j < past.length) => nth_backR past.length G 0 hj
   simp only [Nat.zero_le, if_true] at hg0
   have hout1 : out 1 = [st] := by rw [houts 0, hout0, hw0]; rfl
   (repeat (first|with_reducible refine wV fun _=>?_|simp [go_sem, hn0]))
   refine ALoop.start (ALoop.ind (α := Nat) (fun i => ⟨[(7, .v (.int .i64 ((past.length : Int) - 1))), (8, .sl 2 0 1 0 past.length), (9, .fn (.func 173) [] [.ref 0 0 9 0 0]), (13, .sl 4 i 5 0 (i + 1)), (14, .v (.int .i64 ((i : Int) + 1)))], [(0, .rows false 0 9 [eg]), (2, .rows true 0 1 (backR past.length G 0)), (4, .rows true i 5 ((out (i + 1)).map encPos))], 5⟩)
    (fun d i => i + 1 + d = past.length) ?_ (past.length - 1) 0 ?_) ?_ ?_
   ·rintro d2 i i2 hrec2
    have hol := houtl (i + 1)
    (repeat (first|with_reducible refine wV fun _=>?_|simp [go_sem, hol]))
    refine aIf.mkL (fun hi => ?_) (fun hi => ?_) <;> simp at hi
    ·have e5 : ((i : Int) + 1).toNat = i + 1 := by omega
     have e6 : ((i : Int) + 1 - 1).toNat = i := by omega
     have hgi := hg0 (i + 1) (by omega)
     have hoi := houtn (i + 1) i (by omega)
     have hwi := hGo i (by omega) _ (hway i (by omega))
     have hF := hFi (way i) hwi (i + 1) (by omega)
     have hf1 := hfst i (by omega)
     have hf2 := (frstP_some hf1).1
     have hos := houts (i + 1)
     rw [hws i] at hos
     have hil : i + 1 < past.length := by omega
     generalize frstP g (way i) (nth G (i + 1)) = fi at *
     (repeat (first|with_reducible refine wV fun _=>?_|simp [go_sem, hol, e5, e6, hgi, hoi, hil]))
     refine dCall.frz [.agg (encPos (way i)), encPs (nth G (i + 1)), .fp eg] _ [0] [] hF (by simp) ?_ (by simp [go_sem, hegb]) ?_
     ·intro h₁ hS
      have h0 := hS 0 (by simp)
      simp [upd] at h0
      exact .cons (.refl _) (.cons (.refl _) (.cons (.frzP h0.symm (by simp) (by simp) (by simp [applyW, upd, ← h0]) (.refl _ _ _ _)) .nil))
     ·(repeat (first|with_reducible refine wV fun _=>?_|simp [go_sem, hol, hf2]))
      refine ALoop.start (hrec2 (d2 - 1) (by omega) (i + 1) (by omega)) ?_ (by simp)
      simp [go_sem, Wk_eq, hos, hegb]
    ·have e : out past.length = out (i + 1) := by rw [show past.length = i + 1 by omega]
     (repeat (first|with_reducible refine wV fun _=>?_|simp [go_sem]))
     rw [e]
     exact leV_frz rfl (by simp [hol]) (by simp [upd, noH]) (by simp; exact List.take_of_length_le (by simp [hol]))
   ·simp; omega
   ·simp [go_sem, Wk_eq, hegb, hout1]
   ·simp
 ·exact ⟨rfl, Nat.le_refl _⟩
 ·simp [go_sem, Wk_eq, hegb]
  refine ⟨?_, ?_⟩
  ·rw [show ((past.length - 1 : Nat) : Int) = (past.length : Int) - 1 by omega]
   exact .refl _
  ·rw [← hbl]
   exact leRows_setK (.cons (leV_frz rfl (by simp) (by simp [upd, noH]) (by simp [go_sem])) .nil) _ _
 ·simp
end Go.Av
end
section
open Go Go.Proofs
namespace Go.Av
theorem gameP_at {g : GameD} {p goal : PosD} {n : Int} {d : Nat} (hd : d < (searchP g p n).length) (h : goal ∈ (nth (searchP g p n) d).1) (hb : ∀ j, j < d → goal ∉ (nth (searchP g p n) j).1) :
  gameP g p goal n = (traceP g (((searchP g p n).take (d + 1)).map (·.1)) goal, 0) := by
 have : (searchP g p n).findIdx? (fun x => decide (goal ∈ x.1)) = some d := by
  rw [List.findIdx?_eq_some_iff_getElem]
  refine ⟨hd, by rw [← nth_eq _ _ hd]; simpa using h, fun j hj => ?_⟩
  have := hb j hj
  rw [nth_eq _ _ (by omega)] at this
  simpa using this
 unfold gameP
 rw [this]
theorem gameP_no {g : GameD} {p goal : PosD} {n : Int} (hb : ∀ j, j < (searchP g p n).length → goal ∉ (nth (searchP g p n) j).1) :
  gameP g p goal n = ([], if fullP (searchP g p n) then 270 else 2) := by
 have : (searchP g p n).findIdx? (fun x => decide (goal ∈ x.1)) = none := by
  rw [List.findIdx?_eq_none_iff]
  intro x hx
  obtain ⟨j, hj, rfl⟩ := List.getElem_of_mem hx
  have := hb j hj
  rw [nth_eq _ _ hj] at this
  simpa using this
 unfold gameP
 rw [this]
theorem layersP_last (g : GameD) (b : Int) : ∀ (f : Nat) (known now : List PosD) (i : Nat), (nth (layersP g b f known now) i).2 = true → i < (layersP g b f known now).length → i + 1 = (layersP g b f known now).length
 | 0, known, now, i, h, hl => by simp [layersP] at hl
 | f + 1, known, now, i, h, hl => by
  rw [layersP] at h hl ⊢
  split at h
  ·rename_i hk
   rw [if_pos hk] at hl ⊢
   simp at hl ⊢
   omega
  ·rename_i hk
   rw [if_neg hk] at hl ⊢
   split at h
   ·rename_i hz
    rw [if_pos hz] at hl ⊢
    simp at hl ⊢
    omega
   ·rename_i hz
    rw [if_neg hz] at hl ⊢
    cases i with
    | zero => simp [nth_zero] at h
    | succ i =>
     rw [nth_succ] at h
     have := layersP_last g b f _ _ i h (by simpa using hl)
     simp only [List.length_cons]
     omega
theorem searchP_past {g : GameD} (hg : GOk g) {p : PosD} (hp : POk g p) (n : Int) (d : Nat) :
  (((searchP g p n).take (d + 1)).map (·.1)).length ≤ 4002 ∧ (∀ l ∈ ((searchP g p n).take (d + 1)).map (·.1), ∀ q ∈ l, POk g q) ∧ ∀ l ∈ ((searchP g p n).take (d + 1)).map (·.1), l.length ≤ 1889788001 := by
 have hcnt := searchP_count g p n
 have hok := searchP_ok hg hp n
 have hlen := searchP_len hg hp n
 generalize searchP g p n = L at *
 refine ⟨by simp; omega, fun l hl => ?_, fun l hl => ?_⟩
 ·obtain ⟨x, hx, rfl⟩ := List.mem_map.1 hl
  exact (hok x (List.mem_of_mem_take hx)).2
 ·obtain ⟨x, hx, rfl⟩ := List.mem_map.1 hl
  have hx := List.mem_of_mem_take hx
  obtain ⟨i, hi, rfl⟩ := List.getElem_of_mem hx
  have e : allOf L = allOf (L.take i) ++ (L[i].1 ++ allOf (L.drop (i + 1))) := by
   unfold allOf
   rw [← List.flatMap_cons, ← List.drop_eq_getElem_cons hi, ← List.flatMap_append, List.take_append_drop]
  have := congrArg List.length e
  simp only [List.length_append] at this
  omega
theorem Game_pure (g : GameD) (hg : GOk g) (p : PosD) (hp : POk g p) (goal : PosD) (hq : FitsP goal) (n : Int) :
  Pure Tryz.prog 41 [.agg (encGame g), .agg (encPos p), .agg (encPos goal), .v (.int .i64 n)] (.tup [encPs (gameP g p goal n).1, .v (.int .i64 (gameP g p goal n).2)]) := by
 refine pF Tryz.func41 ?_
 have hS : Owns Tryz.prog 90 [.agg (encGame g), .agg (encPos p), .v (.int .i64 n)] (fun k => layR k) (fun k => layH g p n k) 3 := layers_owns g p n
 have hQ := layersF_seq g hg p hp (budP n) (budP_range n)
 simp only [layR, layH] at hS
 rw [show layersP g (budP n) ((budP n).toNat + 2) [p] [p] = searchP g p n from rfl] at hQ
 have hA := fun d => gameP_at (g := g) (p := p) (goal := goal) (n := n) (d := d)
 have hN := gameP_no (g := g) (p := p) (goal := goal) (n := n)
 have hpast := searchP_past hg hp n
 have hchain := searchP_chain g p n
 have hok := searchP_ok hg hp n
 have hne := searchP_ne g p n
 have hfull := fullP_nth hne
 have hcnt := searchP_count g p n
 have hlst : ∀ i, (nth (searchP g p n) i).2 = true → i < (searchP g p n).length → i + 1 = (searchP g p n).length := layersP_last g (budP n) ((budP n).toNat + 2) [p] [p]
 have hlen := searchP_len hg hp n
 generalize gameP g p goal n = gm at *
 generalize searchP g p n = L at *
 (repeat (first|with_reducible refine wV fun _=>?_|simp [go_sem, GH]))
 refine ACallP.ownsPlain hS (by simp [go_sem]) ?_
 (repeat (first|with_reducible refine wV fun _=>?_|simp [go_sem, GH]))
 refine aRange.mk [.fp (encPos p), .fp [.v (.int .i64 (budP n))], .fp (encGame g)] (frzO _ [6, 7, 8]) hQ (frz_frzO _ _) ?_ (by simp [go_sem]) (fun xs hx => by obtain ⟨y, _, rfl⟩ := List.mem_map.1 hx; rfl) ?_
 ·refine LeRow.cons (.frzP rfl ?_ ?_ ?_ ?_) (LeRow.cons (.frzP rfl ?_ ?_ ?_ ?_) (LeRow.cons (.frzP rfl ?_ ?_ ?_ ?_) .nil)) <;> first | exact LeRow.refl _ _ _ _ | simp [frzO, frz1, upd]
 obtain ⟨D, hD⟩ : ∃ D : Nat → List (List PosD), ∀ k, D k = (L.take k).map (·.1) := ⟨_, fun _ => rfl⟩
 have hDl : ∀ k, k ≤ L.length → (D k).length = k := fun k hk => by rw [hD]; simp; omega
 have hDs : ∀ k, k < L.length → D (k + 1) = D k ++ [(nth L k).1] := fun k hk => by rw [hD, hD, List.take_add_one, List.getElem?_eq_getElem hk, nth_eq _ _ hk, Option.toList_some, List.map_append]; rfl
 have hD0 : D 0 = [] := by rw [hD]; rfl
 simp only [← hD] at hA hpast hchain
 refine Fgt.to (ARange.ind (α := Nat) (fun k => ([(4, .ref 0 0 9 0 0), (6, .ref 2 0 5 0 0), (8, .ref 3 0 1 0 0), (9, .ref 4 0 1 0 0), (10, .ref 5 0 1 0 0)], [(0, .rows true 0 9 [encGame g]), (2, .rows true 0 5 [encPos goal]), (3, .rows true 0 1 [[AV.nils]]), (4, .rows true 0 1 [[.v (.int .i64 0)]]), (5, .rows true 0 1 [[.sl 9 k 1 0 k]]), (9, .rows true k 1 (encD (D k)))], 10))
  (fun rows k => rows = (L.drop k).map rowL ∧ k ≤ L.length ∧ (∀ j, j < k → goal ∉ (nth L j).1 ∧ (nth L j).2 = false)) ?_ ?_ _ 0 ?_) ?_ ?_
 ·rintro k ⟨i1, i2, i3⟩
  have hk : k = L.length := by
   have := congrArg List.length i1
   simp at this
   omega
  subst hk
  refine ⟨rfl, ?_⟩
  have hl := List.length_pos_iff.2 hne
  have hff : fullP L = false := by rw [hfull]; exact (i3 _ (by omega)).2
  have hgm := hN (fun j hj => (i3 j hj).1)
  rw [hff] at hgm
  subst hgm
  (repeat (first|with_reducible refine wV fun _=>?_|simp [go_sem, GH]))
 ·rintro xs rs k ⟨i1, i2, i3⟩ hrec
  have hk : k < L.length := by
   have := congrArg List.length i1
   simp at this
   omega
  rw [dropG_cons hk, List.map_cons, List.cons.injEq] at i1
  obtain ⟨rfl, rfl⟩ := i1
  generalize hrs : (L.drop (k + 1)).map rowL = rs at *
  have hDk := hDl k i2
  have hDs := hDs k hk
  have hokk := hok _ (nth_mem hk)
  have hF := pFind_pure (nth L k).1 hokk.1 (by
   have := (hpast k).2.2 (nth L k).1 (by rw [hDs]; simp)
   omega) (fun q h => (hokk.2 q h).fits hg) goal hq
  have hFm := fndP_mem hokk.1 (p := goal)
  refine ARange.go (Nat.zero_le _) ?_
  generalize fndP (nth L k).1 goal = fi at *
  generalize hnx : nth L k = x at *
  obtain ⟨now, full⟩ := x
  simp only at hF hFm hDs
  (repeat (first|with_reducible refine wV fun _=>?_|simp [go_sem, GH, rowL, hDk]))
  refine ACallP.plain hF (by simp [go_sem]) ?_
  (repeat (first|with_reducible refine wV fun _=>?_|simp [go_sem, GH]))
  refine aIf.mkL (fun hz => ?_) (fun hz => ?_) <;> simp at hz
  ·have hin := hFm.1 hz
   have hgm := hA k hk (by rw [hnx]; exact hin) (fun j hj => (i3 j hj).1)
   have hp1 := hpast k
   have hDl1 := hDl (k + 1) (by omega)
   have hT := trace_pure g hg (D (k + 1)) goal hp1.1 (hchain k) (by rw [hDl1, hDs, nth_eq _ _ (by simp; omega)]; simp [hDk, hin]) hp1.2.1 hp1.2.2
   rw [hgm]
   generalize traceP g (D (k + 1)) goal = tr at *
   (repeat (first|with_reducible refine wV fun _=>?_|simp [go_sem, GH]))
   refine ACallP.pureF [9] hT ?_ (by simp [go_sem]) ?_
   ·refine .cons (.refl _) (.cons (leV_frz rfl (by simp [hDk, encD]) (by simp [frzO, frz1, upd, noH]) ?_) (.cons (.refl _) .nil))
    rw [hDs, encD_append]
    simp only [List.drop_zero]
    exact List.take_of_length_le (by simp [hDk, encD])
   ·(repeat (first|with_reducible refine wV fun _=>?_|simp [go_sem, GH]))
  ·have hnin : goal ∉ now := fun h => by have := hFm.2 h; omega
   cases full
   ·(repeat (first|with_reducible refine wV fun _=>?_|simp [go_sem, GH]))
    refine Fgt.to (hrec (k + 1) ⟨hrs.symm, by omega, fun j hj => ?_⟩) ?_ (by simp)
    ·rcases Nat.lt_or_ge j k with h | h
     ·exact i3 j h
     ·obtain rfl : j = k := by omega
      rw [hnx]
      exact ⟨hnin, rfl⟩
    ·simp [go_sem, Wk_eq, GH, hDs, encD]
   ·have hkl := hlst k (by rw [hnx]) hk
    have hff : fullP L = true := by rw [hfull, show L.length - 1 = k by omega, hnx]
    have hgm := hN (fun j hj => by
     rcases Nat.lt_or_ge j k with h | h
     ·exact (i3 j h).1
     ·obtain rfl : j = k := by omega
      rw [hnx]; exact hnin)
    rw [hff] at hgm
    subst hgm
    (repeat (first|with_reducible refine wV fun _=>?_|simp [go_sem, GH]))
 ·exact ⟨rfl, Nat.zero_le _, fun j hj => by omega⟩
 ·simp [go_sem, Wk_eq, hD0, encD]
 ·simp
end Go.Av
end
section
open Go Go.Proofs
namespace Go.Av
def checkP (g : GameD) (s q : PosD) (l : List PosD) : Bool := decide (l ≠ [] ∧ nth l 0 = s ∧ nth l (l.length - 1) = q ∧ ∀ j, j < l.length - 1 → nth l (j + 1) ∈ movesP g (nth l j))
theorem checkP_false {g : GameD} {s q : PosD} {l : List PosD} (h : ¬ (l ≠ [] ∧ nth l 0 = s ∧ nth l (l.length - 1) = q ∧ ∀ j, j < l.length - 1 → nth l (j + 1) ∈ movesP g (nth l j))) : checkP g s q l = false := decide_eq_false h
theorem Check_pure (g : GameD) (hg : GOk g) (s q : PosD) (hs : FitsP s) (hq : FitsP q) (l : List PosD) (hl : l.length ≤ 17179869184) (hp : ∀ x ∈ l, POk g x) :
  Pure Tryz.prog 24 [.agg (encGame g), .agg (encPos s), .agg (encPos q), encPs l] (.v (.bool (checkP g s q l))) := by
 refine pF Tryz.func24 ?_
 have hC := fun x (hx : x ∈ l) y (hy : FitsP y) => pCompare_pure x y ((hp x hx).fits hg) hy
 have hL := fun x (hx : x ∈ l) y (hy : y ∈ l) => Legal_pure g hg x (hp x hx) y ((hp y hy).fits hg)
 by_cases hl0 : l = []
 ·have hc : checkP g s q l = false := checkP_false (by simp [hl0])
  rw [hc]
  subst hl0
  (repeat (first|with_reducible refine wV fun _=>?_|simp [go_sem]))
  refine dGC.skip (.v (.int .i64 0)) ?_
  (repeat (first|with_reducible refine wV fun _=>?_|simp [go_sem]))
  refine dGC.skip (.v (.int .i64 0)) ?_
  (repeat (first|with_reducible refine wV fun _=>?_|simp [go_sem]))
 ·have hlp := List.length_pos_iff.2 hl0
  have hm1 := nth_mem (l := l) (i := 0) hlp
  have hm2 := nth_mem (l := l) (i := l.length - 1) (by omega)
  have h1 := hC _ hm1 s hs
  have h2 := hC _ hm2 q hq
  have hnm : nth (l.map encPos) (l.length - 1) = encPos (nth l (l.length - 1)) := nth_map _ _ _ (by omega)
  have e1 : cmpP (nth l 0) s = 0 ↔ nth l 0 = s := cmpP_eq
  have e2 : cmpP (nth l (l.length - 1)) q = 0 ↔ nth l (l.length - 1) = q := cmpP_eq
  obtain ⟨c, hc⟩ : ∃ c, c = checkP g s q l := ⟨_, rfl⟩
  have hcf : ¬ (l ≠ [] ∧ nth l 0 = s ∧ nth l (l.length - 1) = q ∧ ∀ j, j < l.length - 1 → nth l (j + 1) ∈ movesP g (nth l j)) → c = false := fun h => hc.trans (checkP_false h)
  have hct : (l ≠ [] ∧ nth l 0 = s ∧ nth l (l.length - 1) = q ∧ ∀ j, j < l.length - 1 → nth l (j + 1) ∈ movesP g (nth l j)) → c = true := fun h => hc.trans (decide_eq_true h)
  rw [← hc]
  clear hc
  have hegl : (encGame g).length = 9 := rfl
  have hegb : ∀ n, (∀ c ∈ encGame g, Bel n c) = True := fun n => by simp [go_sem]
  generalize encGame g = eg at *
  (repeat (first|with_reducible refine wV fun _=>?_|simp [go_sem, hegl, hl0, hlp]))
  refine dGC.plain _ (fun _ => h1) (by simp [go_sem]) ?_
  generalize cmpP (nth l 0) s = a at *
  by_cases ha : a = 0
  ·(repeat (first|with_reducible refine wV fun _=>?_|simp [go_sem, hegl, hl0, hlp, ha, hnm]))
   refine dGC.plain _ (fun _ => h2) (by simp [go_sem]) ?_
   generalize cmpP (nth l (l.length - 1)) q = b at *
   by_cases hb : b = 0
   ·(repeat (first|with_reducible refine wV fun _=>?_|simp [go_sem, hegl, hl0, hlp, ha, hnm, hb]))
    have hct' := fun h => hct ⟨hl0, e1.1 ha, e2.1 hb, h⟩
    have hcf' := fun (h : ¬ ∀ j, j < l.length - 1 → nth l (j + 1) ∈ movesP g (nth l j)) => hcf (fun h' => h h'.2.2.2)
    clear hcf hct hC
    refine ALoop.start (ALoop.ind (α := Nat) (fun i => ⟨[(3, encPs l), (4, .ref 0 0 9 0 0), (34, .v (.int .i64 ((l.length - 1 : Nat) : Int))), (35, .v (.int .i64 i))], [(0, .rows true 0 9 [eg])], 3⟩)
     (fun d i => i + d = l.length - 1 ∧ ∀ j, j < i → nth l (j + 1) ∈ movesP g (nth l j)) ?_ (l.length - 1) 0 ?_) ?_ ?_
    ·rintro d i ⟨i1, i2⟩ hrec
     (repeat (first|with_reducible refine wV fun _=>?_|simp [go_sem, hegl]))
     refine aIf.mkL (fun hi => ?_) (fun hi => ?_) <;> simp at hi
     ·have hi1 : i < l.length := by omega
      have hi2 : i + 1 < l.length := by omega
      have h := hL _ (nth_mem hi1) _ (nth_mem hi2)
      have hdb : decide (nth l (i + 1) ∈ movesP g (nth l i)) = true ↔ nth l (i + 1) ∈ movesP g (nth l i) := decide_eq_true_iff
      generalize decide (nth l (i + 1) ∈ movesP g (nth l i)) = m at *
      (repeat (first|with_reducible refine wV fun _=>?_|simp [go_sem, hegl, hi1, hi2]))
      refine dCall.plain h (by simp [go_sem, hegb]) ?_
      cases m
      ·have : c = false := hcf' (fun h => by have := hdb.2 (h i (by omega)); simp at this)
       subst this
       (repeat (first|with_reducible refine wV fun _=>?_|simp [go_sem, hegl]))
      ·(repeat (first|with_reducible refine wV fun _=>?_|simp [go_sem, hegl]))
       refine ALoop.start (hrec (d - 1) (by omega) (i + 1) ⟨by omega, fun j hj => ?_⟩) ?_ (by simp)
       ·rcases Nat.lt_or_ge j i with h | h
        ·exact i2 j h
        ·obtain rfl : j = i := by omega
         exact hdb.1 rfl
       ·simp [go_sem, Wk_eq, hegb]
     ·have : c = true := hct' (fun j hj => i2 j (by omega))
      subst this
      (repeat (first|with_reducible refine wV fun _=>?_|simp [go_sem, hegl]))
    ·exact ⟨by omega, fun j hj => by omega⟩
    ·simp [go_sem, Wk_eq, hegb]
    ·simp
   ·have : c = false := hcf (fun h => hb (e2.2 h.2.2.1))
    subst this
    (repeat (first|with_reducible refine wV fun _=>?_|simp [go_sem, hegl, hl0, hlp, ha, hnm, hb]))
  ·have : c = false := hcf (fun h => ha (e1.2 h.2.1))
   subst this
   (repeat (first|with_reducible refine wV fun _=>?_|simp [go_sem, hegl, hl0, hlp, ha]))
   refine dGC.skip (.v (.int .i64 0)) ?_
   (repeat (first|with_reducible refine wV fun _=>?_|simp [go_sem, hegl, hl0, hlp, ha]))
end Go.Av
end
section
open Go Go.Proofs
namespace Go.Av
def at6 (a b c side : Int) : PosD := ⟨[a, b, c], [0], [0], 0, side⟩
def small6 : GameD := ⟨3, [[1, 2, -1], [-1, 0, 1]], [1, 0], [⟨⟨⟨[97]⟩⟩, [[(1, 0), (3, 0)], [(1, 0), (4, 0), (6, 0)]], false⟩], 0, false, [], 3, 2⟩
end Go.Av
end
section
open Go Go.Proofs
namespace Go.Av
theorem handOk6 : HandOk small6 [0] := ⟨rfl, fun i hi => by
 obtain rfl : i = 0 := by simpa using hi
 exact ⟨by decide, by decide, by decide⟩⟩
theorem at6_ok (a b c side : Int) (ha : 0 ≤ a ∧ a ≤ 2) (hb : 0 ≤ b ∧ b ≤ 2) (hc : 0 ≤ c ∧ c ≤ 2) (hs : side = 0 ∨ side = 1) : POk small6 (at6 a b c side) :=
 ⟨rfl, by
  intro x hx
  simp only [at6, List.mem_cons, List.not_mem_nil, or_false] at hx
  have : (small6.kinds.length : Int) = 1 := rfl
  rcases hx with rfl | rfl | rfl <;> omega, handOk6, handOk6, by simp [at6], by simp [at6, small6], hs⟩
theorem small6_ok : GOk small6 := by
 refine ⟨?_, by decide, by decide, by decide, by decide, ?_, by decide, by decide, ?_, ?_, by decide, by decide, ?_, by decide, by decide, by decide⟩
 ·refine ⟨?_, ?_, ?_, ?_, ?_, ?_, ?_⟩ <;> first | decide | skip
 ·intro d hd
  have : d = 0 ∨ d = 1 := by
   have : small6.turn.length = 2 := rfl
   omega
  rcases this with rfl | rfl <;> decide
 ·intro k hk
  simp only [small6, List.mem_singleton] at hk
  subst hk
  decide
 ·intro k hk q hq
  simp only [small6, List.mem_singleton] at hk
  subst hk
  simp only [List.mem_cons, List.not_mem_nil, or_false] at hq
  rcases hq with rfl | rfl
  ·refine ⟨by decide, by decide, fun x hx => ?_, by decide, by decide, by decide⟩
   simp only [List.mem_cons, List.not_mem_nil, or_false] at hx
   rcases hx with rfl | rfl <;> exact ⟨by decide, by decide, by decide, by decide, by decide⟩
  ·refine ⟨by decide, by decide, fun x hx => ?_, by decide, by decide, by decide⟩
   simp only [List.mem_cons, List.not_mem_nil, or_false] at hx
   rcases hx with rfl | rfl | rfl <;> exact ⟨by decide, by decide, by decide, by decide, by decide⟩
 ·intro c hc
  simp [small6] at hc
end Go.Av
end
section
open Go Go.Proofs
namespace Go.Av
theorem found_pure (g : GameD) (hg : GOk g) (p : PosD) (hp : POk g p) (goal : PosD) (hq : FitsP goal) (n : Int) :
  Pure Tryz.prog 80 [.agg (encGame g), .agg (encPos p), .agg (encPos goal), .v (.int .i64 n)] (encFound (gameP g p goal n)) := by
 refine pF Tryz.func80 ?_
 have hG := Game_pure g hg p hp goal hq n
 generalize gameP g p goal n = x at *
 unfold encFound
 (repeat (first|with_reducible refine wV fun _=>?_|simp [go_sem]))
 refine ACallP.plain hG (by simp [go_sem]) ?_
 (repeat (first|with_reducible refine wV fun _=>?_|simp [go_sem]))
theorem Same27_pure (a b : List PosD × Int) (ha : a.1.length ≤ 17179869184) (hb : b.1.length ≤ 17179869184) (hfa : ∀ p ∈ a.1, FitsP p) (hfb : ∀ p ∈ b.1, FitsP p) :
  Pure Tryz.prog 79 [encFound a, encFound b] (.v (.bool (decide (a = b)))) := by
 refine pF Tryz.func79 ?_
 have hS := SameLists_pure a.1 b.1 ha hb hfa hfb
 have e : decide (a = b) = (decide (a.1 = b.1) && decide (a.2 = b.2)) := by
  rw [← Bool.decide_and, decide_eq_decide]
  exact Prod.ext_iff
 rw [e]
 generalize decide (a.1 = b.1) = s at *
 unfold encFound
 (repeat (first|with_reducible refine wV fun _=>?_|simp [go_sem]))
 refine ACallP.plain hS (by simp [go_sem]) ?_
 cases s
 ·(repeat (first|with_reducible refine wV fun _=>?_|simp [go_sem]))
 ·(repeat (first|with_reducible refine wV fun _=>?_|simp [go_sem]))
theorem at27_pure (a b c side : Int) : Pure Tryz.prog 77 [.v (.int .i64 a), .v (.int .i64 b), .v (.int .i64 c), .v (.int .i64 side)] (.agg (encPos (at6 a b c side))) := by
 refine pF Tryz.func77 ?_
 (repeat (first|with_reducible refine wV fun _=>?_|simp [go_sem]))
 simp only [at6, List.map_cons, List.map_nil, encI]
 (repeat' apply And.intro) <;> first | exact LeV.refl _ | exact leV_frz rfl (by simp) (by simp [noH, upd]) (by simp)
theorem seen27_pure (g : GameD) (hg : GOk g) (p : PosD) (hp : POk g p) (n : Int) :
  Pure Tryz.prog 78 [.agg (encGame g), .agg (encPos p), .v (.int .i64 n)] (.agg [.lst 1 (encD [seenP g p n]), .v (.bool (fullP (searchP g p n)))]) := by
 refine pF Tryz.func78 ?_
 have hS := Seen_pure g hg p hp n
 generalize seenP g p n = s at *
 generalize fullP (searchP g p n) = f at *
 (repeat (first|with_reducible refine wV fun _=>?_|simp [go_sem]))
 refine ACallP.plain hS (by simp [go_sem]) ?_
 (repeat (first|with_reducible refine wV fun _=>?_|simp [go_sem]))
 exact leV_frz rfl (by simp [encD]) (by simp [noH, upd]) (by simp [encD, encPs])
theorem game_27a : gameP small6 (at6 1 0 2 0) (at6 1 0 2 0) 0 = ([at6 1 0 2 0], 0) := by kernel_rfl
theorem game_27b : gameP small6 (at6 1 0 2 0) (at6 0 2 0 0) 9 = ([at6 1 0 2 0, at6 0 1 2 1, at6 0 2 0 0], 0) := by kernel_rfl
theorem game_27c : gameP small6 (at6 1 0 2 0) (at6 1 0 2 1) 9 = ([], 270) := by kernel_rfl
theorem game_27d : gameP small6 (at6 1 0 2 0) (at6 0 2 0 0) 1 = ([], 2) := by kernel_rfl
theorem check_27a : checkP small6 (at6 1 0 2 0) (at6 0 2 0 0) [at6 1 0 2 0, at6 0 1 2 1, at6 0 2 0 0] = true := by kernel_rfl
theorem check_27b : checkP small6 (at6 1 0 2 0) (at6 0 2 0 0) [at6 1 0 2 0, at6 0 2 0 0] = false := by kernel_rfl
theorem check_27c : checkP small6 (at6 1 0 2 0) (at6 1 0 2 0) [] = false := by kernel_rfl
theorem seen_27s : seenP small6 (at6 1 0 2 0) 4000 = sortU cmpP [at6 1 0 2 0, at6 0 1 2 1, at6 0 2 0 0] := by kernel_rfl
theorem seen_27 : (seenP small6 (at6 1 0 2 0) 4000).length = 3 := by
 rw [seen_27s, sortU_nodup_len (by decide)]
 rfl
theorem full_27 : fullP (searchP small6 (at6 1 0 2 0) 4000) = true := by kernel_rfl
theorem sanity27_pure : Pure Tryz.prog 20 [] (.v (.bool true)) := by
 have ka := at6_ok 1 0 2 0 (by omega) (by omega) (by omega) (.inl rfl)
 have kb := at6_ok 0 1 2 1 (by omega) (by omega) (by omega) (.inr rfl)
 have kc := at6_ok 0 2 0 0 (by omega) (by omega) (by omega) (.inl rfl)
 have kd := at6_ok 1 0 2 1 (by omega) (by omega) (by omega) (.inr rfl)
 have fa := ka.fits small6_ok
 have fb := kb.fits small6_ok
 have fc := kc.fits small6_ok
 have fd := kd.fits small6_ok
 have hA := at27_pure 1 0 2 0
 have hB := at27_pure 0 1 2 1
 have hC := at27_pure 0 2 0 0
 have hD := at27_pure 1 0 2 1
 have g1 := found_pure small6 small6_ok _ ka _ fa 0
 have g2 := found_pure small6 small6_ok _ ka _ fc 9
 have g3 := found_pure small6 small6_ok _ ka _ fd 9
 have g4 := found_pure small6 small6_ok _ ka _ fc 1
 rw [game_27a] at g1
 rw [game_27b] at g2
 rw [game_27c] at g3
 rw [game_27d] at g4
 have c1 := Check_pure small6 small6_ok _ _ fa fc [at6 1 0 2 0, at6 0 1 2 1, at6 0 2 0 0] (by simp) (by simp [ka, kb, kc])
 have c2 := Check_pure small6 small6_ok _ _ fa fc [at6 1 0 2 0, at6 0 2 0 0] (by simp) (by simp [ka, kc])
 have c3 := Check_pure small6 small6_ok _ _ fa fa [] (by simp) (by simp)
 rw [check_27a] at c1
 rw [check_27b] at c2
 rw [check_27c] at c3
 have s1 := seen27_pure small6 small6_ok _ ka 4000
 have hsl := seen_27
 rw [full_27] at s1
 generalize seenP small6 (at6 1 0 2 0) 4000 = sn at *
 have q1 := Same27_pure ([at6 1 0 2 0], 0) ([at6 1 0 2 0], 0) (by simp) (by simp) (by simp [fa]) (by simp [fa])
 have q2 := Same27_pure ([at6 1 0 2 0, at6 0 1 2 1, at6 0 2 0 0], 0) ([at6 1 0 2 0, at6 0 1 2 1, at6 0 2 0 0], 0) (by simp) (by simp) (by simp [fa, fb, fc]) (by simp [fa, fb, fc])
 rw [decide_eq_true rfl] at q1 q2
 generalize at6 1 0 2 0 = a at *
 generalize at6 0 1 2 1 = b at *
 generalize at6 0 2 0 0 = c at *
 generalize at6 1 0 2 1 = d at *
 clear ka kb kc kd fa fb fc fd
 have hen : nth (encD [sn]) 0 = [encPs sn] := rfl
 refine pF Tryz.func20 ?_
 (repeat (first|with_reducible refine wV fun _=>?_|simp [go_sem]))
 refine ACallP.plain hA (by simp [go_sem]) ?_
 (repeat (first|with_reducible refine wV fun _=>?_|simp [go_sem]))
 refine ACallP.plain hB (by simp [go_sem]) ?_
 (repeat (first|with_reducible refine wV fun _=>?_|simp [go_sem]))
 refine ACallP.plain hC (by simp [go_sem]) ?_
 (repeat (first|with_reducible refine wV fun _=>?_|simp [go_sem]))
 refine ACallP.pureF [0, 1, 2, 3, 4, 5, 6, 7] s1 ?_ (by simp [go_sem]) ?_
 ·simp only [small6, encGame, encIss, encIs, encKind, encProg, encStep, encI, List.map_cons, List.map_nil]
  (first|done|exact leX)
 (repeat (first|with_reducible refine wV fun _=>?_|simp [go_sem, hsl, encFound, hen]))
 refine dCall.frz [.agg (encGame small6), .agg (encPos a), .agg (encPos a), .v (.int .i64 0)] _ [0, 1, 2, 3, 4, 5, 6, 7] [] g1 (by simp) ?_ (by simp [go_sem]) ?_
 ·intro h₁ hS
  have h0 := (hS 0 (by simp)).symm
  have h1 := (hS 1 (by simp)).symm
  have h2 := (hS 2 (by simp)).symm
  have h3 := (hS 3 (by simp)).symm
  have h4 := (hS 4 (by simp)).symm
  have h5 := (hS 5 (by simp)).symm
  have h6 := (hS 6 (by simp)).symm
  have h7 := (hS 7 (by simp)).symm
  clear hS
  simp [upd, frzO, frz1] at h0 h1 h2 h3 h4 h5 h6 h7
  simp only [small6, encGame, encIss, encIs, encKind, encProg, encStep, encI, List.map_cons, List.map_nil]
  ((try simp only [encProg, encStep, encAct, encAs, encPath, encPt, encOut, encState, encPos, encOs, encSs, encPs, encIs, encGame, List.map_cons, List.map_nil, List.nil_append, List.append_nil, List.cons_append]); (repeat (first | (with_reducible exact LeRow.nil) | (with_reducible exact LeRows.nil) | (with_reducible exact LeV.refl _) | (with_reducible exact LeRow.refl _ _ _ _) | (with_reducible exact LeRows.refl _) | (with_reducible refine LeRow.cons ?_ ?_) | (with_reducible refine LeRows.cons ?_ ?_) | (with_reducible refine LeV.agg ?_) | (with_reducible refine LeV.tup ?_) | (with_reducible refine LeV.fn ?_ ?_) | (with_reducible exact LeV.nil _) | (with_reducible refine leRows_append (LeRows.refl _) ?_) | ((refine leV_frz (by first | rfl | assumption) (by simp [h0, h1, h2, h3, h4, h5, h6, h7]) (by simp [frzO, frz1, upd, noH, applyW, h0, h1, h2, h3, h4, h5, h6, h7]) ?_); (first | (simp [go_sem, h0, h1, h2, h3, h4, h5, h6, h7]; done) | (simp [go_sem, h0, h1, h2, h3, h4, h5, h6, h7]; exact List.take_of_length_le (by simp [h0, h1, h2, h3, h4, h5, h6, h7])))) | ((refine LeV.frz (by first | rfl | assumption) (by simp [h0, h1, h2, h3, h4, h5, h6, h7]) (by simp [frzO, frz1, upd, noH, applyW, h0, h1, h2, h3, h4, h5, h6, h7]) ?_); (simp only [List.drop_zero, List.take_succ_cons, List.take_zero, List.map_cons, List.map_nil])) | ((refine LeV.frzP (by first | rfl | assumption) (by simp [h0, h1, h2, h3, h4, h5, h6, h7]) (by simp) (by simp [frzO, frz1, upd, noH, applyW, h0, h1, h2, h3, h4, h5, h6, h7]) ?_); (simp only [nth_zero, List.drop_zero])))))
 (repeat (first|with_reducible refine wV fun _=>?_|simp [go_sem, hsl, encFound, hen]))
 refine dCall.flat [encFound ([a], 0), encFound ([a], 0)] (.v (.bool true)) [18] q1 (.v _) ?_ (by simp [go_sem, encFound]) ?_
 ·intro h₁ hS
  have h18 := (hS 18 (by simp)).symm
  simp [upd, frzO, frz1] at h18
  simp only [encFound]
  ((try simp only [encProg, encStep, encAct, encAs, encPath, encPt, encOut, encState, encPos, encOs, encSs, encPs, encIs, encGame, List.map_cons, List.map_nil, List.nil_append, List.append_nil, List.cons_append]); (repeat (first | (with_reducible exact LeRow.nil) | (with_reducible exact LeRows.nil) | (with_reducible exact LeV.refl _) | (with_reducible exact LeRow.refl _ _ _ _) | (with_reducible exact LeRows.refl _) | (with_reducible refine LeRow.cons ?_ ?_) | (with_reducible refine LeRows.cons ?_ ?_) | (with_reducible refine LeV.agg ?_) | (with_reducible refine LeV.tup ?_) | (with_reducible refine LeV.fn ?_ ?_) | (with_reducible exact LeV.nil _) | (with_reducible refine leRows_append (LeRows.refl _) ?_) | ((refine leV_frz (by first | rfl | assumption) (by simp [h18]) (by simp [frzO, frz1, upd, noH, applyW, h18]) ?_); (first | (simp [go_sem, h18]; done) | (simp [go_sem, h18]; exact List.take_of_length_le (by simp [h18])))) | ((refine LeV.frz (by first | rfl | assumption) (by simp [h18]) (by simp [frzO, frz1, upd, noH, applyW, h18]) ?_); (simp only [List.drop_zero, List.take_succ_cons, List.take_zero, List.map_cons, List.map_nil])) | ((refine LeV.frzP (by first | rfl | assumption) (by simp [h18]) (by simp) (by simp [frzO, frz1, upd, noH, applyW, h18]) ?_); (simp only [nth_zero, List.drop_zero])))))
 (repeat (first|with_reducible refine wV fun _=>?_|simp [go_sem, hsl, encFound, hen]))
 refine dGC.frz [.agg (encGame small6), .agg (encPos a), .agg (encPos c), .v (.int .i64 9)] _ [0, 1, 2, 3, 4, 5, 6, 7] [] g2 (by simp) ?_ (by simp [go_sem]) ?_
 ·intro h₁ hS
  have h0 := (hS 0 (by simp)).symm
  have h1 := (hS 1 (by simp)).symm
  have h2 := (hS 2 (by simp)).symm
  have h3 := (hS 3 (by simp)).symm
  have h4 := (hS 4 (by simp)).symm
  have h5 := (hS 5 (by simp)).symm
  have h6 := (hS 6 (by simp)).symm
  have h7 := (hS 7 (by simp)).symm
  clear hS
  simp [upd, frzO, frz1] at h0 h1 h2 h3 h4 h5 h6 h7
  simp only [small6, encGame, encIss, encIs, encKind, encProg, encStep, encI, List.map_cons, List.map_nil]
  ((try simp only [encProg, encStep, encAct, encAs, encPath, encPt, encOut, encState, encPos, encOs, encSs, encPs, encIs, encGame, List.map_cons, List.map_nil, List.nil_append, List.append_nil, List.cons_append]); (repeat (first | (with_reducible exact LeRow.nil) | (with_reducible exact LeRows.nil) | (with_reducible exact LeV.refl _) | (with_reducible exact LeRow.refl _ _ _ _) | (with_reducible exact LeRows.refl _) | (with_reducible refine LeRow.cons ?_ ?_) | (with_reducible refine LeRows.cons ?_ ?_) | (with_reducible refine LeV.agg ?_) | (with_reducible refine LeV.tup ?_) | (with_reducible refine LeV.fn ?_ ?_) | (with_reducible exact LeV.nil _) | (with_reducible refine leRows_append (LeRows.refl _) ?_) | ((refine leV_frz (by first | rfl | assumption) (by simp [h0, h1, h2, h3, h4, h5, h6, h7]) (by simp [frzO, frz1, upd, noH, applyW, h0, h1, h2, h3, h4, h5, h6, h7]) ?_); (first | (simp [go_sem, h0, h1, h2, h3, h4, h5, h6, h7]; done) | (simp [go_sem, h0, h1, h2, h3, h4, h5, h6, h7]; exact List.take_of_length_le (by simp [h0, h1, h2, h3, h4, h5, h6, h7])))) | ((refine LeV.frz (by first | rfl | assumption) (by simp [h0, h1, h2, h3, h4, h5, h6, h7]) (by simp [frzO, frz1, upd, noH, applyW, h0, h1, h2, h3, h4, h5, h6, h7]) ?_); (simp only [List.drop_zero, List.take_succ_cons, List.take_zero, List.map_cons, List.map_nil])) | ((refine LeV.frzP (by first | rfl | assumption) (by simp [h0, h1, h2, h3, h4, h5, h6, h7]) (by simp) (by simp [frzO, frz1, upd, noH, applyW, h0, h1, h2, h3, h4, h5, h6, h7]) ?_); (simp only [nth_zero, List.drop_zero])))))
 (repeat (first|with_reducible refine wV fun _=>?_|simp [go_sem, hsl, encFound, hen]))
 refine dGC.flat [encFound ([a, b, c], 0), encFound ([a, b, c], 0)] (.v (.bool true)) [29] (fun _ => q2) (.v _) ?_ (by simp [go_sem, encFound]) ?_
 ·intro h₁ hS
  have h29 := (hS 29 (by simp)).symm
  simp [upd, frzO, frz1] at h29
  simp only [encFound]
  ((try simp only [encProg, encStep, encAct, encAs, encPath, encPt, encOut, encState, encPos, encOs, encSs, encPs, encIs, encGame, List.map_cons, List.map_nil, List.nil_append, List.append_nil, List.cons_append]); (repeat (first | (with_reducible exact LeRow.nil) | (with_reducible exact LeRows.nil) | (with_reducible exact LeV.refl _) | (with_reducible exact LeRow.refl _ _ _ _) | (with_reducible exact LeRows.refl _) | (with_reducible refine LeRow.cons ?_ ?_) | (with_reducible refine LeRows.cons ?_ ?_) | (with_reducible refine LeV.agg ?_) | (with_reducible refine LeV.tup ?_) | (with_reducible refine LeV.fn ?_ ?_) | (with_reducible exact LeV.nil _) | (with_reducible refine leRows_append (LeRows.refl _) ?_) | ((refine leV_frz (by first | rfl | assumption) (by simp [h29]) (by simp [frzO, frz1, upd, noH, applyW, h29]) ?_); (first | (simp [go_sem, h29]; done) | (simp [go_sem, h29]; exact List.take_of_length_le (by simp [h29])))) | ((refine LeV.frz (by first | rfl | assumption) (by simp [h29]) (by simp [frzO, frz1, upd, noH, applyW, h29]) ?_); (simp only [List.drop_zero, List.take_succ_cons, List.take_zero, List.map_cons, List.map_nil])) | ((refine LeV.frzP (by first | rfl | assumption) (by simp [h29]) (by simp) (by simp [frzO, frz1, upd, noH, applyW, h29]) ?_); (simp only [nth_zero, List.drop_zero])))))
 (repeat (first|with_reducible refine wV fun _=>?_|simp [go_sem, hsl, encFound, hen]))
 refine dGC.plain _ (fun _ => hD) (by simp [go_sem]) ?_
 (repeat (first|with_reducible refine wV fun _=>?_|simp [go_sem, hsl, encFound, hen]))
 refine dGC.frz [.agg (encGame small6), .agg (encPos a), .agg (encPos d), .v (.int .i64 9)] _ [0, 1, 2, 3, 4, 5, 6, 7] [] g3 (by simp) ?_ (by simp [go_sem]) ?_
 ·intro h₁ hS
  have h0 := (hS 0 (by simp)).symm
  have h1 := (hS 1 (by simp)).symm
  have h2 := (hS 2 (by simp)).symm
  have h3 := (hS 3 (by simp)).symm
  have h4 := (hS 4 (by simp)).symm
  have h5 := (hS 5 (by simp)).symm
  have h6 := (hS 6 (by simp)).symm
  have h7 := (hS 7 (by simp)).symm
  clear hS
  simp [upd, frzO, frz1] at h0 h1 h2 h3 h4 h5 h6 h7
  simp only [small6, encGame, encIss, encIs, encKind, encProg, encStep, encI, List.map_cons, List.map_nil]
  ((try simp only [encProg, encStep, encAct, encAs, encPath, encPt, encOut, encState, encPos, encOs, encSs, encPs, encIs, encGame, List.map_cons, List.map_nil, List.nil_append, List.append_nil, List.cons_append]); (repeat (first | (with_reducible exact LeRow.nil) | (with_reducible exact LeRows.nil) | (with_reducible exact LeV.refl _) | (with_reducible exact LeRow.refl _ _ _ _) | (with_reducible exact LeRows.refl _) | (with_reducible refine LeRow.cons ?_ ?_) | (with_reducible refine LeRows.cons ?_ ?_) | (with_reducible refine LeV.agg ?_) | (with_reducible refine LeV.tup ?_) | (with_reducible refine LeV.fn ?_ ?_) | (with_reducible exact LeV.nil _) | (with_reducible refine leRows_append (LeRows.refl _) ?_) | ((refine leV_frz (by first | rfl | assumption) (by simp [h0, h1, h2, h3, h4, h5, h6, h7]) (by simp [frzO, frz1, upd, noH, applyW, h0, h1, h2, h3, h4, h5, h6, h7]) ?_); (first | (simp [go_sem, h0, h1, h2, h3, h4, h5, h6, h7]; done) | (simp [go_sem, h0, h1, h2, h3, h4, h5, h6, h7]; exact List.take_of_length_le (by simp [h0, h1, h2, h3, h4, h5, h6, h7])))) | ((refine LeV.frz (by first | rfl | assumption) (by simp [h0, h1, h2, h3, h4, h5, h6, h7]) (by simp [frzO, frz1, upd, noH, applyW, h0, h1, h2, h3, h4, h5, h6, h7]) ?_); (simp only [List.drop_zero, List.take_succ_cons, List.take_zero, List.map_cons, List.map_nil])) | ((refine LeV.frzP (by first | rfl | assumption) (by simp [h0, h1, h2, h3, h4, h5, h6, h7]) (by simp) (by simp [frzO, frz1, upd, noH, applyW, h0, h1, h2, h3, h4, h5, h6, h7]) ?_); (simp only [nth_zero, List.drop_zero])))))
 (repeat (first|with_reducible refine wV fun _=>?_|simp [go_sem, hsl, encFound, hen]))
 refine dGC.frz [.agg (encGame small6), .agg (encPos a), .agg (encPos c), .v (.int .i64 1)] _ [0, 1, 2, 3, 4, 5, 6, 7] [] g4 (by simp) ?_ (by simp [go_sem]) ?_
 ·intro h₁ hS
  have h0 := (hS 0 (by simp)).symm
  have h1 := (hS 1 (by simp)).symm
  have h2 := (hS 2 (by simp)).symm
  have h3 := (hS 3 (by simp)).symm
  have h4 := (hS 4 (by simp)).symm
  have h5 := (hS 5 (by simp)).symm
  have h6 := (hS 6 (by simp)).symm
  have h7 := (hS 7 (by simp)).symm
  clear hS
  simp [upd, frzO, frz1] at h0 h1 h2 h3 h4 h5 h6 h7
  simp only [small6, encGame, encIss, encIs, encKind, encProg, encStep, encI, List.map_cons, List.map_nil]
  ((try simp only [encProg, encStep, encAct, encAs, encPath, encPt, encOut, encState, encPos, encOs, encSs, encPs, encIs, encGame, List.map_cons, List.map_nil, List.nil_append, List.append_nil, List.cons_append]); (repeat (first | (with_reducible exact LeRow.nil) | (with_reducible exact LeRows.nil) | (with_reducible exact LeV.refl _) | (with_reducible exact LeRow.refl _ _ _ _) | (with_reducible exact LeRows.refl _) | (with_reducible refine LeRow.cons ?_ ?_) | (with_reducible refine LeRows.cons ?_ ?_) | (with_reducible refine LeV.agg ?_) | (with_reducible refine LeV.tup ?_) | (with_reducible refine LeV.fn ?_ ?_) | (with_reducible exact LeV.nil _) | (with_reducible refine leRows_append (LeRows.refl _) ?_) | ((refine leV_frz (by first | rfl | assumption) (by simp [h0, h1, h2, h3, h4, h5, h6, h7]) (by simp [frzO, frz1, upd, noH, applyW, h0, h1, h2, h3, h4, h5, h6, h7]) ?_); (first | (simp [go_sem, h0, h1, h2, h3, h4, h5, h6, h7]; done) | (simp [go_sem, h0, h1, h2, h3, h4, h5, h6, h7]; exact List.take_of_length_le (by simp [h0, h1, h2, h3, h4, h5, h6, h7])))) | ((refine LeV.frz (by first | rfl | assumption) (by simp [h0, h1, h2, h3, h4, h5, h6, h7]) (by simp [frzO, frz1, upd, noH, applyW, h0, h1, h2, h3, h4, h5, h6, h7]) ?_); (simp only [List.drop_zero, List.take_succ_cons, List.take_zero, List.map_cons, List.map_nil])) | ((refine LeV.frzP (by first | rfl | assumption) (by simp [h0, h1, h2, h3, h4, h5, h6, h7]) (by simp) (by simp [frzO, frz1, upd, noH, applyW, h0, h1, h2, h3, h4, h5, h6, h7]) ?_); (simp only [nth_zero, List.drop_zero])))))
 (repeat (first|with_reducible refine wV fun _=>?_|simp [go_sem, hsl, encFound, hen]))
 refine dGC.flat [.agg (encGame small6), .agg (encPos a), .agg (encPos c), encPs [a, b, c]] (.v (.bool true)) [0, 1, 2, 3, 4, 5, 6, 7, 56] (fun _ => c1) (.v _) ?_ (by simp [go_sem]) ?_
 ·intro h₁ hS
  have h0 := (hS 0 (by simp)).symm
  have h1 := (hS 1 (by simp)).symm
  have h2 := (hS 2 (by simp)).symm
  have h3 := (hS 3 (by simp)).symm
  have h4 := (hS 4 (by simp)).symm
  have h5 := (hS 5 (by simp)).symm
  have h6 := (hS 6 (by simp)).symm
  have h7 := (hS 7 (by simp)).symm
  have h56 := (hS 56 (by simp)).symm
  clear hS
  simp [upd, frzO, frz1] at h0 h1 h2 h3 h4 h5 h6 h7 h56
  simp only [small6, encGame, encIss, encIs, encKind, encProg, encStep, encI, List.map_cons, List.map_nil]
  ((try simp only [encProg, encStep, encAct, encAs, encPath, encPt, encOut, encState, encPos, encOs, encSs, encPs, encIs, encGame, List.map_cons, List.map_nil, List.nil_append, List.append_nil, List.cons_append]); (repeat (first | (with_reducible exact LeRow.nil) | (with_reducible exact LeRows.nil) | (with_reducible exact LeV.refl _) | (with_reducible exact LeRow.refl _ _ _ _) | (with_reducible exact LeRows.refl _) | (with_reducible refine LeRow.cons ?_ ?_) | (with_reducible refine LeRows.cons ?_ ?_) | (with_reducible refine LeV.agg ?_) | (with_reducible refine LeV.tup ?_) | (with_reducible refine LeV.fn ?_ ?_) | (with_reducible exact LeV.nil _) | (with_reducible refine leRows_append (LeRows.refl _) ?_) | ((refine leV_frz (by first | rfl | assumption) (by simp [h0, h1, h2, h3, h4, h5, h6, h7, h56]) (by simp [frzO, frz1, upd, noH, applyW, h0, h1, h2, h3, h4, h5, h6, h7, h56]) ?_); (first | (simp [go_sem, h0, h1, h2, h3, h4, h5, h6, h7, h56]; done) | (simp [go_sem, h0, h1, h2, h3, h4, h5, h6, h7, h56]; exact List.take_of_length_le (by simp [h0, h1, h2, h3, h4, h5, h6, h7, h56])))) | ((refine LeV.frz (by first | rfl | assumption) (by simp [h0, h1, h2, h3, h4, h5, h6, h7, h56]) (by simp [frzO, frz1, upd, noH, applyW, h0, h1, h2, h3, h4, h5, h6, h7, h56]) ?_); (simp only [List.drop_zero, List.take_succ_cons, List.take_zero, List.map_cons, List.map_nil])) | ((refine LeV.frzP (by first | rfl | assumption) (by simp [h0, h1, h2, h3, h4, h5, h6, h7, h56]) (by simp) (by simp [frzO, frz1, upd, noH, applyW, h0, h1, h2, h3, h4, h5, h6, h7, h56]) ?_); (simp only [nth_zero, List.drop_zero])))))
 (repeat (first|with_reducible refine wV fun _=>?_|simp [go_sem, hsl, encFound, hen]))
 refine dGC.flat [.agg (encGame small6), .agg (encPos a), .agg (encPos c), encPs [a, c]] (.v (.bool false)) [0, 1, 2, 3, 4, 5, 6, 7, 65] (fun _ => c2) (.v _) ?_ (by simp [go_sem]) ?_
 ·intro h₁ hS
  have h0 := (hS 0 (by simp)).symm
  have h1 := (hS 1 (by simp)).symm
  have h2 := (hS 2 (by simp)).symm
  have h3 := (hS 3 (by simp)).symm
  have h4 := (hS 4 (by simp)).symm
  have h5 := (hS 5 (by simp)).symm
  have h6 := (hS 6 (by simp)).symm
  have h7 := (hS 7 (by simp)).symm
  have h65 := (hS 65 (by simp)).symm
  clear hS
  simp [upd, frzO, frz1] at h0 h1 h2 h3 h4 h5 h6 h7 h65
  simp only [small6, encGame, encIss, encIs, encKind, encProg, encStep, encI, List.map_cons, List.map_nil]
  ((try simp only [encProg, encStep, encAct, encAs, encPath, encPt, encOut, encState, encPos, encOs, encSs, encPs, encIs, encGame, List.map_cons, List.map_nil, List.nil_append, List.append_nil, List.cons_append]); (repeat (first | (with_reducible exact LeRow.nil) | (with_reducible exact LeRows.nil) | (with_reducible exact LeV.refl _) | (with_reducible exact LeRow.refl _ _ _ _) | (with_reducible exact LeRows.refl _) | (with_reducible refine LeRow.cons ?_ ?_) | (with_reducible refine LeRows.cons ?_ ?_) | (with_reducible refine LeV.agg ?_) | (with_reducible refine LeV.tup ?_) | (with_reducible refine LeV.fn ?_ ?_) | (with_reducible exact LeV.nil _) | (with_reducible refine leRows_append (LeRows.refl _) ?_) | ((refine leV_frz (by first | rfl | assumption) (by simp [h0, h1, h2, h3, h4, h5, h6, h7, h65]) (by simp [frzO, frz1, upd, noH, applyW, h0, h1, h2, h3, h4, h5, h6, h7, h65]) ?_); (first | (simp [go_sem, h0, h1, h2, h3, h4, h5, h6, h7, h65]; done) | (simp [go_sem, h0, h1, h2, h3, h4, h5, h6, h7, h65]; exact List.take_of_length_le (by simp [h0, h1, h2, h3, h4, h5, h6, h7, h65])))) | ((refine LeV.frz (by first | rfl | assumption) (by simp [h0, h1, h2, h3, h4, h5, h6, h7, h65]) (by simp [frzO, frz1, upd, noH, applyW, h0, h1, h2, h3, h4, h5, h6, h7, h65]) ?_); (simp only [List.drop_zero, List.take_succ_cons, List.take_zero, List.map_cons, List.map_nil])) | ((refine LeV.frzP (by first | rfl | assumption) (by simp [h0, h1, h2, h3, h4, h5, h6, h7, h65]) (by simp) (by simp [frzO, frz1, upd, noH, applyW, h0, h1, h2, h3, h4, h5, h6, h7, h65]) ?_); (simp only [nth_zero, List.drop_zero])))))
 (repeat (first|with_reducible refine wV fun _=>?_|simp [go_sem, hsl, encFound, hen]))
 refine dGC.flat [.agg (encGame small6), .agg (encPos a), .agg (encPos a), encPs []] (.v (.bool false)) [0, 1, 2, 3, 4, 5, 6, 7] (fun _ => c3) (.v _) ?_ (by simp [go_sem]) ?_
 ·intro h₁ hS
  have h0 := (hS 0 (by simp)).symm
  have h1 := (hS 1 (by simp)).symm
  have h2 := (hS 2 (by simp)).symm
  have h3 := (hS 3 (by simp)).symm
  have h4 := (hS 4 (by simp)).symm
  have h5 := (hS 5 (by simp)).symm
  have h6 := (hS 6 (by simp)).symm
  have h7 := (hS 7 (by simp)).symm
  clear hS
  simp [upd, frzO, frz1] at h0 h1 h2 h3 h4 h5 h6 h7
  simp only [small6, encGame, encIss, encIs, encKind, encProg, encStep, encI, List.map_cons, List.map_nil]
  ((try simp only [encProg, encStep, encAct, encAs, encPath, encPt, encOut, encState, encPos, encOs, encSs, encPs, encIs, encGame, List.map_cons, List.map_nil, List.nil_append, List.append_nil, List.cons_append]); (repeat (first | (with_reducible exact LeRow.nil) | (with_reducible exact LeRows.nil) | (with_reducible exact LeV.refl _) | (with_reducible exact LeRow.refl _ _ _ _) | (with_reducible exact LeRows.refl _) | (with_reducible refine LeRow.cons ?_ ?_) | (with_reducible refine LeRows.cons ?_ ?_) | (with_reducible refine LeV.agg ?_) | (with_reducible refine LeV.tup ?_) | (with_reducible refine LeV.fn ?_ ?_) | (with_reducible exact LeV.nil _) | (with_reducible refine leRows_append (LeRows.refl _) ?_) | ((refine leV_frz (by first | rfl | assumption) (by simp [h0, h1, h2, h3, h4, h5, h6, h7]) (by simp [frzO, frz1, upd, noH, applyW, h0, h1, h2, h3, h4, h5, h6, h7]) ?_); (first | (simp [go_sem, h0, h1, h2, h3, h4, h5, h6, h7]; done) | (simp [go_sem, h0, h1, h2, h3, h4, h5, h6, h7]; exact List.take_of_length_le (by simp [h0, h1, h2, h3, h4, h5, h6, h7])))) | ((refine LeV.frz (by first | rfl | assumption) (by simp [h0, h1, h2, h3, h4, h5, h6, h7]) (by simp [frzO, frz1, upd, noH, applyW, h0, h1, h2, h3, h4, h5, h6, h7]) ?_); (simp only [List.drop_zero, List.take_succ_cons, List.take_zero, List.map_cons, List.map_nil])) | ((refine LeV.frzP (by first | rfl | assumption) (by simp [h0, h1, h2, h3, h4, h5, h6, h7]) (by simp) (by simp [frzO, frz1, upd, noH, applyW, h0, h1, h2, h3, h4, h5, h6, h7]) ?_); (simp only [nth_zero, List.drop_zero])))))
 (repeat (first|with_reducible refine wV fun _=>?_|simp [go_sem, hsl, encFound, hen]))
end Go.Av
end
section
/- The law ReachMatchesReference: its call gives true. -/
open Go Go.Proofs
namespace Go.Av
end Go.Av
end
section
open Go Go.Proofs
namespace Go.Av
def ChainP (g : GameD) (l : List PosD) : Prop := ∀ j, j + 1 < l.length → nth l (j + 1) ∈ movesP g (nth l j)
section Ways
variable {g : GameD} (hg : GOk g) {p : PosD} (hp : POk g p)
end Ways
end Go.Av
end
section
/- Laws of play: the fixed examples. -/
open Go Go.Proofs
namespace Go.Av
end Go.Av
end
section
/- The law PlayEnds: its call gives true. -/
open Go Go.Proofs
namespace Go.Av
end Go.Av
end
section
/- The law PlayWalks: its call gives true. -/
open Go Go.Proofs
namespace Go.Av
theorem walkP_zero (g : GameD) (p : PosD) (l : List Int) : nth (walkP g p l) 0 = p := by
 cases l with
 | nil => rfl
 | cons k l => rw [walkP]; split <;> rfl
theorem walkP_step (g : GameD) : ∀ (l : List Int) (p : PosD) (i : Nat), i + 1 < (walkP g p l).length → i < l.length ∧ movesP g (nth (walkP g p l) i) ≠ [] ∧
  nth (walkP g p l) (i + 1) = nth (movesP g (nth (walkP g p l) i)) ((nth l i).emod (movesP g (nth (walkP g p l) i)).length).toNat
 | [], p, i, h => by simp [walkP] at h
 | k :: l, p, i, h => by
  rw [walkP] at h ⊢
  split at h
  ·simp at h
  ·rename_i hm
   rw [if_neg hm]
   cases i with
   | zero => exact ⟨by simp, hm, walkP_zero _ _ _⟩
   | succ i =>
    rw [nth_succ, nth_succ, nth_succ]
    have := walkP_step g l (nth (movesP g p) (k.emod (movesP g p).length).toNat) i (by simpa using h)
    exact ⟨by have := this.1; simp; omega, this.2⟩
end Go.Av
end
section
/- The laws ReachGames, ReachBudgets and ReachShortest: plain facts about walks; their calls give true. -/
open Go Go.Proofs
namespace Go.Av
theorem walkP_chain (g : GameD) (p : PosD) (l : List Int) : ChainP g (walkP g p l) := fun j hj => by
 obtain ⟨h1, h2, h3⟩ := walkP_step g l p j hj
 rw [h3]
 have hlp : 0 < (movesP g (nth (walkP g p l) j)).length := List.length_pos_iff.2 h2
 generalize movesP g (nth (walkP g p l) j) = m at *
 have e2 : 0 ≤ (nth l j).emod m.length := Int.emod_nonneg _ (by omega)
 have e3 : (nth l j).emod m.length < m.length := Int.emod_lt_of_pos _ (by omega)
 exact nth_mem (by omega)
end Go.Av
end
section
/- The law ReachChecks: its call gives true. -/
open Go Go.Proofs
namespace Go.Av
def stepsB (g : GameD) (q : List PosD) : Nat → Bool
 | 0 => decide (0 < q.length)
 | n + 1 => if stepsB g q n = true then decide (nth q (n + 1) ∈ movesP g (nth q n)) else false
theorem stepsB_iff (g : GameD) (q : List PosD) : ∀ n, stepsB g q n = true ↔ 0 < q.length ∧ ∀ j, j < n → nth q (j + 1) ∈ movesP g (nth q j)
 | 0 => by simp [stepsB]
 | n + 1 => by
  rw [stepsB]
  have ih := stepsB_iff g q n
  by_cases h : stepsB g q n = true
  ·rw [if_pos h, decide_eq_true_eq]
   obtain ⟨h1, h2⟩ := ih.1 h
   constructor
   ·intro h3
    refine ⟨h1, fun j hj => ?_⟩
    by_cases e : j = n
    ·subst e; exact h3
    ·exact h2 j (by omega)
   ·rintro ⟨_, h3⟩; exact h3 n (by omega)
  ·rw [if_neg h]
   constructor
   ·intro h3; cases h3
   ·rintro ⟨h1, h2⟩; exact absurd (ih.2 ⟨h1, fun j hj => h2 j (by omega)⟩) h
theorem checkP_steps (g : GameD) {q : List PosD} (h : 0 < q.length) : checkP g (nth q 0) (nth q (q.length - 1)) q = stepsB g q (q.length - 1) := by
 rw [Bool.eq_iff_iff, stepsB_iff]
 unfold checkP
 rw [decide_eq_true_eq]
 constructor
 ·rintro ⟨_, _, _, h4⟩; exact ⟨h, h4⟩
 ·rintro ⟨_, h4⟩; exact ⟨List.length_pos_iff.1 h, rfl, rfl, h4⟩
theorem ReachChecks_pure (x : Raw6) (hx : Raw6Ok x) (y : RawP) (hy : RawPOk y) (picks : List Int) (hl : picks.length ≤ 1048576) (hb : ∀ k ∈ picks, -9223372036854775808 ≤ k ∧ k ≤ 9223372036854775807) :
  Pure Tryz.prog 4 [.agg (encRaw6 x), .agg (encRawP y), encIs picks] (.v (.bool true)) := by
 refine pF Tryz.func4 ?_
 have hM := R6Made_pure x hx
 have hg := game6_ok hx
 have hp := pos6_ok hx
 obtain ⟨er, her⟩ : ∃ er, er = encRaw6 x := ⟨_, rfl⟩
 have herl : er.length = 31 := by rw [her]; exact raw6_len hx
 have herb : ∀ n, (∀ c ∈ er, Bel n c) = True := fun n => by rw [her]; exact raw6_bel hx n
 rw [← her] at hM ⊢
 generalize game6 x = g at *
 generalize pos6 x = p at *
 have hY := R4Made_pure g hg y hy
 have hqo := madePos_ok hg hy
 obtain ⟨q, hq⟩ : ∃ q, q = madePos g y := ⟨_, rfl⟩
 rw [← hq] at hY hqo
 clear hq
 obtain ⟨yl, _, _, _, _, _, yb⟩ := rawRow hy
 obtain ⟨ey, hey⟩ : ∃ ey, ey = encRawP y := ⟨_, rfl⟩
 rw [← hey] at hY yl yb ⊢
 have hS := sanity27_pure
 have hWr := R6WalkA_pure g hg p hp picks (by omega)
 have hwl := walkP_len g picks p
 have hwo := fun m hm => walkP_ok hg picks hp m hm
 have hwne := walkP_ne g p picks
 have hwp : 0 < (walkP g p picks).length := List.length_pos_iff.2 hwne
 have hwc := walkP_chain g p picks
 have hw0 := walkP_zero g p picks
 generalize walkP g p picks = w at *
 have hC := fun (s t : PosD) (hs : POk g s) (ht : POk g t) (l : List PosD) (hl : l.length ≤ 17179869184) (ho : ∀ z ∈ l, POk g z) => Check_pure g hg s t (hs.fits hg) (ht.fits hg) l hl ho
 have hL := fun (s t : PosD) (hs : POk g s) (ht : POk g t) => Legal_pure g hg s hs t (ht.fits hg)
 have hegl : (encGame g).length = 9 := rfl
 have hegb : ∀ n, (∀ c ∈ encGame g, Bel n c) = True := fun n => by simp [go_sem]
 generalize encGame g = eg at *
 (repeat (first|with_reducible refine wV fun _=>?_|simp [go_sem, herl, yl]))
 refine ACallP.plain hS (by simp [go_sem]) ?_
 (repeat (first|with_reducible refine wV fun _=>?_|simp [go_sem, herl, yl]))
 refine aIf.mkL (fun h6 => ?_) (fun h6 => ?_) <;> simp at h6
 ·(repeat (first|with_reducible refine wV fun _=>?_|simp [go_sem]))
 ·(repeat (first|with_reducible refine wV fun _=>?_|simp [go_sem, herl, yl]))
  refine ACallP.plain hM (by simp [go_sem, herb]) ?_
  (repeat (first|with_reducible refine wV fun _=>?_|simp [go_sem, herl, yl, hegl]))
  refine ACallP.plain hWr (by simp [go_sem, hegb]) ?_
  have hz : (w = []) = False := eq_false hwne
  (repeat (first|with_reducible refine wV fun _=>?_|simp [go_sem, herl, yl, hegl, hz]))
  refine aIf.mkL (fun hA => ?one) (fun hA => ?two)
  case' one =>
   simp at hA
   have hnk : nth (picks.map encI) 0 = [.v (.int .i64 (nth picks 0))] := nth_map _ _ _ (by omega)
   have hm0 : 0 ≤ (nth picks 0).emod 256 := Int.emod_nonneg _ (by omega)
   have hi0 : 0 ≤ ((nth picks 0).emod 256).tmod w.length := Int.tmod_nonneg _ hm0
   have hi1 : ((nth picks 0).emod 256).tmod w.length < w.length := Int.tmod_lt_of_pos _ (by omega)
   have hm1 : (nth picks 0).emod 256 < 256 := Int.emod_lt_of_pos _ (by omega)
   have hme : nth picks 0 % 256 = (nth picks 0).emod 256 := rfl
   generalize hmm : (nth picks 0).emod 256 = mm at *
   generalize htt : mm.tmod w.length = i at *
   (repeat (first|with_reducible refine wV fun _=>?_|simp [go_sem, herl, yl, hegl, hnk, hA, hz, hme, hmm, htt]))
   (first | refine ACallP.plain (hY) (by simp [go_sem, hegb, yb]) ?_ | refine aGC.plain _ (fun _ => hY) (by simp [go_sem, hegb, yb]) ?_ | ((try ((with_reducible refine wZ ?_); (try simp [go_sem]))); first | refine dCall.plain (hY) (by simp [go_sem, hegb, yb]) ?_ | refine dGC.plain _ (fun _ => hY) (by simp [go_sem, hegb, yb]) ?_))
   (repeat (first|with_reducible refine wV fun _=>?_|simp [go_sem, herl, yl, hegl, hi1]))
  case' two =>
   have hi0 : 0 ≤ (w.length : Int) / 2 := by omega
   have hi1 : (w.length : Int) / 2 < w.length := by omega
   generalize htt : (w.length : Int) / 2 = i at *
   have htq : (w.length : Int).tdiv 2 = i := by rw [Int.tdiv_eq_ediv_of_nonneg (by omega)]; exact htt
   (repeat (first|with_reducible refine wV fun _=>?_|simp [go_sem, herl, yl, hegl, htt, htq]))
   (first | refine ACallP.plain (hY) (by simp [go_sem, hegb, yb]) ?_ | refine aGC.plain _ (fun _ => hY) (by simp [go_sem, hegb, yb]) ?_ | ((try ((with_reducible refine wZ ?_); (try simp [go_sem]))); first | refine dCall.plain (hY) (by simp [go_sem, hegb, yb]) ?_ | refine dGC.plain _ (fun _ => hY) (by simp [go_sem, hegb, yb]) ?_))
   (repeat (first|with_reducible refine wV fun _=>?_|simp [go_sem, herl, yl, hegl, hi1]))
  all_goals
   obtain ⟨Ls, hLs⟩ : ∃ Ls : Nat → List PosD, ∀ j, Ls j = if j = 0 then w else if j = 1 then w.take i.toNat ++ w.drop (i.toNat + 1) else w.set i.toNat q := ⟨_, fun _ => rfl⟩
   have hLo : ∀ j, ∀ z ∈ Ls j, POk g z := fun j z hz => by
    rw [hLs] at hz
    split at hz
    ·exact hwo z hz
    ·split at hz
     ·rcases List.mem_append.1 hz with h | h
      ·exact hwo z (List.mem_of_mem_take h)
      ·exact hwo z (List.mem_of_mem_drop h)
     ·rcases List.mem_or_eq_of_mem_set hz with h | h
      ·exact hwo z h
      ·subst h; exact hqo
   have hLl : ∀ j, (Ls j).length ≤ 2097152 := fun j => by
    rw [hLs]
    split
    ·omega
    ·split
     ·simp; omega
     ·simp; omega
   obtain ⟨row, hrow⟩ : ∃ row : List AV, row = [encPs (Ls 0), encPs (Ls 1), encPs (Ls 2)] := ⟨_, rfl⟩
   have hrl : row.length = 3 := by rw [hrow]; rfl
   have hrc : ∀ j, j < 3 → cel row j = encPs (Ls j) := fun j hj => by
    rw [hrow]
    match j, hj with
    | 0, _ => rfl
    | 1, _ => rfl
    | 2, _ => rfl
   have hrb : ∀ n, (∀ c ∈ row, Bel n c) = True := fun n => by rw [hrow]; simp [go_sem]
   refine ALoop.start (ALoop.ind (α := Nat) (fun j => ⟨[(7, .v (.bool true)), (8, .ref 2 0 9 0 0), (9, .ref 3 0 5 0 0), (10, encPs w), (14, .ref 6 0 3 0 0), (15, .v (.int .i64 j))], [(2, .rows true 0 9 [eg]), (3, .rows true 0 5 [encPos p]), (6, .rows true 0 3 [row])], 7⟩)
    (fun d j => j + d = 3) ?_ 3 0 ?_) ?_ ?_
   ·clear hrow
    rintro d j j1 hrec
    (repeat (first|with_reducible refine wV fun _=>?_|simp [go_sem, hegl, hrl]))
    refine aIf.mkL (fun hj => ?_) (fun hj => ?_) <;> simp at hj
    ·have hrj := hrc j (by omega)
     have hlo := hLo j
     have hll := hLl j
     generalize Ls j = l at *
     (repeat (first|with_reducible refine wV fun _=>?_|simp [go_sem, hegl, hrl, hrj]))
     refine ALoop.start (ALoop.ind (α := Nat) (fun m => ⟨[(7, .v (.bool true)), (8, .ref 2 0 9 0 0), (9, .ref 3 0 5 0 0), (10, encPs w), (14, .ref 6 0 3 0 0), (15, .v (.int .i64 j)), (16, encPs l), (17, .v (.bool (stepsB g l m))), (18, .v (.int .i64 ((m : Int) + 1)))], [(2, .rows true 0 9 [eg]), (3, .rows true 0 5 [encPos p]), (6, .rows true 0 3 [row])], 7⟩)
      (fun d m => m + d = l.length - 1) ?_ (l.length - 1) 0 ?_) ?_ ?_
     ·rintro d2 m m1 hrec2
      have e4 : ((m : Int) + 1).toNat = m + 1 := by omega
      (repeat (first|with_reducible refine wV fun _=>?_|simp [go_sem, hegl, hrl]))
      refine aIf.mkL (fun hm => ?_) (fun hm => ?_) <;> simp at hm
      ·have hm1 : m < l.length := by omega
       have hm2 : m + 1 < l.length := by omega
       have hLm := hL (nth l m) (nth l (m + 1)) (hlo _ (nth_mem hm1)) (hlo _ (nth_mem hm2))
       have hsb : stepsB g l (m + 1) = if stepsB g l m = true then decide (nth l (m + 1) ∈ movesP g (nth l m)) else false := rfl
       generalize decide (nth l (m + 1) ∈ movesP g (nth l m)) = dm at *
       generalize stepsB g l m = sb at *
       (repeat (first|with_reducible refine wV fun _=>?_|simp [go_sem, hegl, hrl, hm1, hm2, e4]))
       refine dGC.plain _ (fun _ => hLm) (by simp [go_sem, hegb]) ?_
       (repeat (first|with_reducible refine wV fun _=>?_|simp [go_sem, hegl, hrl, hm1, hm2, e4]))
       refine ALoop.start (hrec2 (d2 - 1) (by omega) (m + 1) (by omega)) ?_ (by simp)
       simp [go_sem, Wk_eq, hegb, hrb, hsb]
      ·rcases Nat.eq_zero_or_pos l.length with hl0 | hl0
       ·obtain rfl := List.length_eq_zero_iff.1 hl0
        obtain rfl : m = 0 := by simp at m1; omega
        have hCq := hC p p hp hp [] (by simp) (by simp)
        rw [checkP_false (by simp)] at hCq
        (repeat (first|with_reducible refine wV fun _=>?_|simp [go_sem, hegl, hrl]))
        refine dGC.skip (.v (.bool false)) ?_
        (repeat (first|with_reducible refine wV fun _=>?_|simp [go_sem, hegl, hrl]))
        refine dGC.plain _ (fun _ => hCq) (by simp [go_sem, hegb]) ?_
        (repeat (first|with_reducible refine wV fun _=>?_|simp [go_sem, hegl, hrl]))
        refine ALoop.start (hrec (d - 1) (by omega) (j + 1) (by omega)) ?_ (by simp)
        simp [go_sem, Wk_eq, hegb, hrb]
       ·obtain rfl : m = l.length - 1 := by omega
        have hn0 : nth (l.map encPos) 0 = encPos (nth l 0) := nth_map _ _ _ hl0
        have hnl : nth (l.map encPos) (l.length - 1) = encPos (nth l (l.length - 1)) := nth_map _ _ _ (by omega)
        have hCq := hC (nth l 0) (nth l (l.length - 1)) (hlo _ (nth_mem hl0)) (hlo _ (nth_mem (by omega))) l (by omega) hlo
        rw [checkP_steps g hl0] at hCq
        generalize stepsB g l (l.length - 1) = sb at *
        have hlne : (l = []) = False := eq_false (List.length_pos_iff.1 hl0)
        (repeat (first|with_reducible refine wV fun _=>?_|simp [go_sem, hegl, hrl, hl0, hn0, hnl, hlne]))
        refine dGC.plain _ (fun _ => hCq) (by simp [go_sem, hegb]) ?_
        (repeat (first|with_reducible refine wV fun _=>?_|simp [go_sem, hegl, hrl, hl0, hn0, hnl, hlne]))
        refine dGC.skip (.v (.bool false)) ?_
        (repeat (first|with_reducible refine wV fun _=>?_|simp [go_sem, hegl, hrl, hl0, hn0, hnl, hlne]))
        refine ALoop.start (hrec (d - 1) (by omega) (j + 1) (by omega)) ?_ (by simp)
        simp [go_sem, Wk_eq, hegb, hrb]
     ·simp
     ·simp [go_sem, Wk_eq, hegb, hrb, stepsB]
     ·simp
    ·have hnw : nth (w.map encPos) (w.length - 1) = encPos (nth w (w.length - 1)) := nth_map _ _ _ (by omega)
     have hlast := hwo _ (nth_mem (show w.length - 1 < w.length by omega))
     have hck : checkP g p (nth w (w.length - 1)) w = true := by
      unfold checkP
      rw [decide_eq_true_eq]
      exact ⟨hwne, hw0, rfl, fun j hj => hwc j (by omega)⟩
     have hCw := hC p (nth w (w.length - 1)) hp hlast w (by omega) hwo
     rw [hck] at hCw
     (repeat (first|with_reducible refine wV fun _=>?_|simp [go_sem, hegl, hrl, hnw, hwp]))
     refine dCall.plain hCw (by simp [go_sem, hegb]) ?_
     (repeat (first|with_reducible refine wV fun _=>?_|simp [go_sem, hegl, hrl, hnw, hwp]))
   ·rfl
   ·simp [go_sem, Wk_eq, hegb, hrb]
    rw [hrow, hLs 0, hLs 1, hLs 2, if_pos rfl, if_neg (by omega), if_pos rfl, if_neg (by omega), if_neg (by omega)]
    refine .cons (.refl _) (.cons (leV_frz rfl (by simp) (by simp [upd, noH]) ?_) (.cons (leV_frz rfl (by simp) (by simp [upd, noH]) ?_) .nil))
    ·rw [List.drop_zero, show (i + 1).toNat = i.toNat + 1 by omega, List.take_of_length_le (by simp), List.map_append, List.map_take, List.map_drop, List.take_of_length_le (l := List.drop _ _) (by simp)]
    ·rw [List.drop_zero, List.take_of_length_le (by simp), List.map_set]
     try rfl
   ·simp
end Go.Av
end
section
open Go Go.Proofs Go.Av
namespace Go.Av
open Go.Proofs.YtblaonmapofniaaGreatDoor
abbrev I64W (n : Int) : Prop := (Lit.int .i64 n).wf = true
theorem opn_ints : Opn Tryz.prog 1048576 UpB 36 (fun l : List Int => [.lst 1 (l.map fun n => [.v (.int .i64 n)])]) (fun l => l.length ≤ 1048576 ∧ ∀ x ∈ l, I64W x) :=
 Opn.slice (sz := 1) Bulk.upto Tryz.underlying36 (by kernel_rfl) (by kernel_rfl) Nat.one_pos (Opn.int Tryz.underlying3 (by kernel_rfl))
end Go.Av
end
