/- Texts of ours, part 9: contracts and facts for this claim. -/
import Derived.Test.YtblaonmapofniaaGreatDoorB09
import Derived.Test.YtblaonmapofniaaGreatDoorRZx08
set_option linter.unusedSimpArgs false
set_option linter.unusedVariables false
set_option maxRecDepth 100000
set_option maxHeartbeats 40000000
section
open Go Go.Proofs
namespace Go.Av
theorem Budget_pure (n : Int) : Pure Tryz.prog 161 [.v (.int .i64 n)] (.v (.int .i64 (budP n))) := by
 refine pF Tryz.func161 ?_
 have e : budP n = if 0 < (if 4000 < n then 4000 else n) then (if 4000 < n then 4000 else n) else 0 := by
  unfold budP
  split <;> split <;> (try split) <;> omega
 rw [e]
 (repeat (first|with_reducible refine wV fun _=>?_|simp [go_sem]))
theorem further_eq {g : GameD} {known now : List PosD} : (sortU cmpP (now.flatMap (movesP g))).filter (fun q => decide (fndP (sortU cmpP known) q < 0)) = sortU cmpP (nextP g known now) := by
 refine (sortU_unique cmp_pos ((sortU_pw cmp_pos _).filter _) fun x => ?_).symm
 rw [nextP_mem, List.mem_filter, sortU_mem, List.mem_flatMap, decide_eq_true_eq]
 have h := fndP_mem (l := sortU cmpP known) (sortU_pw cmp_pos _) (p := x)
 rw [sortU_mem] at h
 constructor
 ·rintro ⟨h1, h2⟩
  exact ⟨h1, by
   have : ¬ 0 ≤ fndP (sortU cmpP known) x := fun h' => h2 (h.1 h')
   omega⟩
 ·rintro ⟨h1, h2⟩
  exact ⟨h1, fun h' => by have := h.2 h'; omega⟩
theorem further_pure (g : GameD) (hg : GOk g) (known now : List PosD) (hs : SearchOk g known now) (hn : now.length ≤ 4000) (hk : known.length ≤ 17179869184) :
  Pure Tryz.prog 164 [.agg (encGame g), encPs now, encPs (sortU cmpP known)] (encPs (sortU cmpP (nextP g known now))) := by
 refine pF Tryz.func164 ?_
 have hok := hs.now_ok
 rw [← further_eq]
 obtain ⟨al, hal⟩ : ∃ al : Nat → List PosD, ∀ k, al k = (now.take k).flatMap (movesP g) := ⟨_, fun _ => rfl⟩
 have hall : ∀ k, (al k).length ≤ 1889784000 := fun k => by
  have := flatMap_moves_len hg (now := now.take k) (fun q hq => hok q (List.mem_of_mem_take hq))
  have h2 : (now.take k).length ≤ 4000 := by simp; omega
  rw [hal]
  omega
 have hals : ∀ k, k < now.length → al (k + 1) = al k ++ movesP g (nth now k) := fun k hk => by
  rw [hal, hal, List.take_add_one, List.getElem?_eq_getElem hk, nth_eq _ _ hk, Option.toList_some, List.flatMap_append]; simp
 have hal0 : al 0 = [] := by rw [hal]; rfl
 have halE : al now.length = now.flatMap (movesP g) := by rw [hal, List.take_length]
 have halo : ∀ q ∈ now.flatMap (movesP g), FitsP q := fun q hq => by
  obtain ⟨r, hr, hm⟩ := List.mem_flatMap.1 hq
  exact ((movesP_ok hg (hok r hr) q hm).1).fits hg
 have hkf : ∀ q ∈ sortU cmpP known, FitsP q := fun q hq => (hs.ok q (sortU_mem.1 hq)).fits hg
 have hkl : (sortU cmpP known).length ≤ 17179869184 := Nat.le_trans (sortU_le _ _) hk
 have hFd := fun q hq => rFind_pure (sortU cmpP known) (sortU_pw cmp_pos _) hkl hkf q hq
 have hM := fun i hi => R6Moves_pure g hg (nth now i) (hok _ (nth_mem (i := i) hi))
 clear hal
 generalize sortU cmpP known = kn at *
 (repeat (first|with_reducible refine wV fun _=>?_|simp [go_sem]))
 refine ALoop.start (ALoop.ind (α := Nat) (fun k => ⟨[(1, encPs now), (2, encPs kn), (3, .ref 0 0 9 0 0), (7, .sl 1 k 5 0 (al k).length), (8, .sl 2 0 5 0 0), (9, .v (.int .i64 k))], [(0, .rows true 0 9 [encGame g]), (1, .rows true k 5 ((al k).map encPos)), (2, .rows true 0 5 [])], 3⟩)
  (fun d k => k + d = now.length) ?_ now.length 0 ?_) ?_ ?_
 ·rintro d k k1 hrec
  (repeat (first|with_reducible refine wV fun _=>?_|simp [go_sem]))
  refine aIf.mkL (fun hk => ?_) (fun hk => ?_) <;> simp at hk
  ·have hMk := hM k hk
   have h1 := hall k
   have h2 := hall (k + 1)
   have hals := hals k hk
   have h3 : (al k).length + (movesP g (nth now k)).length ≤ 1889784000 := by rw [hals, List.length_append] at h2; exact h2
   generalize movesP g (nth now k) = mv at *
   (repeat (first|with_reducible refine wV fun _=>?_|simp [go_sem, hk]))
   refine dCall.plain hMk (by simp [go_sem]) ?_
   (repeat (first|with_reducible refine wV fun _=>?_|simp [go_sem, hk]))
   refine ALoop.start (hrec (d - 1) (by omega) (k + 1) (by omega)) ?_ (by simp)
   simp [go_sem, Wk_eq, hals]
  ·obtain rfl : k = now.length := by omega
   have h1 := hall now.length
   rw [halE] at *
   have hSo := R4Sort_pure (now.flatMap (movesP g)) (by omega) halo
   have hSl := sortU_le cmpP (now.flatMap (movesP g))
   have hSf : ∀ q ∈ sortU cmpP (now.flatMap (movesP g)), FitsP q := fun q hq => halo q (sortU_mem.1 hq)
   generalize now.flatMap (movesP g) = all at *
   generalize sortU cmpP all = S at *
   (repeat (first|with_reducible refine wV fun _=>?_|simp [go_sem]))
   refine ACallP.pureF [1] hSo ?_ (bel1 (bel_encPs _)) ?_
   ·(first|done|exact agX)
   (repeat (first|with_reducible refine wV fun _=>?_|simp [go_sem]))
   obtain ⟨fl, hfl⟩ : ∃ fl : Nat → List PosD, ∀ k, fl k = (S.take k).filter (fun q => decide (fndP kn q < 0)) := ⟨_, fun _ => rfl⟩
   have hfll : ∀ k, (fl k).length ≤ 1889784000 := fun k => by
    have h1 : (fl k).length ≤ (S.take k).length := by rw [hfl]; exact List.length_filter_le _ _
    have h2 : (S.take k).length ≤ S.length := by simp; omega
    omega
   have hfl0 : fl 0 = [] := by rw [hfl]; rfl
   have hfls : ∀ k, k < S.length → fl (k + 1) = if fndP kn (nth S k) < 0 then fl k ++ [nth S k] else fl k := fun k hk => by
    rw [hfl, hfl, List.take_add_one, List.getElem?_eq_getElem hk, nth_eq _ _ hk, Option.toList_some, List.filter_append]
    by_cases h : fndP kn S[k] < 0 <;> simp [h]
   have hflE : fl S.length = S.filter (fun q => decide (fndP kn q < 0)) := by rw [hfl, List.take_length]
   rw [← hflE]
   clear hfl hflE
   refine ALoop.start (ALoop.ind (α := Nat) (fun k => ⟨[(2, encPs kn), (7, encPs S), (8, .sl 2 (fl k).length 5 0 (fl k).length), (10, .v (.int .i64 k))], [(2, .rows true (fl k).length 5 ((fl k).map encPos))], 3⟩)
    (fun d k => k + d = S.length) ?_ S.length 0 ?_) ?_ ?_
   ·rintro d k k1 hrec
    (repeat (first|with_reducible refine wV fun _=>?_|simp [go_sem]))
    refine aIf.mkL (fun hk => ?_) (fun hk => ?_) <;> simp at hk
    ·have hC := hFd _ (hSf _ (nth_mem hk))
     have hfls := hfls k hk
     have h1 := hfll k
     have h2 := hfll (k + 1)
     generalize hq : nth S k = q at *
     generalize fndP kn q = fi at *
     (repeat (first|with_reducible refine wV fun _=>?_|simp [go_sem, hk, hq]))
     refine ACallP.plain hC (by simp [go_sem]) ?_
     (repeat (first|with_reducible refine wV fun _=>?_|simp [go_sem]))
     refine aIf.mkL (fun hz => ?_) (fun hz => ?_) <;> simp at hz
     ·rw [if_pos hz] at hfls
      (repeat (first|with_reducible refine wV fun _=>?_|simp [go_sem, hk, hq]))
      refine ALoop.start (hrec (d - 1) (by omega) (k + 1) (by omega)) ?_ (by simp)
      simp [go_sem, Wk_eq, hfls]
     ·rw [if_neg (by omega)] at hfls
      (repeat (first|with_reducible refine wV fun _=>?_|simp [go_sem]))
      refine ALoop.start (hrec (d - 1) (by omega) (k + 1) (by omega)) ?_ (by simp)
      simp [go_sem, Wk_eq, hfls]
    ·obtain rfl : k = S.length := by omega
     (repeat (first|with_reducible refine wV fun _=>?_|simp [go_sem]))
     exact frX
   ·simp
   ·simp [go_sem, Wk_eq, hfl0]
   ·simp
 ·simp
 ·simp [go_sem, Wk_eq, hal0]
 ·simp
theorem encD_append (D E : List (List PosD)) : encD (D ++ E) = encD D ++ encD E := by simp [encD]
theorem nth_encD {D : List (List PosD)} {i : Nat} (h : i < D.length) : nth (encD D) i = [encPs (nth D i)] := nth_map _ _ _ h
def encSearch (L : List (List PosD × Bool)) : AV := .agg [.lst 1 (encD (L.map (·.1))), .v (.bool (fullP L))]
theorem fullP_end : ∀ (pre : List (List PosD)) (x : List PosD × Bool), fullP (pre.map (fun l => (l, false)) ++ [x]) = x.2
 | [], x => rfl
 | [l], x => rfl
 | l :: m :: pre, x => by
  have := fullP_end (m :: pre) x
  simp only [List.map_cons, List.cons_append] at this ⊢
  rw [fullP]
  ·exact this
  ·simp
theorem Go27_pure (g : GameD) (hg : GOk g) (p : PosD) (hp : POk g p) (n : Int) : Pure Tryz.prog 89 [.agg (encGame g), .agg (encPos p), .v (.int .i64 n)] (encSearch (searchP g p n)) := by
 refine pF Tryz.func89 ?_
 have hB := Budget_pure n
 have hb := budP_range n
 unfold searchP
 generalize budP n = b at *
 generalize hR : layersP g b (b.toNat + 2) [p] [p] = R
 unfold encSearch
 (repeat (first|with_reducible refine wV fun _=>?_|simp [go_sem]))
 refine ALoop.start (ALoop.ind (α := List PosD × List PosD × List (List PosD)) (fun a => ⟨[(2, .v (.int .i64 n)), (3, .ref 0 0 9 0 0), (6, .ref 2 0 2 0 0), (7, .ref 9 0 2 0 0), (8, encPs (sortU cmpP a.1))], [(0, .rows true 0 9 [encGame g]), (2, .rows true 0 2 [[AV.nils, .v (.bool false)]]), (5, .rows true a.2.2.length 1 (encD (a.2.2 ++ [a.2.1]))), (9, .rows true 0 2 [[.sl 5 a.2.2.length 1 0 (a.2.2.length + 1), .v (.bool false)]])], 12⟩)
  (fun d a => SearchOk g a.1 a.2.1 ∧ 1 ≤ d ∧ b.toNat + 2 ≤ a.1.length + d ∧ a.1.length ≤ 1889788000 ∧ a.2.2.length + d = b.toNat + 2 ∧ R = (a.2.2.map fun l => (l, false)) ++ layersP g b d a.1 a.2.1) ?_ (b.toNat + 2) ([p], [p], []) ?_) ?_ ?_
 ·rintro d ⟨known, now, pre⟩ ⟨i1, i2, i3, i4, i6, i5⟩ hrec
  simp only at i1 i2 i3 i4 i5 i6
  obtain ⟨d, rfl⟩ : ∃ d', d = d' + 1 := ⟨d - 1, by omega⟩
  rw [layersP] at i5
  have hkl := sortU_nodup_len i1.nd
  have hnl := i1.now_len
  (repeat (first|with_reducible refine wV fun _=>?_|simp [go_sem]))
  refine ACallP.plain hB (by simp [go_sem]) ?_
  (repeat (first|with_reducible refine wV fun _=>?_|simp [go_sem, hkl]))
  refine aIf.mkL (fun hk => ?_) (fun hk => ?_) <;> simp at hk
  ·rw [if_pos hk] at i5
   have hf : fullP R = false := by rw [i5]; exact fullP_end pre (now, false)
   have hD : R.map (·.1) = pre ++ [now] := by rw [i5]; simp [Function.comp_def]
   rw [hf, hD]
   (repeat (first|with_reducible refine wV fun _=>?_|simp [go_sem]))
   exact leV_frz rfl (by simp [encD]) (by simp [upd, noH]) (by rw [List.drop_zero]; exact List.take_of_length_le (by simp [encD]))
  ·rw [if_neg (by omega)] at i5
   have hF := further_pure g hg known now i1 (by omega) (by omega)
   have hnx := nextP_len hg (known := known) i1.now_ok
   have hn2 := i1.next hg
   have hnd : (known ++ nextP g known now).length = known.length + (nextP g known now).length := List.length_append
   have hsl := sortU_nodup_len (nextP_nodup g known now)
   have hso : ∀ q ∈ sortU cmpP (nextP g known now), FitsP q := fun q hq => (nextP_ok hg i1.now_ok q (sortU_mem.1 hq)).fits hg
   have hSo := R4Sort_pure (sortU cmpP known ++ sortU cmpP (nextP g known now)) (by rw [List.length_append, hkl, hsl]; omega) (fun q hq => by
    rcases List.mem_append.1 hq with h | h
    ·exact (i1.ok q (sortU_mem.1 h)).fits hg
    ·exact hso q h)
   have hSe : sortU cmpP (sortU cmpP known ++ sortU cmpP (nextP g known now)) = sortU cmpP (known ++ nextP g known now) := sortU_congr cmp_pos (fun x => by simp [sortU_mem])
   rw [hSe] at hSo
   have hce : nth (encD (pre ++ [now])) pre.length = [encPs now] := by rw [nth_encD (by simp), nth_eq _ _ (by simp)]; simp
   have hkl2 : (sortU cmpP known).length = known.length := hkl
   have hsl2 : (sortU cmpP (nextP g known now)).length = (nextP g known now).length := hsl
   have hz0 : (sortU cmpP (nextP g known now) = []) = (nextP g known now = []) := propext ⟨fun h => List.eq_nil_of_length_eq_zero (by rw [← hsl, h]; rfl), fun h => List.eq_nil_of_length_eq_zero (by rw [hsl, h]; rfl)⟩
   (repeat (first|with_reducible refine wV fun _=>?_|simp [go_sem, hce]))
   refine dCall.plain hF (by simp [go_sem]) ?_
   by_cases hz : nextP g known now = []
   ·rw [if_pos hz] at i5
    have hf : fullP R = true := by rw [i5]; exact fullP_end pre (now, true)
    have hD : R.map (·.1) = pre ++ [now] := by rw [i5]; simp [Function.comp_def]
    rw [hf, hD]
    have e0 : sortU cmpP ([] : List PosD) = [] := sortU_unique cmp_pos (by simp) (fun x => Iff.rfl)
    (repeat (first|with_reducible refine wV fun _=>?_|simp [go_sem, hsl2, hz0, hz, e0]))
    exact leV_frz rfl (by simp [encD]) (by simp [upd, noH]) (by rw [List.drop_zero]; exact List.take_of_length_le (by simp [encD]))
   ·rw [if_neg hz] at i5
    have hz2 : (nextP g known now = []) = False := eq_false hz
    have hpos := List.length_pos_iff.2 hz
    generalize nextP g known now = nx at *
    (repeat (first|with_reducible refine wV fun _=>?_|simp [go_sem, hsl2, hz0, hz2]))
    refine ACallP.pureF [25] hSo ?_ (bel1 (bel_encPs _)) ?_
    ·exact .cons (leV_frz rfl (by simp [hsl2]) (by simp [frzO, frz1, upd, noH]) (by simp; exact List.take_of_length_le (by simp [hsl2]))) .nil
    (repeat (first|with_reducible refine wV fun _=>?_|simp [go_sem]))
    refine ALoop.start (hrec d (by omega) (known ++ nx, sortU cmpP nx, pre ++ [now]) ⟨hn2, by omega, by simp only; omega, by simp only; omega, by simp; omega, by rw [i5]; simp⟩) ?_ (by simp)
    simp [go_sem, Wk_eq, encD]
 ·exact ⟨SearchOk.start hp, by omega, by simp only [List.length_singleton]; omega, by simp, by simp, by simp [hR]⟩
 ·have e1 : sortU cmpP [p] = [p] := sortU_unique cmp_pos (by simp) (fun x => Iff.rfl)
  simp [go_sem, Wk_eq, e1]
  refine ⟨leV_frz rfl (by simp) (by simp [noH, upd]) (by simp [go_sem]), .cons (.cons (leV_frz rfl (by simp) (by simp [noH, upd]) (by simp [go_sem])) .nil) .nil⟩
 ·simp
end Go.Av
end
section
open Go Go.Proofs
namespace Go.Av
theorem trace11_pure (q : PosD) (hq : FitsP q) (mv : List PosD) (hi : Inc mv) (hl : mv.length ≤ 17179869184) (hf : ∀ r ∈ mv, FitsP r) :
  Pure Tryz.prog 174 [.agg (encPos q), .fp [encPs mv]] (.v (.bool (decide (q ∈ mv)))) := by
 refine pF Tryz.func174 ?_
 have hF := pFind_pure mv hi hl hf q hq
 have e : decide (q ∈ mv) = decide (0 ≤ fndP mv q) := by rw [decide_eq_decide]; exact (fndP_mem hi).symm
 rw [e]
 generalize fndP mv q = fi at *
 (repeat (first|with_reducible refine wV fun _=>?_|simp [go_sem]))
 refine ACallP.plain hF (by simp [go_sem]) ?_
 (repeat (first|with_reducible refine wV fun _=>?_|simp [go_sem]))
theorem trace1_pure (g : GameD) (hg : GOk g) (p : PosD) (hp : POk g p) (l : List PosD) (hl : l.length ≤ 17179869184) (hf : ∀ q ∈ l, FitsP q) :
  Pure Tryz.prog 173 [.agg (encPos p), encPs l, .fp (encGame g)] (.v (.int .i64 (frstP g p l))) := by
 refine pF Tryz.func173 ?_
 have hM := Moves_pure g hg p hp
 have hml := movesP_len2 hg hp
 have hmf := fun m hm => ((movesP_ok hg hp) m hm).1.fits hg
 have hinc := movesP_inc g p
 unfold frstP
 generalize movesP g p = mv at *
 have hC := IndexFuncP_pure l hl 174 [] [.fp [encPs mv]] (fun q => decide (q ∈ mv)) (fun q hq => trace11_pure q (hf q hq) mv hinc (by omega) hmf) (by simp) (by simp [go_sem])
 (repeat (first|with_reducible refine wV fun _=>?_|simp [go_sem]))
 refine ACallP.plain hM (by simp [go_sem]) ?_
 (repeat (first|with_reducible refine wV fun _=>?_|simp [go_sem]))
 refine ACallP.pureF [1] hC ?_ (by simp [go_sem]) ?_
 ·(first|done|exact leX)
 ·(repeat (first|with_reducible refine wV fun _=>?_|simp [go_sem]))
theorem leRows_setK {h h' : Heap} {n : Nat} {x y : List AV} (hx : LeRow h h' n x y) : ∀ (l : List (List AV)) (k : Nat), LeRows h h' n (l.set k x) (l.set k y)
 | [], _ => .nil
 | _ :: l, 0 => .cons hx (.refl _)
 | z :: l, k + 1 => .cons (.refl _ _ _ _) (leRows_setK hx l k)
theorem bel_setK {n : Nat} {l : List (List AV)} {k : Nat} {x : List AV} (h1 : ∀ r ∈ l, ∀ c ∈ r, Bel n c) (h2 : ∀ c ∈ x, Bel n c) : ∀ r ∈ l.set k x, ∀ c ∈ r, Bel n c := by
 intro r hr
 rcases List.mem_or_eq_of_mem_set hr with hr | rfl
 ·exact h1 r hr
 ·exact h2
theorem set_nth_self {α : Type} [Inhabited α] {l : List α} {k : Nat} (h : k < l.length) : l.set k (nth l k) = l := by
 rw [nth_eq _ _ h]
 exact List.set_getElem_self h
theorem leRows_ownK {h h' : Heap} {n o : Nat} {l : List (List AV)} {k : Nat} (hk : k < l.length) (e : nth l k = [AV.nils]) (hn : n ≤ o) (ho : h' o = some (.rows true 0 5 [])) : LeRows h h' n l (l.set k [.sl o 0 5 0 0]) := by
 have h1 : LeRow h h' n [AV.nils] [.sl o 0 5 0 0] := .cons (.own hn ho) .nil
 have := leRows_setK h1 l k
 rwa [← e, set_nth_self hk] at this
theorem nth_backR (N : Nat) (G : List (List PosD)) (m : Nat) {j : Nat} (hj : j < N) : nth (backR N G m) j = if m ≤ j then [encPs (nth G j)] else [AV.nils] := by
 rw [nth_eq _ _ (by rw [backR_len]; exact hj)]
 simp [backR]
theorem backR_set {N : Nat} {G : List (List PosD)} {m : Nat} (hm : m < N) : (backR N G (m + 1)).set m [encPs (nth G m)] = backR N G m := by
 refine List.ext_getElem (by simp [backR]) fun j h1 h2 => ?_
 rw [List.getElem_set]
 simp only [backR, List.getElem_map, List.getElem_range]
 by_cases h : m = j
 ·subst h
  simp
 ·rw [if_neg h]
  by_cases h' : m ≤ j
  ·rw [if_pos h', if_pos (by omega)]
  ·rw [if_neg h', if_neg (by omega)]
theorem backR_last {N : Nat} {G : List (List PosD)} {goal : PosD} (hN : 1 ≤ N) (hG : nth G (N - 1) = [goal]) : (List.replicate N [AV.nils]).set (N - 1) [encPs [goal]] = backR N G (N - 1) := by
 refine List.ext_getElem (by simp [backR]) fun j h1 h2 => ?_
 rw [List.getElem_set]
 simp only [backR, List.getElem_map, List.getElem_range, List.getElem_replicate]
 simp only [backR_len] at h2
 by_cases h : N - 1 = j
 ·subst h
  rw [if_pos rfl, if_pos (by omega), hG]
 ·rw [if_neg h, if_neg (by omega)]
theorem trace_pure (g : GameD) (hg : GOk g) (past : List (List PosD)) (goal : PosD) (hN4 : past.length ≤ 4002) (hc : ChainOk g past) (hgo : goal ∈ nth past (past.length - 1)) (hok : ∀ l ∈ past, ∀ q ∈ l, POk g q) (hll : ∀ l ∈ past, l.length ≤ 1889788001) :
  Pure Tryz.prog 97 [.agg (encGame g), .lst 1 (encD past), .agg (encPos goal)] (encPs (traceP g past goal)) := by
 refine pF Tryz.func97 ?_
 have hN1 := List.length_pos_iff.2 hc.ne
 have hlast := goodP_last g goal past hc.ne
 have hsub := fun i (hi : i < past.length) => goodP_sub (g := g) (goal := goal) hi hgo
 have hat := goodP_at g goal past
 have hway := fun i (hi : i < past.length) => wayP_mem hc hgo i hi
 have hfst := fun i (hi : i + 1 < past.length) => wayP_first hc hgo hi
 have hw0 : wayP g past goal 0 = nth (nth past 0) 0 := rfl
 have hws : ∀ i, wayP g past goal (i + 1) = nth (nth (goodP g past goal) (i + 1)) (frstP g (wayP g past goal i) (nth (goodP g past goal) (i + 1))).toNat := fun i => rfl
 unfold traceP
 generalize goodP g past goal = G at *
 generalize wayP g past goal = way at *
 have hnth : ∀ j, j < past.length → nth (encD past) j = [encPs (nth past j)] := fun j hj => nth_encD hj
 have hNn : ((past.length : Int) - 1).toNat = past.length - 1 := by omega
 have hbl := backR_last (G := G) (goal := goal) hN1 hlast
 have hGo : ∀ i, i < past.length → ∀ q ∈ nth G i, POk g q := fun i hi q hq => hok _ (nth_mem hi) q (hsub i hi q hq)
 have hGf : ∀ i, i < past.length → ∀ q ∈ nth G i, FitsP q := fun i hi q hq => (hGo i hi q hq).fits hg
 have hGl : ∀ i, i < past.length → (nth G i).length ≤ 1889788001 := fun i hi => by
  by_cases h : i + 1 < past.length
  ·rw [hat i h]
   exact Nat.le_trans (List.length_filter_le _ _) (hll _ (nth_mem hi))
  ·obtain rfl : i = past.length - 1 := by omega
   rw [hlast]; simp
 obtain ⟨out, hout⟩ : ∃ out : Nat → List PosD, ∀ i, out i = (List.range i).map way := ⟨_, fun _ => rfl⟩
 have houtl : ∀ i, (out i).length = i := fun i => by rw [hout]; simp
 have houts : ∀ i, out (i + 1) = out i ++ [way i] := fun i => by rw [hout, hout, List.range_succ, List.map_append]; rfl
 have houtn : ∀ i j, j < i → nth (out i) j = way j := fun i j hj => by rw [hout, nth_map _ _ _ (by simpa using hj), nth_eq _ _ (by simpa using hj)]; simp
 have hout0 : out 0 = [] := by rw [hout]; rfl
 rw [← hout]
 clear hout
 have hegl : (encGame g).length = 9 := rfl
 have hegb : ∀ n, (∀ c ∈ encGame g, Bel n c) = True := fun n => by simp [go_sem]
 have hFi := fun p (hp : POk g p) i (hi : i < past.length) => trace1_pure g hg p hp (nth G i) (by have := hGl i hi; omega) (hGf i hi)
 generalize encGame g = eg at *
 (repeat (first|with_reducible refine wV fun _=>?_|simp [go_sem, hNn, hegl]))
 refine ALoop.start (ALoop.ind (α := Nat) (fun m => ⟨[(1, .lst 1 (encD past)), (7, .v (.int .i64 ((past.length : Int) - 1))), (8, .sl 2 0 1 0 past.length), (9, .fn (.func 173) [] [.ref 0 0 9 0 0]), (10, .v (.int .i64 ((m : Int) - 1)))], [(0, .rows false 0 9 [eg]), (2, .rows true 0 1 (backR past.length G m))], 4⟩)
  (fun d m => d = m ∧ m ≤ past.length - 1) ?_ (past.length - 1) (past.length - 1) ?_) ?_ ?_
 ·rintro d m ⟨rfl, i1⟩ hrec
  (repeat (first|with_reducible refine wV fun _=>?_|simp [go_sem]))
  refine aIf.mkL (fun hm => ?_) (fun hm => ?_) <;> simp at hm
  ·have e1 : ((d : Int) - 1).toNat = d - 1 := by omega
   have e2 : ((d : Int) - 1 + 1).toNat = d := by omega
   have hn := hnth (d - 1) (by omega)
   have hat := hat (d - 1) (by omega)
   rw [show d - 1 + 1 = d by omega] at hat
   have hly := hok _ (nth_mem (show d - 1 < past.length by omega))
   have hlyl := hll _ (nth_mem (show d - 1 < past.length by omega))
   generalize nth past (d - 1) = ly at *
   have hFd := fun p hp => hFi p hp d (by omega)
   obtain ⟨fl, hfl⟩ : ∃ fl : Nat → List PosD, ∀ k, fl k = (ly.take k).filter (fun p => decide (0 ≤ frstP g p (nth G d))) := ⟨_, fun _ => rfl⟩
   have hfll : ∀ k, (fl k).length ≤ 1889788001 := fun k => by
    have h1 : (fl k).length ≤ (ly.take k).length := by rw [hfl]; exact List.length_filter_le _ _
    have h2 : (ly.take k).length ≤ ly.length := by simp; omega
    omega
   have hfl0 : fl 0 = [] := by rw [hfl]; rfl
   have hfls : ∀ k, k < ly.length → fl (k + 1) = if 0 ≤ frstP g (nth ly k) (nth G d) then fl k ++ [nth ly k] else fl k := fun k hk => by
    rw [hfl, hfl, List.take_add_one, List.getElem?_eq_getElem hk, nth_eq _ _ hk, Option.toList_some, List.filter_append]
    by_cases h : 0 ≤ frstP g ly[k] (nth G d) <;> simp [h]
   have hflE : fl ly.length = nth G (d - 1) := by rw [hfl, List.take_length, hat]
   have hb1 : nth (backR past.length G d) d = [encPs (nth G d)] := by rw [nth_backR _ _ _ (by omega), if_pos (Nat.le_refl _)]
   have hb2 : nth (backR past.length G d) (d - 1) = [AV.nils] := by rw [nth_backR _ _ _ (by omega), if_neg (by omega)]
   have hb3 : ∀ r : List AV, nth ((backR past.length G d).set (d - 1) r) d = [encPs (nth G d)] := fun r => by
    rw [nth_setE, if_neg (by omega), hb1]
   have hdl : d - 1 < past.length := by omega
   have hdl2 : d < past.length := by omega
   clear hfl hat
   (repeat (first|with_reducible refine wV fun _=>?_|simp [go_sem, hn, e1]))
   refine ALoop.start (ALoop.ind (α := Nat) (fun j => ⟨[(1, .lst 1 (encD past)), (7, .v (.int .i64 ((past.length : Int) - 1))), (8, .sl 2 0 1 0 past.length), (9, .fn (.func 173) [] [.ref 0 0 9 0 0]), (10, .v (.int .i64 ((d : Int) - 1))), (36, encPs ly), (37, .v (.int .i64 ly.length)), (38, .v (.int .i64 j))],
     [(0, .rows false 0 9 [eg]), (2, .rows true 0 1 ((backR past.length G d).set (d - 1) [.sl 4 (fl j).length 5 0 (fl j).length])), (4, .rows true (fl j).length 5 ((fl j).map encPos))], 5⟩)
    (fun d j => j + d = ly.length) ?_ ly.length 0 ?_) ?_ ?_
   ·rintro d2 j j1 hrec2
    (repeat (first|with_reducible refine wV fun _=>?_|simp [go_sem]))
    refine aIf.mkL (fun hj => ?_) (fun hj => ?_) <;> simp at hj
    ·have hpo := hly _ (nth_mem hj)
     have hF := hFd _ hpo
     have hfls := hfls j hj
     have h1 := hfll j
     have h2 := hfll (j + 1)
     generalize hq : nth ly j = q at *
     generalize frstP g q (nth G d) = fi at *
     (repeat (first|with_reducible refine wV fun _=>?_|simp [go_sem, hj, hq, e2, hb3, hdl2]))
     refine dCall.frz [.agg (encPos q), encPs (nth G d), .fp eg] _ [0] [] hF (by simp) ?_ (by simp [go_sem, hegb]) ?_
     ·intro h₁ hS
      have h0 := hS 0 (by simp)
      simp [upd] at h0
      exact .cons (.refl _) (.cons (.refl _) (.cons (.frzP h0.symm (by simp) (by simp) (by simp [applyW, upd, ← h0]) (.refl _ _ _ _)) .nil))
     ·(repeat (first|with_reducible refine wV fun _=>?_|simp [go_sem]))
      refine aIf.mkL (fun hz => ?_) (fun hz => ?_) <;> simp at hz
      ·rw [if_pos hz] at hfls
       (repeat (first|with_reducible refine wV fun _=>?_|simp [go_sem, hdl, e1]))
       refine ALoop.start (hrec2 (d2 - 1) (by omega) (j + 1) (by omega)) ?_ (by simp)
       simp [go_sem, Wk_eq, hfls, hegb]
       exact bel_setK (of_eq_true bel_backR) (by simp [go_sem])
      ·rw [if_neg (by omega)] at hfls
       (repeat (first|with_reducible refine wV fun _=>?_|simp [go_sem]))
       refine ALoop.start (hrec2 (d2 - 1) (by omega) (j + 1) (by omega)) ?_ (by simp)
       simp [go_sem, Wk_eq, hfls, hegb]
       exact bel_setK (of_eq_true bel_backR) (by simp [go_sem])
    ·obtain rfl : j = ly.length := by omega
     rw [hflE]
     have hbs := backR_set (G := G) (N := past.length) (m := d - 1) (by omega)
     rw [show d - 1 + 1 = d by omega] at hbs
     have ec : ((d - 1 : Nat) : Int) = (d : Int) - 1 := by omega
     (repeat (first|with_reducible refine wV fun _=>?_|simp [go_sem]))
     refine ALoop.start (hrec (d - 1) (by omega) (d - 1) ⟨rfl, by omega⟩) ?_ (by simp)
     simp [go_sem, Wk_eq, hegb, ec]
     rw [← hbs]
     exact leRows_setK (.cons (leV_frz rfl (by simp) (by simp [upd, noH]) (by simp; exact List.take_of_length_le (by simp))) .nil) _ _
   ·simp
   ·simp [go_sem, Wk_eq, hfl0, hegb]
    refine ⟨?_, bel_setK (of_eq_true bel_backR) (by simp [go_sem])⟩
    exact leRows_ownK (by rw [backR_len]; omega) hb2 (by simp) (by simp [mkH, upd])
   ·simp
  ·obtain rfl : d = 0 := by omega
   have hn0 := hnth 0 (by omega)
   obtain ⟨st, hst⟩ := hc.one
   have hz1 : nth (nth past 0) 0 = st := by rw [hst]; rfl
   rw [hst] at hn0
   rw [hz1] at hw0
   have hg0 := fun j (hj : j < past.length) => nth_backR past.length G 0 hj
   simp only [Nat.zero_le, if_true] at hg0
   have hout1 : out 1 = [st] := by rw [houts 0, hout0, hw0]; rfl
   (repeat (first|with_reducible refine wV fun _=>?_|simp [go_sem, hn0]))
   refine ALoop.start (ALoop.ind (α := Nat) (fun i => ⟨[(7, .v (.int .i64 ((past.length : Int) - 1))), (8, .sl 2 0 1 0 past.length), (9, .fn (.func 173) [] [.ref 0 0 9 0 0]), (13, .sl 4 i 5 0 (i + 1)), (14, .v (.int .i64 ((i : Int) + 1)))], [(0, .rows false 0 9 [eg]), (2, .rows true 0 1 (backR past.length G 0)), (4, .rows true i 5 ((out (i + 1)).map encPos))], 5⟩)
    (fun d i => i + 1 + d = past.length) ?_ (past.length - 1) 0 ?_) ?_ ?_
   ·rintro d2 i i2 hrec2
    have hol := houtl (i + 1)
    (repeat (first|with_reducible refine wV fun _=>?_|simp [go_sem, hol]))
    refine aIf.mkL (fun hi => ?_) (fun hi => ?_) <;> simp at hi
    ·have e5 : ((i : Int) + 1).toNat = i + 1 := by omega
     have e6 : ((i : Int) + 1 - 1).toNat = i := by omega
     have hgi := hg0 (i + 1) (by omega)
     have hoi := houtn (i + 1) i (by omega)
     have hwi := hGo i (by omega) _ (hway i (by omega))
     have hF := hFi (way i) hwi (i + 1) (by omega)
     have hf1 := hfst i (by omega)
     have hf2 := (frstP_some hf1).1
     have hos := houts (i + 1)
     rw [hws i] at hos
     have hil : i + 1 < past.length := by omega
     generalize frstP g (way i) (nth G (i + 1)) = fi at *
     (repeat (first|with_reducible refine wV fun _=>?_|simp [go_sem, hol, e5, e6, hgi, hoi, hil]))
     refine dCall.frz [.agg (encPos (way i)), encPs (nth G (i + 1)), .fp eg] _ [0] [] hF (by simp) ?_ (by simp [go_sem, hegb]) ?_
     ·intro h₁ hS
      have h0 := hS 0 (by simp)
      simp [upd] at h0
      exact .cons (.refl _) (.cons (.refl _) (.cons (.frzP h0.symm (by simp) (by simp) (by simp [applyW, upd, ← h0]) (.refl _ _ _ _)) .nil))
     ·(repeat (first|with_reducible refine wV fun _=>?_|simp [go_sem, hol, hf2]))
      refine ALoop.start (hrec2 (d2 - 1) (by omega) (i + 1) (by omega)) ?_ (by simp)
      simp [go_sem, Wk_eq, hos, hegb]
    ·have e : out past.length = out (i + 1) := by rw [show past.length = i + 1 by omega]
     (repeat (first|with_reducible refine wV fun _=>?_|simp [go_sem]))
     rw [e]
     exact leV_frz rfl (by simp [hol]) (by simp [upd, noH]) (by simp; exact List.take_of_length_le (by simp [hol]))
   ·simp; omega
   ·simp [go_sem, Wk_eq, hegb, hout1]
   ·simp
 ·exact ⟨rfl, Nat.le_refl _⟩
 ·simp [go_sem, Wk_eq, hegb]
  refine ⟨?_, ?_⟩
  ·rw [show ((past.length - 1 : Nat) : Int) = (past.length : Int) - 1 by omega]
   exact .refl _
  ·rw [← hbl]
   exact leRows_setK (.cons (leV_frz rfl (by simp) (by simp [upd, noH]) (by simp [go_sem])) .nil) _ _
 ·simp
end Go.Av
end
section
open Go Go.Proofs
namespace Go.Av
theorem gameP_at {g : GameD} {p goal : PosD} {n : Int} {d : Nat} (hd : d < (searchP g p n).length) (h : goal ∈ (nth (searchP g p n) d).1) (hb : ∀ j, j < d → goal ∉ (nth (searchP g p n) j).1) :
  gameP g p goal n = (traceP g (((searchP g p n).take (d + 1)).map (·.1)) goal, 0) := by
 have : (searchP g p n).findIdx? (fun x => decide (goal ∈ x.1)) = some d := by
  rw [List.findIdx?_eq_some_iff_getElem]
  refine ⟨hd, by rw [← nth_eq _ _ hd]; simpa using h, fun j hj => ?_⟩
  have := hb j hj
  rw [nth_eq _ _ (by omega)] at this
  simpa using this
 unfold gameP
 rw [this]
theorem gameP_no {g : GameD} {p goal : PosD} {n : Int} (hb : ∀ j, j < (searchP g p n).length → goal ∉ (nth (searchP g p n) j).1) :
  gameP g p goal n = ([], if fullP (searchP g p n) then 270 else 2) := by
 have : (searchP g p n).findIdx? (fun x => decide (goal ∈ x.1)) = none := by
  rw [List.findIdx?_eq_none_iff]
  intro x hx
  obtain ⟨j, hj, rfl⟩ := List.getElem_of_mem hx
  have := hb j hj
  rw [nth_eq _ _ hj] at this
  simpa using this
 unfold gameP
 rw [this]
theorem layersP_last (g : GameD) (b : Int) : ∀ (f : Nat) (known now : List PosD) (i : Nat), (nth (layersP g b f known now) i).2 = true → i < (layersP g b f known now).length → i + 1 = (layersP g b f known now).length
 | 0, known, now, i, h, hl => by simp [layersP] at hl
 | f + 1, known, now, i, h, hl => by
  rw [layersP] at h hl ⊢
  split at h
  ·rename_i hk
   rw [if_pos hk] at hl ⊢
   simp at hl ⊢
   omega
  ·rename_i hk
   rw [if_neg hk] at hl ⊢
   split at h
   ·rename_i hz
    rw [if_pos hz] at hl ⊢
    simp at hl ⊢
    omega
   ·rename_i hz
    rw [if_neg hz] at hl ⊢
    cases i with
    | zero => simp [nth_zero] at h
    | succ i =>
     rw [nth_succ] at h
     have := layersP_last g b f _ _ i h (by simpa using hl)
     simp only [List.length_cons]
     omega
theorem searchP_past {g : GameD} (hg : GOk g) {p : PosD} (hp : POk g p) (n : Int) (d : Nat) :
  (((searchP g p n).take (d + 1)).map (·.1)).length ≤ 4002 ∧ (∀ l ∈ ((searchP g p n).take (d + 1)).map (·.1), ∀ q ∈ l, POk g q) ∧ ∀ l ∈ ((searchP g p n).take (d + 1)).map (·.1), l.length ≤ 1889788001 := by
 have hcnt := searchP_count g p n
 have hok := searchP_ok hg hp n
 have hlen := searchP_len hg hp n
 generalize searchP g p n = L at *
 refine ⟨by simp; omega, fun l hl => ?_, fun l hl => ?_⟩
 ·obtain ⟨x, hx, rfl⟩ := List.mem_map.1 hl
  exact (hok x (List.mem_of_mem_take hx)).2
 ·obtain ⟨x, hx, rfl⟩ := List.mem_map.1 hl
  have hx := List.mem_of_mem_take hx
  obtain ⟨i, hi, rfl⟩ := List.getElem_of_mem hx
  have e : allOf L = allOf (L.take i) ++ (L[i].1 ++ allOf (L.drop (i + 1))) := by
   unfold allOf
   rw [← List.flatMap_cons, ← List.drop_eq_getElem_cons hi, ← List.flatMap_append, List.take_append_drop]
  have := congrArg List.length e
  simp only [List.length_append] at this
  omega
theorem Game_pure (g : GameD) (hg : GOk g) (p : PosD) (hp : POk g p) (goal : PosD) (hq : FitsP goal) (n : Int) :
  Pure Tryz.prog 41 [.agg (encGame g), .agg (encPos p), .agg (encPos goal), .v (.int .i64 n)] (.tup [encPs (gameP g p goal n).1, .v (.int .i64 (gameP g p goal n).2)]) := by
 refine pF Tryz.func41 ?_
 have hS : Owns Tryz.prog 90 [.agg (encGame g), .agg (encPos p), .v (.int .i64 n)] (fun k => layR k) (fun k => layH g p n k) 3 := layers_owns g p n
 have hQ := layersF_seq g hg p hp (budP n) (budP_range n)
 simp only [layR, layH] at hS
 rw [show layersP g (budP n) ((budP n).toNat + 2) [p] [p] = searchP g p n from rfl] at hQ
 have hA := fun d => gameP_at (g := g) (p := p) (goal := goal) (n := n) (d := d)
 have hN := gameP_no (g := g) (p := p) (goal := goal) (n := n)
 have hpast := searchP_past hg hp n
 have hchain := searchP_chain g p n
 have hok := searchP_ok hg hp n
 have hne := searchP_ne g p n
 have hfull := fullP_nth hne
 have hcnt := searchP_count g p n
 have hlst : ∀ i, (nth (searchP g p n) i).2 = true → i < (searchP g p n).length → i + 1 = (searchP g p n).length := layersP_last g (budP n) ((budP n).toNat + 2) [p] [p]
 have hlen := searchP_len hg hp n
 generalize gameP g p goal n = gm at *
 generalize searchP g p n = L at *
 (repeat (first|with_reducible refine wV fun _=>?_|simp [go_sem, GH]))
 refine ACallP.ownsPlain hS (by simp [go_sem]) ?_
 (repeat (first|with_reducible refine wV fun _=>?_|simp [go_sem, GH]))
 refine aRange.mk [.fp (encPos p), .fp [.v (.int .i64 (budP n))], .fp (encGame g)] (frzO _ [6, 7, 8]) hQ (frz_frzO _ _) ?_ (by simp [go_sem]) (fun xs hx => by obtain ⟨y, _, rfl⟩ := List.mem_map.1 hx; rfl) ?_
 ·refine LeRow.cons (.frzP rfl ?_ ?_ ?_ ?_) (LeRow.cons (.frzP rfl ?_ ?_ ?_ ?_) (LeRow.cons (.frzP rfl ?_ ?_ ?_ ?_) .nil)) <;> first | exact LeRow.refl _ _ _ _ | simp [frzO, frz1, upd]
 obtain ⟨D, hD⟩ : ∃ D : Nat → List (List PosD), ∀ k, D k = (L.take k).map (·.1) := ⟨_, fun _ => rfl⟩
 have hDl : ∀ k, k ≤ L.length → (D k).length = k := fun k hk => by rw [hD]; simp; omega
 have hDs : ∀ k, k < L.length → D (k + 1) = D k ++ [(nth L k).1] := fun k hk => by rw [hD, hD, List.take_add_one, List.getElem?_eq_getElem hk, nth_eq _ _ hk, Option.toList_some, List.map_append]; rfl
 have hD0 : D 0 = [] := by rw [hD]; rfl
 simp only [← hD] at hA hpast hchain
 refine Fgt.to (ARange.ind (α := Nat) (fun k => ([(4, .ref 0 0 9 0 0), (6, .ref 2 0 5 0 0), (8, .ref 3 0 1 0 0), (9, .ref 4 0 1 0 0), (10, .ref 5 0 1 0 0)], [(0, .rows true 0 9 [encGame g]), (2, .rows true 0 5 [encPos goal]), (3, .rows true 0 1 [[AV.nils]]), (4, .rows true 0 1 [[.v (.int .i64 0)]]), (5, .rows true 0 1 [[.sl 9 k 1 0 k]]), (9, .rows true k 1 (encD (D k)))], 10))
  (fun rows k => rows = (L.drop k).map rowL ∧ k ≤ L.length ∧ (∀ j, j < k → goal ∉ (nth L j).1 ∧ (nth L j).2 = false)) ?_ ?_ _ 0 ?_) ?_ ?_
 ·rintro k ⟨i1, i2, i3⟩
  have hk : k = L.length := by
   have := congrArg List.length i1
   simp at this
   omega
  subst hk
  refine ⟨rfl, ?_⟩
  have hl := List.length_pos_iff.2 hne
  have hff : fullP L = false := by rw [hfull]; exact (i3 _ (by omega)).2
  have hgm := hN (fun j hj => (i3 j hj).1)
  rw [hff] at hgm
  subst hgm
  (repeat (first|with_reducible refine wV fun _=>?_|simp [go_sem, GH]))
 ·rintro xs rs k ⟨i1, i2, i3⟩ hrec
  have hk : k < L.length := by
   have := congrArg List.length i1
   simp at this
   omega
  rw [dropG_cons hk, List.map_cons, List.cons.injEq] at i1
  obtain ⟨rfl, rfl⟩ := i1
  generalize hrs : (L.drop (k + 1)).map rowL = rs at *
  have hDk := hDl k i2
  have hDs := hDs k hk
  have hokk := hok _ (nth_mem hk)
  have hF := pFind_pure (nth L k).1 hokk.1 (by
   have := (hpast k).2.2 (nth L k).1 (by rw [hDs]; simp)
   omega) (fun q h => (hokk.2 q h).fits hg) goal hq
  have hFm := fndP_mem hokk.1 (p := goal)
  refine ARange.go (Nat.zero_le _) ?_
  generalize fndP (nth L k).1 goal = fi at *
  generalize hnx : nth L k = x at *
  obtain ⟨now, full⟩ := x
  simp only at hF hFm hDs
  (repeat (first|with_reducible refine wV fun _=>?_|simp [go_sem, GH, rowL, hDk]))
  refine ACallP.plain hF (by simp [go_sem]) ?_
  (repeat (first|with_reducible refine wV fun _=>?_|simp [go_sem, GH]))
  refine aIf.mkL (fun hz => ?_) (fun hz => ?_) <;> simp at hz
  ·have hin := hFm.1 hz
   have hgm := hA k hk (by rw [hnx]; exact hin) (fun j hj => (i3 j hj).1)
   have hp1 := hpast k
   have hDl1 := hDl (k + 1) (by omega)
   have hT := trace_pure g hg (D (k + 1)) goal hp1.1 (hchain k) (by rw [hDl1, hDs, nth_eq _ _ (by simp; omega)]; simp [hDk, hin]) hp1.2.1 hp1.2.2
   rw [hgm]
   generalize traceP g (D (k + 1)) goal = tr at *
   (repeat (first|with_reducible refine wV fun _=>?_|simp [go_sem, GH]))
   refine ACallP.pureF [9] hT ?_ (by simp [go_sem]) ?_
   ·refine .cons (.refl _) (.cons (leV_frz rfl (by simp [hDk, encD]) (by simp [frzO, frz1, upd, noH]) ?_) (.cons (.refl _) .nil))
    rw [hDs, encD_append]
    simp only [List.drop_zero]
    exact List.take_of_length_le (by simp [hDk, encD])
   ·(repeat (first|with_reducible refine wV fun _=>?_|simp [go_sem, GH]))
  ·have hnin : goal ∉ now := fun h => by have := hFm.2 h; omega
   cases full
   ·(repeat (first|with_reducible refine wV fun _=>?_|simp [go_sem, GH]))
    refine Fgt.to (hrec (k + 1) ⟨hrs.symm, by omega, fun j hj => ?_⟩) ?_ (by simp)
    ·rcases Nat.lt_or_ge j k with h | h
     ·exact i3 j h
     ·obtain rfl : j = k := by omega
      rw [hnx]
      exact ⟨hnin, rfl⟩
    ·simp [go_sem, Wk_eq, GH, hDs, encD]
   ·have hkl := hlst k (by rw [hnx]) hk
    have hff : fullP L = true := by rw [hfull, show L.length - 1 = k by omega, hnx]
    have hgm := hN (fun j hj => by
     rcases Nat.lt_or_ge j k with h | h
     ·exact (i3 j h).1
     ·obtain rfl : j = k := by omega
      rw [hnx]; exact hnin)
    rw [hff] at hgm
    subst hgm
    (repeat (first|with_reducible refine wV fun _=>?_|simp [go_sem, GH]))
 ·exact ⟨rfl, Nat.zero_le _, fun j hj => by omega⟩
 ·simp [go_sem, Wk_eq, hD0, encD]
 ·simp
end Go.Av
end
section
open Go Go.Proofs
namespace Go.Av
def checkP (g : GameD) (s q : PosD) (l : List PosD) : Bool := decide (l ≠ [] ∧ nth l 0 = s ∧ nth l (l.length - 1) = q ∧ ∀ j, j < l.length - 1 → nth l (j + 1) ∈ movesP g (nth l j))
end Go.Av
end
section
open Go Go.Proofs
namespace Go.Av
def leadP (g : GameD) (l nx : List PosD) : List PosD := l.filter fun p => decide (0 ≤ frstP g p nx)
theorem frstP_any (g : GameD) (p : PosD) (nx : List PosD) : decide (0 ≤ frstP g p nx) = nx.any (fun q => decide (q ∈ movesP g p)) := idxOfP_any
theorem leading_pure (g : GameD) (hg : GOk g) (l nx : List PosD) (hl : l.length ≤ 1889788001) (hn : nx.length ≤ 1889788001) (hlo : ∀ q ∈ l, POk g q) (hno : ∀ q ∈ nx, FitsP q) :
  Pure Tryz.prog 98 [.agg (encGame g), encPs l, encPs nx] (encPs (leadP g l nx)) := by
 refine pF Tryz.func98 ?_
 unfold leadP
 simp only [frstP_any]
 obtain ⟨fl, hfl⟩ : ∃ fl : Nat → List PosD, ∀ k, fl k = (l.take k).filter (fun p => nx.any (fun q => decide (q ∈ movesP g p))) := ⟨_, fun _ => rfl⟩
 have hfll : ∀ k, (fl k).length ≤ 1889788001 := fun k => by
  have h1 : (fl k).length ≤ (l.take k).length := by rw [hfl]; exact List.length_filter_le _ _
  have h2 : (l.take k).length ≤ l.length := by simp; omega
  omega
 have hfl0 : fl 0 = [] := by rw [hfl]; rfl
 have hfls : ∀ k, k < l.length → fl (k + 1) = if nx.any (fun q => decide (q ∈ movesP g (nth l k))) = true then fl k ++ [nth l k] else fl k := fun k hk => by
  rw [hfl, hfl, List.take_add_one, List.getElem?_eq_getElem hk, nth_eq _ _ hk, Option.toList_some, List.filter_append]
  by_cases h : nx.any (fun q => decide (q ∈ movesP g l[k])) = true <;> simp [h]
 have hflE : fl l.length = l.filter (fun p => nx.any (fun q => decide (q ∈ movesP g p))) := by rw [hfl, List.take_length]
 rw [← hflE]
 clear hfl hflE
 have hM := fun i hi => R6Moves_pure g hg (nth l i) (hlo _ (nth_mem (i := i) hi))
 have hegl : (encGame g).length = 9 := rfl
 have hegb : ∀ n, (∀ c ∈ encGame g, Bel n c) = True := fun n => by simp [go_sem]
 (repeat (first|with_reducible refine wV fun _=>?_|simp [go_sem]))
 refine ALoop.start (ALoop.ind (α := Nat) (fun k => ⟨[(1, encPs l), (2, encPs nx), (3, .ref 0 0 9 0 0), (7, .sl 1 (fl k).length 5 0 (fl k).length), (8, .v (.int .i64 k))], [(0, .rows true 0 9 [encGame g]), (1, .rows true (fl k).length 5 ((fl k).map encPos))], 2⟩)
  (fun d k => k + d = l.length) ?_ l.length 0 ?_) ?_ ?_
 ·rintro d k k1 hrec
  (repeat (first|with_reducible refine wV fun _=>?_|simp [go_sem]))
  refine aIf.mkL (fun hk => ?_) (fun hk => ?_) <;> simp at hk
  ·have hMk := hM k hk
   have hfls := hfls k hk
   have h1 := hfll k
   have h2 := hfll (k + 1)
   have hok := hlo _ (nth_mem hk)
   have hml := movesP_len2 hg hok
   have hmf := fun m hm => ((movesP_ok hg hok) m hm).1.fits hg
   have hinc := movesP_inc g (nth l k)
   generalize hqk : nth l k = p at *
   generalize movesP g p = mv at *
   have hF := fun q hq => rFind_pure mv hinc (by omega) hmf q hq
   have hFm := fun q => fndP_mem hinc (p := q)
   obtain ⟨an, han⟩ : ∃ an : Nat → Bool, ∀ j, an j = (nx.take j).any (fun q => decide (q ∈ mv)) := ⟨_, fun _ => rfl⟩
   have han0 : an 0 = false := by rw [han]; rfl
   have hans : ∀ j, j < nx.length → an (j + 1) = (an j || decide (0 ≤ fndP mv (nth nx j))) := fun j hj => by
    rw [han, han, List.take_add_one, List.getElem?_eq_getElem hj, nth_eq _ _ hj, Option.toList_some, List.any_append]
    simp [hFm]
   have hanE : an nx.length = nx.any (fun q => decide (q ∈ mv)) := by rw [han, List.take_length]
   rw [← hanE] at hfls
   clear han hanE
   (repeat (first|with_reducible refine wV fun _=>?_|simp [go_sem, hk, hqk]))
   refine dCall.plain hMk (by simp [go_sem]) ?_
   (repeat (first|with_reducible refine wV fun _=>?_|simp [go_sem, hk, hqk]))
   refine ALoop.start (ALoop.ind (α := Nat) (fun j => ⟨[(1, encPs l), (2, encPs nx), (3, .ref 0 0 9 0 0), (7, .sl 1 (fl k).length 5 0 (fl k).length), (8, .v (.int .i64 k)), (9, encPs mv), (10, .v (.bool (an j))), (11, .v (.int .i64 j))], [(0, .rows true 0 9 [encGame g]), (1, .rows true (fl k).length 5 ((fl k).map encPos))], 2⟩)
    (fun d2 j => j + d2 = nx.length) ?_ nx.length 0 ?_) ?_ ?_
   ·rintro d2 j j1 hrec2
    (repeat (first|with_reducible refine wV fun _=>?_|simp [go_sem]))
    refine aIf.mkL (fun hj => ?_) (fun hj => ?_) <;> simp at hj
    ·have hans := hans j hj
     have hFj := hF _ (hno _ (nth_mem hj))
     generalize fndP mv (nth nx j) = fi at *
     generalize an j = a at *
     cases a
     ·(repeat (first|with_reducible refine wV fun _=>?_|simp [go_sem, hj]))
      refine aGC.plain _ (fun _ => hFj) (by simp [go_sem]) ?_
      (repeat (first|with_reducible refine wV fun _=>?_|simp [go_sem, hj]))
      refine ALoop.start (hrec2 (d2 - 1) (by omega) (j + 1) (by omega)) ?_ (by simp)
      simp [go_sem, Wk_eq, hans]
     ·(repeat (first|with_reducible refine wV fun _=>?_|simp [go_sem, hj]))
      refine aGC.skip (.v (.int .i64 0)) ?_
      (repeat (first|with_reducible refine wV fun _=>?_|simp [go_sem, hj]))
      refine ALoop.start (hrec2 (d2 - 1) (by omega) (j + 1) (by omega)) ?_ (by simp)
      simp [go_sem, Wk_eq, hans]
    ·obtain rfl : j = nx.length := by omega
     generalize an nx.length = a at *
     cases a
     ·(repeat (first|with_reducible refine wV fun _=>?_|simp [go_sem, hk, hqk]))
      refine ALoop.start (hrec (d - 1) (by omega) (k + 1) (by omega)) ?_ (by simp)
      simp [go_sem, Wk_eq, hfls]
     ·(repeat (first|with_reducible refine wV fun _=>?_|simp [go_sem, hk, hqk]))
      refine ALoop.start (hrec (d - 1) (by omega) (k + 1) (by omega)) ?_ (by simp)
      simp [go_sem, Wk_eq, hfls]
   ·show 0 + nx.length = nx.length
    omega
   ·simp [go_sem, Wk_eq, han0]
   ·simp
  ·obtain rfl : k = l.length := by omega
   have h1 := hfll l.length
   (repeat (first|with_reducible refine wV fun _=>?_|simp [go_sem]))
   exact frX
 ·show 0 + l.length = l.length
  omega
 ·simp [go_sem, Wk_eq, hfl0]
 ·simp
theorem least_pure (g : GameD) (hg : GOk g) (G : List (List PosD)) (hl : G.length ≤ 4002) (hn : ∀ l ∈ G, l.length ≤ 1889788001) (hok : ∀ l ∈ G, ∀ q ∈ l, POk g q) (hG : G ≠ []) (hG0 : nth G 0 ≠ [])
  (w : Nat → PosD) (hw0 : w 0 = nth (nth G 0) 0) (hws : ∀ i, i + 1 < G.length → 0 ≤ frstP g (w i) (nth G (i + 1)) ∧ w (i + 1) = nth (nth G (i + 1)) (frstP g (w i) (nth G (i + 1))).toNat) :
  Pure Tryz.prog 99 [.agg (encGame g), .lst 1 (encD G)] (encPs ((List.range G.length).map w)) := by
 refine pF Tryz.func99 ?_
 have hGl := List.length_pos_iff.2 hG
 have hG0l := List.length_pos_iff.2 hG0
 have hwm : ∀ i, i < G.length → w i ∈ nth G i := fun i hi => by
  cases i with
  | zero => rw [hw0]; exact nth_mem hG0l
  | succ i => rw [(hws i hi).2]; exact nth_mem (frstP_some (hws i hi).1).1
 have hwo : ∀ i, i < G.length → POk g (w i) := fun i hi => hok _ (nth_mem hi) _ (hwm i hi)
 obtain ⟨W, hW⟩ : ∃ W : Nat → List PosD, ∀ k, W k = (List.range k).map w := ⟨_, fun _ => rfl⟩
 have hWl : ∀ k, (W k).length = k := fun k => by rw [hW]; simp
 have hWs : ∀ k, W (k + 1) = W k ++ [w k] := fun k => by rw [hW, hW, List.range_succ, List.map_append]; rfl
 have hWn : ∀ k, nth (W (k + 1)) k = w k := fun k => by rw [hW, nth_map _ _ _ (by simp), nth_eq _ _ (by simp)]; simp
 rw [← hW]
 clear hW
 have hW1 : W 1 = [w 0] := by have := hWs 0; rw [show W 0 = [] from List.length_eq_zero_iff.1 (hWl 0)] at this; simpa using this
 have hGn : ∀ i, i < G.length → nth (encD G) i = [encPs (nth G i)] := fun i hi => nth_map _ _ _ hi
 have hDl : (encD G).length = G.length := by simp [encD]
 have hGn0 := hGn 0 hGl
 have hM := fun i hi => R6Moves_pure g hg (w i) (hwo i hi)
 have hegl : (encGame g).length = 9 := rfl
 have hegb : ∀ n, (∀ c ∈ encGame g, Bel n c) = True := fun n => by simp [go_sem]
 generalize hD : encD G = D at *
 have hDb : ∀ n, (∀ r ∈ D, ∀ c ∈ r, Bel n c) = True := fun n => by rw [← hD]; exact bel_encD
 clear hD
 (repeat (first|with_reducible refine wV fun _=>?_|simp [go_sem, hGn0, hDl, hGl, hG0l]))
 refine ALoop.start (ALoop.ind (α := Nat) (fun k => ⟨[(1, .lst 1 D), (2, .ref 0 0 9 0 0), (5, .sl 1 k 5 0 (k + 1)), (6, .v (.int .i64 (k + 1)))], [(0, .rows true 0 9 [encGame g]), (1, .rows true k 5 ((W (k + 1)).map encPos))], 2⟩)
  (fun d k => k + 1 + d = G.length) ?_ (G.length - 1) 0 ?_) ?_ ?_
 ·rintro d k k1 hrec
  have hWlk := hWl (k + 1)
  have hWnk := hWn k
  (repeat (first|with_reducible refine wV fun _=>?_|simp [go_sem, hDl]))
  refine aIf.mkL (fun hk => ?_) (fun hk => ?_) <;> simp at hk
  ·have hk0 : k < G.length := by omega
   have hk1 : k + 1 < G.length := by omega
   have hMk := hM k hk0
   have hGk := hGn (k + 1) hk1
   have hws := hws (k + 1 - 1) (by omega)
   rw [show k + 1 - 1 = k by omega] at hws
   have hGo := hok _ (nth_mem hk1)
   have hGlk := hn _ (nth_mem hk1)
   have hml := movesP_len2 hg (hwo k hk0)
   have hmf := fun m hm => ((movesP_ok hg (hwo k hk0)) m hm).1.fits hg
   have hinc := movesP_inc g (w k)
   have hF := fun q hq => rFind_pure (movesP g (w k)) hinc (by omega) hmf q hq
   have hFm := fun q => fndP_mem hinc (p := q)
   have hf1 := frstP_some hws.1
   have hWs := hWs (k + 1)
   have hWlk2 := hWl (k + 1 + 1)
   rw [hws.2] at hWs
   obtain ⟨f, hf⟩ : ∃ f : Nat, frstP g (w k) (nth G (k + 1)) = f := ⟨_, (Int.toNat_of_nonneg hws.1).symm⟩
   rw [hf] at hws hf1
   simp only [Int.toNat_natCast] at hf1
   rw [hf, Int.toNat_natCast] at hWs
   generalize nth G (k + 1) = N at *
   generalize w k = p at *
   generalize movesP g p = mv at *
   generalize hW2 : W (k + 1 + 1) = W2 at *
   generalize W (k + 1) = W1 at *
   (repeat (first|with_reducible refine wV fun _=>?_|simp [go_sem, hk, hWlk, hWnk]))
   refine dCall.plain hMk (by simp [go_sem]) ?_
   (repeat (first|with_reducible refine wV fun _=>?_|simp [go_sem, hk, hWlk, hWnk]))
   refine ALoop.start (ALoop.ind (α := Nat × Bool) (fun a => ⟨[(1, .lst 1 D), (2, .ref 0 0 9 0 0), (5, .sl 1 (bif a.2 then k + 1 else k) 5 0 (bif a.2 then k + 1 + 1 else k + 1)), (6, .v (.int .i64 (k + 1))), (7, encPs mv), (8, .v (.int .i64 a.1))], [(0, .rows true 0 9 [encGame g]), (1, .rows true (bif a.2 then k + 1 else k) 5 ((bif a.2 then W2 else W1).map encPos))], 2⟩)
    (fun d2 a => a.1 + d2 = f + 1 ∧ (a.2 = true ↔ a.1 = f + 1)) ?_ (f + 1) (0, false) ?_) ?_ ?_
   ·rintro d2 ⟨j, b⟩ ⟨j1, j2⟩ hrec2
    simp only at j1 j2
    cases b
    ·have hjf : j ≤ f := by
      have : j ≠ f + 1 := fun h => by have := j2.2 h; cases this
      omega
     have hj : j < N.length := by omega
     have hFj := hF _ ((hGo _ (nth_mem hj)).fits hg)
     have hFmj := hFm (nth N j)
     simp only [cond_true, cond_false]
     generalize hnj : nth N j = q at *
     generalize fndP mv q = fi at *
     (repeat (first|with_reducible refine wV fun _=>?_|simp [go_sem, hk, hGk, hj, hWlk, hDl, hnj]))
     refine ACallP.plain hFj (by simp [go_sem]) ?_
     (repeat (first|with_reducible refine wV fun _=>?_|simp [go_sem, hk, hGk, hj, hWlk, hnj]))
     refine aIf.mkL (fun hfi => ?_) (fun hfi => ?_) <;> simp at hfi
     ·have : j = f := by
       rcases Nat.lt_or_ge j f with h | h
       ·exact absurd (hFmj.1 hfi) (hnj ▸ hf1.2.2 j h)
       ·omega
      subst this
      rw [hnj] at hWs
      (repeat (first|with_reducible refine wV fun _=>?_|simp [go_sem, hk, hGk, hj, hWlk, hnj]))
      refine ALoop.start (hrec2 (d2 - 1) (by omega) (j + 1, true) ⟨by simp only; omega, by simp⟩) ?_ (by simp)
      simp [go_sem, Wk_eq, hWs, hDb]
     ·have : j ≠ f := by
       rintro rfl
       have := hFmj.2 (hnj ▸ hf1.2.1)
       omega
      (repeat (first|with_reducible refine wV fun _=>?_|simp [go_sem, hk, hGk, hj, hWlk, hnj]))
      refine ALoop.start (hrec2 (d2 - 1) (by omega) (j + 1, false) ⟨by simp only; omega, by simp; omega⟩) ?_ (by simp)
      simp [go_sem, Wk_eq, hDb]
    ·have hjf : j = f + 1 := j2.1 rfl
     subst hjf
     simp only [cond_true, cond_false]
     by_cases hj : f + 1 < N.length
     ·(repeat (first|with_reducible refine wV fun _=>?_|simp [go_sem, hk, hGk, hj, hWlk2, hDl]))
      refine ALoop.start (hrec (d - 1) (by omega) (k + 1) (by omega)) ?_ (by simp)
      simp [go_sem, Wk_eq, hW2, hDb]
     ·(repeat (first|with_reducible refine wV fun _=>?_|simp [go_sem, hk, hGk, hj, hWlk2, hDl]))
      refine ALoop.start (hrec (d - 1) (by omega) (k + 1) (by omega)) ?_ (by simp)
      simp [go_sem, Wk_eq, hW2, hDb]
   ·exact ⟨by simp only; omega, by simp⟩
   ·simp [go_sem, Wk_eq, hDb]
   ·simp
  ·have hkG : G.length = k + 1 := by omega
   rw [hkG]
   obtain ⟨W1, hW1'⟩ : ∃ x, x = W (k + 1) := ⟨_, rfl⟩
   rw [← hW1'] at hWlk hWnk ⊢
   obtain rfl : k = W1.length - 1 := by omega
   have hpos : 0 < W1.length := by omega
   have e1 : W1.length - 1 + 1 = W1.length := by omega
   simp only [e1]
   clear hrec hWnk
   (repeat (first|with_reducible refine wV fun _=>?_|simp [go_sem]))
   exact frX
 ·show 0 + 1 + (G.length - 1) = G.length
  omega
 ·simp [go_sem, Wk_eq, hW1, hw0, hDb]
 ·simp
end Go.Av
end
section
open Go Go.Proofs
namespace Go.Av
theorem goodP_way {g : GameD} {goal : PosD} {past : List (List PosD)} (hc : ChainOk g past) (hg : goal ∈ nth past (past.length - 1)) : wayP g past goal 0 = nth (nth (goodP g past goal) 0) 0 := by
 have h1 := goodP_first hc hg
 have hl := List.length_pos_iff.2 hc.ne
 have h2 := fun q => goodP_sub (g := g) (goal := goal) hl hg q
 obtain ⟨s, hs⟩ := hc.one
 have h3 : nth (nth (goodP g past goal) 0) 0 ∈ nth (goodP g past goal) 0 := nth_mem (List.length_pos_of_mem h1)
 have h4 := h2 _ h3
 rw [hs, List.mem_singleton] at h4
 rw [h4]
 show nth (nth past 0) 0 = s
 rw [hs]; rfl
theorem backR_all {G : List (List PosD)} : backR G.length G 0 = encD G := by
 refine List.ext_getElem (by simp [backR, encD]) fun j h1 h2 => ?_
 simp only [backR_len] at h1
 simp [backR, encD, nth_eq _ _ h1]
theorem Game27_pure (g : GameD) (hg : GOk g) (p : PosD) (hp : POk g p) (goal : PosD) (hq : FitsP goal) (n : Int) :
  Pure Tryz.prog 42 [.agg (encGame g), .agg (encPos p), .agg (encPos goal), .v (.int .i64 n)] (.agg [encPs (gameP g p goal n).1, .v (.int .i64 (gameP g p goal n).2)]) := by
 refine pF Tryz.func42 ?_
 have hGo := Go27_pure g hg p hp n
 have hA := fun d => gameP_at (g := g) (p := p) (goal := goal) (n := n) (d := d)
 have hN := gameP_no (g := g) (p := p) (goal := goal) (n := n)
 have hpast := searchP_past hg hp n
 have hchain := searchP_chain g p n
 have hok := searchP_ok hg hp n
 have hcnt := searchP_count g p n
 have hlen := searchP_len hg hp n
 generalize gameP g p goal n = gm at *
 unfold encSearch at hGo
 generalize hfp : fullP (searchP g p n) = fp at *
 generalize searchP g p n = L at *
 have hegl : (encGame g).length = 9 := rfl
 have hegb : ∀ n, (∀ c ∈ encGame g, Bel n c) = True := fun n => by simp [go_sem]
 obtain ⟨Ls, hLs⟩ : ∃ Ls, Ls = L.map (·.1) := ⟨_, rfl⟩
 have hLl : Ls.length = L.length := by rw [hLs]; simp
 have hLn : ∀ i, i < L.length → nth Ls i = (nth L i).1 := fun i hi => by rw [hLs, nth_map _ _ _ hi]
 have hLt : ∀ d, (L.take (d + 1)).map (·.1) = Ls.take (d + 1) := fun d => by rw [hLs, List.map_take]
 rw [← hLs] at hGo
 simp only [hLt] at hA hpast hchain
 clear hLs
 have hLe : ∀ i, i < L.length → nth (encD Ls) i = [encPs (nth Ls i)] := fun i hi => nth_encD (by omega)
 (repeat (first|with_reducible refine wV fun _=>?_|simp [go_sem, hegl]))
 refine ACallP.plain hGo (by simp [go_sem]) ?_
 (repeat (first|with_reducible refine wV fun _=>?_|simp [go_sem, hegl]))
 refine ALoop.start (ALoop.ind (α := Nat) (fun i => ⟨[(4, .ref 0 0 9 0 0), (6, .ref 2 0 5 0 0), (8, .ref 3 0 2 0 0), (9, .ref 4 0 2 0 0), (10, .v (.int .i64 i))], [(0, .rows true 0 9 [encGame g]), (2, .rows true 0 5 [encPos goal]), (3, .rows true 0 2 [[AV.nils, .v (.int .i64 0)]]), (4, .rows true 0 2 [[.lst 1 (encD Ls), .v (.bool fp)]])], 5⟩)
  (fun d i => i + d = L.length ∧ ∀ j, j < i → goal ∉ (nth L j).1) ?_ L.length 0 ?_) ?_ ?_
 ·rintro d i ⟨i1, i2⟩ hrec
  (repeat (first|with_reducible refine wV fun _=>?_|simp [go_sem, hLl]))
  refine aIf.mkL (fun hi => ?_) (fun hi => ?_) <;> simp at hi
  ·have hok := hok _ (nth_mem hi)
   have hpast := hpast i
   have hchain := hchain i
   have hA := hA i hi
   have hLei := hLe i hi
   have hLni := hLn i hi
   rw [← hLni] at hA hok
   have hi' : i < Ls.length := by omega
   have htk : Ls.take (i + 1) = Ls.take i ++ [nth Ls i] := by rw [List.take_add_one, List.getElem?_eq_getElem hi', nth_eq _ _ hi']; rfl
   have hF := rFind_pure (nth Ls i) hok.1 (by have := hpast.2.2 (nth Ls i) (by rw [htk]; simp); omega) (fun q h => (hok.2 q h).fits hg) goal hq
   have hFm := fndP_mem hok.1 (p := goal)
   generalize fndP (nth Ls i) goal = fi at *
   (repeat (first|with_reducible refine wV fun _=>?_|simp [go_sem, hi', hLei]))
   refine dCall.plain hF (by simp [go_sem]) ?_
   (repeat (first|with_reducible refine wV fun _=>?_|simp [go_sem, hi', hLei]))
   refine aIf.mkL (fun hz => ?_) (fun hz => ?_) <;> simp at hz
   ·have hnin : goal ∉ nth Ls i := fun h => by have := hFm.2 h; omega
    (repeat (first|with_reducible refine wV fun _=>?_|simp [go_sem, hi', hLei]))
    refine ALoop.start (hrec (d - 1) (by omega) (i + 1) ⟨by omega, fun j hj => ?_⟩) ?_ (by simp)
    ·rcases Nat.lt_or_ge j i with h | h
     ·exact i2 j h
     ·obtain rfl : j = i := by omega
      rw [← hLni]; exact hnin
    ·simp [go_sem, Wk_eq]
   ·have hin : goal ∈ nth Ls i := hFm.1 (by omega)
    have hgm := hA hin (fun j hj => i2 j hj)
    have hpl : (Ls.take (i + 1)).length = i + 1 := by simp; omega
    have hpn : ∀ j, j < i + 1 → nth (Ls.take (i + 1)) j = nth Ls j := fun j hj => by rw [nth_eq _ _ (by omega), nth_eq _ _ (by omega)]; simp
    have hgl : goal ∈ nth (Ls.take (i + 1)) ((Ls.take (i + 1)).length - 1) := by rw [hpl, Nat.add_sub_cancel, hpn i (by omega)]; exact hin
    rw [hgm]
    clear hgm hA hrec i2 hN
    unfold traceP
    generalize hpa : Ls.take (i + 1) = past at *
    have hlast := goodP_last g goal past hchain.ne
    have hsub := fun i (hi : i < past.length) => goodP_sub (g := g) (goal := goal) hi hgl
    have hat := goodP_at g goal past
    have hGle := goodP_len g goal past
    have hw0 := goodP_way hchain hgl
    have hwm := fun i (hi : i < past.length) => wayP_mem hchain hgl i hi
    have hfst := fun i (hi : i + 1 < past.length) => wayP_first hchain hgl hi
    have hws : ∀ i, wayP g past goal (i + 1) = nth (nth (goodP g past goal) (i + 1)) (frstP g (wayP g past goal i) (nth (goodP g past goal) (i + 1))).toNat := fun i => rfl
    have hfirst := goodP_first hchain hgl
    generalize goodP g past goal = G at *
    generalize wayP g past goal = way at *
    have hGok : ∀ j, j < past.length → ∀ q ∈ nth G j, POk g q := fun j hj q h => hpast.2.1 _ (nth_mem hj) q (hsub j hj q h)
    have hGl : ∀ j, j < past.length → (nth G j).length ≤ 1889788001 := fun j hj => by
     by_cases h : j + 1 < past.length
     ·rw [hat j h]
      exact Nat.le_trans (List.length_filter_le _ _) (hpast.2.2 _ (nth_mem hj))
     ·obtain rfl : j = past.length - 1 := by omega
      rw [hlast]; simp
    have hGe := hGle.trans hpl
    have hL := least_pure g hg G (by omega) (fun l hl => by obtain ⟨j, hj, rfl⟩ := List.getElem_of_mem hl; rw [← nth_eq _ _ hj]; exact hGl j (by omega))
     (fun l hl => by obtain ⟨j, hj, rfl⟩ := List.getElem_of_mem hl; rw [← nth_eq _ _ hj]; exact hGok j (by omega)) (by intro h; rw [h] at hGe; simp at hGe) (by intro h; rw [h] at hfirst; simp at hfirst) way hw0 (fun j hj => ⟨hfst j (by omega), hws j⟩)
    have hbl := backR_last (N := i + 1) (G := G) (goal := goal) (by omega) (by rw [← hpl]; exact hlast)
    simp only [Nat.add_sub_cancel] at hbl
    have hbE := backR_all (G := G)
    rw [hGe] at hbE hL
    rw [hpl]
    (repeat (first|with_reducible refine wV fun _=>?_|simp [go_sem, hi', hLei]))
    refine ALoop.start (ALoop.ind (α := Nat) (fun m => ⟨[(4, .ref 0 0 9 0 0), (8, .ref 3 0 2 0 0), (9, .ref 4 0 2 0 0), (11, .sl 13 0 1 0 (i + 1)), (12, .v (.int .i64 ((m : Int) - 1)))], [(0, .rows true 0 9 [encGame g]), (3, .rows true 0 2 [[AV.nils, .v (.int .i64 0)]]), (4, .rows true 0 2 [[.lst 1 (encD Ls), .v (.bool fp)]]), (13, .rows true 0 1 (backR (i + 1) G m))], 14⟩)
     (fun d m => d = m ∧ m ≤ i) ?_ i i ?_) ?_ ?_
    ·rintro d2 m ⟨rfl, m1⟩ hrec
     (repeat (first|with_reducible refine wV fun _=>?_|simp [go_sem]))
     refine aIf.mkL (fun hm => ?_) (fun hm => ?_) <;> simp at hm
     ·have e1 : ((d2 : Int) - 1).toNat = d2 - 1 := by omega
      have e2 : ((d2 : Int) - 1 + 1).toNat = d2 := by omega
      have hd1 : d2 - 1 < L.length := by omega
      have hd1' : d2 - 1 < Ls.length := by omega
      have hd2 : d2 - 1 < i + 1 := by omega
      have hd3 : d2 < i + 1 := by omega
      have hn := hLe (d2 - 1) hd1
      have hat := hat (d2 - 1) (by omega)
      rw [show d2 - 1 + 1 = d2 by omega, hpn _ hd2] at hat
      have hlm := nth_mem (show d2 - 1 < past.length by omega)
      rw [hpn _ hd2] at hlm
      have hLd := leading_pure g hg (nth Ls (d2 - 1)) (nth G d2) (hpast.2.2 _ hlm) (hGl _ (by omega)) (hpast.2.1 _ hlm) (fun q h => (hGok _ (by omega) q h).fits hg)
      rw [show leadP g (nth Ls (d2 - 1)) (nth G d2) = nth G (d2 - 1) from hat.symm] at hLd
      have hb1 : nth (backR (i + 1) G d2) d2 = [encPs (nth G d2)] := by rw [nth_backR _ _ _ (by omega), if_pos (Nat.le_refl _)]
      have hbs := backR_set (G := G) (N := i + 1) (m := d2 - 1) (by omega)
      rw [show d2 - 1 + 1 = d2 by omega] at hbs
      have ec : ((d2 - 1 : Nat) : Int) = (d2 : Int) - 1 := by omega
      (repeat (first|with_reducible refine wV fun _=>?_|simp [go_sem, hn, e1, e2, hd1', hd3, hb1]))
      refine dCall.plain hLd (by simp [go_sem, hegb]) ?_
      (repeat (first|with_reducible refine wV fun _=>?_|simp [go_sem, hn, e1, e2, hd1', hd2, hd3]))
      refine ALoop.start (hrec (d2 - 1) (by omega) (d2 - 1) ⟨rfl, by omega⟩) ?_ (by simp)
      simp [go_sem, Wk_eq, ec]
      rw [← hbs]
      exact .refl _
     ·obtain rfl : d2 = 0 := by omega
      rw [hbE]
      (repeat (first|with_reducible refine wV fun _=>?_|simp [go_sem]))
      refine ACallP.pureF [13] hL ?_ (by simp [go_sem]) ?_
      ·refine .cons (.refl _) (.cons (leV_frz rfl (by simp [encD_len, hGe]) (by simp [frzO, frz1, upd, noH]) ?_) .nil)
       rw [List.drop_zero]
       exact List.take_of_length_le (by simp [encD_len, hGe])
      ·(repeat (first|with_reducible refine wV fun _=>?_|simp [go_sem]))
    ·exact ⟨rfl, Nat.le_refl _⟩
    ·simp [go_sem, Wk_eq]
     rw [← hbl]
     exact leRows_setK (.cons (leV_frz rfl (by simp) (by simp [upd, noH]) (by simp [encPos, encIs])) .nil) _ _
    ·simp
  ·have hil : i = L.length := by omega
   subst hil
   have hgm := hN i2
   subst hgm
   (repeat (first|with_reducible refine wV fun _=>?_|simp [go_sem]))
   cases fp
   ·(repeat (first|with_reducible refine wV fun _=>?_|simp [go_sem]))
   ·(repeat (first|with_reducible refine wV fun _=>?_|simp [go_sem]))
 ·exact ⟨by omega, fun j hj => by omega⟩
 ·simp [go_sem, Wk_eq]
 ·simp
end Go.Av
end
section
/- The law ReachMatchesReference: its call gives true. -/
open Go Go.Proofs
namespace Go.Av
theorem gameP_ok {g : GameD} (hg : GOk g) {p : PosD} (hp : POk g p) (goal : PosD) (n : Int) : (gameP g p goal n).1.length ≤ 4002 ∧ ∀ q ∈ (gameP g p goal n).1, POk g q := by
 unfold gameP
 cases hf : (searchP g p n).findIdx? (fun x => decide (goal ∈ x.1)) with
 | none => simp
 | some d =>
  obtain ⟨hd, hin, _⟩ := List.findIdx?_eq_some_iff_getElem.1 hf
  simp only
  obtain ⟨h1, h2, h3⟩ := searchP_past hg hp n d
  have hc := searchP_chain g p n d
  have hgl : goal ∈ nth (((searchP g p n).take (d + 1)).map (·.1)) ((((searchP g p n).take (d + 1)).map (·.1)).length - 1) := by
   have hl : (((searchP g p n).take (d + 1)).map (·.1)).length = d + 1 := by simp; omega
   rw [hl, Nat.add_sub_cancel, nth_map _ _ _ (by simp; omega), nth_eq _ _ (by simp; omega)]
   simpa using hin
  generalize ((searchP g p n).take (d + 1)).map (·.1) = past at *
  refine ⟨by simpa [traceP] using h1, fun q hq => ?_⟩
  obtain ⟨i, hi, rfl⟩ := List.mem_map.1 hq
  have hi := List.mem_range.1 hi
  exact h2 _ (nth_mem hi) _ (goodP_sub hi hgl _ (wayP_mem hc hgl i hi))
end Go.Av
end
section
open Go Go.Proofs
namespace Go.Av
def itK (g : GameD) : Nat → List PosD → List PosD → List PosD × List PosD
 | 0, k, n => (k, n)
 | i + 1, k, n => itK g i (k ++ nextP g k n) (sortU cmpP (nextP g k n))
theorem itK_succ (g : GameD) : ∀ (i : Nat) (k n : List PosD), itK g (i + 1) k n = ((itK g i k n).1 ++ nextP g (itK g i k n).1 (itK g i k n).2, sortU cmpP (nextP g (itK g i k n).1 (itK g i k n).2))
 | 0, k, n => rfl
 | i + 1, k, n => by
  rw [itK, itK_succ g i]
  rfl
theorem layersP_nth (g : GameD) (b : Int) : ∀ (f : Nat) (k n : List PosD) (i : Nat), i < (layersP g b f k n).length → (nth (layersP g b f k n) i).1 = (itK g i k n).2
 | 0, k, n, i, h => by simp [layersP] at h
 | f + 1, k, n, i, h => by
  rw [layersP] at h ⊢
  split at h
  ·rename_i hk
   rw [if_pos hk]
   simp only [List.length_singleton] at h
   obtain rfl : i = 0 := by omega
   rfl
  ·rename_i hk
   rw [if_neg hk]
   split at h
   ·rename_i hz
    rw [if_pos hz]
    simp only [List.length_singleton] at h
    obtain rfl : i = 0 := by omega
    rfl
   ·rename_i hz
    rw [if_neg hz]
    cases i with
    | zero => rfl
    | succ i =>
     rw [nth_succ, itK]
     exact layersP_nth g b f _ _ i (by simpa using h)
theorem layersP_end (g : GameD) (b : Int) (hb : 0 ≤ b) : ∀ (f : Nat) (k n : List PosD) (i : Nat), b.toNat + 2 ≤ f + k.length → i + 1 = (layersP g b f k n).length →
  ((nth (layersP g b f k n) i).2 = true ∧ ((itK g i k n).1.length : Int) ≤ b ∧ nextP g (itK g i k n).1 (itK g i k n).2 = []) ∨ ((nth (layersP g b f k n) i).2 = false ∧ b < ((itK g i k n).1.length : Int))
 | 0, k, n, i, hf, h => by simp [layersP] at h
 | f + 1, k, n, i, hf, h => by
  rw [layersP] at h ⊢
  split at h
  ·rename_i hk
   rw [if_pos hk]
   simp only [List.length_singleton] at h
   obtain rfl : i = 0 := by omega
   exact .inr ⟨rfl, hk⟩
  ·rename_i hk
   rw [if_neg hk]
   split at h
   ·rename_i hz
    rw [if_pos hz]
    simp only [List.length_singleton] at h
    obtain rfl : i = 0 := by omega
    exact .inl ⟨rfl, by simpa [itK] using hk, hz⟩
   ·rename_i hz
    rw [if_neg hz]
    have hnl := List.length_pos_iff.2 hz
    have hf2 : b.toNat + 2 ≤ f + (k ++ nextP g k n).length := by rw [List.length_append]; omega
    have h0 : 0 < (layersP g b f (k ++ nextP g k n) (sortU cmpP (nextP g k n))).length := by
     cases f with
     | zero => omega
     | succ f => exact List.length_pos_iff.2 (layersP_ne g b f _ _)
    simp only [List.length_cons] at h
    cases i with
    | zero => omega
    | succ i =>
     rw [nth_succ, itK]
     exact layersP_end g b hb f _ _ i hf2 (by omega)
def layK (g : GameD) (p : PosD) (i : Nat) : List PosD := (itK g i [p] [p]).2
def knoK (g : GameD) (p : PosD) (i : Nat) : List PosD := (itK g i [p] [p]).1
def endK (g : GameD) (p : PosD) (n : Int) : Nat := (searchP g p n).length - 1
theorem endK_len (g : GameD) (p : PosD) (n : Int) : (searchP g p n).length = endK g p n + 1 := by
 have := List.length_pos_iff.2 (searchP_ne g p n)
 unfold endK
 omega
theorem search_nth {g : GameD} {p : PosD} {n : Int} {i : Nat} (h : i ≤ endK g p n) : (nth (searchP g p n) i).1 = layK g p i := by
 have := endK_len g p n
 exact layersP_nth g _ _ _ _ i (show i < (searchP g p n).length by omega)
theorem fullP_end2 (g : GameD) (p : PosD) (n : Int) : fullP (searchP g p n) = (nth (searchP g p n) (endK g p n)).2 := fullP_nth (searchP_ne g p n)
theorem search_end (g : GameD) (p : PosD) (n : Int) :
  (fullP (searchP g p n) = true ∧ ((knoK g p (endK g p n)).length : Int) ≤ budP n ∧ nextP g (knoK g p (endK g p n)) (layK g p (endK g p n)) = []) ∨ (fullP (searchP g p n) = false ∧ budP n < ((knoK g p (endK g p n)).length : Int)) := by
 rw [fullP_end2]
 exact layersP_end g (budP n) (budP_range n).1 _ [p] [p] _ (by simp) (endK_len g p n).symm
theorem layK_zero (g : GameD) (p : PosD) : layK g p 0 = [p] := rfl
theorem layK_succ (g : GameD) (p : PosD) (i : Nat) : layK g p (i + 1) = sortU cmpP (nextP g (knoK g p i) (layK g p i)) := congrArg Prod.snd (itK_succ g i [p] [p])
theorem knoK_succ (g : GameD) (p : PosD) (i : Nat) : knoK g p (i + 1) = knoK g p i ++ nextP g (knoK g p i) (layK g p i) := congrArg Prod.fst (itK_succ g i [p] [p])
theorem layK_mem {g : GameD} {p q : PosD} {i : Nat} : q ∈ layK g p (i + 1) ↔ (∃ r ∈ layK g p i, q ∈ movesP g r) ∧ q ∉ knoK g p i := by rw [layK_succ, sortU_mem, nextP_mem]
theorem knoK_mem {g : GameD} {p q : PosD} {i : Nat} : q ∈ knoK g p (i + 1) ↔ q ∈ knoK g p i ∨ q ∈ layK g p (i + 1) := by rw [knoK_succ, layK_succ, sortU_mem, List.mem_append]
theorem knoK_lay {g : GameD} {p q : PosD} : ∀ {i : Nat}, q ∈ knoK g p i ↔ ∃ j, j ≤ i ∧ q ∈ layK g p j
 | 0 => by
  constructor
  ·intro h; exact ⟨0, by omega, h⟩
  ·rintro ⟨j, hj, h⟩
   obtain rfl : j = 0 := by omega
   exact h
 | i + 1 => by
  rw [knoK_mem, knoK_lay (i := i)]
  constructor
  ·rintro (⟨j, hj, h⟩ | h)
   ·exact ⟨j, by omega, h⟩
   ·exact ⟨i + 1, by omega, h⟩
  ·rintro ⟨j, hj, h⟩
   by_cases e : j = i + 1
   ·subst e; exact .inr h
   ·exact .inl ⟨j, by omega, h⟩
theorem knoK_mono {g : GameD} {p q : PosD} {i j : Nat} (h : i ≤ j) (hq : q ∈ knoK g p i) : q ∈ knoK g p j := by
 obtain ⟨k, hk, hq⟩ := knoK_lay.1 hq
 exact knoK_lay.2 ⟨k, by omega, hq⟩
theorem layK_one {g : GameD} {p q : PosD} {i j : Nat} (hi : q ∈ layK g p i) (hj : q ∈ layK g p j) : i = j := by
 have hlt : ∀ {i j : Nat}, i < j → q ∈ layK g p i → q ∈ layK g p j → False := by
  intro i j h hi hj
  cases j with
  | zero => omega
  | succ j => exact (layK_mem.1 hj).2 (knoK_lay.2 ⟨i, by omega, hi⟩)
 by_cases h1 : i < j
 ·exact (hlt h1 hi hj).elim
 ·by_cases h2 : j < i
  ·exact (hlt h2 hj hi).elim
  ·omega
theorem knoK_move {g : GameD} {p q r : PosD} {i : Nat} (hr : r ∈ knoK g p i) (hq : q ∈ movesP g r) : q ∈ knoK g p (i + 1) := by
 obtain ⟨j, hj, hr⟩ := knoK_lay.1 hr
 refine knoK_mono (show j + 1 ≤ i + 1 by omega) ?_
 rw [knoK_mem]
 by_cases h : q ∈ knoK g p j
 ·exact .inl h
 ·exact .inr (layK_mem.2 ⟨⟨r, hr, hq⟩, h⟩)
def ChainP (g : GameD) (l : List PosD) : Prop := ∀ j, j + 1 < l.length → nth l (j + 1) ∈ movesP g (nth l j)
theorem full_move {g : GameD} {p : PosD} {n : Int} (hf : fullP (searchP g p n) = true) {q r : PosD} (hr : r ∈ knoK g p (endK g p n)) (hq : q ∈ movesP g r) : q ∈ knoK g p (endK g p n) := by
 have h1 : nextP g (knoK g p (endK g p n)) (layK g p (endK g p n)) = [] := by
  rcases search_end g p n with h | h
  ·exact h.2.2
  ·rw [hf] at h; simp at h
 have := knoK_move hr hq
 rwa [knoK_succ, h1, List.append_nil] at this
theorem full_chain {g : GameD} {p : PosD} {n : Int} (hf : fullP (searchP g p n) = true) {l : List PosD} (hc : ChainP g l) (h0 : nth l 0 = p) : ∀ j, j < l.length → nth l j ∈ knoK g p (endK g p n)
 | 0, _ => by rw [h0]; exact knoK_lay.2 ⟨0, by omega, by rw [layK_zero]; simp⟩
 | j + 1, h => full_move hf (full_chain hf hc h0 j (by omega)) (hc j h)
theorem allOf_mem {g : GameD} {p q : PosD} {n : Int} : q ∈ allOf (searchP g p n) ↔ q ∈ knoK g p (endK g p n) := by
 unfold allOf
 rw [List.mem_flatMap, knoK_lay]
 have hl := endK_len g p n
 constructor
 ·rintro ⟨x, hx, hq⟩
  obtain ⟨i, hi, rfl⟩ := mem_nth hx
  rw [search_nth (by omega)] at hq
  exact ⟨i, by omega, hq⟩
 ·rintro ⟨j, hj, hq⟩
  exact ⟨nth (searchP g p n) j, nth_mem (by omega), by rwa [search_nth hj]⟩
theorem seenP_mem {g : GameD} {p q : PosD} {n : Int} : q ∈ seenP g p n ↔ q ∈ knoK g p (endK g p n) := by rw [seenP, sortU_mem, allOf_mem]
theorem seenP_inc (g : GameD) (p : PosD) (n : Int) : Inc (seenP g p n) := sortU_pw cmp_pos _
def laysK (g : GameD) (p : PosD) (d : Nat) : List (List PosD) := (List.range (d + 1)).map (layK g p)
theorem laysK_len (g : GameD) (p : PosD) (d : Nat) : (laysK g p d).length = d + 1 := by simp [laysK]
theorem laysK_nth {g : GameD} {p : PosD} {d i : Nat} (h : i ≤ d) : nth (laysK g p d) i = layK g p i := by
 unfold laysK
 rw [nth_map _ _ _ (by simp; omega), nth_eq _ _ (by simp; omega)]
 simp
theorem laysK_eq {g : GameD} {p : PosD} {n : Int} {d : Nat} (h : d ≤ endK g p n) : ((searchP g p n).take (d + 1)).map (·.1) = laysK g p d := by
 have hl := endK_len g p n
 refine List.ext_getElem (by simp [laysK]; omega) fun i h1 h2 => ?_
 have hi : i < d + 1 := by simpa [laysK] using h2
 have h3 := search_nth (g := g) (p := p) (n := n) (i := i) (by omega)
 rw [nth_eq _ _ (by omega)] at h3
 simp [laysK, h3]
theorem laysK_chain (g : GameD) (p : PosD) (d : Nat) : ChainOk g (laysK g p d) := by
 refine ⟨by simp [laysK], ⟨p, by rw [laysK_nth (by omega)]; rfl⟩, fun i hi q hq => ?_⟩
 rw [laysK_len] at hi
 rw [laysK_nth (by omega)] at hq ⊢
 exact (layK_mem.1 hq).1
theorem laysK_last {g : GameD} {p goal : PosD} {d : Nat} (h : goal ∈ layK g p d) : goal ∈ nth (laysK g p d) ((laysK g p d).length - 1) := by
 rw [laysK_len, Nat.add_sub_cancel, laysK_nth (Nat.le_refl d)]
 exact h
theorem gameP_some {g : GameD} {p goal : PosD} {n : Int} {d : Nat} (hd : d ≤ endK g p n) (h : goal ∈ layK g p d) : gameP g p goal n = (traceP g (laysK g p d) goal, 0) := by
 have hl := endK_len g p n
 rw [gameP_at (d := d) (by omega) (by rwa [search_nth hd]) (fun j hj => by
  rw [search_nth (by omega)]
  intro h2
  have := layK_one h h2
  omega), laysK_eq hd]
theorem gameP_none {g : GameD} {p goal : PosD} {n : Int} (h : goal ∉ knoK g p (endK g p n)) : gameP g p goal n = ([], if fullP (searchP g p n) then 270 else 2) := by
 have hl := endK_len g p n
 refine gameP_no fun j hj h2 => h ?_
 rw [search_nth (by omega)] at h2
 exact knoK_lay.2 ⟨j, by omega, h2⟩
theorem gameP_ok_iff {g : GameD} {p goal : PosD} {n : Int} : (gameP g p goal n).2 = 0 ↔ goal ∈ knoK g p (endK g p n) := by
 constructor
 ·intro h
  refine Classical.byContradiction fun h2 => ?_
  rw [gameP_none h2] at h
  simp only at h
  split at h <;> omega
 ·intro h
  obtain ⟨d, hd, h⟩ := knoK_lay.1 h
  rw [gameP_some hd h]
theorem gameP_err {g : GameD} {p goal : PosD} {n : Int} (h : (gameP g p goal n).2 ≠ 0) : gameP g p goal n = ([], if fullP (searchP g p n) then 270 else 2) := gameP_none fun h2 => h (gameP_ok_iff.2 h2)
section Ways
variable {g : GameD} (hg : GOk g) {p : PosD} (hp : POk g p)
def gooK (g : GameD) (p : PosD) (d : Nat) (goal : PosD) (i : Nat) : List PosD := nth (goodP g (laysK g p d) goal) i
def wayK (g : GameD) (p : PosD) (d : Nat) (goal : PosD) (i : Nat) : PosD := wayP g (laysK g p d) goal i
theorem gooK_last (g : GameD) (p : PosD) (d : Nat) (goal : PosD) : gooK g p d goal d = [goal] := by
 have := goodP_last g goal (laysK g p d) (by simp [laysK])
 rwa [laysK_len, Nat.add_sub_cancel] at this
theorem gooK_mem {g : GameD} {p : PosD} {d : Nat} {goal : PosD} {i : Nat} (h : i < d) {q : PosD} : q ∈ gooK g p d goal i ↔ q ∈ layK g p i ∧ ∃ r ∈ gooK g p d goal (i + 1), r ∈ movesP g q := by
 unfold gooK
 rw [goodP_at g goal (laysK g p d) i (by rw [laysK_len]; omega), List.mem_filter, laysK_nth (by omega), decide_eq_true_eq, frstP_iff]
theorem wayK_goo {g : GameD} {p : PosD} {d : Nat} {goal : PosD} (hgo : goal ∈ layK g p d) {i : Nat} (h : i ≤ d) : wayK g p d goal i ∈ gooK g p d goal i :=
 wayP_mem (laysK_chain g p d) (laysK_last hgo) i (by rw [laysK_len]; omega)
theorem wayK_zero (g : GameD) (p : PosD) (d : Nat) (goal : PosD) : wayK g p d goal 0 = p := by
 unfold wayK wayP
 rw [laysK_nth (by omega)]
 rfl
theorem wayK_last {g : GameD} {p : PosD} {d : Nat} {goal : PosD} (hgo : goal ∈ layK g p d) : wayK g p d goal d = goal := by
 have := wayK_goo hgo (Nat.le_refl d)
 rw [gooK_last] at this
 simpa using this
theorem wayK_succ (g : GameD) (p : PosD) (d : Nat) (goal : PosD) (i : Nat) : wayK g p d goal (i + 1) = nth (gooK g p d goal (i + 1)) (frstP g (wayK g p d goal i) (gooK g p d goal (i + 1))).toNat := rfl
theorem wayK_move {g : GameD} {p : PosD} {d : Nat} {goal : PosD} (hgo : goal ∈ layK g p d) {i : Nat} (h : i < d) : wayK g p d goal (i + 1) ∈ movesP g (wayK g p d goal i) := by
 obtain ⟨r, hr, hm⟩ := ((gooK_mem h).1 (wayK_goo hgo (Nat.le_of_lt h))).2
 rw [wayK_succ]
 exact (frstP_some (frstP_iff.2 ⟨r, hr, hm⟩)).2.1
theorem trace_len (g : GameD) (p : PosD) (d : Nat) (goal : PosD) : (traceP g (laysK g p d) goal).length = d + 1 := by simp [traceP, laysK_len]
theorem trace_nth {g : GameD} {p : PosD} {d : Nat} {goal : PosD} {i : Nat} (h : i ≤ d) : nth (traceP g (laysK g p d) goal) i = wayK g p d goal i := by
 unfold traceP
 rw [nth_map _ _ _ (by rw [List.length_range, laysK_len]; omega), nth_eq _ _ (by rw [List.length_range, laysK_len]; omega)]
 simp [wayK]
end Ways
theorem gameP_game {g : GameD} {p goal : PosD} {n : Int} (h : (gameP g p goal n).2 = 0) : checkP g p goal (gameP g p goal n).1 = true := by
 obtain ⟨d, hd, hgo⟩ := knoK_lay.1 (gameP_ok_iff.1 h)
 rw [gameP_some hd hgo]
 unfold checkP
 simp only
 refine decide_eq_true ⟨?_, ?_, ?_, fun j hj => ?_⟩
 ·intro h
  have := congrArg List.length h
  rw [trace_len] at this
  simp at this
 ·rw [trace_nth (by omega), wayK_zero]
 ·rw [trace_len, Nat.add_sub_cancel, trace_nth (Nat.le_refl d), wayK_last hgo]
 ·rw [trace_len, Nat.add_sub_cancel] at hj
  rw [trace_nth (by omega), trace_nth (by omega)]
  exact wayK_move hgo hj
end Go.Av
end
section
open Go Go.Proofs Go.Av
namespace Go.Av
open Go.Proofs.YtblaonmapofniaaGreatDoor
theorem opn_u8x2 : Opn Tryz.prog 1048576 UpB 33 (fun y : Int × Int => [AV.v (.int .u8 y.1), AV.v (.int .u8 y.2)]) (fun y => U8 y.1 ∧ U8 y.2) := by
 have hA : Opn Tryz.prog 1048576 UpB 33 (fun l : List Int => (l.map fun n => [AV.v (.int .u8 n)]).flatten) (fun l => l.length = 2 ∧ ∀ x ∈ l, U8W x) :=
  Opn.array (sz := 1) (n := 2) Bulk.upto Tryz.underlying33 (by kernel_rfl) (by kernel_rfl) opn_u8
 intro H enc w fuel cs d ps k1 k2
 obtain ⟨x, r1, r2, r3, h1, h2⟩ := hA enc w fuel cs d ps k1 k2
 match x, h1 with
 | [a, b], _ => exact ⟨(a, b), r1, r2, r3, bounds_u8 (h2 a (by simp)), bounds_u8 (h2 b (by simp))⟩
end Go.Av
end
section
/- Plain: searches that keep no order; last positions. -/
open Go Go.Proofs
namespace Go.Av
def lastV (g : GameD) (s p : PosD) (n : Int) : List PosD × Int :=
 if fullP (searchP g s n) = false then ([], 2) else if p ∈ seenP g s n then ((seenP g s n).filter fun q => decide (p ∈ movesP g q), 0) else ([], 270)
def looksP (p q : PosD) : Bool := decide (p = { q with rights := p.rights })
def bitP (q : PosD) (r : Nat) : Bool := decide (andN .i64 (q.rights.fdiv (2 ^ r)) 1 = 1)
def alikeV (g : GameD) (s p : PosD) (n : Int) : List PosD := (seenP g s n).filter (looksP p)
def rightV (l : List PosD) (r : Nat) : Int := if l.countP (bitP · r) = 0 then 0 else if l.countP (bitP · r) = l.length then 1 else 2
def rightsV (g : GameD) (s p : PosD) (n : Int) : List Int × Int :=
 if fullP (searchP g s n) = false then ([], 2) else if alikeV g s p n = [] then ([], 270) else ((List.range g.rights.toNat).map (rightV (alikeV g s p n)), 0)
end Go.Av
end
section
/- Plain: the men of both sides before and after a move. -/
open Go Go.Proofs
namespace Go.Av
def mn (side kind : Int) (c : Int) : Bool := isMan default side kind c
def cnt (l : List Int) (side kind : Int) : Nat := l.countP (mn side kind)
theorem mn_zero (side kind : Int) : mn side kind 0 = false := by
 unfold mn isMan manOf
 simp
theorem cnt_set : ∀ (l : List Int) {i : Nat} (hi : i < l.length) (v side kind : Int), cnt (l.set i v) side kind + (if mn side kind (nth l i) then 1 else 0) = cnt l side kind + (if mn side kind v then 1 else 0)
 | [], i, hi, _, _, _ => by simp at hi
 | a :: l, 0, _, v, side, kind => by
  simp only [cnt, List.set_cons_zero, List.countP_cons, nth_zero]
  exact Nat.add_right_comm _ _ _
 | a :: l, i + 1, hi, v, side, kind => by
  have := cnt_set l (i := i) (by simpa using hi) v side kind
  simp only [cnt, List.set_cons_succ, List.countP_cons, nth_succ] at this ⊢
  revert this
  cases mn side kind a <;> cases mn side kind v <;> cases mn side kind (nth l i) <;> simp <;> omega
theorem mn_own {side c kind : Int} (h : (manOf c).2 = side) : mn (1 - side) kind c = false := by
 unfold mn isMan
 have : ¬ (manOf c).2 = 1 - side := by omega
 simp [this]
theorem mn_foe {side c kind : Int} (h : (manOf c).2 ≠ side) : mn side kind c = false := by
 unfold mn isMan
 simp [h]
theorem mn_any {side c : Int} (h : (manOf c).2 = side) (h0 : 0 ≤ (manOf c).1) : mn side (-1) c = true := by
 unfold mn isMan
 simp [h, h0]
structure MenI (a : List Int) (side : Int) (l : List Int) : Prop where
 len : l.length = a.length
 own : cnt l side (-1) + 1 = cnt a side (-1)
 foe : ∀ k, cnt l (1 - side) k ≤ cnt a (1 - side) k
theorem MenI.start {a : List Int} {i : Nat} (hi : i < a.length) {side : Int} (h0 : 0 ≤ (manOf (nth a i)).1) (h : (manOf (nth a i)).2 = side) : MenI a side (a.set i 0) := by
 refine ⟨by simp, ?_, fun k => ?_⟩
 ·have := cnt_set a hi 0 side (-1)
  rw [mn_zero, mn_any h h0] at this
  simpa using this
 ·have := cnt_set a hi 0 (1 - side) k
  rw [mn_zero, mn_own h] at this
  simp at this
  omega
theorem MenI.take {a l : List Int} {side : Int} (h : MenI a side l) {i : Nat} (hi : i < l.length) (hs : (manOf (nth l i)).2 ≠ side) : MenI a side (l.set i 0) := by
 refine ⟨by simpa using h.len, ?_, fun k => ?_⟩
 ·have := cnt_set l hi 0 side (-1)
  rw [mn_zero, mn_foe hs] at this
  have := h.own
  simp at *
  omega
 ·have := cnt_set l hi 0 (1 - side) k
  rw [mn_zero] at this
  have := h.foe k
  simp at *
  omega
theorem cnt_push {l : List Int} {i j : Nat} (hi : i < l.length) (hj : j < l.length) (h0 : nth l j = 0) (h1 : nth l i ≠ 0) (side kind : Int) : cnt ((l.set j (nth l i)).set i 0) side kind = cnt l side kind := by
 have hij : j ≠ i := fun e => h1 (e ▸ h0)
 have a1 := cnt_set l hj (nth l i) side kind
 have a2 := cnt_set (l.set j (nth l i)) (i := i) (by simpa using hi) 0 side kind
 rw [h0, mn_zero] at a1
 have e := nth_setE l j i (nth l i)
 rw [if_neg (fun h => hij h.1)] at e
 rw [e, mn_zero] at a2
 revert a1 a2
 cases mn side kind (nth l i) <;> simp <;> omega
theorem MenI.push {a l : List Int} {side : Int} (h : MenI a side l) {i j : Nat} (hi : i < l.length) (hj : j < l.length) (h0 : nth l j = 0) (h1 : nth l i ≠ 0) : MenI a side ((l.set j (nth l i)).set i 0) :=
 ⟨by simpa using h.len, by rw [cnt_push hi hj h0 h1]; exact h.own, fun k => by rw [cnt_push hi hj h0 h1]; exact h.foe k⟩
theorem slideGo_at {s : StD} : ∀ {l : List Int}, ∀ t ∈ slideGo s l, t.p = s.p
 | [], t, h => by simp [slideGo] at h
 | c :: l, t, h => by
  rw [slideGo, List.mem_cons] at h
  rcases h with rfl | h
  ·rfl
  ·split at h
   ·exact slideGo_at t h
   ·simp at h
theorem withHand_at (p : PosD) (side : Int) (l : List Int) : (p.withHand side l).at_ = p.at_ := by
 unfold PosD.withHand
 split <;> rfl
theorem MenI.step {g : GameD} (hg : GOk g) {a : List Int} {s : StD} (hs : StOk g s) (h : MenI a s.p.side s.p.at_) {x : Int × Int} : ∀ t ∈ stepS g s x, MenI a s.p.side t.p.at_ := by
 intro t ht
 have hal := hs.p.al
 have c0 := hs.c0
 have c1 := hs.c1
 have hcl : s.cursor.toNat < s.p.at_.length := by omega
 unfold stepS at ht
 simp only at ht
 repeat' split at ht
 ·have := onlyS_mem ht; subst this; exact h
 ·have := slideGo_at t ht; rw [this]; exact h
 ·have := onlyS_mem ht; subst this; exact h
 ·have := onlyS_mem ht; subst this; exact h
 ·have := onlyS_mem ht; subst this; exact h
 ·unfold takeS at ht
  simp only at ht
  split at ht
  ·simp at ht
  ·rename_i hm
   have hm2 : (manOf (nth s.p.at_ s.cursor.toNat)).2 ≠ s.p.side := fun e => hm (.inr e)
   have key := h.take hcl hm2
   split at ht
   ·split at ht
    ·simp at ht
    ·simp only [List.mem_singleton] at ht
     subst ht
     simp only [withHand_at]
     exact key
   ·simp only [List.mem_singleton] at ht
    subst ht
    exact key
 ·unfold pushS at ht
  simp only at ht
  split at ht
  ·simp at ht
  ·rename_i hm
   simp only [not_or, Decidable.not_not, Int.not_lt] at hm
   simp only [List.mem_singleton] at ht
   subst ht
   have hto := toB_lt hg.board s.p.side x.2 s.cursor
   have e : g.board.cells = g.cells := rfl
   exact h.push hcl (by omega) hm.2.2 hm.1
 ·simp only [List.mem_singleton] at ht; subst ht; exact h
 ·have := onlyS_mem ht; subst this; exact h
 ·simp only [List.mem_singleton] at ht; subst ht; exact h
 ·simp only [List.mem_singleton] at ht; subst ht; exact h
end Go.Av
end
section
/- Plain: chapter 29: rights only fall; last positions and rights. -/
open Go Go.Proofs
namespace Go.Av
def bitI (a : Int) (r : Nat) : Bool := decide (andN .i64 (a.fdiv (2 ^ r)) 1 = 1)
theorem rights16 {g : GameD} (hg : GOk g) {p : PosD} (hp : POk g p) : p.rights < 16 := by
 have h4 := hg.r4
 have h0 := hg.r0
 have := hp.r1
 have e : (2 : Int) ^ g.rights.toNat ≤ 2 ^ 4 := by
  rcases (show g.rights.toNat = 0 ∨ g.rights.toNat = 1 ∨ g.rights.toNat = 2 ∨ g.rights.toNat = 3 ∨ g.rights.toNat = 4 by omega) with h | h | h | h | h <;> rw [h] <;> decide
 omega
theorem lastV_mem {g : GameD} {s p : PosD} {n : Int} {q : PosD} (hq : q ∈ (lastV g s p n).1) : q ∈ seenP g s n ∧ p ∈ movesP g q := by
 unfold lastV at hq
 split at hq
 ·simp at hq
 ·split at hq
  ·simpa using List.mem_filter.1 hq
  ·simp at hq
theorem lastV_len (g : GameD) (s p : PosD) (n : Int) : (lastV g s p n).1.length ≤ (seenP g s n).length := by
 unfold lastV
 split
 ·simp
 ·split
  ·exact List.length_filter_le _ _
  ·simp
theorem last_game {g : GameD} {s p : PosD} {n : Int} (hf : fullP (searchP g s n) = true) : (lastV g s p n).2 = (gameP g s p n).2 := by
 unfold lastV
 rw [if_neg (by rw [hf]; simp)]
 by_cases hp : p ∈ seenP g s n
 ·rw [if_pos hp]
  exact (gameP_ok_iff.2 (seenP_mem.1 hp)).symm
 ·rw [if_neg hp]
  have : (gameP g s p n).2 ≠ 0 := fun h => hp (seenP_mem.2 (gameP_ok_iff.1 h))
  rw [gameP_err this, if_pos hf]
theorem last_before {g : GameD} {s p : PosD} {n : Int} (hf : fullP (searchP g s n) = true) (h : (gameP g s p n).2 = 0) (h2 : 2 ≤ (gameP g s p n).1.length) : nth (gameP g s p n).1 ((gameP g s p n).1.length - 2) ∈ (lastV g s p n).1 := by
 obtain ⟨d, hd, hgo⟩ := knoK_lay.1 (gameP_ok_iff.1 h)
 have hc := gameP_game h
 unfold checkP at hc
 obtain ⟨c1, c2, c3, c4⟩ := of_decide_eq_true hc
 have hm := c4 ((gameP g s p n).1.length - 2) (by omega)
 rw [show (gameP g s p n).1.length - 2 + 1 = (gameP g s p n).1.length - 1 by omega, c3] at hm
 have hch : ChainP g (gameP g s p n).1 := fun j hj => c4 j (by omega)
 have hs := full_chain hf hch c2 ((gameP g s p n).1.length - 2) (by omega)
 unfold lastV
 rw [if_neg (by rw [hf]; simp), if_pos (seenP_mem.2 (knoK_lay.2 ⟨d, hd, hgo⟩))]
 exact List.mem_filter.2 ⟨seenP_mem.2 hs, by simpa using hm⟩
end Go.Av
end
section
/- Plain: chapter 29: rights as numbers, budgets, the case that is made. -/
open Go Go.Proofs
namespace Go.Av
def bitN (a : Int) (r : Nat) : Int := andN .i64 (a.fdiv (2 ^ r)) 1
def bitsNum : Bool := (List.range 16).all fun (a : Nat) => (List.range 4).all fun (r : Nat) => decide (bitN (a : Int) r = if bitI (a : Int) r = true then 1 else 0)
theorem bitsNum_true : bitsNum = true := by kernel_rfl
theorem bitN_eq {a : Int} (h0 : 0 ≤ a) (h1 : a < 16) {r : Nat} (hr : r < 4) : bitN a r = if bitI a r = true then 1 else 0 := by
 have key := bitsNum_true
 unfold bitsNum at key
 have k1 := List.all_eq_true.1 key a.toNat (List.mem_range.2 (by omega))
 have k2 := of_decide_eq_true (List.all_eq_true.1 k1 r (List.mem_range.2 hr))
 rwa [Int.toNat_of_nonneg h0] at k2
theorem bitP_eq (q : PosD) (r : Nat) : bitP q r = bitI q.rights r := rfl
def orR (a : Int) : Nat → Int
 | 0 => a
 | r + 1 => orN .i64 (orR a r) (2 ^ r)
def orAll : Bool := (List.range 5).all fun (n : Nat) => (List.range (2 ^ n)).all fun (a : Nat) => decide (0 ≤ orR (a : Int) n ∧ orR (a : Int) n < 2 ^ n)
theorem orAll_true : orAll = true := by kernel_rfl
theorem pow16 {n : Nat} (hn : n ≤ 4) : (2 : Int) ^ n ≤ 16 ∧ (2 : Int) ^ n = ((2 ^ n : Nat) : Int) ∧ (0 : Int) < 2 ^ n := by
 rcases (show n = 0 ∨ n = 1 ∨ n = 2 ∨ n = 3 ∨ n = 4 by omega) with h | h | h | h | h <;> subst h <;> decide
theorem orR_in {n : Nat} (hn : n ≤ 4) {a : Int} (h0 : 0 ≤ a) (h1 : a < 2 ^ n) : 0 ≤ orR a n ∧ orR a n < 2 ^ n := by
 have key := orAll_true
 unfold orAll at key
 obtain ⟨_, p2, _⟩ := pow16 hn
 have k1 := List.all_eq_true.1 key n (List.mem_range.2 (by omega))
 have k2 := of_decide_eq_true (List.all_eq_true.1 k1 a.toNat (List.mem_range.2 (by omega)))
 rwa [Int.toNat_of_nonneg h0] at k2
theorem POk.setR {g : GameD} {p : PosD} (h : POk g p) {a : Int} (h0 : 0 ≤ a) (h1 : a < 2 ^ g.rights.toNat) : POk g { p with rights := a } := ⟨h.al, h.av, h.h0, h.h1, h0, h1, h.s⟩
def allR (g : GameD) (p : PosD) : PosD := { p with rights := orR p.rights g.rights.toNat }
theorem allR_ok {g : GameD} (hg : GOk g) {p : PosD} (hp : POk g p) : POk g (allR g p) := by
 have h4 := hg.r4
 have h0 := hg.r0
 have := orR_in (n := g.rights.toNat) (by omega) hp.r0 hp.r1
 exact hp.setR this.1 this.2
def endW (g : GameD) (s : PosD) (picks : List Int) : PosD := nth (walkP g s picks) ((walkP g s picks).length - 1)
theorem endW_ok {g : GameD} (hg : GOk g) {s : PosD} (hs : POk g s) (picks : List Int) : POk g (endW g s picks) := by
 have hne := List.length_pos_iff.2 (walkP_ne g s picks)
 exact walkP_ok hg _ hs _ (nth_mem (by omega))
def endR (g : GameD) (s : PosD) (picks : List Int) (a b : Int) : PosD := if a.tmod 4 = 3 then { endW g s picks with rights := b.tmod (2 ^ g.rights.toNat) } else endW g s picks
theorem tmod_in2 {b : Int} (h0 : 0 ≤ b) {n : Int} (hn : 0 < n) : 0 ≤ b.tmod n ∧ b.tmod n < n := ⟨Int.tmod_nonneg _ h0, Int.tmod_lt_of_pos _ hn⟩
theorem endR_ok {g : GameD} (hg : GOk g) {s : PosD} (hs : POk g s) (picks : List Int) (a : Int) {b : Int} (hb : 0 ≤ b) : POk g (endR g s picks a b) := by
 have h4 := hg.r4
 have h0 := hg.r0
 unfold endR
 split
 ·obtain ⟨h1, h2⟩ := tmod_in2 hb (pow16 (n := g.rights.toNat) (by omega)).2.2
  exact (endW_ok hg hs picks).setR h1 h2
 ·exact endW_ok hg hs picks
end Go.Av
end
section
/- Contracts: skewerref29.Has, Looks, Same, SameCertain, Search. -/
open Go Go.Proofs
namespace Go.Av
theorem take_not {α : Type} [Inhabited α] [DecidableEq α] {l : List α} {k : Nat} {p : α} (hk : k < l.length) (h : p ∉ l.take k) (h2 : nth l k ≠ p) : p ∉ l.take (k + 1) := by
 rw [List.take_add_one, List.getElem?_eq_getElem hk, Option.toList_some, List.mem_append]
 rintro (h3 | h3)
 ·exact h h3
 ·simp only [List.mem_singleton] at h3
  rw [nth_eq _ _ hk] at h2
  exact h2 h3.symm
theorem Has29_pure (l : List PosD) (p : PosD) (hl : l.length ≤ 17179869184) (hf : ∀ q ∈ l, FitsP q) (hp : FitsP p) : Pure Tryz.prog 43 [encPs l, .agg (encPos p)] (.v (.bool (decide (p ∈ l)))) := by
 refine pF Tryz.func43 ?_
 have hC := fun i hi => Compare_pure (nth l i) p (hf _ (nth_mem (i := i) hi)) hp
 obtain ⟨b, hb⟩ : ∃ b, b = decide (p ∈ l) := ⟨_, rfl⟩
 rw [← hb]
 (repeat (first|with_reducible refine wV fun _=>?_|simp [go_sem]))
 refine ALoop.start (ALoop.ind (α := Nat) (fun k => ⟨[(0, encPs l), (3, .ref 0 0 5 0 0), (5, .v (.int .i64 k))], [(0, .rows true 0 5 [encPos p])], 1⟩)
  (fun d k => k + d = l.length ∧ p ∉ l.take k) ?_ l.length 0 ?_) ?_ ?_
 ·rintro d k ⟨k1, k2⟩ hrec
  (repeat (first|with_reducible refine wV fun _=>?_|simp [go_sem]))
  refine aIf.mkL (fun hk => ?_) (fun hk => ?_) <;> simp at hk
  ·have hCk := hC k hk
   have e := cmp_pos.eq (nth l k) p
   generalize cmpP (nth l k) p = c at *
   (repeat (first|with_reducible refine wV fun _=>?_|simp [go_sem, hk]))
   refine dCall.plain hCk (by simp [go_sem]) ?_
   (repeat (first|with_reducible refine wV fun _=>?_|simp [go_sem, hk]))
   refine aIf.mkL (fun hz => ?_) (fun hz => ?_) <;> simp at hz
   ·have hin : p ∈ l := (e.1 hz) ▸ nth_mem hk
    obtain rfl : b = true := by rw [hb]; exact decide_eq_true hin
    (repeat (first|with_reducible refine wV fun _=>?_|simp [go_sem]))
   ·have hnx := take_not hk k2 (fun h => hz (e.2 h))
    (repeat (first|with_reducible refine wV fun _=>?_|simp [go_sem]))
    refine ALoop.start (hrec (d - 1) (by omega) (k + 1) ⟨by omega, hnx⟩) ?_ (by simp)
    simp [go_sem, Wk_eq]
  ·have hno : p ∉ l := by rw [List.take_of_length_le (by omega)] at k2; exact k2
   obtain rfl : b = false := by rw [hb]; exact decide_eq_false hno
   (repeat (first|with_reducible refine wV fun _=>?_|simp [go_sem]))
 ·exact ⟨by omega, by simp⟩
 ·simp [go_sem, Wk_eq]
 ·simp
theorem FitsP.rights {q : PosD} (h : FitsP q) (r : Int) : FitsP { q with rights := r } := h
theorem Same29_pure (a b : List PosD × Int) (ha : a.1.length ≤ 17179869184) (hb : b.1.length ≤ 17179869184) (hfa : ∀ p ∈ a.1, FitsP p) (hfb : ∀ p ∈ b.1, FitsP p) :
  Pure Tryz.prog 27 [encFound a, encFound b] (.v (.bool (decide (a = b)))) := by
 refine pF Tryz.func27 ?_
 have hS := SameLists_pure a.1 b.1 ha hb hfa hfb
 have e : decide (a = b) = (decide (a.2 = b.2) && decide (a.1 = b.1)) := by
  rw [← Bool.decide_and, decide_eq_decide, and_comm]
  exact Prod.ext_iff
 rw [e]
 generalize decide (a.1 = b.1) = s at *
 unfold encFound
 (repeat (first|with_reducible refine wV fun _=>?_|simp [go_sem]))
 refine aGC.plain _ (fun _ => hS) (by simp [go_sem]) ?_
 by_cases h : a.2 = b.2
 ·(repeat (first|with_reducible refine wV fun _=>?_|simp [go_sem, h]))
 ·(repeat (first|with_reducible refine wV fun _=>?_|simp [go_sem, h]))
def encCert (x : List Int × Int) : AV := .agg [encIs x.1, .v (.int .i64 x.2)]
theorem SameCertain_pure (a b : List Int × Int) (ha : a.1.length ≤ 17179869184) (hb : b.1.length ≤ 17179869184) :
  Pure Tryz.prog 30 [encCert a, encCert b] (.v (.bool (decide (a = b)))) := by
 refine pF Tryz.func30 ?_
 unfold encCert
 obtain ⟨t, ht⟩ : ∃ t, t = decide (a = b) := ⟨_, rfl⟩
 rw [← ht]
 obtain ⟨la, ea⟩ := a
 obtain ⟨lb, eb⟩ := b
 simp only at ha hb ⊢
 (repeat (first|with_reducible refine wV fun _=>?_|simp [go_sem]))
 refine aIf.mkL (fun hA => ?_) (fun hA => ?_)
 ·obtain rfl : t = false := by
   rw [ht]
   refine decide_eq_false fun h => ?_
   obtain ⟨h1, h2⟩ := Prod.mk.inj h
   subst h1; subst h2
   simp at hA
  (repeat (first|with_reducible refine wV fun _=>?_|simp [go_sem]))
 ·have hE : ea = eb ∧ la.length = lb.length := by
   by_cases h1 : ea = eb
   ·by_cases h2 : la.length = lb.length
    ·exact ⟨h1, h2⟩
    ·simp [h1, show (la.length : Int) ≠ lb.length by omega] at hA
   ·simp [h1] at hA
  obtain ⟨rfl, hll⟩ := hE
  (repeat (first|with_reducible refine wV fun _=>?_|simp [go_sem]))
  refine ALoop.start (ALoop.ind (α := Nat) (fun k => ⟨[(2, .ref 0 0 2 0 0), (3, .ref 1 0 2 0 0), (5, .v (.int .i64 k))], [(0, .rows true 0 2 [[encIs la, .v (.int .i64 ea)]]), (1, .rows true 0 2 [[encIs lb, .v (.int .i64 ea)]])], 2⟩)
   (fun d k => k + d = la.length ∧ ∀ j, j < k → nth la j = nth lb j) ?_ la.length 0 ?_) ?_ ?_
  ·rintro d k ⟨k1, k2⟩ hrec
   (repeat (first|with_reducible refine wV fun _=>?_|simp [go_sem]))
   refine aIf.mkL (fun hk => ?_) (fun hk => ?_) <;> simp at hk
   ·have hk2 : k < lb.length := by omega
    (repeat (first|with_reducible refine wV fun _=>?_|simp [go_sem, hk, hk2]))
    refine aIf.mkL (fun hz => ?_) (fun hz => ?_) <;> simp at hz
    ·obtain rfl : t = false := by
      rw [ht]
      refine decide_eq_false fun h => ?_
      obtain ⟨h1, _⟩ := Prod.mk.inj h
      exact hz (by rw [h1])
     (repeat (first|with_reducible refine wV fun _=>?_|simp [go_sem]))
    ·(repeat (first|with_reducible refine wV fun _=>?_|simp [go_sem]))
     refine ALoop.start (hrec (d - 1) (by omega) (k + 1) ⟨by omega, fun j hj => ?_⟩) ?_ (by simp)
     ·by_cases e : j = k
      ·subst e; exact hz
      ·exact k2 j (by omega)
     simp [go_sem, Wk_eq]
   ·obtain rfl : t = true := by
     rw [ht]
     refine decide_eq_true ?_
     have e : la = lb := List.ext_getElem hll fun j h1 h2 => by
      have := k2 j (by omega)
      rwa [nth_eq _ _ h1, nth_eq _ _ h2] at this
     rw [e]
    (repeat (first|with_reducible refine wV fun _=>?_|simp [go_sem]))
  ·exact ⟨by omega, fun j hj => by omega⟩
  ·simp [go_sem, Wk_eq]
  ·simp
end Go.Av
end
section
/- Contracts: last.keep, last.looks, last.Last, last.Rights. -/
open Go Go.Proofs
namespace Go.Av
theorem last1_pure (g : GameD) (hg : GOk g) (q : PosD) (hq : POk g q) (p : PosD) (hp : FitsP p) : Pure Tryz.prog 160 [.agg (encPos q), .fp (encGame g), .fp (encPos p)] (.v (.bool (decide (p ∈ movesP g q)))) := by
 refine pF Tryz.func160 ?_
 have hL := Legal_pure g hg q hq p hp
 generalize decide (p ∈ movesP g q) = b at *
 (repeat (first|with_reducible refine wV fun _=>?_|simp [go_sem]))
 refine ACallP.plain hL (by simp [go_sem]) ?_
 (repeat (first|with_reducible refine wV fun _=>?_|simp [go_sem]))
theorem looks1_pure (p q : PosD) (hp : FitsP p) (hq : FitsP q) : Pure Tryz.prog 207 [.agg (encPos q), .fp (encPos p)] (.v (.bool (looksP p q))) := by
 refine pF Tryz.func207 ?_
 have hC := pCompare_pure p { q with rights := p.rights } hp hq
 have e : looksP p q = decide (cmpP p { q with rights := p.rights } = 0) := by
  unfold looksP
  rw [decide_eq_decide]
  exact (cmp_pos.eq _ _).symm
 rw [e]
 have ee : encPos { q with rights := p.rights } = [encIs q.at_, encIs q.h0, encIs q.h1, .v (.int .i64 p.rights), .v (.int .i64 q.side)] := rfl
 rw [ee] at hC
 generalize cmpP p { q with rights := p.rights } = c at *
 (repeat (first|with_reducible refine wV fun _=>?_|simp [go_sem]))
 refine ACallP.plain hC (by simp [go_sem]) ?_
 (repeat (first|with_reducible refine wV fun _=>?_|simp [go_sem]))
theorem looks_owns (p : PosD) : Owns Tryz.prog 163 [.agg (encPos p)] (fun n => .fn (.func 207) [] [.ref n 0 5 0 0]) (fun n => [(n, .rows true 0 5 [encPos p])]) 1 := by
 refine ⟨?_, fun n => ⟨by simp [go_sem], by simp [go_sem]⟩⟩
 refine ACallP.of_awp (by kernel_rfl) Tryz.func163 rfl rfl (Nat.le_of_ble_eq_true rfl) (by kernel_rfl) ?_
 (repeat (first|with_reducible refine wV fun _=>?_|simp [go_sem]))
 simp [go_sem, Wk_eq]
theorem keep_pure (l : List PosD) (hl : l.length ≤ 17179869184) (f : FuncId) (caps : List AV) (p : PosD → Bool) (hp : ∀ x ∈ l, Pure Tryz.prog f (.agg (encPos x) :: caps) (.v (.bool (p x)))) (hb' : ∀ c ∈ caps, Bel 0 c) :
  Pure Tryz.prog 159 [encPs l, .fn (.func f) [] caps] (encPs (l.filter p)) := by
 refine pF Tryz.func159 ?_
 have hbn : ∀ n, (∀ c ∈ caps, Bel n c) = True := fun n => eq_true fun c hc => (hb' c hc).mono (Nat.zero_le n)
 obtain ⟨fl, hfl⟩ : ∃ fl : Nat → List PosD, ∀ k, fl k = (l.take k).filter p := ⟨_, fun _ => rfl⟩
 have hfll : ∀ k, (fl k).length ≤ 17179869184 := fun k => by
  have h1 : (fl k).length ≤ (l.take k).length := by rw [hfl]; exact List.length_filter_le _ _
  have h2 : (l.take k).length ≤ l.length := by simp; omega
  omega
 have hfl0 : fl 0 = [] := by rw [hfl]; rfl
 have hfls : ∀ k, k < l.length → fl (k + 1) = if p (nth l k) = true then fl k ++ [nth l k] else fl k := fun k hk => by
  rw [hfl, hfl, List.take_add_one, List.getElem?_eq_getElem hk, nth_eq _ _ hk, Option.toList_some, List.filter_append]
  by_cases h : p l[k] = true <;> simp [h]
 have hflE : fl l.length = l.filter p := by rw [hfl, List.take_length]
 rw [← hflE]
 clear hfl hflE
 (repeat (first|with_reducible refine wV fun _=>?_|simp [go_sem]))
 refine ALoop.start (ALoop.ind (α := Nat) (fun k => ⟨[(1, .fn (.func f) [] caps), (5, .sl 0 (fl k).length 5 0 (fl k).length), (8, encPs l), (9, .v (.int .i64 l.length)), (10, .v (.int .i64 k))], [(0, .rows true (fl k).length 5 ((fl k).map encPos))], 1⟩)
  (fun d k => k + d = l.length) ?_ l.length 0 ?_) ?_ ?_
 ·rintro d k k1 hrec
  (repeat (first|with_reducible refine wV fun _=>?_|simp [go_sem]))
  refine aIf.mkL (fun hk => ?_) (fun hk => ?_) <;> simp at hk
  ·have hpk := hp _ (nth_mem hk)
   have hfls := hfls k hk
   have h1 := hfll k
   have h2 := hfll (k + 1)
   generalize p (nth l k) = b at *
   (repeat (first|with_reducible refine wV fun _=>?_|simp [go_sem, hk]))
   refine ACallP.plain hpk (by simp [go_sem, hbn]) ?_
   cases b
   ·(repeat (first|with_reducible refine wV fun _=>?_|simp [go_sem, hk]))
    refine ALoop.start (hrec (d - 1) (by omega) (k + 1) (by omega)) ?_ (by simp)
    simp [go_sem, Wk_eq, hfls, hbn]
   ·(repeat (first|with_reducible refine wV fun _=>?_|simp [go_sem, hk]))
    refine ALoop.start (hrec (d - 1) (by omega) (k + 1) (by omega)) ?_ (by simp)
    simp [go_sem, Wk_eq, hfls, hbn]
  ·obtain rfl : k = l.length := by omega
   have h1 := hfll l.length
   (repeat (first|with_reducible refine wV fun _=>?_|simp [go_sem]))
   exact frX
 ·show 0 + l.length = l.length
  omega
 ·simp [go_sem, Wk_eq, hfl0, hbn]
 ·simp
theorem seenP_len0 {g : GameD} (hg : GOk g) {s : PosD} (hs : POk g s) (n : Int) : (seenP g s n).length ≤ 1889788001 := Nat.le_trans (sortU_le _ _) (searchP_len hg hs n)
theorem seenP_okk {g : GameD} (hg : GOk g) {s : PosD} (hs : POk g s) (n : Int) : ∀ z ∈ seenP g s n, POk g z := fun z hz => allOf_ok hg hs n z (sortU_mem.1 hz)
theorem Last_pure (g : GameD) (hg : GOk g) (s : PosD) (hs : POk g s) (p : PosD) (hp : FitsP p) (n : Int) :
  Pure Tryz.prog 85 [.agg (encGame g), .agg (encPos s), .agg (encPos p), .v (.int .i64 n)] (.tup [encPs (lastV g s p n).1, .v (.int .i64 (lastV g s p n).2)]) := by
 refine pF Tryz.func85 ?_
 have hSn := Seen_pure g hg s hs n
 have hl := seenP_len0 hg hs n
 have hok := seenP_okk hg hs n
 have hinc := seenP_inc g s n
 have hBS := BSearch_pure (seenP g s n) hinc (by omega) (fun q hq => (hok q hq).fits hg) p hp
 have hK := keep_pure (seenP g s n) (by omega) 160 [.fp (encGame g), .fp (encPos p)] (fun q => decide (p ∈ movesP g q)) (fun q hq => last1_pure g hg q (hok q hq) p hp) (by simp [go_sem])
 have hkl : ((seenP g s n).filter fun q => decide (p ∈ movesP g q)).length ≤ 1889788001 := Nat.le_trans (List.length_filter_le _ _) hl
 unfold lastV
 obtain ⟨kp, hkp⟩ : ∃ kp, kp = (seenP g s n).filter fun q => decide (p ∈ movesP g q) := ⟨_, rfl⟩
 rw [← hkp] at hK hkl ⊢
 clear hkp
 by_cases hin : p ∈ seenP g s n
 ·rw [if_pos hin]
  rw [decide_eq_true hin] at hBS
  clear hin
  generalize lowP (seenP g s n) p = lw at *
  generalize seenP g s n = sn at *
  generalize fullP (searchP g s n) = fu at *
  have hegl : (encGame g).length = 9 := rfl
  have hegb : ∀ n, (∀ c ∈ encGame g, Bel n c) = True := fun n => by simp [go_sem]
  generalize encGame g = eg at *
  cases fu
  ·(repeat (first|with_reducible refine wV fun _=>?_|simp [go_sem, hegl]))
   refine ACallP.plain hSn (by simp [go_sem, hegb]) ?_
   (repeat (first|with_reducible refine wV fun _=>?_|simp [go_sem, hegl]))
  ·(repeat (first|with_reducible refine wV fun _=>?_|simp [go_sem, hegl]))
   refine ACallP.plain hSn (by simp [go_sem, hegb]) ?_
   (repeat (first|with_reducible refine wV fun _=>?_|simp [go_sem, hegl]))
   refine ACallP.plain hBS (by simp [go_sem, hegb]) ?_
   (repeat (first|with_reducible refine wV fun _=>?_|simp [go_sem, hegl]))
   refine ACallP.pureF [0, 2] hK ?_ (by simp [go_sem, hegb]) ?_
   ·(first|done|exact leX)
   ·(repeat (first|with_reducible refine wV fun _=>?_|simp [go_sem, hegl]))
 ·rw [if_neg hin]
  rw [decide_eq_false hin] at hBS
  clear hin
  generalize lowP (seenP g s n) p = lw at *
  generalize seenP g s n = sn at *
  generalize fullP (searchP g s n) = fu at *
  have hegl : (encGame g).length = 9 := rfl
  have hegb : ∀ n, (∀ c ∈ encGame g, Bel n c) = True := fun n => by simp [go_sem]
  generalize encGame g = eg at *
  cases fu
  ·(repeat (first|with_reducible refine wV fun _=>?_|simp [go_sem, hegl]))
   refine ACallP.plain hSn (by simp [go_sem, hegb]) ?_
   (repeat (first|with_reducible refine wV fun _=>?_|simp [go_sem, hegl]))
  ·(repeat (first|with_reducible refine wV fun _=>?_|simp [go_sem, hegl]))
   refine ACallP.plain hSn (by simp [go_sem, hegb]) ?_
   (repeat (first|with_reducible refine wV fun _=>?_|simp [go_sem, hegl]))
   refine ACallP.plain hBS (by simp [go_sem, hegb]) ?_
   (repeat (first|with_reducible refine wV fun _=>?_|simp [go_sem, hegl]))
def cntR (al : List PosD) (k r : Nat) : Nat := (al.take k).countP (bitP · r)
def rowR (al : List PosD) (k r : Nat) : List AV := (List.range 4).map fun j => .v (.int .i64 ((if j < r then cntR al (k + 1) j else cntR al k j : Nat) : Int))
theorem rowR_len (al : List PosD) (k r : Nat) : (rowR al k r).length = 4 := by simp [rowR]
theorem four {r : Nat} (h : r < 4) : r = 0 ∨ r = 1 ∨ r = 2 ∨ r = 3 := by omega
theorem rowR_cel (al : List PosD) (k r : Nat) {j : Nat} (hj : j < 4) : cel (rowR al k r) j = .v (.int .i64 ((if j < r then cntR al (k + 1) j else cntR al k j : Nat) : Int)) := by
 rcases four hj with h | h | h | h <;> subst h <;> rfl
theorem rowR_set (al : List PosD) (k : Nat) {r : Nat} (h : r < 4) : (rowR al k r).set r (.v (.int .i64 (cntR al (k + 1) r))) = rowR al k (r + 1) := by
 rcases four h with h | h | h | h <;> subst h <;> rfl
theorem rowR_end (al : List PosD) (k : Nat) : rowR al k 4 = rowR al (k + 1) 0 := rfl
theorem rowR_bel {n : Nat} (al : List PosD) (k r : Nat) : (∀ c ∈ rowR al k r, Bel n c) = True := by
 refine eq_true fun c hc => ?_
 obtain ⟨j, _, rfl⟩ := List.mem_map.1 hc
 exact .v _
theorem cntR_le (al : List PosD) (k r : Nat) : cntR al k r ≤ al.length := by
 unfold cntR
 have h1 := List.countP_le_length (p := (bitP · r)) (l := al.take k)
 have h2 : (al.take k).length ≤ al.length := by simp; omega
 omega
theorem cntR_succ {al : List PosD} {k r : Nat} (hk : k < al.length) : cntR al (k + 1) r = cntR al k r + if bitP (nth al k) r = true then 1 else 0 := by
 unfold cntR
 rw [List.take_add_one, List.getElem?_eq_getElem hk, nth_eq _ _ hk, Option.toList_some, List.countP_append, List.countP_cons, List.countP_nil, Nat.zero_add]
theorem cntR_num {g : GameD} (hg : GOk g) {al : List PosD} {k r : Nat} (hk : k < al.length) (hr : r < 4) (h : POk g (nth al k)) : (cntR al (k + 1) r : Int) = cntR al k r + andN .i64 ((nth al k).rights.fdiv (2 ^ r)) 1 ∧ 0 ≤ andN .i64 ((nth al k).rights.fdiv (2 ^ r)) 1 ∧ andN .i64 ((nth al k).rights.fdiv (2 ^ r)) 1 ≤ 1 := by
 have e := bitN_eq h.r0 (rights16 hg h) hr
 have e2 : bitN (nth al k).rights r = andN .i64 ((nth al k).rights.fdiv (2 ^ r)) 1 := rfl
 rw [← e2, e, cntR_succ hk, bitP_eq]
 split <;> simp
def outR (al : List PosD) (R r : Nat) : List (List AV) := (List.range R).map fun j => encI (if j < r then rightV al j else 0)
theorem outR_len (al : List PosD) (R r : Nat) : (outR al R r).length = R := by simp [outR]
theorem outR_zero (al : List PosD) (R : Nat) : outR al R 0 = List.replicate R (encI 0) := by
 unfold outR
 refine List.ext_getElem (by simp) fun j h1 h2 => ?_
 simp
theorem outR_set (al : List PosD) (R r : Nat) : (outR al R r).set r (encI (rightV al r)) = outR al R (r + 1) := by
 refine List.ext_getElem (by simp [outR]) fun j h1 h2 => ?_
 rw [List.getElem_set]
 by_cases e : r = j
 ·subst e; simp [outR]
 ·rw [if_neg e]
  simp only [outR, List.getElem_map, List.getElem_range]
  by_cases h : j < r
  ·rw [if_pos h, if_pos (by omega)]
  ·rw [if_neg h, if_neg (by omega)]
theorem outR_keep (al : List PosD) (R : Nat) {r : Nat} (h : rightV al r = 0) : outR al R r = outR al R (r + 1) := by
 refine List.map_congr_left fun j _ => ?_
 by_cases e : j = r
 ·subst e; rw [if_neg (by omega), if_pos (by omega), h]
 ·by_cases h : j < r
  ·rw [if_pos h, if_pos (by omega)]
  ·rw [if_neg h, if_neg (by omega)]
theorem outR_all (al : List PosD) (R : Nat) : outR al R R = ((List.range R).map (rightV al)).map encI := by
 unfold outR
 rw [List.map_map]
 refine List.map_congr_left fun j hj => ?_
 rw [if_pos (List.mem_range.1 hj)]
 rfl
theorem outR_bel {n : Nat} (al : List PosD) (R r : Nat) : (∀ x ∈ outR al R r, ∀ c ∈ x, Bel n c) = True := by
 refine eq_true fun x hx c hc => ?_
 obtain ⟨j, _, rfl⟩ := List.mem_map.1 hx
 simp only [encI, List.mem_singleton] at hc
 subst hc
 exact .v _
theorem Rights_pure (g : GameD) (hg : GOk g) (s : PosD) (hs : POk g s) (p : PosD) (hp : FitsP p) (n : Int) :
  Pure Tryz.prog 88 [.agg (encGame g), .agg (encPos s), .agg (encPos p), .v (.int .i64 n)] (.tup [encIs (rightsV g s p n).1, .v (.int .i64 (rightsV g s p n).2)]) := by
 refine pF Tryz.func88 ?_
 have hSn := Seen_pure g hg s hs n
 have hl := seenP_len0 hg hs n
 have hok := seenP_okk hg hs n
 have hLo := looks_owns p
 have hK := keep_pure (seenP g s n) (by omega) 207 [.fp (encPos p)] (looksP p) (fun q hq => looks1_pure p q hp ((hok q hq).fits hg)) (by simp [go_sem])
 have hal : ((seenP g s n).filter (looksP p)).length ≤ 1889788001 := Nat.le_trans (List.length_filter_le _ _) hl
 have halo : ∀ q ∈ (seenP g s n).filter (looksP p), POk g q := fun q hq => hok q (List.mem_filter.1 hq).1
 unfold rightsV alikeV
 generalize (seenP g s n).filter (looksP p) = al at *
 generalize seenP g s n = sn at *
 generalize fullP (searchP g s n) = fu at *
 have hegl : (encGame g).length = 9 := rfl
 have hegb : ∀ n, (∀ c ∈ encGame g, Bel n c) = True := fun n => by simp [go_sem]
 have hegr : cel (encGame g) 4 = .v (.int .i64 g.rights) := rfl
 have hr0 := hg.r0
 have hr4 := hg.r4
 obtain ⟨R, hR⟩ : ∃ R : Nat, g.rights = R := ⟨g.rights.toNat, by omega⟩
 rw [hR] at hegr hr4 ⊢
 rw [Int.toNat_natCast]
 generalize encGame g = eg at *
 cases fu
 ·(repeat (first|with_reducible refine wV fun _=>?_|simp [go_sem, hegl]))
  refine ACallP.plain hSn (by simp [go_sem, hegb]) ?_
  (repeat (first|with_reducible refine wV fun _=>?_|simp [go_sem, hegl]))
 ·(repeat (first|with_reducible refine wV fun _=>?_|simp [go_sem, hegl]))
  refine ACallP.plain hSn (by simp [go_sem, hegb]) ?_
  (repeat (first|with_reducible refine wV fun _=>?_|simp [go_sem, hegl]))
  refine ACallP.ownsPlain hLo (by simp [go_sem]) ?_
  (repeat (first|with_reducible refine wV fun _=>?_|simp [go_sem, hegl]))
  refine ACallP.pureF [3] hK ?_ (by simp [go_sem]) ?_
  ·(first|done|exact leX)
  by_cases hz : al = []
  ·subst hz
   (repeat (first|with_reducible refine wV fun _=>?_|simp [go_sem, hegl]))
  ·have hap := List.length_pos_iff.2 hz
   have hz2 : (al = []) = False := eq_false hz
   have hcel := fun k r j hj => rowR_cel al k r (j := j) hj
   have hset := fun k r hr => rowR_set al k (r := r) hr
   have hrl := rowR_len al
   have hrb := fun n => rowR_bel (n := n) al
   have hre := rowR_end al
   have hcl := cntR_le al
   have hnum := fun k r hk hr => cntR_num hg (al := al) (k := k) (r := r) hk hr (halo _ (nth_mem hk))
   (repeat (first|with_reducible refine wV fun _=>?_|simp [go_sem, hegl, hz2]))
   refine ALoop.start (ALoop.ind (α := Nat) (fun k => ⟨[(4, .ref 0 0 9 0 0), (12, encPs al), (13, .ref 4 0 4 0 0), (35, encPs al), (36, .v (.int .i64 al.length)), (37, .v (.int .i64 k))], [(0, .rows true 0 9 [eg]), (4, .rows true 0 4 [rowR al k 0])], 5⟩)
    (fun d k => k + d = al.length) ?_ al.length 0 ?_) ?_ ?_
   ·rintro d k k1 hrec
    (repeat (first|with_reducible refine wV fun _=>?_|simp [go_sem, hegl]))
    refine aIf.mkL (fun hk => ?_) (fun hk => ?_) <;> simp at hk
    ·(repeat (first|with_reducible refine wV fun _=>?_|simp [go_sem, hegl, hk]))
     refine ALoop.start (ALoop.ind (α := Nat) (fun r => ⟨[(4, .ref 0 0 9 0 0), (12, encPs al), (13, .ref 4 0 4 0 0), (15, .ref 5 0 5 0 0), (35, encPs al), (36, .v (.int .i64 al.length)), (37, .v (.int .i64 k)), (41, .v (.int .i64 r))],
       [(0, .rows true 0 9 [eg]), (4, .rows true 0 4 [rowR al k r]), (5, .rows true 0 5 [encPos (nth al k)])], 6⟩)
      (fun d r => r + d = 4) ?_ 4 0 ?_) ?_ ?_
     ·rintro d2 r r1 hrec2
      (repeat (first|with_reducible refine wV fun _=>?_|simp [go_sem, hegl]))
      refine aIf.mkL (fun hr => ?_) (fun hr => ?_) <;> simp at hr
      ·have hr4' : r < 4 := by omega
       have hcr : cel (rowR al k r) r = .v (.int .i64 (cntR al k r : Int)) := by rw [rowR_cel al k r hr4', if_neg (Nat.lt_irrefl r)]
       obtain ⟨n1, n2, n3⟩ := hnum k r hk hr4'
       have hs := hset k r hr4'
       have hc1 := hcl k r
       rw [n1] at hs
       generalize hbn : andN .i64 ((nth al k).rights.fdiv (2 ^ r)) 1 = bn at *
       (repeat (first|with_reducible refine wV fun _=>?_|simp [go_sem, hegl, hrl, hcr, hs, hbn]))
       refine ALoop.start (hrec2 (d2 - 1) (by omega) (r + 1) (by omega)) ?_ (by simp)
       simp [go_sem, Wk_eq, hegb, hrb, hs]
      ·obtain rfl : r = 4 := by omega
       (repeat (first|with_reducible refine wV fun _=>?_|simp [go_sem, hegl]))
       refine ALoop.start (hrec (d - 1) (by omega) (k + 1) (by omega)) ?_ (by simp)
       simp [go_sem, Wk_eq, hegb, hrb, hre]
     ·rfl
     ·simp [go_sem, Wk_eq, hegb, hrb]
     ·simp
    ·obtain rfl : k = al.length := by omega
     have hcf : ∀ r, r < 4 → cel (rowR al al.length 0) r = .v (.int .i64 ((al.countP (bitP · r) : Nat) : Int)) := fun r hr => by
      rw [rowR_cel al _ 0 hr, if_neg (Nat.not_lt_zero r)]
      unfold cntR
      rw [List.take_length]
     have hol := outR_len al R
     have hoz := outR_zero al R
     have hos := outR_set al R
     have hok := fun r h => outR_keep al R (r := r) h
     have hoa := outR_all al R
     have hob := fun n => outR_bel (n := n) al R
     obtain ⟨O, hO⟩ : ∃ O, O = outR al R := ⟨_, rfl⟩
     rw [← hO] at hol hoz hos hok hoa hob
     clear hO
     obtain ⟨Rw, hRw⟩ : ∃ Rw, Rw = rowR al al.length 0 := ⟨_, rfl⟩
     have hRl : Rw.length = 4 := by rw [hRw]; exact hrl _ _
     have hRb : ∀ n, (∀ c ∈ Rw, Bel n c) = True := fun n => by rw [hRw]; exact hrb n _ _
     rw [← hRw] at hcf ⊢
     clear hRw
     (repeat (first|with_reducible refine wV fun _=>?_|simp [go_sem, hegl, hegr]))
     refine ALoop.start (ALoop.ind (α := Nat) (fun r => ⟨[(12, encPs al), (13, .ref 4 0 4 0 0), (17, .sl 5 0 1 0 R), (60, .v (.int .i64 R)), (61, .v (.int .i64 r))],
       [(4, .rows true 0 4 [Rw]), (5, .rows true 0 1 (O r))], 6⟩)
      (fun d r => r + d = R) ?_ R 0 ?_) ?_ ?_
     ·rintro d2 r r1 hrec2
      have holr := hol r
      (repeat (first|with_reducible refine wV fun _=>?_|simp [go_sem, holr]))
      refine aIf.mkL (fun hr => ?_) (fun hr => ?_) <;> simp at hr
      ·have hc := hcf r (by omega)
       have hosr := hos r
       have hokr := hok r
       have hcl2 : al.countP (bitP · r) ≤ al.length := List.countP_le_length
       have hrv : rightV al r = if al.countP (bitP · r) = 0 then 0 else if al.countP (bitP · r) = al.length then 1 else 2 := rfl
       generalize al.countP (bitP · r) = c at *
       generalize rightV al r = v at *
       by_cases h0 : c = 0
       ·rw [if_pos h0] at hrv
        have hkr := hokr hrv
        subst h0
        (repeat (first|with_reducible refine wV fun _=>?_|simp [go_sem, holr, hc, hRl]))
        refine ALoop.start (hrec2 (d2 - 1) (by omega) (r + 1) (by omega)) ?_ (by simp)
        simp [go_sem, Wk_eq, hRb, hob, hkr]
       ·rw [if_neg h0] at hrv
        by_cases h1 : c = al.length
        ·rw [if_pos h1] at hrv
         subst hrv
         subst h1
         have hosr2 : (O r).set r [.v (.int .i64 1)] = O (r + 1) := hosr
         (repeat (first|with_reducible refine wV fun _=>?_|simp [go_sem, holr, hc, hRl, hz2]))
         refine ALoop.start (hrec2 (d2 - 1) (by omega) (r + 1) (by omega)) ?_ (by simp)
         simp [go_sem, Wk_eq, hRb, hob, hosr2]
        ·rw [if_neg h1] at hrv
         subst hrv
         have hosr2 : (O r).set r [.v (.int .i64 2)] = O (r + 1) := hosr
         have h1i : ((c : Int) = al.length) = False := eq_false (by omega)
         (repeat (first|with_reducible refine wV fun _=>?_|simp [go_sem, holr, hc, hRl, h0, h1, h1i]))
         refine ALoop.start (hrec2 (d2 - 1) (by omega) (r + 1) (by omega)) ?_ (by simp)
         simp [go_sem, Wk_eq, hRb, hob, hosr2]
      ·obtain rfl : r = R := by omega
       (repeat (first|with_reducible refine wV fun _=>?_|simp [go_sem, holr]))
       have hfin : (((O r).drop 0).take r) = ((List.range r).map (rightV al)).map encI := by
        rw [List.drop_zero, hoa]
        exact List.take_of_length_le (by rw [List.length_map, List.length_map, List.length_range]; exact Nat.le_refl r)
       exact leV_frz rfl (by simp [holr]) (by simp [upd, noH]) (by rw [hfin, List.map_map])
     ·omega
     ·simp [go_sem, Wk_eq, hRb, hob, hoz]
     ·simp
   ·simp
   ·simp [go_sem, Wk_eq, hegb, hrb]
    rw [show rowR al 0 0 = [.v (.int .i64 0), .v (.int .i64 0), .v (.int .i64 0), .v (.int .i64 0)] from rfl]
    exact .refl _ _ _ _
   ·simp
end Go.Av
end
section
/- Contracts: skewerref29.Made. -/
open Go Go.Proofs
namespace Go.Av
def noPicks (x : Raw6) : Raw6 := { x with picks := [] }
theorem noPicks_ok {x : Raw6} (hx : Raw6Ok x) : Raw6Ok (noPicks x) := ⟨hx.g, hx.p, fun n hn => by simp [noPicks] at hn, by simp [noPicks], hx.l0, hx.l1, hx.lc⟩
def start29 (x : Raw6) : PosD := allR (game6 x) (pos6 (noPicks x))
def pos29 (x : Raw6) (a b : Int) : PosD := endR (game6 x) (start29 x) (x.picks.take 6) a b
theorem start29_ok {x : Raw6} (hx : Raw6Ok x) : POk (game6 x) (start29 x) := allR_ok (game6_ok hx) (pos6_ok (noPicks_ok hx))
theorem pos29_ok {x : Raw6} (hx : Raw6Ok x) (a : Int) {b : Int} (hb : 0 ≤ b) : POk (game6 x) (pos29 x a b) := endR_ok (game6_ok hx) (start29_ok hx) _ a hb
def encCase (g : GameD) (s p : PosD) : List AV := encGame g ++ (encPos s ++ encPos p)
def zero19 : List AV := [.v (.int .i64 0), AV.nils, AV.nils, AV.nils, .v (.int .i64 0), .v (.bool false), AV.nils, .v (.int .i64 0), .v (.int .i64 0), AV.nils, AV.nils, AV.nils, .v (.int .i64 0), .v (.int .i64 0), AV.nils, AV.nils, AV.nils, .v (.int .i64 0), .v (.int .i64 0)]
attribute [go_sem] encCase zero19
theorem setMany_two {a b : List AV} {n m : Nat} (ha : a.length = n) (hb : b.length = m) (z : List AV) (hz : n + m ≤ z.length) : setMany (setMany z 0 a) n b = a ++ (b ++ z.drop (n + m)) := by
  rw [setMany_eq a z 0 (by omega), setMany_eq b _ n (by simp; omega)]
  rw [List.take_zero, List.nil_append, Nat.zero_add, ← ha, List.take_left, hb, ← List.drop_drop, List.drop_left, List.drop_drop, List.append_assoc]
theorem Made29_pure (x : Raw6) (hx : Raw6Ok x) (a b : Int) (ha : U8 a) (hb : U8 b) : Pure Tryz.prog 26 [.agg (encRaw6 x), .agg [.v (.int .u8 a), .v (.int .u8 b)]] (.agg (encCase (game6 x) (start29 x) (pos29 x a b))) := by
  refine pF Tryz.func26 ?_
  have hg := game6_ok hx
  have hM := R6Made_pure (noPicks x) (noPicks_ok hx)
  have hs := start29_ok hx
  have hp0 := pos6_ok (noPicks_ok hx)
  rw [show game6 (noPicks x) = game6 x from rfl] at hM hp0
  have hlk := hx.lk
  have hW := R6Walk_pure (game6 x) hg (start29 x) hs (x.picks.take 6) (by simp; omega) (fun k hk => by have := hx.k k (List.mem_of_mem_take hk); have h0 := this.1; have h1 := this.2; omega)
  have hwl := walkP_len (game6 x) (x.picks.take 6) (start29 x)
  have hwp := List.length_pos_iff.2 (walkP_ne (game6 x) (start29 x) (x.picks.take 6))
  have hend : pos29 x a b = if a.tmod 4 = 3 then { nth (walkP (game6 x) (start29 x) (x.picks.take 6)) ((walkP (game6 x) (start29 x) (x.picks.take 6)).length - 1) with rights := b.tmod (2 ^ (game6 x).rights.toNat) } else nth (walkP (game6 x) (start29 x) (x.picks.take 6)) ((walkP (game6 x) (start29 x) (x.picks.take 6)).length - 1) := rfl
  have hst : start29 x = { pos6 (noPicks x) with rights := orR (pos6 (noPicks x)).rights (game6 x).rights.toNat } := rfl
  have hr0 := hg.r0
  have hr4 := hg.r4
  obtain ⟨R, hR⟩ : ∃ R : Nat, (game6 x).rights = R := ⟨(game6 x).rights.toNat, by omega⟩
  rw [hR, Int.toNat_natCast] at hend hst
  have hR4 : R ≤ 4 := by omega
  have hegl : (encGame (game6 x)).length = 9 := rfl
  have hegb : ∀ n, (∀ c ∈ encGame (game6 x), Bel n c) = True := fun n => by simp [go_sem]
  have hegr : cel (encGame (game6 x)) 4 = .v (.int .i64 R) := by rw [← hR]; rfl
  obtain ⟨hb0, hb1⟩ := hb
  obtain ⟨ha0, ha1⟩ := ha
  unfold encRaw6 at hM ⊢
  unfold encCase
  rw [show (noPicks x).g = x.g from rfl, show (noPicks x).p = x.p from rfl, show (noPicks x).picks = [] from rfl] at hM
  have hrow := rawRow hx.p
  obtain ⟨er, her⟩ : ∃ er, er = encRawP x.p := ⟨_, rfl⟩
  rw [← her] at hrow hM ⊢
  obtain ⟨rl, _, _, _, _, _, rb⟩ := hrow
  obtain ⟨er1, her1⟩ : ∃ er1, er1 = encRaw x.g := ⟨_, rfl⟩
  have er1l : er1.length = 12 := by rw [her1]; rfl
  have er1b : ∀ n, (∀ c ∈ er1, Bel n c) = True := fun n => by rw [her1]; simp [go_sem]
  rw [← her1] at hM ⊢
  have hc30 : cel (er1 ++ (er ++ [AV.lst 1 (x.picks.map encU)])) 30 = .lst 1 (x.picks.map encU) := by
    unfold cel
    rw [List.getD_eq_getElem?_getD, List.getElem?_append_right (by omega), List.getElem?_append_right (by omega)]
    simp [er1l, rl]
  have hd0 : List.take 12 (er1 ++ (er ++ [AV.lst 1 (x.picks.map encU)])) = er1 := by rw [← er1l, List.take_left]
  have hd12 : List.take 18 (List.drop 12 (er1 ++ (er ++ [AV.lst 1 (x.picks.map encU)]))) = er := by
    rw [← er1l, List.drop_left, ← rl, List.take_left]
  have hsm : ∀ z : List AV, z.length = 31 → setMany (setMany z 0 er1) 12 er = er1 ++ (er ++ z.drop 30) := fun z hz => setMany_two er1l rl z (by omega)
  generalize hgg : game6 x = g at *
  generalize hpp : pos6 (noPicks x) = p at *
  generalize start29 x = st at *
  generalize pos29 x a b = en at *
  generalize walkP g st (x.picks.take 6) = w at *
  generalize encGame g = eg at *
  (repeat (first|with_reducible refine wV fun _=>?_|simp [go_sem, rl, rb, er1l, er1b, hegl, hegb, hd0, hd12, hsm, setMany_length]))
  refine ACallP.pureF [] hM ?_ (by simp [go_sem, rb, er1b]) ?_
  · exact .cons (.agg (LeRow.append (.refl _ _ _ _) (LeRow.append (.refl _ _ _ _) (.cons (.nil _) .nil)))) .nil
  (repeat (first|with_reducible refine wV fun _=>?_|simp [go_sem, rl, rb, er1l, er1b, hegl, hegb]))
  have hra : ∀ r, orR p.rights (r + 1) = orN .i64 (orR p.rights r) (2 ^ r) := fun _ => rfl
  refine ALoop.start (ALoop.ind (α := Nat) (fun r => ⟨[(2, .ref 0 0 31 0 0), (3, .ref 1 0 2 0 0), (4, .ref 2 0 19 0 0), (5, .ref 3 0 9 0 0), (6, .ref 4 0 5 0 0), (7, .v (.int .i64 r))],
      [(0, .rows true 0 31 [er1 ++ (er ++ [AV.lst 1 (x.picks.map encU)])]), (1, .rows true 0 2 [[.v (.int .u8 a), .v (.int .u8 b)]]), (2, .rows true 0 19 [zero19]), (3, .rows true 0 9 [eg]),
       (4, .rows true 0 5 [encPos { p with rights := orR p.rights r }])], 5⟩)
    (fun d r => r + d = R) ?_ R 0 ?_) ?_ ?_
  · rintro d r r1 hrec
    (repeat (first|with_reducible refine wV fun _=>?_|simp [go_sem, hegl, hegr]))
    refine aIf.mkL (fun hr => ?_) (fun hr => ?_) <;> simp at hr
    · have hra := hra r
      have hpw : (2 : Int) ^ r ≤ 8 ∧ (1 : Int) ≤ 2 ^ r := by
        rcases (show r = 0 ∨ r = 1 ∨ r = 2 ∨ r = 3 by omega) with h | h | h | h <;> subst h <;> decide
      (repeat (first|with_reducible refine wV fun _=>?_|simp [go_sem, hegl, hegr]))
      refine ALoop.start (hrec (d - 1) (by omega) (r + 1) (by omega)) ?_ (by simp)
      simp [go_sem, Wk_eq, rb, er1b, hegb, hra]
    · obtain rfl : r = R := by omega
      obtain ⟨pk, hpk⟩ : ∃ pk : Nat → List Int, ∀ i, pk i = x.picks.take i := ⟨_, fun _ => rfl⟩
      have htl : ∀ i, i ≤ x.picks.length → (pk i).length = i := fun i hi => by rw [hpk]; simp; omega
      have hts : ∀ i, i < x.picks.length → pk (i + 1) = pk i ++ [nth x.picks i] := fun i hi => by rw [hpk, hpk, List.take_add_one, List.getElem?_eq_getElem hi, nth_eq _ _ hi]; rfl
      have hpz : pk 0 = [] := by rw [hpk]; rfl
      rw [← hpk] at hW
      obtain ⟨s1, s2, s3, s4, s5⟩ : st.at_ = p.at_ ∧ st.h0 = p.h0 ∧ st.h1 = p.h1 ∧ st.rights = orR p.rights r ∧ st.side = p.side := by rw [hst]; exact ⟨rfl, rfl, rfl, rfl, rfl⟩
      (repeat (first|with_reducible refine wV fun _=>?_|simp [go_sem, hegl, hegr]))
      refine ALoop.start (ALoop.ind (α := Nat) (fun i => ⟨[(2, .ref 0 0 31 0 0), (3, .ref 1 0 2 0 0), (4, .ref 2 0 19 0 0), (5, .ref 3 0 9 0 0), (6, .ref 4 0 5 0 0), (8, .sl 5 i 1 0 i), (9, .v (.int .i64 i))],
          [(0, .rows true 0 31 [er1 ++ (er ++ [AV.lst 1 (x.picks.map encU)])]), (1, .rows true 0 2 [[.v (.int .u8 a), .v (.int .u8 b)]]), (2, .rows true 0 19 [zero19]), (3, .rows true 0 9 [eg]),
           (4, .rows true 0 5 [encPos st]), (5, .rows true i 1 ((pk i).map encI))], 6⟩)
        (fun d i => i + d = min x.picks.length 6) ?_ (min x.picks.length 6) 0 ?_) ?_ ?_
      · rintro d i i1 hrec2
        (repeat (first|with_reducible refine wV fun _=>?_|simp [go_sem, rl, rb, er1l, er1b, hegl, hegb, hc30]))
        refine aIf.mkL (fun hi => ?_) (fun hi => ?_) <;> simp at hi
        · have hil : i < x.picks.length := by omega
          have hki := hx.k _ (nth_mem hil)
          have hk0 := hki.1
          have hk1 := hki.2
          have e1 := htl i (by omega)
          have e2 := hts i hil
          (repeat (first|with_reducible refine wV fun _=>?_|simp [go_sem, rl, er1l, hc30, hil, e1]))
          refine ALoop.start (hrec2 (d - 1) (by omega) (i + 1) (by omega)) ?_ (by simp)
          simp [go_sem, Wk_eq, e2, rb, er1b, hegb]
        · have hil : i = min x.picks.length 6 := by omega
          have e1 := htl i (by omega)
          have e2 : pk i = pk 6 := by rw [hpk, hpk, hil, List.take_eq_take_iff]; omega
          rw [← e2] at hW
          have h6 : (x.picks.take 6).length ≤ 6 := by simp; omega
          have hw7 : w.length ≤ 7 := by omega
          have hwi : ((w.length : Int) - 1).toNat = w.length - 1 := by omega
          have hwn : w.length - 1 < w.length := by omega
          have hpw : (2 : Int) ^ r ≤ 16 ∧ (1 : Int) ≤ 2 ^ r := by
            rcases (show r = 0 ∨ r = 1 ∨ r = 2 ∨ r = 3 ∨ r = 4 by omega) with h | h | h | h | h <;> subst h <;> decide
          (repeat (first|with_reducible refine wV fun _=>?_|simp [go_sem, rl, rb, er1l, er1b, hegl, hegb]))
          refine ACallP.pureF [5] hW ?_ (by simp [go_sem, hegb]) ?_
          · ((try simp only [encProg, encStep, encAct, encAs, encPath, encPt, encOut, encState, encPos, encOs, encSs, encPs, encIs, encGame, List.map_cons, List.map_nil, List.nil_append, List.append_nil, List.cons_append]); (repeat (first | (with_reducible exact LeRow.nil) | (with_reducible exact LeRows.nil) | (with_reducible exact LeV.refl _) | (with_reducible exact LeRow.refl _ _ _ _) | (with_reducible exact LeRows.refl _) | (with_reducible refine LeRow.cons ?_ ?_) | (with_reducible refine LeRows.cons ?_ ?_) | (with_reducible refine LeV.agg ?_) | (with_reducible refine LeV.tup ?_) | (with_reducible refine LeV.fn ?_ ?_) | (with_reducible exact LeV.nil _) | (with_reducible refine leRows_append (LeRows.refl _) ?_) | ((refine leV_frz rfl (by simp [e1]) (by simp [frzO, frz1, upd, noH]) ?_); (first | (simp [go_sem, e1]; done) | (simp [go_sem, e1]; exact List.take_of_length_le (by simp [e1])))) | ((refine LeV.frz rfl (by simp [e1]) (by simp [frzO, frz1, upd, noH]) ?_); (simp only [List.drop_zero, List.take_succ_cons, List.take_zero, List.map_cons, List.map_nil])) | ((refine LeV.frzP rfl (by simp [e1]) (by simp) (by simp [frzO, frz1, upd, noH]) ?_); (simp only [nth_zero, List.drop_zero])))))
          have hs0 : ∀ z : List AV, z.length = 19 → setMany z 0 eg = eg ++ z.drop 9 := fun z hz => by
            rw [setMany_eq eg z 0 (by omega), List.take_zero, List.nil_append, Nat.zero_add, hegl]
          have hsE : ∀ (t : List AV) (v : AV) (i : Nat), 9 ≤ i → (eg ++ t).set i v = eg ++ t.set (i - 9) v := fun t v i hi => by
            rw [List.set_append_right _ _ (by omega), hegl]
          (repeat (first|with_reducible refine wV fun _=>?_|simp [go_sem, rl, rb, er1l, er1b, hegl, hegb, hwi, hwn, hs0, hsE]))
          refine aIf.mkL (fun hA => ?_) (fun hA => ?_)
          · have hA3 : a.tmod 4 = 3 := by simpa using hA
            rw [if_pos hA3] at hend
            subst hend
            have hcnd : (r : Int) ≤ 64 ∧ -9223372036854775808 ≤ (2 : Int) ^ r ∧ (2 : Int) ^ r ≤ 9223372036854775807 := ⟨by omega, Int.le_trans (by decide) hpw.2, Int.le_trans hpw.1 (by decide)⟩
            have hne : ((2 : Int) ^ r = 0) = False := eq_false (by intro h; rw [h] at hpw; omega)
            (repeat (first|with_reducible refine wV fun _=>?_|simp [go_sem, rl, rb, er1l, er1b, hegl, hegr, hegb, hsE, hcnd.1, hcnd.2.1, hcnd.2.2, hne]))
            try exact LeRow.refl _ _ _ _
          · have hA3 : ¬ a.tmod 4 = 3 := by simpa using hA
            rw [if_neg hA3] at hend
            subst hend
            (repeat (first|with_reducible refine wV fun _=>?_|simp [go_sem, rl, rb, er1l, er1b, hegl, hegb, hsE]))
      · omega
      · simp [go_sem, Wk_eq, rb, er1b, hegb, hpz, s1, s2, s3, s4, s5]
      · simp
  · show 0 + R = R
    omega
  · simp [go_sem, Wk_eq, rb, er1b, hegb, orR]
  · simp
end Go.Av
end
section
/- Contracts: the helpers of skewerlaw29. -/
open Go Go.Proofs
namespace Go.Av
theorem found29_pure (g : GameD) (hg : GOk g) (s : PosD) (hs : POk g s) (p : PosD) (hp : FitsP p) (n : Int) :
  Pure Tryz.prog 28 [.agg (encGame g), .agg (encPos s), .agg (encPos p), .v (.int .i64 n)] (encFound (lastV g s p n)) := by
 refine pF Tryz.func28 ?_
 have hG := Last_pure g hg s hs p hp n
 generalize lastV g s p n = x at *
 unfold encFound
 (repeat (first|with_reducible refine wV fun _=>?_|simp [go_sem]))
 refine ACallP.plain hG (by simp [go_sem]) ?_
 (repeat (first|with_reducible refine wV fun _=>?_|simp [go_sem]))
theorem certain29_pure (g : GameD) (hg : GOk g) (s : PosD) (hs : POk g s) (p : PosD) (hp : FitsP p) (n : Int) :
  Pure Tryz.prog 31 [.agg (encGame g), .agg (encPos s), .agg (encPos p), .v (.int .i64 n)] (encCert (rightsV g s p n)) := by
 refine pF Tryz.func31 ?_
 have hG := Rights_pure g hg s hs p hp n
 generalize rightsV g s p n = x at *
 unfold encCert
 (repeat (first|with_reducible refine wV fun _=>?_|simp [go_sem]))
 refine ACallP.plain hG (by simp [go_sem]) ?_
 (repeat (first|with_reducible refine wV fun _=>?_|simp [go_sem]))
theorem small29_pure (g : GameD) (hg : GOk g) (s : PosD) (hs : POk g s) (p : PosD) : Pure Tryz.prog 33 [.agg (encCase g s p)] (.v (.bool (fullP (searchP g s 250)))) := by
 refine pF Tryz.func33 ?_
 have hG := Go27_pure g hg s hs 250
 unfold encSearch at hG
 generalize fullP (searchP g s 250) = f at *
 generalize (searchP g s 250).map (·.1) = L at *
 (repeat (first|with_reducible refine wV fun _=>?_|simp [go_sem]))
 refine ACallP.plain hG (by simp [go_sem]) ?_
 (repeat (first|with_reducible refine wV fun _=>?_|simp [go_sem]))
def at29 (a b c r side : Int) : PosD := ⟨[a, b, c], [0], [0], r, side⟩
theorem at29_pure (a b c r side : Int) : Pure Tryz.prog 84 [.v (.int .i64 a), .v (.int .i64 b), .v (.int .i64 c), .v (.int .i64 r), .v (.int .i64 side)] (.agg (encPos (at29 a b c r side))) := by
 refine pF Tryz.func84 ?_
 (repeat (first|with_reducible refine wV fun _=>?_|simp [go_sem]))
 simp only [at29, List.map_cons, List.map_nil, encI]
 (repeat' apply And.intro) <;> first | exact LeV.refl _ | exact leV_frz rfl (by simp) (by simp [noH, upd]) (by simp)
def small29 : GameD := ⟨3, [[1, 2, -1], [-1, 0, 1]], [1, 0], [⟨⟨⟨[97]⟩⟩, [[(1, 0)], [(10, 0), (1, 0)]], false⟩], 1, false, [], 3, 2⟩
theorem handOk29 : HandOk small29 [0] := ⟨rfl, fun i hi => by
 obtain rfl : i = 0 := by simpa using hi
 exact ⟨by decide, by decide, by decide⟩⟩
theorem at29_ok (a b c r side : Int) (ha : 0 ≤ a ∧ a ≤ 2) (hb : 0 ≤ b ∧ b ≤ 2) (hc : 0 ≤ c ∧ c ≤ 2) (hr : 0 ≤ r ∧ r ≤ 1) (hs : side = 0 ∨ side = 1) : POk small29 (at29 a b c r side) :=
 ⟨rfl, by
  intro x hx
  simp only [at29, List.mem_cons, List.not_mem_nil, or_false] at hx
  have : (small29.kinds.length : Int) = 1 := rfl
  rcases hx with rfl | rfl | rfl <;> omega, handOk29, handOk29, hr.1, by simp only [at29, small29]; simp; omega, hs⟩
theorem small29_ok : GOk small29 := by
 refine ⟨?_, by decide, by decide, by decide, by decide, ?_, by decide, by decide, ?_, ?_, by decide, by decide, ?_, by decide, by decide, by decide⟩
 ·refine ⟨?_, ?_, ?_, ?_, ?_, ?_, ?_⟩ <;> first | decide | skip
 ·intro d hd
  have : d = 0 ∨ d = 1 := by
   have : small29.turn.length = 2 := rfl
   omega
  rcases this with rfl | rfl <;> decide
 ·intro k hk
  simp only [small29, List.mem_singleton] at hk
  subst hk
  decide
 ·intro k hk q hq
  simp only [small29, List.mem_singleton] at hk
  subst hk
  simp only [List.mem_cons, List.not_mem_nil, or_false] at hq
  rcases hq with rfl | rfl
  ·refine ⟨by decide, by decide, fun x hx => ?_, by decide, by decide, by decide⟩
   simp only [List.mem_cons, List.not_mem_nil, or_false] at hx
   rcases hx with rfl <;> exact ⟨by decide, by decide, by decide, by decide, by decide⟩
  ·refine ⟨by decide, by decide, fun x hx => ?_, by decide, by decide, by decide⟩
   simp only [List.mem_cons, List.not_mem_nil, or_false] at hx
   rcases hx with rfl | rfl <;> exact ⟨by decide, by decide, by decide, by decide, by decide⟩
 ·intro c hc
  simp [small29] at hc
theorem mv_29 : movesP small29 (at29 1 0 2 1 0) = [at29 0 1 2 0 1, at29 0 1 2 1 1] := by
 have e : movesP small29 (at29 1 0 2 1 0) = sortU cmpP (movesL small29 (at29 1 0 2 1 0)) := by
  unfold movesP
  rw [if_neg (by decide)]
 have e2 : movesL small29 (at29 1 0 2 1 0) = [at29 0 1 2 1 1, at29 0 1 2 0 1] := by kernel_rfl
 rw [e, e2]
 exact sortU_unique cmp_pos (by decide) fun x => by simp only [List.mem_cons, List.not_mem_nil, or_false]; exact or_comm
theorem mv_29b : movesP small29 (at29 0 1 2 0 1) = [] := by kernel_rfl
theorem mv_29c : movesP small29 (at29 0 1 2 1 1) = [] := by kernel_rfl
theorem next_29 : nextP small29 [at29 1 0 2 1 0] [at29 1 0 2 1 0] = [at29 0 1 2 0 1, at29 0 1 2 1 1] := by
 unfold nextP
 rw [List.flatMap_cons, List.flatMap_nil, List.append_nil, mv_29]
 decide
theorem next_29b : nextP small29 [at29 1 0 2 1 0, at29 0 1 2 0 1, at29 0 1 2 1 1] [at29 0 1 2 0 1, at29 0 1 2 1 1] = [] := by
 unfold nextP
 rw [List.flatMap_cons, List.flatMap_cons, List.flatMap_nil, mv_29b, mv_29c]
 rfl
theorem sort_29 : sortU cmpP [at29 0 1 2 0 1, at29 0 1 2 1 1] = [at29 0 1 2 0 1, at29 0 1 2 1 1] := sortU_unique cmp_pos (by decide) fun x => Iff.rfl
theorem search_29 : searchP small29 (at29 1 0 2 1 0) 50 = [([at29 1 0 2 1 0], false), ([at29 0 1 2 0 1, at29 0 1 2 1 1], true)] := by
 have e : searchP small29 (at29 1 0 2 1 0) 50 = layersP small29 50 (50 + 1 + 1) [at29 1 0 2 1 0] [at29 1 0 2 1 0] := rfl
 rw [e, layersP, if_neg (by decide), next_29, if_neg (by simp), sort_29, List.singleton_append, layersP, if_neg (by decide), if_pos next_29b]
theorem search_29b : searchP small29 (at29 1 0 2 1 0) 2 = [([at29 1 0 2 1 0], false), ([at29 0 1 2 0 1, at29 0 1 2 1 1], false)] := by
 have e : searchP small29 (at29 1 0 2 1 0) 2 = layersP small29 2 (2 + 1 + 1) [at29 1 0 2 1 0] [at29 1 0 2 1 0] := rfl
 rw [e, layersP, if_neg (by decide), next_29, if_neg (by simp), sort_29, List.singleton_append, layersP, if_pos (by decide)]
theorem seen_29 : seenP small29 (at29 1 0 2 1 0) 50 = [at29 0 1 2 0 1, at29 0 1 2 1 1, at29 1 0 2 1 0] := by
 unfold seenP
 rw [search_29]
 refine sortU_unique cmp_pos (by decide) fun x => ?_
 simp only [allOf, List.flatMap_cons, List.flatMap_nil, List.append_nil, List.singleton_append, List.mem_cons, List.not_mem_nil, or_false]
 constructor
 ·rintro (h | h | h)
  ·exact .inr (.inr h)
  ·exact .inl h
  ·exact .inr (.inl h)
 ·rintro (h | h | h)
  ·exact .inr (.inl h)
  ·exact .inr (.inr h)
  ·exact .inl h
theorem full_29 : fullP (searchP small29 (at29 1 0 2 1 0) 50) = true := by rw [search_29]; rfl
theorem full_29b : fullP (searchP small29 (at29 1 0 2 1 0) 2) = false := by rw [search_29b]; rfl
theorem last_29a : lastV small29 (at29 1 0 2 1 0) (at29 0 1 2 1 1) 50 = ([at29 1 0 2 1 0], 0) := by
 unfold lastV
 rw [full_29, seen_29, if_neg (by decide), if_pos (by decide)]
 simp only [List.filter_cons, List.filter_nil, mv_29, mv_29b, mv_29c]
 decide
theorem last_29b : lastV small29 (at29 1 0 2 1 0) (at29 1 0 2 1 0) 50 = ([], 0) := by
 unfold lastV
 rw [full_29, seen_29, if_neg (by decide), if_pos (by decide)]
 simp only [List.filter_cons, List.filter_nil, mv_29, mv_29b, mv_29c]
 decide
theorem last_29c : lastV small29 (at29 1 0 2 1 0) (at29 1 0 2 1 0) 2 = ([], 2) := by
 unfold lastV
 rw [full_29b, if_pos rfl]
theorem right_29a : rightsV small29 (at29 1 0 2 1 0) (at29 0 1 2 0 1) 50 = ([2], 0) := by
 unfold rightsV alikeV
 rw [full_29, seen_29]
 kernel_rfl
theorem right_29b : rightsV small29 (at29 1 0 2 1 0) (at29 1 0 2 1 0) 50 = ([1], 0) := by
 unfold rightsV alikeV
 rw [full_29, seen_29]
 kernel_rfl
theorem right_29c : rightsV small29 (at29 1 0 2 1 0) (at29 1 0 2 1 1) 50 = ([], 270) := by
 unfold rightsV alikeV
 rw [full_29, seen_29]
 kernel_rfl
theorem right_29d : rightsV small29 (at29 1 0 2 1 0) (at29 1 0 2 1 0) 2 = ([], 2) := by
 unfold rightsV
 rw [full_29b, if_pos rfl]
theorem sanity29_pure : Pure Tryz.prog 25 [] (.v (.bool true)) := by
 have ka := at29_ok 1 0 2 1 0 (by omega) (by omega) (by omega) (by omega) (.inl rfl)
 have kb := at29_ok 0 1 2 1 1 (by omega) (by omega) (by omega) (by omega) (.inr rfl)
 have kc := at29_ok 0 1 2 0 1 (by omega) (by omega) (by omega) (by omega) (.inr rfl)
 have kd := at29_ok 1 0 2 1 1 (by omega) (by omega) (by omega) (by omega) (.inr rfl)
 have fa := ka.fits small29_ok
 have fb := kb.fits small29_ok
 have fc := kc.fits small29_ok
 have fd := kd.fits small29_ok
 have hA := at29_pure 1 0 2 1 0
 have hB := at29_pure 0 1 2 1 1
 have hC := at29_pure 0 1 2 0 1
 have hD := at29_pure 1 0 2 1 1
 have g1 := found29_pure small29 small29_ok _ ka _ fb 50
 have g2 := found29_pure small29 small29_ok _ ka _ fa 50
 have g3 := found29_pure small29 small29_ok _ ka _ fa 2
 have c1 := certain29_pure small29 small29_ok _ ka _ fc 50
 have c2 := certain29_pure small29 small29_ok _ ka _ fa 50
 have c3 := certain29_pure small29 small29_ok _ ka _ fd 50
 have c4 := certain29_pure small29 small29_ok _ ka _ fa 2
 rw [last_29a] at g1
 rw [last_29b] at g2
 rw [last_29c] at g3
 rw [right_29a] at c1
 rw [right_29b] at c2
 rw [right_29c] at c3
 rw [right_29d] at c4
 have q1 := Same29_pure ([at29 1 0 2 1 0], 0) ([at29 1 0 2 1 0], 0) (by simp) (by simp) (by simp [fa]) (by simp [fa])
 have q2 := Same29_pure ([], 0) ([], 0) (by simp) (by simp) (by simp) (by simp)
 have q3 := SameCertain_pure ([2], 0) ([2], 0) (by simp) (by simp)
 have q4 := SameCertain_pure ([1], 0) ([1], 0) (by simp) (by simp)
 rw [decide_eq_true rfl] at q1 q2 q3 q4
 generalize at29 1 0 2 1 0 = a at *
 generalize at29 0 1 2 1 1 = b at *
 generalize at29 0 1 2 0 1 = c at *
 generalize at29 1 0 2 1 1 = d at *
 clear ka kb kc kd fa fb fc fd
 refine pF Tryz.func25 ?_
 (repeat (first|with_reducible refine wV fun _=>?_|simp [go_sem]))
 refine ACallP.plain hA (by simp [go_sem]) ?_
 (repeat (first|with_reducible (first|refine wL fun _=>?_|refine wD fun _=>?_|refine wE ?_)|simp [go_sem, encFound, encCert]))
 refine adrZ.frz (frzO _ [0, 1, 2, 3, 5, 6, 7, 8]) (frz_frzO _ _) ?_
 (repeat (first|with_reducible refine wV fun _=>?_|simp [go_sem, encFound, encCert]))
 refine dCall.plain hB (by simp [go_sem]) ?_
 (repeat (first|with_reducible refine wV fun _=>?_|simp [go_sem, encFound, encCert]))
 refine dCall.frz [.agg (encGame small29), .agg (encPos a), .agg (encPos b), .v (.int .i64 50)] _ [0, 1, 2, 3, 5, 6, 7, 8] [] g1 (by simp) ?_ (by simp [go_sem]) ?_
 ·intro h₁ hS
  have h0 := (hS 0 (by simp)).symm
  have h1 := (hS 1 (by simp)).symm
  have h2 := (hS 2 (by simp)).symm
  have h3 := (hS 3 (by simp)).symm
  have h5 := (hS 5 (by simp)).symm
  have h6 := (hS 6 (by simp)).symm
  have h7 := (hS 7 (by simp)).symm
  have h8 := (hS 8 (by simp)).symm
  clear hS
  simp [upd, frzO, frz1] at h0 h1 h2 h3 h5 h6 h7 h8
  simp only [small29, encGame, encIss, encIs, encKind, encProg, encStep, encI, List.map_cons, List.map_nil]
  ((try simp only [encProg, encStep, encAct, encAs, encPath, encPt, encOut, encState, encPos, encOs, encSs, encPs, encIs, encGame, List.map_cons, List.map_nil, List.nil_append, List.append_nil, List.cons_append]); (repeat (first | (with_reducible exact LeRow.nil) | (with_reducible exact LeRows.nil) | (with_reducible exact LeV.refl _) | (with_reducible exact LeRow.refl _ _ _ _) | (with_reducible exact LeRows.refl _) | (with_reducible refine LeRow.cons ?_ ?_) | (with_reducible refine LeRows.cons ?_ ?_) | (with_reducible refine LeV.agg ?_) | (with_reducible refine LeV.tup ?_) | (with_reducible refine LeV.fn ?_ ?_) | (with_reducible exact LeV.nil _) | (with_reducible refine leRows_append (LeRows.refl _) ?_) | ((refine leV_frz (by first | rfl | assumption) (by simp [h0, h1, h2, h3, h5, h6, h7, h8]) (by simp [frzO, frz1, upd, noH, applyW, h0, h1, h2, h3, h5, h6, h7, h8]) ?_); (first | (simp [go_sem, h0, h1, h2, h3, h5, h6, h7, h8]; done) | (simp [go_sem, h0, h1, h2, h3, h5, h6, h7, h8]; exact List.take_of_length_le (by simp [h0, h1, h2, h3, h5, h6, h7, h8])))) | ((refine LeV.frz (by first | rfl | assumption) (by simp [h0, h1, h2, h3, h5, h6, h7, h8]) (by simp [frzO, frz1, upd, noH, applyW, h0, h1, h2, h3, h5, h6, h7, h8]) ?_); (simp only [List.drop_zero, List.take_succ_cons, List.take_zero, List.map_cons, List.map_nil])) | ((refine LeV.frzP (by first | rfl | assumption) (by simp [h0, h1, h2, h3, h5, h6, h7, h8]) (by simp) (by simp [frzO, frz1, upd, noH, applyW, h0, h1, h2, h3, h5, h6, h7, h8]) ?_); (simp only [nth_zero, List.drop_zero])))))
 (repeat (first|with_reducible refine wV fun _=>?_|simp [go_sem, encFound, encCert]))
 refine dCall.flat [encFound ([a], 0), encFound ([a], 0)] (.v (.bool true)) [16] q1 (.v _) ?_ (by simp [go_sem, encFound]) ?_
 ·intro h₁ hS
  have h16 := (hS 16 (by simp)).symm
  clear hS
  simp [upd, frzO, frz1] at h16
  simp only [encFound]
  ((try simp only [encProg, encStep, encAct, encAs, encPath, encPt, encOut, encState, encPos, encOs, encSs, encPs, encIs, encGame, List.map_cons, List.map_nil, List.nil_append, List.append_nil, List.cons_append]); (repeat (first | (with_reducible exact LeRow.nil) | (with_reducible exact LeRows.nil) | (with_reducible exact LeV.refl _) | (with_reducible exact LeRow.refl _ _ _ _) | (with_reducible exact LeRows.refl _) | (with_reducible refine LeRow.cons ?_ ?_) | (with_reducible refine LeRows.cons ?_ ?_) | (with_reducible refine LeV.agg ?_) | (with_reducible refine LeV.tup ?_) | (with_reducible refine LeV.fn ?_ ?_) | (with_reducible exact LeV.nil _) | (with_reducible refine leRows_append (LeRows.refl _) ?_) | ((refine leV_frz (by first | rfl | assumption) (by simp [h16]) (by simp [frzO, frz1, upd, noH, applyW, h16]) ?_); (first | (simp [go_sem, h16]; done) | (simp [go_sem, h16]; exact List.take_of_length_le (by simp [h16])))) | ((refine LeV.frz (by first | rfl | assumption) (by simp [h16]) (by simp [frzO, frz1, upd, noH, applyW, h16]) ?_); (simp only [List.drop_zero, List.take_succ_cons, List.take_zero, List.map_cons, List.map_nil])) | ((refine LeV.frzP (by first | rfl | assumption) (by simp [h16]) (by simp) (by simp [frzO, frz1, upd, noH, applyW, h16]) ?_); (simp only [nth_zero, List.drop_zero])))))
 (repeat (first|with_reducible refine wV fun _=>?_|simp [go_sem, encFound, encCert]))
 refine ACallP.pureF [] g2 ?_ (by simp [go_sem]) ?_
 ·simp only [small29, encGame, encIss, encIs, encKind, encProg, encStep, encI, List.map_cons, List.map_nil]
  (first|done|exact leX)
 (repeat (first|with_reducible refine wV fun _=>?_|simp [go_sem, encFound, encCert]))
 refine ACallP.pureF [] q2 ?_ (by simp [go_sem, encFound]) ?_
 ·simp only [encFound]
  (first|done|exact leX)
 (repeat (first|with_reducible refine wV fun _=>?_|simp [go_sem, encFound, encCert]))
 refine dCall.plain hC (by simp [go_sem]) ?_
 (repeat (first|with_reducible refine wV fun _=>?_|simp [go_sem, encFound, encCert]))
 refine dCall.frz [.agg (encGame small29), .agg (encPos a), .agg (encPos c), .v (.int .i64 50)] _ [0, 1, 2, 3, 5, 6, 7, 8] [] c1 (by simp) ?_ (by simp [go_sem]) ?_
 ·intro h₁ hS
  have h0 := (hS 0 (by simp)).symm
  have h1 := (hS 1 (by simp)).symm
  have h2 := (hS 2 (by simp)).symm
  have h3 := (hS 3 (by simp)).symm
  have h5 := (hS 5 (by simp)).symm
  have h6 := (hS 6 (by simp)).symm
  have h7 := (hS 7 (by simp)).symm
  have h8 := (hS 8 (by simp)).symm
  clear hS
  simp [upd, frzO, frz1] at h0 h1 h2 h3 h5 h6 h7 h8
  simp only [small29, encGame, encIss, encIs, encKind, encProg, encStep, encI, List.map_cons, List.map_nil]
  ((try simp only [encProg, encStep, encAct, encAs, encPath, encPt, encOut, encState, encPos, encOs, encSs, encPs, encIs, encGame, List.map_cons, List.map_nil, List.nil_append, List.append_nil, List.cons_append]); (repeat (first | (with_reducible exact LeRow.nil) | (with_reducible exact LeRows.nil) | (with_reducible exact LeV.refl _) | (with_reducible exact LeRow.refl _ _ _ _) | (with_reducible exact LeRows.refl _) | (with_reducible refine LeRow.cons ?_ ?_) | (with_reducible refine LeRows.cons ?_ ?_) | (with_reducible refine LeV.agg ?_) | (with_reducible refine LeV.tup ?_) | (with_reducible refine LeV.fn ?_ ?_) | (with_reducible exact LeV.nil _) | (with_reducible refine leRows_append (LeRows.refl _) ?_) | ((refine leV_frz (by first | rfl | assumption) (by simp [h0, h1, h2, h3, h5, h6, h7, h8]) (by simp [frzO, frz1, upd, noH, applyW, h0, h1, h2, h3, h5, h6, h7, h8]) ?_); (first | (simp [go_sem, h0, h1, h2, h3, h5, h6, h7, h8]; done) | (simp [go_sem, h0, h1, h2, h3, h5, h6, h7, h8]; exact List.take_of_length_le (by simp [h0, h1, h2, h3, h5, h6, h7, h8])))) | ((refine LeV.frz (by first | rfl | assumption) (by simp [h0, h1, h2, h3, h5, h6, h7, h8]) (by simp [frzO, frz1, upd, noH, applyW, h0, h1, h2, h3, h5, h6, h7, h8]) ?_); (simp only [List.drop_zero, List.take_succ_cons, List.take_zero, List.map_cons, List.map_nil])) | ((refine LeV.frzP (by first | rfl | assumption) (by simp [h0, h1, h2, h3, h5, h6, h7, h8]) (by simp) (by simp [frzO, frz1, upd, noH, applyW, h0, h1, h2, h3, h5, h6, h7, h8]) ?_); (simp only [nth_zero, List.drop_zero])))))
 (repeat (first|with_reducible refine wV fun _=>?_|simp [go_sem, encFound, encCert]))
 refine dCall.flat [encCert ([2], 0), encCert ([2], 0)] (.v (.bool true)) [24] q3 (.v _) ?_ (by simp [go_sem, encCert]) ?_
 ·intro h₁ hS
  have h24 := (hS 24 (by simp)).symm
  clear hS
  simp [upd, frzO, frz1] at h24
  simp only [encCert, encIs, encI, List.map_cons, List.map_nil]
  ((try simp only [encProg, encStep, encAct, encAs, encPath, encPt, encOut, encState, encPos, encOs, encSs, encPs, encIs, encGame, List.map_cons, List.map_nil, List.nil_append, List.append_nil, List.cons_append]); (repeat (first | (with_reducible exact LeRow.nil) | (with_reducible exact LeRows.nil) | (with_reducible exact LeV.refl _) | (with_reducible exact LeRow.refl _ _ _ _) | (with_reducible exact LeRows.refl _) | (with_reducible refine LeRow.cons ?_ ?_) | (with_reducible refine LeRows.cons ?_ ?_) | (with_reducible refine LeV.agg ?_) | (with_reducible refine LeV.tup ?_) | (with_reducible refine LeV.fn ?_ ?_) | (with_reducible exact LeV.nil _) | (with_reducible refine leRows_append (LeRows.refl _) ?_) | ((refine leV_frz (by first | rfl | assumption) (by simp [h24]) (by simp [frzO, frz1, upd, noH, applyW, h24]) ?_); (first | (simp [go_sem, h24]; done) | (simp [go_sem, h24]; exact List.take_of_length_le (by simp [h24])))) | ((refine LeV.frz (by first | rfl | assumption) (by simp [h24]) (by simp [frzO, frz1, upd, noH, applyW, h24]) ?_); (simp only [List.drop_zero, List.take_succ_cons, List.take_zero, List.map_cons, List.map_nil])) | ((refine LeV.frzP (by first | rfl | assumption) (by simp [h24]) (by simp) (by simp [frzO, frz1, upd, noH, applyW, h24]) ?_); (simp only [nth_zero, List.drop_zero])))))
 (repeat (first|with_reducible refine wV fun _=>?_|simp [go_sem, encFound, encCert]))
 refine dGC.frz [.agg (encGame small29), .agg (encPos a), .agg (encPos a), .v (.int .i64 50)] _ [0, 1, 2, 3, 5, 6, 7, 8] [] c2 (by simp) ?_ (by simp [go_sem]) ?_
 ·intro h₁ hS
  have h0 := (hS 0 (by simp)).symm
  have h1 := (hS 1 (by simp)).symm
  have h2 := (hS 2 (by simp)).symm
  have h3 := (hS 3 (by simp)).symm
  have h5 := (hS 5 (by simp)).symm
  have h6 := (hS 6 (by simp)).symm
  have h7 := (hS 7 (by simp)).symm
  have h8 := (hS 8 (by simp)).symm
  clear hS
  simp [upd, frzO, frz1] at h0 h1 h2 h3 h5 h6 h7 h8
  simp only [small29, encGame, encIss, encIs, encKind, encProg, encStep, encI, List.map_cons, List.map_nil]
  ((try simp only [encProg, encStep, encAct, encAs, encPath, encPt, encOut, encState, encPos, encOs, encSs, encPs, encIs, encGame, List.map_cons, List.map_nil, List.nil_append, List.append_nil, List.cons_append]); (repeat (first | (with_reducible exact LeRow.nil) | (with_reducible exact LeRows.nil) | (with_reducible exact LeV.refl _) | (with_reducible exact LeRow.refl _ _ _ _) | (with_reducible exact LeRows.refl _) | (with_reducible refine LeRow.cons ?_ ?_) | (with_reducible refine LeRows.cons ?_ ?_) | (with_reducible refine LeV.agg ?_) | (with_reducible refine LeV.tup ?_) | (with_reducible refine LeV.fn ?_ ?_) | (with_reducible exact LeV.nil _) | (with_reducible refine leRows_append (LeRows.refl _) ?_) | ((refine leV_frz (by first | rfl | assumption) (by simp [h0, h1, h2, h3, h5, h6, h7, h8]) (by simp [frzO, frz1, upd, noH, applyW, h0, h1, h2, h3, h5, h6, h7, h8]) ?_); (first | (simp [go_sem, h0, h1, h2, h3, h5, h6, h7, h8]; done) | (simp [go_sem, h0, h1, h2, h3, h5, h6, h7, h8]; exact List.take_of_length_le (by simp [h0, h1, h2, h3, h5, h6, h7, h8])))) | ((refine LeV.frz (by first | rfl | assumption) (by simp [h0, h1, h2, h3, h5, h6, h7, h8]) (by simp [frzO, frz1, upd, noH, applyW, h0, h1, h2, h3, h5, h6, h7, h8]) ?_); (simp only [List.drop_zero, List.take_succ_cons, List.take_zero, List.map_cons, List.map_nil])) | ((refine LeV.frzP (by first | rfl | assumption) (by simp [h0, h1, h2, h3, h5, h6, h7, h8]) (by simp) (by simp [frzO, frz1, upd, noH, applyW, h0, h1, h2, h3, h5, h6, h7, h8]) ?_); (simp only [nth_zero, List.drop_zero])))))
 (repeat (first|with_reducible refine wV fun _=>?_|simp [go_sem, encFound, encCert]))
 refine dGC.flat [encCert ([1], 0), encCert ([1], 0)] (.v (.bool true)) [32] (fun _ => q4) (.v _) ?_ (by simp [go_sem, encCert]) ?_
 ·intro h₁ hS
  have h32 := (hS 32 (by simp)).symm
  clear hS
  simp [upd, frzO, frz1] at h32
  simp only [encCert, encIs, encI, List.map_cons, List.map_nil]
  ((try simp only [encProg, encStep, encAct, encAs, encPath, encPt, encOut, encState, encPos, encOs, encSs, encPs, encIs, encGame, List.map_cons, List.map_nil, List.nil_append, List.append_nil, List.cons_append]); (repeat (first | (with_reducible exact LeRow.nil) | (with_reducible exact LeRows.nil) | (with_reducible exact LeV.refl _) | (with_reducible exact LeRow.refl _ _ _ _) | (with_reducible exact LeRows.refl _) | (with_reducible refine LeRow.cons ?_ ?_) | (with_reducible refine LeRows.cons ?_ ?_) | (with_reducible refine LeV.agg ?_) | (with_reducible refine LeV.tup ?_) | (with_reducible refine LeV.fn ?_ ?_) | (with_reducible exact LeV.nil _) | (with_reducible refine leRows_append (LeRows.refl _) ?_) | ((refine leV_frz (by first | rfl | assumption) (by simp [h32]) (by simp [frzO, frz1, upd, noH, applyW, h32]) ?_); (first | (simp [go_sem, h32]; done) | (simp [go_sem, h32]; exact List.take_of_length_le (by simp [h32])))) | ((refine LeV.frz (by first | rfl | assumption) (by simp [h32]) (by simp [frzO, frz1, upd, noH, applyW, h32]) ?_); (simp only [List.drop_zero, List.take_succ_cons, List.take_zero, List.map_cons, List.map_nil])) | ((refine LeV.frzP (by first | rfl | assumption) (by simp [h32]) (by simp) (by simp [frzO, frz1, upd, noH, applyW, h32]) ?_); (simp only [nth_zero, List.drop_zero])))))
 (repeat (first|with_reducible refine wV fun _=>?_|simp [go_sem, encFound, encCert]))
 refine dGC.plain _ (fun _ => hD) (by simp [go_sem]) ?_
 (repeat (first|with_reducible refine wV fun _=>?_|simp [go_sem, encFound, encCert]))
 refine dGC.frz [.agg (encGame small29), .agg (encPos a), .agg (encPos d), .v (.int .i64 50)] _ [0, 1, 2, 3, 5, 6, 7, 8] [] c3 (by simp) ?_ (by simp [go_sem]) ?_
 ·intro h₁ hS
  have h0 := (hS 0 (by simp)).symm
  have h1 := (hS 1 (by simp)).symm
  have h2 := (hS 2 (by simp)).symm
  have h3 := (hS 3 (by simp)).symm
  have h5 := (hS 5 (by simp)).symm
  have h6 := (hS 6 (by simp)).symm
  have h7 := (hS 7 (by simp)).symm
  have h8 := (hS 8 (by simp)).symm
  clear hS
  simp [upd, frzO, frz1] at h0 h1 h2 h3 h5 h6 h7 h8
  simp only [small29, encGame, encIss, encIs, encKind, encProg, encStep, encI, List.map_cons, List.map_nil]
  ((try simp only [encProg, encStep, encAct, encAs, encPath, encPt, encOut, encState, encPos, encOs, encSs, encPs, encIs, encGame, List.map_cons, List.map_nil, List.nil_append, List.append_nil, List.cons_append]); (repeat (first | (with_reducible exact LeRow.nil) | (with_reducible exact LeRows.nil) | (with_reducible exact LeV.refl _) | (with_reducible exact LeRow.refl _ _ _ _) | (with_reducible exact LeRows.refl _) | (with_reducible refine LeRow.cons ?_ ?_) | (with_reducible refine LeRows.cons ?_ ?_) | (with_reducible refine LeV.agg ?_) | (with_reducible refine LeV.tup ?_) | (with_reducible refine LeV.fn ?_ ?_) | (with_reducible exact LeV.nil _) | (with_reducible refine leRows_append (LeRows.refl _) ?_) | ((refine leV_frz (by first | rfl | assumption) (by simp [h0, h1, h2, h3, h5, h6, h7, h8]) (by simp [frzO, frz1, upd, noH, applyW, h0, h1, h2, h3, h5, h6, h7, h8]) ?_); (first | (simp [go_sem, h0, h1, h2, h3, h5, h6, h7, h8]; done) | (simp [go_sem, h0, h1, h2, h3, h5, h6, h7, h8]; exact List.take_of_length_le (by simp [h0, h1, h2, h3, h5, h6, h7, h8])))) | ((refine LeV.frz (by first | rfl | assumption) (by simp [h0, h1, h2, h3, h5, h6, h7, h8]) (by simp [frzO, frz1, upd, noH, applyW, h0, h1, h2, h3, h5, h6, h7, h8]) ?_); (simp only [List.drop_zero, List.take_succ_cons, List.take_zero, List.map_cons, List.map_nil])) | ((refine LeV.frzP (by first | rfl | assumption) (by simp [h0, h1, h2, h3, h5, h6, h7, h8]) (by simp) (by simp [frzO, frz1, upd, noH, applyW, h0, h1, h2, h3, h5, h6, h7, h8]) ?_); (simp only [nth_zero, List.drop_zero])))))
 (repeat (first|with_reducible refine wV fun _=>?_|simp [go_sem, encFound, encCert]))
 refine dGC.frz [.agg (encGame small29), .agg (encPos a), .agg (encPos a), .v (.int .i64 2)] _ [0, 1, 2, 3, 5, 6, 7, 8] [] g3 (by simp) ?_ (by simp [go_sem]) ?_
 ·intro h₁ hS
  have h0 := (hS 0 (by simp)).symm
  have h1 := (hS 1 (by simp)).symm
  have h2 := (hS 2 (by simp)).symm
  have h3 := (hS 3 (by simp)).symm
  have h5 := (hS 5 (by simp)).symm
  have h6 := (hS 6 (by simp)).symm
  have h7 := (hS 7 (by simp)).symm
  have h8 := (hS 8 (by simp)).symm
  clear hS
  simp [upd, frzO, frz1] at h0 h1 h2 h3 h5 h6 h7 h8
  simp only [small29, encGame, encIss, encIs, encKind, encProg, encStep, encI, List.map_cons, List.map_nil]
  ((try simp only [encProg, encStep, encAct, encAs, encPath, encPt, encOut, encState, encPos, encOs, encSs, encPs, encIs, encGame, List.map_cons, List.map_nil, List.nil_append, List.append_nil, List.cons_append]); (repeat (first | (with_reducible exact LeRow.nil) | (with_reducible exact LeRows.nil) | (with_reducible exact LeV.refl _) | (with_reducible exact LeRow.refl _ _ _ _) | (with_reducible exact LeRows.refl _) | (with_reducible refine LeRow.cons ?_ ?_) | (with_reducible refine LeRows.cons ?_ ?_) | (with_reducible refine LeV.agg ?_) | (with_reducible refine LeV.tup ?_) | (with_reducible refine LeV.fn ?_ ?_) | (with_reducible exact LeV.nil _) | (with_reducible refine leRows_append (LeRows.refl _) ?_) | ((refine leV_frz (by first | rfl | assumption) (by simp [h0, h1, h2, h3, h5, h6, h7, h8]) (by simp [frzO, frz1, upd, noH, applyW, h0, h1, h2, h3, h5, h6, h7, h8]) ?_); (first | (simp [go_sem, h0, h1, h2, h3, h5, h6, h7, h8]; done) | (simp [go_sem, h0, h1, h2, h3, h5, h6, h7, h8]; exact List.take_of_length_le (by simp [h0, h1, h2, h3, h5, h6, h7, h8])))) | ((refine LeV.frz (by first | rfl | assumption) (by simp [h0, h1, h2, h3, h5, h6, h7, h8]) (by simp [frzO, frz1, upd, noH, applyW, h0, h1, h2, h3, h5, h6, h7, h8]) ?_); (simp only [List.drop_zero, List.take_succ_cons, List.take_zero, List.map_cons, List.map_nil])) | ((refine LeV.frzP (by first | rfl | assumption) (by simp [h0, h1, h2, h3, h5, h6, h7, h8]) (by simp) (by simp [frzO, frz1, upd, noH, applyW, h0, h1, h2, h3, h5, h6, h7, h8]) ?_); (simp only [nth_zero, List.drop_zero])))))
 (repeat (first|with_reducible refine wV fun _=>?_|simp [go_sem, encFound, encCert]))
 refine dGC.frz [.agg (encGame small29), .agg (encPos a), .agg (encPos a), .v (.int .i64 2)] _ [0, 1, 2, 3, 5, 6, 7, 8] [] c4 (by simp) ?_ (by simp [go_sem]) ?_
 ·intro h₁ hS
  have h0 := (hS 0 (by simp)).symm
  have h1 := (hS 1 (by simp)).symm
  have h2 := (hS 2 (by simp)).symm
  have h3 := (hS 3 (by simp)).symm
  have h5 := (hS 5 (by simp)).symm
  have h6 := (hS 6 (by simp)).symm
  have h7 := (hS 7 (by simp)).symm
  have h8 := (hS 8 (by simp)).symm
  clear hS
  simp [upd, frzO, frz1] at h0 h1 h2 h3 h5 h6 h7 h8
  simp only [small29, encGame, encIss, encIs, encKind, encProg, encStep, encI, List.map_cons, List.map_nil]
  ((try simp only [encProg, encStep, encAct, encAs, encPath, encPt, encOut, encState, encPos, encOs, encSs, encPs, encIs, encGame, List.map_cons, List.map_nil, List.nil_append, List.append_nil, List.cons_append]); (repeat (first | (with_reducible exact LeRow.nil) | (with_reducible exact LeRows.nil) | (with_reducible exact LeV.refl _) | (with_reducible exact LeRow.refl _ _ _ _) | (with_reducible exact LeRows.refl _) | (with_reducible refine LeRow.cons ?_ ?_) | (with_reducible refine LeRows.cons ?_ ?_) | (with_reducible refine LeV.agg ?_) | (with_reducible refine LeV.tup ?_) | (with_reducible refine LeV.fn ?_ ?_) | (with_reducible exact LeV.nil _) | (with_reducible refine leRows_append (LeRows.refl _) ?_) | ((refine leV_frz (by first | rfl | assumption) (by simp [h0, h1, h2, h3, h5, h6, h7, h8]) (by simp [frzO, frz1, upd, noH, applyW, h0, h1, h2, h3, h5, h6, h7, h8]) ?_); (first | (simp [go_sem, h0, h1, h2, h3, h5, h6, h7, h8]; done) | (simp [go_sem, h0, h1, h2, h3, h5, h6, h7, h8]; exact List.take_of_length_le (by simp [h0, h1, h2, h3, h5, h6, h7, h8])))) | ((refine LeV.frz (by first | rfl | assumption) (by simp [h0, h1, h2, h3, h5, h6, h7, h8]) (by simp [frzO, frz1, upd, noH, applyW, h0, h1, h2, h3, h5, h6, h7, h8]) ?_); (simp only [List.drop_zero, List.take_succ_cons, List.take_zero, List.map_cons, List.map_nil])) | ((refine LeV.frzP (by first | rfl | assumption) (by simp [h0, h1, h2, h3, h5, h6, h7, h8]) (by simp) (by simp [frzO, frz1, upd, noH, applyW, h0, h1, h2, h3, h5, h6, h7, h8]) ?_); (simp only [nth_zero, List.drop_zero])))))
 (repeat (first|with_reducible refine wV fun _=>?_|simp [go_sem, encFound, encCert]))
end Go.Av
end
section
/- Contracts: skewerref29.Last, Rights. -/
open Go Go.Proofs
namespace Go.Av
end Go.Av
end
section
/- The law LastMatchesReference: its call gives true. -/
open Go Go.Proofs
namespace Go.Av
theorem lastV_few {g : GameD} (hg : GOk g) {s : PosD} (hs : POk g s) (p : PosD) (n : Int) : (lastV g s p n).1.length ≤ 17179869184 ∧ ∀ q ∈ (lastV g s p n).1, POk g q := by
 have h1 := lastV_len g s p n
 have h2 := seenP_len0 hg hs n
 exact ⟨by omega, fun q hq => seenP_okk hg hs n q (lastV_mem hq).1⟩
end Go.Av
end
section
/- The law LastGames: its call gives true. -/
open Go Go.Proofs
namespace Go.Av
theorem LastGames_pure (x : Raw6) (hx : Raw6Ok x) (a b : Int) (ha : U8 a) (hb : U8 b) :
  Pure Tryz.prog 10 [.agg (encRaw6 x), .agg [.v (.int .u8 a), .v (.int .u8 b)]] (.v (.bool true)) := by
 refine pF Tryz.func10 ?_
 have hM := Made29_pure x hx a b ha hb
 have hg := game6_ok hx
 have hs := start29_ok hx
 have hp := pos29_ok hx a hb.1
 obtain ⟨er, her⟩ : ∃ er, er = encRaw6 x := ⟨_, rfl⟩
 have herl : er.length = 31 := by rw [her]; exact raw6_len hx
 have herb : ∀ n, (∀ c ∈ er, Bel n c) = True := fun n => by rw [her]; exact raw6_bel hx n
 rw [← her] at hM ⊢
 generalize game6 x = g at *
 generalize start29 x = s at *
 generalize pos29 x a b = p at *
 have hS := sanity29_pure
 have hfp := hp.fits hg
 have hSm := small29_pure g hg s hs p
 have F2 := found29_pure g hg s hs p hfp 250
 have G2 := Game_pure g hg s hs p hfp 250
 have H2 := Game27_pure g hg s hs p hfp 250
 obtain ⟨l2, m2⟩ := lastV_few hg hs p 250
 have hlg := fun h => last_game (g := g) (s := s) (p := p) (n := 250) h
 have hlb := fun h => last_before (g := g) (s := s) (p := p) (n := 250) h
 have hgo := (gameP_ok hg hs p 250).2
 have hgl : (gameP g s p 250).1.length ≤ 17179869184 := by have := (gameP_ok hg hs p 250).1; omega
 have hSL := SameLists_pure (gameP g s p 250).1 (gameP g s p 250).1 hgl hgl (fun q hq => (hgo q hq).fits hg) (fun q hq => (hgo q hq).fits hg)
 rw [decide_eq_true rfl] at hSL
 have hHa := fun q (hq : POk g q) => Has29_pure (lastV g s p 250).1 q l2 (fun z hz => (m2 z hz).fits hg) (hq.fits hg)
 generalize lastV g s p 250 = V at *
 generalize gameP g s p 250 = W at *
 generalize fullP (searchP g s 250) = fu at *
 obtain ⟨L, E⟩ := V
 obtain ⟨M, e⟩ := W
 simp only at l2 m2 hlg hlb hgo hgl hHa hSL
 simp only [encFound] at F2
 (repeat (first|with_reducible refine wV fun _=>?_|simp [go_sem, herl]))
 refine ACallP.plain hS (by simp [go_sem]) ?_
 (repeat (first|with_reducible refine wV fun _=>?_|simp [go_sem, herl]))
 refine ACallP.plain hM (by simp [go_sem, herb]) ?_
 (repeat (first|with_reducible refine wV fun _=>?_|simp [go_sem, herl]))
 (first | refine ACallP.plain (hSm) (by simp [go_sem]) ?_ | refine aGC.plain _ (fun _ => hSm) (by simp [go_sem]) ?_ | ((try ((with_reducible refine wZ ?_); (try simp [go_sem]))); first | refine dCall.plain (hSm) (by simp [go_sem]) ?_ | refine dGC.plain _ (fun _ => hSm) (by simp [go_sem]) ?_))
 cases fu
 ·(repeat (first|with_reducible refine wV fun _=>?_|simp [go_sem]))
 ·obtain rfl := hlg rfl
  have hlb := hlb rfl
  (repeat (first|with_reducible refine wV fun _=>?_|simp [go_sem]))
  (first | refine ACallP.plain (F2) (by simp [go_sem]) ?_ | refine aGC.plain _ (fun _ => F2) (by simp [go_sem]) ?_ | ((try ((with_reducible refine wZ ?_); (try simp [go_sem]))); first | refine dCall.plain (F2) (by simp [go_sem]) ?_ | refine dGC.plain _ (fun _ => F2) (by simp [go_sem]) ?_))
  (repeat (first|with_reducible refine wV fun _=>?_|simp [go_sem]))
  (first | refine ACallP.plain (G2) (by simp [go_sem]) ?_ | refine aGC.plain _ (fun _ => G2) (by simp [go_sem]) ?_ | ((try ((with_reducible refine wZ ?_); (try simp [go_sem]))); first | refine dCall.plain (G2) (by simp [go_sem]) ?_ | refine dGC.plain _ (fun _ => G2) (by simp [go_sem]) ?_))
  (repeat (first|with_reducible refine wV fun _=>?_|simp [go_sem]))
  (first | refine ACallP.plain (H2) (by simp [go_sem]) ?_ | refine aGC.plain _ (fun _ => H2) (by simp [go_sem]) ?_ | ((try ((with_reducible refine wZ ?_); (try simp [go_sem]))); first | refine dCall.plain (H2) (by simp [go_sem]) ?_ | refine dGC.plain _ (fun _ => H2) (by simp [go_sem]) ?_))
  (repeat (first|with_reducible refine wV fun _=>?_|simp [go_sem]))
  (first | refine ACallP.plain (hSL) (by simp [go_sem]) ?_ | refine aGC.plain _ (fun _ => hSL) (by simp [go_sem]) ?_ | ((try ((with_reducible refine wZ ?_); (try simp [go_sem]))); first | refine dCall.plain (hSL) (by simp [go_sem]) ?_ | refine dGC.plain _ (fun _ => hSL) (by simp [go_sem]) ?_))
  by_cases h0 : E = 0
  ·subst h0
   have hlb := hlb rfl
   by_cases h2 : 2 ≤ M.length
   ·have hlt : ((M.length : Int) < 2) = False := eq_false (by omega)
    have hin := hlb h2
    have hmn : M.length - 2 < M.length := by omega
    have hHp := hHa _ (hgo _ (nth_mem hmn))
    rw [decide_eq_true hin] at hHp
    have hti : ((M.length : Int) - 2).toNat = M.length - 2 := by omega
    (repeat (first|with_reducible refine wV fun _=>?_|simp [go_sem, hlt, hti, hmn]))
    (first | refine ACallP.plain (hHp) (by simp [go_sem]) ?_ | refine aGC.plain _ (fun _ => hHp) (by simp [go_sem]) ?_ | ((try ((with_reducible refine wZ ?_); (try simp [go_sem]))); first | refine dCall.plain (hHp) (by simp [go_sem]) ?_ | refine dGC.plain _ (fun _ => hHp) (by simp [go_sem]) ?_))
    (repeat (first|with_reducible refine wV fun _=>?_|simp [go_sem, hlt, hti, hmn]))
   ·have hlt : ((M.length : Int) < 2) = True := eq_true (by omega)
    (repeat (first|with_reducible refine wV fun _=>?_|simp [go_sem, hlt]))
  ·have h0f : (E = 0) = False := eq_false h0
   (repeat (first|with_reducible refine wV fun _=>?_|simp [go_sem, h0f]))
end Go.Av
end
