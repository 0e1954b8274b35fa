/- Texts of ours, part 11: our library and contracts of functions. -/
import Derived.Test.YtkahkcakggflaaaGreatDoorB10
import Derived.Shelf.SlSortCmp.NoneTotal
import Derived.Test.YtkahkcakggflaaaGreatDoorProg
set_option linter.unusedSimpArgs false
set_option linter.unusedVariables false
set_option maxRecDepth 100000
set_option maxHeartbeats 40000000
section
/- Contracts, layer 22: splitting a position into parts. -/
open Go Go.Proofs
namespace Go.Av
theorem ofG_ok {g : GameD} (hg : GOk g) : OfOk (ofG g) := by
 have := hg.c9
 exact ofOk_namesL (by omega) (sideR_codeP hg 0) (sideR_codeP hg 1)
theorem ofG_cells {g : GameD} (hg : GOk g) : ((ofG g).length : Int) = g.cells := by
 have := hg.c1
 rw [ofG_len]; omega
def nmG (g : GameD) : List Int := namesU (ofG g) (ofG g).length
theorem nmG_len {g : GameD} (hg : GOk g) : 1 ≤ (nmG g).length ∧ (nmG g).length ≤ 9 := by
 have h1 := hg.c1
 have h9 := hg.c9
 have hl := ofG_cells hg
 have := (ofG_ok hg).pos (by omega)
 have := namesU_len (ofG g) (ofG g).length
 unfold nmG
 omega
def partsI (of names : List Int) (p : PosD) (i : Nat) : List PosD := (names.take i).map (partP of p)
theorem partsI_succ {of names : List Int} {p : PosD} {i : Nat} (h : i < names.length) : partsI of names p (i + 1) = partsI of names p i ++ [partP of p (nth names i)] := by
 unfold partsI; rw [take_succG h]; simp
theorem partsI_len {of names : List Int} {p : PosD} {i : Nat} (h : i ≤ names.length) : (partsI of names p i).length = i := by simp [partsI]; omega
theorem rSplit_pure (g : GameD) (hg : GOk g) (hn : NamesOk g) (p : PosD) (hp : POk g p) : Pure Tryz.prog 22 [.agg (encGame g), .agg (encPos p)]
  (.tup [encPs (if normalB g then partsP (ofG g) p else []), .v (.int .i64 (if normalB g then 0 else 220))]) := by
 refine pF Tryz.func22 ?_
 have hN := rNormal_pure g hg hn
 have hO := rOf_pure g hg
 have hl := ofG_cells hg
 have h9 := hg.c9
 have hal := hp.al
 have hofl : (ofG g).length ≤ 1048576 := by omega
 have hM := rNames_pure (ofG g) hofl
 have hP := fun name => rPart_pure (ofG g) p name (by omega) (by omega)
 have hnl := nmG_len hg
 have hres : partsP (ofG g) p = partsI (ofG g) (nmG g) p (nmG g).length := by unfold partsI; rw [List.take_length]; rfl
 rw [hres]
 change Pure _ _ _ (encIs (ofG g)) at hO
 change Pure _ _ _ (encIs (nmG g)) at hM
 have hgb : ∀ n, (∀ c ∈ encGame g, Bel n c) = True := fun n => by simp [go_sem]
 generalize ofG g = of at *
 generalize nmG g = nm at *
 obtain ⟨eg, heg⟩ : ∃ eg, eg = encGame g := ⟨_, rfl⟩
 have hel : eg.length = 9 := by rw [heg]; rfl
 rw [← heg] at hN hO hgb ⊢
 clear heg hres
 cases hnb : normalB g
 ·rw [hnb] at hN
  (repeat (first|with_reducible refine wV fun _=>?_|simp [go_sem, hel]))
  refine ACallP.plain hN (by simp [go_sem, hgb]) ?_
  (repeat (first|with_reducible refine wV fun _=>?_|simp [go_sem, hel]))
  (first|done|exact leX)
 ·rw [hnb] at hN
  (repeat (first|with_reducible refine wV fun _=>?_|simp [go_sem, hel]))
  refine ACallP.plain hN (by simp [go_sem, hgb]) ?_
  (repeat (first|with_reducible refine wV fun _=>?_|simp [go_sem, hel]))
  refine ACallP.plain hO (by simp [go_sem, hgb]) ?_
  (repeat (first|with_reducible refine wV fun _=>?_|simp [go_sem, hel]))
  refine ACallP.plain hM (by simp [go_sem]) ?_
  (repeat (first|with_reducible refine wV fun _=>?_|simp [go_sem, hel]))
  refine ALoop.start (ALoop.ind (α := Nat) (fun i => ⟨[(3, .ref 1 0 5 0 0), (6, encIs of), (7, .sl 2 i 5 0 i), (16, encIs nm), (17, .int nm.length), (18, .v (.int .i64 i))], [(1, .rows true 0 5 [encPos p]), (2, .rows true i 5 ((partsI of nm p i).map encPos))], 3⟩)
   (fun d i => i + d = nm.length) ?_ nm.length 0 ?_) ?_ ?_
  ·rintro d i i1 hrec
   have lp : (partsI of nm p i).length = i := partsI_len (by omega)
   (repeat (first|with_reducible refine wV fun _=>?_|simp [go_sem]))
   refine aIf.mkL (fun hi => ?_) (fun hi => ?_) <;> simp at hi
   ·have hs := partsI_succ (of := of) (p := p) hi
    (repeat (first|with_reducible refine wV fun _=>?_|simp [go_sem, hi]))
    refine ACallP.plain (hP _) (by simp [go_sem]) ?_
    (repeat (first|with_reducible refine wV fun _=>?_|simp [go_sem, lp]))
    refine ALoop.start (hrec (d - 1) (by omega) (i + 1) (by omega)) ?_ (by simp)
    simp [go_sem, Wk_eq, hs]
   ·have hil : i = nm.length := by omega
    subst hil
    (repeat (first|with_reducible refine wV fun _=>?_|simp [go_sem]))
    ((try simp only [encProg, encStep, encAct, encAs, encPath, encPt, encOut, encState, encPos, encOs, encSs, encPs, encIs, encGame, List.map_cons, List.map_nil, List.nil_append, List.append_nil, List.cons_append]); (repeat (first | (with_reducible exact LeRow.nil) | (with_reducible exact LeRows.nil) | (with_reducible exact LeV.refl _) | (with_reducible exact LeRow.refl _ _ _ _) | (with_reducible exact LeRows.refl _) | (with_reducible refine LeRow.cons ?_ ?_) | (with_reducible refine LeRows.cons ?_ ?_) | (with_reducible refine LeV.agg ?_) | (with_reducible refine LeV.tup ?_) | (with_reducible refine LeV.fn ?_ ?_) | (with_reducible exact LeV.nil _) | (with_reducible refine leRows_append (LeRows.refl _) ?_) | ((refine leV_frz rfl (by simp [lp]) (by simp [frzO, frz1, upd, noH]) ?_); (first | (simp [go_sem, lp]; done) | (simp [go_sem, lp]; exact List.take_of_length_le (by simp [lp])))) | ((refine LeV.frz rfl (by simp [lp]) (by simp [frzO, frz1, upd, noH]) ?_); (simp only [List.drop_zero, List.take_succ_cons, List.take_zero, List.map_cons, List.map_nil])) | ((refine LeV.frzP rfl (by simp [lp]) (by simp) (by simp [frzO, frz1, upd, noH]) ?_); (simp only [nth_zero, List.drop_zero])))))
  ·simp
  ·simp [go_sem, Wk_eq, partsI]
  ·simp
end Go.Av
end
section
/- Contracts, layer 22: what is joined of parts. -/
open Go Go.Proofs
namespace Go.Av
def zeroP : PosD := ⟨[], [], [], 0, 0⟩
def joinOk (g : GameD) (l : List PosD) : Bool := normalB g && (decide (l.length = (nmG g).length) && okJ (ofG g) l l.length)
def joinRes (g : GameD) (l : List PosD) : PosD := if joinOk g l then joinP l (ofG g).length else zeroP
theorem sumA_bound {g : GameD} (hg : GOk g) {l : List PosD} (hl : ∀ p ∈ l, POk g p) {c : Nat} (hc : (c : Int) < g.cells) : ∀ k, k ≤ l.length → 0 ≤ sumA l k c ∧ sumA l k c ≤ 12 * k
  | 0, _ => by simp [sumA]
  | k + 1, hk => by
    have ih := sumA_bound hg hl hc k (by omega)
    have hp := hl _ (nth_mem (show k < l.length by omega))
    have hal := hp.al
    have := hp.av _ (nth_mem (show c < (nth l k).at_.length by omega))
    have k6 := hg.k6
    rw [sumA]
    omega
def sumQ (l : List PosD) (n i c : Nat) : List Int := (List.range n).map fun x => if x < c then sumA l (i + 1) x else sumA l i x
theorem sumQ_len (l : List PosD) (n i c : Nat) : (sumQ l n i c).length = n := by simp [sumQ]
theorem nth_sumQ (l : List PosD) {n : Nat} (i : Nat) {c : Nat} (hc : c < n) : nth (sumQ l n i c) c = sumA l i c := by
  unfold sumQ; rw [nth_rangeMap _ hc, if_neg (by omega)]
theorem sumQ_succ (l : List PosD) {n : Nat} (i : Nat) {c : Nat} (hc : c < n) : sumQ l n i (c + 1) = (sumQ l n i c).set c (sumA l i c + nth (nth l i).at_ c) := by
  refine list_ext_nth (by simp [sumQ]) fun x hx => ?_
  have hx' : x < n := by simpa [sumQ] using hx
  rw [nth_setE, sumQ_len]
  unfold sumQ
  rw [nth_rangeMap _ hx', nth_rangeMap _ hx']
  by_cases h : c = x
  · subst h
    rw [if_pos (show c < c + 1 by omega), if_pos (show c = c ∧ c < n from ⟨rfl, hc⟩)]; rfl
  · rw [if_neg (show ¬ (c = x ∧ x < n) from fun h' => h h'.1)]
    by_cases h2 : x < c
    · rw [if_pos (show x < c + 1 by omega), if_pos h2]
    · rw [if_neg (show ¬ x < c + 1 by omega), if_neg h2]
theorem sumQ_end (l : List PosD) (n i : Nat) : sumQ l n i n = sumQ l n (i + 1) 0 := by
  refine List.map_congr_left fun x hx => ?_
  have := List.mem_range.1 hx
  rw [if_pos this, if_neg (by omega)]
theorem sumQ_all (l : List PosD) (n : Nat) : sumQ l n l.length 0 = joinAt l n := by
  refine List.map_congr_left fun x hx => ?_
  rw [if_neg (by omega)]
theorem sumQ_zero (l : List PosD) (n : Nat) : sumQ l n 0 0 = List.replicate n 0 := by
  refine list_ext_nth (by simp [sumQ]) fun x hx => ?_
  have hx' : x < n := by simpa [sumQ] using hx
  unfold sumQ
  rw [nth_rangeMap _ hx', if_neg (by omega), nth_eq _ _ (by simpa using hx'), List.getElem_replicate]
  rfl
theorem okJ_false {of : List Int} {l : List PosD} {i : Nat} (hi : i < l.length) (h : (decide ((nth l i).side = (nth l 0).side) && decide (cmpP (nth l i) (partP of (nth l i) (nth (namesU of of.length) i)) = 0)) = false) : okJ of l l.length = false := by
  unfold okJ
  rw [List.all_eq_false]
  exact ⟨i, List.mem_range.2 hi, by simp [h]⟩
theorem rJoin_pure (g : GameD) (hg : GOk g) (hn : NamesOk g) (l : List PosD) (hl : ∀ p ∈ l, POk g p) (hll : l.length ≤ 1048576) : Pure Tryz.prog 25 [.agg (encGame g), encPs l]
    (.tup [.agg (encPos (joinRes g l)), .v (.int .i64 (if joinOk g l then 0 else 220))]) := by
  refine pF Tryz.func25 ?_
  have hN := rNormal_pure g hg hn
  have hO := rOf_pure g hg
  have hcl := ofG_cells hg
  have h9 := hg.c9
  have hofl : (ofG g).length ≤ 1048576 := by omega
  have hM := rNames_pure (ofG g) hofl
  have hP := fun (p : PosD) (hp : POk g p) name => rPart_pure (ofG g) p name (by have := hp.al; omega) (by have := hp.al; omega)
  have hV := fun (p : PosD) (hp : POk g p) => Valid_pure g (by have := hg.k6; unfold FitsG; omega) ⟨hg.r0, by have := hg.r4; omega⟩ p (hp.fits hg)
  have hC := fun (p q : PosD) (hp : POk g p) (hq : POk g q) => pCompare_pure p q (hp.fits hg) (hq.fits hg)
  have hnl := nmG_len hg
  change Pure _ _ _ (encIs (ofG g)) at hO
  change Pure _ _ _ (encIs (nmG g)) at hM
  have hgb : ∀ n, (∀ c ∈ encGame g, Bel n c) = True := fun n => by simp [go_sem]
  have hg0 : cel (encGame g) 0 = .v (.int .i64 g.cells) := rfl
  have hjo : joinOk g l = (normalB g && (decide (l.length = (nmG g).length) && okJ (ofG g) l l.length)) := rfl
  have hjr : joinRes g l = if joinOk g l then joinP l (ofG g).length else zeroP := rfl
  have hsb := fun (c : Nat) (hc : (c : Int) < g.cells) k hk => sumA_bound hg hl hc k hk
  have hnm : nmG g = namesU (ofG g) (ofG g).length := rfl
  have hokf := fun i hi h => okJ_false (of := ofG g) (l := l) (i := i) hi h
  have hoks := fun i => okJ_succ (ofG g) l i
  have hpo := fun (p : PosD) (hp : POk g p) name => partP_ok hp (ofG g) name
  have hal := fun p hp => (hl p hp).al
  rw [← hnm] at hokf hoks
  obtain ⟨n, hnn⟩ : ∃ n, n = (ofG g).length := ⟨_, rfl⟩
  rw [← hnn] at hcl hofl hjr
  have hofn := hnn.symm
  generalize ofG g = of at *
  generalize nmG g = nm at *
  obtain ⟨eg, heg⟩ : ∃ eg, eg = encGame g := ⟨_, rfl⟩
  have hel : eg.length = 9 := by rw [heg]; rfl
  have hpok : ∀ p : PosD, POk g p → posOk g p = true := fun p hp => pOk_iff.2 hp
  rw [← hcl] at hg0
  simp only [← hcl] at hal hsb
  rw [← heg] at hN hO hgb hV hg0 ⊢
  clear heg
  cases hnb : normalB g
  · rw [hnb] at hN hjo
    rw [hjr, hjo]
    (repeat (first|with_reducible refine wV fun _=>?_|simp [go_sem, hel, zeroP]))
    refine ACallP.plain hN (by simp [go_sem, hgb]) ?_
    (repeat (first|with_reducible refine wV fun _=>?_|simp [go_sem, hel]))
  · rw [hnb] at hN hjo
    (repeat (first|with_reducible refine wV fun _=>?_|simp [go_sem, hel]))
    refine ACallP.plain hN (by simp [go_sem, hgb]) ?_
    (repeat (first|with_reducible refine wV fun _=>?_|simp [go_sem, hel]))
    refine ACallP.plain hO (by simp [go_sem, hgb]) ?_
    (repeat (first|with_reducible refine wV fun _=>?_|simp [go_sem, hel]))
    refine ACallP.plain hM (by simp [go_sem]) ?_
    (repeat (first|with_reducible refine wV fun _=>?_|simp [go_sem, hel]))
    refine aIf.mkL (fun hlen => ?_) (fun hlen => ?_) <;> simp at hlen
    · have hlen' : ¬ l.length = nm.length := by omega
      have hf : joinOk g l = false := by rw [hjo]; simp [hlen']
      rw [hjr, hf]
      (repeat (first|with_reducible refine wV fun _=>?_|simp [go_sem, hel, zeroP]))
    · have hlen' : l.length = nm.length := by omega
      have hl0 : 0 < l.length := by omega
      (repeat (first|with_reducible refine wV fun _=>?_|simp [go_sem, hel, hl0, hg0]))
      refine ALoop.start (ALoop.ind (α := Nat) (fun i => ⟨[(2, .ref 0 0 9 0 0), (4, .ref 1 0 5 0 0), (6, encIs of), (7, encIs nm), (8, .ref 2 0 5 0 0), (35, encPs l), (36, .int l.length), (37, .v (.int .i64 i))],
          [(0, .rows true 0 9 [eg]), (1, .rows true 0 5 [[.v (.slice none 0 0), .v (.slice none 0 0), .v (.slice none 0 0), .v (.int .i64 0), .v (.int .i64 0)]]),
           (2, .rows true 0 5 [[.sl 3 0 1 0 n, encIs (nth l 0).h0, encIs (nth l 0).h1, .v (.int .i64 (nth l 0).rights), .v (.int .i64 (nth l 0).side)]]), (3, .rows true 0 1 ((sumQ l n i 0).map encI))], 4⟩)
        (fun d i => i + d = l.length ∧ okJ of l i = true) ?_ l.length 0 ?_) ?_ ?_
      · rintro d i ⟨i1, i2⟩ hrec
        have lq : (sumQ l n i 0).length = n := sumQ_len _ _ _ _
        (repeat (first|with_reducible refine wV fun _=>?_|simp [go_sem]))
        refine aIf.mkL (fun hi => ?_) (fun hi => ?_) <;> simp at hi
        · have hm := nth_mem hi
          have hpi := hl _ hm
          have hin : i < nm.length := by omega
          have hVi := hV _ hpi
          rw [hpok _ hpi] at hVi
          have hCi := hC _ _ hpi (hpo _ hpi (nth nm i))
          have hPi := hP _ hpi (nth nm i)
          have hali := hal _ hm
          have hki := hoks i
          rw [i2] at hki
          have hfi := hokf i hi
          (repeat (first|with_reducible refine wV fun _=>?_|simp [go_sem, hi, hel]))
          refine dCall.plain hVi (by simp [go_sem, hgb]) ?_
          (repeat (first|with_reducible refine wV fun _=>?_|simp [go_sem, hi, hin, hel]))
          refine dGC.plain _ (fun _ => hPi) (by simp [go_sem]) ?_
          (repeat (first|with_reducible refine wV fun _=>?_|simp [go_sem, hi, hin, hel]))
          refine dGC.plain _ (fun _ => hCi) (by simp [go_sem]) ?_
          (repeat (first|with_reducible refine wV fun _=>?_|simp [go_sem, hi, hin, hel]))
          refine aIf.mkL (fun hc => ?_) (fun hc => ?_)
          · have hf : joinOk g l = false := by
              rw [hjo, hfi (by rw [Bool.and_eq_false_iff]; simp at hc; rcases hc with h | h <;> simp [h])]; simp
            rw [hjr, hf]
            (repeat (first|with_reducible refine wV fun _=>?_|simp [go_sem, zeroP]))
          · have hki' : okJ of l (i + 1) = true := by rw [hki]; simp at hc; simp [hc.1, hc.2]
            (repeat (first|with_reducible refine wV fun _=>?_|simp [go_sem, hel]))
            refine ALoop.start (ALoop.ind (α := Nat) (fun c => ⟨[(2, .ref 0 0 9 0 0), (4, .ref 1 0 5 0 0), (6, encIs of), (7, encIs nm), (8, .ref 2 0 5 0 0), (35, encPs l), (36, .int l.length), (37, .v (.int .i64 i)), (67, encIs (nth l i).at_), (68, .int (nth l i).at_.length), (69, .v (.int .i64 c))],
                [(0, .rows true 0 9 [eg]), (1, .rows true 0 5 [[.v (.slice none 0 0), .v (.slice none 0 0), .v (.slice none 0 0), .v (.int .i64 0), .v (.int .i64 0)]]),
                 (2, .rows true 0 5 [[.sl 3 0 1 0 n, encIs (nth l 0).h0, encIs (nth l 0).h1, .v (.int .i64 (nth l 0).rights), .v (.int .i64 (nth l 0).side)]]), (3, .rows true 0 1 ((sumQ l n i c).map encI))], 4⟩)
              (fun s c => c + s = n) ?_ n 0 ?_) ?_ ?_
            · rintro s c j1 hrec2
              have lq : (sumQ l n i c).length = n := sumQ_len _ _ _ _
              (repeat (first|with_reducible refine wV fun _=>?_|simp [go_sem]))
              refine aIf.mkL (fun hcc => ?_) (fun hcc => ?_) <;> simp at hcc
              · have hcn : c < n := by omega
                have hb := hsb c (by omega) i (by omega)
                have hb2 := hsb c (by omega) (i + 1) (by omega)
                rw [sumA] at hb2
                have hnq := nth_sumQ l i hcn
                have hsq := sumQ_succ l i hcn
                (repeat (first|with_reducible refine wV fun _=>?_|simp [go_sem, hcc, hcn, lq, hnq]))
                refine ALoop.start (hrec2 (s - 1) (by omega) (c + 1) (by omega)) ?_ (by simp)
                simp [go_sem, Wk_eq, hsq]
                exact of_eq_true (hgb 4)
              · have hcD : c = n := by omega
                subst hcD
                have hse := sumQ_end l c i
                (repeat (first|with_reducible refine wV fun _=>?_|simp [go_sem]))
                refine ALoop.start (hrec (d - 1) (by omega) (i + 1) ⟨by omega, hki'⟩) ?_ (by simp)
                simp [go_sem, Wk_eq, hse]
                exact of_eq_true (hgb 4)
            · simp
            · simp [go_sem, Wk_eq]
              exact of_eq_true (hgb 4)
            · simp
        · have hil : i = l.length := by omega
          subst hil
          have ht : joinOk g l = true := by rw [hjo, i2]; simp [hlen']
          have hjp : joinRes g l = ⟨sumQ l n l.length 0, (nth l 0).h0, (nth l 0).h1, (nth l 0).rights, (nth l 0).side⟩ := by
            rw [hjr, ht, if_pos rfl, sumQ_all]; rfl
          rw [hjp, ht]
          (repeat (first|with_reducible refine wV fun _=>?_|simp [go_sem, lq]))
          ((try simp only [encProg, encStep, encAct, encAs, encPath, encPt, encOut, encState, encPos, encOs, encSs, encPs, encIs, encGame, List.map_cons, List.map_nil, List.nil_append, List.append_nil, List.cons_append]); (repeat (first | (with_reducible exact LeRow.nil) | (with_reducible exact LeRows.nil) | (with_reducible exact LeV.refl _) | (with_reducible exact LeRow.refl _ _ _ _) | (with_reducible exact LeRows.refl _) | (with_reducible refine LeRow.cons ?_ ?_) | (with_reducible refine LeRows.cons ?_ ?_) | (with_reducible refine LeV.agg ?_) | (with_reducible refine LeV.tup ?_) | (with_reducible refine LeV.fn ?_ ?_) | (with_reducible exact LeV.nil _) | (with_reducible refine leRows_append (LeRows.refl _) ?_) | ((refine leV_frz rfl (by simp [lq]) (by simp [frzO, frz1, upd, noH]) ?_); (first | (simp [go_sem, lq]; done) | (simp [go_sem, lq]; exact List.take_of_length_le (by simp [lq])))) | ((refine LeV.frz rfl (by simp [lq]) (by simp [frzO, frz1, upd, noH]) ?_); (simp only [List.drop_zero, List.take_succ_cons, List.take_zero, List.map_cons, List.map_nil])) | ((refine LeV.frzP rfl (by simp [lq]) (by simp) (by simp [frzO, frz1, upd, noH]) ?_); (simp only [nth_zero, List.drop_zero])))))
      · exact ⟨by omega, by simp [okJ]⟩
      · simp [go_sem, Wk_eq, sumQ_zero]
        exact of_eq_true (hgb 4)
      · simp
end Go.Av
end
section
/- Contracts, the reference of layer 22: what is joined of parts. -/
open Go Go.Proofs
namespace Go.Av
end Go.Av
end
section
/- Plain: codes fit; programs that are made slide at most once. -/
open Go Go.Proofs
namespace Go.Av
structure FitC (g : GameD) (c : CodeD) : Prop where
 sh : ShapeOk g c
 len : ∀ l ∈ c.1 ++ c.2, ∀ x ∈ l, x.length ≤ 1099511627776 ∧ ActsLe 1048576 x
theorem fit_codeP {g : GameD} (hg : GOk g) : FitC g (codeP g) := by
 refine ⟨shape_codeP hg, ?_⟩
 have h : ∀ s, ∀ l ∈ sideP g s, ∀ x ∈ l, x.length ≤ 1099511627776 ∧ ActsLe 1048576 x := by
  intro s l hl x hx
  obtain ⟨k, hk, rfl⟩ := List.mem_map.1 hl
  obtain ⟨c, _, rfl⟩ := List.mem_map.1 hx
  exact ⟨by have := kindP_len hg s hk (c : Nat); omega, kindP_acts hg s hk _⟩
 intro l hl
 rcases List.mem_append.1 hl with hl | hl
 ·exact h 0 l hl
 ·exact h 1 l hl
theorem FitC.side {g : GameD} {c : CodeD} (h : FitC g c) {s : Nat} (hs : s < 2) : ∃ l, cel [encSide c.1, encSide c.2] s = encSide l ∧ l.length = g.kinds.length ∧ (∀ x ∈ l, (x.length : Int) = g.cells) ∧ ∀ x ∈ l, ∀ y ∈ x, y.length ≤ 1099511627776 ∧ ActsLe 1048576 y := by
 rcases (show s = 0 ∨ s = 1 by omega) with rfl | rfl
 ·exact ⟨_, rfl, h.sh.l1, h.sh.c1, fun x hx => h.len x (by simp [hx])⟩
 ·exact ⟨_, rfl, h.sh.l2, h.sh.c2, fun x hx => h.len x (by simp [hx])⟩
theorem libL_slide (d e k r : Int) (i : Nat) : countOp (nth (libL d e k r) i) 2 ≤ 1 := by
 rcases Nat.lt_or_ge i 16 with h | h
 ·have : ∀ p ∈ libL d e k r, countOp p 2 ≤ 1 := by
   intro p hp
   simp only [libL, List.mem_cons, List.not_mem_nil, or_false] at hp
   rcases hp with rfl | rfl | rfl | rfl | rfl | rfl | rfl | rfl | rfl | rfl | rfl | rfl | rfl | rfl | rfl | rfl <;> simp [countOp]
  exact this _ (nth_mem h)
 ·have e : nth (libL d e k r) i = [] := by
   unfold nth
   rw [List.getD_eq_getElem?_getD, List.getElem?_eq_none (by exact h)]; rfl
  rw [e]
  simp [countOp]
theorem fitP_slide {dirs kinds rights : Int} {p : List (Int × Int)} (h : countOp p 2 ≤ 1) : countOp (fitP dirs kinds rights p) 2 ≤ 1 := by
 unfold fitP
 split
 ·simp [countOp]
 ·exact Nat.le_trans (fit_count 2 p) h
theorem madeG_slide (x : RawG) : OneSlide (madeG x) := by
 intro k hk p hp
 obtain ⟨i, _, rfl⟩ := List.mem_map.1 hk
 obtain ⟨n, _, rfl⟩ := List.mem_map.1 hp
 exact fitP_slide (libL_slide _ _ _ _ _)
end Go.Av
end
section
/- Contracts, the law of layer 22: small, sanity. -/
open Go Go.Proofs
namespace Go.Av
theorem small22_pure (g : GameD) (hg : GOk g) (hs : OneSlide g) : Pure Tryz.prog 20 [.agg (encGame g)] (.v (.bool (decide (countC (codeP g) ≤ 3000)))) := by
 refine pF Tryz.func20 ?_
 have hC := Compile8_pure g hg
 have hF := fit_codeP hg
 have hcnt := countC_le hg hs
 have hk6 := hg.k6
 have hc9 := hg.c9
 have hc1 := hg.c1
 have hN := Count8_pure (codeP g) (by omega) (by rw [hF.sh.l1]; omega) (by rw [hF.sh.l2]; omega) (fun y hy => by
  rcases List.mem_append.1 hy with h | h
  ·have := hF.sh.c1 y h; omega
  ·have := hF.sh.c2 y h; omega)
 have hgb : ∀ n, (∀ c ∈ encGame g, Bel n c) = True := fun n => by simp [go_sem]
 obtain ⟨eg, heg⟩ : ∃ eg, eg = encGame g := ⟨_, rfl⟩
 have hel : eg.length = 9 := by rw [heg]; rfl
 rw [← heg] at hC hgb ⊢
 clear heg
 have hecl : (encCode (codeP g)).length = 2 := rfl
 have hecb : ∀ n, (∀ c ∈ encCode (codeP g), Bel n c) = True := fun n => by simp [go_sem]
 generalize encCode (codeP g) = ec at *
 (repeat (first|with_reducible refine wV fun _=>?_|simp [go_sem, hel]))
 refine ACallP.plain hC (by simp [go_sem, hgb]) ?_
 (repeat (first|with_reducible refine wV fun _=>?_|simp [go_sem, hel, hecl]))
 refine ACallP.plain hN (by simp [go_sem, hecb]) ?_
 have e : decide ((countC (codeP g) : Int) ≤ 3000) = decide (countC (codeP g) ≤ 3000) := by
  refine decide_eq_decide.2 ?_; omega
 (repeat (first|with_reducible refine wV fun _=>?_|simp [go_sem, e]))
def gS : GameD := ⟨4, [[1, -1, 3, -1]], [0], [⟨nameA, [[(1, 0)]], false⟩], 0, false, [], 3, 2⟩
def gM : GameD := { gS with must := true }
def pS : PosD := ⟨[1, 0, 1, 0], [0], [0], 0, 0⟩
def qS : PosD := ⟨[1, 0, 0, 0], [0], [0], 0, 0⟩
def rS : PosD := ⟨[0, 0, 1, 0], [0], [0], 0, 0⟩
theorem gS_prog : ProgOk 1 1 0 [(1, 0)] := ⟨by simp, by simp, by simp; exact ⟨by simp, by simp, by simp, by simp, by simp⟩, by decide, by decide, by decide⟩
theorem gS_board : BoardOk gS.board := ⟨rfl, by simp [gS, GameD.board], by simp [gS, GameD.board], by simp [gS, GameD.board], by simp [gS, GameD.board], by simp [gS, GameD.board], by simp [gS, GameD.board]⟩
theorem gS_ok : GOk gS := by
 refine ⟨gS_board, by decide, by decide, by decide, by decide, ?_, by decide, by decide, ?_, ?_, by decide, by decide, by simp [gS], by decide, by decide, by decide⟩
 ·intro d hd
  have : d = 0 := by simp [gS] at hd; exact hd
  subst this; rfl
 ·intro k hk
  simp [gS] at hk; subst hk; simp
 ·intro k hk p hp
  simp [gS] at hk; subst hk
  simp at hp; subst hp
  exact gS_prog
theorem gM_ok : GOk gM := ⟨gS_ok.board, gS_ok.c1, gS_ok.c9, gS_ok.d1, gS_ok.d8, gS_ok.turn, gS_ok.k1, gS_ok.k6, gS_ok.pn, gS_ok.pr, gS_ok.r0, gS_ok.r4, gS_ok.cl, gS_ok.cn, gS_ok.bl, gS_ok.en⟩
theorem gS_names : NamesOk gS := .inl rfl
theorem gM_names : NamesOk gM := .inl rfl
theorem gS_of : ofG gS = [0, 0, 2, 2] := by decide +kernel
theorem gS_split : partsP (ofG gS) pS = [qS, rS] := by rw [gS_of]; decide +kernel
theorem gS_jo : joinOk gS [qS, rS] = true := by unfold joinOk nmG; rw [gS_of]; decide +kernel
theorem gS_jr : joinRes gS [qS, rS] = pS := by unfold joinRes; rw [gS_jo, gS_of]; decide +kernel
theorem gS_jo2 : joinOk gS [rS, qS] = false := by unfold joinOk nmG; rw [gS_of]; decide +kernel
theorem gS_jr2 : joinRes gS [rS, qS] = zeroP := by unfold joinRes; rw [gS_jo2]; rfl
theorem hand0_ok : HandOk gS [0] := ⟨rfl, fun i hi => by
 have : i = 0 := by simp at hi; exact hi
 subst this; decide⟩
theorem pS_ok : POk gS pS := ⟨rfl, by simp [pS, gS], hand0_ok, hand0_ok, by decide, by decide, .inl rfl⟩
theorem pM_ok : POk gM pS := ⟨rfl, by simp [pS, gM, gS], ⟨rfl, hand0_ok.v⟩, ⟨rfl, hand0_ok.v⟩, by decide, by decide, .inl rfl⟩
theorem qS_ok : POk gS qS := ⟨rfl, by simp [qS, gS], hand0_ok, hand0_ok, by decide, by decide, .inl rfl⟩
theorem rS_ok : POk gS rS := ⟨rfl, by simp [rS, gS], hand0_ok, hand0_ok, by decide, by decide, .inl rfl⟩
theorem sanity22_pure : Pure Tryz.prog 17 [] (.v (.bool true)) := by
 refine pF Tryz.func17 ?_
 have hS := rSplit_pure gS gS_ok gS_names pS pS_ok
 rw [gS_split, show normalB gS = true from rfl] at hS
 have hM := rSplit_pure gM gM_ok gM_names pS pM_ok
 rw [show normalB gM = false from rfl] at hM
 have hJ := rJoin_pure gS gS_ok gS_names [qS, rS] (by simp; exact ⟨qS_ok, rS_ok⟩) (by simp)
 rw [gS_jo, gS_jr] at hJ
 have hK := rJoin_pure gS gS_ok gS_names [rS, qS] (by simp; exact ⟨rS_ok, qS_ok⟩) (by simp)
 rw [gS_jo2, gS_jr2] at hK
 have hO := rOf_pure gS gS_ok
 change Pure _ _ _ (encIs (ofG gS)) at hO
 rw [gS_of] at hO
 have hL := Lists_pure [qS, rS] [qS, rS] (by simp) (by simp) (by simp; exact ⟨qS_ok.fits gS_ok, rS_ok.fits gS_ok⟩) (by simp; exact ⟨qS_ok.fits gS_ok, rS_ok.fits gS_ok⟩)
 have hI := Ints1_pure [0, 0, 2, 2] [0, 0, 2, 2] (by simp [Fits]) (by simp [Fits])
 have hE := R4Same_pure pS pS (pS_ok.fits gS_ok) (pS_ok.fits gS_ok)
 rw [show decide (cmpP pS pS = 0) = true from rfl] at hE
 rw [show decide (([qS, rS] : List PosD) = [qS, rS]) = true from by simp] at hL
 rw [show decide (([0, 0, 2, 2] : List Int) = [0, 0, 2, 2]) = true from rfl] at hI
 have hN := rNormal_pure gS gS_ok gS_names
 have hNM := rNormal_pure gM gM_ok gM_names
 rw [show normalB gS = true from rfl] at hN
 rw [show normalB gM = false from rfl] at hNM
 (repeat (first|with_reducible refine wV fun _=>?_|simp [go_sem]))
 refine ACallP.pureF [0, 1, 2, 4, 5, 6, 8, 9, 10] hS ?_ (by simp [go_sem]) ?_
 ·simp only [gS, gM, nameA, pS, qS, rS, encGame, encPos, encPs, encIss, encIs, encI, encKind, encStep, List.map_cons, List.map_nil]; (first|done|exact leX)
 (repeat (first|with_reducible refine wV fun _=>?_|simp [go_sem]))
 refine ACallP.pureF [12, 13, 14, 16, 17, 18, 20] hJ ?_ (by simp [go_sem]) ?_
 ·simp only [gS, gM, nameA, pS, qS, rS, encGame, encPos, encPs, encIss, encIs, encI, encKind, encStep, List.map_cons, List.map_nil]; (first|done|exact leX)
 (repeat (first|with_reducible refine wV fun _=>?_|simp [go_sem]))
 refine ACallP.pureF [22] hK ?_ (by simp [go_sem]) ?_
 ·simp only [gS, gM, nameA, pS, qS, rS, encGame, encPos, encPs, encIss, encIs, encI, encKind, encStep, List.map_cons, List.map_nil]; (first|done|exact leX)
 (repeat (first|with_reducible refine wV fun _=>?_|simp [go_sem]))
 refine ACallP.pureF [] hM ?_ (by simp [go_sem]) ?_
 ·simp only [gS, gM, nameA, pS, qS, rS, encGame, encPos, encPs, encIss, encIs, encI, encKind, encStep, List.map_cons, List.map_nil]; (first|done|exact leX)
 (repeat (first|with_reducible refine wV fun _=>?_|simp [go_sem]))
 refine aGC.go ?_
 refine ACallP.flat hL (.v _) ?_ (by simp [go_sem]) ?_
 ·simp only [gS, gM, nameA, pS, qS, rS, encGame, encPos, encPs, encIss, encIs, encI, encKind, encStep, List.map_cons, List.map_nil]; (first|done|exact leX)
 (repeat (first|with_reducible refine wV fun _=>?_|simp [go_sem]))
 refine aGC.go ?_
 refine ACallP.flat hE (.v _) ?_ (by simp [go_sem]) ?_
 ·simp only [pS, encPos, encIs, encI, List.map_cons, List.map_nil]; (first|done|exact leX)
 (repeat (first|with_reducible refine wV fun _=>?_|simp [go_sem]))
 refine aGC.go ?_
 refine ACallP.pureF [] hO ?_ (by simp [go_sem]) ?_
 ·simp only [gS, gM, nameA, pS, qS, rS, encGame, encPos, encPs, encIss, encIs, encI, encKind, encStep, List.map_cons, List.map_nil]; (first|done|exact leX)
 (repeat (first|with_reducible refine wV fun _=>?_|simp [go_sem]))
 refine aGC.go ?_
 refine ACallP.flat hI (.v _) ?_ (by simp [go_sem]) ?_
 ·simp only [encIs, encI, List.map_cons, List.map_nil]; (first|done|exact leX)
 (repeat (first|with_reducible refine wV fun _=>?_|simp [go_sem]))
 refine aGC.go ?_
 refine ACallP.flat hN (.v _) ?_ (by simp [go_sem]) ?_
 ·simp only [gS, gM, nameA, pS, qS, rS, encGame, encPos, encPs, encIss, encIs, encI, encKind, encStep, List.map_cons, List.map_nil]; (first|done|exact leX)
 (repeat (first|with_reducible refine wV fun _=>?_|simp [go_sem]))
 refine aGC.go ?_
 refine ACallP.flat hNM (.v _) ?_ (by simp [go_sem]) ?_
 ·simp only [gS, gM, nameA, pS, qS, rS, encGame, encPos, encPs, encIss, encIs, encI, encKind, encStep, List.map_cons, List.map_nil]; (first|done|exact leX)
 (repeat (first|with_reducible refine wV fun _=>?_|simp [go_sem]))
end Go.Av
end
section
/- Contracts, runs of the program: own, man, provided, and the steps. -/
open Go Go.Proofs
namespace Go.Av
def ownState (n : Nat) (s : StD) : AV := .agg [.sl (n + 2) 1 1 0 s.p.at_.length, .sl (n + 81) 1 1 0 s.p.h0.length, .sl (n + 161) 1 1 0 s.p.h1.length, .v (.int .i64 s.p.rights), .v (.int .i64 s.p.side), .v (.int .i64 s.kind), .v (.int .i64 s.cursor), .v (.bool s.took)]
def ownStateH (n : Nat) (s : StD) : List (Nat × AObj) := [(n + 2, .rows true 1 1 (s.p.at_.map encI)), (n + 81, .rows true 1 1 (s.p.h0.map encI)), (n + 161, .rows true 1 1 (s.p.h1.map encI))]
attribute [go_sem] ownState ownStateH
theorem own_owns (s : StD) (ha : FitsP s.p) : Owns Tryz.prog 121 [.agg (encState s)] (fun n => ownState n s) (fun n => ownStateH n s) 241 := by
 refine ⟨ACallP.of_awp (by kernel_rfl) Tryz.func121 rfl rfl (Nat.le_of_ble_eq_true rfl) (by kernel_rfl) ?_, fun n => ⟨by simp [go_sem], by simp [go_sem]⟩⟩
 obtain ⟨a1, a2, a3⟩ := ha
 have h1 := Clone_owns s.p.at_ a1
 have h2 := Clone_owns s.p.h0 a2
 have h3 := Clone_owns s.p.h1 a3
 (repeat (first|with_reducible refine wV fun _=>?_|simp [go_sem]))
 refine ACallP.ownsPlain h1 (by simp [go_sem]) ?_
 (repeat (first|with_reducible refine wV fun _=>?_|simp [go_sem]))
 refine dCall.owns 81 (by rfl) (h2) (by decide) (by simp [go_sem]) (by simp [go_sem]) (fun _ => LeRow.refl _ _ _ _) (by simp [go_sem]) (by simp [go_sem]) ?_
 (repeat (first|with_reducible refine wV fun _=>?_|simp [go_sem]))
 refine dCall.owns 161 (by rfl) (h3) (by decide) (by simp [go_sem]) (by simp [go_sem]) (fun _ => LeRow.refl _ _ _ _) (by simp [go_sem]) (by simp [go_sem]) ?_
 ((repeat (first|with_reducible (first|refine wL fun _=>?_|refine wD fun _=>?_|refine wZ ?_)|simp [go_sem])); refine dEnd.mkN (by kernel_rfl) ?_)
 (repeat (first|with_reducible refine wV fun _=>?_|simp [go_sem]))
 simp [go_sem, Wk_eq]
theorem man_pure (s : StD) (hc : s.cursor.toNat < s.p.at_.length) (h0 : 0 ≤ s.cursor) : Pure Tryz.prog 266 [.agg (encState s)] (.tup [.v (.int .i64 (manOf (nth s.p.at_ s.cursor.toNat)).1), .v (.int .i64 (manOf (nth s.p.at_ s.cursor.toNat)).2)]) := by
 refine pF Tryz.func266 ?_
 have hO := gMan_pure (nth s.p.at_ s.cursor.toNat)
 generalize manOf (nth s.p.at_ s.cursor.toNat) = m at *
 (repeat (first|with_reducible refine wV fun _=>?_|simp [go_sem, hc]))
 refine ACallP.plain hO (by simp [go_sem]) ?_
 (repeat (first|with_reducible refine wV fun _=>?_|simp [go_sem]))
theorem provided_pure (s : StD) (b : Bool) : Pure Tryz.prog 265 [.agg (encState s), .v (.bool b)] (encSs (onlyS s b)) := by
 refine pF Tryz.func265 ?_
 cases b
 ·(repeat (first|with_reducible refine wV fun _=>?_|simp [go_sem, onlyS]))
 ·(repeat (first|with_reducible refine wV fun _=>?_|simp [go_sem, onlyS]))
  exact frX
abbrev StepF (f : FuncId) (g : GameD) (s : StD) (n : Int) (r : List StD) : Prop := Pure Tryz.prog f [.agg (encState s), .agg (encGame g), .v (.int .i64 n)] (encSs r)
section
variable (g : GameD) (hg : GOk g) (s : StD) (hs : StOk g s) (n : Int)
theorem walk_pure (hg : GOk g) : StepF 208 g s n (onlyS { s with cursor := toB g.board s.p.side n s.cursor } (decide (0 ≤ toB g.board s.p.side n s.cursor))) := by
 refine pF Tryz.func208 ?_
 have hT := bTo_pure g.board hg.board s.p.side n s.cursor
 have hP := provided_pure { s with cursor := toB g.board s.p.side n s.cursor }
 (repeat (first|with_reducible refine wV fun _=>?_|simp [go_sem]))
 refine ACallP.plain hT (by simp [go_sem]) ?_
 (repeat (first|with_reducible refine wV fun _=>?_|simp [go_sem]))
 refine ACallP.plain (hP _) (by simp [go_sem]) ?_
 (repeat (first|with_reducible refine wV fun _=>?_|simp [go_sem]))
theorem slide_pure (hg : GOk g) (hs : StOk g s) : StepF 209 g s n (slideS g.board s n) := by
 refine pF Tryz.func209 ?_
 have hL := bLine_pure g.board hg.board s.p.side n s.cursor
 have hlm := lineB_mem hg.board (side := s.p.side) (d := n) (c := s.cursor)
 have hll := lineB_len (b := g.board) (side := s.p.side) (d := n) (c := s.cursor)
 have c9 := hg.c9
 have c1 := hg.c1
 have hal := hs.p.al
 rw [show g.board.cells = g.cells from rfl] at hlm hll
 unfold slideS
 generalize lineB g.board s.p.side n s.cursor = line at *
 generalize hR : slideGo s line = R
 (repeat (first|with_reducible refine wV fun _=>?_|simp [go_sem]))
 refine ACallP.plain hL (by simp [go_sem]) ?_
 (repeat (first|with_reducible refine wV fun _=>?_|simp [go_sem]))
 refine ALoop.start (ALoop.ind (α := Nat × List StD) (fun a => ⟨[(3, .ref 0 0 8 0 0), (7, .sl 2 a.2.length 8 0 a.2.length), (19, encIs line), (20, .v (.int .i64 line.length)), (21, .v (.int .i64 a.1))], [(0, .rows true 0 8 [encState s]), (2, .rows true a.2.length 8 (a.2.map encState))], 3⟩)
  (fun d a => a.1 + d = line.length ∧ a.2.length = a.1 ∧ R = a.2 ++ slideGo s (line.drop a.1)) ?_ line.length (0, []) ?_) ?_ ?_
 ·rintro d ⟨i, out⟩ ⟨i1, i2, i3⟩ hrec
  simp only at i1 i2 i3
  (repeat (first|with_reducible refine wV fun _=>?_|simp [go_sem]))
  refine aIf.mkL (fun hi => ?_) (fun hi => ?_) <;> simp at hi
  ·have hli := hlm _ (nth_mem hi)
   have hlt : (nth line i).toNat < s.p.at_.length := by omega
   rw [dropG_cons hi, slideGo] at i3
   (repeat (first|with_reducible refine wV fun _=>?_|simp [go_sem, hi, hlt]))
   refine aIf.mkL (fun hz => ?_) (fun hz => ?_) <;> simp at hz
   ·rw [if_neg (by simpa using hz)] at i3
    (repeat (first|with_reducible refine wV fun _=>?_|simp [go_sem]))
    rw [i3]
    exact frX
   ·rw [if_pos (by simpa using hz)] at i3
    (repeat (first|with_reducible refine wV fun _=>?_|simp [go_sem]))
    refine ALoop.start (hrec (d - 1) (by omega) (i + 1, out ++ [{ s with cursor := nth line i }]) ⟨by simp only; omega, by simp; omega, by simpa using i3⟩) ?_ (by simp)
    simp [go_sem, Wk_eq]
  ·rw [List.drop_eq_nil_of_le hi, slideGo] at i3
   (repeat (first|with_reducible refine wV fun _=>?_|simp [go_sem]))
   rw [i3]
   exact frX
 ·simp [hR]
 ·simp [go_sem, Wk_eq]
 ·simp
theorem man_at (hg : GOk g) (hs : StOk g s) : s.cursor.toNat < s.p.at_.length ∧ 0 ≤ s.cursor ∧ (nth s.p.at_ s.cursor.toNat = 0 ∧ manOf (nth s.p.at_ s.cursor.toNat) = (-1, -1) ∨ nth s.p.at_ s.cursor.toNat ≠ 0 ∧ 0 ≤ (manOf (nth s.p.at_ s.cursor.toNat)).1 ∧ (manOf (nth s.p.at_ s.cursor.toNat)).1 < g.kinds.length ∧
  ((manOf (nth s.p.at_ s.cursor.toNat)).2 = 0 ∨ (manOf (nth s.p.at_ s.cursor.toNat)).2 = 1)) ∧ (s.p.side = 0 ∨ s.p.side = 1) := by
 have hal := hs.p.al
 have hc0 := hs.c0
 have hc1 := hs.c1
 have hcur : s.cursor.toNat < s.p.at_.length := by omega
 have hat := hs.p.at (i := s.cursor.toNat) (by omega)
 have hman := manOf_cases hat.1 hat.2 hg.k6
 refine ⟨hcur, hc0, ?_, hs.p.s⟩
 rcases hman with ⟨h1, h2⟩ | ⟨h1, h2, h3, h4, _⟩
 ·exact .inl ⟨h1, h2⟩
 ·exact .inr ⟨h1, h2, h3, h4⟩
theorem empty_pure (hg : GOk g) (hs : StOk g s) : StepF 210 g s n (onlyS s (decide ((manOf (nth s.p.at_ s.cursor.toNat)).1 < 0))) := by
 refine pF Tryz.func210 ?_
 obtain ⟨hcur, h0, hm, hsd⟩ := man_at g s hg hs
 have e : decide ((manOf (nth s.p.at_ s.cursor.toNat)).1 < 0) = decide (nth s.p.at_ s.cursor.toNat = 0) := by
  rcases hm with ⟨h1, h2⟩ | ⟨h1, h2, _, _⟩
  ·rw [h2]; simp [h1]
  ·simp; omega
 rw [e]
 have hP := provided_pure s
 (repeat (first|with_reducible refine wV fun _=>?_|simp [go_sem, hcur]))
 refine dCall.plain (hP _) (by simp [go_sem]) ?_
 (repeat (first|with_reducible refine wV fun _=>?_|simp [go_sem]))
theorem enemy_pure (hg : GOk g) (hs : StOk g s) : StepF 211 g s n (onlyS s (decide (0 ≤ (manOf (nth s.p.at_ s.cursor.toNat)).1 ∧ (manOf (nth s.p.at_ s.cursor.toNat)).2 ≠ s.p.side))) := by
 refine pF Tryz.func211 ?_
 obtain ⟨hcur, h0, hm, hsd⟩ := man_at g s hg hs
 have hO := man_pure s hcur h0
 have hP := provided_pure s
 have e : decide (0 ≤ (manOf (nth s.p.at_ s.cursor.toNat)).1 ∧ (manOf (nth s.p.at_ s.cursor.toNat)).2 ≠ s.p.side) = decide ((manOf (nth s.p.at_ s.cursor.toNat)).2 = 1 - s.p.side) := by
  rcases hm with ⟨h1, h2⟩ | ⟨h1, h2, _, _⟩
  ·rw [h2]; simp; omega
  ·simp only [decide_eq_decide]; omega
 rw [e]
 generalize manOf (nth s.p.at_ s.cursor.toNat) = m at *
 (repeat (first|with_reducible refine wV fun _=>?_|simp [go_sem]))
 refine ACallP.plain hO (by simp [go_sem]) ?_
 (repeat (first|with_reducible refine wV fun _=>?_|simp [go_sem]))
 refine ACallP.plain (hP _) (by simp [go_sem]) ?_
 (repeat (first|with_reducible refine wV fun _=>?_|simp [go_sem]))
theorem friend_pure (hg : GOk g) (hs : StOk g s) : StepF 212 g s n (onlyS s (decide (0 ≤ (manOf (nth s.p.at_ s.cursor.toNat)).1 ∧ (manOf (nth s.p.at_ s.cursor.toNat)).2 = s.p.side))) := by
 refine pF Tryz.func212 ?_
 obtain ⟨hcur, h0, hm, hsd⟩ := man_at g s hg hs
 have hO := man_pure s hcur h0
 have hP := provided_pure s
 have e : decide (0 ≤ (manOf (nth s.p.at_ s.cursor.toNat)).1 ∧ (manOf (nth s.p.at_ s.cursor.toNat)).2 = s.p.side) = decide ((manOf (nth s.p.at_ s.cursor.toNat)).2 = s.p.side) := by
  rcases hm with ⟨h1, h2⟩ | ⟨h1, h2, _, _⟩
  ·rw [h2]; simp; omega
  ·simp only [decide_eq_decide]; omega
 rw [e]
 generalize manOf (nth s.p.at_ s.cursor.toNat) = m at *
 (repeat (first|with_reducible refine wV fun _=>?_|simp [go_sem]))
 refine ACallP.plain hO (by simp [go_sem]) ?_
 (repeat (first|with_reducible refine wV fun _=>?_|simp [go_sem]))
 refine ACallP.plain (hP _) (by simp [go_sem]) ?_
 (repeat (first|with_reducible refine wV fun _=>?_|simp [go_sem]))
theorem take_pure (hg : GOk g) (hs : StOk g s) : StepF 213 g s n (takeS g s) := by
 refine pF Tryz.func213 ?_
 obtain ⟨hcur, h0, hm, hsd⟩ := man_at g s hg hs
 have hO := man_pure s hcur h0
 have hP := provided_pure
 have hcp := own_owns s (hs.p.fits hg)
 unfold takeS
 generalize hme : manOf (nth s.p.at_ s.cursor.toNat) = m at *
 obtain ⟨mk, ms⟩ := m
 simp only [Prod.mk.injEq] at hm
 (repeat (first|with_reducible refine wV fun _=>?_|simp [go_sem]))
 refine ACallP.plain hO (by simp [go_sem]) ?_
 (repeat (first|with_reducible refine wV fun _=>?_|simp [go_sem]))
 refine aIf.mkL (fun hc => ?_) (fun hc => ?_) <;> simp at hc
 ·rw [if_pos (by omega)]
  (repeat (first|with_reducible refine wV fun _=>?_|simp [go_sem]))
 ·rw [if_neg (by omega)]
  (repeat (first|with_reducible refine wV fun _=>?_|simp [go_sem]))
  refine ACallP.ownsPlain hcp (by simp [go_sem]) ?_
  have hmk : mk.toNat < g.kinds.length := by omega
  have hmk' : 0 ≤ mk := by omega
  (repeat (first|with_reducible refine wV fun _=>?_|simp [go_sem, hcur, hmk]))
  refine aIf.mkL (fun hk => ?_) (fun hk => ?_)
  ·rw [if_neg (by simpa using hk)]
   (repeat (first|with_reducible refine wV fun _=>?_|simp [go_sem, clr]))
   (first|done|exact dpX)
  ·rw [if_pos (by simpa using hk)]
   have hl0 := hs.p.h0.len
   have hl1 := hs.p.h1.len
   rcases hsd with hsd | hsd
   ·have hmk0 : mk.toNat < s.p.h0.length := by omega
    have hv := hs.p.h0.v _ hmk0
    obtain ⟨u, hu⟩ : ∃ u : StD, u = { s with p := (clr s.p s.cursor).withHand s.p.side ((s.p.hand s.p.side).set mk.toNat (nth (s.p.hand s.p.side) mk.toNat + 1)), took := true } := ⟨_, rfl⟩
    have hres : (if 8 < nth (s.p.hand s.p.side) mk.toNat + 1 then [] else [u]) = onlyS u (decide (nth s.p.h0 mk.toNat + 1 ≤ 8)) := by
     have : s.p.hand s.p.side = s.p.h0 := by simp [PosD.hand, hsd]
     rw [this]
     unfold onlyS
     by_cases h8 : 8 < nth s.p.h0 mk.toNat + 1
     ·rw [if_pos h8, if_neg (by simp; omega)]
     ·rw [if_neg h8, if_pos (by simp; omega)]
    rw [← hu, hres]
    have hue : encState u = [.lst 1 ((s.p.at_.map encI).set s.cursor.toNat [.v (.int .i64 0)]), .lst 1 ((s.p.h0.map encI).set mk.toNat [.v (.int .i64 (nth s.p.h0 mk.toNat + 1))]), .lst 1 (s.p.h1.map encI), .v (.int .i64 s.p.rights), .v (.int .i64 s.p.side), .v (.int .i64 s.kind), .v (.int .i64 s.cursor), .v (.bool true)] := by
     rw [hu]; simp [encState, PosD.withHand, PosD.hand, clr, hsd, encIs, encI, List.map_set]
    have hP' := hP u
    rw [hue, hsd] at hP'
    (repeat (first|with_reducible (first|refine wL fun _=>?_|refine wD fun _=>?_|refine wE ?_)|simp [go_sem, hsd, hmk0, hcur]))
    refine adrZ.frz (frzO _ [4, 83, 163]) (frz_frzO _ _) ?_
    (repeat (first|with_reducible refine wV fun _=>?_|simp [go_sem, hsd, hmk0, hcur, frzO, frz1]))
    refine dCall.frz _ _ [4, 83, 163] [] (hP' (decide (nth s.p.h0 mk.toNat + 1 ≤ 8))) (by simp) ?_ (by simp [go_sem]) ?_
    ·intro h₁ hS
     have e4 := hS 4 (by simp)
     have e5 := hS 83 (by simp)
     have e6 := hS 163 (by simp)
     simp [upd, frzO, frz1] at e4 e5 e6
     refine .cons (.agg (.cons (leV_frz e4.symm (by simp) (by simp [applyW, ← e4]) (by simp; exact List.take_of_length_le (by simp))) (.cons (leV_frz e5.symm (by simp) (by simp [applyW, ← e5]) (by simp; exact List.take_of_length_le (by simp))) (.cons (leV_frz e6.symm (by simp) (by simp [applyW, ← e6]) (by simp; exact List.take_of_length_le (by simp))) (.refl _ _ _ _))))) (.refl _ _ _ _)
    ·(repeat (first|with_reducible refine wV fun _=>?_|simp [go_sem]))
   ·have hmk0 : mk.toNat < s.p.h1.length := by omega
    have hv := hs.p.h1.v _ hmk0
    obtain ⟨u, hu⟩ : ∃ u : StD, u = { s with p := (clr s.p s.cursor).withHand s.p.side ((s.p.hand s.p.side).set mk.toNat (nth (s.p.hand s.p.side) mk.toNat + 1)), took := true } := ⟨_, rfl⟩
    have hres : (if 8 < nth (s.p.hand s.p.side) mk.toNat + 1 then [] else [u]) = onlyS u (decide (nth s.p.h1 mk.toNat + 1 ≤ 8)) := by
     have : s.p.hand s.p.side = s.p.h1 := by simp [PosD.hand, hsd]
     rw [this]
     unfold onlyS
     by_cases h8 : 8 < nth s.p.h1 mk.toNat + 1
     ·rw [if_pos h8, if_neg (by simp; omega)]
     ·rw [if_neg h8, if_pos (by simp; omega)]
    rw [← hu, hres]
    have hue : encState u = [.lst 1 ((s.p.at_.map encI).set s.cursor.toNat [.v (.int .i64 0)]), .lst 1 (s.p.h0.map encI), .lst 1 ((s.p.h1.map encI).set mk.toNat [.v (.int .i64 (nth s.p.h1 mk.toNat + 1))]), .v (.int .i64 s.p.rights), .v (.int .i64 s.p.side), .v (.int .i64 s.kind), .v (.int .i64 s.cursor), .v (.bool true)] := by
     rw [hu]; simp [encState, PosD.withHand, PosD.hand, clr, hsd, encIs, encI, List.map_set]
    have hP' := hP u
    rw [hue, hsd] at hP'
    (repeat (first|with_reducible (first|refine wL fun _=>?_|refine wD fun _=>?_|refine wE ?_)|simp [go_sem, hsd, hmk0, hcur]))
    refine adrZ.frz (frzO _ [4, 83, 163]) (frz_frzO _ _) ?_
    (repeat (first|with_reducible refine wV fun _=>?_|simp [go_sem, hsd, hmk0, hcur, frzO, frz1]))
    refine dCall.frz _ _ [4, 83, 163] [] (hP' (decide (nth s.p.h1 mk.toNat + 1 ≤ 8))) (by simp) ?_ (by simp [go_sem]) ?_
    ·intro h₁ hS
     have e4 := hS 4 (by simp)
     have e5 := hS 83 (by simp)
     have e6 := hS 163 (by simp)
     simp [upd, frzO, frz1] at e4 e5 e6
     refine .cons (.agg (.cons (leV_frz e4.symm (by simp) (by simp [applyW, ← e4]) (by simp; exact List.take_of_length_le (by simp))) (.cons (leV_frz e5.symm (by simp) (by simp [applyW, ← e5]) (by simp; exact List.take_of_length_le (by simp))) (.cons (leV_frz e6.symm (by simp) (by simp [applyW, ← e6]) (by simp; exact List.take_of_length_le (by simp))) (.refl _ _ _ _))))) (.refl _ _ _ _)
    ·(repeat (first|with_reducible refine wV fun _=>?_|simp [go_sem]))
theorem push_pure (hg : GOk g) (hs : StOk g s) : StepF 214 g s n (pushS g s n) := by
 refine pF Tryz.func214 ?_
 have hT := bTo_pure g.board hg.board s.p.side n s.cursor
 have hal := hs.p.al
 have hc0 := hs.c0
 have hc1 := hs.c1
 have hcur : s.cursor.toNat < s.p.at_.length := by omega
 have hcp := own_owns s (hs.p.fits hg)
 have hto := toB_lt hg.board s.p.side n s.cursor
 rw [show g.board.cells = g.cells from rfl] at hto
 unfold pushS
 generalize toB g.board s.p.side n s.cursor = to at *
 (repeat (first|with_reducible refine wV fun _=>?_|simp [go_sem]))
 refine ACallP.plain hT (by simp [go_sem]) ?_
 by_cases ht : to < 0
 ·rw [if_pos (.inr (.inl ht))]
  have ht0 : to.toNat = 0 := by omega
  have h0l : 0 < s.p.at_.length := by omega
  (repeat (first|with_reducible refine wV fun _=>?_|simp [go_sem, hcur, ht, ht0, h0l]))
 ·have htl : to.toNat < s.p.at_.length := by omega
  have ht' : 0 ≤ to := by omega
  (repeat (first|with_reducible refine wV fun _=>?_|simp [go_sem, hcur, ht, htl]))
  refine aIf.mkL (fun hc => ?_) (fun hc => ?_) <;> simp at hc
  ·rw [if_pos (by by_cases h : nth s.p.at_ s.cursor.toNat = 0; exact .inl h; exact .inr (hc.resolve_left h))]
   (repeat (first|with_reducible refine wV fun _=>?_|simp [go_sem]))
  ·rw [if_neg (by rintro (h | h); exact hc.1 h; exact h hc.2)]
   (repeat (first|with_reducible refine wV fun _=>?_|simp [go_sem, hcur]))
   refine ACallP.ownsPlain hcp (by simp [go_sem]) ?_
   (repeat (first|with_reducible refine wV fun _=>?_|simp [go_sem, hcur, htl]))
   (first|done|exact dpX)
theorem become_pure : StepF 215 g s n [{ s with kind := n }] := by
 refine pF Tryz.func215 ?_
 (repeat (first|with_reducible refine wV fun _=>?_|simp [go_sem]))
 exact frX
theorem need_pure (h0 : 0 ≤ n) (h4 : n < 64) : StepF 216 g s n (onlyS s (decide (andN .i64 (s.p.rights.fdiv (2 ^ n.toNat)) 1 = 1))) := by
 refine pF Tryz.func216 ?_
 have hP := provided_pure s
 (repeat (first|with_reducible refine wV fun _=>?_|simp [go_sem]))
 refine dCall.plain (hP _) (by simp [go_sem]) ?_
 (repeat (first|with_reducible refine wV fun _=>?_|simp [go_sem]))
theorem lose_pure (h0 : 0 ≤ n) (h4 : n ≤ 4) : StepF 217 g s n [{ s with p := { s.p with rights := andNotN .i64 s.p.rights (2 ^ n.toNat) } }] := by
 refine pF Tryz.func217 ?_
 have hpn := pow_le16 h0 h4
 (repeat (first|with_reducible refine wV fun _=>?_|simp [go_sem]))
 exact frX
end
end Go.Av
end
section
/- Contracts, runs of the program: step. -/
open Go Go.Proofs
namespace Go.Av
theorem step_pure (g : GameD) (hg : GOk g) (s : StD) (hs : StOk g s) (x : Int × Int) (hx : StepOk g.next.length g.kinds.length g.rights x) :
  Pure Tryz.prog 172 [.agg (encGame g), .agg (encState s), .agg (encStep x)] (encSs (stepS g s x)) := by
 refine pF Tryz.func172 ?_
 have r4 := hg.r4
 obtain ⟨op, n⟩ := x
 obtain ⟨xo, xd, xz, xk, xr⟩ := hx
 simp only at xo xd xz xk xr
 rcases (show op = 1 ∨ op = 2 ∨ op = 3 ∨ op = 4 ∨ op = 5 ∨ op = 6 ∨ op = 7 ∨ op = 8 ∨ op = 9 ∨ op = 10 by omega) with rfl | rfl | rfl | rfl | rfl | rfl | rfl | rfl | rfl | rfl
 ·have hS := walk_pure g s n hg
  (repeat (first|with_reducible refine wV fun _=>?_|simp [go_sem]))
  refine dCall.plain hS (by simp [go_sem]) ?_
  (repeat (first|with_reducible refine wV fun _=>?_|simp [go_sem]))
  exact LeV.of_eq (by simp [stepS, encSs, encState, encIs])
 ·have hS := slide_pure g s n hg hs
  (repeat (first|with_reducible refine wV fun _=>?_|simp [go_sem]))
  refine dCall.plain hS (by simp [go_sem]) ?_
  (repeat (first|with_reducible refine wV fun _=>?_|simp [go_sem]))
  exact LeV.of_eq (by simp [stepS, encSs, encState, encIs])
 ·have hS := empty_pure g s n hg hs
  (repeat (first|with_reducible refine wV fun _=>?_|simp [go_sem]))
  refine dCall.plain hS (by simp [go_sem]) ?_
  (repeat (first|with_reducible refine wV fun _=>?_|simp [go_sem]))
  exact LeV.of_eq (by simp [stepS, encSs, encState, encIs])
 ·have hS := enemy_pure g s n hg hs
  (repeat (first|with_reducible refine wV fun _=>?_|simp [go_sem]))
  refine dCall.plain hS (by simp [go_sem]) ?_
  (repeat (first|with_reducible refine wV fun _=>?_|simp [go_sem]))
  exact LeV.of_eq (by simp [stepS, encSs, encState, encIs])
 ·have hS := friend_pure g s n hg hs
  (repeat (first|with_reducible refine wV fun _=>?_|simp [go_sem]))
  refine dCall.plain hS (by simp [go_sem]) ?_
  (repeat (first|with_reducible refine wV fun _=>?_|simp [go_sem]))
  exact LeV.of_eq (by simp [stepS, encSs, encState, encIs])
 ·have hS := take_pure g s n hg hs
  (repeat (first|with_reducible refine wV fun _=>?_|simp [go_sem]))
  refine dCall.plain hS (by simp [go_sem]) ?_
  (repeat (first|with_reducible refine wV fun _=>?_|simp [go_sem]))
  exact LeV.of_eq (by simp [stepS, encSs, encState, encIs])
 ·have hS := push_pure g s n hg hs
  (repeat (first|with_reducible refine wV fun _=>?_|simp [go_sem]))
  refine dCall.plain hS (by simp [go_sem]) ?_
  (repeat (first|with_reducible refine wV fun _=>?_|simp [go_sem]))
  exact LeV.of_eq (by simp [stepS, encSs, encState, encIs])
 ·have hS := become_pure g s n
  (repeat (first|with_reducible refine wV fun _=>?_|simp [go_sem]))
  refine dCall.plain hS (by simp [go_sem]) ?_
  (repeat (first|with_reducible refine wV fun _=>?_|simp [go_sem]))
  exact LeV.of_eq (by simp [stepS, encSs, encState, encIs])
 ·have hn := xr (by omega)
  have hS := need_pure g s n hn.1 (by omega)
  (repeat (first|with_reducible refine wV fun _=>?_|simp [go_sem]))
  refine dCall.plain hS (by simp [go_sem]) ?_
  (repeat (first|with_reducible refine wV fun _=>?_|simp [go_sem]))
  exact LeV.of_eq (by simp [stepS, encSs, encState, encIs])
 ·have hn := xr (by omega)
  have hS := lose_pure g s n hn.1 (by omega)
  (repeat (first|with_reducible refine wV fun _=>?_|simp [go_sem]))
  refine dCall.plain hS (by simp [go_sem]) ?_
  (repeat (first|with_reducible refine wV fun _=>?_|simp [go_sem]))
  exact LeV.of_eq (by simp [stepS, encSs, encState, encIs])
end Go.Av
end
section
/- Contracts: slices.Concat of four lists of numbers, pos.Key, strconv.Itoa (small numbers), FormatBool, the key of a state. -/
open Go Go.Proofs
namespace Go.Av
theorem GrowI_owns (m : Int) (h0 : 0 ≤ m) (h1 : m ≤ 17179869184) : Owns Tryz.prog 262 [AV.nils, .v (.int .i64 m)] (fun n => .sl n 0 1 0 0) (fun n => [(n, .rows true 0 1 [])]) 1 := by
 refine ⟨?_, fun n => ⟨by simp [go_sem], by simp [go_sem]⟩⟩
 by_cases hm : m = 0
 ·subst hm
  refine ACallP.of_awp (by kernel_rfl) Tryz.func262 rfl rfl (Nat.le_of_ble_eq_true rfl) (by kernel_rfl) ?_
  (repeat (first|with_reducible refine wV fun _=>?_|simp [go_sem]))
  simp [go_sem, Wk_eq]
 ·refine ACallP.clear ?_
  refine ACallP.of_awp (by kernel_rfl) Tryz.func262 rfl rfl (Nat.le_of_ble_eq_true rfl) (by kernel_rfl) ?_
  (repeat (first|with_reducible refine wV fun _=>?_|simp [go_sem]))
  (refine aIf.mkL (fun hF => by first | omega | (simp at hF; omega)) (fun hF => ?_); clear hF)
  (repeat (first|with_reducible refine wV fun _=>?_|simp [go_sem]))
  (refine aIf.mkL (fun hT => ?_) (fun hT => by first | omega | (simp at hT; omega)); clear hT)
  (repeat (first|with_reducible refine wV fun _=>?_|simp [go_sem]))
  refine ⟨0, 0, 1, by decide, ⟨rfl, rfl, rfl⟩, ?_⟩
  simp [go_sem, Wk_eq]
theorem Concat4_pure (a b c d : List Int) (ha : a.length ≤ 1000) (hb : b.length ≤ 1000) (hc : c.length ≤ 1000) (hd : d.length ≤ 1000) : Pure Tryz.prog 205 [.lst 1 [[encIs a], [encIs b], [encIs c], [encIs d]]] (encIs (a ++ b ++ c ++ d)) := by
 refine pF Tryz.func205 ?_
 (repeat (first|with_reducible refine wV fun _=>?_|simp [go_sem]))
 refine ALoop.unroll ?_
 (repeat (first|with_reducible refine wV fun _=>?_|simp [go_sem]))
 (refine aIf.mkL (fun hF => by first | omega | (simp at hF; omega)) (fun hF => ?_); clear hF)
 (repeat (first|with_reducible refine wV fun _=>?_|simp [go_sem]))
 refine ALoop.unroll ?_
 (repeat (first|with_reducible refine wV fun _=>?_|simp [go_sem]))
 (refine aIf.mkL (fun hF => by first | omega | (simp at hF; omega)) (fun hF => ?_); clear hF)
 (repeat (first|with_reducible refine wV fun _=>?_|simp [go_sem]))
 refine ALoop.unroll ?_
 (repeat (first|with_reducible refine wV fun _=>?_|simp [go_sem]))
 (refine aIf.mkL (fun hF => by first | omega | (simp at hF; omega)) (fun hF => ?_); clear hF)
 (repeat (first|with_reducible refine wV fun _=>?_|simp [go_sem]))
 refine ALoop.unroll ?_
 (repeat (first|with_reducible refine wV fun _=>?_|simp [go_sem]))
 (refine aIf.mkL (fun hF => by first | omega | (simp at hF; omega)) (fun hF => ?_); clear hF)
 (repeat (first|with_reducible refine wV fun _=>?_|simp [go_sem]))
 refine ALoop.unroll ?_
 (repeat (first|with_reducible refine wV fun _=>?_|simp [go_sem]))
 refine ACallP.ownsPlain (GrowI_owns _ (by omega) (by omega)) (by simp [go_sem]) ?_
 (repeat (first|with_reducible refine wV fun _=>?_|simp [go_sem]))
 refine ALoop.unroll ?_
 (repeat (first|with_reducible refine wV fun _=>?_|simp [go_sem]))
 refine ALoop.unroll ?_
 (repeat (first|with_reducible refine wV fun _=>?_|simp [go_sem]))
 refine ALoop.unroll ?_
 (repeat (first|with_reducible refine wV fun _=>?_|simp [go_sem]))
 refine ALoop.unroll ?_
 (repeat (first|with_reducible refine wV fun _=>?_|simp [go_sem]))
 refine ALoop.unroll ?_
 (repeat (first|with_reducible refine wV fun _=>?_|simp [go_sem]))
 exact frX

theorem bytesOf_U : ∀ l : List Int, bytesOf (l.map encU) = some l
 | [] => rfl
 | n :: l => by rw [List.map_cons, encU, bytesOf, bytesOf_U l]; rfl
def allP (p : PosD) : List Int := p.at_ ++ p.h0 ++ p.h1 ++ [p.rights, p.side]
def keyP (p : PosD) : ByteArray := strOf (allP p)
theorem Key_pure (p : PosD) (ha : p.at_.length ≤ 100) (hb : p.h0.length ≤ 100) (hc : p.h1.length ≤ 100) (hv : ∀ x ∈ allP p, 0 ≤ x ∧ x ≤ 255) : Pure Tryz.prog 164 [.agg (encPos p)] (.v (.string (keyP p))) := by
 refine pF Tryz.func164 ?_
 have hC : Pure Tryz.prog 205 [.lst 1 [[.lst 1 (p.at_.map encI)], [.lst 1 (p.h0.map encI)], [.lst 1 (p.h1.map encI)], [.lst 1 [[.v (.int .i64 p.rights)], [.v (.int .i64 p.side)]]]]] (encIs (p.at_ ++ p.h0 ++ p.h1 ++ [p.rights, p.side])) :=
  Concat4_pure p.at_ p.h0 p.h1 [p.rights, p.side] (by omega) (by omega) (by omega) (by simp)
 have hll : (allP p).length ≤ 302 := by simp [allP]; omega
 unfold keyP
 rw [show p.at_ ++ p.h0 ++ p.h1 ++ [p.rights, p.side] = allP p from rfl] at hC
 generalize allP p = l at *
 (repeat (first|with_reducible refine wV fun _=>?_|simp [go_sem]))
 refine ACallP.pureF [1, 2] hC ?_ (by simp [go_sem]) ?_
 ·(first|done|exact leX)
 (repeat (first|with_reducible refine wV fun _=>?_|simp [go_sem]))
 refine ALoop.start (ALoop.ind (α := Nat) (fun i => ⟨[(3, .sl 3 i 1 0 i), (20, encIs l), (21, .v (.int .i64 l.length)), (22, .v (.int .i64 i))], [(3, .rows true i 1 ((l.take i).map encU))], 4⟩)
  (fun d i => i + d = l.length) ?_ l.length 0 ?_) ?_ ?_
 ·rintro d i i1 hrec
  (repeat (first|with_reducible refine wV fun _=>?_|simp [go_sem]))
  refine aIf.mkL (fun hi => ?_) (fun hi => ?_) <;> simp at hi
  ·have hx := hv _ (nth_mem hi)
   have hem : (nth l i).emod 256 = nth l i := Int.emod_eq_of_lt hx.1 (by omega)
   have hem2 : nth l i % 256 = nth l i := hem
   (repeat (first|with_reducible refine wV fun _=>?_|simp [go_sem, hi, hem, hem2]))
   refine ALoop.start (hrec (d - 1) (by omega) (i + 1) (by omega)) ?_ (by simp)
   rw [List.take_add_one, List.getElem?_eq_getElem hi, ← nth_eq _ _ hi]
   simp [go_sem, Wk_eq, encU, hem, hem2]
   intro x hx c hc
   obtain ⟨y, _, rfl⟩ := List.mem_map.1 (List.mem_of_mem_take hx)
   simp only [encU, List.mem_singleton] at hc
   subst hc
   exact .v _
  ·have hb : bytesOf (List.take i (List.map encU l)) = some l := by rw [List.take_of_length_le (by simp; omega)]; exact bytesOf_U l
   have hb2 : bytesOf (List.take i (List.take i (List.map encU l))) = some l := by rw [List.take_take, Nat.min_self]; exact hb
   (repeat (first|with_reducible refine wV fun _=>?_|simp [go_sem, hb, hb2]))
 ·omega
 ·simp [go_sem, Wk_eq]
 ·simp
def digit (n : Int) : ByteArray := strOf [48 + n]
theorem sSmall_pure (n : Int) (h0 : 0 ≤ n) (h1 : n < 10) : Pure Tryz.prog 296 [.v (.int .i64 n)] (.v (.string (digit n))) := by
 refine pF Tryz.func296 ?_
 rcases (show n = 0 ∨ n = 1 ∨ n = 2 ∨ n = 3 ∨ n = 4 ∨ n = 5 ∨ n = 6 ∨ n = 7 ∨ n = 8 ∨ n = 9 by omega) with rfl | rfl | rfl | rfl | rfl | rfl | rfl | rfl | rfl | rfl <;> ((repeat (first|with_reducible refine wV fun _=>?_|simp [go_sem]))) <;> exact LeV.of_eq (by kernel_rfl)
theorem sFormat_pure (n : Int) (h0 : 0 ≤ n) (h1 : n < 10) : Pure Tryz.prog 288 [.v (.int .i64 n), .v (.int .i64 10)] (.v (.string (digit n))) := by
 refine pF Tryz.func288 ?_
 have hS := sSmall_pure n h0 h1
 have h1' : n < 100 := by omega
 (repeat (first|with_reducible refine wV fun _=>?_|simp [go_sem, h0, h1']))
 refine ACallP.plain hS (by simp [go_sem]) ?_
 (repeat (first|with_reducible refine wV fun _=>?_|simp [go_sem]))
theorem sItoa_pure (n : Int) (h0 : 0 ≤ n) (h1 : n < 10) : Pure Tryz.prog 267 [.v (.int .i64 n)] (.v (.string (digit n))) := by
 refine pF Tryz.func267 ?_
 have hS := sFormat_pure n h0 h1
 (repeat (first|with_reducible refine wV fun _=>?_|simp [go_sem]))
 refine ACallP.plain hS (by simp [go_sem]) ?_
 (repeat (first|with_reducible refine wV fun _=>?_|simp [go_sem]))
theorem Itoa_pure (n : Int) (h0 : 0 ≤ n) (h1 : n < 10) : Pure Tryz.prog 218 [.v (.int .i64 n)] (.v (.string (digit n))) := by
 refine pF Tryz.func218 ?_
 have hS := sItoa_pure n h0 h1
 (repeat (first|with_reducible refine wV fun _=>?_|simp [go_sem]))
 refine ACallP.plain hS (by simp [go_sem]) ?_
 (repeat (first|with_reducible refine wV fun _=>?_|simp [go_sem]))
theorem sBool_pure (b : Bool) : Pure Tryz.prog 268 [.v (.bool b)] (.v (.string (if b then strOf [116, 114, 117, 101] else strOf [102, 97, 108, 115, 101]))) := by
 refine pF Tryz.func268 ?_
 cases b
 ·(repeat (first|with_reducible refine wV fun _=>?_|simp [go_sem]))
  exact LeV.of_eq (by kernel_rfl)
 ·(repeat (first|with_reducible refine wV fun _=>?_|simp [go_sem]))
  exact LeV.of_eq (by kernel_rfl)
theorem Bool_pure (b : Bool) : Pure Tryz.prog 219 [.v (.bool b)] (.v (.string (if b then strOf [116, 114, 117, 101] else strOf [102, 97, 108, 115, 101]))) := by
 refine pF Tryz.func219 ?_
 have hS := sBool_pure b
 (repeat (first|with_reducible refine wV fun _=>?_|simp [go_sem]))
 refine ACallP.plain hS (by simp [go_sem]) ?_
 (repeat (first|with_reducible refine wV fun _=>?_|simp [go_sem]))
theorem strGo_toList : ∀ (l : List Int) (r : ByteArray), (l.foldl (fun r n => r.push (UInt8.ofNat n.toNat)) r).data.toList = r.data.toList ++ l.map fun n => UInt8.ofNat n.toNat
 | [], r => by simp
 | n :: l, r => by
  rw [List.foldl_cons, strGo_toList l]
  simp [ByteArray.push]
theorem strOf_toList (l : List Int) : (strOf l).data.toList = l.map fun n => UInt8.ofNat n.toNat := by
 unfold strOf; rw [strGo_toList]; rfl
theorem strOf_size (l : List Int) : (strOf l).size = l.length := by
 rw [← ByteArray.size_data, ← Array.length_toList, strOf_toList, List.length_map]
def keyS (s : StD) : ByteArray := digit s.kind ++ strOf [32] ++ digit s.cursor ++ strOf [32] ++ (if s.took then strOf [116, 114, 117, 101] else strOf [102, 97, 108, 115, 101]) ++ strOf [32] ++ keyP s.p
theorem key_pure (s : StD) (hk : 0 ≤ s.kind ∧ s.kind < 10) (hc : 0 ≤ s.cursor ∧ s.cursor < 10) (h1 : s.p.at_.length ≤ 100) (h2 : s.p.h0.length ≤ 100) (h3 : s.p.h1.length ≤ 100) (hv : ∀ x ∈ allP s.p, 0 ≤ x ∧ x ≤ 255) :
  Pure Tryz.prog 173 [.agg (encState s)] (.v (.string (keyS s))) := by
 refine pF Tryz.func173 ?_
 have hK := Itoa_pure s.kind hk.1 hk.2
 have hC := Itoa_pure s.cursor hc.1 hc.2
 have hB := Bool_pure s.took
 have hP := Key_pure s.p h1 h2 h3 hv
 have hdk : (digit s.kind).size = 1 := strOf_size _
 have hdc : (digit s.cursor).size = 1 := strOf_size _
 have hdb : (if s.took then strOf [116, 114, 117, 101] else strOf [102, 97, 108, 115, 101]).size ≤ 5 := by split <;> simp [strOf_size]
 have hdp : (keyP s.p).size ≤ 302 := by unfold keyP; rw [strOf_size]; simp [allP]; omega
 have h32 : (ByteArray.mk ⟨[32]⟩).size = 1 := rfl
 unfold keyS
 rw [show strOf [32] = ByteArray.mk ⟨[32]⟩ from rfl]
 generalize digit s.kind = dk at *
 generalize digit s.cursor = dc at *
 generalize (if s.took then strOf [116, 114, 117, 101] else strOf [102, 97, 108, 115, 101]) = db at *
 generalize keyP s.p = dp at *
 generalize ByteArray.mk ⟨[32]⟩ = sp at *
 (repeat (first|with_reducible refine wV fun _=>?_|simp [go_sem]))
 refine dCall.plain hK (by simp [go_sem]) ?_
 (repeat (first|with_reducible refine wV fun _=>?_|simp [go_sem]))
 refine dCall.plain hC (by simp [go_sem]) ?_
 (repeat (first|with_reducible refine wV fun _=>?_|simp [go_sem]))
 refine dCall.plain hB (by simp [go_sem]) ?_
 (repeat (first|with_reducible refine wV fun _=>?_|simp [go_sem]))
 refine dCall.plain hP (by simp [go_sem]) ?_
 (repeat (first|with_reducible refine wV fun _=>?_|simp [go_sem]))
end Go.Av
end
section
/- Contracts, runs of the program: what Runs does with a state. -/
open Go Go.Proofs
namespace Go.Av
def lookP (side : Int) (x : Int × Int) (s : StD) (l : List OutD) : List OutD := if x.1 = 0 then l ++ (putS side s).toList else l
def lookH (p : PosD) (l : List OutD) : List (Nat × AObj) := [(0, .rows true 0 5 [encPos p]), (1, .rows true 0 1 [[.sl 2 l.length 6 0 l.length]]), (2, .rows true l.length 6 (l.map encOut))]
theorem look_owns (g : GameD) (hg : GOk g) (p : PosD) (hp : POk g p) (s : StD) (hs : StOk g s) (hsd : s.p.side = p.side) (x : Int × Int) (l : List OutD) (hl : l.length ≤ 100000000) :
  OwnsA Tryz.prog 120 [.agg (encState s), .agg (encStep x), .ref 0 0 5 0 0, .ref 1 0 1 0 0] (lookH p l) 3 (.tup []) (lookH p (lookP p.side x s l)) 3 := by
 unfold OwnsA lookH
 refine ACallP.of_awp (by kernel_rfl) Tryz.func120 rfl rfl (Nat.le_of_ble_eq_true rfl) (by kernel_rfl) ?_
 obtain ⟨hcur, h0, hm, _⟩ := man_at g s hg hs
 have hcp := own_owns s (hs.p.fits hg)
 have hC := gCode_pure s.kind p.side
 have hps := hp.s
 obtain ⟨op, xn⟩ := x
 (repeat (first|with_reducible refine wV fun _=>?_|simp [go_sem, hcur]))
 refine aIf.mkL (fun hc => ?_) (fun hc => ?_) <;> simp at hc
 ·have e : lookP p.side (op, xn) s l = l := by
   unfold lookP putS
   by_cases h : op = 0
   ·rw [if_pos h, if_neg (hc.resolve_left fun hn => hn h)]; simp
   ·rw [if_neg h]
  rw [e]
  (repeat (first|with_reducible refine wV fun _=>?_|simp [go_sem]))
  simp [go_sem, Wk_eq]
 ·have e : lookP p.side (op, xn) s l = l ++ [⟨{ s.p with at_ := s.p.at_.set s.cursor.toNat (codeOf s.kind p.side), side := 1 - p.side }, s.took⟩] := by
   unfold lookP putS
   rw [if_pos hc.1, if_pos hc.2]; rfl
  rw [e]
  generalize codeOf s.kind p.side = code at *
  (repeat (first|with_reducible refine wV fun _=>?_|simp [go_sem, hcur]))
  refine ACallP.ownsPlain hcp (by simp [go_sem]) ?_
  (repeat (first|with_reducible refine wV fun _=>?_|simp [go_sem, hcur]))
  refine dCall.plain hC (by simp [go_sem]) ?_
  (repeat (first|with_reducible refine wV fun _=>?_|simp [go_sem, hcur]))
  simp [go_sem, Wk_eq]
  (first|done|exact rwX)
theorem bel_map_out {n : Nat} (l : List OutD) : ∀ r ∈ l.map encOut, ∀ c ∈ r, Bel n c := by
 intro r hr c hc
 obtain ⟨x, _, rfl⟩ := List.mem_map.1 hr
 revert c
 simp [go_sem]
def lookUp (h : Heap) (a b c : Nat) (p : PosD) (l : List OutD) : Heap := upd (upd (upd h a (some (.rows true 0 5 [encPos p]))) b (some (.rows true 0 1 [[.sl c l.length 6 0 l.length]]))) c (some (.rows true l.length 6 (l.map encOut)))
theorem look_call (g : GameD) (hg : GOk g) (p : PosD) (hp : POk g p) (s : StD) (hs : StOk g s) (hsd : s.p.side = p.side) (x : Int × Int) (l : List OutD) (hl : l.length ≤ 100000000) {h : Heap} {n a b c : Nat}
  (hd : [a, b, c].Nodup) (hlt : ∀ j ∈ [a, b, c], j < n) (ha : h a = some (.rows true 0 5 [encPos p])) (hb : h b = some (.rows true 0 1 [[.sl c l.length 6 0 l.length]])) (hc : h c = some (.rows true l.length 6 (l.map encOut))) {K : CallK}
  (hK : K (.tup []) (lookUp h a b c p (lookP p.side x s l)) n) :
  ACallP Tryz.prog 120 [.agg (encState s), .agg (encStep x), .ref a 0 5 0 0, .ref b 0 1 0 0] h n K := by
 have hbs : ∀ m, Bel m (.agg (encState s)) := fun m => by simp [go_sem]
 have hbx : ∀ m, Bel m (.agg (encStep x)) := fun m => by simp [go_sem]
 have hbp : ∀ m, ∀ c ∈ encPos p, Bel m c := fun m => by simp [go_sem]
 refine ACallP.ownsA (args' := [.agg (encState s), .agg (encStep x), .ref a 0 5 0 0, .ref b 0 1 0 0])
  (HH := [(a, .rows true 0 5 [encPos p]), (b, .rows true 0 1 [[.sl c (lookP p.side x s l).length 6 0 (lookP p.side x s l).length]]), (c, .rows true (lookP p.side x s l).length 6 ((lookP p.side x s l).map encOut))])
  [a, b, c] h (look_owns g hg p hp s hs hsd x l hl) hd hlt rfl (Nat.le_refl _) (.refl _) ?_ ?_ (.refl _ _ _ _) ?_ ?_ ?_ (.same ?_) ?_ ?_
 ·intro j hj
  rcases (show j = 0 ∨ j = 1 ∨ j = 2 by omega) with rfl | rfl | rfl
  ·exact ⟨_, _, rfl, ha, .rows (.same (by intro r hr; simp only [List.mem_singleton] at hr; subst hr; exact hbp _))⟩
  ·exact ⟨_, _, rfl, hb, .rows (.cons (.cons (.sl rfl) .nil) .nil)⟩
  ·exact ⟨_, _, rfl, hc, .rows (.same (bel_map_out _))⟩
 ·intro q hq
  simp only [lookH, List.mem_cons, List.not_mem_nil, or_false] at hq
  rcases hq with rfl | rfl | rfl
  ·exact ⟨Nat.le_of_ble_eq_true rfl, by intro r hr; simp only [List.mem_singleton] at hr; subst hr; exact hbp _⟩
  ·exact ⟨Nat.le_of_ble_eq_true rfl, by simp [go_sem, BelO]⟩
  ·exact ⟨Nat.le_of_ble_eq_true rfl, bel_map_out _⟩
 ·intro y hy
  simp only [List.mem_cons, List.not_mem_nil, or_false] at hy
  rcases hy with rfl | rfl | rfl | rfl
  ·exact hbs _
  ·exact hbx _
  ·exact .ref (hlt a (by simp))
  ·exact .ref (hlt b (by simp))
 ·exact .cons (.same (hbs _)) (.cons (.same (hbx _)) (.cons (.ref rfl) (.cons (.ref rfl) .nil)))
 ·intro y hy
  simp only [List.mem_cons, List.not_mem_nil, or_false] at hy
  rcases hy with rfl | rfl | rfl | rfl
  ·exact hbs _
  ·exact hbx _
  ·exact .ref (by decide)
  ·exact .ref (by decide)
 ·exact .tup (by simp)
 ·exact .cons rfl (.rows (.same (by intro r hr; simp only [List.mem_singleton] at hr; subst hr; exact hbp _))) (.cons rfl (.rows (.cons (.cons (.sl rfl) .nil) .nil)) (.cons rfl (.rows (.same (bel_map_out _))) .nil))
 ·have e : over [(a, .rows true 0 5 [encPos p]), (b, .rows true 0 1 [[.sl c (lookP p.side x s l).length 6 0 (lookP p.side x s l).length]]), (c, .rows true (lookP p.side x s l).length 6 ((lookP p.side x s l).map encOut))] (remH [a, b, c] h) = lookUp h a b c p (lookP p.side x s l) := by
   simp only [List.nodup_cons, List.mem_cons, List.not_mem_nil, or_false, not_or, List.nodup_nil, and_true, not_false_eq_true] at hd
   obtain ⟨⟨d1, d2⟩, d3⟩ := hd
   funext j
   simp only [over, remH, lookUp, upd]
   by_cases j1 : j = a
   ·subst j1; simp [d1, d2]
   ·by_cases j2 : j = b
    ·subst j2; simp [d3, j1]
    ·by_cases j3 : j = c
     ·subst j3; simp [j1, j2]
     ·simp [j1, j2, j3]
  rw [e]
  exact hK
end Go.Av
end
section
/- States and their keys. -/
open Go Go.Proofs
namespace Go.Av
def keyL (s : StD) : List Int := [48 + s.kind, 32, 48 + s.cursor, 32] ++ ((if s.took then [116, 114, 117, 101] else [102, 97, 108, 115, 101]) ++ ([32] ++ allP s.p))
theorem keyS_toList (s : StD) : (keyS s).data.toList = (keyL s).map fun n => UInt8.ofNat n.toNat := by
 unfold keyS digit keyP keyL
 cases s.took <;> simp [ByteArray.data_append, strOf_toList]
theorem u8_inj {x y : Int} (hx : 0 ≤ x ∧ x ≤ 255) (hy : 0 ≤ y ∧ y ≤ 255) (h : UInt8.ofNat x.toNat = UInt8.ofNat y.toNat) : x = y := by
 have h1 := congrArg UInt8.toNat h
 rw [UInt8.toNat_ofNat', UInt8.toNat_ofNat'] at h1
 omega
theorem map_u8_inj : ∀ {l l' : List Int}, (∀ x ∈ l, 0 ≤ x ∧ x ≤ 255) → (∀ x ∈ l', 0 ≤ x ∧ x ≤ 255) → (l.map fun n => UInt8.ofNat n.toNat) = (l'.map fun n => UInt8.ofNat n.toNat) → l = l'
 | [], [], _, _, _ => rfl
 | [], _ :: _, _, _, h => by simp at h
 | _ :: _, [], _, _, h => by simp at h
 | x :: l, y :: l', h1, h2, h => by
  simp only [List.map_cons, List.cons.injEq] at h
  rw [u8_inj (h1 x (by simp)) (h2 y (by simp)) h.1, map_u8_inj (fun z hz => h1 z (by simp [hz])) (fun z hz => h2 z (by simp [hz])) h.2]
theorem allP_ok {g : GameD} (hg : GOk g) {p : PosD} (hp : POk g p) : ∀ x ∈ allP p, 0 ≤ x ∧ x ≤ 255 := by
 have k6 := hg.k6
 have r0 := hp.r0
 have r1 := hp.r1
 have hr : (2 : Int) ^ g.rights.toNat ≤ 16 := by
  have h1 := hg.r0
  have h2 := hg.r4
  rcases (show g.rights = 0 ∨ g.rights = 1 ∨ g.rights = 2 ∨ g.rights = 3 ∨ g.rights = 4 by omega) with h | h | h | h | h <;> rw [h] <;> decide
 have hh : ∀ l, HandOk g l → ∀ x ∈ l, 0 ≤ x ∧ x ≤ 255 := by
  intro l hl x hx
  obtain ⟨i, hi, rfl⟩ := List.mem_iff_getElem.1 hx
  have := hl.v i hi
  rw [nth_eq _ _ hi] at this
  omega
 intro x hx
 simp only [allP, List.mem_append, List.mem_cons, List.not_mem_nil, or_false] at hx
 rcases hx with ((hx | hx) | hx) | hx | hx
 ·have := hp.av x hx; omega
 ·exact hh _ hp.h0 x hx
 ·exact hh _ hp.h1 x hx
 ·omega
 ·have := hp.s; omega
theorem keyS_inj {g : GameD} (hg : GOk g) {a b : StD} (ha : StOk g a) (hb : StOk g b) (h : keyS a = keyS b) : a = b := by
 have k6 := hg.k6
 have c9 := hg.c9
 have hv : ∀ s, StOk g s → ∀ x ∈ keyL s, 0 ≤ x ∧ x ≤ 255 := by
  intro s hs x hx
  have hk := hs.k
  have h0 := hs.c0
  have h1 := hs.c1
  unfold keyL at hx
  rcases List.mem_append.1 hx with hx | hx
  ·simp at hx; omega
  rcases List.mem_append.1 hx with hx | hx
  ·by_cases ht : s.took = true <;> simp [ht] at hx <;> omega
  rcases List.mem_append.1 hx with hx | hx
  ·simp at hx; omega
  ·exact allP_ok hg hs.p x hx
 have h1 : keyL a = keyL b := map_u8_inj (hv a ha) (hv b hb) (by rw [← keyS_toList, ← keyS_toList, h])
 obtain ⟨pa, ka, ca, ta⟩ := a
 obtain ⟨pb, kb, cb, tb⟩ := b
 unfold keyL at h1
 simp only [List.cons_append, List.nil_append, List.cons.injEq, true_and] at h1
 obtain ⟨e1, e2, h1⟩ := h1
 obtain rfl : ka = kb := by omega
 obtain rfl : ca = cb := by omega
 have h2 : ta = tb ∧ allP pa = allP pb := by
  cases ta <;> cases tb <;> simp at h1 ⊢
  ·exact h1
  ·exact h1
 obtain ⟨rfl, h2⟩ := h2
 have a1 := ha.p.al
 have b1 := hb.p.al
 have a2 := ha.p.h0.len
 have b2 := hb.p.h0.len
 have a3 := ha.p.h1.len
 have b3 := hb.p.h1.len
 obtain ⟨pat, ph0, ph1, pr, ps⟩ := pa
 obtain ⟨qat, qh0, qh1, qr, qs⟩ := pb
 simp only [allP, List.append_assoc] at h2 a1 b1 a2 b2 a3 b3
 obtain ⟨e3, h3⟩ := List.append_inj h2 (by omega)
 obtain ⟨e4, h4⟩ := List.append_inj h3 (by omega)
 obtain ⟨e5, h5⟩ := List.append_inj h4 (by omega)
 simp only [List.cons.injEq, and_true] at h5
 rw [e3, e4, e5, h5.1, h5.2]
def keyRow (s : StD) : List AV := [.v (.string (keyS s)), .v (.bool true)]
theorem bel_keys {n : Nat} {l : List StD} : (∀ r ∈ l.map keyRow, ∀ c ∈ r, Bel n c) = True := by
 refine eq_true ?_
 intro r hr c hc
 obtain ⟨x, _, rfl⟩ := List.mem_map.1 hr
 simp only [keyRow, List.mem_cons, List.not_mem_nil, or_false] at hc
 rcases hc with rfl | rfl <;> exact .v _
attribute [go_sem ↓] bel_keys
theorem find_keys (t : StD) : ∀ (next : List StD), (∀ s ∈ next, keyS t = keyS s → t = s) → mapFind .string (.v (.string (keyS t))) (next.map keyRow) = some (if t ∈ next then some (.v (.bool true)) else none)
 | [], _ => by simp [mapFind]
 | s :: next, h => by
  rw [List.map_cons, mapFind]
  have e : keyEq .string (.v (.string (keyS t))) (cel (keyRow s) 0) = some (keyS t == keyS s) := rfl
  rw [e, bytes_beq]
  by_cases hk : keyS t = keyS s
  ·have := h s (by simp) hk
   subst this
   simp [keyRow, cel]
  ·have hne : t ≠ s := fun e => hk (by rw [e])
   rw [decide_eq_false hk]
   simp only
   rw [find_keys t next (fun u hu => h u (by simp [hu]))]
   simp [hne]
theorem put_keys (t : StD) : ∀ (next : List StD), (∀ s ∈ next, keyS t = keyS s → t = s) → t ∉ next → mapPut .string (.v (.string (keyS t))) (.v (.bool true)) (next.map keyRow) = some ((next ++ [t]).map keyRow)
 | [], _, _ => by simp [mapPut, keyRow]
 | s :: next, h, hn => by
  rw [List.map_cons, mapPut]
  have e : keyEq .string (.v (.string (keyS t))) (cel (keyRow s) 0) = some (keyS t == keyS s) := rfl
  rw [e, bytes_beq]
  have hk : keyS t ≠ keyS s := fun e => hn (by rw [h s (by simp) e]; simp)
  rw [decide_eq_false hk]
  simp only
  rw [put_keys t next (fun u hu => h u (by simp [hu])) (fun hm => hn (by simp [hm]))]
  simp
end Go.Av
end
section
/- Contracts, runs of the program: run. -/
open Go Go.Proofs
namespace Go.Av
def lastO (g : GameD) (p : PosD) (cell i : Int) : List OutD := (lastS g p cell (progOf g p cell i)).filterMap (putS p.side)
theorem run_owns (g : GameD) (hg : GOk g) (p : PosD) (hp : POk g p) (cell i : Int) (hc : ChoiceOk g p cell i) :
  OwnsA Tryz.prog 119 [.agg (encGame g), .agg (encPos p), .v (.int .i64 cell), .v (.int .i64 i), .fn (.func 120) [] [.ref 0 0 5 0 0, .ref 1 0 1 0 0]]
   [(0, .rows true 0 5 [encPos p]), (1, .rows true 0 1 [[AV.nils]])] 2 (.v (.int .i64 0))
   [(0, .rows true 0 5 [encPos p]), (1, .rows true 0 1 [[.sl 247 (lastO g p cell i).length 6 0 (lastO g p cell i).length]]), (247, .rows true (lastO g p cell i).length 6 ((lastO g p cell i).map encOut))] 248 := by
 unfold OwnsA
 refine ACallP.of_awp (by kernel_rfl) Tryz.func119 rfl rfl (Nat.le_of_ble_eq_true rfl) (by kernel_rfl) ?_
 have hal := hp.al
 obtain ⟨c0, c1, cm, cs, i0, i1⟩ := hc
 have hcur : cell.toNat < p.at_.length := by omega
 have hat := hp.at (i := cell.toNat) (by omega)
 have hO := gMan_pure (nth p.at_ cell.toNat)
 have hman := manOf_cases hat.1 hat.2 hg.k6
 have hV := Valid_pure g (by have := hg.k6; unfold FitsG; omega) ⟨hg.r0, by have := hg.r4; omega⟩ p (hp.fits hg)
 rw [pOk_iff.2 hp] at hV
 have hkl : (manOf (nth p.at_ cell.toNat)).1.toNat < g.kinds.length := by
  rcases hman with ⟨_, e⟩ | ⟨_, a, b, _⟩
  ·rw [e] at cm; simp at cm
  ·omega
 have hil : i.toNat < (nth g.kinds (manOf (nth p.at_ cell.toNat)).1.toNat).progs.length := by omega
 have hpg := hg.pr _ (nth_mem hkl) _ (nth_mem hil)
 have hst := fun n hn => stageS_ok hg hp c0 c1 cm (prog := progOf g p cell i) hpg.st n hn
 have hz := stageS_zero g p cell (progOf g p cell i)
 have hsu := fun n hn => stageS_succ g p cell (progOf g p cell i) (n := n) hn
 have hla := stageS_last g p cell (progOf g p cell i)
 have hp8 := hpg.len
 have hpst := hpg.st
 have hpe : progOf g p cell i = nth (nth g.kinds (manOf (nth p.at_ cell.toNat)).1.toNat).progs i.toNat := rfl
 rw [← hpe] at hp8 hpst
 have hlo : lastO g p cell i = (lastS g p cell (progOf g p cell i)).filterMap (putS p.side) := rfl
 rw [hlo]
 obtain ⟨prog, hprog⟩ : ∃ q, q = progOf g p cell i := ⟨_, rfl⟩
 rw [← hprog] at hst hz hsu hp8 hpst hpe hla ⊢
 have hcp := own_owns ⟨p, (manOf (nth p.at_ cell.toNat)).1, cell, false⟩ (hp.fits hg)
 generalize hm : manOf (nth p.at_ cell.toNat) = m at *
 obtain ⟨mk, ms⟩ := m
 simp only at cm cs i1 hkl hil hpe hcp
 (repeat (first|with_reducible refine wV fun _=>?_|simp [go_sem]))
 refine ACallP.plain hV (by simp [go_sem]) ?_
 (repeat (first|with_reducible refine wV fun _=>?_|simp [go_sem, hcur]))
 (refine aIf.mkL (fun hF => by first | omega | (simp at hF; omega)) (fun hF => ?_); clear hF)
 (repeat (first|with_reducible refine wV fun _=>?_|simp [go_sem, hcur]))
 refine ACallP.plain hO (by simp [go_sem]) ?_
 (repeat (first|with_reducible refine wV fun _=>?_|simp [go_sem, hkl, hil, cs]))
 (refine aIf.mkL (fun hF => by first | omega | (simp at hF; omega)) (fun hF => ?_); clear hF)
 (repeat (first|with_reducible refine wV fun _=>?_|simp [go_sem]))
 refine ACallP.ownsPlain hcp (by simp [go_sem]) ?_
 (repeat (first|with_reducible refine wV fun _=>?_|simp [go_sem, hcur, hkl, hil]))
 rw [← hpe]
 have hsz : ∀ n, n ≤ prog.length → (stageS g p cell prog n).length ≤ 100000000 := fun n hn => Nat.le_trans (hst n hn).2 (pow10_le (by omega))
 have hst0 : encSs (stageS g p cell prog 0) = .lst 8 [[.lst 1 ((p.at_.map encI).set cell.toNat [.v (.int .i64 0)]), encIs p.h0, encIs p.h1, .v (.int .i64 p.rights), .v (.int .i64 p.side), .v (.int .i64 mk), .v (.int .i64 cell), .v (.bool false)]] := by
  rw [hz]; simp [encSs, startS, encState, clr, hm, encIs, encI, List.map_set]
 refine ALoop.start (ALoop.ind (α := Nat) (fun k => ⟨[(4, .fn (.func 120) [] [.ref 0 0 5 0 0, .ref 1 0 1 0 0]), (5, .ref 2 0 9 0 0), (14, encSs (stageS g p cell prog k)), (87, encProg prog), (88, .v (.int .i64 prog.length)), (89, .v (.int .i64 k))],
   [(0, .rows true 0 5 [encPos p]), (1, .rows true 0 1 [[.sl 247 0 6 0 0]]), (2, .rows true 0 9 [encGame g]), (247, .rows true 0 6 [])], 248⟩)
  (fun d k => k + d = prog.length) ?_ prog.length 0 ?_) ?_ ?_
 ·rintro d k k1 hrec
  (repeat (first|with_reducible refine wV fun _=>?_|simp [go_sem]))
  refine aIf.mkL (fun hk => ?_) (fun hk => ?_) <;> simp at hk
  ·have hkk := hst k (by omega)
   have hks := hsz k (by omega)
   have hks' := hsz (k + 1) (by omega)
   have hsk := hsu k hk
   have hxs := hpst _ (nth_mem hk)
   have hpo := fun n hn => partS_ok hg hxs hkk.1 n hn
   have hpa := partS_all g (stageS g p cell prog k) (nth prog k)
   have hpz := partS_zero g (stageS g p cell prog k) (nth prog k)
   have hps := fun n hn => partS_succ g (stageS g p cell prog k) (nth prog k) (n := n) hn
   rw [← hsk] at hpa
   obtain ⟨now, hnow⟩ : ∃ now, now = stageS g p cell prog k := ⟨_, rfl⟩
   rw [← hnow] at hkk hks hpo hpa hpz hps ⊢
   obtain ⟨x, hx⟩ : ∃ x, x = nth prog k := ⟨_, rfl⟩
   rw [← hx] at hxs hpo hpa hpz hps
   (repeat (first|with_reducible refine wV fun _=>?_|simp [go_sem, hk, ← hx]))
   refine ALoop.start (ALoop.ind (α := Nat) (fun n => ⟨[(4, .fn (.func 120) [] [.ref 0 0 5 0 0, .ref 1 0 1 0 0]), (5, .ref 2 0 9 0 0), (16, .ref 248 0 2 0 0), (17, .sl 250 (partS g now x n).length 8 0 (partS g now x n).length), (18, .mp 249), (87, encProg prog), (88, .v (.int .i64 prog.length)), (89, .v (.int .i64 k)), (94, encSs now), (95, .v (.int .i64 now.length)), (96, .v (.int .i64 n))],
     [(0, .rows true 0 5 [encPos p]), (1, .rows true 0 1 [[.sl 247 0 6 0 0]]), (2, .rows true 0 9 [encGame g]), (247, .rows true 0 6 []), (248, .rows true 0 2 [encStep x]), (249, .rows true 0 2 ((partS g now x n).map keyRow)), (250, .rows true (partS g now x n).length 8 ((partS g now x n).map encState))], 251⟩)
    (fun d n => n + d = now.length) ?_ now.length 0 ?_) ?_ ?_
   ·rintro d2 n n1 hrec2
    (repeat (first|with_reducible refine wV fun _=>?_|simp [go_sem]))
    refine aIf.mkL (fun hn => ?_) (fun hn => ?_) <;> simp at hn
    ·have hsn := hkk.1 _ (nth_mem hn)
     have hpn := hps n hn
     have hpoN := hpo n (by omega)
     have hpoS := hpo (n + 1) (by omega)
     have hSt := step_pure g hg (nth now n) hsn.1 x hxs
     have hsl := stepS_len hg (nth now n) x
     have hso := stepS_ok hg hsn.1 hxs
     have hlk : lookP p.side x (nth now n) [] = [] := by unfold lookP; rw [if_neg (by have := hxs.1; omega)]
     obtain ⟨s, hs⟩ : ∃ s, s = nth now n := ⟨_, rfl⟩
     rw [← hs] at hsn hpn hSt hsl hso hlk
     obtain ⟨more, hmore⟩ : ∃ more, more = stepS g s x := ⟨_, rfl⟩
     rw [← hmore] at hpn hSt hsl hso
     have hat := fun j hj => addS_take (partS g now x n) more (i := j) hj
     have hal' := fun j => addS_len (more.take j) (partS g now x n)
     have haok : ∀ j, ∀ u ∈ addS (partS g now x n) (more.take j), StOk g u := fun j => addS_all (fun u hu => (hpoN.1 u hu).1) (fun u hu => (hso u (List.mem_of_mem_take hu)).1)
     have haz : addS (partS g now x n) (more.take 0) = partS g now x n := by simp [addS_nil]
     have haa : addS (partS g now x n) (more.take more.length) = partS g now x (n + 1) := by rw [List.take_length, hpn]
     obtain ⟨nx, hnx⟩ : ∃ nx : Nat → List StD, nx = fun j => addS (partS g now x n) (more.take j) := ⟨_, rfl⟩
     have hnx' : ∀ j, addS (partS g now x n) (more.take j) = nx j := fun j => by rw [hnx]
     simp only [hnx'] at hat hal' haok haz haa
     clear hnx hnx'
     (repeat (first|with_reducible refine wV fun _=>?_|simp [go_sem, hn, ← hs]))
     refine look_call g hg p hp s hsn.1 hsn.2 x [] (by simp) (a := 0) (b := 1) (c := 247) (by decide) (by simp) (by simp [upd, encPos, encIs]) (by simp [upd]) (by simp [upd]) ?_
     rw [hlk]
     simp only [lookUp]
     (repeat (first|with_reducible refine wV fun _=>?_|simp [go_sem]))
     refine ACallP.plain hSt (by simp [go_sem]) ?_
     (repeat (first|with_reducible refine wV fun _=>?_|simp [go_sem]))
     refine ALoop.start (ALoop.ind (α := Nat) (fun j => ⟨[(4, .fn (.func 120) [] [.ref 0 0 5 0 0, .ref 1 0 1 0 0]), (5, .ref 2 0 9 0 0), (16, .ref 248 0 2 0 0), (17, .sl 250 (nx j).length 8 0 (nx j).length), (18, .mp 249), (87, encProg prog), (88, .v (.int .i64 prog.length)), (89, .v (.int .i64 k)), (94, encSs now), (95, .v (.int .i64 now.length)), (96, .v (.int .i64 n)), (107, encSs more), (108, .v (.int .i64 more.length)), (109, .v (.int .i64 j))],
       [(0, .rows true 0 5 [encPos p]), (1, .rows true 0 1 [[.sl 247 0 6 0 0]]), (2, .rows true 0 9 [encGame g]), (247, .rows true 0 6 []), (248, .rows true 0 2 [encStep x]), (249, .rows true 0 2 ((nx j).map keyRow)), (250, .rows true (nx j).length 8 ((nx j).map encState))], 252⟩)
      (fun d j => j + d = more.length) ?_ more.length 0 ?_) ?_ ?_
     ·rintro d3 j j1 hrec3
      (repeat (first|with_reducible refine wV fun _=>?_|simp [go_sem]))
      refine aIf.mkL (fun hj => ?_) (fun hj => ?_) <;> simp at hj
      ·have htj := (hso _ (nth_mem hj)).1
       have hatj := hat j hj
       have halj := hal' j
       have hmj : (more.take j).length ≤ 10 := by rw [List.length_take]; omega
       obtain ⟨t, ht⟩ : ∃ t, t = nth more j := ⟨_, rfl⟩
       rw [← ht] at htj hatj
       have hk6 := hg.k6
       have hc9 := hg.c9
       have hta := htj.p.al
       have ht0 := htj.p.h0.len
       have ht1 := htj.p.h1.len
       have htk := htj.k
       have htc0 := htj.c0
       have htc1 := htj.c1
       have hKey := key_pure t (by omega) (by omega) (by omega) (by omega) (by omega) (allP_ok hg htj.p)
       have hin : ∀ u ∈ nx j, keyS t = keyS u → t = u := fun u hu e => keyS_inj hg htj (haok j u hu) e
       have hfind := find_keys t (nx j) hin
       have hput := put_keys t (nx j) hin
       (repeat (first|with_reducible refine wV fun _=>?_|simp [go_sem, hj, ← ht]))
       refine ACallP.plain hKey (by simp [go_sem]) ?_
       by_cases hmem : t ∈ nx j
       ·rw [if_pos hmem] at hatj hfind
        (repeat (first|with_reducible refine wV fun _=>?_|simp [go_sem, hfind]))
        refine ALoop.start (hrec3 (d3 - 1) (by omega) (j + 1) (by omega)) ?_ (by simp)
        simp [go_sem, Wk_eq, hatj]
       ·rw [if_neg hmem] at hatj hfind
        have hput := hput hmem
        (repeat (first|with_reducible refine wV fun _=>?_|simp [go_sem, hfind, hput]))
        refine ALoop.start (hrec3 (d3 - 1) (by omega) (j + 1) (by omega)) ?_ (by simp)
        simp [go_sem, Wk_eq, hatj]
        intro c hc
        simp only [keyRow, List.mem_cons, List.not_mem_nil, or_false] at hc
        rcases hc with rfl | rfl <;> exact .v _
      ·have hnl : j = more.length := by omega
       subst hnl
       rw [haa]
       (repeat (first|with_reducible refine wV fun _=>?_|simp [go_sem]))
       refine ALoop.start (hrec2 (d2 - 1) (by omega) (n + 1) (by omega)) ?_ (by simp)
       simp [go_sem, Wk_eq]
     ·omega
     ·simp [go_sem, Wk_eq, haz]
     ·simp
    ·have hnl : n = now.length := by omega
     subst hnl
     rw [hpa]
     (repeat (first|with_reducible refine wV fun _=>?_|simp [go_sem]))
     refine ALoop.start (hrec (d - 1) (by omega) (k + 1) (by omega)) ?_ (by simp)
     simp [go_sem, Wk_eq]
     exact frX
   ·omega
   ·simp [go_sem, Wk_eq, hpz]
   ·simp
  ·have hkl' : k = prog.length := by omega
   subst hkl'
   rw [hla]
   have hl8 := hsz prog.length (Nat.le_refl _)
   have hlok := (hst prog.length (Nat.le_refl _)).1
   rw [hla] at hl8 hlok
   generalize lastS g p cell prog = last at *
   (repeat (first|with_reducible refine wV fun _=>?_|simp [go_sem]))
   refine ALoop.start (ALoop.ind (α := Nat) (fun j => ⟨[(4, .fn (.func 120) [] [.ref 0 0 5 0 0, .ref 1 0 1 0 0]), (129, encSs last), (130, .v (.int .i64 last.length)), (131, .v (.int .i64 j))],
     [(0, .rows true 0 5 [encPos p]), (1, .rows true 0 1 [[.sl 247 ((last.take j).filterMap (putS p.side)).length 6 0 ((last.take j).filterMap (putS p.side)).length]]), (247, .rows true ((last.take j).filterMap (putS p.side)).length 6 (((last.take j).filterMap (putS p.side)).map encOut))], 248⟩)
    (fun d j => j + d = last.length) ?_ last.length 0 ?_) ?_ ?_
   ·rintro d4 j j1 hrec4
    (repeat (first|with_reducible refine wV fun _=>?_|simp [go_sem]))
    refine aIf.mkL (fun hj => ?_) (fun hj => ?_) <;> simp at hj
    ·have hsj := hlok _ (nth_mem hj)
     have hol : ((last.take j).filterMap (putS p.side)).length ≤ 100000000 := Nat.le_trans (List.length_filterMap_le _ _) (by rw [List.length_take]; omega)
     have hse : (last.take (j + 1)).filterMap (putS p.side) = lookP p.side (0, 0) (nth last j) ((last.take j).filterMap (putS p.side)) := by
      rw [List.take_add_one, List.getElem?_eq_getElem hj, nth_eq _ _ hj, List.filterMap_append]
      simp only [Option.toList_some, List.filterMap_cons, List.filterMap_nil, lookP, if_true]
      cases putS p.side last[j] <;> rfl
     obtain ⟨out, hout⟩ : ∃ out, out = (last.take j).filterMap (putS p.side) := ⟨_, rfl⟩
     rw [← hout] at hol hse ⊢
     obtain ⟨t, ht⟩ : ∃ t, t = nth last j := ⟨_, rfl⟩
     rw [← ht] at hsj hse
     (repeat (first|with_reducible refine wV fun _=>?_|simp [go_sem, hj, ← ht]))
     refine look_call g hg p hp t hsj.1 hsj.2 (0, 0) out hol (a := 0) (b := 1) (c := 247) (by decide) (by simp) (by simp [upd, encPos, encIs]) (by simp [upd]) (by simp [upd]) ?_
     rw [← hse]
     simp only [lookUp]
     (repeat (first|with_reducible refine wV fun _=>?_|simp [go_sem]))
     refine ALoop.start (hrec4 (d4 - 1) (by omega) (j + 1) (by omega)) ?_ (by simp)
     simp [go_sem, Wk_eq]
    ·have hnl : j = last.length := by omega
     subst hnl
     rw [List.take_length]
     (repeat (first|with_reducible refine wV fun _=>?_|simp [go_sem]))
     simp [go_sem, Wk_eq]
   ·omega
   ·simp [go_sem, Wk_eq]
   ·simp
 ·omega
 ·simp [go_sem, Wk_eq]
  rw [show AV.lst 8 (List.map encState (stageS g p cell prog 0)) = _ from hst0]
  (first|done|exact dpX)
 ·simp
end Go.Av
end
section
/- Contracts, runs of the program: order, and the equality of outcomes and of positions. -/
open Go Go.Proofs
namespace Go.Av
theorem cmpO_orR (a b : OutD) : orI [cmpP a.pos b.pos, number (if a.took then 1 else 0) (if b.took then 1 else 0)] = cmpO a b := by
 unfold cmpO lexI
 simp only [orI]
 repeat' split
 all_goals first | rfl | omega
theorem rOrder_pure (a b : OutD) (ha : FitsP a.pos) (hb : FitsP b.pos) : Pure Tryz.prog 124 [.agg (encOut a), .agg (encOut b)] (.v (.int .i64 (cmpO a b))) := by
 refine pF Tryz.func124 ?_
 rw [← cmpO_orR]
 have c1 := pCompare_pure _ _ ha hb
 obtain ⟨pa, ta⟩ := a
 obtain ⟨pb, tb⟩ := b
 have c4 := cCompare_pure (if ta then 1 else 0) (if tb then 1 else 0)
 simp only at c1 c4 ⊢
 generalize hx1 : cmpP pa pb = x1 at *
 generalize hx2 : number (if ta then 1 else 0) (if tb then 1 else 0) = x2 at *
 cases ta <;> cases tb <;> simp only [if_true, Bool.false_eq_true, if_false] at c4 <;>
 ·(repeat (first|with_reducible refine wV fun _=>?_|simp [go_sem]))
  refine dCall.plain c1 (by simp [go_sem]) ?_
  (repeat (first|with_reducible refine wV fun _=>?_|simp [go_sem]))
  refine dCall.plain c4 (by simp [go_sem]) ?_
  (repeat (first|with_reducible refine wV fun _=>?_|simp [go_sem]))
  refine dCall.frz [encIs [x1, x2]] _ [17] [(17, some (.rows false 0 1 ([x1, x2].map encI)))] (cOr_pure _ (by unfold Fits; simp)) ?_ ?_ (by simp [go_sem]) ?_
  ·intro p hp
   simp only [List.mem_singleton] at hp
   subst hp
   exact ⟨by simp, 0, 1, _, rfl, by simp [upd, go_sem]⟩
  ·intro h₁ hS
   have h7 := hS 17 (by simp)
   simp [go_sem] at h7
   exact .cons (leV_frz h7.symm (by simp) (by simp [applyW, upd]) (by simp [go_sem])) .nil
  ·(repeat (first|with_reducible refine wV fun _=>?_|simp [go_sem]))
theorem runs2_pure (a b : OutD) (ha : FitsP a.pos) (hb : FitsP b.pos) : Pure Tryz.prog 126 [.agg (encOut a), .agg (encOut b)] (.v (.bool (decide (a = b)))) := by
 refine pF Tryz.func126 ?_
 have c1 := rOrder_pure a b ha hb
 have e : decide (a = b) = decide (cmpO a b = 0) := by rw [decide_eq_decide]; exact (cmp_out.eq a b).symm
 rw [e]
 generalize cmpO a b = x at *
 (repeat (first|with_reducible refine wV fun _=>?_|simp [go_sem]))
 refine ACallP.plain c1 (by simp [go_sem]) ?_
 (repeat (first|with_reducible refine wV fun _=>?_|simp [go_sem]))
end Go.Av
end
section
/- Contracts: gen.order. -/
open Go Go.Proofs
namespace Go.Av
end Go.Av
end
section
/- Contracts: slices.CompactFunc of outcomes. -/
open Go Go.Proofs
namespace Go.Av
def zeroO : List AV := [.v (.slice none 0 0), .v (.slice none 0 0), .v (.slice none 0 0), .v (.int .i64 0), .v (.int .i64 0), .v (.bool false)]
theorem dedup_short {α : Type} [DecidableEq α] {l : List α} (h : l.length < 2) : dedup l = l := by
 match l, h with
 | [], _ => rfl
 | [a], _ => rfl
 | a :: b :: l, h => simp only [List.length_cons] at h; omega
end Go.Av
end
section
/- Our library: slices.SortFunc at our rows, by the kit's contract. -/
namespace Go.Av
open Go Go.Sort Go.Shelf Go.Proofs
structure El (w : World) (M : Nat → Prop) {α : Type} (en : α → List AV) (Q : α → Prop) where
 x : α
 vs : List Value
 q : Q x
 rel : RelL noP w M (en x) vs
 cells : ∀ v ∈ vs, cellV v = true
theorem elems {w : World} {M : Nat → Prop} {α : Type} {en : α → List AV} {Q : α → Prop} : ∀ {l : List α} {W : List Value}, (∀ x ∈ l, Q x) → RelL noP w M (l.map en).flatten W → (∀ v ∈ W, cellV v = true) →
  ∃ ls : List (El w M en Q), ls.map (·.x) = l ∧ (ls.map (·.vs)).flatten = W
 | [], W, _, h, _ => by cases h; exact ⟨[], rfl, rfl⟩
 | x :: l, W, hq, h, hc => by
  rw [List.map_cons, List.flatten_cons] at h
  obtain ⟨us, ts, rfl, h1, h2⟩ := h.split
  obtain ⟨ls, e1, e2⟩ := elems (fun y hy => hq y (by simp [hy])) h2 (fun v hv => hc v (by simp [hv]))
  exact ⟨⟨x, us, hq x (by simp), h1, fun v hv => hc v (by simp [hv])⟩ :: ls, by simp [e1], by simp [e2]⟩
theorem flat_get {k : Nat} (hk : 0 < k) : ∀ (ls : List (List Value)) (t : Nat), (∀ r ∈ ls, r.length = k) → t < ls.length * k → ls.flatten[t]? = (ls[t / k]?).bind (·[t % k]?)
 | [], t, _, h => by simp at h
 | r :: ls, t, hr, h => by
  have hl : r.length = k := hr r (by simp)
  rw [List.flatten_cons]
  by_cases ht : t < k
  ·rw [List.getElem?_append_left (by omega), Nat.div_eq_of_lt ht, Nat.mod_eq_of_lt ht]; rfl
  ·obtain ⟨s, rfl⟩ : ∃ s, t = s + k := ⟨t - k, by omega⟩
   have hs : s < ls.length * k := by simp only [List.length_cons, Nat.add_mul, Nat.one_mul] at h; omega
   rw [List.getElem?_append_right (by omega), hl, Nat.add_sub_cancel, flat_get hk ls s (fun r hr' => hr r (by simp [hr'])) hs, Nat.add_div_right _ hk, Nat.add_mod_right, List.getElem?_cons_succ]
theorem flatK_list {β : Type} [Inhabited β] (enc : β → List Value) {k : Nat} (hk0 : 0 < k) (hk : ∀ x, (enc x).length = k) (d : Array β) : (flatK enc k d).toList = (d.toList.map enc).flatten := by
 refine List.ext_getElem? fun t => ?_
 have hr : ∀ r ∈ d.toList.map enc, r.length = k := fun r hr => by obtain ⟨x, _, rfl⟩ := List.mem_map.1 hr; exact hk x
 have hlen : ((d.toList.map enc).flatten).length = d.size * k := by
  have : ∀ ls : List (List Value), (∀ r ∈ ls, r.length = k) → ls.flatten.length = ls.length * k := by
   intro ls
   induction ls with
   | nil => intro _; simp
   | cons r ls ih => intro h; rw [List.flatten_cons, List.length_append, ih (fun r hr => h r (by simp [hr])), h r (by simp), List.length_cons, Nat.add_mul]; omega
  rw [this _ hr]; simp
 by_cases ht : t < d.size * k
 ·have h1 := get_flatK enc k d t ht
  have hq : t / k < d.size := Nat.div_lt_of_lt_mul (by rw [Nat.mul_comm]; exact ht)
  have hm : t % k < k := Nat.mod_lt _ hk0
  have hs : t < (flatK enc k d).size := by rw [size_flatK]; exact ht
  rw [flat_get hk0 _ t hr (by simpa using ht), Array.getElem?_toList, Array.getElem?_eq_getElem hs, ← getElem!_pos (flatK enc k d) t hs, h1, List.getElem?_map, Array.getElem?_toList, Array.getElem?_eq_getElem hq,
   getElem!_pos d (t / k) hq]
  simp only [Option.map_some, Option.bind_some]
  rw [List.getElem?_eq_getElem (by rw [hk]; exact hm), getElem!_pos _ _ (by rw [hk]; exact hm)]
 ·rw [List.getElem?_eq_none (by rw [Array.length_toList, size_flatK]; omega), List.getElem?_eq_none (by omega)]
theorem sort_world {w : World} {blk off : Nat} {C : Array Value} {T : TypeId} (hb : w.heap[blk]? = some (.cells C T (0, 0))) {F : Array Value} (hF : off + F.size ≤ C.size) (n : Nat) (os : Array Obj) :
  ∃ C', (grow (putRow id (Sort.ahead w n) blk off F) os).heap[blk]? = some (.cells C' T (0, 0)) ∧ C'.size = C.size ∧ (C'.toList.drop off).take F.size = F.toList ∧
   (∀ j, j ≠ blk → j < w.heap.size → (grow (putRow id (Sort.ahead w n) blk off F) os).heap[j]? = w.heap[j]?) ∧ w.heap.size ≤ (grow (putRow id (Sort.ahead w n) blk off F) os).heap.size := by
 have hlt : blk < w.heap.size := (Array.getElem?_eq_some_iff.1 hb).1
 have hsz : (putRow id (Sort.ahead w n) blk off F).heap.size = w.heap.size := by rw [Sort.size_putRow]; rfl
 have hold : ∀ j, j < w.heap.size → (grow (putRow id (Sort.ahead w n) blk off F) os).heap[j]? = (w.heap.modify blk (onCells (putCells id off F)))[j]? := by
  intro j hj
  show (_ ++ os)[j]? = _
  rw [Array.getElem?_append_left (by rw [hsz]; exact hj)]
  rfl
 refine ⟨putCells id off F C, ?_, by simp [putCells], ?_, fun j hj hjl => ?_, ?_⟩
 ·rw [hold blk hlt, Array.getElem?_modify]
  simp [hb, onCells]
 ·refine List.ext_getElem? fun j => ?_
  by_cases hj : j < F.size
  ·rw [List.getElem?_take, if_pos hj, List.getElem?_drop, Array.getElem?_toList, Array.getElem?_toList]
   simp only [putCells, Array.getElem?_mapIdx]
   rw [Array.getElem?_eq_getElem (show off + j < C.size by omega), Array.getElem?_eq_getElem hj]
   simp only [Option.map_some]
   rw [if_pos ⟨by omega, by omega⟩, show off + j - off = j by omega, getElem!_pos F j hj]
   rfl
  ·rw [List.getElem?_eq_none (by simp; omega), List.getElem?_eq_none (by simpa using hj)]
 ·rw [hold j hjl, Array.getElem?_modify, if_neg (Ne.symm hj)]
 ·rw [size_grow, hsz]; omega
theorem sort_worldK {w : World} {blk off : Nat} {C : Array Value} {T : TypeId} (hb : w.heap[blk]? = some (.cells C T (0, 0))) {β : Type} [Inhabited β] (enc : β → List Value) (k : Nat) (d : Array β) (hF : off + d.size * k ≤ C.size) (n : Nat) (os : Array Obj) :
  ∃ C', (sortWorldK enc k w blk off n d os).heap[blk]? = some (.cells C' T (0, 0)) ∧ C'.size = C.size ∧ (C'.toList.drop off).take (d.size * k) = (flatK enc k d).toList ∧
   (∀ j, j ≠ blk → j < w.heap.size → (sortWorldK enc k w blk off n d os).heap[j]? = w.heap[j]?) ∧ w.heap.size ≤ (sortWorldK enc k w blk off n d os).heap.size ∧
   (sortWorldK enc k w blk off n d os).os = w.os ∧ (sortWorldK enc k w blk off n d os).tape = w.tape ∧ (sortWorldK enc k w blk off n d os).output = w.output ∧ w.drawn ≤ (sortWorldK enc k w blk off n d os).drawn := by
 obtain ⟨C', h1, h2, h3, h4, h5⟩ := sort_world hb (F := flatK enc k d) (by rw [size_flatK]; exact hF) n os
 unfold sortWorldK putRowK
 rw [size_flatK] at h3
 exact ⟨C', h1, h2, h3, h4, h5, rfl, rfl, rfl, Nat.le_add_right _ _⟩
theorem swo_pull {α β : Type} {lt : α → α → Bool} (h : SWO lt) (f : β → α) : SWO (fun a b => lt (f a) (f b)) := ⟨fun _ => h.irrefl _, fun _ _ _ => h.trans _ _ _, fun _ _ _ => h.ntrans _ _ _⟩
theorem ACallP.sortFunc {P : Program} {ρ : Ren} (L : SlLaysF0.n6 P ρ) {α : Type} {k : Nat} (hk0 : 0 < k) (aE : ∀ w, (isAgg (ρ.t 24)).run P w = .ok true w) (zE : ∀ w, (Go.sizeOf (ρ.t 24)).run P w = .ok k w)
  (en : α → List AV) (henl : ∀ x, (en x).length = k) (henb : ∀ x, ∀ c ∈ en x, Bel 0 c) (Q : α → Prop) (cf : α → α → Int) (hO : SWO (fun a b : α => decide (cf a b < 0))) (g : FuncId)
  (hC : ∀ x y, Q x → Q y → Pure P g [.agg (en x), .agg (en y)] (.v (.int .i64 (cf x y)))) (hg : Enters P g) (l : List α) (hQ : ∀ x ∈ l, Q x) (hl : l.length < 4611686018427387904) {h : Heap} {n o gn : Nat}
  (ho : h o = some (.rows true gn k (l.map en))) {K : CallK} (hK : ∀ l' : List α, l'.Perm l → l'.Pairwise (fun a b => ¬ cf b a < 0) → K (.tup []) (upd h o (some (.rows true gn k (l'.map en)))) n) :
  ACallP P (ρ.f 6) [.sl o gn k 0 l.length, .fn (.func g) [] []] h n K := by
 have e6 : Enters P (ρ.f 6) := L.f6.enters rfl
 refine ⟨e6, fun M0 φ w vs hH hargs => ?_⟩
 cases hargs with
 | cons hs ht =>
 cases ht with
 | cons hf ht =>
 cases ht
 cases hf with
 | @fn _ _ _ fs cs q1 q2 =>
 cases q1; cases q2
 have hal : alive h o gn k := by simp [alive, ho]
 obtain ⟨A, cap, rfl, hcap, hA⟩ := hH.sl_alive hal hs
 have hnone : l = [] → Calls P (ρ.f 6) ⟨[.slice A l.length cap, .func (.func g) ⟨[]⟩ ⟨[]⟩]⟩ w fun e w' => ∃ v φ' r h' n', e = .returned v ∧ K r h' n' ∧ HRel φ' n' w' M0 h' ∧ Rel φ' w' (Or M0 (Mut φ' h')) r v ∧ Step φ w M0 h φ' w' h' := by
  intro he
  subst he
  refine (AnyF.slices_SortFunc_none L A cap _ w).mono ?_
  rintro e w' ⟨rfl, rfl⟩
  have := hK [] (.refl _) .nil
  rw [← ho, upd_self] at this
  exact ⟨_, φ, .tup [], h, n, rfl, this, hH, .tup (vs := []) .nil, .refl _ _ _ _⟩
 by_cases he : l = []
 ·exact hnone he
 have hlp : 0 < l.length := List.length_pos_iff.2 he
 rcases hA with ⟨rfl, _, h0, _⟩ | ⟨h0, rfl, _⟩ | ⟨a, bs, hp, hsp, rfl, hcb⟩
 ·omega
 ·omega
 obtain ⟨A0, hA0, hobj⟩ := hH.obj _ _ _ _ _ ho
 rw [hp] at hA0
 simp only [Option.some.injEq, Prod.mk.injEq, true_and] at hA0
 subst hA0
 rcases hobj with ⟨hobj, _⟩ | ⟨a₁, bs₁, e1, h0, hd⟩
 ·cases hobj
 simp only [Option.some.injEq, Prod.mk.injEq] at e1
 obtain ⟨rfl, rfl⟩ := e1
 obtain ⟨C, T, hb, hCs, hr, hle, hv, hrel⟩ := hd.cells hsp
 rw [List.length_map] at hle hv hrel
 have hrel0 : RelL noP w (Or M0 (Mut φ h)) (l.map en).flatten ((C.toList.drop a.off).take (l.length * k)) := relL_closed (fun _ hk => hk) (fun c hc => by
  obtain ⟨r, hr, hc⟩ := List.mem_flatten.1 hc
  obtain ⟨x, _, rfl⟩ := List.mem_map.1 hr
  exact henb x c hc) hrel
 obtain ⟨ls, hlx, hlv⟩ := elems (Q := Q) hQ hrel0 hv
 have hlen : ls.length = l.length := by rw [← hlx, List.length_map]
 obtain ⟨d, hd⟩ : ∃ d : Array (El w (Or M0 (Mut φ h)) en Q), d = ls.toArray := ⟨_, rfl⟩
 have hds : d.size = l.length := by rw [hd]; simpa using hlen
 haveI : Inhabited (El w (Or M0 (Mut φ h)) en Q) := ⟨ls[0]'(by omega)⟩
 have hkE : ∀ x : El w (Or M0 (Mut φ h)) en Q, x.vs.length = k := fun x => by rw [← x.rel.length, henl]
 have hMb : Or M0 (Mut φ h) a.block := .inr ⟨o, gn, k, _, gn, a, bs, ho, hp, rfl⟩
 have hblk : a.block < w.heap.size := (Array.getElem?_eq_some_iff.1 hb).1
 have hfl : ∀ d' : Array (El w (Or M0 (Mut φ h)) en Q), (flatK (fun x => x.vs) k d').toList = (d'.toList.map fun x => x.vs).flatten := fun d' => flatK_list _ hk0 hkE d'
 have hCal : Calls P (ρ.f 6) ⟨[.slice (some ⟨a.block, a.off + 0 * k, none⟩) l.length cap, .func (.func g) ⟨[]⟩ ⟨[]⟩]⟩ w fun e w' =>
   e = .returned (.tuple #[]) ∧ ∃ d' n os, PermIn 0 d.size d d' ∧ SortedIn (ltOf fun x y : El w (Or M0 (Mut φ h)) en Q => cf x.x y.x) 0 d.size d' ∧ w' = sortWorldK (fun x => x.vs) k w a.block a.off n d' os := by
  rw [Nat.zero_mul, Nat.add_zero, ← hds]
  refine AnyQ.slices_SortFunc L k aE zE (fun x : El w (Or M0 (Mut φ h)) en Q => x.vs) hkE (fun x => x.cells) (fun x y => cf x.x y.x) (swo_pull hO fun x : El w (Or M0 (Mut φ h)) en Q => x.x) g #[] a.block a.off cap d w hg ?_ ?_ hblk (by omega)
  ·intro m os dk hdk x y
   obtain ⟨hx1, hx2⟩ := hC x.x y.x x.q y.q
   obtain ⟨C', k1, k2, k3, k4, k5, k6, k7, k8, k9⟩ := sort_worldK (off := a.off) hb (fun x : El w (Or M0 (Mut φ h)) en Q => x.vs) k dk (by rw [hdk, hds]; omega) m os
   generalize sortWorldK (fun x : El w (Or M0 (Mut φ h)) en Q => x.vs) k w a.block a.off m dk os = X at *
   have hkeep : ∀ z : El w (Or M0 (Mut φ h)) en Q, RelL noP X (Or M0 (Mut φ h)) (en z.x) z.vs := fun z =>
    z.rel.keep noP.le_refl (fun j hj hjl => k4 j (fun e => hj (e ▸ hMb)) hjl) (fun j hj => .inl hj)
   have hag : ∀ z : El w (Or M0 (Mut φ h)) en Q, Rel noP X (Or M0 (Mut φ h)) (.agg (en z.x)) (.agg z.vs.toArray) := fun z => .agg z.cells (hkeep z)
   refine (hx2 (Or M0 (Mut φ h)) X [.agg x.vs.toArray, .agg y.vs.toArray] (fun j hj => Nat.lt_of_lt_of_le (hH.blk hj) k5) (hH.glob.keep (fun j hj hjl => k4 j (fun e => hj (e ▸ hMb)) hjl) (fun j hj => .inl hj)) (.cons (hag x) (.cons (hag y) .nil))).mono ?_
   rintro e w' ⟨v, rfl, hrv, hfr⟩
   cases hrv
   refine ⟨rfl, w'.drawn - X.drawn, w'.heap.extract X.heap.size w'.heap.size, ?_⟩
   have hheap : X.heap ++ w'.heap.extract X.heap.size w'.heap.size = w'.heap := by
    refine Array.ext_getElem? fun j => ?_
    by_cases hj : j < X.heap.size
    ·rw [Array.getElem?_append_left hj, hfr.block j hj (fun h => h)]
    ·rw [Array.getElem?_append_right (by omega), Array.getElem?_extract]
     have := hfr.size
     split
     ·congr 1; omega
     ·rw [Array.getElem?_eq_none (by omega)]
   have hdr : X.drawn + (w'.drawn - X.drawn) = w'.drawn := by have := hfr.drawn; omega
   cases w' with
   | mk hp tp dr os' out =>
    have e1 := hfr.os; have e2 := hfr.tape; have e3 := hfr.output
    simp only at e1 e2 e3 hheap hdr
    subst e1 e2 e3
    simp only [grow, World.drewN, hheap, hdr]
  ·intro j hj
   have hjl : j < ((C.toList.drop a.off).take (l.length * k)).length := by
    rw [← hlv, ← show (d.toList.map fun x => x.vs) = ls.map (·.vs) by rw [hd], ← hfl, Array.length_toList]; exact hj
   have hget : (flatK (fun x : El w (Or M0 (Mut φ h)) en Q => x.vs) k d)[j]! = C[a.off + j]! := by
    have e1 : (flatK (fun x : El w (Or M0 (Mut φ h)) en Q => x.vs) k d).toList = (C.toList.drop a.off).take (l.length * k) := by rw [hfl, hd]; exact hlv
    have hjC : a.off + j < C.size := by simp at hjl; omega
    rw [getElem!_pos _ j hj, getElem!_pos C _ hjC, ← Array.getElem_toList, ← Array.getElem_toList (xs := C)]
    simp only [e1, List.getElem_take, List.getElem_drop]
   have hjC : a.off + j < C.size := by simp at hjl; omega
   refine ⟨?_, ?_⟩
   ·simp only [World.cell?, hb]
    rw [hget]
    simp [hjC]
   ·simp [World.frozen?, hb]
 refine hCal.mono ?_
 rintro e w' ⟨rfl, d', n', os, hperm, hsort, rfl⟩
 obtain ⟨hps, _, hpp⟩ := hperm
 obtain ⟨C', k1, k2, k3, k4, k5, k6, k7, k8, k9⟩ := sort_worldK (off := a.off) hb (fun x : El w (Or M0 (Mut φ h)) en Q => x.vs) k d' (by rw [hps, hds]; omega) n' os
 generalize sortWorldK (fun x : El w (Or M0 (Mut φ h)) en Q => x.vs) k w a.block a.off n' d' os = X at *
 obtain ⟨l', hl'⟩ : ∃ l' : List α, l' = d'.toList.map fun x => x.x := ⟨_, rfl⟩
 have hl'l : l'.length = l.length := by rw [hl', List.length_map, Array.length_toList, hps, hds]
 have hpl : l'.Perm l := by
  have h1 : (d'.extract 0 d.size).toList = d'.toList := by rw [← hps]; simp
  have h2 : (d.extract 0 d.size).toList = d.toList := by simp
  rw [h1, h2] at hpp
  have := hpp.map fun x => x.x
  rw [hl', ← hlx]
  simpa [hd] using this
 have hpw : l'.Pairwise (fun x y => ¬ cf y x < 0) := by
  rw [hl', List.pairwise_map, List.pairwise_iff_getElem]
  intro i j hi hj hij
  have hi' : i < d'.size := by simpa using hi
  have hj' : j < d'.size := by simpa using hj
  have := hsort i j (Nat.zero_le _) hij (by omega)
  rw [getElem!_pos d' i hi', getElem!_pos d' j hj'] at this
  simpa [ltOf] using this
 have hwin : (C'.toList.drop a.off).take (l'.length * k) = (d'.toList.map fun x => x.vs).flatten := by
  rw [hps, hds, hfl] at k3
  rw [hl'l]; exact k3
 have hrel' : RelL φ w (Or M0 (Mut φ h)) (l'.map en).flatten ((C'.toList.drop a.off).take (l'.length * k)) := by
  rw [hwin, hl']
  generalize d'.toList = ds
  induction ds with
  | nil => exact .nil
  | cons z ds ih =>
   simp only [List.map_cons, List.flatten_cons]
   exact (z.rel.keep (fun o x ho => by cases ho) (fun _ _ _ => rfl) (fun k hk => .inl hk)).append ih
 have hle0 : φ.le (upd φ o (some (gn, some (a, bs)))) := by rw [← hp, upd_self]; exact φ.le_refl
 have hol : ¬ n ≤ o := fun hle => by rw [hH.fresh o hle] at hp; cases hp
 obtain ⟨g1, g2, g3⟩ := hH.set (w' := X) (F' := fun o => n ≤ o) (o := o) (mt := true) (g := gn) (sz := k) (rs := l'.map en) (A := some (a, bs))
  (fun _ h => h) hol k5 hle0 (fun j hj hjl => k4 j (fun e => hj (e ▸ hMb)) hjl)
  (fun o' mt' g' sz' rs' a₁ b₁ hne ho' hp' => by
   have := hH.inj _ _ _ _ _ _ _ _ _ _ _ _ _ _ ho ho' (Ne.symm hne) (.inl rfl) hp hp'
   have hlt : a₁.block < w.heap.size := by
    obtain ⟨A1, hA1, hc1⟩ := hH.obj _ _ _ _ _ ho'
    rw [hp'] at hA1
    simp only [Option.some.injEq, Prod.mk.injEq, true_and] at hA1
    subst hA1
    rcases hc1 with ⟨hc1, _⟩ | ⟨a2, b2, e2, _, hb2⟩
    ·cases hc1
    ·simp only [Option.some.injEq, Prod.mk.injEq] at e2
     obtain ⟨rfl, rfl⟩ := e2
     exact hb2.blk
   refine ⟨k4 _ (Ne.symm this) hlt, fun a₂ b₂ e => ?_⟩
   simp only [Option.some.injEq, Prod.mk.injEq] at e
   obtain ⟨rfl, rfl⟩ := e
   exact this)
  (fun a₁ b₁ e => by
   simp only [Option.some.injEq, Prod.mk.injEq] at e
   obtain ⟨rfl, rfl⟩ := e
   exact .inl hMb)
  (.inr ⟨a, bs, C', T, rfl, hsp, h0, k1, by rw [k2]; exact hCs, fun r hr => by
    obtain ⟨x, _, rfl⟩ := List.mem_map.1 hr
    exact henl x, by rw [List.length_map, hl'l]; exact hle, fun c hm => by
    rw [List.length_map, hwin] at hm
    obtain ⟨r, hr, hm⟩ := List.mem_flatten.1 hm
    obtain ⟨z, _, rfl⟩ := List.mem_map.1 hr
    exact z.cells c hm, by rw [List.length_map]; exact hrel'⟩)
 refine ⟨_, _, .tup [], _, n, rfl, hK l' hpl hpw, g1, .tup (vs := []) .nil, ⟨hle0, g2, ⟨k6, k7, k8, k9, k5, fun j hj hu => k4 j (fun e => hu ⟨o, gn, k, _, gn, a, bs, ho, hp, e.symm⟩) hj⟩, fun j hj => ?_⟩⟩
 rcases g3 j hj with h | ⟨a₁, b₁, e, rfl⟩
 ·exact .inl h
 ·simp only [Option.some.injEq, Prod.mk.injEq] at e
  obtain ⟨rfl, rfl⟩ := e
  exact .inl ⟨o, gn, k, _, gn, a, bs, ho, hp, rfl⟩
end Go.Av
end
section
/- The body of slices.SortFunc here is the one that the kit knows: laid in plain words (printed by laysort.py). -/
namespace Go.Proofs
open Go.Shelf
def zsort_ren : Go.Shelf.Ren := ⟨fun | 6 => 123 | 15 => 175 | 14 => 174 | 28 => 228 | 29 => 229 | 20 => 220 | 21 => 221 | 22 => 222 | 23 => 223 | 24 => 224 | 25 => 225 | 26 => 226 | 27 => 227 | 46 => 269 | 47 => 270 | 48 => 271 | 49 => 272 | 50 => 273 | 57 => 289 | n => n, fun | 22 => 108 | 24 => 112 | 25 => 188 | 3 => 3 | 39 => 219 | 0 => 0 | 53 => 280 | 55 => 282 | 4 => 4 | 46 => 274 | 45 => 273 | 50 => 62 | 5 => 5 | 9 => 9 | 66 => 313 | 70 => 317 | 76 => 341 | 77 => 203 | n => n, fun n => n⟩
theorem zsort : Go.Proofs.SlLaysF0.n6 Tryz.prog zsort_ren := {
 mixed := by kernel_rfl
 f6 := ⟨Tryz.f123.name, by decide, Tryz.func123.trans (congrArg some (by kernel_rfl))⟩
 f14 := ⟨Tryz.f174.name, by decide, Tryz.func174.trans (congrArg some (by kernel_rfl))⟩
 f15 := Tryz.func175.trans (congrArg some (by kernel_rfl))
 f20 := ⟨Tryz.f220.name, by decide, Tryz.func220.trans (congrArg some (by kernel_rfl))⟩
 f21 := ⟨Tryz.f221.name, by decide, Tryz.func221.trans (congrArg some (by kernel_rfl))⟩
 f22 := ⟨Tryz.f222.name, by decide, Tryz.func222.trans (congrArg some (by kernel_rfl))⟩
 f23 := ⟨Tryz.f223.name, by decide, Tryz.func223.trans (congrArg some (by kernel_rfl))⟩
 f24 := ⟨Tryz.f224.name, by decide, Tryz.func224.trans (congrArg some (by kernel_rfl))⟩
 f25 := ⟨Tryz.f225.name, by decide, Tryz.func225.trans (congrArg some (by kernel_rfl))⟩
 f26 := ⟨Tryz.f226.name, by decide, Tryz.func226.trans (congrArg some (by kernel_rfl))⟩
 f27 := ⟨Tryz.f227.name, by decide, Tryz.func227.trans (congrArg some (by kernel_rfl))⟩
 f28 := Tryz.func228.trans (congrArg some (by kernel_rfl))
 f29 := Tryz.func229.trans (congrArg some (by kernel_rfl))
 f46 := ⟨Tryz.f269.name, by decide, Tryz.func269.trans (congrArg some (by kernel_rfl))⟩
 f47 := Tryz.func270.trans (congrArg some (by kernel_rfl))
 f48 := Tryz.func271.trans (congrArg some (by kernel_rfl))
 f49 := ⟨Tryz.f272.name, by decide, Tryz.func272.trans (congrArg some (by kernel_rfl))⟩
 f50 := ⟨Tryz.f273.name, by decide, Tryz.func273.trans (congrArg some (by kernel_rfl))⟩
 f57 := ⟨Tryz.f289.name, by decide, Tryz.func289.trans (congrArg some (by kernel_rfl))⟩
 t0 := Tryz.underlying0
 a0 := Tryz.isAgg0
 z0 := Tryz.sizeOf0
 v0 := Tryz.zeroValue0
 t3 := Tryz.underlying3
 a3 := Tryz.isAgg3
 z3 := Tryz.sizeOf3
 v3 := Tryz.zeroValue3
 t4 := Tryz.underlying4
 a4 := Tryz.isAgg4
 z4 := Tryz.sizeOf4
 v4 := Tryz.zeroValue4
 t5 := Tryz.underlying5
 a5 := Tryz.isAgg5
 z5 := Tryz.sizeOf5
 v5 := Tryz.zeroValue5
 t9 := Tryz.underlying9
 a9 := Tryz.isAgg9
 z9 := Tryz.sizeOf9
 v9 := Tryz.zeroValue9
 t22 := Tryz.underlying108
 a22 := Tryz.isAgg108
 z22 := Tryz.sizeOf108
 v22 := Tryz.zeroValue108
 t25 := Tryz.underlying188
 a25 := Tryz.isAgg188
 z25 := Tryz.sizeOf188
 v25 := Tryz.zeroValue188
 t39 := Tryz.underlying219
 a39 := Tryz.isAgg219
 z39 := Tryz.sizeOf219
 v39 := Tryz.zeroValue219
 t45 := Tryz.underlying273
 a45 := Tryz.isAgg273
 z45 := Tryz.sizeOf273
 v45 := Tryz.zeroValue273
 t46 := Tryz.underlying274
 a46 := Tryz.isAgg274
 z46 := Tryz.sizeOf274
 v46 := Tryz.zeroValue274
 t50 := Tryz.underlying62
 a50 := Tryz.isAgg62
 z50 := Tryz.sizeOf62
 v50 := Tryz.zeroValue62
 t53 := Tryz.underlying280
 a53 := Tryz.isAgg280
 z53 := Tryz.sizeOf280
 v53 := Tryz.zeroValue280
 t55 := Tryz.underlying282
 a55 := Tryz.isAgg282
 z55 := Tryz.sizeOf282
 v55 := Tryz.zeroValue282
 t66 := Tryz.underlying313
 a66 := Tryz.isAgg313
 z66 := Tryz.sizeOf313
 v66 := Tryz.zeroValue313
 t70 := Tryz.underlying317
 a70 := Tryz.isAgg317
 z70 := Tryz.sizeOf317
 v70 := Tryz.zeroValue317
 t76 := Tryz.underlying341
 a76 := Tryz.isAgg341
 z76 := Tryz.sizeOf341
 v76 := Tryz.zeroValue341
 t77 := Tryz.underlying203
 a77 := Tryz.isAgg203
 z77 := Tryz.sizeOf203
 v77 := Tryz.zeroValue203 }
end Go.Proofs
end
section
/- Contracts: slices.CompactFunc and slices.SortFunc of outcomes, as run asks for them (printed by genGH.py). -/
open Go Go.Proofs
namespace Go.Av
theorem CompactR_owns (l : List OutD) (gn : Nat) (hl : l.length ≤ 17179869184) (hf : ∀ o ∈ l, FitsP o.pos) :
  OwnsA Tryz.prog 125 [.sl 0 gn 6 0 l.length, .fn (.func 126) [] []] [(0, .rows true gn 6 (l.map encOut))] 1
   (.sl 0 gn 6 0 (dedup l).length) [(0, .rows true gn 6 ((dedup l).map encOut ++ List.replicate (l.length - (dedup l).length) zeroO))] 1 := by
 unfold OwnsA
 by_cases h2 : l.length < 2
 ·rw [dedup_short h2]
  refine ACallP.of_awp (by kernel_rfl) Tryz.func125 rfl rfl (Nat.le_of_ble_eq_true rfl) (by kernel_rfl) ?_
  (repeat (first|with_reducible refine wV fun _=>?_|simp [go_sem]))
  (refine aIf.mkL (fun hT => ?_) (fun hT => by first | omega | (simp at hT; omega)); clear hT)
  (repeat (first|with_reducible refine wV fun _=>?_|simp [go_sem]))
  simp [go_sem, Wk_eq]
 obtain ⟨D, hD⟩ : ∃ D, D = dedup l := ⟨_, rfl⟩
 rw [← hD]
 have hE : ∀ i j, i < l.length → j < l.length → Pure Tryz.prog 126 [.agg (encOut (nth l i)), .agg (encOut (nth l j))] (.v (.bool (decide (nth l i = nth l j)))) :=
  fun i j hi hj => runs2_pure _ _ (hf _ (nth_mem hi)) (hf _ (nth_mem hj))
 refine ACallP.of_awp (by kernel_rfl) Tryz.func125 rfl rfl (Nat.le_of_ble_eq_true rfl) (by kernel_rfl) ?_
 (repeat (first|with_reducible refine wV fun _=>?_|simp [go_sem]))
 (refine aIf.mkL (fun hF => by first | omega | (simp at hF; omega)) (fun hF => ?_); clear hF)
 (repeat (first|with_reducible refine wV fun _=>?_|simp [go_sem]))
 refine ALoop.start (ALoop.ind (α := Nat) (fun j => ⟨[(0, .sl 0 gn 6 0 l.length), (1, .fn (.func 126) [] []), (5, .v (.int .i64 j))], [(0, .rows true gn 6 (l.map encOut))], 1⟩)
  (fun d j => 1 ≤ j ∧ j + d = l.length ∧ D = l.take j ++ dedupGo (nth l (j - 1)) (l.drop j)) ?_ (l.length - 1) 1 ?_) ?_ ?_
 ·rintro d j ⟨i1, i2, i3⟩ hrec
  have e1 : ((j : Int) - 1).toNat = j - 1 := by omega
  (repeat (first|with_reducible refine wV fun _=>?_|simp [go_sem]))
  refine aIf.mkL (fun hj => ?_) (fun hj => ?_) <;> simp at hj
  ·have hj' : j - 1 < l.length := by omega
   rw [dropG_cons hj, dedupGo] at i3
   (repeat (first|with_reducible refine wV fun _=>?_|simp [go_sem, hj, hj', e1]))
   refine dCall.plain (hE j (j - 1) hj hj') (by simp [go_sem]) ?_
   (repeat (first|with_reducible refine wV fun _=>?_|simp [go_sem, hj, hj', e1]))
   by_cases he : nth l j = nth l (j - 1)
   ·rw [if_pos he] at i3
    (repeat (first|with_reducible refine wV fun _=>?_|simp [go_sem, he, hj, hj', e1]))
    refine ALoop.start (ALoop.ind (α := Nat × List OutD × Nat) (fun a => ⟨[(0, .sl 0 gn 6 0 l.length), (1, .fn (.func 126) [] []), (5, .v (.int .i64 a.2.2)), (6, .sl 0 gn 6 j (l.length - j)), (7, .v (.int .i64 a.1))], [(0, .rows true gn 6 (a.2.1.map encOut))], 1⟩)
     (fun d a => 1 ≤ a.1 ∧ j + a.1 + d = l.length ∧ a.2.1.length = l.length ∧ a.2.2 ≤ j + a.1 - 1 ∧ a.2.1.drop (j + a.1 - 1) = l.drop (j + a.1 - 1) ∧ D = a.2.1.take a.2.2 ++ dedupGo (nth l (j + a.1 - 1)) (l.drop (j + a.1))) ?_ (l.length - j - 1) (1, l, j) ?_) ?_ ?_
    ·rintro d2 ⟨k2, R, k⟩ ⟨j1, j2, j3, j4, j5, j6⟩ hrec2
     simp only at j1 j2 j3 j4 j5 j6
     have e2 : ((k2 : Int) - 1).toNat = k2 - 1 := by omega
     have e3 : j + (k2 - 1) = j + k2 - 1 := by omega
     have hRn : ∀ m, j + k2 - 1 ≤ m → m < l.length → nth R m = nth l m := fun m h1 h2 => by
      have h3 : (R.drop (j + k2 - 1))[m - (j + k2 - 1)]? = (l.drop (j + k2 - 1))[m - (j + k2 - 1)]? := by rw [j5]
      rw [List.getElem?_drop, List.getElem?_drop, show j + k2 - 1 + (m - (j + k2 - 1)) = m by omega, List.getElem?_eq_getElem (by omega), List.getElem?_eq_getElem h2] at h3
      rw [nth_eq _ _ (by omega), nth_eq _ _ h2]
      exact Option.some.inj h3
     (repeat (first|with_reducible refine wV fun _=>?_|simp [go_sem, j3]))
     refine aIf.mkL (fun hk => ?_) (fun hk => ?_) <;> simp at hk
     ·have hk1 : j + k2 < l.length := by omega
      have hk0 : j + k2 - 1 < l.length := by omega
      have hr1 := hRn (j + k2) (by omega) hk1
      have hr0 := hRn (j + k2 - 1) (by omega) hk0
      rw [dropG_cons hk1, dedupGo] at j6
      have hk2 : k2 - 1 < l.length - j := by omega
      have hk3 : k < l.length := by omega
      (repeat (first|with_reducible refine wV fun _=>?_|simp [go_sem, j3, hk, hk1, hk0, hr1, hr0, e2, e3, hk2]))
      refine dCall.plain (hE (j + k2) (j + k2 - 1) hk1 hk0) (by simp [go_sem]) ?_
      (repeat (first|with_reducible refine wV fun _=>?_|simp [go_sem, j3, hk, hk1, hk0, hr1, hr0, e2, e3, hk2]))
      by_cases hc : nth l (j + k2) = nth l (j + k2 - 1)
      ·rw [if_pos hc] at j6
       (repeat (first|with_reducible refine wV fun _=>?_|simp [go_sem, hc]))
       refine ALoop.start (hrec2 (d2 - 1) (by omega) (k2 + 1, R, k) ⟨by simp only; omega, by simp only; omega, j3, by simp only; omega, ?_, ?_⟩) ?_ (by simp)
       ·have := congrArg (List.drop 1) j5
        rw [List.drop_drop, List.drop_drop] at this
        rw [show j + (k2 + 1) - 1 = j + k2 - 1 + 1 by omega]
        exact this
       ·simp only
        rw [show j + (k2 + 1) - 1 = j + k2 by omega, hc]
        exact j6
       ·simp [go_sem, Wk_eq]
      ·rw [if_neg hc] at j6
       (repeat (first|with_reducible refine wV fun _=>?_|simp [go_sem, hc, j3, hk, hk1, hk0, hr1, hr0, e2, e3, hk2, hk3]))
       refine ALoop.start (hrec2 (d2 - 1) (by omega) (k2 + 1, R.set k (nth l (j + k2)), k + 1) ⟨by simp only; omega, by simp only; omega, by simpa using j3, by simp only; omega, ?_, ?_⟩) ?_ (by simp)
       ·have := congrArg (List.drop 1) j5
        rw [List.drop_drop, List.drop_drop] at this
        simp only
        rw [show j + (k2 + 1) - 1 = j + k2 - 1 + 1 by omega, List.drop_set, if_pos (by omega)]
        exact this
       ·simp only
        rw [show j + (k2 + 1) - 1 = j + k2 by omega, List.take_add_one, List.take_set_of_le (by omega), List.getElem?_set_self (by omega), Option.toList_some, List.append_assoc]
        exact j6
       ·have hb : ∀ n, ∀ r ∈ ((R.set k (nth l (j + k2))).map encOut), ∀ c ∈ r, Bel n c := fun n => of_eq_true bel_Ou
        rw [List.map_set] at hb
        simp [go_sem, Wk_eq, List.map_set]
        exact hb 1
     ·rw [List.drop_eq_nil_of_le (by omega), dedupGo, List.append_nil] at j6
      have hDl : D.length = k := by rw [j6, List.length_take]; omega
      have hd0 : List.drop (k + (l.length - k)) (R.map encOut) = [] := List.drop_eq_nil_of_le (by simp; omega)
      have hDm : D.map encOut = List.take k (R.map encOut) := by rw [j6, List.map_take]
      (repeat (first|with_reducible refine wV fun _=>?_|simp [go_sem]))
      simp [go_sem, Wk_eq, hd0, hDl, hDm, zeroO]
      exact fun x hx => of_eq_true (bel_Ou (n := 1) (l := R)) x (List.mem_of_mem_take hx)
    ·refine ⟨Nat.le_refl _, by simp only; omega, rfl, by simp only; omega, rfl, ?_⟩
     simp only
     rw [Nat.add_sub_cancel, he]
     exact i3
    ·simp [go_sem, Wk_eq]
    ·simp
   ·rw [if_neg he] at i3
    (repeat (first|with_reducible refine wV fun _=>?_|simp [go_sem, he, hj, hj', e1]))
    refine ALoop.start (hrec (d - 1) (by omega) (j + 1) ⟨by omega, by omega, ?_⟩) ?_ (by simp)
    ·rw [i3, Nat.add_sub_cancel, List.take_add_one, List.getElem?_eq_getElem hj, nth_eq _ _ hj, Option.toList_some, List.append_assoc]; rfl
    ·simp [go_sem, Wk_eq]
  ·rw [List.drop_eq_nil_of_le hj, List.take_of_length_le hj, dedupGo, List.append_nil] at i3
   rw [i3]
   (repeat (first|with_reducible refine wV fun _=>?_|simp [go_sem]))
   simp [go_sem, Wk_eq]
 ·refine ⟨Nat.le_refl _, by omega, ?_⟩
  cases l with
  | nil => simp at h2
  | cons a l => rw [hD]; rfl
 ·simp [go_sem, Wk_eq]
 ·simp
theorem compactR_call (l : List OutD) (gn : Nat) (hl : l.length ≤ 17179869184) (hf : ∀ o ∈ l, FitsP o.pos) {h : Heap} {n o : Nat} (ho : h o = some (.rows true gn 6 (l.map encOut))) (hon : o < n) {K : CallK}
  (hK : K (.sl o gn 6 0 (dedup l).length) (upd h o (some (.rows true gn 6 ((dedup l).map encOut ++ List.replicate (l.length - (dedup l).length) zeroO)))) n) :
  ACallP Tryz.prog 125 [.sl o gn 6 0 l.length, .fn (.func 126) [] []] h n K := by
 have hz : ∀ m, ∀ r ∈ (dedup l).map encOut ++ List.replicate (l.length - (dedup l).length) zeroO, ∀ c ∈ r, Bel m c := by
  intro m r hr c hc
  rcases List.mem_append.1 hr with hr | hr
  ·exact bel_map_out _ r hr c hc
  ·rw [List.eq_of_mem_replicate hr] at hc
   simp only [zeroO, List.mem_cons, List.not_mem_nil, or_false] at hc
   rcases hc with rfl | rfl | rfl | rfl | rfl | rfl <;> exact .v _
 refine ACallP.ownsA (args' := [.sl o gn 6 0 l.length, .fn (.func 126) [] []]) (HH := [(o, .rows true gn 6 ((dedup l).map encOut ++ List.replicate (l.length - (dedup l).length) zeroO))])
  [o] h (CompactR_owns l gn hl hf) (by simp) (by simpa using hon) rfl (Nat.le_refl _) (.refl _) ?_ ?_ (.refl _ _ _ _) ?_ ?_ ?_ (.sl rfl) ?_ ?_
 ·intro j hj
  obtain rfl : j = 0 := by omega
  exact ⟨_, _, rfl, ho, .rows (.same (bel_map_out _))⟩
 ·intro p hp
  simp only [List.mem_singleton] at hp
  subst hp
  exact ⟨Nat.le_of_ble_eq_true rfl, bel_map_out _⟩
 ·intro y hy
  simp only [List.mem_cons, List.not_mem_nil, or_false] at hy
  rcases hy with rfl | rfl
  ·exact .sl hon
  ·simp [go_sem]
 ·exact .cons (.sl rfl) (.cons (.same (by simp [go_sem])) .nil)
 ·intro y hy
  simp only [List.mem_cons, List.not_mem_nil, or_false] at hy
  rcases hy with rfl | rfl
  ·exact .sl (by decide)
  ·simp [go_sem]
 ·exact .cons rfl (.rows (.same (hz 0))) .nil
 ·have e : over [(o, .rows true gn 6 ((dedup l).map encOut ++ List.replicate (l.length - (dedup l).length) zeroO))] (remH [o] h) = upd h o (some (.rows true gn 6 ((dedup l).map encOut ++ List.replicate (l.length - (dedup l).length) zeroO))) := by
   funext j
   simp only [over, remH, upd]
   by_cases j1 : j = o
   ·simp [j1]
   ·simp [j1]
  rw [e, Nat.sub_self, Nat.add_zero]
  exact hK
theorem compactR_call2 (l : List OutD) (gn m : Nat) (hm : l.length = m) (hl : m ≤ 17179869184) (hf : ∀ o ∈ l, FitsP o.pos) {h : Heap} {n o : Nat} (ho : h o = some (.rows true gn 6 (l.map encOut))) (hon : o < n) {K : CallK}
  (hK : K (.sl o gn 6 0 (dedup l).length) (upd h o (some (.rows true gn 6 ((dedup l).map encOut ++ List.replicate (l.length - (dedup l).length) zeroO)))) n) :
  ACallP Tryz.prog 125 [.sl o gn 6 0 m, .fn (.func 126) [] []] h n K := by
 subst hm
 exact compactR_call l gn hl hf ho hon hK
theorem swo_outR : Go.Sort.SWO (fun a b : OutD => decide (cmpO a b < 0)) := by
 refine ⟨fun x => ?_, fun x y z h1 h2 => ?_, fun x y z h1 h2 => ?_⟩
 ·have := cmp_out.swap x x
  simp; omega
 ·simp only [decide_eq_true_eq] at h1 h2 ⊢
  have t := cmp_out.tr x y z (by omega) (by omega)
  rcases Int.lt_or_eq_of_le t with h | h
  ·exact h
  ·have e := (cmp_out.eq _ _).1 h
   subst e
   have := cmp_out.swap x y
   omega
 ·simp only [decide_eq_false_iff_not] at h1 h2 ⊢
  have s1 := cmp_out.swap x y
  have s2 := cmp_out.swap y z
  have s3 := cmp_out.swap x z
  have t := cmp_out.tr z y x (by omega) (by omega)
  omega
theorem sortR_call (l : List OutD) (hf : ∀ o ∈ l, FitsP o.pos) (hl : l.length < 4611686018427387904) {h : Heap} {n o gn : Nat} (ho : h o = some (.rows true gn 6 (l.map encOut))) {K : CallK}
  (hK : K (.tup []) (upd h o (some (.rows true gn 6 ((sortC cmpO l).map encOut)))) n) :
  ACallP Tryz.prog 123 [.sl o gn 6 0 l.length, .fn (.func 124) [] []] h n K := by
 refine ACallP.sortFunc zsort (k := 6) (by omega) Tryz.isAgg112 Tryz.sizeOf112 encOut (fun _ => rfl) ?_ (fun o => FitsP o.pos) cmpO swo_outR _ (fun x y hx hy => rOrder_pure x y hx hy) ?_ l hf hl ho ?_
 ·intro x
  simp [go_sem]
 ·exact (rOrder_pure default default (by unfold FitsP Fits; decide) (by unfold FitsP Fits; decide)).1
 ·intro l' hp hs
  have : sortC cmpO l = l' := sortC_unique cmp_out hp (hs.imp fun {a b} hab => by
   have := cmp_out.swap a b
   simp only [leC, decide_eq_true_eq]
   omega)
  rw [← this]
  exact hK
end Go.Av
end
section
/- The body of slices.SortFunc here is the one that the kit knows: laid in plain words (printed by laysort.py). -/
namespace Go.Proofs
open Go.Shelf
end Go.Proofs
end
section
/- Contracts: slices.CompactFunc and slices.SortFunc of positions, as pos.Sort asks for them (printed by genGH.py). -/
open Go Go.Proofs
namespace Go.Av
end Go.Av
end
section
/- Contracts: slices.Clone of positions, pos.Sort, run.Runs. -/
open Go Go.Proofs
namespace Go.Av
theorem rRun_call (g : GameD) (hg : GOk g) (p : PosD) (hp : POk g p) (cell i : Int) (hc : ChoiceOk g p cell i) {h : Heap} {n a b : Nat} (hd : [a, b].Nodup) (hlt : ∀ j ∈ [a, b], j < n)
  (ha : h a = some (.rows true 0 5 [encPos p])) (hb : h b = some (.rows true 0 1 [[AV.nils]])) {K : CallK}
  (hK : K (.v (.int .i64 0)) (upd (upd (upd h a (some (.rows true 0 5 [encPos p]))) b (some (.rows true 0 1 [[.sl (n + 245) (lastO g p cell i).length 6 0 (lastO g p cell i).length]]))) (n + 245) (some (.rows true (lastO g p cell i).length 6 ((lastO g p cell i).map encOut)))) (n + 246)) :
  ACallP Tryz.prog 119 [.agg (encGame g), .agg (encPos p), .v (.int .i64 cell), .v (.int .i64 i), .fn (.func 120) [] [.ref a 0 5 0 0, .ref b 0 1 0 0]] h n K := by
 have hbg : ∀ m, Bel m (.agg (encGame g)) := fun m => by simp [go_sem]
 have hbp : ∀ m, ∀ c ∈ encPos p, Bel m c := fun m => by simp [go_sem]
 have hbq : ∀ m, Bel m (.agg (encPos p)) := fun m => by simp [go_sem]
 have han := hlt a (by simp)
 have hbn := hlt b (by simp)
 have hrows : ∀ m, ∀ r ∈ [encPos p], ∀ c ∈ r, Bel m c := fun m r hr => by simp only [List.mem_singleton] at hr; subst hr; exact hbp m
 refine ACallP.ownsA (args' := [.agg (encGame g), .agg (encPos p), .v (.int .i64 cell), .v (.int .i64 i), .fn (.func 120) [] [.ref a 0 5 0 0, .ref b 0 1 0 0]])
  (HH := [(a, .rows true 0 5 [encPos p]), (b, .rows true 0 1 [[.sl (n + 245) (lastO g p cell i).length 6 0 (lastO g p cell i).length]]), (n + 245, .rows true (lastO g p cell i).length 6 ((lastO g p cell i).map encOut))])
  [a, b] h (run_owns g hg p hp cell i hc) hd hlt rfl (by omega) (.refl _) ?_ ?_ (.refl _ _ _ _) ?_ ?_ ?_ (.same (.v _)) ?_ ?_
 ·intro j hj
  rcases (show j = 0 ∨ j = 1 by omega) with rfl | rfl
  ·exact ⟨_, _, rfl, ha, .rows (.same (hrows _))⟩
  ·exact ⟨_, _, rfl, hb, .rows (.same (by simp [go_sem]))⟩
 ·intro q hq
  simp only [List.mem_cons, List.not_mem_nil, or_false] at hq
  rcases hq with rfl | rfl
  ·exact ⟨Nat.le_of_ble_eq_true rfl, hrows _⟩
  ·exact ⟨Nat.le_of_ble_eq_true rfl, by simp [go_sem, BelO]⟩
 ·simp [go_sem, han, hbn]
 ·exact .cons (.same (hbg _)) (.cons (.same (hbq _)) (.cons (.same (.v _)) (.cons (.same (.v _)) (.cons (.fn .nil (.cons (.ref rfl) (.cons (.ref rfl) .nil))) .nil))))
 ·simp [go_sem]
 ·exact .cons rfl (.rows (.same (hrows _))) (.cons rfl (.rows (.cons (.cons (.sl rfl) .nil) .nil)) (.cons rfl (.rows (.same (bel_map_out _))) .nil))
 ·have e : over [(a, .rows true 0 5 [encPos p]), (b, .rows true 0 1 [[.sl (n + 245) (lastO g p cell i).length 6 0 (lastO g p cell i).length]]), (n + 245, .rows true (lastO g p cell i).length 6 ((lastO g p cell i).map encOut))] (remH [a, b] h) =
    upd (upd (upd h a (some (.rows true 0 5 [encPos p]))) b (some (.rows true 0 1 [[.sl (n + 245) (lastO g p cell i).length 6 0 (lastO g p cell i).length]]))) (n + 245) (some (.rows true (lastO g p cell i).length 6 ((lastO g p cell i).map encOut))) := by
   simp only [List.nodup_cons, List.mem_cons, List.not_mem_nil, or_false, not_or, List.nodup_nil, and_true, not_false_eq_true] at hd
   have na : a ≠ n + 245 := by omega
   have nb : b ≠ n + 245 := by omega
   funext j
   simp only [over, remH, upd]
   by_cases j1 : j = a
   ·subst j1; simp [hd, na]
   ·by_cases j2 : j = b
    ·subst j2; simp [j1, nb]
    ·by_cases j3 : j = n + 245
     ·subst j3; simp [j1, j2]
     ·simp [j1, j2, j3]
  rw [e]
  exact hK
theorem rRuns_pure (g : GameD) (hg : GOk g) (p : PosD) (hp : POk g p) (cell i : Int) (hc : ChoiceOk g p cell i) :
  Pure Tryz.prog 61 [.agg (encGame g), .agg (encPos p), .v (.int .i64 cell), .v (.int .i64 i)] (.tup [encOs (runsP g p cell i), .v (.int .i64 0)]) := by
 refine pF Tryz.func61 ?_
 have hl := (lastS_ok hg hp hc)
 have hll : (lastO g p cell i).length ≤ 100000000 := Nat.le_trans (List.length_filterMap_le _ _) hl.2
 have hf : ∀ o ∈ lastO g p cell i, FitsP o.pos := by
  intro o ho
  obtain ⟨s, hs, h⟩ := List.mem_filterMap.1 ho
  exact (putS_ok hg (hl.1 s hs).1 hp.s h).1.fits hg
 have hr : runsP g p cell i = sortU cmpO (lastO g p cell i) := rfl
 rw [hr]
 (repeat (first|with_reducible refine wV fun _=>?_|simp [go_sem]))
 refine rRun_call g hg p hp cell i hc (a := 1) (b := 2) (by decide) (by simp) (by simp [upd, encPos, encIs]) (by simp [upd]) ?_
 generalize lastO g p cell i = l at *
 (repeat (first|with_reducible refine wV fun _=>?_|simp [go_sem]))
 refine sortR_call l hf (by omega) (o := 248) (gn := l.length) (by simp [upd]) ?_
 (repeat (first|with_reducible refine wV fun _=>?_|simp [go_sem]))
 refine compactR_call2 (sortC cmpO l) l.length l.length (sortC_len l) (by omega) (fun o ho => hf o (sortC_mem.1 ho)) (o := 248) (by simp [upd]) (by omega) ?_
 (repeat (first|with_reducible refine wV fun _=>?_|simp [go_sem]))
 exact leV_frz rfl (by simp) (by simp [noH, upd]) (by rw [List.drop_zero]; exact List.take_left' (by simp))
end Go.Av
end
