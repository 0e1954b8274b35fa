/- Contracts, layer 22: splitting a position into parts. -/
import Derived.Test.YtpngjhfkaogdeaaGreatDL
import Derived.Test.YtpngjhfkaogdeaaGreatD0
import Derived.Test.YtpngjhfkaogdeaaGreatDQ
section
set_option linter.unusedSimpArgs false
set_option linter.unusedVariables false
open Go Go.Proofs
set_option maxRecDepth 20000
set_option maxHeartbeats 4000000
namespace Go.Av
/-- the names of the regions of a game -/
def ofG (g : GameD) : List Int := namesL (linksC (codeP g)) g.cells.toNat
theorem ofG_len (g : GameD) : (ofG g).length = g.cells.toNat := by simp [ofG, namesL]
theorem ofG_ok {g : GameD} (hg : GOk g) : OfOk (ofG g) := by
  have := hg.c9
  exact ofOk_namesL (by omega) (sideR_codeP hg 0) (sideR_codeP hg 1)
theorem ofG_cells {g : GameD} (hg : GOk g) : ((ofG g).length : Int) = g.cells := by
  have := hg.c1
  rw [ofG_len]; omega
def nmG (g : GameD) : List Int := namesU (ofG g) (ofG g).length
theorem nmG_len {g : GameD} (hg : GOk g) : 1 ≤ (nmG g).length ∧ (nmG g).length ≤ 9 := by
  have h1 := hg.c1
  have h9 := hg.c9
  have hl := ofG_cells hg
  have := (ofG_ok hg).pos (by omega)
  have := namesU_len (ofG g) (ofG g).length
  unfold nmG
  omega
/-- the first parts -/
def partsI (of names : List Int) (p : PosD) (i : Nat) : List PosD := (names.take i).map (partP of p)
theorem partsI_succ {of names : List Int} {p : PosD} {i : Nat} (h : i < names.length) : partsI of names p (i + 1) = partsI of names p i ++ [partP of p (nth names i)] := by
  unfold partsI; rw [take_succG h]; simp
theorem partsI_len {of names : List Int} {p : PosD} {i : Nat} (h : i ≤ names.length) : (partsI of names p i).length = i := by simp [partsI]; omega
theorem rSplit_pure (g : GameD) (hg : GOk g) (hn : NamesOk g) (p : PosD) (hp : POk g p) : Pure Tryz.prog 10 [.agg (encGame g), .agg (encPos p)]
    (.tup [encPs (if normalB g then partsP (ofG g) p else []), .v (.int .i64 (if normalB g then 0 else 220))]) := by
  refine Pure.of (ACallP.of_awp (by kernel_rfl) Tryz.func10 rfl rfl (Nat.le_of_ble_eq_true rfl) (by kernel_rfl) ?_)
  have hN := rNormal_pure g hg hn
  have hO := rOf_pure g hg
  have hl := ofG_cells hg
  have h9 := hg.c9
  have hal := hp.al
  have hofl : (ofG g).length ≤ 1048576 := by omega
  have hM := rNames_pure (ofG g) hofl
  have hP := fun name => rPart_pure (ofG g) p name (by omega) (by omega)
  have hnl := nmG_len hg
  have hres : partsP (ofG g) p = partsI (ofG g) (nmG g) p (nmG g).length := by unfold partsI; rw [List.take_length]; rfl
  rw [hres]
  change Pure _ _ _ (encIs (ofG g)) at hO
  change Pure _ _ _ (encIs (nmG g)) at hM
  have hgb : ∀ n, (∀ c ∈ encGame g, Bel n c) = True := fun n => by simp [go_sem]
  generalize ofG g = of at *
  generalize nmG g = nm at *
  obtain ⟨eg, heg⟩ : ∃ eg, eg = encGame g := ⟨_, rfl⟩
  have hel : eg.length = 9 := by rw [heg]; rfl
  rw [← heg] at hN hO hgb ⊢
  clear heg hres
  cases hnb : normalB g
  · rw [hnb] at hN
    (repeat (first | with_reducible (first | refine wL fun _ => ?_ | refine wD fun _ => ?_ | refine wE ?_ | refine adrZ.go ?_) | simp [go_sem, hel]))
    refine ACallP.plain hN (by simp [go_sem, hgb]) ?_
    (repeat (first | with_reducible (first | refine wL fun _ => ?_ | refine wD fun _ => ?_ | refine wE ?_ | refine adrZ.go ?_) | simp [go_sem, hel]))
    ((try simp only [encProg, encStep, encAct, encAs, encPath, encPt, encOut, encState, encPos, encOs, encSs, encPs, encIs, encGame, List.map_cons, List.map_nil, List.nil_append, List.append_nil, List.cons_append]); (repeat (first | (with_reducible exact LeRow.nil) | (with_reducible exact LeRows.nil) | (with_reducible exact LeV.refl _) | (with_reducible exact LeRow.refl _ _ _ _) | (with_reducible exact LeRows.refl _) | (with_reducible refine LeRow.cons ?_ ?_) | (with_reducible refine LeRows.cons ?_ ?_) | (with_reducible refine LeV.agg ?_) | (with_reducible refine LeV.tup ?_) | (with_reducible refine LeV.fn ?_ ?_) | (with_reducible exact LeV.nil _) | (with_reducible refine leRows_append (LeRows.refl _) ?_) | ((refine leV_frz rfl (by simp) (by simp [frzO, frz1, upd, noH]) ?_); (first | (simp [go_sem]; done) | (simp [go_sem]; exact List.take_of_length_le (by simp)))) | ((refine LeV.frz rfl (by simp) (by simp [frzO, frz1, upd, noH]) ?_); (simp only [List.drop_zero, List.take_succ_cons, List.take_zero, List.map_cons, List.map_nil])) | ((refine LeV.frzP rfl (by simp) (by simp) (by simp [frzO, frz1, upd, noH]) ?_); (simp only [nth_zero, List.drop_zero])))))
  · rw [hnb] at hN
    (repeat (first | with_reducible (first | refine wL fun _ => ?_ | refine wD fun _ => ?_ | refine wE ?_ | refine adrZ.go ?_) | simp [go_sem, hel]))
    refine ACallP.plain hN (by simp [go_sem, hgb]) ?_
    (repeat (first | with_reducible (first | refine wL fun _ => ?_ | refine wD fun _ => ?_ | refine wE ?_ | refine adrZ.go ?_) | simp [go_sem, hel]))
    refine ACallP.plain hO (by simp [go_sem, hgb]) ?_
    (repeat (first | with_reducible (first | refine wL fun _ => ?_ | refine wD fun _ => ?_ | refine wE ?_ | refine adrZ.go ?_) | simp [go_sem, hel]))
    refine ACallP.plain hM (by simp [go_sem]) ?_
    (repeat (first | with_reducible (first | refine wL fun _ => ?_ | refine wD fun _ => ?_ | refine wE ?_ | refine adrZ.go ?_) | simp [go_sem, hel]))
    refine ALoop.start (ALoop.ind (α := Nat) (fun i => ⟨[(3, .ref 1 0 5 0 0), (6, encIs of), (7, .sl 2 i 5 0 i), (16, encIs nm), (17, .int nm.length), (18, .v (.int .i64 i))], [(1, .rows true 0 5 [encPos p]), (2, .rows true i 5 ((partsI of nm p i).map encPos))], 3⟩)
      (fun d i => i + d = nm.length) ?_ nm.length 0 ?_) ?_ ?_
    · rintro d i i1 hrec
      have lp : (partsI of nm p i).length = i := partsI_len (by omega)
      (repeat (first | with_reducible (first | refine wL fun _ => ?_ | refine wD fun _ => ?_ | refine wE ?_ | refine adrZ.go ?_) | simp [go_sem]))
      refine aIf.mkL (fun hi => ?_) (fun hi => ?_) <;> simp at hi
      · have hs := partsI_succ (of := of) (p := p) hi
        (repeat (first | with_reducible (first | refine wL fun _ => ?_ | refine wD fun _ => ?_ | refine wE ?_ | refine adrZ.go ?_) | simp [go_sem, hi]))
        refine ACallP.plain (hP _) (by simp [go_sem]) ?_
        (repeat (first | with_reducible (first | refine wL fun _ => ?_ | refine wD fun _ => ?_ | refine wE ?_ | refine adrZ.go ?_) | simp [go_sem, lp]))
        refine ALoop.start (hrec (d - 1) (by omega) (i + 1) (by omega)) ?_ (by simp)
        simp [go_sem, Wk_eq, hs]
      · have hil : i = nm.length := by omega
        subst hil
        (repeat (first | with_reducible (first | refine wL fun _ => ?_ | refine wD fun _ => ?_ | refine wE ?_ | refine adrZ.go ?_) | simp [go_sem]))
        ((try simp only [encProg, encStep, encAct, encAs, encPath, encPt, encOut, encState, encPos, encOs, encSs, encPs, encIs, encGame, List.map_cons, List.map_nil, List.nil_append, List.append_nil, List.cons_append]); (repeat (first | (with_reducible exact LeRow.nil) | (with_reducible exact LeRows.nil) | (with_reducible exact LeV.refl _) | (with_reducible exact LeRow.refl _ _ _ _) | (with_reducible exact LeRows.refl _) | (with_reducible refine LeRow.cons ?_ ?_) | (with_reducible refine LeRows.cons ?_ ?_) | (with_reducible refine LeV.agg ?_) | (with_reducible refine LeV.tup ?_) | (with_reducible refine LeV.fn ?_ ?_) | (with_reducible exact LeV.nil _) | (with_reducible refine leRows_append (LeRows.refl _) ?_) | ((refine leV_frz rfl (by simp [lp]) (by simp [frzO, frz1, upd, noH]) ?_); (first | (simp [go_sem, lp]; done) | (simp [go_sem, lp]; exact List.take_of_length_le (by simp [lp])))) | ((refine LeV.frz rfl (by simp [lp]) (by simp [frzO, frz1, upd, noH]) ?_); (simp only [List.drop_zero, List.take_succ_cons, List.take_zero, List.map_cons, List.map_nil])) | ((refine LeV.frzP rfl (by simp [lp]) (by simp) (by simp [frzO, frz1, upd, noH]) ?_); (simp only [nth_zero, List.drop_zero])))))
    · simp
    · simp [go_sem, Wk_eq, partsI]
    · simp
theorem R22Split_pure (g : GameD) (hg : GOk g) (p : PosD) (hp : POk g p) : Pure Tryz.prog 11 [.agg (encGame g), .agg (encPos p)]
    (.tup [encPs (if normalB g then partsP (ofG g) p else []), .v (.bool (normalB g))]) := by
  refine Pure.of (ACallP.of_awp (by kernel_rfl) Tryz.func11 rfl rfl (Nat.le_of_ble_eq_true rfl) (by kernel_rfl) ?_)
  have hN := R22Normal_pure g (by have := hg.k6; omega)
  have hO := R22Of_pure g hg
  have hl := ofG_cells hg
  have h9 := hg.c9
  have hal := hp.al
  have hofl : (ofG g).length ≤ 1048576 := by omega
  have hM := R22Names_pure (ofG g) hofl
  have hP := fun name => R22Part_pure (ofG g) p name (by omega) (by omega)
  have hnl := nmG_len hg
  have hres : partsP (ofG g) p = partsI (ofG g) (nmG g) p (nmG g).length := by unfold partsI; rw [List.take_length]; rfl
  rw [hres]
  change Pure _ _ _ (encIs (ofG g)) at hO
  change Pure _ _ _ (encIs (nmG g)) at hM
  have hgb : ∀ n, (∀ c ∈ encGame g, Bel n c) = True := fun n => by simp [go_sem]
  generalize ofG g = of at *
  generalize nmG g = nm at *
  obtain ⟨eg, heg⟩ : ∃ eg, eg = encGame g := ⟨_, rfl⟩
  have hel : eg.length = 9 := by rw [heg]; rfl
  rw [← heg] at hN hO hgb ⊢
  clear heg hres
  cases hnb : normalB g
  · rw [hnb] at hN
    (repeat (first | with_reducible (first | refine wL fun _ => ?_ | refine wD fun _ => ?_ | refine wE ?_ | refine adrZ.go ?_) | simp [go_sem, hel]))
    refine ACallP.plain hN (by simp [go_sem, hgb]) ?_
    (repeat (first | with_reducible (first | refine wL fun _ => ?_ | refine wD fun _ => ?_ | refine wE ?_ | refine adrZ.go ?_) | simp [go_sem, hel]))
    ((try simp only [encProg, encStep, encAct, encAs, encPath, encPt, encOut, encState, encPos, encOs, encSs, encPs, encIs, encGame, List.map_cons, List.map_nil, List.nil_append, List.append_nil, List.cons_append]); (repeat (first | (with_reducible exact LeRow.nil) | (with_reducible exact LeRows.nil) | (with_reducible exact LeV.refl _) | (with_reducible exact LeRow.refl _ _ _ _) | (with_reducible exact LeRows.refl _) | (with_reducible refine LeRow.cons ?_ ?_) | (with_reducible refine LeRows.cons ?_ ?_) | (with_reducible refine LeV.agg ?_) | (with_reducible refine LeV.tup ?_) | (with_reducible refine LeV.fn ?_ ?_) | (with_reducible exact LeV.nil _) | (with_reducible refine leRows_append (LeRows.refl _) ?_) | ((refine leV_frz rfl (by simp) (by simp [frzO, frz1, upd, noH]) ?_); (first | (simp [go_sem]; done) | (simp [go_sem]; exact List.take_of_length_le (by simp)))) | ((refine LeV.frz rfl (by simp) (by simp [frzO, frz1, upd, noH]) ?_); (simp only [List.drop_zero, List.take_succ_cons, List.take_zero, List.map_cons, List.map_nil])) | ((refine LeV.frzP rfl (by simp) (by simp) (by simp [frzO, frz1, upd, noH]) ?_); (simp only [nth_zero, List.drop_zero])))))
  · rw [hnb] at hN
    (repeat (first | with_reducible (first | refine wL fun _ => ?_ | refine wD fun _ => ?_ | refine wE ?_ | refine adrZ.go ?_) | simp [go_sem, hel]))
    refine ACallP.plain hN (by simp [go_sem, hgb]) ?_
    (repeat (first | with_reducible (first | refine wL fun _ => ?_ | refine wD fun _ => ?_ | refine wE ?_ | refine adrZ.go ?_) | simp [go_sem, hel]))
    refine ACallP.plain hO (by simp [go_sem, hgb]) ?_
    (repeat (first | with_reducible (first | refine wL fun _ => ?_ | refine wD fun _ => ?_ | refine wE ?_ | refine adrZ.go ?_) | simp [go_sem, hel]))
    refine ACallP.plain hM (by simp [go_sem]) ?_
    (repeat (first | with_reducible (first | refine wL fun _ => ?_ | refine wD fun _ => ?_ | refine wE ?_ | refine adrZ.go ?_) | simp [go_sem, hel]))
    refine ALoop.start (ALoop.ind (α := Nat) (fun i => ⟨[(3, .ref 1 0 5 0 0), (6, encIs of), (7, encIs nm), (8, .sl 2 i 5 0 i), (9, .v (.int .i64 i))], [(1, .rows true 0 5 [encPos p]), (2, .rows true i 5 ((partsI of nm p i).map encPos))], 3⟩)
      (fun d i => i + d = nm.length) ?_ nm.length 0 ?_) ?_ ?_
    · rintro d i i1 hrec
      have lp : (partsI of nm p i).length = i := partsI_len (by omega)
      (repeat (first | with_reducible (first | refine wL fun _ => ?_ | refine wD fun _ => ?_ | refine wE ?_ | refine adrZ.go ?_) | simp [go_sem]))
      refine aIf.mkL (fun hi => ?_) (fun hi => ?_) <;> simp at hi
      · have hs := partsI_succ (of := of) (p := p) hi
        (repeat (first | with_reducible (first | refine wL fun _ => ?_ | refine wD fun _ => ?_ | refine wE ?_ | refine adrZ.go ?_) | simp [go_sem, hi]))
        try ((with_reducible refine adrZ.go ?_); (try simp [go_sem]))
        refine dCall.plain (hP _) (by simp [go_sem]) ?_
        (repeat (first | with_reducible (first | refine wL fun _ => ?_ | refine wD fun _ => ?_ | refine wE ?_ | refine adrZ.go ?_) | simp [go_sem, lp]))
        refine ALoop.start (hrec (d - 1) (by omega) (i + 1) (by omega)) ?_ (by simp)
        simp [go_sem, Wk_eq, hs]
      · have hil : i = nm.length := by omega
        subst hil
        (repeat (first | with_reducible (first | refine wL fun _ => ?_ | refine wD fun _ => ?_ | refine wE ?_ | refine adrZ.go ?_) | simp [go_sem]))
        ((try simp only [encProg, encStep, encAct, encAs, encPath, encPt, encOut, encState, encPos, encOs, encSs, encPs, encIs, encGame, List.map_cons, List.map_nil, List.nil_append, List.append_nil, List.cons_append]); (repeat (first | (with_reducible exact LeRow.nil) | (with_reducible exact LeRows.nil) | (with_reducible exact LeV.refl _) | (with_reducible exact LeRow.refl _ _ _ _) | (with_reducible exact LeRows.refl _) | (with_reducible refine LeRow.cons ?_ ?_) | (with_reducible refine LeRows.cons ?_ ?_) | (with_reducible refine LeV.agg ?_) | (with_reducible refine LeV.tup ?_) | (with_reducible refine LeV.fn ?_ ?_) | (with_reducible exact LeV.nil _) | (with_reducible refine leRows_append (LeRows.refl _) ?_) | ((refine leV_frz rfl (by simp [lp]) (by simp [frzO, frz1, upd, noH]) ?_); (first | (simp [go_sem, lp]; done) | (simp [go_sem, lp]; exact List.take_of_length_le (by simp [lp])))) | ((refine LeV.frz rfl (by simp [lp]) (by simp [frzO, frz1, upd, noH]) ?_); (simp only [List.drop_zero, List.take_succ_cons, List.take_zero, List.map_cons, List.map_nil])) | ((refine LeV.frzP rfl (by simp [lp]) (by simp) (by simp [frzO, frz1, upd, noH]) ?_); (simp only [nth_zero, List.drop_zero])))))
    · simp
    · simp [go_sem, Wk_eq, partsI]
    · simp
end Go.Av
end
section
set_option linter.unusedSimpArgs false
set_option linter.unusedVariables false
open Go Go.Proofs
set_option maxRecDepth 20000
set_option maxHeartbeats 4000000
namespace Go.Av
def zeroP : PosD := ⟨[], [], [], 0, 0⟩
/-- are these parts? -/
def joinOk (g : GameD) (l : List PosD) : Bool := normalB g && (decide (l.length = (nmG g).length) && okJ (ofG g) l l.length)
def joinRes (g : GameD) (l : List PosD) : PosD := if joinOk g l then joinP l (ofG g).length else zeroP
theorem sumA_bound {g : GameD} (hg : GOk g) {l : List PosD} (hl : ∀ p ∈ l, POk g p) {c : Nat} (hc : (c : Int) < g.cells) : ∀ k, k ≤ l.length → 0 ≤ sumA l k c ∧ sumA l k c ≤ 12 * k
  | 0, _ => by simp [sumA]
  | k + 1, hk => by
    have ih := sumA_bound hg hl hc k (by omega)
    have hp := hl _ (nth_mem (show k < l.length by omega))
    have hal := hp.al
    have := hp.av _ (nth_mem (show c < (nth l k).at_.length by omega))
    have k6 := hg.k6
    rw [sumA]
    omega
/-- what has been added up, in the part i up to the cell c -/
def sumQ (l : List PosD) (n i c : Nat) : List Int := (List.range n).map fun x => if x < c then sumA l (i + 1) x else sumA l i x
theorem sumQ_len (l : List PosD) (n i c : Nat) : (sumQ l n i c).length = n := by simp [sumQ]
theorem nth_sumQ (l : List PosD) {n : Nat} (i : Nat) {c : Nat} (hc : c < n) : nth (sumQ l n i c) c = sumA l i c := by
  unfold sumQ; rw [nth_rangeMap _ hc, if_neg (by omega)]
theorem sumQ_succ (l : List PosD) {n : Nat} (i : Nat) {c : Nat} (hc : c < n) : sumQ l n i (c + 1) = (sumQ l n i c).set c (sumA l i c + nth (nth l i).at_ c) := by
  refine list_ext_nth (by simp [sumQ]) fun x hx => ?_
  have hx' : x < n := by simpa [sumQ] using hx
  rw [nth_setE, sumQ_len]
  unfold sumQ
  rw [nth_rangeMap _ hx', nth_rangeMap _ hx']
  by_cases h : c = x
  · subst h
    rw [if_pos (show c < c + 1 by omega), if_pos (show c = c ∧ c < n from ⟨rfl, hc⟩)]; rfl
  · rw [if_neg (show ¬ (c = x ∧ x < n) from fun h' => h h'.1)]
    by_cases h2 : x < c
    · rw [if_pos (show x < c + 1 by omega), if_pos h2]
    · rw [if_neg (show ¬ x < c + 1 by omega), if_neg h2]
theorem sumQ_end (l : List PosD) (n i : Nat) : sumQ l n i n = sumQ l n (i + 1) 0 := by
  refine List.map_congr_left fun x hx => ?_
  have := List.mem_range.1 hx
  rw [if_pos this, if_neg (by omega)]
theorem sumQ_all (l : List PosD) (n : Nat) : sumQ l n l.length 0 = joinAt l n := by
  refine List.map_congr_left fun x hx => ?_
  rw [if_neg (by omega)]
theorem sumQ_zero (l : List PosD) (n : Nat) : sumQ l n 0 0 = List.replicate n 0 := by
  refine list_ext_nth (by simp [sumQ]) fun x hx => ?_
  have hx' : x < n := by simpa [sumQ] using hx
  unfold sumQ
  rw [nth_rangeMap _ hx', if_neg (by omega), nth_eq _ _ (by simpa using hx'), List.getElem_replicate]
  rfl
theorem okJ_false {of : List Int} {l : List PosD} {i : Nat} (hi : i < l.length) (h : (decide ((nth l i).side = (nth l 0).side) && decide (cmpP (nth l i) (partP of (nth l i) (nth (namesU of of.length) i)) = 0)) = false) : okJ of l l.length = false := by
  unfold okJ
  rw [List.all_eq_false]
  exact ⟨i, List.mem_range.2 hi, by simp [h]⟩
theorem rJoin_pure (g : GameD) (hg : GOk g) (hn : NamesOk g) (l : List PosD) (hl : ∀ p ∈ l, POk g p) (hll : l.length ≤ 1048576) : Pure Tryz.prog 18 [.agg (encGame g), encPs l]
    (.tup [.agg (encPos (joinRes g l)), .v (.int .i64 (if joinOk g l then 0 else 220))]) := by
  refine Pure.of (ACallP.of_awp (by kernel_rfl) Tryz.func18 rfl rfl (Nat.le_of_ble_eq_true rfl) (by kernel_rfl) ?_)
  have hN := rNormal_pure g hg hn
  have hO := rOf_pure g hg
  have hcl := ofG_cells hg
  have h9 := hg.c9
  have hofl : (ofG g).length ≤ 1048576 := by omega
  have hM := rNames_pure (ofG g) hofl
  have hP := fun (p : PosD) (hp : POk g p) name => rPart_pure (ofG g) p name (by have := hp.al; omega) (by have := hp.al; omega)
  have hV := fun (p : PosD) (hp : POk g p) => Valid_pure g (by have := hg.k6; unfold FitsG; omega) ⟨hg.r0, by have := hg.r4; omega⟩ p (hp.fits hg)
  have hC := fun (p q : PosD) (hp : POk g p) (hq : POk g q) => pCompare_pure p q (hp.fits hg) (hq.fits hg)
  have hnl := nmG_len hg
  change Pure _ _ _ (encIs (ofG g)) at hO
  change Pure _ _ _ (encIs (nmG g)) at hM
  have hgb : ∀ n, (∀ c ∈ encGame g, Bel n c) = True := fun n => by simp [go_sem]
  have hg0 : cel (encGame g) 0 = .v (.int .i64 g.cells) := rfl
  have hjo : joinOk g l = (normalB g && (decide (l.length = (nmG g).length) && okJ (ofG g) l l.length)) := rfl
  have hjr : joinRes g l = if joinOk g l then joinP l (ofG g).length else zeroP := rfl
  have hsb := fun (c : Nat) (hc : (c : Int) < g.cells) k hk => sumA_bound hg hl hc k hk
  have hnm : nmG g = namesU (ofG g) (ofG g).length := rfl
  have hokf := fun i hi h => okJ_false (of := ofG g) (l := l) (i := i) hi h
  have hoks := fun i => okJ_succ (ofG g) l i
  have hpo := fun (p : PosD) (hp : POk g p) name => partP_ok hp (ofG g) name
  have hal := fun p hp => (hl p hp).al
  rw [← hnm] at hokf hoks
  obtain ⟨n, hnn⟩ : ∃ n, n = (ofG g).length := ⟨_, rfl⟩
  rw [← hnn] at hcl hofl hjr
  have hofn := hnn.symm
  generalize ofG g = of at *
  generalize nmG g = nm at *
  obtain ⟨eg, heg⟩ : ∃ eg, eg = encGame g := ⟨_, rfl⟩
  have hel : eg.length = 9 := by rw [heg]; rfl
  have hpok : ∀ p : PosD, POk g p → posOk g p = true := fun p hp => pOk_iff.2 hp
  rw [← hcl] at hg0
  simp only [← hcl] at hal hsb
  rw [← heg] at hN hO hgb hV hg0 ⊢
  clear heg
  cases hnb : normalB g
  · rw [hnb] at hN hjo
    rw [hjr, hjo]
    (repeat (first | with_reducible (first | refine wL fun _ => ?_ | refine wD fun _ => ?_ | refine wE ?_ | refine adrZ.go ?_) | simp [go_sem, hel, zeroP]))
    refine ACallP.plain hN (by simp [go_sem, hgb]) ?_
    (repeat (first | with_reducible (first | refine wL fun _ => ?_ | refine wD fun _ => ?_ | refine wE ?_ | refine adrZ.go ?_) | simp [go_sem, hel]))
  · rw [hnb] at hN hjo
    (repeat (first | with_reducible (first | refine wL fun _ => ?_ | refine wD fun _ => ?_ | refine wE ?_ | refine adrZ.go ?_) | simp [go_sem, hel]))
    refine ACallP.plain hN (by simp [go_sem, hgb]) ?_
    (repeat (first | with_reducible (first | refine wL fun _ => ?_ | refine wD fun _ => ?_ | refine wE ?_ | refine adrZ.go ?_) | simp [go_sem, hel]))
    refine ACallP.plain hO (by simp [go_sem, hgb]) ?_
    (repeat (first | with_reducible (first | refine wL fun _ => ?_ | refine wD fun _ => ?_ | refine wE ?_ | refine adrZ.go ?_) | simp [go_sem, hel]))
    refine ACallP.plain hM (by simp [go_sem]) ?_
    (repeat (first | with_reducible (first | refine wL fun _ => ?_ | refine wD fun _ => ?_ | refine wE ?_ | refine adrZ.go ?_) | simp [go_sem, hel]))
    refine aIf.mkL (fun hlen => ?_) (fun hlen => ?_) <;> simp at hlen
    · have hlen' : ¬ l.length = nm.length := by omega
      have hf : joinOk g l = false := by rw [hjo]; simp [hlen']
      rw [hjr, hf]
      (repeat (first | with_reducible (first | refine wL fun _ => ?_ | refine wD fun _ => ?_ | refine wE ?_ | refine adrZ.go ?_) | simp [go_sem, hel, zeroP]))
    · have hlen' : l.length = nm.length := by omega
      have hl0 : 0 < l.length := by omega
      (repeat (first | with_reducible (first | refine wL fun _ => ?_ | refine wD fun _ => ?_ | refine wE ?_ | refine adrZ.go ?_) | simp [go_sem, hel, hl0, hg0]))
      refine ALoop.start (ALoop.ind (α := Nat) (fun i => ⟨[(2, .ref 0 0 9 0 0), (4, .ref 1 0 5 0 0), (6, encIs of), (7, encIs nm), (8, .ref 2 0 5 0 0), (35, encPs l), (36, .int l.length), (37, .v (.int .i64 i))],
          [(0, .rows true 0 9 [eg]), (1, .rows true 0 5 [[.v (.slice none 0 0), .v (.slice none 0 0), .v (.slice none 0 0), .v (.int .i64 0), .v (.int .i64 0)]]),
           (2, .rows true 0 5 [[.sl 3 0 1 0 n, encIs (nth l 0).h0, encIs (nth l 0).h1, .v (.int .i64 (nth l 0).rights), .v (.int .i64 (nth l 0).side)]]), (3, .rows true 0 1 ((sumQ l n i 0).map encI))], 4⟩)
        (fun d i => i + d = l.length ∧ okJ of l i = true) ?_ l.length 0 ?_) ?_ ?_
      · rintro d i ⟨i1, i2⟩ hrec
        have lq : (sumQ l n i 0).length = n := sumQ_len _ _ _ _
        (repeat (first | with_reducible (first | refine wL fun _ => ?_ | refine wD fun _ => ?_ | refine wE ?_ | refine adrZ.go ?_) | simp [go_sem]))
        refine aIf.mkL (fun hi => ?_) (fun hi => ?_) <;> simp at hi
        · have hm := nth_mem hi
          have hpi := hl _ hm
          have hin : i < nm.length := by omega
          have hVi := hV _ hpi
          rw [hpok _ hpi] at hVi
          have hCi := hC _ _ hpi (hpo _ hpi (nth nm i))
          have hPi := hP _ hpi (nth nm i)
          have hali := hal _ hm
          have hki := hoks i
          rw [i2] at hki
          have hfi := hokf i hi
          (repeat (first | with_reducible (first | refine wL fun _ => ?_ | refine wD fun _ => ?_ | refine wE ?_ | refine adrZ.go ?_) | simp [go_sem, hi, hel]))
          try ((with_reducible refine adrZ.go ?_); (try simp [go_sem]))
          refine dCall.plain hVi (by simp [go_sem, hgb]) ?_
          (repeat (first | with_reducible (first | refine wL fun _ => ?_ | refine wD fun _ => ?_ | refine wE ?_ | refine adrZ.go ?_) | simp [go_sem, hi, hin, hel]))
          try ((with_reducible refine adrZ.go ?_); (try simp [go_sem]))
          refine dGC.plain _ (fun _ => hPi) (by simp [go_sem]) ?_
          (repeat (first | with_reducible (first | refine wL fun _ => ?_ | refine wD fun _ => ?_ | refine wE ?_ | refine adrZ.go ?_) | simp [go_sem, hi, hin, hel]))
          try ((with_reducible refine adrZ.go ?_); (try simp [go_sem]))
          refine dGC.plain _ (fun _ => hCi) (by simp [go_sem]) ?_
          (repeat (first | with_reducible (first | refine wL fun _ => ?_ | refine wD fun _ => ?_ | refine wE ?_ | refine adrZ.go ?_) | simp [go_sem, hi, hin, hel]))
          refine aIf.mkL (fun hc => ?_) (fun hc => ?_)
          · have hf : joinOk g l = false := by
              rw [hjo, hfi (by rw [Bool.and_eq_false_iff]; simp at hc; rcases hc with h | h <;> simp [h])]; simp
            rw [hjr, hf]
            (repeat (first | with_reducible (first | refine wL fun _ => ?_ | refine wD fun _ => ?_ | refine wE ?_ | refine adrZ.go ?_) | simp [go_sem, zeroP]))
          · have hki' : okJ of l (i + 1) = true := by rw [hki]; simp at hc; simp [hc.1, hc.2]
            (repeat (first | with_reducible (first | refine wL fun _ => ?_ | refine wD fun _ => ?_ | refine wE ?_ | refine adrZ.go ?_) | simp [go_sem, hel]))
            refine ALoop.start (ALoop.ind (α := Nat) (fun c => ⟨[(2, .ref 0 0 9 0 0), (4, .ref 1 0 5 0 0), (6, encIs of), (7, encIs nm), (8, .ref 2 0 5 0 0), (35, encPs l), (36, .int l.length), (37, .v (.int .i64 i)), (67, encIs (nth l i).at_), (68, .int (nth l i).at_.length), (69, .v (.int .i64 c))],
                [(0, .rows true 0 9 [eg]), (1, .rows true 0 5 [[.v (.slice none 0 0), .v (.slice none 0 0), .v (.slice none 0 0), .v (.int .i64 0), .v (.int .i64 0)]]),
                 (2, .rows true 0 5 [[.sl 3 0 1 0 n, encIs (nth l 0).h0, encIs (nth l 0).h1, .v (.int .i64 (nth l 0).rights), .v (.int .i64 (nth l 0).side)]]), (3, .rows true 0 1 ((sumQ l n i c).map encI))], 4⟩)
              (fun s c => c + s = n) ?_ n 0 ?_) ?_ ?_
            · rintro s c j1 hrec2
              have lq : (sumQ l n i c).length = n := sumQ_len _ _ _ _
              (repeat (first | with_reducible (first | refine wL fun _ => ?_ | refine wD fun _ => ?_ | refine wE ?_ | refine adrZ.go ?_) | simp [go_sem]))
              refine aIf.mkL (fun hcc => ?_) (fun hcc => ?_) <;> simp at hcc
              · have hcn : c < n := by omega
                have hb := hsb c (by omega) i (by omega)
                have hb2 := hsb c (by omega) (i + 1) (by omega)
                rw [sumA] at hb2
                have hnq := nth_sumQ l i hcn
                have hsq := sumQ_succ l i hcn
                (repeat (first | with_reducible (first | refine wL fun _ => ?_ | refine wD fun _ => ?_ | refine wE ?_ | refine adrZ.go ?_) | simp [go_sem, hcc, hcn, lq, hnq]))
                refine ALoop.start (hrec2 (s - 1) (by omega) (c + 1) (by omega)) ?_ (by simp)
                simp [go_sem, Wk_eq, hsq]
                exact of_eq_true (hgb 4)
              · have hcD : c = n := by omega
                subst hcD
                have hse := sumQ_end l c i
                (repeat (first | with_reducible (first | refine wL fun _ => ?_ | refine wD fun _ => ?_ | refine wE ?_ | refine adrZ.go ?_) | simp [go_sem]))
                refine ALoop.start (hrec (d - 1) (by omega) (i + 1) ⟨by omega, hki'⟩) ?_ (by simp)
                simp [go_sem, Wk_eq, hse]
                exact of_eq_true (hgb 4)
            · simp
            · simp [go_sem, Wk_eq]
              exact of_eq_true (hgb 4)
            · simp
        · have hil : i = l.length := by omega
          subst hil
          have ht : joinOk g l = true := by rw [hjo, i2]; simp [hlen']
          have hjp : joinRes g l = ⟨sumQ l n l.length 0, (nth l 0).h0, (nth l 0).h1, (nth l 0).rights, (nth l 0).side⟩ := by
            rw [hjr, ht, if_pos rfl, sumQ_all]; rfl
          rw [hjp, ht]
          (repeat (first | with_reducible (first | refine wL fun _ => ?_ | refine wD fun _ => ?_ | refine wE ?_ | refine adrZ.go ?_) | simp [go_sem, lq]))
          ((try simp only [encProg, encStep, encAct, encAs, encPath, encPt, encOut, encState, encPos, encOs, encSs, encPs, encIs, encGame, List.map_cons, List.map_nil, List.nil_append, List.append_nil, List.cons_append]); (repeat (first | (with_reducible exact LeRow.nil) | (with_reducible exact LeRows.nil) | (with_reducible exact LeV.refl _) | (with_reducible exact LeRow.refl _ _ _ _) | (with_reducible exact LeRows.refl _) | (with_reducible refine LeRow.cons ?_ ?_) | (with_reducible refine LeRows.cons ?_ ?_) | (with_reducible refine LeV.agg ?_) | (with_reducible refine LeV.tup ?_) | (with_reducible refine LeV.fn ?_ ?_) | (with_reducible exact LeV.nil _) | (with_reducible refine leRows_append (LeRows.refl _) ?_) | ((refine leV_frz rfl (by simp [lq]) (by simp [frzO, frz1, upd, noH]) ?_); (first | (simp [go_sem, lq]; done) | (simp [go_sem, lq]; exact List.take_of_length_le (by simp [lq])))) | ((refine LeV.frz rfl (by simp [lq]) (by simp [frzO, frz1, upd, noH]) ?_); (simp only [List.drop_zero, List.take_succ_cons, List.take_zero, List.map_cons, List.map_nil])) | ((refine LeV.frzP rfl (by simp [lq]) (by simp) (by simp [frzO, frz1, upd, noH]) ?_); (simp only [nth_zero, List.drop_zero])))))
      · exact ⟨by omega, by simp [okJ]⟩
      · simp [go_sem, Wk_eq, sumQ_zero]
        exact of_eq_true (hgb 4)
      · simp
end Go.Av
end
section
set_option linter.unusedSimpArgs false
set_option linter.unusedVariables false
open Go Go.Proofs
set_option maxRecDepth 20000
set_option maxHeartbeats 4000000
namespace Go.Av
theorem noHand_normal {g : GameD} (h : normalB g = true) : NoHand g := by
  unfold normalB at h
  simp only [Bool.and_eq_true, decide_eq_true_eq, Bool.not_eq_true', List.any_eq_false] at h
  exact ⟨fun k hk => by have := h.1.1.2 k hk; simpa using this, h.1.1.1.1.2⟩
/-- what has been set, in the part i up to the cell c -/
def refQ (of nm : List Int) (l : List PosD) (n i c : Nat) : List Int := (List.range n).map fun x => if x < c then refA of nm l (i + 1) x else refA of nm l i x
theorem refQ_len (of nm : List Int) (l : List PosD) (n i c : Nat) : (refQ of nm l n i c).length = n := by simp [refQ]
theorem refQ_same (of nm : List Int) (l : List PosD) {n : Nat} (i : Nat) {c : Nat} (hc : c < n) (h : ¬ nth of c = nth nm i) : refQ of nm l n i (c + 1) = refQ of nm l n i c := by
  refine List.map_congr_left fun x hx => ?_
  by_cases h2 : x = c
  · subst h2
    rw [if_pos (show x < x + 1 by omega), if_neg (show ¬ x < x by omega), refA, if_neg h]
  · by_cases h3 : x < c
    · rw [if_pos (show x < c + 1 by omega), if_pos h3]
    · rw [if_neg (show ¬ x < c + 1 by omega), if_neg h3]
theorem refQ_set (of nm : List Int) (l : List PosD) {n : Nat} (i : Nat) {c : Nat} (hc : c < n) (h : nth of c = nth nm i) : refQ of nm l n i (c + 1) = (refQ of nm l n i c).set c (nth (nth l i).at_ c) := by
  refine list_ext_nth (by simp [refQ]) fun x hx => ?_
  have hx' : x < n := by simpa [refQ] using hx
  rw [nth_setE, refQ_len]
  unfold refQ
  rw [nth_rangeMap _ hx', nth_rangeMap _ hx']
  by_cases h2 : c = x
  · subst h2
    rw [if_pos (show c < c + 1 by omega), if_pos (show c = c ∧ c < n from ⟨rfl, hc⟩), refA, if_pos h]
  · rw [if_neg (show ¬ (c = x ∧ x < n) from fun h' => h2 h'.1)]
    by_cases h3 : x < c
    · rw [if_pos (show x < c + 1 by omega), if_pos h3]
    · rw [if_neg (show ¬ x < c + 1 by omega), if_neg h3]
theorem refQ_end (of nm : List Int) (l : List PosD) (n i : Nat) : refQ of nm l n i n = refQ of nm l n (i + 1) 0 := by
  refine List.map_congr_left fun x hx => ?_
  have := List.mem_range.1 hx
  rw [if_pos this, if_neg (show ¬ x < 0 by omega)]
theorem refQ_zero (of nm : List Int) (l : List PosD) (n : Nat) : refQ of nm l n 0 0 = List.replicate n 0 := by
  refine list_ext_nth (by simp [refQ]) fun x hx => ?_
  have hx' : x < n := by simpa [refQ] using hx
  unfold refQ
  rw [nth_rangeMap _ hx', if_neg (show ¬ x < 0 by omega), nth_eq _ _ (by simpa using hx'), List.getElem_replicate]
  rfl
theorem joinRes_ref {g : GameD} (hg : GOk g) {l : List PosD} (hl : ∀ p ∈ l, POk g p) (h : joinOk g l = true) :
    joinRes g l = ⟨refQ (ofG g) (nmG g) l (ofG g).length l.length 0, List.replicate g.kinds.length 0, List.replicate g.kinds.length 0, 0, (nth l 0).side⟩ := by
  unfold joinRes
  rw [if_pos h]
  unfold joinOk at h
  simp only [Bool.and_eq_true, decide_eq_true_eq] at h
  have hnh := noHand_normal h.1
  have hcl := ofG_cells hg
  have hnl := nmG_len hg
  obtain ⟨a, b, c⟩ := (hl _ (nth_mem (show 0 < l.length by omega))).zero hnh
  have ej : joinP l (ofG g).length = ⟨joinAt l (ofG g).length, (nth l 0).h0, (nth l 0).h1, (nth l 0).rights, (nth l 0).side⟩ := rfl
  rw [ej, a, b, c]
  have e : joinAt l (ofG g).length = refQ (ofG g) (nmG g) l (ofG g).length l.length 0 := by
    refine List.map_congr_left fun x hx => ?_
    rw [if_neg (show ¬ x < 0 by omega)]
    exact sumA_ref rfl (by have := h.2.1; unfold nmG at this; omega) h.2.2 (fun p hp => by have := (hl p hp).al; omega) (List.mem_range.1 hx) _ (Nat.le_refl _)
  rw [e]
theorem R22Join_pure (g : GameD) (hg : GOk g) (l : List PosD) (hl : ∀ p ∈ l, POk g p) (hll : l.length ≤ 1048576) : Pure Tryz.prog 19 [.agg (encGame g), encPs l]
    (.tup [.agg (encPos (joinRes g l)), .v (.bool (joinOk g l))]) := by
  refine Pure.of (ACallP.of_awp (by kernel_rfl) Tryz.func19 rfl rfl (Nat.le_of_ble_eq_true rfl) (by kernel_rfl) ?_)
  have k6 := hg.k6
  have hN := R22Normal_pure g (by omega)
  have hO := R22Of_pure g hg
  have hcl := ofG_cells hg
  have h9 := hg.c9
  have hofl : (ofG g).length ≤ 1048576 := by omega
  have hM := R22Names_pure (ofG g) hofl
  have hP := fun (p : PosD) (hp : POk g p) name => R22Part_pure (ofG g) p name (by have := hp.al; omega) (by have := hp.al; omega)
  have hV := fun (p : PosD) (hp : POk g p) => RValid_pure g (by unfold FitsG; omega) ⟨hg.r0, by have := hg.r4; omega⟩ p (hp.fits hg)
  have hC := fun (p q : PosD) (hp : POk g p) (hq : POk g q) => R4Same_pure p q (hp.fits hg) (hq.fits hg)
  have hnl := nmG_len hg
  change Pure _ _ _ (encIs (ofG g)) at hO
  change Pure _ _ _ (encIs (nmG g)) at hM
  have hgb : ∀ n, (∀ c ∈ encGame g, Bel n c) = True := fun n => by simp [go_sem]
  have hg0 : cel (encGame g) 0 = .v (.int .i64 g.cells) := rfl
  have hg3 : cel (encGame g) 3 = .lst 3 (g.kinds.map encKind) := rfl
  have hjo : joinOk g l = (normalB g && (decide (l.length = (nmG g).length) && okJ (ofG g) l l.length)) := rfl
  have hjr := joinRes_ref hg hl
  have hjz : joinOk g l = false → joinRes g l = zeroP := fun h => by unfold joinRes; rw [h]; rfl
  have hnm : nmG g = namesU (ofG g) (ofG g).length := rfl
  have hokf := fun i hi h => okJ_false (of := ofG g) (l := l) (i := i) hi h
  have hoks := fun i => okJ_succ (ofG g) l i
  have hpo := fun (p : PosD) (hp : POk g p) name => partP_ok hp (ofG g) name
  have hal := fun p hp => (hl p hp).al
  rw [← hnm] at hokf hoks
  obtain ⟨n, hnn⟩ : ∃ n, n = (ofG g).length := ⟨_, rfl⟩
  rw [← hnn] at hcl hofl hjr
  have hofn := hnn.symm
  generalize ofG g = of at *
  generalize nmG g = nm at *
  generalize hK : g.kinds.length = K at *
  obtain ⟨eg, heg⟩ : ∃ eg, eg = encGame g := ⟨_, rfl⟩
  have hel : eg.length = 9 := by rw [heg]; rfl
  have hpok : ∀ p : PosD, POk g p → posOk g p = true := fun p hp => pOk_iff.2 hp
  rw [← hcl] at hg0
  simp only [← hcl] at hal
  rw [← heg] at hN hO hgb hV hg0 hg3 ⊢
  clear heg
  (repeat (first | with_reducible (first | refine wL fun _ => ?_ | refine wD fun _ => ?_ | refine wE ?_ | refine adrZ.go ?_) | simp [go_sem, hel]))
  refine ACallP.plain hO (by simp [go_sem, hgb]) ?_
  (repeat (first | with_reducible (first | refine wL fun _ => ?_ | refine wD fun _ => ?_ | refine wE ?_ | refine adrZ.go ?_) | simp [go_sem, hel]))
  refine ACallP.plain hM (by simp [go_sem]) ?_
  (repeat (first | with_reducible (first | refine wL fun _ => ?_ | refine wD fun _ => ?_ | refine wE ?_ | refine adrZ.go ?_) | simp [go_sem, hel]))
  refine ACallP.plain hN (by simp [go_sem, hgb]) ?_
  (repeat (first | with_reducible (first | refine wL fun _ => ?_ | refine wD fun _ => ?_ | refine wE ?_ | refine adrZ.go ?_) | simp [go_sem, hel]))
  refine aIf.mkL (fun hc => ?_) (fun hc => ?_)
  · have hf : joinOk g l = false := by
      rw [hjo]
      simp at hc ⊢
      rcases hc with hc | hc
      · simp [hc]
      · intro _ h; exact absurd (by omega) hc
    rw [hjz hf, hf]
    (repeat (first | with_reducible (first | refine wL fun _ => ?_ | refine wD fun _ => ?_ | refine wE ?_ | refine adrZ.go ?_) | simp [go_sem, zeroP]))
  · have hnb : normalB g = true := by simp at hc; exact hc.1
    have hlen' : l.length = nm.length := by simp at hc; have := hc.2; omega
    rw [hnb] at hjo
    have hl0 : 0 < l.length := by omega
    (repeat (first | with_reducible (first | refine wL fun _ => ?_ | refine wD fun _ => ?_ | refine wE ?_ | refine adrZ.go ?_) | simp [go_sem, hel, hl0, hg0]))
    refine ALoop.unroll ?_
    (repeat (first | with_reducible (first | refine wL fun _ => ?_ | refine wD fun _ => ?_ | refine wE ?_ | refine adrZ.go ?_) | simp [go_sem, hel, hg3, hK]))
    refine ALoop.unroll ?_
    (repeat (first | with_reducible (first | refine wL fun _ => ?_ | refine wD fun _ => ?_ | refine wE ?_ | refine adrZ.go ?_) | simp [go_sem, hel, hg3, hK]))
    refine ALoop.unroll ?_
    (repeat (first | with_reducible (first | refine wL fun _ => ?_ | refine wD fun _ => ?_ | refine wE ?_ | refine adrZ.go ?_) | simp [go_sem, hel, hg3, hK]))
    refine ALoop.start (ALoop.ind (α := Nat) (fun i => ⟨[(1, encPs l), (2, .ref 0 0 9 0 0), (4, .ref 1 0 5 0 0), (6, encIs of), (7, encIs nm), (8, .ref 11 0 5 0 0), (10, .v (.int .i64 i))],
        [(0, .rows true 0 9 [eg]), (1, .rows true 0 5 [[.v (.slice none 0 0), .v (.slice none 0 0), .v (.slice none 0 0), .v (.int .i64 0), .v (.int .i64 0)]]),
          (5, .rows true 0 1 ((refQ of nm l n i 0).map encI)), (11, .rows true 0 5 [[.sl 5 0 1 0 n, .sl 13 0 1 0 K, .sl 14 0 1 0 K, .v (.int .i64 0), .v (.int .i64 (nth l 0).side)]]),
          (13, .rows true 0 1 ((List.replicate K 0).map encI)), (14, .rows true 0 1 ((List.replicate K 0).map encI))], 15⟩)
      (fun d i => i + d = l.length ∧ okJ of l i = true) ?_ l.length 0 ?_) ?_ ?_
    · rintro d i ⟨i1, i2⟩ hrec
      have lq : (refQ of nm l n i 0).length = n := refQ_len _ _ _ _ _ _
      (repeat (first | with_reducible (first | refine wL fun _ => ?_ | refine wD fun _ => ?_ | refine wE ?_ | refine adrZ.go ?_) | simp [go_sem]))
      refine aIf.mkL (fun hi => ?_) (fun hi => ?_) <;> simp at hi
      · have hm := nth_mem hi
        have hpi := hl _ hm
        have hin : i < nm.length := by omega
        have hVi := hV _ hpi
        rw [hpok _ hpi] at hVi
        have hCi := hC _ _ hpi (hpo _ hpi (nth nm i))
        have hPi := hP _ hpi (nth nm i)
        have hali := hal _ hm
        have hki := hoks i
        rw [i2] at hki
        have hfi := hokf i hi
        (repeat (first | with_reducible (first | refine wL fun _ => ?_ | refine wD fun _ => ?_ | refine wE ?_ | refine adrZ.go ?_) | simp [go_sem, hi, hel]))
        try ((with_reducible refine adrZ.go ?_); (try simp [go_sem]))
        refine dCall.plain hVi (by simp [go_sem, hgb]) ?_
        (repeat (first | with_reducible (first | refine wL fun _ => ?_ | refine wD fun _ => ?_ | refine wE ?_ | refine adrZ.go ?_) | simp [go_sem, hi, hin, hel]))
        try ((with_reducible refine adrZ.go ?_); (try simp [go_sem]))
        refine dGC.plain _ (fun _ => hPi) (by simp [go_sem]) ?_
        (repeat (first | with_reducible (first | refine wL fun _ => ?_ | refine wD fun _ => ?_ | refine wE ?_ | refine adrZ.go ?_) | simp [go_sem, hi, hin, hel]))
        try ((with_reducible refine adrZ.go ?_); (try simp [go_sem]))
        refine dGC.plain _ (fun _ => hCi) (by simp [go_sem]) ?_
        (repeat (first | with_reducible (first | refine wL fun _ => ?_ | refine wD fun _ => ?_ | refine wE ?_ | refine adrZ.go ?_) | simp [go_sem, hi, hin, hel]))
        refine aIf.mkL (fun hc => ?_) (fun hc => ?_)
        · have hf : joinOk g l = false := by
            rw [hjo, hfi (by rw [Bool.and_eq_false_iff]; simp at hc; rcases hc with h | h <;> simp [h])]; simp
          rw [hjz hf, hf]
          (repeat (first | with_reducible (first | refine wL fun _ => ?_ | refine wD fun _ => ?_ | refine wE ?_ | refine adrZ.go ?_) | simp [go_sem, zeroP]))
        · have hki' : okJ of l (i + 1) = true := by rw [hki]; simp at hc; simp [hc.1, hc.2]
          (repeat (first | with_reducible (first | refine wL fun _ => ?_ | refine wD fun _ => ?_ | refine wE ?_ | refine adrZ.go ?_) | simp [go_sem, hel]))
          refine ALoop.start (ALoop.ind (α := Nat) (fun c => ⟨[(1, encPs l), (2, .ref 0 0 9 0 0), (4, .ref 1 0 5 0 0), (6, encIs of), (7, encIs nm), (8, .ref 11 0 5 0 0), (10, .v (.int .i64 i)), (11, .v (.int .i64 c))],
              [(0, .rows true 0 9 [eg]), (1, .rows true 0 5 [[.v (.slice none 0 0), .v (.slice none 0 0), .v (.slice none 0 0), .v (.int .i64 0), .v (.int .i64 0)]]),
          (5, .rows true 0 1 ((refQ of nm l n i c).map encI)), (11, .rows true 0 5 [[.sl 5 0 1 0 n, .sl 13 0 1 0 K, .sl 14 0 1 0 K, .v (.int .i64 0), .v (.int .i64 (nth l 0).side)]]),
          (13, .rows true 0 1 ((List.replicate K 0).map encI)), (14, .rows true 0 1 ((List.replicate K 0).map encI))], 15⟩)
            (fun s c => c + s = n) ?_ n 0 ?_) ?_ ?_
          · rintro s c j1 hrec2
            have lq : (refQ of nm l n i c).length = n := refQ_len _ _ _ _ _ _
            (repeat (first | with_reducible (first | refine wL fun _ => ?_ | refine wD fun _ => ?_ | refine wE ?_ | refine adrZ.go ?_) | simp [go_sem, lq]))
            refine aIf.mkL (fun hcc => ?_) (fun hcc => ?_) <;> simp at hcc
            · have hcn : c < n := by omega
              have hcof : c < of.length := by omega
              have hca : c < (nth l i).at_.length := by omega
              (repeat (first | with_reducible (first | refine wL fun _ => ?_ | refine wD fun _ => ?_ | refine wE ?_ | refine adrZ.go ?_) | simp [go_sem, hi, hin, hcof]))
              refine aIf.mkL (fun he => ?_) (fun he => ?_) <;> simp at he
              · have hsq := refQ_set of nm l i hcn he
                (repeat (first | with_reducible (first | refine wL fun _ => ?_ | refine wD fun _ => ?_ | refine wE ?_ | refine adrZ.go ?_) | simp [go_sem, hi, hca, hcn, lq]))
                refine ALoop.start (hrec2 (s - 1) (by omega) (c + 1) (by omega)) ?_ (by simp)
                simp [go_sem, Wk_eq, hsq]
                exact of_eq_true (hgb 15)
              · have hsq := refQ_same of nm l i hcn he
                (repeat (first | with_reducible (first | refine wL fun _ => ?_ | refine wD fun _ => ?_ | refine wE ?_ | refine adrZ.go ?_) | simp [go_sem]))
                refine ALoop.start (hrec2 (s - 1) (by omega) (c + 1) (by omega)) ?_ (by simp)
                simp [go_sem, Wk_eq, hsq]
                exact of_eq_true (hgb 15)
            · have hcD : c = n := by omega
              subst hcD
              have hse := refQ_end of nm l c i
              (repeat (first | with_reducible (first | refine wL fun _ => ?_ | refine wD fun _ => ?_ | refine wE ?_ | refine adrZ.go ?_) | simp [go_sem]))
              refine ALoop.start (hrec (d - 1) (by omega) (i + 1) ⟨by omega, hki'⟩) ?_ (by simp)
              simp [go_sem, Wk_eq, hse]
              exact of_eq_true (hgb 15)
          · simp
          · simp [go_sem, Wk_eq]
            exact of_eq_true (hgb 15)
          · simp
      · have hil : i = l.length := by omega
        subst hil
        have ht : joinOk g l = true := by rw [hjo, i2]; simp [hlen']
        rw [hjr ht, ht]
        (repeat (first | with_reducible (first | refine wL fun _ => ?_ | refine wD fun _ => ?_ | refine wE ?_ | refine adrZ.go ?_) | simp [go_sem, lq]))
        refine ⟨?_, ?_, ?_⟩ <;> (refine LeV.frz rfl ?_ ?_ (LeRows.of_eq ?_) <;> simp [noH, lq, List.take_of_length_le])
    · exact ⟨by omega, by simp [okJ]⟩
    · simp [go_sem, Wk_eq, refQ_zero]
      exact of_eq_true (hgb 15)
    · simp
end Go.Av
end
section
set_option linter.unusedSimpArgs false
set_option linter.unusedVariables false
open Go Go.Proofs
set_option maxRecDepth 20000
set_option maxHeartbeats 4000000
namespace Go.Av
/-- what the lists of a code are -/
theorem sideP_nth (g : GameD) (s : Int) {k c : Nat} (hk : k < g.kinds.length) (hc : c < g.cells.toNat) : nth (nth (sideP g s) k) c = kindP g.board s (nth g.kinds k).progs c := by
  unfold sideP
  rw [nth_map _ _ _ hk]
  have hc' : c < (List.range g.board.cells.toNat).length := by rw [List.length_range]; exact hc
  show nth ((List.range g.board.cells.toNat).map fun (c : Nat) => kindP g.board s (nth g.kinds k).progs c) c = _
  rw [nth_map _ _ _ hc', nth_eq _ _ hc', List.getElem_range]
theorem sideP_nth' (g : GameD) (s : Int) {k c : Nat} (hk : k < g.kinds.length) (hc : c < g.cells.toNat) : nth (nth (sideP g s) k) c = kindP g.board s (nth g.kinds k).progs c := sideP_nth g s hk hc
/-
  rw [nth_map _ _ _ (by simpa [GameD.board] using hc), nth_eq _ _ (by simpa [GameD.board] using hc), List.getElem_range]
-/
/-- a code whose lists fit -/
structure FitC (g : GameD) (c : CodeD) : Prop where
  sh : ShapeOk g c
  len : ∀ l ∈ c.1 ++ c.2, ∀ x ∈ l, x.length ≤ 1099511627776 ∧ ActsLe 1048576 x
theorem fit_codeP {g : GameD} (hg : GOk g) : FitC g (codeP g) := by
  refine ⟨shape_codeP hg, ?_⟩
  have h : ∀ s, ∀ l ∈ sideP g s, ∀ x ∈ l, x.length ≤ 1099511627776 ∧ ActsLe 1048576 x := by
    intro s l hl x hx
    obtain ⟨k, hk, rfl⟩ := List.mem_map.1 hl
    obtain ⟨c, _, rfl⟩ := List.mem_map.1 hx
    exact ⟨by have := kindP_len hg s hk (c : Nat); omega, kindP_acts hg s hk _⟩
  intro l hl
  rcases List.mem_append.1 hl with hl | hl
  · exact h 0 l hl
  · exact h 1 l hl
theorem FitC.side {g : GameD} {c : CodeD} (h : FitC g c) {s : Nat} (hs : s < 2) : ∃ l, cel [encSide c.1, encSide c.2] s = encSide l ∧ l.length = g.kinds.length ∧ (∀ x ∈ l, (x.length : Int) = g.cells) ∧ ∀ x ∈ l, ∀ y ∈ x, y.length ≤ 1099511627776 ∧ ActsLe 1048576 y := by
  rcases (show s = 0 ∨ s = 1 by omega) with rfl | rfl
  · exact ⟨_, rfl, h.sh.l1, h.sh.c1, fun x hx => h.len x (by simp [hx])⟩
  · exact ⟨_, rfl, h.sh.l2, h.sh.c2, fun x hx => h.len x (by simp [hx])⟩
theorem libL_slide (d e k r : Int) (i : Nat) : countOp (nth (libL d e k r) i) 2 ≤ 1 := by
  rcases Nat.lt_or_ge i 16 with h | h
  · have : ∀ p ∈ libL d e k r, countOp p 2 ≤ 1 := by
      intro p hp
      simp only [libL, List.mem_cons, List.not_mem_nil, or_false] at hp
      rcases hp with rfl | rfl | rfl | rfl | rfl | rfl | rfl | rfl | rfl | rfl | rfl | rfl | rfl | rfl | rfl | rfl <;> simp [countOp]
    exact this _ (nth_mem h)
  · have e : nth (libL d e k r) i = [] := by
      unfold nth
      rw [List.getD_eq_getElem?_getD, List.getElem?_eq_none (by exact h)]; rfl
    rw [e]
    simp [countOp]
theorem fitP_slide {dirs kinds rights : Int} {p : List (Int × Int)} (h : countOp p 2 ≤ 1) : countOp (fitP dirs kinds rights p) 2 ≤ 1 := by
  unfold fitP
  split
  · simp [countOp]
  · exact Nat.le_trans (fit_count 2 p) h
theorem madeG_slide (x : RawG) : OneSlide (madeG x) := by
  intro k hk p hp
  obtain ⟨i, _, rfl⟩ := List.mem_map.1 hk
  obtain ⟨n, _, rfl⟩ := List.mem_map.1 hp
  exact fitP_slide (libL_slide _ _ _ _ _)
end Go.Av
end
section
set_option linter.unusedSimpArgs false
set_option linter.unusedVariables false
open Go Go.Proofs
set_option maxRecDepth 20000
set_option maxHeartbeats 4000000
namespace Go.Av
theorem countOp_filter (p : List (List (Int × Int))) : ∀ q ∈ p.filter plainP, q ∈ p := fun q h => (List.mem_filter.1 h).1
theorem plainG_slide {g : GameD} (h : OneSlide g) : OneSlide (plainG g) := by
  intro k hk p hp
  obtain ⟨k', hk', rfl⟩ := List.mem_map.1 hk
  exact h k' hk' p (List.mem_filter.1 hp).1
theorem apartG_slide {g : GameD} (h : OneSlide g) (w : Int) : OneSlide (apartG g w) := plainG_slide h
theorem plainG_names {g : GameD} (h : NamesOk g) : NamesOk (plainG g) := by
  have e : (plainG g).kinds.map (·.name) = g.kinds.map (·.name) := by simp [plainG, plainK]
  unfold NamesOk
  rw [e]; exact h
theorem apartG_names {g : GameD} (h : NamesOk g) (w : Int) : NamesOk (apartG g w) := plainG_names h
theorem madeG_names (x : RawG) : NamesOk (madeG x) := by
  unfold NamesOk madeG kindsN
  split
  · left; rfl
  · right; rfl
theorem normal_plain (g : GameD) : normalB (plainG g) = true := by
  unfold normalB plainG
  simp [plainK]
theorem normal_apart (g : GameD) (w : Int) : normalB (apartG g w) = true := normal_plain g
theorem small22_pure (g : GameD) (hg : GOk g) (hs : OneSlide g) : Pure Tryz.prog 8 [.agg (encGame g)] (.v (.bool (decide (countC (codeP g) ≤ 3000)))) := by
  refine Pure.of (ACallP.of_awp (by kernel_rfl) Tryz.func8 rfl rfl (Nat.le_of_ble_eq_true rfl) (by kernel_rfl) ?_)
  have hC := Compile8_pure g hg
  have hF := fit_codeP hg
  have hcnt := countC_le hg hs
  have hk6 := hg.k6
  have hc9 := hg.c9
  have hc1 := hg.c1
  have hN := Count8_pure (codeP g) (by omega) (by rw [hF.sh.l1]; omega) (by rw [hF.sh.l2]; omega) (fun y hy => by
    rcases List.mem_append.1 hy with h | h
    · have := hF.sh.c1 y h; omega
    · have := hF.sh.c2 y h; omega)
  have hgb : ∀ n, (∀ c ∈ encGame g, Bel n c) = True := fun n => by simp [go_sem]
  obtain ⟨eg, heg⟩ : ∃ eg, eg = encGame g := ⟨_, rfl⟩
  have hel : eg.length = 9 := by rw [heg]; rfl
  rw [← heg] at hC hgb ⊢
  clear heg
  have hecl : (encCode (codeP g)).length = 2 := rfl
  have hecb : ∀ n, (∀ c ∈ encCode (codeP g), Bel n c) = True := fun n => by simp [go_sem]
  generalize encCode (codeP g) = ec at *
  (repeat (first | with_reducible (first | refine wL fun _ => ?_ | refine wD fun _ => ?_ | refine wE ?_ | refine adrZ.go ?_) | simp [go_sem, hel]))
  refine ACallP.plain hC (by simp [go_sem, hgb]) ?_
  (repeat (first | with_reducible (first | refine wL fun _ => ?_ | refine wD fun _ => ?_ | refine wE ?_ | refine adrZ.go ?_) | simp [go_sem, hel, hecl]))
  refine ACallP.plain hN (by simp [go_sem, hecb]) ?_
  have e : decide ((countC (codeP g) : Int) ≤ 3000) = decide (countC (codeP g) ≤ 3000) := by
    refine decide_eq_decide.2 ?_; omega
  (repeat (first | with_reducible (first | refine wL fun _ => ?_ | refine wD fun _ => ?_ | refine wE ?_ | refine adrZ.go ?_) | simp [go_sem, e]))
/-! ### the fixed examples -/
def gS : GameD := ⟨4, [[1, -1, 3, -1]], [0], [⟨nameA, [[(1, 0)]], false⟩], 0, false, [], 3, 2⟩
def gM : GameD := { gS with must := true }
def pS : PosD := ⟨[1, 0, 1, 0], [0], [0], 0, 0⟩
def qS : PosD := ⟨[1, 0, 0, 0], [0], [0], 0, 0⟩
def rS : PosD := ⟨[0, 0, 1, 0], [0], [0], 0, 0⟩
theorem gS_prog : ProgOk 1 1 0 [(1, 0)] := ⟨by simp, by simp, by simp; exact ⟨by simp, by simp, by simp, by simp, by simp⟩, by decide, by decide, by decide⟩
theorem gS_board : BoardOk gS.board := ⟨rfl, by simp [gS, GameD.board], by simp [gS, GameD.board], by simp [gS, GameD.board], by simp [gS, GameD.board], by simp [gS, GameD.board], by simp [gS, GameD.board]⟩
theorem gS_ok : GOk gS := by
  refine ⟨gS_board, by decide, by decide, by decide, by decide, ?_, by decide, by decide, ?_, ?_, by decide, by decide, by simp [gS], by decide, by decide, by decide⟩
  · intro d hd
    have : d = 0 := by simp [gS] at hd; exact hd
    subst this; rfl
  · intro k hk
    simp [gS] at hk; subst hk; simp
  · intro k hk p hp
    simp [gS] at hk; subst hk
    simp at hp; subst hp
    exact gS_prog
theorem gM_ok : GOk gM := ⟨gS_ok.board, gS_ok.c1, gS_ok.c9, gS_ok.d1, gS_ok.d8, gS_ok.turn, gS_ok.k1, gS_ok.k6, gS_ok.pn, gS_ok.pr, gS_ok.r0, gS_ok.r4, gS_ok.cl, gS_ok.cn, gS_ok.bl, gS_ok.en⟩
theorem gS_names : NamesOk gS := .inl rfl
theorem gM_names : NamesOk gM := .inl rfl
theorem gS_of : ofG gS = [0, 0, 2, 2] := by decide +kernel
theorem gS_split : partsP (ofG gS) pS = [qS, rS] := by rw [gS_of]; decide +kernel
theorem gS_jo : joinOk gS [qS, rS] = true := by unfold joinOk nmG; rw [gS_of]; decide +kernel
theorem gS_jr : joinRes gS [qS, rS] = pS := by unfold joinRes; rw [gS_jo, gS_of]; decide +kernel
theorem gS_jo2 : joinOk gS [rS, qS] = false := by unfold joinOk nmG; rw [gS_of]; decide +kernel
theorem gS_jr2 : joinRes gS [rS, qS] = zeroP := by unfold joinRes; rw [gS_jo2]; rfl
theorem hand0_ok : HandOk gS [0] := ⟨rfl, fun i hi => by
  have : i = 0 := by simp at hi; exact hi
  subst this; decide⟩
theorem pS_ok : POk gS pS := ⟨rfl, by simp [pS, gS], hand0_ok, hand0_ok, by decide, by decide, .inl rfl⟩
theorem pM_ok : POk gM pS := ⟨rfl, by simp [pS, gM, gS], ⟨rfl, hand0_ok.v⟩, ⟨rfl, hand0_ok.v⟩, by decide, by decide, .inl rfl⟩
theorem qS_ok : POk gS qS := ⟨rfl, by simp [qS, gS], hand0_ok, hand0_ok, by decide, by decide, .inl rfl⟩
theorem rS_ok : POk gS rS := ⟨rfl, by simp [rS, gS], hand0_ok, hand0_ok, by decide, by decide, .inl rfl⟩
theorem sanity22_pure : Pure Tryz.prog 4 [] (.v (.bool true)) := by
  refine Pure.of (ACallP.of_awp (by kernel_rfl) Tryz.func4 rfl rfl (Nat.le_of_ble_eq_true rfl) (by kernel_rfl) ?_)
  have hS := rSplit_pure gS gS_ok gS_names pS pS_ok
  rw [gS_split, show normalB gS = true from rfl] at hS
  have hM := rSplit_pure gM gM_ok gM_names pS pM_ok
  rw [show normalB gM = false from rfl] at hM
  have hJ := rJoin_pure gS gS_ok gS_names [qS, rS] (by simp; exact ⟨qS_ok, rS_ok⟩) (by simp)
  rw [gS_jo, gS_jr] at hJ
  have hK := rJoin_pure gS gS_ok gS_names [rS, qS] (by simp; exact ⟨rS_ok, qS_ok⟩) (by simp)
  rw [gS_jo2, gS_jr2] at hK
  have hO := rOf_pure gS gS_ok
  change Pure _ _ _ (encIs (ofG gS)) at hO
  rw [gS_of] at hO
  have hL := Lists_pure [qS, rS] [qS, rS] (by simp) (by simp) (by simp; exact ⟨qS_ok.fits gS_ok, rS_ok.fits gS_ok⟩) (by simp; exact ⟨qS_ok.fits gS_ok, rS_ok.fits gS_ok⟩)
  have hI := Ints1_pure [0, 0, 2, 2] [0, 0, 2, 2] (by simp [Fits]) (by simp [Fits])
  have hE := R4Same_pure pS pS (pS_ok.fits gS_ok) (pS_ok.fits gS_ok)
  rw [show decide (cmpP pS pS = 0) = true from rfl] at hE
  rw [show decide (([qS, rS] : List PosD) = [qS, rS]) = true from by simp] at hL
  rw [show decide (([0, 0, 2, 2] : List Int) = [0, 0, 2, 2]) = true from rfl] at hI
  have hN := rNormal_pure gS gS_ok gS_names
  have hNM := rNormal_pure gM gM_ok gM_names
  rw [show normalB gS = true from rfl] at hN
  rw [show normalB gM = false from rfl] at hNM
  (repeat (first | with_reducible (first | refine wL fun _ => ?_ | refine wD fun _ => ?_ | refine wE ?_ | refine adrZ.go ?_) | simp [go_sem]))
  refine ACallP.pureF [0, 1, 2, 4, 5, 6, 8, 9, 10] hS ?_ (by simp [go_sem]) ?_
  · simp only [gS, gM, nameA, pS, qS, rS, encGame, encPos, encPs, encIss, encIs, encI, encKind, encStep, List.map_cons, List.map_nil]; ((try simp only [encProg, encStep, encAct, encAs, encPath, encPt, encOut, encState, encPos, encOs, encSs, encPs, encIs, encGame, List.map_cons, List.map_nil, List.nil_append, List.append_nil, List.cons_append]); (repeat (first | (with_reducible exact LeRow.nil) | (with_reducible exact LeRows.nil) | (with_reducible exact LeV.refl _) | (with_reducible exact LeRow.refl _ _ _ _) | (with_reducible exact LeRows.refl _) | (with_reducible refine LeRow.cons ?_ ?_) | (with_reducible refine LeRows.cons ?_ ?_) | (with_reducible refine LeV.agg ?_) | (with_reducible refine LeV.tup ?_) | (with_reducible refine LeV.fn ?_ ?_) | (with_reducible exact LeV.nil _) | (with_reducible refine leRows_append (LeRows.refl _) ?_) | ((refine leV_frz rfl (by simp) (by simp [frzO, frz1, upd, noH]) ?_); (first | (simp [go_sem]; done) | (simp [go_sem]; exact List.take_of_length_le (by simp)))) | ((refine LeV.frz rfl (by simp) (by simp [frzO, frz1, upd, noH]) ?_); (simp only [List.drop_zero, List.take_succ_cons, List.take_zero, List.map_cons, List.map_nil])) | ((refine LeV.frzP rfl (by simp) (by simp) (by simp [frzO, frz1, upd, noH]) ?_); (simp only [nth_zero, List.drop_zero])))))
  (repeat (first | with_reducible (first | refine wL fun _ => ?_ | refine wD fun _ => ?_ | refine wE ?_ | refine adrZ.go ?_) | simp [go_sem]))
  refine ACallP.pureF [12, 13, 14, 16, 17, 18, 20] hJ ?_ (by simp [go_sem]) ?_
  · simp only [gS, gM, nameA, pS, qS, rS, encGame, encPos, encPs, encIss, encIs, encI, encKind, encStep, List.map_cons, List.map_nil]; ((try simp only [encProg, encStep, encAct, encAs, encPath, encPt, encOut, encState, encPos, encOs, encSs, encPs, encIs, encGame, List.map_cons, List.map_nil, List.nil_append, List.append_nil, List.cons_append]); (repeat (first | (with_reducible exact LeRow.nil) | (with_reducible exact LeRows.nil) | (with_reducible exact LeV.refl _) | (with_reducible exact LeRow.refl _ _ _ _) | (with_reducible exact LeRows.refl _) | (with_reducible refine LeRow.cons ?_ ?_) | (with_reducible refine LeRows.cons ?_ ?_) | (with_reducible refine LeV.agg ?_) | (with_reducible refine LeV.tup ?_) | (with_reducible refine LeV.fn ?_ ?_) | (with_reducible exact LeV.nil _) | (with_reducible refine leRows_append (LeRows.refl _) ?_) | ((refine leV_frz rfl (by simp) (by simp [frzO, frz1, upd, noH]) ?_); (first | (simp [go_sem]; done) | (simp [go_sem]; exact List.take_of_length_le (by simp)))) | ((refine LeV.frz rfl (by simp) (by simp [frzO, frz1, upd, noH]) ?_); (simp only [List.drop_zero, List.take_succ_cons, List.take_zero, List.map_cons, List.map_nil])) | ((refine LeV.frzP rfl (by simp) (by simp) (by simp [frzO, frz1, upd, noH]) ?_); (simp only [nth_zero, List.drop_zero])))))
  (repeat (first | with_reducible (first | refine wL fun _ => ?_ | refine wD fun _ => ?_ | refine wE ?_ | refine adrZ.go ?_) | simp [go_sem]))
  refine ACallP.pureF [22] hK ?_ (by simp [go_sem]) ?_
  · simp only [gS, gM, nameA, pS, qS, rS, encGame, encPos, encPs, encIss, encIs, encI, encKind, encStep, List.map_cons, List.map_nil]; ((try simp only [encProg, encStep, encAct, encAs, encPath, encPt, encOut, encState, encPos, encOs, encSs, encPs, encIs, encGame, List.map_cons, List.map_nil, List.nil_append, List.append_nil, List.cons_append]); (repeat (first | (with_reducible exact LeRow.nil) | (with_reducible exact LeRows.nil) | (with_reducible exact LeV.refl _) | (with_reducible exact LeRow.refl _ _ _ _) | (with_reducible exact LeRows.refl _) | (with_reducible refine LeRow.cons ?_ ?_) | (with_reducible refine LeRows.cons ?_ ?_) | (with_reducible refine LeV.agg ?_) | (with_reducible refine LeV.tup ?_) | (with_reducible refine LeV.fn ?_ ?_) | (with_reducible exact LeV.nil _) | (with_reducible refine leRows_append (LeRows.refl _) ?_) | ((refine leV_frz rfl (by simp) (by simp [frzO, frz1, upd, noH]) ?_); (first | (simp [go_sem]; done) | (simp [go_sem]; exact List.take_of_length_le (by simp)))) | ((refine LeV.frz rfl (by simp) (by simp [frzO, frz1, upd, noH]) ?_); (simp only [List.drop_zero, List.take_succ_cons, List.take_zero, List.map_cons, List.map_nil])) | ((refine LeV.frzP rfl (by simp) (by simp) (by simp [frzO, frz1, upd, noH]) ?_); (simp only [nth_zero, List.drop_zero])))))
  (repeat (first | with_reducible (first | refine wL fun _ => ?_ | refine wD fun _ => ?_ | refine wE ?_ | refine adrZ.go ?_) | simp [go_sem]))
  refine ACallP.pureF [] hM ?_ (by simp [go_sem]) ?_
  · simp only [gS, gM, nameA, pS, qS, rS, encGame, encPos, encPs, encIss, encIs, encI, encKind, encStep, List.map_cons, List.map_nil]; ((try simp only [encProg, encStep, encAct, encAs, encPath, encPt, encOut, encState, encPos, encOs, encSs, encPs, encIs, encGame, List.map_cons, List.map_nil, List.nil_append, List.append_nil, List.cons_append]); (repeat (first | (with_reducible exact LeRow.nil) | (with_reducible exact LeRows.nil) | (with_reducible exact LeV.refl _) | (with_reducible exact LeRow.refl _ _ _ _) | (with_reducible exact LeRows.refl _) | (with_reducible refine LeRow.cons ?_ ?_) | (with_reducible refine LeRows.cons ?_ ?_) | (with_reducible refine LeV.agg ?_) | (with_reducible refine LeV.tup ?_) | (with_reducible refine LeV.fn ?_ ?_) | (with_reducible exact LeV.nil _) | (with_reducible refine leRows_append (LeRows.refl _) ?_) | ((refine leV_frz rfl (by simp) (by simp [frzO, frz1, upd, noH]) ?_); (first | (simp [go_sem]; done) | (simp [go_sem]; exact List.take_of_length_le (by simp)))) | ((refine LeV.frz rfl (by simp) (by simp [frzO, frz1, upd, noH]) ?_); (simp only [List.drop_zero, List.take_succ_cons, List.take_zero, List.map_cons, List.map_nil])) | ((refine LeV.frzP rfl (by simp) (by simp) (by simp [frzO, frz1, upd, noH]) ?_); (simp only [nth_zero, List.drop_zero])))))
  (repeat (first | with_reducible (first | refine wL fun _ => ?_ | refine wD fun _ => ?_ | refine wE ?_ | refine adrZ.go ?_) | simp [go_sem]))
  refine aGC.go ?_
  refine ACallP.flat hL (.v _) ?_ (by simp [go_sem]) ?_
  · simp only [gS, gM, nameA, pS, qS, rS, encGame, encPos, encPs, encIss, encIs, encI, encKind, encStep, List.map_cons, List.map_nil]; ((try simp only [encProg, encStep, encAct, encAs, encPath, encPt, encOut, encState, encPos, encOs, encSs, encPs, encIs, encGame, List.map_cons, List.map_nil, List.nil_append, List.append_nil, List.cons_append]); (repeat (first | (with_reducible exact LeRow.nil) | (with_reducible exact LeRows.nil) | (with_reducible exact LeV.refl _) | (with_reducible exact LeRow.refl _ _ _ _) | (with_reducible exact LeRows.refl _) | (with_reducible refine LeRow.cons ?_ ?_) | (with_reducible refine LeRows.cons ?_ ?_) | (with_reducible refine LeV.agg ?_) | (with_reducible refine LeV.tup ?_) | (with_reducible refine LeV.fn ?_ ?_) | (with_reducible exact LeV.nil _) | (with_reducible refine leRows_append (LeRows.refl _) ?_) | ((refine leV_frz rfl (by simp) (by simp [frzO, frz1, upd, noH]) ?_); (first | (simp [go_sem]; done) | (simp [go_sem]; exact List.take_of_length_le (by simp)))) | ((refine LeV.frz rfl (by simp) (by simp [frzO, frz1, upd, noH]) ?_); (simp only [List.drop_zero, List.take_succ_cons, List.take_zero, List.map_cons, List.map_nil])) | ((refine LeV.frzP rfl (by simp) (by simp) (by simp [frzO, frz1, upd, noH]) ?_); (simp only [nth_zero, List.drop_zero])))))
  (repeat (first | with_reducible (first | refine wL fun _ => ?_ | refine wD fun _ => ?_ | refine wE ?_ | refine adrZ.go ?_) | simp [go_sem]))
  refine aGC.go ?_
  refine ACallP.flat hE (.v _) ?_ (by simp [go_sem]) ?_
  · simp only [pS, encPos, encIs, encI, List.map_cons, List.map_nil]; ((try simp only [encProg, encStep, encAct, encAs, encPath, encPt, encOut, encState, encPos, encOs, encSs, encPs, encIs, encGame, List.map_cons, List.map_nil, List.nil_append, List.append_nil, List.cons_append]); (repeat (first | (with_reducible exact LeRow.nil) | (with_reducible exact LeRows.nil) | (with_reducible exact LeV.refl _) | (with_reducible exact LeRow.refl _ _ _ _) | (with_reducible exact LeRows.refl _) | (with_reducible refine LeRow.cons ?_ ?_) | (with_reducible refine LeRows.cons ?_ ?_) | (with_reducible refine LeV.agg ?_) | (with_reducible refine LeV.tup ?_) | (with_reducible refine LeV.fn ?_ ?_) | (with_reducible exact LeV.nil _) | (with_reducible refine leRows_append (LeRows.refl _) ?_) | ((refine leV_frz rfl (by simp) (by simp [frzO, frz1, upd, noH]) ?_); (first | (simp [go_sem]; done) | (simp [go_sem]; exact List.take_of_length_le (by simp)))) | ((refine LeV.frz rfl (by simp) (by simp [frzO, frz1, upd, noH]) ?_); (simp only [List.drop_zero, List.take_succ_cons, List.take_zero, List.map_cons, List.map_nil])) | ((refine LeV.frzP rfl (by simp) (by simp) (by simp [frzO, frz1, upd, noH]) ?_); (simp only [nth_zero, List.drop_zero])))))
  (repeat (first | with_reducible (first | refine wL fun _ => ?_ | refine wD fun _ => ?_ | refine wE ?_ | refine adrZ.go ?_) | simp [go_sem]))
  refine aGC.go ?_
  refine ACallP.pureF [] hO ?_ (by simp [go_sem]) ?_
  · simp only [gS, gM, nameA, pS, qS, rS, encGame, encPos, encPs, encIss, encIs, encI, encKind, encStep, List.map_cons, List.map_nil]; ((try simp only [encProg, encStep, encAct, encAs, encPath, encPt, encOut, encState, encPos, encOs, encSs, encPs, encIs, encGame, List.map_cons, List.map_nil, List.nil_append, List.append_nil, List.cons_append]); (repeat (first | (with_reducible exact LeRow.nil) | (with_reducible exact LeRows.nil) | (with_reducible exact LeV.refl _) | (with_reducible exact LeRow.refl _ _ _ _) | (with_reducible exact LeRows.refl _) | (with_reducible refine LeRow.cons ?_ ?_) | (with_reducible refine LeRows.cons ?_ ?_) | (with_reducible refine LeV.agg ?_) | (with_reducible refine LeV.tup ?_) | (with_reducible refine LeV.fn ?_ ?_) | (with_reducible exact LeV.nil _) | (with_reducible refine leRows_append (LeRows.refl _) ?_) | ((refine leV_frz rfl (by simp) (by simp [frzO, frz1, upd, noH]) ?_); (first | (simp [go_sem]; done) | (simp [go_sem]; exact List.take_of_length_le (by simp)))) | ((refine LeV.frz rfl (by simp) (by simp [frzO, frz1, upd, noH]) ?_); (simp only [List.drop_zero, List.take_succ_cons, List.take_zero, List.map_cons, List.map_nil])) | ((refine LeV.frzP rfl (by simp) (by simp) (by simp [frzO, frz1, upd, noH]) ?_); (simp only [nth_zero, List.drop_zero])))))
  (repeat (first | with_reducible (first | refine wL fun _ => ?_ | refine wD fun _ => ?_ | refine wE ?_ | refine adrZ.go ?_) | simp [go_sem]))
  refine aGC.go ?_
  refine ACallP.flat hI (.v _) ?_ (by simp [go_sem]) ?_
  · simp only [encIs, encI, List.map_cons, List.map_nil]; ((try simp only [encProg, encStep, encAct, encAs, encPath, encPt, encOut, encState, encPos, encOs, encSs, encPs, encIs, encGame, List.map_cons, List.map_nil, List.nil_append, List.append_nil, List.cons_append]); (repeat (first | (with_reducible exact LeRow.nil) | (with_reducible exact LeRows.nil) | (with_reducible exact LeV.refl _) | (with_reducible exact LeRow.refl _ _ _ _) | (with_reducible exact LeRows.refl _) | (with_reducible refine LeRow.cons ?_ ?_) | (with_reducible refine LeRows.cons ?_ ?_) | (with_reducible refine LeV.agg ?_) | (with_reducible refine LeV.tup ?_) | (with_reducible refine LeV.fn ?_ ?_) | (with_reducible exact LeV.nil _) | (with_reducible refine leRows_append (LeRows.refl _) ?_) | ((refine leV_frz rfl (by simp) (by simp [frzO, frz1, upd, noH]) ?_); (first | (simp [go_sem]; done) | (simp [go_sem]; exact List.take_of_length_le (by simp)))) | ((refine LeV.frz rfl (by simp) (by simp [frzO, frz1, upd, noH]) ?_); (simp only [List.drop_zero, List.take_succ_cons, List.take_zero, List.map_cons, List.map_nil])) | ((refine LeV.frzP rfl (by simp) (by simp) (by simp [frzO, frz1, upd, noH]) ?_); (simp only [nth_zero, List.drop_zero])))))
  (repeat (first | with_reducible (first | refine wL fun _ => ?_ | refine wD fun _ => ?_ | refine wE ?_ | refine adrZ.go ?_) | simp [go_sem]))
  refine aGC.go ?_
  refine ACallP.flat hN (.v _) ?_ (by simp [go_sem]) ?_
  · simp only [gS, gM, nameA, pS, qS, rS, encGame, encPos, encPs, encIss, encIs, encI, encKind, encStep, List.map_cons, List.map_nil]; ((try simp only [encProg, encStep, encAct, encAs, encPath, encPt, encOut, encState, encPos, encOs, encSs, encPs, encIs, encGame, List.map_cons, List.map_nil, List.nil_append, List.append_nil, List.cons_append]); (repeat (first | (with_reducible exact LeRow.nil) | (with_reducible exact LeRows.nil) | (with_reducible exact LeV.refl _) | (with_reducible exact LeRow.refl _ _ _ _) | (with_reducible exact LeRows.refl _) | (with_reducible refine LeRow.cons ?_ ?_) | (with_reducible refine LeRows.cons ?_ ?_) | (with_reducible refine LeV.agg ?_) | (with_reducible refine LeV.tup ?_) | (with_reducible refine LeV.fn ?_ ?_) | (with_reducible exact LeV.nil _) | (with_reducible refine leRows_append (LeRows.refl _) ?_) | ((refine leV_frz rfl (by simp) (by simp [frzO, frz1, upd, noH]) ?_); (first | (simp [go_sem]; done) | (simp [go_sem]; exact List.take_of_length_le (by simp)))) | ((refine LeV.frz rfl (by simp) (by simp [frzO, frz1, upd, noH]) ?_); (simp only [List.drop_zero, List.take_succ_cons, List.take_zero, List.map_cons, List.map_nil])) | ((refine LeV.frzP rfl (by simp) (by simp) (by simp [frzO, frz1, upd, noH]) ?_); (simp only [nth_zero, List.drop_zero])))))
  (repeat (first | with_reducible (first | refine wL fun _ => ?_ | refine wD fun _ => ?_ | refine wE ?_ | refine adrZ.go ?_) | simp [go_sem]))
  refine aGC.go ?_
  refine ACallP.flat hNM (.v _) ?_ (by simp [go_sem]) ?_
  · simp only [gS, gM, nameA, pS, qS, rS, encGame, encPos, encPs, encIss, encIs, encI, encKind, encStep, List.map_cons, List.map_nil]; ((try simp only [encProg, encStep, encAct, encAs, encPath, encPt, encOut, encState, encPos, encOs, encSs, encPs, encIs, encGame, List.map_cons, List.map_nil, List.nil_append, List.append_nil, List.cons_append]); (repeat (first | (with_reducible exact LeRow.nil) | (with_reducible exact LeRows.nil) | (with_reducible exact LeV.refl _) | (with_reducible exact LeRow.refl _ _ _ _) | (with_reducible exact LeRows.refl _) | (with_reducible refine LeRow.cons ?_ ?_) | (with_reducible refine LeRows.cons ?_ ?_) | (with_reducible refine LeV.agg ?_) | (with_reducible refine LeV.tup ?_) | (with_reducible refine LeV.fn ?_ ?_) | (with_reducible exact LeV.nil _) | (with_reducible refine leRows_append (LeRows.refl _) ?_) | ((refine leV_frz rfl (by simp) (by simp [frzO, frz1, upd, noH]) ?_); (first | (simp [go_sem]; done) | (simp [go_sem]; exact List.take_of_length_le (by simp)))) | ((refine LeV.frz rfl (by simp) (by simp [frzO, frz1, upd, noH]) ?_); (simp only [List.drop_zero, List.take_succ_cons, List.take_zero, List.map_cons, List.map_nil])) | ((refine LeV.frzP rfl (by simp) (by simp) (by simp [frzO, frz1, upd, noH]) ?_); (simp only [nth_zero, List.drop_zero])))))
  (repeat (first | with_reducible (first | refine wL fun _ => ?_ | refine wD fun _ => ?_ | refine wE ?_ | refine adrZ.go ?_) | simp [go_sem]))
end Go.Av
end
section
set_option linter.unusedSimpArgs false
set_option linter.unusedVariables false
open Go Go.Proofs
set_option maxRecDepth 20000
set_option maxHeartbeats 4000000
namespace Go.Av
theorem R4Made_pure (g : GameD) (hg : GOk g) (x : RawP) (hx : RawPOk x) : Pure Tryz.prog 9 [.agg (encGame g), .agg (encRawP x)] (.agg (encPos (madePos g x))) := by
  refine Pure.of (ACallP.of_awp (by kernel_rfl) Tryz.func9 rfl rfl (Nat.le_of_ble_eq_true rfl) (by kernel_rfl) ?_)
  obtain ⟨q, hq⟩ : ∃ q, q = madePos g x := ⟨_, rfl⟩
  have hrow := rawRow hx
  obtain ⟨er, her⟩ : ∃ er, er = encRawP x := ⟨_, rfl⟩
  rw [← hq, ← her]
  rw [← her] at hrow
  obtain ⟨rl, rc, rk, rh, rr, rs, rb⟩ := hrow
  have c1 := hg.c1
  have c9 := hg.c9
  have k1 := hg.k1
  have k6 := hg.k6
  have hr0 := hg.r0
  have hr4 := hg.r4
  obtain ⟨gc, hgc⟩ : ∃ gc : Nat, g.cells = gc := ⟨g.cells.toNat, by omega⟩
  have hpow : (1 : Int) ≤ 2 ^ g.rights.toNat ∧ (2 : Int) ^ g.rights.toNat ≤ 16 := by
    rcases (show g.rights.toNat = 0 ∨ g.rights.toNat = 1 ∨ g.rights.toNat = 2 ∨ g.rights.toNat = 3 ∨ g.rights.toNat = 4 by omega) with h | h | h | h | h <;> rw [h] <;> decide
  have hrt := hx.r
  have hsd := hx.s
  obtain ⟨rt, hrt'⟩ : ∃ rt, x.rights = rt := ⟨_, rfl⟩
  obtain ⟨pw, hpw⟩ : ∃ pw : Int, (2 : Int) ^ g.rights.toNat = pw := ⟨_, rfl⟩
  have r1 : 0 ≤ x.rights ∧ x.rights ≤ 255 := hx.r
  have s1 : 0 ≤ x.side ∧ x.side ≤ 255 := hx.s
  have s0 := Int.tmod_nonneg 2 s1.1
  have s2 := Int.tmod_lt_of_pos x.side (show (0 : Int) < 2 by decide)
  rw [hpw] at hpow
  generalize heg : encGame g = eg at *
  have hel : eg.length = 9 := by rw [← heg]; rfl
  have hbl : ∀ n, (∀ c' ∈ eg, Bel n c') = True := fun n => by rw [← heg]; simp [go_sem]
  have e0 : cel eg 0 = .v (.int .i64 g.cells) := by rw [← heg]; rfl
  have e3 : cel eg 3 = .lst 3 (g.kinds.map encKind) := by rw [← heg]; rfl
  have e4 : cel eg 4 = .v (.int .i64 g.rights) := by rw [← heg]; rfl
  (repeat (first | with_reducible (first | refine wL fun _ => ?_ | refine wD fun _ => ?_ | refine wE ?_ | refine adrZ.go ?_) | simp [go_sem, hel, e0, e3, e4, rl, rr, rs, rb, hbl, hpw]))
  have hcz : g.cells.toNat = gc := by omega
  have hkne : g.kinds ≠ [] := by intro h; rw [h] at k1; simp at k1
  have hz : List.replicate gc [AV.v (.int .i64 0)] = (madeAt g x 0).map encI := by simp [madeAt, hcz, encI]
  refine ALoop.start (ALoop.ind (α := Nat) (fun i => ⟨[(2, .ref 0 0 9 0 0), (3, .ref 1 0 18 0 0), (4, .ref 2 0 5 0 0), (5, .ref 19 0 5 0 0), (6, .v (.int .i64 i))], [(0, .rows true 0 9 [eg]), (1, .rows true 0 18 [er]), (2, .rows true 0 5 [[AV.nils, AV.nils, AV.nils, .v (.int .i64 0), .v (.int .i64 0)]]), (6, .rows true 0 1 ((madeAt g x i).map encI)), (19, .rows true 0 5 [[.sl 6 0 1 0 gc, AV.nils, AV.nils, .v (.int .i64 (x.rights.tmod pw)), .v (.int .i64 (x.side.tmod 2))]])], 21⟩)
    (fun d i => i + d = 6) ?_ 6 0 ?_) ?_ ?_
  · rintro d i i1 hrec
    (repeat (first | with_reducible (first | refine wL fun _ => ?_ | refine wD fun _ => ?_ | refine wE ?_ | refine adrZ.go ?_) | simp [go_sem]))
    refine aIf.mkL (fun hi => ?_) (fun hi => ?_) <;> simp at hi
    · have hci := hx.cv _ (nth_mem (l := x.cell) (i := i) (by rw [hx.c6]; omega))
      have hki := hx.kv _ (nth_mem (l := x.kind) (i := i) (by rw [hx.k6]; omega))
      have hci' : 0 ≤ nth x.cell i ∧ nth x.cell i ≤ 255 := hci
      have hki' : 0 ≤ nth x.kind i ∧ nth x.kind i ≤ 255 := hki
      have m0 := Int.tmod_nonneg (g.cells + 1) hci'.1
      have m1 := Int.tmod_nonneg (g.kinds.length : Int) hki'.1
      have m2 := Int.tmod_lt_of_pos (nth x.kind i) (show (0 : Int) < g.kinds.length by omega)
      have m3 := Int.tmod_nonneg 2 (show (0 : Int) ≤ i by omega)
      have m4 := Int.tmod_lt_of_pos (i : Int) (show (0 : Int) < 2 by decide)
      have hrc := rc i (by omega)
      have hrk := rk i (by omega)
      have hsu := madeAt_succ g x i
      have hal := madeAt_len g x i
      rw [hcz] at hal
      unfold atStep at hsu
      (repeat (first | with_reducible (first | refine wL fun _ => ?_ | refine wD fun _ => ?_ | refine wE ?_ | refine adrZ.go ?_) | simp [go_sem, hel, e0, e3, e4, hrc, hrk]))
      refine aIf.mkL (fun hc => ?_) (fun hc => ?_) <;> simp at hc
      · have hc1 := hc.1
        rw [if_pos hc1] at hsu
        (repeat (first | with_reducible (first | refine wL fun _ => ?_ | refine wD fun _ => ?_ | refine wE ?_ | refine adrZ.go ?_) | simp [go_sem, hel, e0, e3, e4, hrc, hrk, hal]))
        refine ALoop.start (hrec (d - 1) (by omega) (i + 1) (by omega)) ?_ (by simp)
        simp [go_sem, Wk_eq, hsu, rb, hbl]
      · have hc1 : ¬ (nth x.cell i).tmod (g.cells + 1) < g.cells := fun h => hkne (hc h)
        rw [if_neg hc1] at hsu
        (repeat (first | with_reducible (first | refine wL fun _ => ?_ | refine wD fun _ => ?_ | refine wE ?_ | refine adrZ.go ?_) | simp [go_sem, hel, e0, e3, e4, hrc, hrk]))
        refine ALoop.start (hrec (d - 1) (by omega) (i + 1) (by omega)) ?_ (by simp)
        simp [go_sem, Wk_eq, hsu, rb, hbl]
    · obtain rfl : i = 6 := by omega
      have hal := madeAt_len g x 6
      rw [hcz] at hal
      have hqe : q = ⟨madeAt g x 6, handL g x 0 (min g.kinds.length 2), handL g x 1 (min g.kinds.length 2), x.rights.tmod pw, x.side.tmod 2⟩ := by rw [hq, ← hpw]; rfl
      clear hq
      have hq := hqe
      (repeat (first | with_reducible (first | refine wL fun _ => ?_ | refine wD fun _ => ?_ | refine wE ?_ | refine adrZ.go ?_) | simp [go_sem, hel, e0, e3, e4]))
      refine ALoop.unroll ?_
      (repeat (first | with_reducible (first | refine wL fun _ => ?_ | refine wD fun _ => ?_ | refine wE ?_ | refine adrZ.go ?_) | simp [go_sem, hel, e0, e3, e4]))
      have hz0 := handL_zero g x 0
      refine ALoop.start (ALoop.ind (α := Nat) (fun k => ⟨[(2, .ref 0 0 9 0 0), (3, .ref 1 0 18 0 0), (4, .ref 2 0 5 0 0), (5, .ref 19 0 5 0 0), (8, .v (.int .i64 0)), (9, .v (.int .i64 k))], [(0, .rows true 0 9 [eg]), (1, .rows true 0 18 [er]), (2, .rows true 0 5 [[AV.nils, AV.nils, AV.nils, .v (.int .i64 0), .v (.int .i64 0)]]), (6, .rows true 0 1 ((madeAt g x 6).map encI)), (19, .rows true 0 5 [[.sl 6 0 1 0 gc, .sl 21 0 1 0 g.kinds.length, AV.nils, .v (.int .i64 (x.rights.tmod pw)), .v (.int .i64 (x.side.tmod 2))]]), (21, .rows true 0 1 ((handL g x 0 k).map encI))], 22⟩)
        (fun d k => k + d = min g.kinds.length 2) ?_ (min g.kinds.length 2) 0 ?_) ?_ ?_
      · rintro d k j1 hrec0
        (repeat (first | with_reducible (first | refine wL fun _ => ?_ | refine wD fun _ => ?_ | refine wE ?_ | refine adrZ.go ?_) | simp [go_sem, hel, e0, e3, e4]))
        refine aIf.mkL (fun hj => ?_) (fun hj => ?_) <;> simp at hj
        · have hk2 : k < 2 := by omega
          have hkk : k < g.kinds.length := by omega
          have hhv := hx.hv _ (nth_mem (l := x.hand) (i := 2 * 0 + k) (by rw [hx.h4]; omega))
          have hh1 : 0 ≤ nth x.hand (2 * 0 + k) ∧ nth x.hand (2 * 0 + k) ≤ 255 := hhv
          have hrh := rh (2 * 0 + k) (by omega)
          have m0 := Int.tmod_nonneg 3 hh1.1
          have hsu := handL_succ g x 0 k
          have hsk := handL_skip g x 0 k
          have hhl := handL_len g x 0 k
          have hV : handV g x 0 k = if (nth g.kinds k).keep = true then (if 250 < nth x.hand (2 * 0 + k) then 8 else (nth x.hand (2 * 0 + k)).tmod 3) else 0 := rfl
          simp only [Nat.mul_zero, Nat.zero_add, Nat.mul_one] at hrh hh1 m0 hV
          (repeat (first | with_reducible (first | refine wL fun _ => ?_ | refine wD fun _ => ?_ | refine wE ?_ | refine adrZ.go ?_) | simp [go_sem, hel, e0, e3, e4, hkk]))
          refine aIf.mkL (fun hkeep => ?_) (fun hkeep => ?_)
          · rw [if_pos hkeep] at hV
            have eI : ((k : Int)).toNat = k := by omega
            have eI2 : (k : Int) < 4 := by omega
            (repeat (first | with_reducible (first | refine wL fun _ => ?_ | refine wD fun _ => ?_ | refine wE ?_ | refine adrZ.go ?_) | simp [go_sem, hel, e0, e3, e4, hkk, hrh, hhl, eI, eI2]))
            refine aIf.mkL (fun hbig => ?_) (fun hbig => ?_) <;> simp at hbig
            · rw [if_pos hbig] at hV
              rw [hV] at hsu
              (repeat (first | with_reducible (first | refine wL fun _ => ?_ | refine wD fun _ => ?_ | refine wE ?_ | refine adrZ.go ?_) | simp [go_sem, hel, e0, e3, e4, hkk, hrh, hhl]))
              refine ALoop.start (hrec0 (d - 1) (by omega) (k + 1) (by omega)) ?_ (by simp)
              simp [go_sem, Wk_eq, hsu, rb, hbl]
            · rw [if_neg (by omega)] at hV
              rw [hV] at hsu
              (repeat (first | with_reducible (first | refine wL fun _ => ?_ | refine wD fun _ => ?_ | refine wE ?_ | refine adrZ.go ?_) | simp [go_sem, hel, e0, e3, e4, hkk, hrh, hhl]))
              refine ALoop.start (hrec0 (d - 1) (by omega) (k + 1) (by omega)) ?_ (by simp)
              simp [go_sem, Wk_eq, hsu, rb, hbl]
          · rw [if_neg (by simpa using hkeep)] at hV
            have hsk' := hsk hV
            (repeat (first | with_reducible (first | refine wL fun _ => ?_ | refine wD fun _ => ?_ | refine wE ?_ | refine adrZ.go ?_) | simp [go_sem, hel, e0, e3, e4]))
            refine ALoop.start (hrec0 (d - 1) (by omega) (k + 1) (by omega)) ?_ (by simp)
            simp [go_sem, Wk_eq, hsk', rb, hbl]
        · have hkm : k = min g.kinds.length 2 := by omega
          subst hkm
          (repeat (first | with_reducible (first | refine wL fun _ => ?_ | refine wD fun _ => ?_ | refine wE ?_ | refine adrZ.go ?_) | simp [go_sem, hel, e0, e3, e4]))
          refine ALoop.unroll ?_
          (repeat (first | with_reducible (first | refine wL fun _ => ?_ | refine wD fun _ => ?_ | refine wE ?_ | refine adrZ.go ?_) | simp [go_sem, hel, e0, e3, e4]))
          have hz1 := handL_zero g x 1
          refine ALoop.start (ALoop.ind (α := Nat) (fun k => ⟨[(2, .ref 0 0 9 0 0), (3, .ref 1 0 18 0 0), (4, .ref 2 0 5 0 0), (5, .ref 19 0 5 0 0), (8, .v (.int .i64 1)), (9, .v (.int .i64 k))], [(0, .rows true 0 9 [eg]), (1, .rows true 0 18 [er]), (2, .rows true 0 5 [[AV.nils, AV.nils, AV.nils, .v (.int .i64 0), .v (.int .i64 0)]]), (6, .rows true 0 1 ((madeAt g x 6).map encI)), (19, .rows true 0 5 [[.sl 6 0 1 0 gc, .sl 21 0 1 0 g.kinds.length, .sl 22 0 1 0 g.kinds.length, .v (.int .i64 (x.rights.tmod pw)), .v (.int .i64 (x.side.tmod 2))]]), (21, .rows true 0 1 ((handL g x 0 (min g.kinds.length 2)).map encI)), (22, .rows true 0 1 ((handL g x 1 k).map encI))], 23⟩)
            (fun d k => k + d = min g.kinds.length 2) ?_ (min g.kinds.length 2) 0 ?_) ?_ ?_
          · rintro d k j1 hrec1
            (repeat (first | with_reducible (first | refine wL fun _ => ?_ | refine wD fun _ => ?_ | refine wE ?_ | refine adrZ.go ?_) | simp [go_sem, hel, e0, e3, e4]))
            refine aIf.mkL (fun hj => ?_) (fun hj => ?_) <;> simp at hj
            · have hk2 : k < 2 := by omega
              have hkk : k < g.kinds.length := by omega
              have hhv := hx.hv _ (nth_mem (l := x.hand) (i := 2 * 1 + k) (by rw [hx.h4]; omega))
              have hh1 : 0 ≤ nth x.hand (2 * 1 + k) ∧ nth x.hand (2 * 1 + k) ≤ 255 := hhv
              have hrh := rh (2 * 1 + k) (by omega)
              have m0 := Int.tmod_nonneg 3 hh1.1
              have hsu := handL_succ g x 1 k
              have hsk := handL_skip g x 1 k
              have hhl := handL_len g x 1 k
              have hV : handV g x 1 k = if (nth g.kinds k).keep = true then (if 250 < nth x.hand (2 * 1 + k) then 8 else (nth x.hand (2 * 1 + k)).tmod 3) else 0 := rfl
              simp only [Nat.mul_zero, Nat.zero_add, Nat.mul_one] at hrh hh1 m0 hV
              (repeat (first | with_reducible (first | refine wL fun _ => ?_ | refine wD fun _ => ?_ | refine wE ?_ | refine adrZ.go ?_) | simp [go_sem, hel, e0, e3, e4, hkk]))
              refine aIf.mkL (fun hkeep => ?_) (fun hkeep => ?_)
              · rw [if_pos hkeep] at hV
                have eI : (2 + (k : Int)).toNat = 2 + k := by omega
                have eI2 : 2 + (k : Int) < 4 := by omega
                (repeat (first | with_reducible (first | refine wL fun _ => ?_ | refine wD fun _ => ?_ | refine wE ?_ | refine adrZ.go ?_) | simp [go_sem, hel, e0, e3, e4, hkk, hrh, hhl, eI, eI2]))
                refine aIf.mkL (fun hbig => ?_) (fun hbig => ?_) <;> simp at hbig
                · rw [if_pos hbig] at hV
                  rw [hV] at hsu
                  (repeat (first | with_reducible (first | refine wL fun _ => ?_ | refine wD fun _ => ?_ | refine wE ?_ | refine adrZ.go ?_) | simp [go_sem, hel, e0, e3, e4, hkk, hrh, hhl]))
                  refine ALoop.start (hrec1 (d - 1) (by omega) (k + 1) (by omega)) ?_ (by simp)
                  simp [go_sem, Wk_eq, hsu, rb, hbl]
                · rw [if_neg (by omega)] at hV
                  rw [hV] at hsu
                  (repeat (first | with_reducible (first | refine wL fun _ => ?_ | refine wD fun _ => ?_ | refine wE ?_ | refine adrZ.go ?_) | simp [go_sem, hel, e0, e3, e4, hkk, hrh, hhl]))
                  refine ALoop.start (hrec1 (d - 1) (by omega) (k + 1) (by omega)) ?_ (by simp)
                  simp [go_sem, Wk_eq, hsu, rb, hbl]
              · rw [if_neg (by simpa using hkeep)] at hV
                have hsk' := hsk hV
                (repeat (first | with_reducible (first | refine wL fun _ => ?_ | refine wD fun _ => ?_ | refine wE ?_ | refine adrZ.go ?_) | simp [go_sem, hel, e0, e3, e4]))
                refine ALoop.start (hrec1 (d - 1) (by omega) (k + 1) (by omega)) ?_ (by simp)
                simp [go_sem, Wk_eq, hsk', rb, hbl]
            · have hkm : k = min g.kinds.length 2 := by omega
              subst hkm
              (repeat (first | with_reducible (first | refine wL fun _ => ?_ | refine wD fun _ => ?_ | refine wE ?_ | refine adrZ.go ?_) | simp [go_sem, hel, e0, e3, e4]))
              (repeat (first | with_reducible (first | refine wL fun _ => ?_ | refine wD fun _ => ?_ | refine wE ?_ | refine adrZ.go ?_) | simp [go_sem, hel, e0, e3, e4]))
              refine ALoop.unroll ?_
              (repeat (first | with_reducible (first | refine wL fun _ => ?_ | refine wD fun _ => ?_ | refine wE ?_ | refine adrZ.go ?_) | simp [go_sem, hel, e0, e3, e4]))
              rw [hq]
              exact ⟨leV_frz rfl (by simp [hal]) (by simp [noH]) (by simp [List.take_of_length_le, hal]), leV_frz rfl (by simp [handL_len]) (by simp [noH]) (by simp [List.take_of_length_le, handL_len]), leV_frz rfl (by simp [handL_len]) (by simp [noH]) (by simp [List.take_of_length_le, handL_len]), .refl _, .refl _⟩
          · omega
          · simp [go_sem, Wk_eq, rb, hbl, hz1]
          · simp
      · omega
      · simp [go_sem, Wk_eq, rb, hbl, hz0]
      · simp
  · rfl
  · simp [go_sem, Wk_eq, rb, hbl, hz, hcz]
  · simp
end Go.Av
end
