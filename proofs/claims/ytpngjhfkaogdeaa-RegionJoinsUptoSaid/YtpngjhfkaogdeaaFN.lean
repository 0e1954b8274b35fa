/- Contracts, the reference of layer 22: what is joined of parts. -/
import Derived.Test.YtpngjhfkaogdeaaFI
import Derived.Test.YtpngjhfkaogdeaaDQ
import Derived.Test.YtpngjhfkaogdeaaDL
section
set_option linter.unusedSimpArgs false
set_option linter.unusedVariables false
open Go Go.Proofs
set_option maxRecDepth 20000
set_option maxHeartbeats 4000000
namespace Go.Av
theorem noHand_normal {g : GameD} (h : normalB g = true) : NoHand g := by
  unfold normalB at h
  simp only [Bool.and_eq_true, decide_eq_true_eq, Bool.not_eq_true', List.any_eq_false] at h
  exact ⟨fun k hk => by have := h.1.1.2 k hk; simpa using this, h.1.1.1.1.2⟩
/-- what has been set, in the part i up to the cell c -/
def refQ (of nm : List Int) (l : List PosD) (n i c : Nat) : List Int := (List.range n).map fun x => if x < c then refA of nm l (i + 1) x else refA of nm l i x
theorem refQ_len (of nm : List Int) (l : List PosD) (n i c : Nat) : (refQ of nm l n i c).length = n := by simp [refQ]
theorem refQ_same (of nm : List Int) (l : List PosD) {n : Nat} (i : Nat) {c : Nat} (hc : c < n) (h : ¬ nth of c = nth nm i) : refQ of nm l n i (c + 1) = refQ of nm l n i c := by
  refine List.map_congr_left fun x hx => ?_
  by_cases h2 : x = c
  · subst h2
    rw [if_pos (show x < x + 1 by omega), if_neg (show ¬ x < x by omega), refA, if_neg h]
  · by_cases h3 : x < c
    · rw [if_pos (show x < c + 1 by omega), if_pos h3]
    · rw [if_neg (show ¬ x < c + 1 by omega), if_neg h3]
theorem refQ_set (of nm : List Int) (l : List PosD) {n : Nat} (i : Nat) {c : Nat} (hc : c < n) (h : nth of c = nth nm i) : refQ of nm l n i (c + 1) = (refQ of nm l n i c).set c (nth (nth l i).at_ c) := by
  refine list_ext_nth (by simp [refQ]) fun x hx => ?_
  have hx' : x < n := by simpa [refQ] using hx
  rw [nth_setE, refQ_len]
  unfold refQ
  rw [nth_rangeMap _ hx', nth_rangeMap _ hx']
  by_cases h2 : c = x
  · subst h2
    rw [if_pos (show c < c + 1 by omega), if_pos (show c = c ∧ c < n from ⟨rfl, hc⟩), refA, if_pos h]
  · rw [if_neg (show ¬ (c = x ∧ x < n) from fun h' => h2 h'.1)]
    by_cases h3 : x < c
    · rw [if_pos (show x < c + 1 by omega), if_pos h3]
    · rw [if_neg (show ¬ x < c + 1 by omega), if_neg h3]
theorem refQ_end (of nm : List Int) (l : List PosD) (n i : Nat) : refQ of nm l n i n = refQ of nm l n (i + 1) 0 := by
  refine List.map_congr_left fun x hx => ?_
  have := List.mem_range.1 hx
  rw [if_pos this, if_neg (show ¬ x < 0 by omega)]
theorem refQ_zero (of nm : List Int) (l : List PosD) (n : Nat) : refQ of nm l n 0 0 = List.replicate n 0 := by
  refine list_ext_nth (by simp [refQ]) fun x hx => ?_
  have hx' : x < n := by simpa [refQ] using hx
  unfold refQ
  rw [nth_rangeMap _ hx', if_neg (show ¬ x < 0 by omega), nth_eq _ _ (by simpa using hx'), List.getElem_replicate]
  rfl
theorem joinRes_ref {g : GameD} (hg : GOk g) {l : List PosD} (hl : ∀ p ∈ l, POk g p) (h : joinOk g l = true) :
    joinRes g l = ⟨refQ (ofG g) (nmG g) l (ofG g).length l.length 0, List.replicate g.kinds.length 0, List.replicate g.kinds.length 0, 0, (nth l 0).side⟩ := by
  unfold joinRes
  rw [if_pos h]
  unfold joinOk at h
  simp only [Bool.and_eq_true, decide_eq_true_eq] at h
  have hnh := noHand_normal h.1
  have hcl := ofG_cells hg
  have hnl := nmG_len hg
  obtain ⟨a, b, c⟩ := (hl _ (nth_mem (show 0 < l.length by omega))).zero hnh
  have ej : joinP l (ofG g).length = ⟨joinAt l (ofG g).length, (nth l 0).h0, (nth l 0).h1, (nth l 0).rights, (nth l 0).side⟩ := rfl
  rw [ej, a, b, c]
  have e : joinAt l (ofG g).length = refQ (ofG g) (nmG g) l (ofG g).length l.length 0 := by
    refine List.map_congr_left fun x hx => ?_
    rw [if_neg (show ¬ x < 0 by omega)]
    exact sumA_ref rfl (by have := h.2.1; unfold nmG at this; omega) h.2.2 (fun p hp => by have := (hl p hp).al; omega) (List.mem_range.1 hx) _ (Nat.le_refl _)
  rw [e]
end Go.Av
end
section
set_option linter.unusedSimpArgs false
set_option linter.unusedVariables false
open Go Go.Proofs
set_option maxRecDepth 20000
set_option maxHeartbeats 4000000
namespace Go.Av
/-- what the lists of a code are -/
theorem sideP_nth (g : GameD) (s : Int) {k c : Nat} (hk : k < g.kinds.length) (hc : c < g.cells.toNat) : nth (nth (sideP g s) k) c = kindP g.board s (nth g.kinds k).progs c := by
  unfold sideP
  rw [nth_map _ _ _ hk]
  have hc' : c < (List.range g.board.cells.toNat).length := by rw [List.length_range]; exact hc
  show nth ((List.range g.board.cells.toNat).map fun (c : Nat) => kindP g.board s (nth g.kinds k).progs c) c = _
  rw [nth_map _ _ _ hc', nth_eq _ _ hc', List.getElem_range]
theorem sideP_nth' (g : GameD) (s : Int) {k c : Nat} (hk : k < g.kinds.length) (hc : c < g.cells.toNat) : nth (nth (sideP g s) k) c = kindP g.board s (nth g.kinds k).progs c := sideP_nth g s hk hc
/-
  rw [nth_map _ _ _ (by simpa [GameD.board] using hc), nth_eq _ _ (by simpa [GameD.board] using hc), List.getElem_range]
-/
/-- a code whose lists fit -/
structure FitC (g : GameD) (c : CodeD) : Prop where
  sh : ShapeOk g c
  len : ∀ l ∈ c.1 ++ c.2, ∀ x ∈ l, x.length ≤ 1099511627776 ∧ ActsLe 1048576 x
theorem fit_codeP {g : GameD} (hg : GOk g) : FitC g (codeP g) := by
  refine ⟨shape_codeP hg, ?_⟩
  have h : ∀ s, ∀ l ∈ sideP g s, ∀ x ∈ l, x.length ≤ 1099511627776 ∧ ActsLe 1048576 x := by
    intro s l hl x hx
    obtain ⟨k, hk, rfl⟩ := List.mem_map.1 hl
    obtain ⟨c, _, rfl⟩ := List.mem_map.1 hx
    exact ⟨by have := kindP_len hg s hk (c : Nat); omega, kindP_acts hg s hk _⟩
  intro l hl
  rcases List.mem_append.1 hl with hl | hl
  · exact h 0 l hl
  · exact h 1 l hl
theorem FitC.side {g : GameD} {c : CodeD} (h : FitC g c) {s : Nat} (hs : s < 2) : ∃ l, cel [encSide c.1, encSide c.2] s = encSide l ∧ l.length = g.kinds.length ∧ (∀ x ∈ l, (x.length : Int) = g.cells) ∧ ∀ x ∈ l, ∀ y ∈ x, y.length ≤ 1099511627776 ∧ ActsLe 1048576 y := by
  rcases (show s = 0 ∨ s = 1 by omega) with rfl | rfl
  · exact ⟨_, rfl, h.sh.l1, h.sh.c1, fun x hx => h.len x (by simp [hx])⟩
  · exact ⟨_, rfl, h.sh.l2, h.sh.c2, fun x hx => h.len x (by simp [hx])⟩
theorem libL_slide (d e k r : Int) (i : Nat) : countOp (nth (libL d e k r) i) 2 ≤ 1 := by
  rcases Nat.lt_or_ge i 16 with h | h
  · have : ∀ p ∈ libL d e k r, countOp p 2 ≤ 1 := by
      intro p hp
      simp only [libL, List.mem_cons, List.not_mem_nil, or_false] at hp
      rcases hp with rfl | rfl | rfl | rfl | rfl | rfl | rfl | rfl | rfl | rfl | rfl | rfl | rfl | rfl | rfl | rfl <;> simp [countOp]
    exact this _ (nth_mem h)
  · have e : nth (libL d e k r) i = [] := by
      unfold nth
      rw [List.getD_eq_getElem?_getD, List.getElem?_eq_none (by exact h)]; rfl
    rw [e]
    simp [countOp]
theorem fitP_slide {dirs kinds rights : Int} {p : List (Int × Int)} (h : countOp p 2 ≤ 1) : countOp (fitP dirs kinds rights p) 2 ≤ 1 := by
  unfold fitP
  split
  · simp [countOp]
  · exact Nat.le_trans (fit_count 2 p) h
theorem madeG_slide (x : RawG) : OneSlide (madeG x) := by
  intro k hk p hp
  obtain ⟨i, _, rfl⟩ := List.mem_map.1 hk
  obtain ⟨n, _, rfl⟩ := List.mem_map.1 hp
  exact fitP_slide (libL_slide _ _ _ _ _)
end Go.Av
end
section
set_option linter.unusedSimpArgs false
set_option linter.unusedVariables false
open Go Go.Proofs
set_option maxRecDepth 20000
set_option maxHeartbeats 4000000
namespace Go.Av
theorem countOp_filter (p : List (List (Int × Int))) : ∀ q ∈ p.filter plainP, q ∈ p := fun q h => (List.mem_filter.1 h).1
theorem plainG_slide {g : GameD} (h : OneSlide g) : OneSlide (plainG g) := by
  intro k hk p hp
  obtain ⟨k', hk', rfl⟩ := List.mem_map.1 hk
  exact h k' hk' p (List.mem_filter.1 hp).1
theorem apartG_slide {g : GameD} (h : OneSlide g) (w : Int) : OneSlide (apartG g w) := plainG_slide h
theorem plainG_names {g : GameD} (h : NamesOk g) : NamesOk (plainG g) := by
  have e : (plainG g).kinds.map (·.name) = g.kinds.map (·.name) := by simp [plainG, plainK]
  unfold NamesOk
  rw [e]; exact h
theorem apartG_names {g : GameD} (h : NamesOk g) (w : Int) : NamesOk (apartG g w) := plainG_names h
theorem madeG_names (x : RawG) : NamesOk (madeG x) := by
  unfold NamesOk madeG kindsN
  split
  · left; rfl
  · right; rfl
theorem normal_plain (g : GameD) : normalB (plainG g) = true := by
  unfold normalB plainG
  simp [plainK]
theorem normal_apart (g : GameD) (w : Int) : normalB (apartG g w) = true := normal_plain g
theorem small22_pure (g : GameD) (hg : GOk g) (hs : OneSlide g) : Pure Try.prog 8 [.agg (encGame g)] (.v (.bool (decide (countC (codeP g) ≤ 3000)))) := by
  refine Pure.of (ACallP.of_awp (by kernel_rfl) Try.func8 rfl rfl (Nat.le_of_ble_eq_true rfl) (by kernel_rfl) ?_)
  have hC := Compile8_pure g hg
  have hF := fit_codeP hg
  have hcnt := countC_le hg hs
  have hk6 := hg.k6
  have hc9 := hg.c9
  have hc1 := hg.c1
  have hN := Count8_pure (codeP g) (by omega) (by rw [hF.sh.l1]; omega) (by rw [hF.sh.l2]; omega) (fun y hy => by
    rcases List.mem_append.1 hy with h | h
    · have := hF.sh.c1 y h; omega
    · have := hF.sh.c2 y h; omega)
  have hgb : ∀ n, (∀ c ∈ encGame g, Bel n c) = True := fun n => by simp [go_sem]
  obtain ⟨eg, heg⟩ : ∃ eg, eg = encGame g := ⟨_, rfl⟩
  have hel : eg.length = 9 := by rw [heg]; rfl
  rw [← heg] at hC hgb ⊢
  clear heg
  have hecl : (encCode (codeP g)).length = 2 := rfl
  have hecb : ∀ n, (∀ c ∈ encCode (codeP g), Bel n c) = True := fun n => by simp [go_sem]
  generalize encCode (codeP g) = ec at *
  (repeat (first | with_reducible (first | refine wL fun _ => ?_ | refine wD fun _ => ?_ | refine wE ?_ | refine adrZ.go ?_) | simp [go_sem, hel]))
  refine ACallP.plain hC (by simp [go_sem, hgb]) ?_
  (repeat (first | with_reducible (first | refine wL fun _ => ?_ | refine wD fun _ => ?_ | refine wE ?_ | refine adrZ.go ?_) | simp [go_sem, hel, hecl]))
  refine ACallP.plain hN (by simp [go_sem, hecb]) ?_
  have e : decide ((countC (codeP g) : Int) ≤ 3000) = decide (countC (codeP g) ≤ 3000) := by
    refine decide_eq_decide.2 ?_; omega
  (repeat (first | with_reducible (first | refine wL fun _ => ?_ | refine wD fun _ => ?_ | refine wE ?_ | refine adrZ.go ?_) | simp [go_sem, e]))
/-! ### the fixed examples -/
def gS : GameD := ⟨4, [[1, -1, 3, -1]], [0], [⟨nameA, [[(1, 0)]], false⟩], 0, false, [], 3, 2⟩
def gM : GameD := { gS with must := true }
def pS : PosD := ⟨[1, 0, 1, 0], [0], [0], 0, 0⟩
def qS : PosD := ⟨[1, 0, 0, 0], [0], [0], 0, 0⟩
def rS : PosD := ⟨[0, 0, 1, 0], [0], [0], 0, 0⟩
theorem gS_prog : ProgOk 1 1 0 [(1, 0)] := ⟨by simp, by simp, by simp; exact ⟨by simp, by simp, by simp, by simp, by simp⟩, by decide, by decide, by decide⟩
theorem gS_board : BoardOk gS.board := ⟨rfl, by simp [gS, GameD.board], by simp [gS, GameD.board], by simp [gS, GameD.board], by simp [gS, GameD.board], by simp [gS, GameD.board], by simp [gS, GameD.board]⟩
theorem gS_ok : GOk gS := by
  refine ⟨gS_board, by decide, by decide, by decide, by decide, ?_, by decide, by decide, ?_, ?_, by decide, by decide, by simp [gS], by decide, by decide, by decide⟩
  · intro d hd
    have : d = 0 := by simp [gS] at hd; exact hd
    subst this; rfl
  · intro k hk
    simp [gS] at hk; subst hk; simp
  · intro k hk p hp
    simp [gS] at hk; subst hk
    simp at hp; subst hp
    exact gS_prog
theorem gM_ok : GOk gM := ⟨gS_ok.board, gS_ok.c1, gS_ok.c9, gS_ok.d1, gS_ok.d8, gS_ok.turn, gS_ok.k1, gS_ok.k6, gS_ok.pn, gS_ok.pr, gS_ok.r0, gS_ok.r4, gS_ok.cl, gS_ok.cn, gS_ok.bl, gS_ok.en⟩
theorem gS_names : NamesOk gS := .inl rfl
theorem gM_names : NamesOk gM := .inl rfl
theorem gS_of : ofG gS = [0, 0, 2, 2] := by decide +kernel
theorem gS_split : partsP (ofG gS) pS = [qS, rS] := by rw [gS_of]; decide +kernel
theorem gS_jo : joinOk gS [qS, rS] = true := by unfold joinOk nmG; rw [gS_of]; decide +kernel
theorem gS_jr : joinRes gS [qS, rS] = pS := by unfold joinRes; rw [gS_jo, gS_of]; decide +kernel
theorem gS_jo2 : joinOk gS [rS, qS] = false := by unfold joinOk nmG; rw [gS_of]; decide +kernel
theorem gS_jr2 : joinRes gS [rS, qS] = zeroP := by unfold joinRes; rw [gS_jo2]; rfl
theorem hand0_ok : HandOk gS [0] := ⟨rfl, fun i hi => by
  have : i = 0 := by simp at hi; exact hi
  subst this; decide⟩
theorem pS_ok : POk gS pS := ⟨rfl, by simp [pS, gS], hand0_ok, hand0_ok, by decide, by decide, .inl rfl⟩
theorem pM_ok : POk gM pS := ⟨rfl, by simp [pS, gM, gS], ⟨rfl, hand0_ok.v⟩, ⟨rfl, hand0_ok.v⟩, by decide, by decide, .inl rfl⟩
theorem qS_ok : POk gS qS := ⟨rfl, by simp [qS, gS], hand0_ok, hand0_ok, by decide, by decide, .inl rfl⟩
theorem rS_ok : POk gS rS := ⟨rfl, by simp [rS, gS], hand0_ok, hand0_ok, by decide, by decide, .inl rfl⟩
theorem sanity22_pure : Pure Try.prog 5 [] (.v (.bool true)) := by
  refine Pure.of (ACallP.of_awp (by kernel_rfl) Try.func5 rfl rfl (Nat.le_of_ble_eq_true rfl) (by kernel_rfl) ?_)
  have hS := rSplit_pure gS gS_ok gS_names pS pS_ok
  rw [gS_split, show normalB gS = true from rfl] at hS
  have hM := rSplit_pure gM gM_ok gM_names pS pM_ok
  rw [show normalB gM = false from rfl] at hM
  have hJ := rJoin_pure gS gS_ok gS_names [qS, rS] (by simp; exact ⟨qS_ok, rS_ok⟩) (by simp)
  rw [gS_jo, gS_jr] at hJ
  have hK := rJoin_pure gS gS_ok gS_names [rS, qS] (by simp; exact ⟨rS_ok, qS_ok⟩) (by simp)
  rw [gS_jo2, gS_jr2] at hK
  have hO := rOf_pure gS gS_ok
  change Pure _ _ _ (encIs (ofG gS)) at hO
  rw [gS_of] at hO
  have hL := Lists_pure [qS, rS] [qS, rS] (by simp) (by simp) (by simp; exact ⟨qS_ok.fits gS_ok, rS_ok.fits gS_ok⟩) (by simp; exact ⟨qS_ok.fits gS_ok, rS_ok.fits gS_ok⟩)
  have hI := Ints1_pure [0, 0, 2, 2] [0, 0, 2, 2] (by simp [Fits]) (by simp [Fits])
  have hE := R4Same_pure pS pS (pS_ok.fits gS_ok) (pS_ok.fits gS_ok)
  rw [show decide (cmpP pS pS = 0) = true from rfl] at hE
  rw [show decide (([qS, rS] : List PosD) = [qS, rS]) = true from by simp] at hL
  rw [show decide (([0, 0, 2, 2] : List Int) = [0, 0, 2, 2]) = true from rfl] at hI
  have hN := rNormal_pure gS gS_ok gS_names
  have hNM := rNormal_pure gM gM_ok gM_names
  rw [show normalB gS = true from rfl] at hN
  rw [show normalB gM = false from rfl] at hNM
  (repeat (first | with_reducible (first | refine wL fun _ => ?_ | refine wD fun _ => ?_ | refine wE ?_ | refine adrZ.go ?_) | simp [go_sem]))
  refine ACallP.pureF [0, 1, 2, 4, 5, 6, 8, 9, 10] hS ?_ (by simp [go_sem]) ?_
  · simp only [gS, gM, nameA, pS, qS, rS, encGame, encPos, encPs, encIss, encIs, encI, encKind, encStep, List.map_cons, List.map_nil]; ((try simp only [encProg, encStep, encAct, encAs, encPath, encPt, encOut, encState, encPos, encOs, encSs, encPs, encIs, encGame, List.map_cons, List.map_nil, List.nil_append, List.append_nil, List.cons_append]); (repeat (first | (with_reducible exact LeRow.nil) | (with_reducible exact LeRows.nil) | (with_reducible exact LeV.refl _) | (with_reducible exact LeRow.refl _ _ _ _) | (with_reducible exact LeRows.refl _) | (with_reducible refine LeRow.cons ?_ ?_) | (with_reducible refine LeRows.cons ?_ ?_) | (with_reducible refine LeV.agg ?_) | (with_reducible refine LeV.tup ?_) | (with_reducible refine LeV.fn ?_ ?_) | (with_reducible exact LeV.nil _) | (with_reducible refine leRows_append (LeRows.refl _) ?_) | ((refine leV_frz rfl (by simp) (by simp [frzO, frz1, upd, noH]) ?_); (first | (simp [go_sem]; done) | (simp [go_sem]; exact List.take_of_length_le (by simp)))) | ((refine LeV.frz rfl (by simp) (by simp [frzO, frz1, upd, noH]) ?_); (simp only [List.drop_zero, List.take_succ_cons, List.take_zero, List.map_cons, List.map_nil])) | ((refine LeV.frzP rfl (by simp) (by simp) (by simp [frzO, frz1, upd, noH]) ?_); (simp only [nth_zero, List.drop_zero])))))
  (repeat (first | with_reducible (first | refine wL fun _ => ?_ | refine wD fun _ => ?_ | refine wE ?_ | refine adrZ.go ?_) | simp [go_sem]))
  refine ACallP.pureF [12, 13, 14, 16, 17, 18, 20] hJ ?_ (by simp [go_sem]) ?_
  · simp only [gS, gM, nameA, pS, qS, rS, encGame, encPos, encPs, encIss, encIs, encI, encKind, encStep, List.map_cons, List.map_nil]; ((try simp only [encProg, encStep, encAct, encAs, encPath, encPt, encOut, encState, encPos, encOs, encSs, encPs, encIs, encGame, List.map_cons, List.map_nil, List.nil_append, List.append_nil, List.cons_append]); (repeat (first | (with_reducible exact LeRow.nil) | (with_reducible exact LeRows.nil) | (with_reducible exact LeV.refl _) | (with_reducible exact LeRow.refl _ _ _ _) | (with_reducible exact LeRows.refl _) | (with_reducible refine LeRow.cons ?_ ?_) | (with_reducible refine LeRows.cons ?_ ?_) | (with_reducible refine LeV.agg ?_) | (with_reducible refine LeV.tup ?_) | (with_reducible refine LeV.fn ?_ ?_) | (with_reducible exact LeV.nil _) | (with_reducible refine leRows_append (LeRows.refl _) ?_) | ((refine leV_frz rfl (by simp) (by simp [frzO, frz1, upd, noH]) ?_); (first | (simp [go_sem]; done) | (simp [go_sem]; exact List.take_of_length_le (by simp)))) | ((refine LeV.frz rfl (by simp) (by simp [frzO, frz1, upd, noH]) ?_); (simp only [List.drop_zero, List.take_succ_cons, List.take_zero, List.map_cons, List.map_nil])) | ((refine LeV.frzP rfl (by simp) (by simp) (by simp [frzO, frz1, upd, noH]) ?_); (simp only [nth_zero, List.drop_zero])))))
  (repeat (first | with_reducible (first | refine wL fun _ => ?_ | refine wD fun _ => ?_ | refine wE ?_ | refine adrZ.go ?_) | simp [go_sem]))
  refine ACallP.pureF [22] hK ?_ (by simp [go_sem]) ?_
  · simp only [gS, gM, nameA, pS, qS, rS, encGame, encPos, encPs, encIss, encIs, encI, encKind, encStep, List.map_cons, List.map_nil]; ((try simp only [encProg, encStep, encAct, encAs, encPath, encPt, encOut, encState, encPos, encOs, encSs, encPs, encIs, encGame, List.map_cons, List.map_nil, List.nil_append, List.append_nil, List.cons_append]); (repeat (first | (with_reducible exact LeRow.nil) | (with_reducible exact LeRows.nil) | (with_reducible exact LeV.refl _) | (with_reducible exact LeRow.refl _ _ _ _) | (with_reducible exact LeRows.refl _) | (with_reducible refine LeRow.cons ?_ ?_) | (with_reducible refine LeRows.cons ?_ ?_) | (with_reducible refine LeV.agg ?_) | (with_reducible refine LeV.tup ?_) | (with_reducible refine LeV.fn ?_ ?_) | (with_reducible exact LeV.nil _) | (with_reducible refine leRows_append (LeRows.refl _) ?_) | ((refine leV_frz rfl (by simp) (by simp [frzO, frz1, upd, noH]) ?_); (first | (simp [go_sem]; done) | (simp [go_sem]; exact List.take_of_length_le (by simp)))) | ((refine LeV.frz rfl (by simp) (by simp [frzO, frz1, upd, noH]) ?_); (simp only [List.drop_zero, List.take_succ_cons, List.take_zero, List.map_cons, List.map_nil])) | ((refine LeV.frzP rfl (by simp) (by simp) (by simp [frzO, frz1, upd, noH]) ?_); (simp only [nth_zero, List.drop_zero])))))
  (repeat (first | with_reducible (first | refine wL fun _ => ?_ | refine wD fun _ => ?_ | refine wE ?_ | refine adrZ.go ?_) | simp [go_sem]))
  refine ACallP.pureF [] hM ?_ (by simp [go_sem]) ?_
  · simp only [gS, gM, nameA, pS, qS, rS, encGame, encPos, encPs, encIss, encIs, encI, encKind, encStep, List.map_cons, List.map_nil]; ((try simp only [encProg, encStep, encAct, encAs, encPath, encPt, encOut, encState, encPos, encOs, encSs, encPs, encIs, encGame, List.map_cons, List.map_nil, List.nil_append, List.append_nil, List.cons_append]); (repeat (first | (with_reducible exact LeRow.nil) | (with_reducible exact LeRows.nil) | (with_reducible exact LeV.refl _) | (with_reducible exact LeRow.refl _ _ _ _) | (with_reducible exact LeRows.refl _) | (with_reducible refine LeRow.cons ?_ ?_) | (with_reducible refine LeRows.cons ?_ ?_) | (with_reducible refine LeV.agg ?_) | (with_reducible refine LeV.tup ?_) | (with_reducible refine LeV.fn ?_ ?_) | (with_reducible exact LeV.nil _) | (with_reducible refine leRows_append (LeRows.refl _) ?_) | ((refine leV_frz rfl (by simp) (by simp [frzO, frz1, upd, noH]) ?_); (first | (simp [go_sem]; done) | (simp [go_sem]; exact List.take_of_length_le (by simp)))) | ((refine LeV.frz rfl (by simp) (by simp [frzO, frz1, upd, noH]) ?_); (simp only [List.drop_zero, List.take_succ_cons, List.take_zero, List.map_cons, List.map_nil])) | ((refine LeV.frzP rfl (by simp) (by simp) (by simp [frzO, frz1, upd, noH]) ?_); (simp only [nth_zero, List.drop_zero])))))
  (repeat (first | with_reducible (first | refine wL fun _ => ?_ | refine wD fun _ => ?_ | refine wE ?_ | refine adrZ.go ?_) | simp [go_sem]))
  refine aGC.go ?_
  refine ACallP.flat hL (.v _) ?_ (by simp [go_sem]) ?_
  · simp only [gS, gM, nameA, pS, qS, rS, encGame, encPos, encPs, encIss, encIs, encI, encKind, encStep, List.map_cons, List.map_nil]; ((try simp only [encProg, encStep, encAct, encAs, encPath, encPt, encOut, encState, encPos, encOs, encSs, encPs, encIs, encGame, List.map_cons, List.map_nil, List.nil_append, List.append_nil, List.cons_append]); (repeat (first | (with_reducible exact LeRow.nil) | (with_reducible exact LeRows.nil) | (with_reducible exact LeV.refl _) | (with_reducible exact LeRow.refl _ _ _ _) | (with_reducible exact LeRows.refl _) | (with_reducible refine LeRow.cons ?_ ?_) | (with_reducible refine LeRows.cons ?_ ?_) | (with_reducible refine LeV.agg ?_) | (with_reducible refine LeV.tup ?_) | (with_reducible refine LeV.fn ?_ ?_) | (with_reducible exact LeV.nil _) | (with_reducible refine leRows_append (LeRows.refl _) ?_) | ((refine leV_frz rfl (by simp) (by simp [frzO, frz1, upd, noH]) ?_); (first | (simp [go_sem]; done) | (simp [go_sem]; exact List.take_of_length_le (by simp)))) | ((refine LeV.frz rfl (by simp) (by simp [frzO, frz1, upd, noH]) ?_); (simp only [List.drop_zero, List.take_succ_cons, List.take_zero, List.map_cons, List.map_nil])) | ((refine LeV.frzP rfl (by simp) (by simp) (by simp [frzO, frz1, upd, noH]) ?_); (simp only [nth_zero, List.drop_zero])))))
  (repeat (first | with_reducible (first | refine wL fun _ => ?_ | refine wD fun _ => ?_ | refine wE ?_ | refine adrZ.go ?_) | simp [go_sem]))
  refine aGC.go ?_
  refine ACallP.flat hE (.v _) ?_ (by simp [go_sem]) ?_
  · simp only [pS, encPos, encIs, encI, List.map_cons, List.map_nil]; ((try simp only [encProg, encStep, encAct, encAs, encPath, encPt, encOut, encState, encPos, encOs, encSs, encPs, encIs, encGame, List.map_cons, List.map_nil, List.nil_append, List.append_nil, List.cons_append]); (repeat (first | (with_reducible exact LeRow.nil) | (with_reducible exact LeRows.nil) | (with_reducible exact LeV.refl _) | (with_reducible exact LeRow.refl _ _ _ _) | (with_reducible exact LeRows.refl _) | (with_reducible refine LeRow.cons ?_ ?_) | (with_reducible refine LeRows.cons ?_ ?_) | (with_reducible refine LeV.agg ?_) | (with_reducible refine LeV.tup ?_) | (with_reducible refine LeV.fn ?_ ?_) | (with_reducible exact LeV.nil _) | (with_reducible refine leRows_append (LeRows.refl _) ?_) | ((refine leV_frz rfl (by simp) (by simp [frzO, frz1, upd, noH]) ?_); (first | (simp [go_sem]; done) | (simp [go_sem]; exact List.take_of_length_le (by simp)))) | ((refine LeV.frz rfl (by simp) (by simp [frzO, frz1, upd, noH]) ?_); (simp only [List.drop_zero, List.take_succ_cons, List.take_zero, List.map_cons, List.map_nil])) | ((refine LeV.frzP rfl (by simp) (by simp) (by simp [frzO, frz1, upd, noH]) ?_); (simp only [nth_zero, List.drop_zero])))))
  (repeat (first | with_reducible (first | refine wL fun _ => ?_ | refine wD fun _ => ?_ | refine wE ?_ | refine adrZ.go ?_) | simp [go_sem]))
  refine aGC.go ?_
  refine ACallP.pureF [] hO ?_ (by simp [go_sem]) ?_
  · simp only [gS, gM, nameA, pS, qS, rS, encGame, encPos, encPs, encIss, encIs, encI, encKind, encStep, List.map_cons, List.map_nil]; ((try simp only [encProg, encStep, encAct, encAs, encPath, encPt, encOut, encState, encPos, encOs, encSs, encPs, encIs, encGame, List.map_cons, List.map_nil, List.nil_append, List.append_nil, List.cons_append]); (repeat (first | (with_reducible exact LeRow.nil) | (with_reducible exact LeRows.nil) | (with_reducible exact LeV.refl _) | (with_reducible exact LeRow.refl _ _ _ _) | (with_reducible exact LeRows.refl _) | (with_reducible refine LeRow.cons ?_ ?_) | (with_reducible refine LeRows.cons ?_ ?_) | (with_reducible refine LeV.agg ?_) | (with_reducible refine LeV.tup ?_) | (with_reducible refine LeV.fn ?_ ?_) | (with_reducible exact LeV.nil _) | (with_reducible refine leRows_append (LeRows.refl _) ?_) | ((refine leV_frz rfl (by simp) (by simp [frzO, frz1, upd, noH]) ?_); (first | (simp [go_sem]; done) | (simp [go_sem]; exact List.take_of_length_le (by simp)))) | ((refine LeV.frz rfl (by simp) (by simp [frzO, frz1, upd, noH]) ?_); (simp only [List.drop_zero, List.take_succ_cons, List.take_zero, List.map_cons, List.map_nil])) | ((refine LeV.frzP rfl (by simp) (by simp) (by simp [frzO, frz1, upd, noH]) ?_); (simp only [nth_zero, List.drop_zero])))))
  (repeat (first | with_reducible (first | refine wL fun _ => ?_ | refine wD fun _ => ?_ | refine wE ?_ | refine adrZ.go ?_) | simp [go_sem]))
  refine aGC.go ?_
  refine ACallP.flat hI (.v _) ?_ (by simp [go_sem]) ?_
  · simp only [encIs, encI, List.map_cons, List.map_nil]; ((try simp only [encProg, encStep, encAct, encAs, encPath, encPt, encOut, encState, encPos, encOs, encSs, encPs, encIs, encGame, List.map_cons, List.map_nil, List.nil_append, List.append_nil, List.cons_append]); (repeat (first | (with_reducible exact LeRow.nil) | (with_reducible exact LeRows.nil) | (with_reducible exact LeV.refl _) | (with_reducible exact LeRow.refl _ _ _ _) | (with_reducible exact LeRows.refl _) | (with_reducible refine LeRow.cons ?_ ?_) | (with_reducible refine LeRows.cons ?_ ?_) | (with_reducible refine LeV.agg ?_) | (with_reducible refine LeV.tup ?_) | (with_reducible refine LeV.fn ?_ ?_) | (with_reducible exact LeV.nil _) | (with_reducible refine leRows_append (LeRows.refl _) ?_) | ((refine leV_frz rfl (by simp) (by simp [frzO, frz1, upd, noH]) ?_); (first | (simp [go_sem]; done) | (simp [go_sem]; exact List.take_of_length_le (by simp)))) | ((refine LeV.frz rfl (by simp) (by simp [frzO, frz1, upd, noH]) ?_); (simp only [List.drop_zero, List.take_succ_cons, List.take_zero, List.map_cons, List.map_nil])) | ((refine LeV.frzP rfl (by simp) (by simp) (by simp [frzO, frz1, upd, noH]) ?_); (simp only [nth_zero, List.drop_zero])))))
  (repeat (first | with_reducible (first | refine wL fun _ => ?_ | refine wD fun _ => ?_ | refine wE ?_ | refine adrZ.go ?_) | simp [go_sem]))
  refine aGC.go ?_
  refine ACallP.flat hN (.v _) ?_ (by simp [go_sem]) ?_
  · simp only [gS, gM, nameA, pS, qS, rS, encGame, encPos, encPs, encIss, encIs, encI, encKind, encStep, List.map_cons, List.map_nil]; ((try simp only [encProg, encStep, encAct, encAs, encPath, encPt, encOut, encState, encPos, encOs, encSs, encPs, encIs, encGame, List.map_cons, List.map_nil, List.nil_append, List.append_nil, List.cons_append]); (repeat (first | (with_reducible exact LeRow.nil) | (with_reducible exact LeRows.nil) | (with_reducible exact LeV.refl _) | (with_reducible exact LeRow.refl _ _ _ _) | (with_reducible exact LeRows.refl _) | (with_reducible refine LeRow.cons ?_ ?_) | (with_reducible refine LeRows.cons ?_ ?_) | (with_reducible refine LeV.agg ?_) | (with_reducible refine LeV.tup ?_) | (with_reducible refine LeV.fn ?_ ?_) | (with_reducible exact LeV.nil _) | (with_reducible refine leRows_append (LeRows.refl _) ?_) | ((refine leV_frz rfl (by simp) (by simp [frzO, frz1, upd, noH]) ?_); (first | (simp [go_sem]; done) | (simp [go_sem]; exact List.take_of_length_le (by simp)))) | ((refine LeV.frz rfl (by simp) (by simp [frzO, frz1, upd, noH]) ?_); (simp only [List.drop_zero, List.take_succ_cons, List.take_zero, List.map_cons, List.map_nil])) | ((refine LeV.frzP rfl (by simp) (by simp) (by simp [frzO, frz1, upd, noH]) ?_); (simp only [nth_zero, List.drop_zero])))))
  (repeat (first | with_reducible (first | refine wL fun _ => ?_ | refine wD fun _ => ?_ | refine wE ?_ | refine adrZ.go ?_) | simp [go_sem]))
  refine aGC.go ?_
  refine ACallP.flat hNM (.v _) ?_ (by simp [go_sem]) ?_
  · simp only [gS, gM, nameA, pS, qS, rS, encGame, encPos, encPs, encIss, encIs, encI, encKind, encStep, List.map_cons, List.map_nil]; ((try simp only [encProg, encStep, encAct, encAs, encPath, encPt, encOut, encState, encPos, encOs, encSs, encPs, encIs, encGame, List.map_cons, List.map_nil, List.nil_append, List.append_nil, List.cons_append]); (repeat (first | (with_reducible exact LeRow.nil) | (with_reducible exact LeRows.nil) | (with_reducible exact LeV.refl _) | (with_reducible exact LeRow.refl _ _ _ _) | (with_reducible exact LeRows.refl _) | (with_reducible refine LeRow.cons ?_ ?_) | (with_reducible refine LeRows.cons ?_ ?_) | (with_reducible refine LeV.agg ?_) | (with_reducible refine LeV.tup ?_) | (with_reducible refine LeV.fn ?_ ?_) | (with_reducible exact LeV.nil _) | (with_reducible refine leRows_append (LeRows.refl _) ?_) | ((refine leV_frz rfl (by simp) (by simp [frzO, frz1, upd, noH]) ?_); (first | (simp [go_sem]; done) | (simp [go_sem]; exact List.take_of_length_le (by simp)))) | ((refine LeV.frz rfl (by simp) (by simp [frzO, frz1, upd, noH]) ?_); (simp only [List.drop_zero, List.take_succ_cons, List.take_zero, List.map_cons, List.map_nil])) | ((refine LeV.frzP rfl (by simp) (by simp) (by simp [frzO, frz1, upd, noH]) ?_); (simp only [nth_zero, List.drop_zero])))))
  (repeat (first | with_reducible (first | refine wL fun _ => ?_ | refine wD fun _ => ?_ | refine wE ?_ | refine adrZ.go ?_) | simp [go_sem]))
end Go.Av
end
section
set_option linter.unusedSimpArgs false
set_option linter.unusedVariables false
open Go Go.Proofs
set_option maxRecDepth 20000
set_option maxHeartbeats 4000000
namespace Go.Av
/-- how many of the first parts have a man on a cell -/
def cntV (v : Int) (ic i : Nat) : Int := if v ≠ 0 ∧ ic < i then 1 else 0
theorem cntV_zero (v : Int) (ic : Nat) : cntV v ic 0 = 0 := by unfold cntV; rw [if_neg (by omega)]
theorem parts_cells {g : GameD} (hg : GOk g) {p : PosD} (hp : POk g p) : ∃ ic : Nat → Nat, ∀ c : Nat, (c : Int) < g.cells → ic c < (partsP (ofG g) p).length ∧
    ∀ i, i < (partsP (ofG g) p).length → nth (nth (partsP (ofG g) p) i).at_ c = if i = ic c then nth p.at_ c else 0 := by
  have hcl := ofG_cells hg
  have ho := ofG_ok hg
  have hlen := (partsP_ok hp (ofG g)).len
  have hal := hp.al
  have h : ∀ c : Nat, ∃ k : Nat, (c : Int) < g.cells → k < (partsP (ofG g) p).length ∧ ∀ i, i < (partsP (ofG g) p).length → nth (nth (partsP (ofG g) p) i).at_ c = if i = k then nth p.at_ c else 0 := by
    intro c
    by_cases hc : (c : Int) < g.cells
    · have hc' : c < (ofG g).length := by omega
      obtain ⟨k, hk, e⟩ := ho.idx hc'
      refine ⟨k, fun _ => ⟨by omega, fun i hi => ?_⟩⟩
      have hi' : i < (namesU (ofG g) (ofG g).length).length := by omega
      rw [nth_partsP hi']
      show nth (partL (ofG g) p.at_ _ p.at_.length) c = _
      rw [nth_partL _ _ _ (by omega)]
      by_cases hik : i = k
      · subst hik; rw [if_pos e, if_pos rfl]
      · rw [if_neg hik, if_neg]
        intro e'
        exact hik (nodup_nth (nodup_namesU _ _) hi' hk (e'.symm.trans e))
    · exact ⟨0, fun h => absurd h hc⟩
  exact ⟨fun c => (h c).choose, fun c => (h c).choose_spec⟩
theorem parts22_true (g : GameD) (hg : GOk g) (p : PosD) (hp : POk g p) : Pure Try.prog 11 [.agg (encGame g), encPs (partsP (ofG g) p), .agg (encPos p)] (.v (.bool true)) := by
  refine Pure.of (ACallP.of_awp (by kernel_rfl) Try.func11 rfl rfl (Nat.le_of_ble_eq_true rfl) (by kernel_rfl) ?_)
  have hV := fun (p : PosD) (hp : POk g p) => RValid_pure g (by have := hg.k6; unfold FitsG; omega) ⟨hg.r0, by have := hg.r4; omega⟩ p (hp.fits hg)
  have hPP := partsP_ok hp (ofG g)
  obtain ⟨ic, hic⟩ := parts_cells hg hp
  have hal := hp.al
  have hnl := nmG_len hg
  have h9 := hg.c9
  have hLl : (partsP (ofG g) p).length ≤ 9 := by have := hPP.len; unfold nmG at hnl; omega
  have hok := hPP.ok
  have hsd := hPP.sd
  have hpok : ∀ p : PosD, POk g p → posOk g p = true := fun p hp => pOk_iff.2 hp
  have hgb : ∀ n, (∀ c ∈ encGame g, Bel n c) = True := fun n => by simp [go_sem]
  clear hPP
  generalize partsP (ofG g) p = L at *
  obtain ⟨eg, heg⟩ : ∃ eg, eg = encGame g := ⟨_, rfl⟩
  have hel : eg.length = 9 := by rw [heg]; rfl
  rw [← heg] at hV hgb ⊢
  clear heg
  have hLal := fun q hq => (hok q hq).al
  (repeat (first | with_reducible (first | refine wL fun _ => ?_ | refine wD fun _ => ?_ | refine wE ?_ | refine adrZ.go ?_) | simp [go_sem, hel]))
  refine ALoop.start (ALoop.ind (α := Nat) (fun i => ⟨[(1, encPs L), (3, .ref 0 0 9 0 0), (5, .ref 1 0 5 0 0), (7, .v (.int .i64 i))], [(0, .rows true 0 9 [eg]), (1, .rows true 0 5 [encPos p])], 2⟩)
    (fun d i => i + d = L.length) ?_ L.length 0 ?_) ?_ ?_
  · rintro d i i1 hrec
    (repeat (first | with_reducible (first | refine wL fun _ => ?_ | refine wD fun _ => ?_ | refine wE ?_ | refine adrZ.go ?_) | simp [go_sem]))
    refine aIf.mkL (fun hi => ?_) (fun hi => ?_) <;> simp at hi
    · have hm := nth_mem hi
      have hVi := hV _ (hok _ hm)
      rw [hpok _ (hok _ hm)] at hVi
      have hsi := hsd _ hm
      (repeat (first | with_reducible (first | refine wL fun _ => ?_ | refine wD fun _ => ?_ | refine wE ?_ | refine adrZ.go ?_) | simp [go_sem, hi, hel]))
      try ((with_reducible refine adrZ.go ?_); (try simp [go_sem]))
      refine dCall.plain hVi (by simp [go_sem, hgb]) ?_
      (repeat (first | with_reducible (first | refine wL fun _ => ?_ | refine wD fun _ => ?_ | refine wE ?_ | refine adrZ.go ?_) | simp [go_sem, hi, hel, hsi]))
      refine ALoop.start (hrec (d - 1) (by omega) (i + 1) (by omega)) ?_ (by simp)
      simp [go_sem, Wk_eq]
      exact of_eq_true (hgb 2)
    · clear hrec
      (repeat (first | with_reducible (first | refine wL fun _ => ?_ | refine wD fun _ => ?_ | refine wE ?_ | refine adrZ.go ?_) | simp [go_sem]))
      refine ALoop.start (ALoop.ind (α := Nat) (fun c => ⟨[(1, encPs L), (5, .ref 1 0 5 0 0), (8, .v (.int .i64 c))], [(1, .rows true 0 5 [encPos p])], 2⟩)
        (fun d c => c + d = p.at_.length) ?_ p.at_.length 0 ?_) ?_ ?_
      · rintro d c c1 hrec
        (repeat (first | with_reducible (first | refine wL fun _ => ?_ | refine wD fun _ => ?_ | refine wE ?_ | refine adrZ.go ?_) | simp [go_sem]))
        refine aIf.mkL (fun hc => ?_) (fun hc => ?_) <;> simp at hc
        · obtain ⟨hic1, hic2⟩ := hic c (by omega)
          generalize hv : nth p.at_ c = v at *
          generalize ic c = k at *
          have hz := cntV_zero v k
          (repeat (first | with_reducible (first | refine wL fun _ => ?_ | refine wD fun _ => ?_ | refine wE ?_ | refine adrZ.go ?_) | simp [go_sem, hc]))
          refine ALoop.start (ALoop.ind (α := Nat) (fun i => ⟨[(1, encPs L), (5, .ref 1 0 5 0 0), (8, .v (.int .i64 c)), (9, .v (.int .i64 (cntV v k i))), (10, .v (.int .i64 i))], [(1, .rows true 0 5 [encPos p])], 2⟩)
            (fun d i => i + d = L.length) ?_ L.length 0 ?_) ?_ ?_
          · rintro d2 i i2 hrec2
            have hcb : 0 ≤ cntV v k i ∧ cntV v k i ≤ 1 := by unfold cntV; split <;> omega
            (repeat (first | with_reducible (first | refine wL fun _ => ?_ | refine wD fun _ => ?_ | refine wE ?_ | refine adrZ.go ?_) | simp [go_sem]))
            refine aIf.mkL (fun hi2 => ?_) (fun hi2 => ?_) <;> simp at hi2
            · have hLi := hLal _ (nth_mem hi2)
              have hca : c < (nth L i).at_.length := by omega
              have hat := hic2 i hi2
              by_cases hik : i = k
              · rw [if_pos hik] at hat
                by_cases hv0 : v = 0
                · have hcc : cntV v k (i + 1) = cntV v k i := by unfold cntV; rw [if_neg (by omega), if_neg (by omega)]
                  (repeat (first | with_reducible (first | refine wL fun _ => ?_ | refine wD fun _ => ?_ | refine wE ?_ | refine adrZ.go ?_) | simp [go_sem, hi2, hca, hat, hv0, hc, hv]))
                  refine ALoop.start (hrec2 (d2 - 1) (by omega) (i + 1) (by omega)) ?_ (by simp)
                  rw [hv0] at hcc
                  simp [go_sem, Wk_eq, hcc, hv0]
                · have hcc : cntV v k (i + 1) = cntV v k i + 1 := by unfold cntV; rw [if_pos (by omega), if_neg (by omega)]; rfl
                  (repeat (first | with_reducible (first | refine wL fun _ => ?_ | refine wD fun _ => ?_ | refine wE ?_ | refine adrZ.go ?_) | simp [go_sem, hi2, hca, hat, hv0, hc, hv]))
                  refine ALoop.start (hrec2 (d2 - 1) (by omega) (i + 1) (by omega)) ?_ (by simp)
                  simp [go_sem, Wk_eq, hcc]
              · rw [if_neg hik] at hat
                have hcc : cntV v k (i + 1) = cntV v k i := by
                  unfold cntV
                  by_cases h : v ≠ 0 ∧ k < i
                  · rw [if_pos h, if_pos ⟨h.1, by omega⟩]
                  · rw [if_neg h, if_neg (by omega)]
                (repeat (first | with_reducible (first | refine wL fun _ => ?_ | refine wD fun _ => ?_ | refine wE ?_ | refine adrZ.go ?_) | simp [go_sem, hi2, hca, hat, hc, hv]))
                refine ALoop.start (hrec2 (d2 - 1) (by omega) (i + 1) (by omega)) ?_ (by simp)
                simp [go_sem, Wk_eq, hcc]
            · have hil : i = L.length := by omega
              have hgt : ¬ (1 : Int) < cntV v k i := by omega
              (repeat (first | with_reducible (first | refine wL fun _ => ?_ | refine wD fun _ => ?_ | refine wE ?_ | refine adrZ.go ?_) | simp [go_sem, hc, hv, hgt]))
              refine aIf.mkL (fun hx => ?_) (fun hx => ?_)
              · exfalso
                by_cases h : v = 0
                · have e : cntV v k i = 0 := by unfold cntV; rw [if_neg (by omega)]
                  rw [h] at e
                  simp [h] at hx
                  omega
                · have e : cntV v k i = 1 := by unfold cntV; rw [if_pos ⟨h, by omega⟩]
                  simp [e, h] at hx
              · (repeat (first | with_reducible (first | refine wL fun _ => ?_ | refine wD fun _ => ?_ | refine wE ?_ | refine adrZ.go ?_) | simp [go_sem]))
                refine ALoop.start (hrec (d - 1) (by omega) (c + 1) (by omega)) ?_ (by simp)
                simp [go_sem, Wk_eq]
          · simp
          · simp [go_sem, Wk_eq, hz]
          · simp
        · (repeat (first | with_reducible (first | refine wL fun _ => ?_ | refine wD fun _ => ?_ | refine wE ?_ | refine adrZ.go ?_) | simp [go_sem]))
      · simp
      · simp [go_sem, Wk_eq]
      · simp
  · simp
  · simp [go_sem, Wk_eq]
    exact of_eq_true (hgb 2)
  · simp
end Go.Av
end
section
set_option linter.unusedSimpArgs false
set_option linter.unusedVariables false
open Go Go.Proofs
set_option maxRecDepth 20000
set_option maxHeartbeats 4000000
namespace Go.Av
theorem R4Made_pure (g : GameD) (hg : GOk g) (x : RawP) (hx : RawPOk x) : Pure Try.prog 9 [.agg (encGame g), .agg (encRawP x)] (.agg (encPos (madePos g x))) := by
  refine Pure.of (ACallP.of_awp (by kernel_rfl) Try.func9 rfl rfl (Nat.le_of_ble_eq_true rfl) (by kernel_rfl) ?_)
  obtain ⟨q, hq⟩ : ∃ q, q = madePos g x := ⟨_, rfl⟩
  have hrow := rawRow hx
  obtain ⟨er, her⟩ : ∃ er, er = encRawP x := ⟨_, rfl⟩
  rw [← hq, ← her]
  rw [← her] at hrow
  obtain ⟨rl, rc, rk, rh, rr, rs, rb⟩ := hrow
  have c1 := hg.c1
  have c9 := hg.c9
  have k1 := hg.k1
  have k6 := hg.k6
  have hr0 := hg.r0
  have hr4 := hg.r4
  obtain ⟨gc, hgc⟩ : ∃ gc : Nat, g.cells = gc := ⟨g.cells.toNat, by omega⟩
  have hpow : (1 : Int) ≤ 2 ^ g.rights.toNat ∧ (2 : Int) ^ g.rights.toNat ≤ 16 := by
    rcases (show g.rights.toNat = 0 ∨ g.rights.toNat = 1 ∨ g.rights.toNat = 2 ∨ g.rights.toNat = 3 ∨ g.rights.toNat = 4 by omega) with h | h | h | h | h <;> rw [h] <;> decide
  have hrt := hx.r
  have hsd := hx.s
  obtain ⟨rt, hrt'⟩ : ∃ rt, x.rights = rt := ⟨_, rfl⟩
  obtain ⟨pw, hpw⟩ : ∃ pw : Int, (2 : Int) ^ g.rights.toNat = pw := ⟨_, rfl⟩
  have r1 : 0 ≤ x.rights ∧ x.rights ≤ 255 := hx.r
  have s1 : 0 ≤ x.side ∧ x.side ≤ 255 := hx.s
  have s0 := Int.tmod_nonneg 2 s1.1
  have s2 := Int.tmod_lt_of_pos x.side (show (0 : Int) < 2 by decide)
  rw [hpw] at hpow
  generalize heg : encGame g = eg at *
  have hel : eg.length = 9 := by rw [← heg]; rfl
  have hbl : ∀ n, (∀ c' ∈ eg, Bel n c') = True := fun n => by rw [← heg]; simp [go_sem]
  have e0 : cel eg 0 = .v (.int .i64 g.cells) := by rw [← heg]; rfl
  have e3 : cel eg 3 = .lst 3 (g.kinds.map encKind) := by rw [← heg]; rfl
  have e4 : cel eg 4 = .v (.int .i64 g.rights) := by rw [← heg]; rfl
  (repeat (first | with_reducible (first | refine wL fun _ => ?_ | refine wD fun _ => ?_ | refine wE ?_ | refine adrZ.go ?_) | simp [go_sem, hel, e0, e3, e4, rl, rr, rs, rb, hbl, hpw]))
  have hcz : g.cells.toNat = gc := by omega
  have hkne : g.kinds ≠ [] := by intro h; rw [h] at k1; simp at k1
  have hz : List.replicate gc [AV.v (.int .i64 0)] = (madeAt g x 0).map encI := by simp [madeAt, hcz, encI]
  refine ALoop.start (ALoop.ind (α := Nat) (fun i => ⟨[(2, .ref 0 0 9 0 0), (3, .ref 1 0 18 0 0), (4, .ref 2 0 5 0 0), (5, .ref 19 0 5 0 0), (6, .v (.int .i64 i))], [(0, .rows true 0 9 [eg]), (1, .rows true 0 18 [er]), (2, .rows true 0 5 [[AV.nils, AV.nils, AV.nils, .v (.int .i64 0), .v (.int .i64 0)]]), (6, .rows true 0 1 ((madeAt g x i).map encI)), (19, .rows true 0 5 [[.sl 6 0 1 0 gc, AV.nils, AV.nils, .v (.int .i64 (x.rights.tmod pw)), .v (.int .i64 (x.side.tmod 2))]])], 21⟩)
    (fun d i => i + d = 6) ?_ 6 0 ?_) ?_ ?_
  · rintro d i i1 hrec
    (repeat (first | with_reducible (first | refine wL fun _ => ?_ | refine wD fun _ => ?_ | refine wE ?_ | refine adrZ.go ?_) | simp [go_sem]))
    refine aIf.mkL (fun hi => ?_) (fun hi => ?_) <;> simp at hi
    · have hci := hx.cv _ (nth_mem (l := x.cell) (i := i) (by rw [hx.c6]; omega))
      have hki := hx.kv _ (nth_mem (l := x.kind) (i := i) (by rw [hx.k6]; omega))
      have hci' : 0 ≤ nth x.cell i ∧ nth x.cell i ≤ 255 := hci
      have hki' : 0 ≤ nth x.kind i ∧ nth x.kind i ≤ 255 := hki
      have m0 := Int.tmod_nonneg (g.cells + 1) hci'.1
      have m1 := Int.tmod_nonneg (g.kinds.length : Int) hki'.1
      have m2 := Int.tmod_lt_of_pos (nth x.kind i) (show (0 : Int) < g.kinds.length by omega)
      have m3 := Int.tmod_nonneg 2 (show (0 : Int) ≤ i by omega)
      have m4 := Int.tmod_lt_of_pos (i : Int) (show (0 : Int) < 2 by decide)
      have hrc := rc i (by omega)
      have hrk := rk i (by omega)
      have hsu := madeAt_succ g x i
      have hal := madeAt_len g x i
      rw [hcz] at hal
      unfold atStep at hsu
      (repeat (first | with_reducible (first | refine wL fun _ => ?_ | refine wD fun _ => ?_ | refine wE ?_ | refine adrZ.go ?_) | simp [go_sem, hel, e0, e3, e4, hrc, hrk]))
      refine aIf.mkL (fun hc => ?_) (fun hc => ?_) <;> simp at hc
      · have hc1 := hc.1
        rw [if_pos hc1] at hsu
        (repeat (first | with_reducible (first | refine wL fun _ => ?_ | refine wD fun _ => ?_ | refine wE ?_ | refine adrZ.go ?_) | simp [go_sem, hel, e0, e3, e4, hrc, hrk, hal]))
        refine ALoop.start (hrec (d - 1) (by omega) (i + 1) (by omega)) ?_ (by simp)
        simp [go_sem, Wk_eq, hsu, rb, hbl]
      · have hc1 : ¬ (nth x.cell i).tmod (g.cells + 1) < g.cells := fun h => hkne (hc h)
        rw [if_neg hc1] at hsu
        (repeat (first | with_reducible (first | refine wL fun _ => ?_ | refine wD fun _ => ?_ | refine wE ?_ | refine adrZ.go ?_) | simp [go_sem, hel, e0, e3, e4, hrc, hrk]))
        refine ALoop.start (hrec (d - 1) (by omega) (i + 1) (by omega)) ?_ (by simp)
        simp [go_sem, Wk_eq, hsu, rb, hbl]
    · obtain rfl : i = 6 := by omega
      have hal := madeAt_len g x 6
      rw [hcz] at hal
      have hqe : q = ⟨madeAt g x 6, handL g x 0 (min g.kinds.length 2), handL g x 1 (min g.kinds.length 2), x.rights.tmod pw, x.side.tmod 2⟩ := by rw [hq, ← hpw]; rfl
      clear hq
      have hq := hqe
      (repeat (first | with_reducible (first | refine wL fun _ => ?_ | refine wD fun _ => ?_ | refine wE ?_ | refine adrZ.go ?_) | simp [go_sem, hel, e0, e3, e4]))
      refine ALoop.unroll ?_
      (repeat (first | with_reducible (first | refine wL fun _ => ?_ | refine wD fun _ => ?_ | refine wE ?_ | refine adrZ.go ?_) | simp [go_sem, hel, e0, e3, e4]))
      have hz0 := handL_zero g x 0
      refine ALoop.start (ALoop.ind (α := Nat) (fun k => ⟨[(2, .ref 0 0 9 0 0), (3, .ref 1 0 18 0 0), (4, .ref 2 0 5 0 0), (5, .ref 19 0 5 0 0), (8, .v (.int .i64 0)), (9, .v (.int .i64 k))], [(0, .rows true 0 9 [eg]), (1, .rows true 0 18 [er]), (2, .rows true 0 5 [[AV.nils, AV.nils, AV.nils, .v (.int .i64 0), .v (.int .i64 0)]]), (6, .rows true 0 1 ((madeAt g x 6).map encI)), (19, .rows true 0 5 [[.sl 6 0 1 0 gc, .sl 21 0 1 0 g.kinds.length, AV.nils, .v (.int .i64 (x.rights.tmod pw)), .v (.int .i64 (x.side.tmod 2))]]), (21, .rows true 0 1 ((handL g x 0 k).map encI))], 22⟩)
        (fun d k => k + d = min g.kinds.length 2) ?_ (min g.kinds.length 2) 0 ?_) ?_ ?_
      · rintro d k j1 hrec0
        (repeat (first | with_reducible (first | refine wL fun _ => ?_ | refine wD fun _ => ?_ | refine wE ?_ | refine adrZ.go ?_) | simp [go_sem, hel, e0, e3, e4]))
        refine aIf.mkL (fun hj => ?_) (fun hj => ?_) <;> simp at hj
        · have hk2 : k < 2 := by omega
          have hkk : k < g.kinds.length := by omega
          have hhv := hx.hv _ (nth_mem (l := x.hand) (i := 2 * 0 + k) (by rw [hx.h4]; omega))
          have hh1 : 0 ≤ nth x.hand (2 * 0 + k) ∧ nth x.hand (2 * 0 + k) ≤ 255 := hhv
          have hrh := rh (2 * 0 + k) (by omega)
          have m0 := Int.tmod_nonneg 3 hh1.1
          have hsu := handL_succ g x 0 k
          have hsk := handL_skip g x 0 k
          have hhl := handL_len g x 0 k
          have hV : handV g x 0 k = if (nth g.kinds k).keep = true then (if 250 < nth x.hand (2 * 0 + k) then 8 else (nth x.hand (2 * 0 + k)).tmod 3) else 0 := rfl
          simp only [Nat.mul_zero, Nat.zero_add, Nat.mul_one] at hrh hh1 m0 hV
          (repeat (first | with_reducible (first | refine wL fun _ => ?_ | refine wD fun _ => ?_ | refine wE ?_ | refine adrZ.go ?_) | simp [go_sem, hel, e0, e3, e4, hkk]))
          refine aIf.mkL (fun hkeep => ?_) (fun hkeep => ?_)
          · rw [if_pos hkeep] at hV
            have eI : ((k : Int)).toNat = k := by omega
            have eI2 : (k : Int) < 4 := by omega
            (repeat (first | with_reducible (first | refine wL fun _ => ?_ | refine wD fun _ => ?_ | refine wE ?_ | refine adrZ.go ?_) | simp [go_sem, hel, e0, e3, e4, hkk, hrh, hhl, eI, eI2]))
            refine aIf.mkL (fun hbig => ?_) (fun hbig => ?_) <;> simp at hbig
            · rw [if_pos hbig] at hV
              rw [hV] at hsu
              (repeat (first | with_reducible (first | refine wL fun _ => ?_ | refine wD fun _ => ?_ | refine wE ?_ | refine adrZ.go ?_) | simp [go_sem, hel, e0, e3, e4, hkk, hrh, hhl]))
              refine ALoop.start (hrec0 (d - 1) (by omega) (k + 1) (by omega)) ?_ (by simp)
              simp [go_sem, Wk_eq, hsu, rb, hbl]
            · rw [if_neg (by omega)] at hV
              rw [hV] at hsu
              (repeat (first | with_reducible (first | refine wL fun _ => ?_ | refine wD fun _ => ?_ | refine wE ?_ | refine adrZ.go ?_) | simp [go_sem, hel, e0, e3, e4, hkk, hrh, hhl]))
              refine ALoop.start (hrec0 (d - 1) (by omega) (k + 1) (by omega)) ?_ (by simp)
              simp [go_sem, Wk_eq, hsu, rb, hbl]
          · rw [if_neg (by simpa using hkeep)] at hV
            have hsk' := hsk hV
            (repeat (first | with_reducible (first | refine wL fun _ => ?_ | refine wD fun _ => ?_ | refine wE ?_ | refine adrZ.go ?_) | simp [go_sem, hel, e0, e3, e4]))
            refine ALoop.start (hrec0 (d - 1) (by omega) (k + 1) (by omega)) ?_ (by simp)
            simp [go_sem, Wk_eq, hsk', rb, hbl]
        · have hkm : k = min g.kinds.length 2 := by omega
          subst hkm
          (repeat (first | with_reducible (first | refine wL fun _ => ?_ | refine wD fun _ => ?_ | refine wE ?_ | refine adrZ.go ?_) | simp [go_sem, hel, e0, e3, e4]))
          refine ALoop.unroll ?_
          (repeat (first | with_reducible (first | refine wL fun _ => ?_ | refine wD fun _ => ?_ | refine wE ?_ | refine adrZ.go ?_) | simp [go_sem, hel, e0, e3, e4]))
          have hz1 := handL_zero g x 1
          refine ALoop.start (ALoop.ind (α := Nat) (fun k => ⟨[(2, .ref 0 0 9 0 0), (3, .ref 1 0 18 0 0), (4, .ref 2 0 5 0 0), (5, .ref 19 0 5 0 0), (8, .v (.int .i64 1)), (9, .v (.int .i64 k))], [(0, .rows true 0 9 [eg]), (1, .rows true 0 18 [er]), (2, .rows true 0 5 [[AV.nils, AV.nils, AV.nils, .v (.int .i64 0), .v (.int .i64 0)]]), (6, .rows true 0 1 ((madeAt g x 6).map encI)), (19, .rows true 0 5 [[.sl 6 0 1 0 gc, .sl 21 0 1 0 g.kinds.length, .sl 22 0 1 0 g.kinds.length, .v (.int .i64 (x.rights.tmod pw)), .v (.int .i64 (x.side.tmod 2))]]), (21, .rows true 0 1 ((handL g x 0 (min g.kinds.length 2)).map encI)), (22, .rows true 0 1 ((handL g x 1 k).map encI))], 23⟩)
            (fun d k => k + d = min g.kinds.length 2) ?_ (min g.kinds.length 2) 0 ?_) ?_ ?_
          · rintro d k j1 hrec1
            (repeat (first | with_reducible (first | refine wL fun _ => ?_ | refine wD fun _ => ?_ | refine wE ?_ | refine adrZ.go ?_) | simp [go_sem, hel, e0, e3, e4]))
            refine aIf.mkL (fun hj => ?_) (fun hj => ?_) <;> simp at hj
            · have hk2 : k < 2 := by omega
              have hkk : k < g.kinds.length := by omega
              have hhv := hx.hv _ (nth_mem (l := x.hand) (i := 2 * 1 + k) (by rw [hx.h4]; omega))
              have hh1 : 0 ≤ nth x.hand (2 * 1 + k) ∧ nth x.hand (2 * 1 + k) ≤ 255 := hhv
              have hrh := rh (2 * 1 + k) (by omega)
              have m0 := Int.tmod_nonneg 3 hh1.1
              have hsu := handL_succ g x 1 k
              have hsk := handL_skip g x 1 k
              have hhl := handL_len g x 1 k
              have hV : handV g x 1 k = if (nth g.kinds k).keep = true then (if 250 < nth x.hand (2 * 1 + k) then 8 else (nth x.hand (2 * 1 + k)).tmod 3) else 0 := rfl
              simp only [Nat.mul_zero, Nat.zero_add, Nat.mul_one] at hrh hh1 m0 hV
              (repeat (first | with_reducible (first | refine wL fun _ => ?_ | refine wD fun _ => ?_ | refine wE ?_ | refine adrZ.go ?_) | simp [go_sem, hel, e0, e3, e4, hkk]))
              refine aIf.mkL (fun hkeep => ?_) (fun hkeep => ?_)
              · rw [if_pos hkeep] at hV
                have eI : (2 + (k : Int)).toNat = 2 + k := by omega
                have eI2 : 2 + (k : Int) < 4 := by omega
                (repeat (first | with_reducible (first | refine wL fun _ => ?_ | refine wD fun _ => ?_ | refine wE ?_ | refine adrZ.go ?_) | simp [go_sem, hel, e0, e3, e4, hkk, hrh, hhl, eI, eI2]))
                refine aIf.mkL (fun hbig => ?_) (fun hbig => ?_) <;> simp at hbig
                · rw [if_pos hbig] at hV
                  rw [hV] at hsu
                  (repeat (first | with_reducible (first | refine wL fun _ => ?_ | refine wD fun _ => ?_ | refine wE ?_ | refine adrZ.go ?_) | simp [go_sem, hel, e0, e3, e4, hkk, hrh, hhl]))
                  refine ALoop.start (hrec1 (d - 1) (by omega) (k + 1) (by omega)) ?_ (by simp)
                  simp [go_sem, Wk_eq, hsu, rb, hbl]
                · rw [if_neg (by omega)] at hV
                  rw [hV] at hsu
                  (repeat (first | with_reducible (first | refine wL fun _ => ?_ | refine wD fun _ => ?_ | refine wE ?_ | refine adrZ.go ?_) | simp [go_sem, hel, e0, e3, e4, hkk, hrh, hhl]))
                  refine ALoop.start (hrec1 (d - 1) (by omega) (k + 1) (by omega)) ?_ (by simp)
                  simp [go_sem, Wk_eq, hsu, rb, hbl]
              · rw [if_neg (by simpa using hkeep)] at hV
                have hsk' := hsk hV
                (repeat (first | with_reducible (first | refine wL fun _ => ?_ | refine wD fun _ => ?_ | refine wE ?_ | refine adrZ.go ?_) | simp [go_sem, hel, e0, e3, e4]))
                refine ALoop.start (hrec1 (d - 1) (by omega) (k + 1) (by omega)) ?_ (by simp)
                simp [go_sem, Wk_eq, hsk', rb, hbl]
            · have hkm : k = min g.kinds.length 2 := by omega
              subst hkm
              (repeat (first | with_reducible (first | refine wL fun _ => ?_ | refine wD fun _ => ?_ | refine wE ?_ | refine adrZ.go ?_) | simp [go_sem, hel, e0, e3, e4]))
              (repeat (first | with_reducible (first | refine wL fun _ => ?_ | refine wD fun _ => ?_ | refine wE ?_ | refine adrZ.go ?_) | simp [go_sem, hel, e0, e3, e4]))
              refine ALoop.unroll ?_
              (repeat (first | with_reducible (first | refine wL fun _ => ?_ | refine wD fun _ => ?_ | refine wE ?_ | refine adrZ.go ?_) | simp [go_sem, hel, e0, e3, e4]))
              rw [hq]
              exact ⟨leV_frz rfl (by simp [hal]) (by simp [noH]) (by simp [List.take_of_length_le, hal]), leV_frz rfl (by simp [handL_len]) (by simp [noH]) (by simp [List.take_of_length_le, handL_len]), leV_frz rfl (by simp [handL_len]) (by simp [noH]) (by simp [List.take_of_length_le, handL_len]), .refl _, .refl _⟩
          · omega
          · simp [go_sem, Wk_eq, rb, hbl, hz1]
          · simp
      · omega
      · simp [go_sem, Wk_eq, rb, hbl, hz0]
      · simp
  · rfl
  · simp [go_sem, Wk_eq, rb, hbl, hz, hcz]
  · simp
end Go.Av
end
section
set_option linter.unusedSimpArgs false
set_option linter.unusedVariables false
open Go Go.Proofs
set_option maxRecDepth 20000
set_option maxHeartbeats 4000000
namespace Go.Av
/-- parts of two positions, mixed -/
def mixJ (l m : List PosD) (w : Int) (i : Nat) : List PosD := (List.range i).map fun j => if bitW w j = true then nth l j else nth m j
theorem mixJ_succ (l m : List PosD) (w : Int) (i : Nat) : mixJ l m w (i + 1) = mixJ l m w i ++ [if bitW w i = true then nth l i else nth m i] := by simp [mixJ, List.range_succ]
theorem mixJ_len (l m : List PosD) (w : Int) (i : Nat) : (mixJ l m w i).length = i := by simp [mixJ]
theorem mixJ_ok {g : GameD} {of : List Int} {l m : List PosD} {side : Int} (hl : PartsOk g of l side) (hm : PartsOk g of m side) (w : Int) : PartsOk g of (mixJ l m w l.length) side := by
  have hlen := mixJ_len l m w l.length
  have hml : m.length = l.length := by rw [hl.len, hm.len]
  have hnth : ∀ i, i < l.length → nth (mixJ l m w l.length) i = if bitW w i = true then nth l i else nth m i := fun i hi => nth_rangeMap _ hi
  have hmem : ∀ q ∈ mixJ l m w l.length, q ∈ l ∨ q ∈ m := by
    intro q hq
    obtain ⟨i, hi, rfl⟩ := List.mem_map.1 hq
    have hi' := List.mem_range.1 hi
    split
    · exact .inl (nth_mem hi')
    · exact .inr (nth_mem (by omega))
  refine ⟨by rw [hlen]; exact hl.len, fun q hq => (hmem q hq).elim (hl.ok q) (hm.ok q), fun q hq => (hmem q hq).elim (hl.sd q) (hm.sd q), fun i hi => ?_⟩
  rw [hlen] at hi
  rw [hnth i hi]
  split
  · exact hl.part i hi
  · exact hm.part i (by omega)
def encRawP2' (y0 y1 : RawP) : List AV := encRawP y0 ++ encRawP y1
theorem RegionJoins_pure (x : RawG) (hx : RawOk x) (hl : x.c.length ≤ 1099511627776) (hl0 : x.k0.length ≤ 1099511627776) (hl1 : x.k1.length ≤ 1099511627776) (y0 y1 : RawP) (hy0 : RawPOk y0) (hy1 : RawPOk y1) (w0 w1 : Int) (hw0 : U8 w0) (hw1 : U8 w1) :
    Pure Try.prog 3 [.agg (encRaw x), .agg (encRawP2' y0 y1), .agg [.v (.int .u8 w0), .v (.int .u8 w1)]] (.v (.bool true)) := by
  refine Pure.of (ACallP.of_awp (by kernel_rfl) Try.func3 rfl rfl (Nat.le_of_ble_eq_true rfl) (by kernel_rfl) ?_)
  have hSan := sanity22_pure
  have hG := R3Made_pure x hx hl hl0 hl1
  have hmg := madeG_ok hx
  have hA := R22Apart_pure _ hmg _ hw0
  have hg := apartG_ok hmg w0
  have hn := apartG_names (madeG_names x) w0
  have hs := apartG_slide (madeG_slide x) w0
  have hnb := normal_apart (madeG x) w0
  generalize apartG (madeG x) w0 = g at *
  have hnh := noHand_normal hnb
  have hsm := small22_pure _ hg hs
  have hM0 := R4Made_pure _ hg y0 hy0
  have hM1 := R4Made_pure _ hg y1 hy1
  have hp := madePos_ok hg hy0
  have hq0 := madePos_ok hg hy1
  generalize madePos g y0 = p at *
  generalize madePos g y1 = q0 at *
  have hq : POk g { q0 with side := p.side } := ⟨hq0.al, hq0.av, hq0.h0, hq0.h1, hq0.r0, hq0.r1, hp.s⟩
  obtain ⟨q, hqe⟩ : ∃ q : PosD, q = { q0 with side := p.side } := ⟨_, rfl⟩
  have eq0 : encPos q = [encIs q0.at_, encIs q0.h0, encIs q0.h1, .v (.int .i64 q0.rights), .v (.int .i64 p.side)] := by rw [hqe]; rfl
  have hqs : q.side = p.side := by rw [hqe]
  rw [← hqe] at hq
  have hS := rSplit_pure _ hg hn _ hp
  have hT := rSplit_pure _ hg hn _ hq
  rw [hnb] at hS hT
  simp only [if_true] at hS hT
  have hPp := parts22_true g hg p hp
  have hPq := parts22_true g hg q hq
  have ho := ofG_ok hg
  have hcl := ofG_cells hg
  have hc1 := hg.c1
  have h9 := hg.c9
  have hnl := nmG_len hg
  have hl := partsP_ok hp (ofG g)
  have hm := partsP_ok hq (ofG g)
  rw [hqs] at hm
  have hll : (partsP (ofG g) p).length ≤ 9 := by have := hl.len; unfold nmG at hnl; omega
  have hml : (partsP (ofG g) q).length = (partsP (ofG g) p).length := by rw [hl.len, hm.len]
  have hmx := mixJ_ok hl hm w1
  have hj1 : joinP (partsP (ofG g) p) (ofG g).length = p := joinP_parts ho hcl (by omega) hp
  have hjo : ∀ l side, PartsOk g (ofG g) l side → joinOk g l = true := fun l side h => by
    unfold joinOk nmG
    rw [hnb, h.okJ]
    simp [h.len]
  have hJ1 := rJoin_pure g hg hn (partsP (ofG g) p) hl.ok (by omega)
  rw [hjo _ _ hl] at hJ1
  have hr1 : joinRes g (partsP (ofG g) p) = p := by unfold joinRes; rw [hjo _ _ hl, if_pos rfl, hj1]
  rw [hr1] at hJ1
  have hlmx := mixJ_len (partsP (ofG g) p) (partsP (ofG g) q) w1 (partsP (ofG g) p).length
  have hJ2 := rJoin_pure g hg hn _ hmx.ok (by rw [hlmx]; omega)
  rw [hjo _ _ hmx] at hJ2
  have hr2 : joinRes g (mixJ (partsP (ofG g) p) (partsP (ofG g) q) w1 (partsP (ofG g) p).length) = joinP (mixJ (partsP (ofG g) p) (partsP (ofG g) q) w1 (partsP (ofG g) p).length) (ofG g).length := by unfold joinRes; rw [hjo _ _ hmx, if_pos rfl]
  rw [hr2] at hJ2
  have hb := joinP_ok ho hcl (by omega) hmx
  have hbp := parts_joinP hnh ho hcl hmx
  have hU := rSplit_pure _ hg hn _ hb
  rw [hnb, hbp] at hU
  simp only [if_true] at hU hJ1 hJ2
  have hE := R4Same_pure p p (hp.fits hg) (hp.fits hg)
  rw [show decide (cmpP p p = 0) = true from decide_eq_true (cmpP_eq.2 rfl)] at hE
  have hVb := RValid_pure g (by have := hg.k6; unfold FitsG; omega) ⟨hg.r0, by have := hg.r4; omega⟩ _ (hb.fits hg)
  rw [show posOk g _ = true from pOk_iff.2 hb] at hVb
  have hLs := Lists_pure _ _ (by rw [hlmx]; omega) (by rw [hlmx]; omega) (fun r hr => (hmx.ok r hr).fits hg) (fun r hr => (hmx.ok r hr).fits hg)
  rw [show ∀ z : List PosD, decide (z = z) = true from fun z => decide_eq_true rfl] at hLs
  have hms := fun i => mixJ_succ (partsP (ofG g) p) (partsP (ofG g) q) w1 i
  have hmz : mixJ (partsP (ofG g) p) (partsP (ofG g) q) w1 0 = [] := rfl
  have hmlen := fun i => mixJ_len (partsP (ofG g) p) (partsP (ofG g) q) w1 i
  generalize joinP (mixJ (partsP (ofG g) p) (partsP (ofG g) q) w1 (partsP (ofG g) p).length) (ofG g).length = b at *
  have hgb : ∀ n, (∀ c ∈ encGame g, Bel n c) = True := fun n => by simp [go_sem]
  have hgb0 : ∀ n, (∀ c ∈ encGame (madeG x), Bel n c) = True := fun n => by simp [go_sem]
  have hel : (encGame g).length = 9 := rfl
  obtain ⟨ry0, _, _, _, _, _, rb0⟩ := rawRow hy0
  obtain ⟨ry1, _, _, _, _, _, rb1⟩ := rawRow hy1
  have hrl : (encRaw x).length = 12 := rfl
  have hrb : ∀ n, (∀ c ∈ encRaw x, Bel n c) = True := fun n => by simp [go_sem]
  have hyl : (encRawP2' y0 y1).length = 36 := by unfold encRawP2'; rw [List.length_append]; omega
  have hy0' : (encRawP2' y0 y1).take 18 = encRawP y0 := by unfold encRawP2'; rw [List.take_append_of_le_length (by omega), List.take_of_length_le (by omega)]
  have hy1' : ((encRawP2' y0 y1).drop 18).take 18 = encRawP y1 := by unfold encRawP2'; rw [List.drop_append_of_le_length (by omega), List.drop_of_length_le (by omega), List.nil_append, List.take_of_length_le (by omega)]
  generalize encRawP2' y0 y1 = ey at *
  generalize encRawP y0 = e0 at *
  generalize encRawP y1 = e1 at *
  generalize encRaw x = er at *
  generalize encGame (madeG x) = eg0 at *
  clear hbp hr1 hr2 hj1 hjo hmx hl hm hx hmg
  generalize mixJ (partsP (ofG g) p) (partsP (ofG g) q) w1 = mx at *
  generalize partsP (ofG g) p = l at *
  generalize partsP (ofG g) q = m at *
  obtain ⟨eg, heg⟩ : ∃ eg, eg = encGame g := ⟨_, rfl⟩
  rw [← heg] at hA hsm hM0 hM1 hS hT hPp hPq hJ1 hJ2 hU hVb hgb hel
  clear heg
  rw [eq0] at hT hPq
  (repeat (first | with_reducible (first | refine wL fun _ => ?_ | refine wD fun _ => ?_ | refine wE ?_ | refine adrZ.go ?_) | simp [go_sem, hrl, hyl]))
  refine ACallP.plain hSan (by simp [go_sem]) ?_
  (repeat (first | with_reducible (first | refine wL fun _ => ?_ | refine wD fun _ => ?_ | refine wE ?_ | refine adrZ.go ?_) | simp [go_sem, hrl, hyl]))
  try ((with_reducible refine adrZ.go ?_); (try simp [go_sem]))
  refine dCall.plain hG (by simp [go_sem, hrb]) ?_
  (repeat (first | with_reducible (first | refine wL fun _ => ?_ | refine wD fun _ => ?_ | refine wE ?_ | refine adrZ.go ?_) | simp [go_sem, hrl, hyl]))
  try ((with_reducible refine adrZ.go ?_); (try simp [go_sem]))
  refine dCall.plain hA (by simp [go_sem, hgb0]) ?_
  (repeat (first | with_reducible (first | refine wL fun _ => ?_ | refine wD fun _ => ?_ | refine wE ?_ | refine adrZ.go ?_) | simp [go_sem, hrl, hyl, hel]))
  refine ACallP.plain hsm (by simp [go_sem, hgb]) ?_
  (repeat (first | with_reducible (first | refine wL fun _ => ?_ | refine wD fun _ => ?_ | refine wE ?_ | refine adrZ.go ?_) | simp [go_sem, hel]))
  refine aIf.mkL (fun h3 => ?_) (fun h3 => ?_)
  · (repeat (first | with_reducible (first | refine wL fun _ => ?_ | refine wD fun _ => ?_ | refine wE ?_ | refine adrZ.go ?_) | simp [go_sem]))
  · (repeat (first | with_reducible (first | refine wL fun _ => ?_ | refine wD fun _ => ?_ | refine wE ?_ | refine adrZ.go ?_) | simp [go_sem, hel, hyl, hy0', ry0]))
    refine ACallP.plain hM0 (by simp [go_sem, hgb, rb0]) ?_
    (repeat (first | with_reducible (first | refine wL fun _ => ?_ | refine wD fun _ => ?_ | refine wE ?_ | refine adrZ.go ?_) | simp [go_sem, hel, hyl, hy1', ry1]))
    refine ACallP.plain hM1 (by simp [go_sem, hgb, rb1]) ?_
    (repeat (first | with_reducible (first | refine wL fun _ => ?_ | refine wD fun _ => ?_ | refine wE ?_ | refine adrZ.go ?_) | simp [go_sem, hel]))
    refine ACallP.plain hS (by simp [go_sem, hgb]) ?_
    (repeat (first | with_reducible (first | refine wL fun _ => ?_ | refine wD fun _ => ?_ | refine wE ?_ | refine adrZ.go ?_) | simp [go_sem, hel]))
    refine ACallP.plain hT (by simp [go_sem, hgb]) ?_
    (repeat (first | with_reducible (first | refine wL fun _ => ?_ | refine wD fun _ => ?_ | refine wE ?_ | refine adrZ.go ?_) | simp [go_sem, hel, hml]))
    refine aGC.plain _ (fun _ => hPp) (by simp [go_sem, hgb]) ?_
    (repeat (first | with_reducible (first | refine wL fun _ => ?_ | refine wD fun _ => ?_ | refine wE ?_ | refine adrZ.go ?_) | simp [go_sem, hel]))
    refine aGC.plain _ (fun _ => hPq) (by simp [go_sem, hgb]) ?_
    (repeat (first | with_reducible (first | refine wL fun _ => ?_ | refine wD fun _ => ?_ | refine wE ?_ | refine adrZ.go ?_) | simp [go_sem, hel]))
    refine ALoop.start (ALoop.ind (α := Nat) (fun i => ⟨[(5, .ref 2 0 2 0 0), (7, .v (.bool true)), (8, .ref 8 0 9 0 0), (9, .ref 10 0 5 0 0), (11, encPs l), (13, encPs m), (15, .sl 12 i 5 0 i), (16, .v (.int .i64 i))],
        [(2, .rows true 0 2 [[.v (.int .u8 w0), .v (.int .u8 w1)]]), (8, .rows true 0 9 [eg]), (10, .rows true 0 5 [encPos p]), (12, .rows true i 5 ((mx i).map encPos))], 13⟩)
      (fun d i => i + d = l.length) ?_ l.length 0 ?_) ?_ ?_
    · rintro d i i1 hrec
      have lmx := hmlen i
      have smx := hms i
      have hbw : bitW w1 i = decide (andN .u8 (w1.fdiv (2 ^ ((i : Int).tmod 8).toNat)) 1 = 1) := rfl
      have m0 := Int.tmod_nonneg (8 : Int) (show (0 : Int) ≤ i by omega)
      have m1 := Int.tmod_lt_of_pos (i : Int) (show (0 : Int) < 8 by omega)
      generalize hb8 : (i : Int).tmod 8 = b8 at *
      (repeat (first | with_reducible (first | refine wL fun _ => ?_ | refine wD fun _ => ?_ | refine wE ?_ | refine adrZ.go ?_) | simp [go_sem]))
      refine aIf.mkL (fun hi => ?_) (fun hi => ?_) <;> simp at hi
      · have hi2 : i < m.length := by omega
        (repeat (first | with_reducible (first | refine wL fun _ => ?_ | refine wD fun _ => ?_ | refine wE ?_ | refine adrZ.go ?_) | simp [go_sem, hb8]))
        refine aIf.mkL (fun hc => ?_) (fun hc => ?_) <;> rw [← hbw] at hc
        · rw [if_pos hc] at smx
          (repeat (first | with_reducible (first | refine wL fun _ => ?_ | refine wD fun _ => ?_ | refine wE ?_ | refine adrZ.go ?_) | simp [go_sem, hi, lmx]))
          refine ALoop.start (hrec (d - 1) (by omega) (i + 1) (by omega)) ?_ (by simp)
          simp [go_sem, Wk_eq, smx]
          exact of_eq_true (hgb 13)
        · rw [if_neg (by simp [hc])] at smx
          (repeat (first | with_reducible (first | refine wL fun _ => ?_ | refine wD fun _ => ?_ | refine wE ?_ | refine adrZ.go ?_) | simp [go_sem, hi2, lmx]))
          refine ALoop.start (hrec (d - 1) (by omega) (i + 1) (by omega)) ?_ (by simp)
          simp [go_sem, Wk_eq, smx]
          exact of_eq_true (hgb 13)
      · have hil : i = l.length := by omega
        subst hil
        (repeat (first | with_reducible (first | refine wL fun _ => ?_ | refine wD fun _ => ?_ | refine wE ?_ | refine adrZ.go ?_) | simp [go_sem, hel]))
        refine ACallP.plain hJ1 (by simp [go_sem, hgb]) ?_
        (repeat (first | with_reducible (first | refine wL fun _ => ?_ | refine wD fun _ => ?_ | refine wE ?_ | refine adrZ.go ?_) | simp [go_sem, hel]))
        refine ACallP.pureF [12] hJ2 ?_ (by simp [go_sem, hgb]) ?_
        · ((try simp only [encProg, encStep, encAct, encAs, encPath, encPt, encOut, encState, encPos, encOs, encSs, encPs, encIs, encGame, List.map_cons, List.map_nil, List.nil_append, List.append_nil, List.cons_append]); (repeat (first | (with_reducible exact LeRow.nil) | (with_reducible exact LeRows.nil) | (with_reducible exact LeV.refl _) | (with_reducible exact LeRow.refl _ _ _ _) | (with_reducible exact LeRows.refl _) | (with_reducible refine LeRow.cons ?_ ?_) | (with_reducible refine LeRows.cons ?_ ?_) | (with_reducible refine LeV.agg ?_) | (with_reducible refine LeV.tup ?_) | (with_reducible refine LeV.fn ?_ ?_) | (with_reducible exact LeV.nil _) | (with_reducible refine leRows_append (LeRows.refl _) ?_) | ((refine leV_frz rfl (by simp [lmx]) (by simp [frzO, frz1, upd, noH]) ?_); (first | (simp [go_sem, lmx]; done) | (simp [go_sem, lmx]; exact List.take_of_length_le (by simp [lmx])))) | ((refine LeV.frz rfl (by simp [lmx]) (by simp [frzO, frz1, upd, noH]) ?_); (simp only [List.drop_zero, List.take_succ_cons, List.take_zero, List.map_cons, List.map_nil])) | ((refine LeV.frzP rfl (by simp [lmx]) (by simp) (by simp [frzO, frz1, upd, noH]) ?_); (simp only [nth_zero, List.drop_zero])))))
        (repeat (first | with_reducible (first | refine wL fun _ => ?_ | refine wD fun _ => ?_ | refine wE ?_ | refine adrZ.go ?_) | simp [go_sem, hel]))
        refine aGC.plain _ (fun _ => hE) (by simp [go_sem]) ?_
        (repeat (first | with_reducible (first | refine wL fun _ => ?_ | refine wD fun _ => ?_ | refine wE ?_ | refine adrZ.go ?_) | simp [go_sem, hel]))
        refine aGC.plain _ (fun _ => hVb) (by simp [go_sem, hgb]) ?_
        (repeat (first | with_reducible (first | refine wL fun _ => ?_ | refine wD fun _ => ?_ | refine wE ?_ | refine adrZ.go ?_) | simp [go_sem, hel]))
        refine ACallP.plain hU (by simp [go_sem, hgb]) ?_
        (repeat (first | with_reducible (first | refine wL fun _ => ?_ | refine wD fun _ => ?_ | refine wE ?_ | refine adrZ.go ?_) | simp [go_sem, hel]))
        refine aGC.go ?_
        refine ACallP.flat hLs (.v _) ?_ (by simp [go_sem]) ?_
        · ((try simp only [encProg, encStep, encAct, encAs, encPath, encPt, encOut, encState, encPos, encOs, encSs, encPs, encIs, encGame, List.map_cons, List.map_nil, List.nil_append, List.append_nil, List.cons_append]); (repeat (first | (with_reducible exact LeRow.nil) | (with_reducible exact LeRows.nil) | (with_reducible exact LeV.refl _) | (with_reducible exact LeRow.refl _ _ _ _) | (with_reducible exact LeRows.refl _) | (with_reducible refine LeRow.cons ?_ ?_) | (with_reducible refine LeRows.cons ?_ ?_) | (with_reducible refine LeV.agg ?_) | (with_reducible refine LeV.tup ?_) | (with_reducible refine LeV.fn ?_ ?_) | (with_reducible exact LeV.nil _) | (with_reducible refine leRows_append (LeRows.refl _) ?_) | ((refine leV_frz rfl (by simp [lmx]) (by simp [frzO, frz1, upd, noH]) ?_); (first | (simp [go_sem, lmx]; done) | (simp [go_sem, lmx]; exact List.take_of_length_le (by simp [lmx])))) | ((refine LeV.frz rfl (by simp [lmx]) (by simp [frzO, frz1, upd, noH]) ?_); (simp only [List.drop_zero, List.take_succ_cons, List.take_zero, List.map_cons, List.map_nil])) | ((refine LeV.frzP rfl (by simp [lmx]) (by simp) (by simp [frzO, frz1, upd, noH]) ?_); (simp only [nth_zero, List.drop_zero])))))
        (repeat (first | with_reducible (first | refine wL fun _ => ?_ | refine wD fun _ => ?_ | refine wE ?_ | refine adrZ.go ?_) | simp [go_sem]))
    · simp
    · simp [go_sem, Wk_eq, hmz]
      exact of_eq_true (hgb 13)
    · simp
end Go.Av
end
