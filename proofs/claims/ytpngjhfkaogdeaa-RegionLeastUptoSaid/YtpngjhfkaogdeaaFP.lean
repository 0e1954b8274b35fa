/- Contracts, the reference of layer 22: what is joined of parts. -/
import Derived.Test.YtpngjhfkaogdeaaFI
import Derived.Test.YtpngjhfkaogdeaaDQ
import Derived.Test.YtpngjhfkaogdeaaDL
section
set_option linter.unusedSimpArgs false
set_option linter.unusedVariables false
open Go Go.Proofs
set_option maxRecDepth 20000
set_option maxHeartbeats 4000000
namespace Go.Av
theorem noHand_normal {g : GameD} (h : normalB g = true) : NoHand g := by
  unfold normalB at h
  simp only [Bool.and_eq_true, decide_eq_true_eq, Bool.not_eq_true', List.any_eq_false] at h
  exact ⟨fun k hk => by have := h.1.1.2 k hk; simpa using this, h.1.1.1.1.2⟩
/-- what has been set, in the part i up to the cell c -/
def refQ (of nm : List Int) (l : List PosD) (n i c : Nat) : List Int := (List.range n).map fun x => if x < c then refA of nm l (i + 1) x else refA of nm l i x
theorem refQ_len (of nm : List Int) (l : List PosD) (n i c : Nat) : (refQ of nm l n i c).length = n := by simp [refQ]
theorem refQ_same (of nm : List Int) (l : List PosD) {n : Nat} (i : Nat) {c : Nat} (hc : c < n) (h : ¬ nth of c = nth nm i) : refQ of nm l n i (c + 1) = refQ of nm l n i c := by
  refine List.map_congr_left fun x hx => ?_
  by_cases h2 : x = c
  · subst h2
    rw [if_pos (show x < x + 1 by omega), if_neg (show ¬ x < x by omega), refA, if_neg h]
  · by_cases h3 : x < c
    · rw [if_pos (show x < c + 1 by omega), if_pos h3]
    · rw [if_neg (show ¬ x < c + 1 by omega), if_neg h3]
theorem refQ_set (of nm : List Int) (l : List PosD) {n : Nat} (i : Nat) {c : Nat} (hc : c < n) (h : nth of c = nth nm i) : refQ of nm l n i (c + 1) = (refQ of nm l n i c).set c (nth (nth l i).at_ c) := by
  refine list_ext_nth (by simp [refQ]) fun x hx => ?_
  have hx' : x < n := by simpa [refQ] using hx
  rw [nth_setE, refQ_len]
  unfold refQ
  rw [nth_rangeMap _ hx', nth_rangeMap _ hx']
  by_cases h2 : c = x
  · subst h2
    rw [if_pos (show c < c + 1 by omega), if_pos (show c = c ∧ c < n from ⟨rfl, hc⟩), refA, if_pos h]
  · rw [if_neg (show ¬ (c = x ∧ x < n) from fun h' => h2 h'.1)]
    by_cases h3 : x < c
    · rw [if_pos (show x < c + 1 by omega), if_pos h3]
    · rw [if_neg (show ¬ x < c + 1 by omega), if_neg h3]
theorem refQ_end (of nm : List Int) (l : List PosD) (n i : Nat) : refQ of nm l n i n = refQ of nm l n (i + 1) 0 := by
  refine List.map_congr_left fun x hx => ?_
  have := List.mem_range.1 hx
  rw [if_pos this, if_neg (show ¬ x < 0 by omega)]
theorem refQ_zero (of nm : List Int) (l : List PosD) (n : Nat) : refQ of nm l n 0 0 = List.replicate n 0 := by
  refine list_ext_nth (by simp [refQ]) fun x hx => ?_
  have hx' : x < n := by simpa [refQ] using hx
  unfold refQ
  rw [nth_rangeMap _ hx', if_neg (show ¬ x < 0 by omega), nth_eq _ _ (by simpa using hx'), List.getElem_replicate]
  rfl
theorem joinRes_ref {g : GameD} (hg : GOk g) {l : List PosD} (hl : ∀ p ∈ l, POk g p) (h : joinOk g l = true) :
    joinRes g l = ⟨refQ (ofG g) (nmG g) l (ofG g).length l.length 0, List.replicate g.kinds.length 0, List.replicate g.kinds.length 0, 0, (nth l 0).side⟩ := by
  unfold joinRes
  rw [if_pos h]
  unfold joinOk at h
  simp only [Bool.and_eq_true, decide_eq_true_eq] at h
  have hnh := noHand_normal h.1
  have hcl := ofG_cells hg
  have hnl := nmG_len hg
  obtain ⟨a, b, c⟩ := (hl _ (nth_mem (show 0 < l.length by omega))).zero hnh
  have ej : joinP l (ofG g).length = ⟨joinAt l (ofG g).length, (nth l 0).h0, (nth l 0).h1, (nth l 0).rights, (nth l 0).side⟩ := rfl
  rw [ej, a, b, c]
  have e : joinAt l (ofG g).length = refQ (ofG g) (nmG g) l (ofG g).length l.length 0 := by
    refine List.map_congr_left fun x hx => ?_
    rw [if_neg (show ¬ x < 0 by omega)]
    exact sumA_ref rfl (by have := h.2.1; unfold nmG at this; omega) h.2.2 (fun p hp => by have := (hl p hp).al; omega) (List.mem_range.1 hx) _ (Nat.le_refl _)
  rw [e]
end Go.Av
end
section
set_option linter.unusedSimpArgs false
set_option linter.unusedVariables false
open Go Go.Proofs
set_option maxRecDepth 20000
set_option maxHeartbeats 4000000
namespace Go.Av
/-- what the lists of a code are -/
theorem sideP_nth (g : GameD) (s : Int) {k c : Nat} (hk : k < g.kinds.length) (hc : c < g.cells.toNat) : nth (nth (sideP g s) k) c = kindP g.board s (nth g.kinds k).progs c := by
  unfold sideP
  rw [nth_map _ _ _ hk]
  have hc' : c < (List.range g.board.cells.toNat).length := by rw [List.length_range]; exact hc
  show nth ((List.range g.board.cells.toNat).map fun (c : Nat) => kindP g.board s (nth g.kinds k).progs c) c = _
  rw [nth_map _ _ _ hc', nth_eq _ _ hc', List.getElem_range]
theorem sideP_nth' (g : GameD) (s : Int) {k c : Nat} (hk : k < g.kinds.length) (hc : c < g.cells.toNat) : nth (nth (sideP g s) k) c = kindP g.board s (nth g.kinds k).progs c := sideP_nth g s hk hc
/-
  rw [nth_map _ _ _ (by simpa [GameD.board] using hc), nth_eq _ _ (by simpa [GameD.board] using hc), List.getElem_range]
-/
/-- a code whose lists fit -/
structure FitC (g : GameD) (c : CodeD) : Prop where
  sh : ShapeOk g c
  len : ∀ l ∈ c.1 ++ c.2, ∀ x ∈ l, x.length ≤ 1099511627776 ∧ ActsLe 1048576 x
theorem fit_codeP {g : GameD} (hg : GOk g) : FitC g (codeP g) := by
  refine ⟨shape_codeP hg, ?_⟩
  have h : ∀ s, ∀ l ∈ sideP g s, ∀ x ∈ l, x.length ≤ 1099511627776 ∧ ActsLe 1048576 x := by
    intro s l hl x hx
    obtain ⟨k, hk, rfl⟩ := List.mem_map.1 hl
    obtain ⟨c, _, rfl⟩ := List.mem_map.1 hx
    exact ⟨by have := kindP_len hg s hk (c : Nat); omega, kindP_acts hg s hk _⟩
  intro l hl
  rcases List.mem_append.1 hl with hl | hl
  · exact h 0 l hl
  · exact h 1 l hl
theorem FitC.side {g : GameD} {c : CodeD} (h : FitC g c) {s : Nat} (hs : s < 2) : ∃ l, cel [encSide c.1, encSide c.2] s = encSide l ∧ l.length = g.kinds.length ∧ (∀ x ∈ l, (x.length : Int) = g.cells) ∧ ∀ x ∈ l, ∀ y ∈ x, y.length ≤ 1099511627776 ∧ ActsLe 1048576 y := by
  rcases (show s = 0 ∨ s = 1 by omega) with rfl | rfl
  · exact ⟨_, rfl, h.sh.l1, h.sh.c1, fun x hx => h.len x (by simp [hx])⟩
  · exact ⟨_, rfl, h.sh.l2, h.sh.c2, fun x hx => h.len x (by simp [hx])⟩
theorem libL_slide (d e k r : Int) (i : Nat) : countOp (nth (libL d e k r) i) 2 ≤ 1 := by
  rcases Nat.lt_or_ge i 16 with h | h
  · have : ∀ p ∈ libL d e k r, countOp p 2 ≤ 1 := by
      intro p hp
      simp only [libL, List.mem_cons, List.not_mem_nil, or_false] at hp
      rcases hp with rfl | rfl | rfl | rfl | rfl | rfl | rfl | rfl | rfl | rfl | rfl | rfl | rfl | rfl | rfl | rfl <;> simp [countOp]
    exact this _ (nth_mem h)
  · have e : nth (libL d e k r) i = [] := by
      unfold nth
      rw [List.getD_eq_getElem?_getD, List.getElem?_eq_none (by exact h)]; rfl
    rw [e]
    simp [countOp]
theorem fitP_slide {dirs kinds rights : Int} {p : List (Int × Int)} (h : countOp p 2 ≤ 1) : countOp (fitP dirs kinds rights p) 2 ≤ 1 := by
  unfold fitP
  split
  · simp [countOp]
  · exact Nat.le_trans (fit_count 2 p) h
theorem madeG_slide (x : RawG) : OneSlide (madeG x) := by
  intro k hk p hp
  obtain ⟨i, _, rfl⟩ := List.mem_map.1 hk
  obtain ⟨n, _, rfl⟩ := List.mem_map.1 hp
  exact fitP_slide (libL_slide _ _ _ _ _)
end Go.Av
end
section
set_option linter.unusedSimpArgs false
set_option linter.unusedVariables false
open Go Go.Proofs
set_option maxRecDepth 20000
set_option maxHeartbeats 4000000
namespace Go.Av
theorem countOp_filter (p : List (List (Int × Int))) : ∀ q ∈ p.filter plainP, q ∈ p := fun q h => (List.mem_filter.1 h).1
theorem plainG_slide {g : GameD} (h : OneSlide g) : OneSlide (plainG g) := by
  intro k hk p hp
  obtain ⟨k', hk', rfl⟩ := List.mem_map.1 hk
  exact h k' hk' p (List.mem_filter.1 hp).1
theorem apartG_slide {g : GameD} (h : OneSlide g) (w : Int) : OneSlide (apartG g w) := plainG_slide h
theorem plainG_names {g : GameD} (h : NamesOk g) : NamesOk (plainG g) := by
  have e : (plainG g).kinds.map (·.name) = g.kinds.map (·.name) := by simp [plainG, plainK]
  unfold NamesOk
  rw [e]; exact h
theorem apartG_names {g : GameD} (h : NamesOk g) (w : Int) : NamesOk (apartG g w) := plainG_names h
theorem madeG_names (x : RawG) : NamesOk (madeG x) := by
  unfold NamesOk madeG kindsN
  split
  · left; rfl
  · right; rfl
theorem normal_plain (g : GameD) : normalB (plainG g) = true := by
  unfold normalB plainG
  simp [plainK]
theorem normal_apart (g : GameD) (w : Int) : normalB (apartG g w) = true := normal_plain g
theorem small22_pure (g : GameD) (hg : GOk g) (hs : OneSlide g) : Pure Try.prog 8 [.agg (encGame g)] (.v (.bool (decide (countC (codeP g) ≤ 3000)))) := by
  refine Pure.of (ACallP.of_awp (by kernel_rfl) Try.func8 rfl rfl (Nat.le_of_ble_eq_true rfl) (by kernel_rfl) ?_)
  have hC := Compile8_pure g hg
  have hF := fit_codeP hg
  have hcnt := countC_le hg hs
  have hk6 := hg.k6
  have hc9 := hg.c9
  have hc1 := hg.c1
  have hN := Count8_pure (codeP g) (by omega) (by rw [hF.sh.l1]; omega) (by rw [hF.sh.l2]; omega) (fun y hy => by
    rcases List.mem_append.1 hy with h | h
    · have := hF.sh.c1 y h; omega
    · have := hF.sh.c2 y h; omega)
  have hgb : ∀ n, (∀ c ∈ encGame g, Bel n c) = True := fun n => by simp [go_sem]
  obtain ⟨eg, heg⟩ : ∃ eg, eg = encGame g := ⟨_, rfl⟩
  have hel : eg.length = 9 := by rw [heg]; rfl
  rw [← heg] at hC hgb ⊢
  clear heg
  have hecl : (encCode (codeP g)).length = 2 := rfl
  have hecb : ∀ n, (∀ c ∈ encCode (codeP g), Bel n c) = True := fun n => by simp [go_sem]
  generalize encCode (codeP g) = ec at *
  (repeat (first | with_reducible (first | refine wL fun _ => ?_ | refine wD fun _ => ?_ | refine wE ?_ | refine adrZ.go ?_) | simp [go_sem, hel]))
  refine ACallP.plain hC (by simp [go_sem, hgb]) ?_
  (repeat (first | with_reducible (first | refine wL fun _ => ?_ | refine wD fun _ => ?_ | refine wE ?_ | refine adrZ.go ?_) | simp [go_sem, hel, hecl]))
  refine ACallP.plain hN (by simp [go_sem, hecb]) ?_
  have e : decide ((countC (codeP g) : Int) ≤ 3000) = decide (countC (codeP g) ≤ 3000) := by
    refine decide_eq_decide.2 ?_; omega
  (repeat (first | with_reducible (first | refine wL fun _ => ?_ | refine wD fun _ => ?_ | refine wE ?_ | refine adrZ.go ?_) | simp [go_sem, e]))
/-! ### the fixed examples -/
def gS : GameD := ⟨4, [[1, -1, 3, -1]], [0], [⟨nameA, [[(1, 0)]], false⟩], 0, false, [], 3, 2⟩
def gM : GameD := { gS with must := true }
def pS : PosD := ⟨[1, 0, 1, 0], [0], [0], 0, 0⟩
def qS : PosD := ⟨[1, 0, 0, 0], [0], [0], 0, 0⟩
def rS : PosD := ⟨[0, 0, 1, 0], [0], [0], 0, 0⟩
theorem gS_prog : ProgOk 1 1 0 [(1, 0)] := ⟨by simp, by simp, by simp; exact ⟨by simp, by simp, by simp, by simp, by simp⟩, by decide, by decide, by decide⟩
theorem gS_board : BoardOk gS.board := ⟨rfl, by simp [gS, GameD.board], by simp [gS, GameD.board], by simp [gS, GameD.board], by simp [gS, GameD.board], by simp [gS, GameD.board], by simp [gS, GameD.board]⟩
theorem gS_ok : GOk gS := by
  refine ⟨gS_board, by decide, by decide, by decide, by decide, ?_, by decide, by decide, ?_, ?_, by decide, by decide, by simp [gS], by decide, by decide, by decide⟩
  · intro d hd
    have : d = 0 := by simp [gS] at hd; exact hd
    subst this; rfl
  · intro k hk
    simp [gS] at hk; subst hk; simp
  · intro k hk p hp
    simp [gS] at hk; subst hk
    simp at hp; subst hp
    exact gS_prog
theorem gM_ok : GOk gM := ⟨gS_ok.board, gS_ok.c1, gS_ok.c9, gS_ok.d1, gS_ok.d8, gS_ok.turn, gS_ok.k1, gS_ok.k6, gS_ok.pn, gS_ok.pr, gS_ok.r0, gS_ok.r4, gS_ok.cl, gS_ok.cn, gS_ok.bl, gS_ok.en⟩
theorem gS_names : NamesOk gS := .inl rfl
theorem gM_names : NamesOk gM := .inl rfl
theorem gS_of : ofG gS = [0, 0, 2, 2] := by decide +kernel
theorem gS_split : partsP (ofG gS) pS = [qS, rS] := by rw [gS_of]; decide +kernel
theorem gS_jo : joinOk gS [qS, rS] = true := by unfold joinOk nmG; rw [gS_of]; decide +kernel
theorem gS_jr : joinRes gS [qS, rS] = pS := by unfold joinRes; rw [gS_jo, gS_of]; decide +kernel
theorem gS_jo2 : joinOk gS [rS, qS] = false := by unfold joinOk nmG; rw [gS_of]; decide +kernel
theorem gS_jr2 : joinRes gS [rS, qS] = zeroP := by unfold joinRes; rw [gS_jo2]; rfl
theorem hand0_ok : HandOk gS [0] := ⟨rfl, fun i hi => by
  have : i = 0 := by simp at hi; exact hi
  subst this; decide⟩
theorem pS_ok : POk gS pS := ⟨rfl, by simp [pS, gS], hand0_ok, hand0_ok, by decide, by decide, .inl rfl⟩
theorem pM_ok : POk gM pS := ⟨rfl, by simp [pS, gM, gS], ⟨rfl, hand0_ok.v⟩, ⟨rfl, hand0_ok.v⟩, by decide, by decide, .inl rfl⟩
theorem qS_ok : POk gS qS := ⟨rfl, by simp [qS, gS], hand0_ok, hand0_ok, by decide, by decide, .inl rfl⟩
theorem rS_ok : POk gS rS := ⟨rfl, by simp [rS, gS], hand0_ok, hand0_ok, by decide, by decide, .inl rfl⟩
theorem sanity22_pure : Pure Try.prog 5 [] (.v (.bool true)) := by
  refine Pure.of (ACallP.of_awp (by kernel_rfl) Try.func5 rfl rfl (Nat.le_of_ble_eq_true rfl) (by kernel_rfl) ?_)
  have hS := rSplit_pure gS gS_ok gS_names pS pS_ok
  rw [gS_split, show normalB gS = true from rfl] at hS
  have hM := rSplit_pure gM gM_ok gM_names pS pM_ok
  rw [show normalB gM = false from rfl] at hM
  have hJ := rJoin_pure gS gS_ok gS_names [qS, rS] (by simp; exact ⟨qS_ok, rS_ok⟩) (by simp)
  rw [gS_jo, gS_jr] at hJ
  have hK := rJoin_pure gS gS_ok gS_names [rS, qS] (by simp; exact ⟨rS_ok, qS_ok⟩) (by simp)
  rw [gS_jo2, gS_jr2] at hK
  have hO := rOf_pure gS gS_ok
  change Pure _ _ _ (encIs (ofG gS)) at hO
  rw [gS_of] at hO
  have hL := Lists_pure [qS, rS] [qS, rS] (by simp) (by simp) (by simp; exact ⟨qS_ok.fits gS_ok, rS_ok.fits gS_ok⟩) (by simp; exact ⟨qS_ok.fits gS_ok, rS_ok.fits gS_ok⟩)
  have hI := Ints1_pure [0, 0, 2, 2] [0, 0, 2, 2] (by simp [Fits]) (by simp [Fits])
  have hE := R4Same_pure pS pS (pS_ok.fits gS_ok) (pS_ok.fits gS_ok)
  rw [show decide (cmpP pS pS = 0) = true from rfl] at hE
  rw [show decide (([qS, rS] : List PosD) = [qS, rS]) = true from by simp] at hL
  rw [show decide (([0, 0, 2, 2] : List Int) = [0, 0, 2, 2]) = true from rfl] at hI
  have hN := rNormal_pure gS gS_ok gS_names
  have hNM := rNormal_pure gM gM_ok gM_names
  rw [show normalB gS = true from rfl] at hN
  rw [show normalB gM = false from rfl] at hNM
  (repeat (first | with_reducible (first | refine wL fun _ => ?_ | refine wD fun _ => ?_ | refine wE ?_ | refine adrZ.go ?_) | simp [go_sem]))
  refine ACallP.pureF [0, 1, 2, 4, 5, 6, 8, 9, 10] hS ?_ (by simp [go_sem]) ?_
  · simp only [gS, gM, nameA, pS, qS, rS, encGame, encPos, encPs, encIss, encIs, encI, encKind, encStep, List.map_cons, List.map_nil]; ((try simp only [encProg, encStep, encAct, encAs, encPath, encPt, encOut, encState, encPos, encOs, encSs, encPs, encIs, encGame, List.map_cons, List.map_nil, List.nil_append, List.append_nil, List.cons_append]); (repeat (first | (with_reducible exact LeRow.nil) | (with_reducible exact LeRows.nil) | (with_reducible exact LeV.refl _) | (with_reducible exact LeRow.refl _ _ _ _) | (with_reducible exact LeRows.refl _) | (with_reducible refine LeRow.cons ?_ ?_) | (with_reducible refine LeRows.cons ?_ ?_) | (with_reducible refine LeV.agg ?_) | (with_reducible refine LeV.tup ?_) | (with_reducible refine LeV.fn ?_ ?_) | (with_reducible exact LeV.nil _) | (with_reducible refine leRows_append (LeRows.refl _) ?_) | ((refine leV_frz rfl (by simp) (by simp [frzO, frz1, upd, noH]) ?_); (first | (simp [go_sem]; done) | (simp [go_sem]; exact List.take_of_length_le (by simp)))) | ((refine LeV.frz rfl (by simp) (by simp [frzO, frz1, upd, noH]) ?_); (simp only [List.drop_zero, List.take_succ_cons, List.take_zero, List.map_cons, List.map_nil])) | ((refine LeV.frzP rfl (by simp) (by simp) (by simp [frzO, frz1, upd, noH]) ?_); (simp only [nth_zero, List.drop_zero])))))
  (repeat (first | with_reducible (first | refine wL fun _ => ?_ | refine wD fun _ => ?_ | refine wE ?_ | refine adrZ.go ?_) | simp [go_sem]))
  refine ACallP.pureF [12, 13, 14, 16, 17, 18, 20] hJ ?_ (by simp [go_sem]) ?_
  · simp only [gS, gM, nameA, pS, qS, rS, encGame, encPos, encPs, encIss, encIs, encI, encKind, encStep, List.map_cons, List.map_nil]; ((try simp only [encProg, encStep, encAct, encAs, encPath, encPt, encOut, encState, encPos, encOs, encSs, encPs, encIs, encGame, List.map_cons, List.map_nil, List.nil_append, List.append_nil, List.cons_append]); (repeat (first | (with_reducible exact LeRow.nil) | (with_reducible exact LeRows.nil) | (with_reducible exact LeV.refl _) | (with_reducible exact LeRow.refl _ _ _ _) | (with_reducible exact LeRows.refl _) | (with_reducible refine LeRow.cons ?_ ?_) | (with_reducible refine LeRows.cons ?_ ?_) | (with_reducible refine LeV.agg ?_) | (with_reducible refine LeV.tup ?_) | (with_reducible refine LeV.fn ?_ ?_) | (with_reducible exact LeV.nil _) | (with_reducible refine leRows_append (LeRows.refl _) ?_) | ((refine leV_frz rfl (by simp) (by simp [frzO, frz1, upd, noH]) ?_); (first | (simp [go_sem]; done) | (simp [go_sem]; exact List.take_of_length_le (by simp)))) | ((refine LeV.frz rfl (by simp) (by simp [frzO, frz1, upd, noH]) ?_); (simp only [List.drop_zero, List.take_succ_cons, List.take_zero, List.map_cons, List.map_nil])) | ((refine LeV.frzP rfl (by simp) (by simp) (by simp [frzO, frz1, upd, noH]) ?_); (simp only [nth_zero, List.drop_zero])))))
  (repeat (first | with_reducible (first | refine wL fun _ => ?_ | refine wD fun _ => ?_ | refine wE ?_ | refine adrZ.go ?_) | simp [go_sem]))
  refine ACallP.pureF [22] hK ?_ (by simp [go_sem]) ?_
  · simp only [gS, gM, nameA, pS, qS, rS, encGame, encPos, encPs, encIss, encIs, encI, encKind, encStep, List.map_cons, List.map_nil]; ((try simp only [encProg, encStep, encAct, encAs, encPath, encPt, encOut, encState, encPos, encOs, encSs, encPs, encIs, encGame, List.map_cons, List.map_nil, List.nil_append, List.append_nil, List.cons_append]); (repeat (first | (with_reducible exact LeRow.nil) | (with_reducible exact LeRows.nil) | (with_reducible exact LeV.refl _) | (with_reducible exact LeRow.refl _ _ _ _) | (with_reducible exact LeRows.refl _) | (with_reducible refine LeRow.cons ?_ ?_) | (with_reducible refine LeRows.cons ?_ ?_) | (with_reducible refine LeV.agg ?_) | (with_reducible refine LeV.tup ?_) | (with_reducible refine LeV.fn ?_ ?_) | (with_reducible exact LeV.nil _) | (with_reducible refine leRows_append (LeRows.refl _) ?_) | ((refine leV_frz rfl (by simp) (by simp [frzO, frz1, upd, noH]) ?_); (first | (simp [go_sem]; done) | (simp [go_sem]; exact List.take_of_length_le (by simp)))) | ((refine LeV.frz rfl (by simp) (by simp [frzO, frz1, upd, noH]) ?_); (simp only [List.drop_zero, List.take_succ_cons, List.take_zero, List.map_cons, List.map_nil])) | ((refine LeV.frzP rfl (by simp) (by simp) (by simp [frzO, frz1, upd, noH]) ?_); (simp only [nth_zero, List.drop_zero])))))
  (repeat (first | with_reducible (first | refine wL fun _ => ?_ | refine wD fun _ => ?_ | refine wE ?_ | refine adrZ.go ?_) | simp [go_sem]))
  refine ACallP.pureF [] hM ?_ (by simp [go_sem]) ?_
  · simp only [gS, gM, nameA, pS, qS, rS, encGame, encPos, encPs, encIss, encIs, encI, encKind, encStep, List.map_cons, List.map_nil]; ((try simp only [encProg, encStep, encAct, encAs, encPath, encPt, encOut, encState, encPos, encOs, encSs, encPs, encIs, encGame, List.map_cons, List.map_nil, List.nil_append, List.append_nil, List.cons_append]); (repeat (first | (with_reducible exact LeRow.nil) | (with_reducible exact LeRows.nil) | (with_reducible exact LeV.refl _) | (with_reducible exact LeRow.refl _ _ _ _) | (with_reducible exact LeRows.refl _) | (with_reducible refine LeRow.cons ?_ ?_) | (with_reducible refine LeRows.cons ?_ ?_) | (with_reducible refine LeV.agg ?_) | (with_reducible refine LeV.tup ?_) | (with_reducible refine LeV.fn ?_ ?_) | (with_reducible exact LeV.nil _) | (with_reducible refine leRows_append (LeRows.refl _) ?_) | ((refine leV_frz rfl (by simp) (by simp [frzO, frz1, upd, noH]) ?_); (first | (simp [go_sem]; done) | (simp [go_sem]; exact List.take_of_length_le (by simp)))) | ((refine LeV.frz rfl (by simp) (by simp [frzO, frz1, upd, noH]) ?_); (simp only [List.drop_zero, List.take_succ_cons, List.take_zero, List.map_cons, List.map_nil])) | ((refine LeV.frzP rfl (by simp) (by simp) (by simp [frzO, frz1, upd, noH]) ?_); (simp only [nth_zero, List.drop_zero])))))
  (repeat (first | with_reducible (first | refine wL fun _ => ?_ | refine wD fun _ => ?_ | refine wE ?_ | refine adrZ.go ?_) | simp [go_sem]))
  refine aGC.go ?_
  refine ACallP.flat hL (.v _) ?_ (by simp [go_sem]) ?_
  · simp only [gS, gM, nameA, pS, qS, rS, encGame, encPos, encPs, encIss, encIs, encI, encKind, encStep, List.map_cons, List.map_nil]; ((try simp only [encProg, encStep, encAct, encAs, encPath, encPt, encOut, encState, encPos, encOs, encSs, encPs, encIs, encGame, List.map_cons, List.map_nil, List.nil_append, List.append_nil, List.cons_append]); (repeat (first | (with_reducible exact LeRow.nil) | (with_reducible exact LeRows.nil) | (with_reducible exact LeV.refl _) | (with_reducible exact LeRow.refl _ _ _ _) | (with_reducible exact LeRows.refl _) | (with_reducible refine LeRow.cons ?_ ?_) | (with_reducible refine LeRows.cons ?_ ?_) | (with_reducible refine LeV.agg ?_) | (with_reducible refine LeV.tup ?_) | (with_reducible refine LeV.fn ?_ ?_) | (with_reducible exact LeV.nil _) | (with_reducible refine leRows_append (LeRows.refl _) ?_) | ((refine leV_frz rfl (by simp) (by simp [frzO, frz1, upd, noH]) ?_); (first | (simp [go_sem]; done) | (simp [go_sem]; exact List.take_of_length_le (by simp)))) | ((refine LeV.frz rfl (by simp) (by simp [frzO, frz1, upd, noH]) ?_); (simp only [List.drop_zero, List.take_succ_cons, List.take_zero, List.map_cons, List.map_nil])) | ((refine LeV.frzP rfl (by simp) (by simp) (by simp [frzO, frz1, upd, noH]) ?_); (simp only [nth_zero, List.drop_zero])))))
  (repeat (first | with_reducible (first | refine wL fun _ => ?_ | refine wD fun _ => ?_ | refine wE ?_ | refine adrZ.go ?_) | simp [go_sem]))
  refine aGC.go ?_
  refine ACallP.flat hE (.v _) ?_ (by simp [go_sem]) ?_
  · simp only [pS, encPos, encIs, encI, List.map_cons, List.map_nil]; ((try simp only [encProg, encStep, encAct, encAs, encPath, encPt, encOut, encState, encPos, encOs, encSs, encPs, encIs, encGame, List.map_cons, List.map_nil, List.nil_append, List.append_nil, List.cons_append]); (repeat (first | (with_reducible exact LeRow.nil) | (with_reducible exact LeRows.nil) | (with_reducible exact LeV.refl _) | (with_reducible exact LeRow.refl _ _ _ _) | (with_reducible exact LeRows.refl _) | (with_reducible refine LeRow.cons ?_ ?_) | (with_reducible refine LeRows.cons ?_ ?_) | (with_reducible refine LeV.agg ?_) | (with_reducible refine LeV.tup ?_) | (with_reducible refine LeV.fn ?_ ?_) | (with_reducible exact LeV.nil _) | (with_reducible refine leRows_append (LeRows.refl _) ?_) | ((refine leV_frz rfl (by simp) (by simp [frzO, frz1, upd, noH]) ?_); (first | (simp [go_sem]; done) | (simp [go_sem]; exact List.take_of_length_le (by simp)))) | ((refine LeV.frz rfl (by simp) (by simp [frzO, frz1, upd, noH]) ?_); (simp only [List.drop_zero, List.take_succ_cons, List.take_zero, List.map_cons, List.map_nil])) | ((refine LeV.frzP rfl (by simp) (by simp) (by simp [frzO, frz1, upd, noH]) ?_); (simp only [nth_zero, List.drop_zero])))))
  (repeat (first | with_reducible (first | refine wL fun _ => ?_ | refine wD fun _ => ?_ | refine wE ?_ | refine adrZ.go ?_) | simp [go_sem]))
  refine aGC.go ?_
  refine ACallP.pureF [] hO ?_ (by simp [go_sem]) ?_
  · simp only [gS, gM, nameA, pS, qS, rS, encGame, encPos, encPs, encIss, encIs, encI, encKind, encStep, List.map_cons, List.map_nil]; ((try simp only [encProg, encStep, encAct, encAs, encPath, encPt, encOut, encState, encPos, encOs, encSs, encPs, encIs, encGame, List.map_cons, List.map_nil, List.nil_append, List.append_nil, List.cons_append]); (repeat (first | (with_reducible exact LeRow.nil) | (with_reducible exact LeRows.nil) | (with_reducible exact LeV.refl _) | (with_reducible exact LeRow.refl _ _ _ _) | (with_reducible exact LeRows.refl _) | (with_reducible refine LeRow.cons ?_ ?_) | (with_reducible refine LeRows.cons ?_ ?_) | (with_reducible refine LeV.agg ?_) | (with_reducible refine LeV.tup ?_) | (with_reducible refine LeV.fn ?_ ?_) | (with_reducible exact LeV.nil _) | (with_reducible refine leRows_append (LeRows.refl _) ?_) | ((refine leV_frz rfl (by simp) (by simp [frzO, frz1, upd, noH]) ?_); (first | (simp [go_sem]; done) | (simp [go_sem]; exact List.take_of_length_le (by simp)))) | ((refine LeV.frz rfl (by simp) (by simp [frzO, frz1, upd, noH]) ?_); (simp only [List.drop_zero, List.take_succ_cons, List.take_zero, List.map_cons, List.map_nil])) | ((refine LeV.frzP rfl (by simp) (by simp) (by simp [frzO, frz1, upd, noH]) ?_); (simp only [nth_zero, List.drop_zero])))))
  (repeat (first | with_reducible (first | refine wL fun _ => ?_ | refine wD fun _ => ?_ | refine wE ?_ | refine adrZ.go ?_) | simp [go_sem]))
  refine aGC.go ?_
  refine ACallP.flat hI (.v _) ?_ (by simp [go_sem]) ?_
  · simp only [encIs, encI, List.map_cons, List.map_nil]; ((try simp only [encProg, encStep, encAct, encAs, encPath, encPt, encOut, encState, encPos, encOs, encSs, encPs, encIs, encGame, List.map_cons, List.map_nil, List.nil_append, List.append_nil, List.cons_append]); (repeat (first | (with_reducible exact LeRow.nil) | (with_reducible exact LeRows.nil) | (with_reducible exact LeV.refl _) | (with_reducible exact LeRow.refl _ _ _ _) | (with_reducible exact LeRows.refl _) | (with_reducible refine LeRow.cons ?_ ?_) | (with_reducible refine LeRows.cons ?_ ?_) | (with_reducible refine LeV.agg ?_) | (with_reducible refine LeV.tup ?_) | (with_reducible refine LeV.fn ?_ ?_) | (with_reducible exact LeV.nil _) | (with_reducible refine leRows_append (LeRows.refl _) ?_) | ((refine leV_frz rfl (by simp) (by simp [frzO, frz1, upd, noH]) ?_); (first | (simp [go_sem]; done) | (simp [go_sem]; exact List.take_of_length_le (by simp)))) | ((refine LeV.frz rfl (by simp) (by simp [frzO, frz1, upd, noH]) ?_); (simp only [List.drop_zero, List.take_succ_cons, List.take_zero, List.map_cons, List.map_nil])) | ((refine LeV.frzP rfl (by simp) (by simp) (by simp [frzO, frz1, upd, noH]) ?_); (simp only [nth_zero, List.drop_zero])))))
  (repeat (first | with_reducible (first | refine wL fun _ => ?_ | refine wD fun _ => ?_ | refine wE ?_ | refine adrZ.go ?_) | simp [go_sem]))
  refine aGC.go ?_
  refine ACallP.flat hN (.v _) ?_ (by simp [go_sem]) ?_
  · simp only [gS, gM, nameA, pS, qS, rS, encGame, encPos, encPs, encIss, encIs, encI, encKind, encStep, List.map_cons, List.map_nil]; ((try simp only [encProg, encStep, encAct, encAs, encPath, encPt, encOut, encState, encPos, encOs, encSs, encPs, encIs, encGame, List.map_cons, List.map_nil, List.nil_append, List.append_nil, List.cons_append]); (repeat (first | (with_reducible exact LeRow.nil) | (with_reducible exact LeRows.nil) | (with_reducible exact LeV.refl _) | (with_reducible exact LeRow.refl _ _ _ _) | (with_reducible exact LeRows.refl _) | (with_reducible refine LeRow.cons ?_ ?_) | (with_reducible refine LeRows.cons ?_ ?_) | (with_reducible refine LeV.agg ?_) | (with_reducible refine LeV.tup ?_) | (with_reducible refine LeV.fn ?_ ?_) | (with_reducible exact LeV.nil _) | (with_reducible refine leRows_append (LeRows.refl _) ?_) | ((refine leV_frz rfl (by simp) (by simp [frzO, frz1, upd, noH]) ?_); (first | (simp [go_sem]; done) | (simp [go_sem]; exact List.take_of_length_le (by simp)))) | ((refine LeV.frz rfl (by simp) (by simp [frzO, frz1, upd, noH]) ?_); (simp only [List.drop_zero, List.take_succ_cons, List.take_zero, List.map_cons, List.map_nil])) | ((refine LeV.frzP rfl (by simp) (by simp) (by simp [frzO, frz1, upd, noH]) ?_); (simp only [nth_zero, List.drop_zero])))))
  (repeat (first | with_reducible (first | refine wL fun _ => ?_ | refine wD fun _ => ?_ | refine wE ?_ | refine adrZ.go ?_) | simp [go_sem]))
  refine aGC.go ?_
  refine ACallP.flat hNM (.v _) ?_ (by simp [go_sem]) ?_
  · simp only [gS, gM, nameA, pS, qS, rS, encGame, encPos, encPs, encIss, encIs, encI, encKind, encStep, List.map_cons, List.map_nil]; ((try simp only [encProg, encStep, encAct, encAs, encPath, encPt, encOut, encState, encPos, encOs, encSs, encPs, encIs, encGame, List.map_cons, List.map_nil, List.nil_append, List.append_nil, List.cons_append]); (repeat (first | (with_reducible exact LeRow.nil) | (with_reducible exact LeRows.nil) | (with_reducible exact LeV.refl _) | (with_reducible exact LeRow.refl _ _ _ _) | (with_reducible exact LeRows.refl _) | (with_reducible refine LeRow.cons ?_ ?_) | (with_reducible refine LeRows.cons ?_ ?_) | (with_reducible refine LeV.agg ?_) | (with_reducible refine LeV.tup ?_) | (with_reducible refine LeV.fn ?_ ?_) | (with_reducible exact LeV.nil _) | (with_reducible refine leRows_append (LeRows.refl _) ?_) | ((refine leV_frz rfl (by simp) (by simp [frzO, frz1, upd, noH]) ?_); (first | (simp [go_sem]; done) | (simp [go_sem]; exact List.take_of_length_le (by simp)))) | ((refine LeV.frz rfl (by simp) (by simp [frzO, frz1, upd, noH]) ?_); (simp only [List.drop_zero, List.take_succ_cons, List.take_zero, List.map_cons, List.map_nil])) | ((refine LeV.frzP rfl (by simp) (by simp) (by simp [frzO, frz1, upd, noH]) ?_); (simp only [nth_zero, List.drop_zero])))))
  (repeat (first | with_reducible (first | refine wL fun _ => ?_ | refine wD fun _ => ?_ | refine wE ?_ | refine adrZ.go ?_) | simp [go_sem]))
end Go.Av
end
section
set_option linter.unusedSimpArgs false
set_option linter.unusedVariables false
open Go Go.Proofs
set_option maxRecDepth 20000
set_option maxHeartbeats 4000000
namespace Go.Av
theorem any_take_succ {p : Int → Bool} {l : List Int} {k : Nat} (h : k < l.length) : (l.take (k + 1)).any p = ((l.take k).any p || p (nth l k)) := by
  rw [take_succG h, List.any_append]; simp
theorem addAll_succ (out : List Int) {l : List Int} {k : Nat} (h : k < l.length) : addAll out (l.take (k + 1)) = if nth l k ∈ addAll out (l.take k) then addAll out (l.take k) else addAll out (l.take k) ++ [nth l k] := by
  unfold addAll; rw [take_succG h, List.foldl_append]; rfl
theorem pass_succ (out : List Int) {all : List (List Int)} {i : Nat} (h : i < all.length) : passR (all.take (i + 1)) out = growR (passR (all.take i) out) (nth all i) := by
  unfold passR; rw [take_succG h, List.foldl_append]; rfl
theorem reached_pure (all : List (List Int)) (c : Int) (n : Nat) (hn : n ≤ 64) (hall : ∀ l ∈ all, ∀ x ∈ l, 0 ≤ x ∧ x < n) (hlen : all.length ≤ 1099511627776) (hll : ∀ l ∈ all, l.length ≤ 1099511627776) (hc : 0 ≤ c ∧ c < n) :
    Pure Try.prog 20 [encIss all, .v (.int .i64 c)] (encIs (reachF all (n + 1) [c])) := by
  refine Pure.of (ACallP.of_awp (by kernel_rfl) Try.func20 rfl rfl (Nat.le_of_ble_eq_true rfl) (by kernel_rfl) ?_)
  obtain ⟨R, hR⟩ : ∃ R, R = reachF all (n + 1) [c] := ⟨_, rfl⟩
  rw [← hR]
  have hia : (all.map fun l => [encIs l]).length = all.length := by simp
  have hnth : ∀ i, i < all.length → nth (all.map fun l => [encIs l]) i = [encIs (nth all i)] := fun i hi => nth_map _ _ _ hi
  have hH := fun (out : List Int) (x : Int) (h : out.length ≤ n) => R1Has_pure out x (by omega)
  (repeat (first | with_reducible (first | refine wL fun _ => ?_ | refine wD fun _ => ?_ | refine wE ?_ | refine adrZ.go ?_) | simp [go_sem]))
  refine ALoop.start (ALoop.ind (α := List Int × Bool) (fun a => ⟨[(0, encIss all), (5, .sl 0 (a.1.length - 1) 1 0 a.1.length), (6, .v (.bool a.2))], [(0, .rows true (a.1.length - 1) 1 (a.1.map encI))], 1⟩)
    (fun d a => CellsN n a.1 ∧ 1 ≤ a.1.length ∧ d = 2 * (n + 1 - a.1.length) + (if a.2 then 1 else 0) ∧ (a.2 = true → ∃ f, n < f + a.1.length ∧ reachF all f a.1 = R) ∧ (a.2 = false → a.1 = R)) ?_ (2 * n + 1) ([c], true) ?_) ?_ ?_
  · rintro d ⟨out, ch⟩ ⟨i1, i2, i3, i4, i5⟩ hrec
    simp only at i1 i2 i3 i4 i5
    have hol := cells_len i1
    cases ch with
    | false =>
      have hoR := i5 rfl
      subst hoR
      (repeat (first | with_reducible (first | refine wL fun _ => ?_ | refine wD fun _ => ?_ | refine wE ?_ | refine adrZ.go ?_) | simp [go_sem]))
      ((try simp only [encProg, encStep, encAct, encAs, encPath, encPt, encOut, encState, encPos, encOs, encSs, encPs, encIs, encGame, List.map_cons, List.map_nil, List.nil_append, List.append_nil, List.cons_append]); (repeat (first | (with_reducible exact LeRow.nil) | (with_reducible exact LeRows.nil) | (with_reducible exact LeV.refl _) | (with_reducible exact LeRow.refl _ _ _ _) | (with_reducible exact LeRows.refl _) | (with_reducible refine LeRow.cons ?_ ?_) | (with_reducible refine LeRows.cons ?_ ?_) | (with_reducible refine LeV.agg ?_) | (with_reducible refine LeV.tup ?_) | (with_reducible refine LeV.fn ?_ ?_) | (with_reducible exact LeV.nil _) | (with_reducible refine leRows_append (LeRows.refl _) ?_) | ((refine leV_frz rfl (by simp) (by simp [frzO, frz1, upd, noH]) ?_); (first | (simp [go_sem]; done) | (simp [go_sem]; exact List.take_of_length_le (by simp)))) | ((refine LeV.frz rfl (by simp) (by simp [frzO, frz1, upd, noH]) ?_); (simp only [List.drop_zero, List.take_succ_cons, List.take_zero, List.map_cons, List.map_nil])) | ((refine LeV.frzP rfl (by simp) (by simp) (by simp [frzO, frz1, upd, noH]) ?_); (simp only [nth_zero, List.drop_zero])))))
    | true =>
      obtain ⟨f, hf1, hf2⟩ := i4 rfl
      simp only [if_true] at i3
      (repeat (first | with_reducible (first | refine wL fun _ => ?_ | refine wD fun _ => ?_ | refine wE ?_ | refine adrZ.go ?_) | simp [go_sem]))
      refine ALoop.start (ALoop.ind (α := Nat) (fun i => ⟨[(0, encIss all), (5, .sl 0 ((passR (all.take i) out).length - 1) 1 0 (passR (all.take i) out).length), (6, .v (.bool (!decide ((passR (all.take i) out).length = out.length)))), (7, .v (.int .i64 i))],
          [(0, .rows true ((passR (all.take i) out).length - 1) 1 ((passR (all.take i) out).map encI))], 1⟩)
        (fun d i => i + d = all.length) ?_ all.length 0 ?_) ?_ ?_
      · rintro d2 i j1 hrec2
        have hci : CellsN n (passR (all.take i) out) := passR_cells _ _ i1 (fun l hl => hall l (List.mem_of_mem_take hl))
        have hcl := cells_len hci
        have hps := fun h => pass_succ out (all := all) (i := i) h
        have hpl := passR_len (all.take i) out
        generalize ho : passR (all.take i) out = o at *
        (repeat (first | with_reducible (first | refine wL fun _ => ?_ | refine wD fun _ => ?_ | refine wE ?_ | refine adrZ.go ?_) | simp [go_sem, hia]))
        refine aIf.mkL (fun hi => ?_) (fun hi => ?_) <;> simp at hi
        · have hps := hps hi
          have hm := nth_mem hi
          have hlm := hll _ hm
          have hnt := hnth i hi
          have hgl := growR_len o (nth all i)
          have hcg : CellsN n (growR o (nth all i)) := growR_cells hci (hall _ hm)
          generalize hl0 : nth all i = l at *
          (repeat (first | with_reducible (first | refine wL fun _ => ?_ | refine wD fun _ => ?_ | refine wE ?_ | refine adrZ.go ?_) | simp [go_sem]))
          refine ALoop.start (ALoop.ind (α := Nat) (fun k => ⟨[(0, encIss all), (5, .sl 0 (o.length - 1) 1 0 o.length), (6, .v (.bool (!decide (o.length = out.length)))), (7, .v (.int .i64 i)), (8, .v (.bool ((l.take k).any fun x => decide (x ∈ o)))), (9, .v (.int .i64 k))],
              [(0, .rows true (o.length - 1) 1 (o.map encI))], 1⟩)
            (fun d k => k + d = l.length) ?_ l.length 0 ?_) ?_ ?_
          · rintro d3 k k1 hrec3
            (repeat (first | with_reducible (first | refine wL fun _ => ?_ | refine wD fun _ => ?_ | refine wE ?_ | refine adrZ.go ?_) | simp [go_sem, hi, hia, hl0]))
            refine aIf.mkL (fun hk => ?_) (fun hk => ?_) <;> simp at hk
            · have has := any_take_succ (p := fun x => decide (x ∈ o)) hk
              have hHk := hH o (nth l k) hcl
              generalize hb : (l.take k).any (fun x => decide (x ∈ o)) = b at *
              (repeat (first | with_reducible (first | refine wL fun _ => ?_ | refine wD fun _ => ?_ | refine wE ?_ | refine adrZ.go ?_) | simp [go_sem, hi, hia, hl0, hk]))
              refine aGC.flat [encIs o, .v (.int .i64 (nth l k))] (.v (.bool (decide (nth l k ∈ o)))) (fun _ => hHk) (.v _) ?_ (by simp [go_sem]) ?_
              · ((try simp only [encProg, encStep, encAct, encAs, encPath, encPt, encOut, encState, encPos, encOs, encSs, encPs, encIs, encGame, List.map_cons, List.map_nil, List.nil_append, List.append_nil, List.cons_append]); (repeat (first | (with_reducible exact LeRow.nil) | (with_reducible exact LeRows.nil) | (with_reducible exact LeV.refl _) | (with_reducible exact LeRow.refl _ _ _ _) | (with_reducible exact LeRows.refl _) | (with_reducible refine LeRow.cons ?_ ?_) | (with_reducible refine LeRows.cons ?_ ?_) | (with_reducible refine LeV.agg ?_) | (with_reducible refine LeV.tup ?_) | (with_reducible refine LeV.fn ?_ ?_) | (with_reducible exact LeV.nil _) | (with_reducible refine leRows_append (LeRows.refl _) ?_) | ((refine leV_frz rfl (by simp) (by simp [frzO, frz1, upd, noH]) ?_); (first | (simp [go_sem]; done) | (simp [go_sem]; exact List.take_of_length_le (by simp)))) | ((refine LeV.frz rfl (by simp) (by simp [frzO, frz1, upd, noH]) ?_); (simp only [List.drop_zero, List.take_succ_cons, List.take_zero, List.map_cons, List.map_nil])) | ((refine LeV.frzP rfl (by simp) (by simp) (by simp [frzO, frz1, upd, noH]) ?_); (simp only [nth_zero, List.drop_zero])))))
              (repeat (first | with_reducible (first | refine wL fun _ => ?_ | refine wD fun _ => ?_ | refine wE ?_ | refine adrZ.go ?_) | simp [go_sem]))
              refine ALoop.start (hrec3 (d3 - 1) (by omega) (k + 1) (by omega)) ?_ (by simp)
              simp [go_sem, Wk_eq, has]
            · have hkl : k = l.length := by omega
              have hme : ((l.take k).any fun x => decide (x ∈ o)) = meets o l := by rw [hkl, List.take_length]; rfl
              clear hrec3
              rw [hme]
              have hgr : growR o l = if meets o l = true then addAll o l else o := rfl
              cases hb : meets o l with
              | false =>
                rw [hb, if_neg (by simp)] at hgr
                (repeat (first | with_reducible (first | refine wL fun _ => ?_ | refine wD fun _ => ?_ | refine wE ?_ | refine adrZ.go ?_) | simp [go_sem, hb]))
                refine ALoop.unroll ?_
                (repeat (first | with_reducible (first | refine wL fun _ => ?_ | refine wD fun _ => ?_ | refine wE ?_ | refine adrZ.go ?_) | simp [go_sem, hi, hia, hl0, hb]))
                refine ALoop.start (hrec2 (d2 - 1) (by omega) (i + 1) (by omega)) ?_ (by simp)
                rw [hps, hgr]
                simp [go_sem, Wk_eq]
              | true =>
                rw [hb, if_pos rfl] at hgr
                (repeat (first | with_reducible (first | refine wL fun _ => ?_ | refine wD fun _ => ?_ | refine wE ?_ | refine adrZ.go ?_) | simp [go_sem, hb]))
                refine ALoop.start (ALoop.ind (α := Nat) (fun k => ⟨[(0, encIss all), (5, .sl 0 ((addAll o (l.take k)).length - 1) 1 0 (addAll o (l.take k)).length), (6, .v (.bool (!decide ((addAll o (l.take k)).length = out.length)))), (7, .v (.int .i64 i)), (8, .v (.bool true)), (10, .v (.int .i64 k))],
                    [(0, .rows true ((addAll o (l.take k)).length - 1) 1 ((addAll o (l.take k)).map encI))], 1⟩)
                  (fun d k => k + d = l.length) ?_ l.length 0 ?_) ?_ ?_
                · rintro d4 k k4 hrec4
                  have hca : CellsN n (addAll o (l.take k)) := addAll_cells _ _ hci (fun x hx => hall l hm x (List.mem_of_mem_take hx))
                  have hcal := cells_len hca
                  have hal := addAll_len o (l.take k)
                  have hss := fun h => addAll_succ o (l := l) (k := k) h
                  generalize hq : addAll o (l.take k) = q at *
                  (repeat (first | with_reducible (first | refine wL fun _ => ?_ | refine wD fun _ => ?_ | refine wE ?_ | refine adrZ.go ?_) | simp [go_sem, hi, hia, hl0]))
                  refine aIf.mkL (fun hk4 => ?_) (fun hk4 => ?_) <;> simp at hk4
                  · have hss := hss hk4
                    have hHk := hH q (nth l k) hcal
                    (repeat (first | with_reducible (first | refine wL fun _ => ?_ | refine wD fun _ => ?_ | refine wE ?_ | refine adrZ.go ?_) | simp [go_sem, hi, hia, hl0, hk4]))
                    refine ACallP.flat (args' := [encIs q, .v (.int .i64 (nth l k))]) hHk (.v _) ?_ (by simp [go_sem]) ?_
                    · ((try simp only [encProg, encStep, encAct, encAs, encPath, encPt, encOut, encState, encPos, encOs, encSs, encPs, encIs, encGame, List.map_cons, List.map_nil, List.nil_append, List.append_nil, List.cons_append]); (repeat (first | (with_reducible exact LeRow.nil) | (with_reducible exact LeRows.nil) | (with_reducible exact LeV.refl _) | (with_reducible exact LeRow.refl _ _ _ _) | (with_reducible exact LeRows.refl _) | (with_reducible refine LeRow.cons ?_ ?_) | (with_reducible refine LeRows.cons ?_ ?_) | (with_reducible refine LeV.agg ?_) | (with_reducible refine LeV.tup ?_) | (with_reducible refine LeV.fn ?_ ?_) | (with_reducible exact LeV.nil _) | (with_reducible refine leRows_append (LeRows.refl _) ?_) | ((refine leV_frz rfl (by simp) (by simp [frzO, frz1, upd, noH]) ?_); (first | (simp [go_sem]; done) | (simp [go_sem]; exact List.take_of_length_le (by simp)))) | ((refine LeV.frz rfl (by simp) (by simp [frzO, frz1, upd, noH]) ?_); (simp only [List.drop_zero, List.take_succ_cons, List.take_zero, List.map_cons, List.map_nil])) | ((refine LeV.frzP rfl (by simp) (by simp) (by simp [frzO, frz1, upd, noH]) ?_); (simp only [nth_zero, List.drop_zero])))))
                    (repeat (first | with_reducible (first | refine wL fun _ => ?_ | refine wD fun _ => ?_ | refine wE ?_ | refine adrZ.go ?_) | simp [go_sem]))
                    refine aIf.mkL (fun hin => ?_) (fun hin => ?_) <;> simp at hin
                    · rw [if_neg hin] at hss
                      have hg1 : q.length - 1 + 1 = q.length := by omega
                      have hne : ¬ q.length + 1 = out.length := by omega
                      (repeat (first | with_reducible (first | refine wL fun _ => ?_ | refine wD fun _ => ?_ | refine wE ?_ | refine adrZ.go ?_) | simp [go_sem, hi, hia, hl0, hk4, hg1]))
                      refine ALoop.start (hrec4 (d4 - 1) (by omega) (k + 1) (by omega)) ?_ (by simp)
                      simp [go_sem, Wk_eq, hss, hg1, hne]
                    · rw [if_pos hin] at hss
                      (repeat (first | with_reducible (first | refine wL fun _ => ?_ | refine wD fun _ => ?_ | refine wE ?_ | refine adrZ.go ?_) | simp [go_sem]))
                      refine ALoop.start (hrec4 (d4 - 1) (by omega) (k + 1) (by omega)) ?_ (by simp)
                      simp [go_sem, Wk_eq, hss]
                  · have hkl4 : k = l.length := by omega
                    rw [hkl4, List.take_length] at hq
                    (repeat (first | with_reducible (first | refine wL fun _ => ?_ | refine wD fun _ => ?_ | refine wE ?_ | refine adrZ.go ?_) | simp [go_sem]))
                    refine ALoop.start (hrec2 (d2 - 1) (by omega) (i + 1) (by omega)) ?_ (by simp)
                    rw [hps, hgr, hq]
                    simp [go_sem, Wk_eq]
                · simp
                · simp [go_sem, Wk_eq, addAll]
                  exact LeV.refl _
                · simp
          · simp
          · simp [go_sem, Wk_eq]
          · simp
        · clear hrec2
          have hil : i = all.length := by omega
          rw [hil, List.take_length] at ho
          obtain ⟨t, ht⟩ := passR_pre all out
          rw [ho] at ht
          (repeat (first | with_reducible (first | refine wL fun _ => ?_ | refine wD fun _ => ?_ | refine wE ?_ | refine adrZ.go ?_) | simp [go_sem]))
          refine ALoop.start (hrec (2 * (n + 1 - o.length) + (if (!decide (o.length = out.length)) = true then 1 else 0)) ?_ (o, !decide (o.length = out.length)) ⟨hci, by show 1 ≤ o.length; omega, rfl, fun h => ?_, fun h => ?_⟩) ?_ (by simp)
          · by_cases h : o.length = out.length
            · simp [h]; omega
            · simp [h]; omega
          · simp at h
            cases f with
            | zero => omega
            | succ f =>
              rw [reachF, ho, if_neg h] at hf2
              exact ⟨f, by simp only; omega, hf2⟩
          · simp at h
            cases f with
            | zero => omega
            | succ f =>
              rw [reachF, ho, if_pos h] at hf2
              simp only
              rw [pre_len ht h]; exact hf2
          · simp [go_sem, Wk_eq]
      · simp
      · simp [go_sem, Wk_eq, passR]
      · simp
  · refine ⟨⟨by simp, by simpa using hc⟩, by simp, by simp, fun _ => ⟨n + 1, by simp; omega, hR.symm⟩, by simp⟩
  · simp [go_sem, Wk_eq]
  · simp
end Go.Av
end
section
set_option linter.unusedSimpArgs false
set_option linter.unusedVariables false
open Go Go.Proofs
set_option maxRecDepth 20000
set_option maxHeartbeats 4000000
namespace Go.Av
theorem R4Made_pure (g : GameD) (hg : GOk g) (x : RawP) (hx : RawPOk x) : Pure Try.prog 9 [.agg (encGame g), .agg (encRawP x)] (.agg (encPos (madePos g x))) := by
  refine Pure.of (ACallP.of_awp (by kernel_rfl) Try.func9 rfl rfl (Nat.le_of_ble_eq_true rfl) (by kernel_rfl) ?_)
  obtain ⟨q, hq⟩ : ∃ q, q = madePos g x := ⟨_, rfl⟩
  have hrow := rawRow hx
  obtain ⟨er, her⟩ : ∃ er, er = encRawP x := ⟨_, rfl⟩
  rw [← hq, ← her]
  rw [← her] at hrow
  obtain ⟨rl, rc, rk, rh, rr, rs, rb⟩ := hrow
  have c1 := hg.c1
  have c9 := hg.c9
  have k1 := hg.k1
  have k6 := hg.k6
  have hr0 := hg.r0
  have hr4 := hg.r4
  obtain ⟨gc, hgc⟩ : ∃ gc : Nat, g.cells = gc := ⟨g.cells.toNat, by omega⟩
  have hpow : (1 : Int) ≤ 2 ^ g.rights.toNat ∧ (2 : Int) ^ g.rights.toNat ≤ 16 := by
    rcases (show g.rights.toNat = 0 ∨ g.rights.toNat = 1 ∨ g.rights.toNat = 2 ∨ g.rights.toNat = 3 ∨ g.rights.toNat = 4 by omega) with h | h | h | h | h <;> rw [h] <;> decide
  have hrt := hx.r
  have hsd := hx.s
  obtain ⟨rt, hrt'⟩ : ∃ rt, x.rights = rt := ⟨_, rfl⟩
  obtain ⟨pw, hpw⟩ : ∃ pw : Int, (2 : Int) ^ g.rights.toNat = pw := ⟨_, rfl⟩
  have r1 : 0 ≤ x.rights ∧ x.rights ≤ 255 := hx.r
  have s1 : 0 ≤ x.side ∧ x.side ≤ 255 := hx.s
  have s0 := Int.tmod_nonneg 2 s1.1
  have s2 := Int.tmod_lt_of_pos x.side (show (0 : Int) < 2 by decide)
  rw [hpw] at hpow
  generalize heg : encGame g = eg at *
  have hel : eg.length = 9 := by rw [← heg]; rfl
  have hbl : ∀ n, (∀ c' ∈ eg, Bel n c') = True := fun n => by rw [← heg]; simp [go_sem]
  have e0 : cel eg 0 = .v (.int .i64 g.cells) := by rw [← heg]; rfl
  have e3 : cel eg 3 = .lst 3 (g.kinds.map encKind) := by rw [← heg]; rfl
  have e4 : cel eg 4 = .v (.int .i64 g.rights) := by rw [← heg]; rfl
  (repeat (first | with_reducible (first | refine wL fun _ => ?_ | refine wD fun _ => ?_ | refine wE ?_ | refine adrZ.go ?_) | simp [go_sem, hel, e0, e3, e4, rl, rr, rs, rb, hbl, hpw]))
  have hcz : g.cells.toNat = gc := by omega
  have hkne : g.kinds ≠ [] := by intro h; rw [h] at k1; simp at k1
  have hz : List.replicate gc [AV.v (.int .i64 0)] = (madeAt g x 0).map encI := by simp [madeAt, hcz, encI]
  refine ALoop.start (ALoop.ind (α := Nat) (fun i => ⟨[(2, .ref 0 0 9 0 0), (3, .ref 1 0 18 0 0), (4, .ref 2 0 5 0 0), (5, .ref 19 0 5 0 0), (6, .v (.int .i64 i))], [(0, .rows true 0 9 [eg]), (1, .rows true 0 18 [er]), (2, .rows true 0 5 [[AV.nils, AV.nils, AV.nils, .v (.int .i64 0), .v (.int .i64 0)]]), (6, .rows true 0 1 ((madeAt g x i).map encI)), (19, .rows true 0 5 [[.sl 6 0 1 0 gc, AV.nils, AV.nils, .v (.int .i64 (x.rights.tmod pw)), .v (.int .i64 (x.side.tmod 2))]])], 21⟩)
    (fun d i => i + d = 6) ?_ 6 0 ?_) ?_ ?_
  · rintro d i i1 hrec
    (repeat (first | with_reducible (first | refine wL fun _ => ?_ | refine wD fun _ => ?_ | refine wE ?_ | refine adrZ.go ?_) | simp [go_sem]))
    refine aIf.mkL (fun hi => ?_) (fun hi => ?_) <;> simp at hi
    · have hci := hx.cv _ (nth_mem (l := x.cell) (i := i) (by rw [hx.c6]; omega))
      have hki := hx.kv _ (nth_mem (l := x.kind) (i := i) (by rw [hx.k6]; omega))
      have hci' : 0 ≤ nth x.cell i ∧ nth x.cell i ≤ 255 := hci
      have hki' : 0 ≤ nth x.kind i ∧ nth x.kind i ≤ 255 := hki
      have m0 := Int.tmod_nonneg (g.cells + 1) hci'.1
      have m1 := Int.tmod_nonneg (g.kinds.length : Int) hki'.1
      have m2 := Int.tmod_lt_of_pos (nth x.kind i) (show (0 : Int) < g.kinds.length by omega)
      have m3 := Int.tmod_nonneg 2 (show (0 : Int) ≤ i by omega)
      have m4 := Int.tmod_lt_of_pos (i : Int) (show (0 : Int) < 2 by decide)
      have hrc := rc i (by omega)
      have hrk := rk i (by omega)
      have hsu := madeAt_succ g x i
      have hal := madeAt_len g x i
      rw [hcz] at hal
      unfold atStep at hsu
      (repeat (first | with_reducible (first | refine wL fun _ => ?_ | refine wD fun _ => ?_ | refine wE ?_ | refine adrZ.go ?_) | simp [go_sem, hel, e0, e3, e4, hrc, hrk]))
      refine aIf.mkL (fun hc => ?_) (fun hc => ?_) <;> simp at hc
      · have hc1 := hc.1
        rw [if_pos hc1] at hsu
        (repeat (first | with_reducible (first | refine wL fun _ => ?_ | refine wD fun _ => ?_ | refine wE ?_ | refine adrZ.go ?_) | simp [go_sem, hel, e0, e3, e4, hrc, hrk, hal]))
        refine ALoop.start (hrec (d - 1) (by omega) (i + 1) (by omega)) ?_ (by simp)
        simp [go_sem, Wk_eq, hsu, rb, hbl]
      · have hc1 : ¬ (nth x.cell i).tmod (g.cells + 1) < g.cells := fun h => hkne (hc h)
        rw [if_neg hc1] at hsu
        (repeat (first | with_reducible (first | refine wL fun _ => ?_ | refine wD fun _ => ?_ | refine wE ?_ | refine adrZ.go ?_) | simp [go_sem, hel, e0, e3, e4, hrc, hrk]))
        refine ALoop.start (hrec (d - 1) (by omega) (i + 1) (by omega)) ?_ (by simp)
        simp [go_sem, Wk_eq, hsu, rb, hbl]
    · obtain rfl : i = 6 := by omega
      have hal := madeAt_len g x 6
      rw [hcz] at hal
      have hqe : q = ⟨madeAt g x 6, handL g x 0 (min g.kinds.length 2), handL g x 1 (min g.kinds.length 2), x.rights.tmod pw, x.side.tmod 2⟩ := by rw [hq, ← hpw]; rfl
      clear hq
      have hq := hqe
      (repeat (first | with_reducible (first | refine wL fun _ => ?_ | refine wD fun _ => ?_ | refine wE ?_ | refine adrZ.go ?_) | simp [go_sem, hel, e0, e3, e4]))
      refine ALoop.unroll ?_
      (repeat (first | with_reducible (first | refine wL fun _ => ?_ | refine wD fun _ => ?_ | refine wE ?_ | refine adrZ.go ?_) | simp [go_sem, hel, e0, e3, e4]))
      have hz0 := handL_zero g x 0
      refine ALoop.start (ALoop.ind (α := Nat) (fun k => ⟨[(2, .ref 0 0 9 0 0), (3, .ref 1 0 18 0 0), (4, .ref 2 0 5 0 0), (5, .ref 19 0 5 0 0), (8, .v (.int .i64 0)), (9, .v (.int .i64 k))], [(0, .rows true 0 9 [eg]), (1, .rows true 0 18 [er]), (2, .rows true 0 5 [[AV.nils, AV.nils, AV.nils, .v (.int .i64 0), .v (.int .i64 0)]]), (6, .rows true 0 1 ((madeAt g x 6).map encI)), (19, .rows true 0 5 [[.sl 6 0 1 0 gc, .sl 21 0 1 0 g.kinds.length, AV.nils, .v (.int .i64 (x.rights.tmod pw)), .v (.int .i64 (x.side.tmod 2))]]), (21, .rows true 0 1 ((handL g x 0 k).map encI))], 22⟩)
        (fun d k => k + d = min g.kinds.length 2) ?_ (min g.kinds.length 2) 0 ?_) ?_ ?_
      · rintro d k j1 hrec0
        (repeat (first | with_reducible (first | refine wL fun _ => ?_ | refine wD fun _ => ?_ | refine wE ?_ | refine adrZ.go ?_) | simp [go_sem, hel, e0, e3, e4]))
        refine aIf.mkL (fun hj => ?_) (fun hj => ?_) <;> simp at hj
        · have hk2 : k < 2 := by omega
          have hkk : k < g.kinds.length := by omega
          have hhv := hx.hv _ (nth_mem (l := x.hand) (i := 2 * 0 + k) (by rw [hx.h4]; omega))
          have hh1 : 0 ≤ nth x.hand (2 * 0 + k) ∧ nth x.hand (2 * 0 + k) ≤ 255 := hhv
          have hrh := rh (2 * 0 + k) (by omega)
          have m0 := Int.tmod_nonneg 3 hh1.1
          have hsu := handL_succ g x 0 k
          have hsk := handL_skip g x 0 k
          have hhl := handL_len g x 0 k
          have hV : handV g x 0 k = if (nth g.kinds k).keep = true then (if 250 < nth x.hand (2 * 0 + k) then 8 else (nth x.hand (2 * 0 + k)).tmod 3) else 0 := rfl
          simp only [Nat.mul_zero, Nat.zero_add, Nat.mul_one] at hrh hh1 m0 hV
          (repeat (first | with_reducible (first | refine wL fun _ => ?_ | refine wD fun _ => ?_ | refine wE ?_ | refine adrZ.go ?_) | simp [go_sem, hel, e0, e3, e4, hkk]))
          refine aIf.mkL (fun hkeep => ?_) (fun hkeep => ?_)
          · rw [if_pos hkeep] at hV
            have eI : ((k : Int)).toNat = k := by omega
            have eI2 : (k : Int) < 4 := by omega
            (repeat (first | with_reducible (first | refine wL fun _ => ?_ | refine wD fun _ => ?_ | refine wE ?_ | refine adrZ.go ?_) | simp [go_sem, hel, e0, e3, e4, hkk, hrh, hhl, eI, eI2]))
            refine aIf.mkL (fun hbig => ?_) (fun hbig => ?_) <;> simp at hbig
            · rw [if_pos hbig] at hV
              rw [hV] at hsu
              (repeat (first | with_reducible (first | refine wL fun _ => ?_ | refine wD fun _ => ?_ | refine wE ?_ | refine adrZ.go ?_) | simp [go_sem, hel, e0, e3, e4, hkk, hrh, hhl]))
              refine ALoop.start (hrec0 (d - 1) (by omega) (k + 1) (by omega)) ?_ (by simp)
              simp [go_sem, Wk_eq, hsu, rb, hbl]
            · rw [if_neg (by omega)] at hV
              rw [hV] at hsu
              (repeat (first | with_reducible (first | refine wL fun _ => ?_ | refine wD fun _ => ?_ | refine wE ?_ | refine adrZ.go ?_) | simp [go_sem, hel, e0, e3, e4, hkk, hrh, hhl]))
              refine ALoop.start (hrec0 (d - 1) (by omega) (k + 1) (by omega)) ?_ (by simp)
              simp [go_sem, Wk_eq, hsu, rb, hbl]
          · rw [if_neg (by simpa using hkeep)] at hV
            have hsk' := hsk hV
            (repeat (first | with_reducible (first | refine wL fun _ => ?_ | refine wD fun _ => ?_ | refine wE ?_ | refine adrZ.go ?_) | simp [go_sem, hel, e0, e3, e4]))
            refine ALoop.start (hrec0 (d - 1) (by omega) (k + 1) (by omega)) ?_ (by simp)
            simp [go_sem, Wk_eq, hsk', rb, hbl]
        · have hkm : k = min g.kinds.length 2 := by omega
          subst hkm
          (repeat (first | with_reducible (first | refine wL fun _ => ?_ | refine wD fun _ => ?_ | refine wE ?_ | refine adrZ.go ?_) | simp [go_sem, hel, e0, e3, e4]))
          refine ALoop.unroll ?_
          (repeat (first | with_reducible (first | refine wL fun _ => ?_ | refine wD fun _ => ?_ | refine wE ?_ | refine adrZ.go ?_) | simp [go_sem, hel, e0, e3, e4]))
          have hz1 := handL_zero g x 1
          refine ALoop.start (ALoop.ind (α := Nat) (fun k => ⟨[(2, .ref 0 0 9 0 0), (3, .ref 1 0 18 0 0), (4, .ref 2 0 5 0 0), (5, .ref 19 0 5 0 0), (8, .v (.int .i64 1)), (9, .v (.int .i64 k))], [(0, .rows true 0 9 [eg]), (1, .rows true 0 18 [er]), (2, .rows true 0 5 [[AV.nils, AV.nils, AV.nils, .v (.int .i64 0), .v (.int .i64 0)]]), (6, .rows true 0 1 ((madeAt g x 6).map encI)), (19, .rows true 0 5 [[.sl 6 0 1 0 gc, .sl 21 0 1 0 g.kinds.length, .sl 22 0 1 0 g.kinds.length, .v (.int .i64 (x.rights.tmod pw)), .v (.int .i64 (x.side.tmod 2))]]), (21, .rows true 0 1 ((handL g x 0 (min g.kinds.length 2)).map encI)), (22, .rows true 0 1 ((handL g x 1 k).map encI))], 23⟩)
            (fun d k => k + d = min g.kinds.length 2) ?_ (min g.kinds.length 2) 0 ?_) ?_ ?_
          · rintro d k j1 hrec1
            (repeat (first | with_reducible (first | refine wL fun _ => ?_ | refine wD fun _ => ?_ | refine wE ?_ | refine adrZ.go ?_) | simp [go_sem, hel, e0, e3, e4]))
            refine aIf.mkL (fun hj => ?_) (fun hj => ?_) <;> simp at hj
            · have hk2 : k < 2 := by omega
              have hkk : k < g.kinds.length := by omega
              have hhv := hx.hv _ (nth_mem (l := x.hand) (i := 2 * 1 + k) (by rw [hx.h4]; omega))
              have hh1 : 0 ≤ nth x.hand (2 * 1 + k) ∧ nth x.hand (2 * 1 + k) ≤ 255 := hhv
              have hrh := rh (2 * 1 + k) (by omega)
              have m0 := Int.tmod_nonneg 3 hh1.1
              have hsu := handL_succ g x 1 k
              have hsk := handL_skip g x 1 k
              have hhl := handL_len g x 1 k
              have hV : handV g x 1 k = if (nth g.kinds k).keep = true then (if 250 < nth x.hand (2 * 1 + k) then 8 else (nth x.hand (2 * 1 + k)).tmod 3) else 0 := rfl
              simp only [Nat.mul_zero, Nat.zero_add, Nat.mul_one] at hrh hh1 m0 hV
              (repeat (first | with_reducible (first | refine wL fun _ => ?_ | refine wD fun _ => ?_ | refine wE ?_ | refine adrZ.go ?_) | simp [go_sem, hel, e0, e3, e4, hkk]))
              refine aIf.mkL (fun hkeep => ?_) (fun hkeep => ?_)
              · rw [if_pos hkeep] at hV
                have eI : (2 + (k : Int)).toNat = 2 + k := by omega
                have eI2 : 2 + (k : Int) < 4 := by omega
                (repeat (first | with_reducible (first | refine wL fun _ => ?_ | refine wD fun _ => ?_ | refine wE ?_ | refine adrZ.go ?_) | simp [go_sem, hel, e0, e3, e4, hkk, hrh, hhl, eI, eI2]))
                refine aIf.mkL (fun hbig => ?_) (fun hbig => ?_) <;> simp at hbig
                · rw [if_pos hbig] at hV
                  rw [hV] at hsu
                  (repeat (first | with_reducible (first | refine wL fun _ => ?_ | refine wD fun _ => ?_ | refine wE ?_ | refine adrZ.go ?_) | simp [go_sem, hel, e0, e3, e4, hkk, hrh, hhl]))
                  refine ALoop.start (hrec1 (d - 1) (by omega) (k + 1) (by omega)) ?_ (by simp)
                  simp [go_sem, Wk_eq, hsu, rb, hbl]
                · rw [if_neg (by omega)] at hV
                  rw [hV] at hsu
                  (repeat (first | with_reducible (first | refine wL fun _ => ?_ | refine wD fun _ => ?_ | refine wE ?_ | refine adrZ.go ?_) | simp [go_sem, hel, e0, e3, e4, hkk, hrh, hhl]))
                  refine ALoop.start (hrec1 (d - 1) (by omega) (k + 1) (by omega)) ?_ (by simp)
                  simp [go_sem, Wk_eq, hsu, rb, hbl]
              · rw [if_neg (by simpa using hkeep)] at hV
                have hsk' := hsk hV
                (repeat (first | with_reducible (first | refine wL fun _ => ?_ | refine wD fun _ => ?_ | refine wE ?_ | refine adrZ.go ?_) | simp [go_sem, hel, e0, e3, e4]))
                refine ALoop.start (hrec1 (d - 1) (by omega) (k + 1) (by omega)) ?_ (by simp)
                simp [go_sem, Wk_eq, hsk', rb, hbl]
            · have hkm : k = min g.kinds.length 2 := by omega
              subst hkm
              (repeat (first | with_reducible (first | refine wL fun _ => ?_ | refine wD fun _ => ?_ | refine wE ?_ | refine adrZ.go ?_) | simp [go_sem, hel, e0, e3, e4]))
              (repeat (first | with_reducible (first | refine wL fun _ => ?_ | refine wD fun _ => ?_ | refine wE ?_ | refine adrZ.go ?_) | simp [go_sem, hel, e0, e3, e4]))
              refine ALoop.unroll ?_
              (repeat (first | with_reducible (first | refine wL fun _ => ?_ | refine wD fun _ => ?_ | refine wE ?_ | refine adrZ.go ?_) | simp [go_sem, hel, e0, e3, e4]))
              rw [hq]
              exact ⟨leV_frz rfl (by simp [hal]) (by simp [noH]) (by simp [List.take_of_length_le, hal]), leV_frz rfl (by simp [handL_len]) (by simp [noH]) (by simp [List.take_of_length_le, handL_len]), leV_frz rfl (by simp [handL_len]) (by simp [noH]) (by simp [List.take_of_length_le, handL_len]), .refl _, .refl _⟩
          · omega
          · simp [go_sem, Wk_eq, rb, hbl, hz1]
          · simp
      · omega
      · simp [go_sem, Wk_eq, rb, hbl, hz0]
      · simp
  · rfl
  · simp [go_sem, Wk_eq, rb, hbl, hz, hcz]
  · simp
end Go.Av
end
section
set_option linter.unusedSimpArgs false
set_option linter.unusedVariables false
open Go Go.Proofs
set_option maxRecDepth 20000
set_option maxHeartbeats 4000000
namespace Go.Av
theorem cellsJ_append : ∀ (a b : List (List PathD)) (c : Nat), cellsJ c (a ++ b) = cellsJ c a ++ cellsJ (c + a.length) b
  | [], b, c => by simp [cellsJ]
  | x :: a, b, c => by
    rw [List.cons_append, cellsJ, cellsJ, cellsJ_append a b, List.append_assoc, List.length_cons, show c + 1 + a.length = c + (a.length + 1) by omega]
theorem cellsJ_len : ∀ (a : List (List PathD)) (c : Nat), (cellsJ c a).length = (a.map List.length).sum
  | [], c => rfl
  | x :: a, c => by rw [cellsJ, List.length_append, cellsJ_len a, List.map_cons, List.sum_cons, List.length_map]
/-- the side s of a code -/
def sideN (c : CodeD) (s : Nat) : List (List (List PathD)) := if s = 0 then c.1 else c.2
def accS (c : CodeD) (s : Nat) : List (List Int) := if s = 0 then [] else if s = 1 then kindsJ c.1 else allJ c
def accK (c : CodeD) (s k : Nat) : List (List Int) := accS c s ++ ((sideN c s).take k).flatMap (cellsJ 0)
def accC (c : CodeD) (s k x : Nat) : List (List Int) := accK c s k ++ cellsJ 0 ((nth (sideN c s) k).take x)
def accI (c : CodeD) (s k x i : Nat) : List (List Int) := accC c s k x ++ ((nth (nth (sideN c s) k) x).take i).map fun p => joinedP (x : Int) p
theorem accI_succ (c : CodeD) (s k x : Nat) {i : Nat} (h : i < (nth (nth (sideN c s) k) x).length) : accI c s k x (i + 1) = accI c s k x i ++ [joinedP (x : Int) (nth (nth (nth (sideN c s) k) x) i)] := by
  unfold accI; rw [take_succG h]; simp
theorem accI_zero (c : CodeD) (s k x : Nat) : accI c s k x 0 = accC c s k x := by simp [accI]
theorem accC_succ (c : CodeD) (s k : Nat) {x : Nat} (h : x < (nth (sideN c s) k).length) : accC c s k (x + 1) = accI c s k x (nth (nth (sideN c s) k) x).length := by
  unfold accC accI
  rw [List.take_length, take_succG h, cellsJ_append, accC]
  simp only [cellsJ, List.append_nil, List.length_take]
  rw [show 0 + min x (nth (sideN c s) k).length = x by omega, List.append_assoc]
theorem accC_zero (c : CodeD) (s k : Nat) : accC c s k 0 = accK c s k := by simp [accC, cellsJ]
theorem accK_succ (c : CodeD) (s : Nat) {k : Nat} (h : k < (sideN c s).length) : accK c s (k + 1) = accC c s k (nth (sideN c s) k).length := by
  unfold accC accK
  rw [List.take_length, take_succG h, List.flatMap_append]; simp
theorem accK_zero (c : CodeD) (s : Nat) : accK c s 0 = accS c s := by simp [accK]
theorem accS_succ (c : CodeD) {s : Nat} (h : s < 2) : accS c (s + 1) = accK c s (sideN c s).length := by
  unfold accK
  rw [List.take_length]
  rcases (show s = 0 ∨ s = 1 by omega) with rfl | rfl
  · simp [accS, sideN, kindsJ]
  · simp [accS, sideN, kindsJ, allJ]
theorem accI_pre (c : CodeD) (s k x i : Nat) (hx : x < (nth (sideN c s) k).length) (hk : k < (sideN c s).length) (hs : s < 2) : (accI c s k x i).length ≤ (allJ c).length := by
  have h1 : (accI c s k x i).length ≤ (accI c s k x (nth (nth (sideN c s) k) x).length).length := by
    unfold accI
    simp only [List.length_append, List.length_map, List.length_take]
    omega
  have h2 : (accC c s k (x + 1)).length ≤ (accC c s k (nth (sideN c s) k).length).length := by
    unfold accC
    rw [List.take_length, List.length_append, List.length_append]
    have e := congrArg List.length (cellsJ_append ((nth (sideN c s) k).take (x + 1)) ((nth (sideN c s) k).drop (x + 1)) 0)
    rw [List.take_append_drop, List.length_append] at e
    omega
  have h3 : (accK c s (k + 1)).length ≤ (accK c s (sideN c s).length).length := by
    unfold accK
    rw [List.take_length, List.length_append, List.length_append]
    have e : (sideN c s).flatMap (cellsJ 0) = ((sideN c s).take (k + 1)).flatMap (cellsJ 0) ++ ((sideN c s).drop (k + 1)).flatMap (cellsJ 0) := by
      rw [← List.flatMap_append, List.take_append_drop]
    have e := congrArg List.length e
    rw [List.length_append] at e
    omega
  have h4 : (accS c (s + 1)).length ≤ (allJ c).length := by
    rcases (show s = 0 ∨ s = 1 by omega) with rfl | rfl
    · simp [accS, allJ]
    · simp [accS]
  rw [accC_succ c s k hx] at h2
  rw [accK_succ c s hk] at h3
  rw [accS_succ c hs] at h4
  omega
theorem sideN_cel (c : CodeD) {s : Nat} (h : s < 2) : cel (encCode c) s = encSide (sideN c s) := by
  rcases (show s = 0 ∨ s = 1 by omega) with rfl | rfl <;> rfl
theorem flatMap_len2 : ∀ acts : List ActD, (acts.flatMap cellsA).length ≤ 2 * acts.length
  | [] => by simp
  | a :: acts => by
    have := cellsA_len a
    have := flatMap_len2 acts
    rw [List.flatMap_cons, List.length_append, List.length_cons]
    omega
theorem reachF_cells {n : Nat} (all : List (List Int)) (hl : ∀ l ∈ all, ∀ c ∈ l, 0 ≤ c ∧ c < n) : ∀ (f : Nat) (out : List Int), CellsN n out → CellsN n (reachF all f out)
  | 0, out, h => h
  | f + 1, out, h => by
    rw [reachF]
    split
    · exact h
    · exact reachF_cells all hl f _ (passR_cells all out h hl)
theorem allJ_len (c : CodeD) : (allJ c).length = countC c := by
  have h : ∀ s : List (List (List PathD)), (kindsJ s).length = cntSide s := by
    intro s
    induction s with
    | nil => rfl
    | cons k s ih =>
      unfold kindsJ at *
      rw [List.flatMap_cons, List.length_append, ih, cellsJ_len]; rfl
  unfold allJ countC
  rw [List.length_append, h, h]
theorem RegionLeast_pure (x : RawG) (hx : RawOk x) (hl : x.c.length ≤ 1099511627776) (hl0 : x.k0.length ≤ 1099511627776) (hl1 : x.k1.length ≤ 1099511627776) :
    Pure Try.prog 4 [.agg (encRaw x)] (.v (.bool true)) := by
  refine Pure.of (ACallP.of_awp (by kernel_rfl) Try.func4 rfl rfl (Nat.le_of_ble_eq_true rfl) (by kernel_rfl) ?_)
  have hSan := sanity22_pure
  have hG := R3Made_pure x hx hl hl0 hl1
  have hg := madeG_ok hx
  have hs := madeG_slide x
  generalize madeG x = g at *
  have hsm := small22_pure _ hg hs
  have hO := rOf_pure _ hg
  have hC := Compile8_pure g hg
  have hF := fit_codeP hg
  have hcnt := countC_le hg hs
  have h9 := hg.c9
  have hc1 := hg.c1
  have hk6 := hg.k6
  have hS1 := sideR_codeP hg 0
  have hS2 := sideR_codeP hg 1
  have hcl := ofG_cells hg
  obtain ⟨n, hnn⟩ : ∃ n, n = g.cells.toNat := ⟨_, rfl⟩
  have hgn : g.cells = (n : Int) := by omega
  have hn64 : n ≤ 64 := by omega
  change Pure _ _ _ (encIs (ofG g)) at hO
  have hJok := allJ_ok (n := n) (c := codeP g) (by rw [hnn]; exact hS1) (by rw [hnn]; exact hS2)
  have hsame := names_same (n := n) hn64 (c := codeP g) (by rw [hnn]; exact hS1) (by rw [hnn]; exact hS2)
  have hleast := fun (x : Int) x0 x1 => names_least (n := n) hn64 (c := codeP g) (by rw [hnn]; exact hS1) (by rw [hnn]; exact hS2) (x := x) x0 x1
  have hreach := fun (S : Int → Prop) hS (x : Int) x0 x1 h => names_reach (S := S) (n := n) hn64 (c := codeP g) (by rw [hnn]; exact hS1) (by rw [hnn]; exact hS2) hS (x := x) x0 x1 h
  have hofe : ofG g = namesL (linksC (codeP g)) n := by rw [hnn]; rfl
  rw [← hofe] at hsame hleast hreach
  have hall10 : (allJ (codeP g)).length ≤ 10000 := by rw [allJ_len]; exact hcnt
  have hofl : (ofG g).length = n := by omega
  have hjl : ∀ j ∈ allJ (codeP g), j.length ≤ 1099511627776 := fun j hj => by
    have hk : ∀ (s : List (List (List PathD))), SideR n s → ∀ j ∈ kindsJ s, j.length ≤ 1099511627776 := by
      intro s hs j hj
      obtain ⟨k, hk, hj⟩ := List.mem_flatMap.1 hj
      have hh := (hs.2 k hk).2
      have hq : ∀ (k : List (List PathD)) (c : Nat), (∀ x ∈ k, ∀ p ∈ x, PathR n p) → ∀ j ∈ cellsJ c k, j.length ≤ 1099511627776 := by
        intro k
        induction k with
        | nil => intro c _ j hj; simp [cellsJ] at hj
        | cons ps k ih =>
          intro c h j hj
          rw [cellsJ, List.mem_append] at hj
          rcases hj with hj | hj
          · obtain ⟨p, hp, rfl⟩ := List.mem_map.1 hj
            have hp' := (h ps (by simp) p hp).2.1
            have := flatMap_len2 p.acts
            unfold joinedP
            simp only [List.length_append, List.length_cons, List.length_nil]
            omega
          · exact ih (c + 1) (fun x hx => h x (by simp [hx])) j hj
      exact hq k 0 (fun x hx p hp => (hh x hx).2 p hp) j hj
    rcases List.mem_append.1 hj with h | h
    · exact hk _ (by rw [hnn]; exact hS1) j h
    · exact hk _ (by rw [hnn]; exact hS2) j h
  -- the lists of the code
  have hsl : ∀ s, s < 2 → (sideN (codeP g) s).length = g.kinds.length := fun s hs => by
    rcases (show s = 0 ∨ s = 1 by omega) with rfl | rfl
    · exact hF.sh.l1
    · exact hF.sh.l2
  have hsc : ∀ s, s < 2 → ∀ k, k < (sideN (codeP g) s).length → (nth (sideN (codeP g) s) k).length = n ∧ ∀ c, c < n → (nth (nth (sideN (codeP g) s) k) c).length ≤ 1099511627776 ∧ ∀ p ∈ nth (nth (sideN (codeP g) s) k) c, p.acts.length ≤ 1048576 := fun s hs k hk => by
    have hm : nth (sideN (codeP g) s) k ∈ (codeP g).1 ++ (codeP g).2 := by
      rcases (show s = 0 ∨ s = 1 by omega) with rfl | rfl
      · exact List.mem_append_left _ (nth_mem hk)
      · exact List.mem_append_right _ (nth_mem hk)
    have hlen : ((nth (sideN (codeP g) s) k).length : Int) = g.cells := by
      rcases List.mem_append.1 hm with h | h
      · exact hF.sh.c1 _ h
      · exact hF.sh.c2 _ h
    refine ⟨by omega, fun c hc => ?_⟩
    have hmc := nth_mem (show c < (nth (sideN (codeP g) s) k).length by omega)
    have h2 := hF.len _ hm _ hmc
    exact ⟨h2.1, fun p hp => by
      have hR : SideR n (sideN (codeP g) s) := by
        rcases (show s = 0 ∨ s = 1 by omega) with rfl | rfl
        · rw [hnn]; exact hS1
        · rw [hnn]; exact hS2
      exact ((hR.2 _ (nth_mem hk)).2 _ hmc).2 p hp |>.2.1⟩
  have hcel := fun s (h : s < 2) => sideN_cel (codeP g) h
  have hp1 := fun s k x i hx hk hs => accI_pre (codeP g) s k x i hx hk hs
  have hIs := fun s k x i h => accI_succ (codeP g) s k x (i := i) h
  have hIz := fun s k x => accI_zero (codeP g) s k x
  have hCs := fun s k x h => accC_succ (codeP g) s k (x := x) h
  have hCz := fun s k => accC_zero (codeP g) s k
  have hKs := fun s k h => accK_succ (codeP g) s (k := k) h
  have hKz := fun s => accK_zero (codeP g) s
  have hSs := fun s h => accS_succ (codeP g) (s := s) h
  have hS0 : accS (codeP g) 0 = [] := rfl
  have hS2' : accS (codeP g) 2 = allJ (codeP g) := rfl
  have hgb : ∀ n, (∀ c ∈ encGame g, Bel n c) = True := fun n => by simp [go_sem]
  have hel : (encGame g).length = 9 := rfl
  have hg0 : cel (encGame g) 0 = .v (.int .i64 n) := by rw [← hgn]; rfl
  have hg3 : cel (encGame g) 3 = .lst 3 (g.kinds.map encKind) := rfl
  have hecl : (encCode (codeP g)).length = 2 := rfl
  have hecb : ∀ n, (∀ c ∈ encCode (codeP g), Bel n c) = True := fun n => by simp [go_sem]
  have hrl : (encRaw x).length = 12 := rfl
  have hrb : ∀ n, (∀ c ∈ encRaw x, Bel n c) = True := fun n => by simp [go_sem]
  generalize encRaw x = er at *
  clear hx hF hS1 hS2
  generalize hcd : codeP g = cd at *
  generalize ofG g = of at *
  generalize encCode cd = ec at *
  generalize hK : g.kinds.length = K at *
  obtain ⟨eg, heg⟩ : ∃ eg, eg = encGame g := ⟨_, rfl⟩
  rw [← heg] at hG hsm hO hC hgb hel hg0 hg3
  clear heg
  (repeat (first | with_reducible (first | refine wL fun _ => ?_ | refine wD fun _ => ?_ | refine wE ?_ | refine adrZ.go ?_) | simp [go_sem, hrl]))
  refine ACallP.plain hSan (by simp [go_sem]) ?_
  (repeat (first | with_reducible (first | refine wL fun _ => ?_ | refine wD fun _ => ?_ | refine wE ?_ | refine adrZ.go ?_) | simp [go_sem, hrl]))
  refine ACallP.plain hG (by simp [go_sem, hrb]) ?_
  (repeat (first | with_reducible (first | refine wL fun _ => ?_ | refine wD fun _ => ?_ | refine wE ?_ | refine adrZ.go ?_) | simp [go_sem, hel]))
  refine ACallP.plain hsm (by simp [go_sem, hgb]) ?_
  (repeat (first | with_reducible (first | refine wL fun _ => ?_ | refine wD fun _ => ?_ | refine wE ?_ | refine adrZ.go ?_) | simp [go_sem, hel]))
  refine aIf.mkL (fun h3 => ?_) (fun h3 => ?_)
  · (repeat (first | with_reducible (first | refine wL fun _ => ?_ | refine wD fun _ => ?_ | refine wE ?_ | refine adrZ.go ?_) | simp [go_sem]))
  · (repeat (first | with_reducible (first | refine wL fun _ => ?_ | refine wD fun _ => ?_ | refine wE ?_ | refine adrZ.go ?_) | simp [go_sem, hel]))
    refine ACallP.plain hO (by simp [go_sem, hgb]) ?_
    (repeat (first | with_reducible (first | refine wL fun _ => ?_ | refine wD fun _ => ?_ | refine wE ?_ | refine adrZ.go ?_) | simp [go_sem, hel, hg0, hofl]))
    refine ACallP.plain hC (by simp [go_sem, hgb]) ?_
    (repeat (first | with_reducible (first | refine wL fun _ => ?_ | refine wD fun _ => ?_ | refine wE ?_ | refine adrZ.go ?_) | simp [go_sem, hel, hecl]))
    refine ALoop.start (ALoop.ind (α := Nat) (fun s => ⟨[(3, .v (.bool true)), (4, .ref 1 0 9 0 0), (5, encIs of), (6, .ref 2 0 2 0 0), (7, .sl 3 (accS cd s).length 1 0 (accS cd s).length), (8, .v (.int .i64 s))],
        [(1, .rows true 0 9 [eg]), (2, .rows true 0 2 [ec]), (3, .rows true (accS cd s).length 1 ((accS cd s).map fun l => [encIs l]))], 4⟩)
      (fun d s => s + d = 2) ?_ 2 0 ?_) ?_ ?_
    · rintro d s i1 hrec
      (repeat (first | with_reducible (first | refine wL fun _ => ?_ | refine wD fun _ => ?_ | refine wE ?_ | refine adrZ.go ?_) | simp [go_sem]))
      refine aIf.mkL (fun hs2 => ?_) (fun hs2 => ?_) <;> simp at hs2
      · replace hs2 : s < 2 := by omega
        have hsl' := hsl s hs2
        (repeat (first | with_reducible (first | refine wL fun _ => ?_ | refine wD fun _ => ?_ | refine wE ?_ | refine adrZ.go ?_) | simp [go_sem]))
        refine ALoop.start (ALoop.ind (α := Nat) (fun k => ⟨[(3, .v (.bool true)), (4, .ref 1 0 9 0 0), (5, encIs of), (6, .ref 2 0 2 0 0), (7, .sl 3 (accK cd s k).length 1 0 (accK cd s k).length), (8, .v (.int .i64 s)), (9, .v (.int .i64 k))],
            [(1, .rows true 0 9 [eg]), (2, .rows true 0 2 [ec]), (3, .rows true (accK cd s k).length 1 ((accK cd s k).map fun l => [encIs l]))], 4⟩)
          (fun d k => k + d = K) ?_ K 0 ?_) ?_ ?_
        · rintro d1 k i2 hrec1
          (repeat (first | with_reducible (first | refine wL fun _ => ?_ | refine wD fun _ => ?_ | refine wE ?_ | refine adrZ.go ?_) | simp [go_sem, hel, hg3, hK]))
          refine aIf.mkL (fun hk => ?_) (fun hk => ?_) <;> simp at hk
          · obtain ⟨hcl1, hcl2⟩ := hsc s hs2 k (by omega)
            (repeat (first | with_reducible (first | refine wL fun _ => ?_ | refine wD fun _ => ?_ | refine wE ?_ | refine adrZ.go ?_) | simp [go_sem]))
            refine ALoop.start (ALoop.ind (α := Nat) (fun x => ⟨[(3, .v (.bool true)), (4, .ref 1 0 9 0 0), (5, encIs of), (6, .ref 2 0 2 0 0), (7, .sl 3 (accC cd s k x).length 1 0 (accC cd s k x).length), (8, .v (.int .i64 s)), (9, .v (.int .i64 k)), (10, .v (.int .i64 x))],
                [(1, .rows true 0 9 [eg]), (2, .rows true 0 2 [ec]), (3, .rows true (accC cd s k x).length 1 ((accC cd s k x).map fun l => [encIs l]))], 4⟩)
              (fun d x => x + d = n) ?_ n 0 ?_) ?_ ?_
            · rintro d2 x i3 hrec2
              (repeat (first | with_reducible (first | refine wL fun _ => ?_ | refine wD fun _ => ?_ | refine wE ?_ | refine adrZ.go ?_) | simp [go_sem, hel, hg0]))
              refine aIf.mkL (fun hx => ?_) (fun hx => ?_) <;> simp at hx
              · obtain ⟨hpl, hpa⟩ := hcl2 x hx
                have hcs := hcel s hs2
                have hks : k < (sideN cd s).length := by omega
                have hxs : x < (nth (sideN cd s) k).length := by omega
                (repeat (first | with_reducible (first | refine wL fun _ => ?_ | refine wD fun _ => ?_ | refine wE ?_ | refine adrZ.go ?_) | simp [go_sem, hecl, hcs, hks, hxs]))
                refine ALoop.start (ALoop.ind (α := Nat) (fun i => ⟨[(3, .v (.bool true)), (4, .ref 1 0 9 0 0), (5, encIs of), (6, .ref 2 0 2 0 0), (7, .sl 3 (accI cd s k x i).length 1 0 (accI cd s k x i).length), (8, .v (.int .i64 s)), (9, .v (.int .i64 k)), (10, .v (.int .i64 x)), (11, encPt (nth (nth (sideN cd s) k) x)), (12, .v (.int .i64 i))],
                    [(1, .rows true 0 9 [eg]), (2, .rows true 0 2 [ec]), (3, .rows true (accI cd s k x i).length 1 ((accI cd s k x i).map fun l => [encIs l]))], 4⟩)
                  (fun d i => i + d = (nth (nth (sideN cd s) k) x).length) ?_ (nth (nth (sideN cd s) k) x).length 0 ?_) ?_ ?_
                · rintro d3 i i4 hrec3
                  (repeat (first | with_reducible (first | refine wL fun _ => ?_ | refine wD fun _ => ?_ | refine wE ?_ | refine adrZ.go ?_) | simp [go_sem]))
                  refine aIf.mkL (fun hi => ?_) (fun hi => ?_) <;> simp at hi
                  · have hpm := nth_mem hi
                    have hJp := R22Joined_pure (x : Int) _ (hpa _ hpm)
                    have hIsi := hIs s k x i hi
                    have hpre := hp1 s k x i hxs hks hs2
                    generalize accI cd s k x i = acc at *
                    (repeat (first | with_reducible (first | refine wL fun _ => ?_ | refine wD fun _ => ?_ | refine wE ?_ | refine adrZ.go ?_) | simp [go_sem, hi]))
                    refine ACallP.plain hJp (by simp [go_sem]) ?_
                    (repeat (first | with_reducible (first | refine wL fun _ => ?_ | refine wD fun _ => ?_ | refine wE ?_ | refine adrZ.go ?_) | simp [go_sem]))
                    refine ALoop.start (hrec3 (d3 - 1) (by omega) (i + 1) (by omega)) ?_ (by simp)
                    simp [go_sem, Wk_eq, hIsi]
                    exact ⟨of_eq_true (hgb 4), of_eq_true (hecb 4)⟩
                  · have hil : i = (nth (nth (sideN cd s) k) x).length := by omega
                    have hCs' := hCs s k x hxs
                    rw [← hil] at hCs'
                    (repeat (first | with_reducible (first | refine wL fun _ => ?_ | refine wD fun _ => ?_ | refine wE ?_ | refine adrZ.go ?_) | simp [go_sem]))
                    refine ALoop.start (hrec2 (d2 - 1) (by omega) (x + 1) (by omega)) ?_ (by simp)
                    simp [go_sem, Wk_eq, hCs']
                    exact ⟨of_eq_true (hgb 4), of_eq_true (hecb 4)⟩
                · simp
                · simp [go_sem, Wk_eq, hIz]
                  exact ⟨of_eq_true (hgb 4), of_eq_true (hecb 4)⟩
                · simp
              · have hxl : x = (nth (sideN cd s) k).length := by omega
                have hKs' := hKs s k (by omega)
                rw [← hxl] at hKs'
                (repeat (first | with_reducible (first | refine wL fun _ => ?_ | refine wD fun _ => ?_ | refine wE ?_ | refine adrZ.go ?_) | simp [go_sem]))
                refine ALoop.start (hrec1 (d1 - 1) (by omega) (k + 1) (by omega)) ?_ (by simp)
                simp [go_sem, Wk_eq, hKs']
                exact ⟨of_eq_true (hgb 4), of_eq_true (hecb 4)⟩
            · simp
            · simp [go_sem, Wk_eq, hCz]
              exact ⟨of_eq_true (hgb 4), of_eq_true (hecb 4)⟩
            · simp
          · have hkl : k = (sideN cd s).length := by omega
            have hSs' := hSs s hs2
            rw [← hkl] at hSs'
            (repeat (first | with_reducible (first | refine wL fun _ => ?_ | refine wD fun _ => ?_ | refine wE ?_ | refine adrZ.go ?_) | simp [go_sem]))
            refine ALoop.start (hrec (d - 1) (by omega) (s + 1) (by omega)) ?_ (by simp)
            simp [go_sem, Wk_eq, hSs']
            exact ⟨of_eq_true (hgb 4), of_eq_true (hecb 4)⟩
        · simp
        · simp [go_sem, Wk_eq, hKz]
          exact ⟨of_eq_true (hgb 4), of_eq_true (hecb 4)⟩
        · simp
      · have hsl2 : s = 2 := by omega
        subst hsl2
        rw [hS2']
        clear hrec hIs hIz hCs hCz hKs hKz hSs hS0 hS2' hp1 hcel hsc hsl hsm
        have hreach' := fun (c : Int) (c0 : 0 ≤ c) (c1 : c < n) => (show c ∈ reachF (allJ cd) (n + 1) [nth of c.toNat] from by
          have hls := hleast c c0 c1
          have hR := reachF_spec (n := n) (allJ cd) (fun l hl => (hJok l hl).2) (n + 1) [nth of c.toNat] ⟨by simp, by simp; omega⟩ (by simp; omega)
          exact hreach (fun y => y ∈ reachF (allJ cd) (n + 1) [nth of c.toNat]) hR.1 c c0 c1 (hR.2 _ (by simp)))
        have hRd := fun (c : Int) (h : 0 ≤ c ∧ c < n) => reached_pure (allJ cd) c n hn64 (fun l hl => (hJok l hl).2) (by omega) (fun l hl => hjl l hl) h
        have hRl : ∀ c : Int, 0 ≤ c ∧ c < n → (reachF (allJ cd) (n + 1) [c]).length ≤ 1099511627776 := fun c h => by
          have := cells_len (reachF_cells (n := n) (allJ cd) (fun l hl => (hJok l hl).2) (n + 1) [c] ⟨by simp, by simpa using h⟩)
          omega
        clear hreach
        generalize allJ cd = all at *
        have hia : (all.map fun l => [encIs l]).length = all.length := by simp
        (repeat (first | with_reducible (first | refine wL fun _ => ?_ | refine wD fun _ => ?_ | refine wE ?_ | refine adrZ.go ?_) | simp [go_sem, hia]))
        refine ALoop.start (ALoop.ind (α := Nat) (fun i => ⟨[(3, .v (.bool true)), (5, encIs of), (7, encIss all), (13, .v (.int .i64 i))], [], 0⟩)
          (fun d i => i + d = all.length) ?_ all.length 0 ?_) ?_ ?_
        · rintro d i i1 hrec
          (repeat (first | with_reducible (first | refine wL fun _ => ?_ | refine wD fun _ => ?_ | refine wE ?_ | refine adrZ.go ?_) | simp [go_sem, hia]))
          refine aIf.mkL (fun hi => ?_) (fun hi => ?_) <;> simp at hi
          · have hm := nth_mem hi
            obtain ⟨hj1, hj2⟩ := hJok _ hm
            have hsm := hsame _ hm
            have hjl0 := hjl _ hm
            generalize hj : nth all i = j at *
            have hj0 : 0 < j.length := List.length_pos_iff.2 hj1
            (repeat (first | with_reducible (first | refine wL fun _ => ?_ | refine wD fun _ => ?_ | refine wE ?_ | refine adrZ.go ?_) | simp [go_sem]))
            refine ALoop.start (ALoop.ind (α := Nat) (fun k => ⟨[(3, .v (.bool true)), (5, encIs of), (7, encIss all), (13, .v (.int .i64 i)), (14, .v (.int .i64 k))], [], 0⟩)
              (fun d k => k + d = j.length) ?_ j.length 0 ?_) ?_ ?_
            · rintro d1 k i2 hrec1
              (repeat (first | with_reducible (first | refine wL fun _ => ?_ | refine wD fun _ => ?_ | refine wE ?_ | refine adrZ.go ?_) | simp [go_sem, hia, hi, hj]))
              refine aIf.mkL (fun hk => ?_) (fun hk => ?_) <;> simp at hk
              · have hmk := nth_mem hk
                have hm0 := nth_mem hj0
                have b1 := hj2 _ hmk
                have b0 := hj2 _ hm0
                have hse := hsm _ hmk _ hm0
                have hx1 : (nth j k).toNat < of.length := by omega
                have hx0 : (nth j 0).toNat < of.length := by omega
                have hy1 := b1.1
                have hy0 := b0.1
                (repeat (first | with_reducible (first | refine wL fun _ => ?_ | refine wD fun _ => ?_ | refine wE ?_ | refine adrZ.go ?_) | simp [go_sem, hia, hi, hj, hk, hj0, hx1, hx0, hse, hy1, hy0]))
                refine ALoop.start (hrec1 (d1 - 1) (by omega) (k + 1) (by omega)) ?_ (by simp)
                simp [go_sem, Wk_eq]
              · (repeat (first | with_reducible (first | refine wL fun _ => ?_ | refine wD fun _ => ?_ | refine wE ?_ | refine adrZ.go ?_) | simp [go_sem]))
                refine ALoop.start (hrec (d - 1) (by omega) (i + 1) (by omega)) ?_ (by simp)
                simp [go_sem, Wk_eq]
            · simp
            · simp [go_sem, Wk_eq]
            · simp
          · (repeat (first | with_reducible (first | refine wL fun _ => ?_ | refine wD fun _ => ?_ | refine wE ?_ | refine adrZ.go ?_) | simp [go_sem]))
            refine ALoop.start (ALoop.ind (α := Nat) (fun c => ⟨[(3, .v (.bool true)), (5, encIs of), (7, encIss all), (15, .v (.int .i64 c))], [], 0⟩)
              (fun d c => c + d = n) ?_ n 0 ?_) ?_ ?_
            · rintro d1 c i2 hrec1
              (repeat (first | with_reducible (first | refine wL fun _ => ?_ | refine wD fun _ => ?_ | refine wE ?_ | refine adrZ.go ?_) | simp [go_sem, hofl]))
              refine aIf.mkL (fun hc => ?_) (fun hc => ?_) <;> simp at hc
              · obtain ⟨l1, l2, l3⟩ := hleast c (by omega) (by omega)
                have hin := hreach' c (by omega) (by omega)
                rw [show ((c : Int)).toNat = c by omega] at l1 l2 l3 hin
                have hRc := hRd (nth of c) ⟨l1, by omega⟩
                have hHas := R1Has_pure (reachF all (n + 1) [nth of c]) c (hRl _ ⟨l1, by omega⟩)
                rw [show decide ((c : Int) ∈ reachF all (n + 1) [nth of c]) = true from decide_eq_true hin] at hHas
                have hco : c < of.length := by omega
                have hoo : (nth of c).toNat < of.length := by omega
                have hn0 : ¬ nth of c < 0 := by omega
                have hn1 : ¬ (c : Int) < nth of c := by omega
                (repeat (first | with_reducible (first | refine wL fun _ => ?_ | refine wD fun _ => ?_ | refine wE ?_ | refine adrZ.go ?_) | simp [go_sem, hco, hoo, hn0, hn1, l1, l3]))
                try ((with_reducible refine adrZ.go ?_); (try simp [go_sem]))
                refine dGC.plain _ (fun _ => hRc) (by simp [go_sem]) ?_
                (repeat (first | with_reducible (first | refine wL fun _ => ?_ | refine wD fun _ => ?_ | refine wE ?_ | refine adrZ.go ?_) | simp [go_sem, hco, hoo]))
                try ((with_reducible refine adrZ.go ?_); (try simp [go_sem]))
                refine dGC.plain _ (fun _ => hHas) (by simp [go_sem]) ?_
                (repeat (first | with_reducible (first | refine wL fun _ => ?_ | refine wD fun _ => ?_ | refine wE ?_ | refine adrZ.go ?_) | simp [go_sem]))
                refine ALoop.start (hrec1 (d1 - 1) (by omega) (c + 1) (by omega)) ?_ (by simp)
                simp [go_sem, Wk_eq]
              · (repeat (first | with_reducible (first | refine wL fun _ => ?_ | refine wD fun _ => ?_ | refine wE ?_ | refine adrZ.go ?_) | simp [go_sem]))
            · simp
            · simp [go_sem, Wk_eq]
            · simp
        · simp
        · simp [go_sem, Wk_eq]
          ((try simp only [encProg, encStep, encAct, encAs, encPath, encPt, encOut, encState, encPos, encOs, encSs, encPs, encIs, encGame, List.map_cons, List.map_nil, List.nil_append, List.append_nil, List.cons_append]); (repeat (first | (with_reducible exact LeRow.nil) | (with_reducible exact LeRows.nil) | (with_reducible exact LeV.refl _) | (with_reducible exact LeRow.refl _ _ _ _) | (with_reducible exact LeRows.refl _) | (with_reducible refine LeRow.cons ?_ ?_) | (with_reducible refine LeRows.cons ?_ ?_) | (with_reducible refine LeV.agg ?_) | (with_reducible refine LeV.tup ?_) | (with_reducible refine LeV.fn ?_ ?_) | (with_reducible exact LeV.nil _) | (with_reducible refine leRows_append (LeRows.refl _) ?_) | ((refine leV_frz rfl (by simp) (by simp [frzO, frz1, upd, noH]) ?_); (first | (simp [go_sem]; done) | (simp [go_sem]; exact List.take_of_length_le (by simp)))) | ((refine LeV.frz rfl (by simp) (by simp [frzO, frz1, upd, noH]) ?_); (simp only [List.drop_zero, List.take_succ_cons, List.take_zero, List.map_cons, List.map_nil])) | ((refine LeV.frzP rfl (by simp) (by simp) (by simp [frzO, frz1, upd, noH]) ?_); (simp only [nth_zero, List.drop_zero])))))
        · simp
    · simp
    · simp [go_sem, Wk_eq, hS0]
      exact ⟨of_eq_true (hgb 4), of_eq_true (hecb 4)⟩
    · simp
end Go.Av
end
