/- Contracts, runs: same, only, slide, take, push of the reference. -/
import Derived.Test.YtmmboiafelbgbaaDM
import Derived.Test.YtmmboiafelbgbaaAvK
import Derived.Test.YtmmboiafelbgbaaD6
section
set_option linter.unusedSimpArgs false
set_option linter.unusedVariables false
open Go Go.Proofs
set_option maxRecDepth 20000
set_option maxHeartbeats 4000000
namespace Go.Av
theorem R5same_pure (a b : StD) (ha : FitsP a.p) (hb : FitsP b.p) : Pure Try.prog 174 [.agg (encState a), .agg (encState b)] (.v (.bool (decide (a = b)))) := by
  refine Pure.of (ACallP.of_awp (by kernel_rfl) Try.func174 rfl rfl (Nat.le_of_ble_eq_true rfl) (by kernel_rfl) ?_)
  have hC := Compare_pure _ _ ha hb
  have he := cmpP_eq (p := a.p) (q := b.p)
  obtain ⟨pa, ka, ca, ta⟩ := a
  obtain ⟨pb, kb, cb, tb⟩ := b
  simp only at hC he
  (repeat (first | ((with_reducible refine VC.mkL ?_ fun _ => ?_); · first | omega | exact True.intro | rfl) | ((with_reducible refine VC.mkD ?_ fun _ => ?_); · first | omega | exact True.intro | (intros; omega)) | ((with_reducible refine dEnd.mk ?_ ?_); · kernel_rfl) | (with_reducible refine adrZ.go ?_) | (simp [go_sem])))
  refine aGC.plain _ (fun _ => hC) (by simp [go_sem]) ?_
  (repeat (first | ((with_reducible refine VC.mkL ?_ fun _ => ?_); · first | omega | exact True.intro | rfl) | ((with_reducible refine VC.mkD ?_ fun _ => ?_); · first | omega | exact True.intro | (intros; omega)) | ((with_reducible refine dEnd.mk ?_ ?_); · kernel_rfl) | (with_reducible refine adrZ.go ?_) | (simp [go_sem])))
  refine LeV.of_eq ?_
  by_cases h1 : pa = pb <;> by_cases h2 : ka = kb <;> by_cases h3 : ca = cb <;> cases ta <;> cases tb <;> simp_all
theorem R5only_pure (s : StD) (b : Bool) : Pure Try.prog 175 [.agg (encState s), .v (.bool b)] (encSs (onlyS s b)) := by
  refine Pure.of (ACallP.of_awp (by kernel_rfl) Try.func175 rfl rfl (Nat.le_of_ble_eq_true rfl) (by kernel_rfl) ?_)
  cases b
  · (repeat (first | ((with_reducible refine VC.mkL ?_ fun _ => ?_); · first | omega | exact True.intro | rfl) | ((with_reducible refine VC.mkD ?_ fun _ => ?_); · first | omega | exact True.intro | (intros; omega)) | ((with_reducible refine dEnd.mk ?_ ?_); · kernel_rfl) | (with_reducible refine adrZ.go ?_) | (simp [go_sem, onlyS])))
    (refine leV_frz rfl (by simp) (by simp [noH, upd]) ?_; first | (simp [go_sem]; done) | (simp [go_sem]; exact List.take_of_length_le (by simp)))
  · (repeat (first | ((with_reducible refine VC.mkL ?_ fun _ => ?_); · first | omega | exact True.intro | rfl) | ((with_reducible refine VC.mkD ?_ fun _ => ?_); · first | omega | exact True.intro | (intros; omega)) | ((with_reducible refine dEnd.mk ?_ ?_); · kernel_rfl) | (with_reducible refine adrZ.go ?_) | (simp [go_sem, onlyS])))
    (refine leV_frz rfl (by simp) (by simp [noH, upd]) ?_; first | (simp [go_sem]; done) | (simp [go_sem]; exact List.take_of_length_le (by simp)))
theorem R5slide_pure (g : GameD) (hg : GOk g) (s : StD) (hs : StOk g s) (n : Int) : Pure Try.prog 176 [.agg (encGame g), .agg (encState s), .v (.int .i64 n)] (encSs (slideS g.board s n)) := by
  refine Pure.of (ACallP.of_awp (by kernel_rfl) Try.func176 rfl rfl (Nat.le_of_ble_eq_true rfl) (by kernel_rfl) ?_)
  have hL := R1Line_pure g.board hg.board s.p.side n s.cursor
  have hlm := lineB_mem hg.board (side := s.p.side) (d := n) (c := s.cursor)
  have hll := lineB_len (b := g.board) (side := s.p.side) (d := n) (c := s.cursor)
  have c9 := hg.c9
  have c1 := hg.c1
  have hal := hs.p.al
  rw [show g.board.cells = g.cells from rfl] at hlm hll
  unfold slideS
  generalize lineB g.board s.p.side n s.cursor = line at *
  generalize hR : slideGo s line = R
  (repeat (first | ((with_reducible refine VC.mkL ?_ fun _ => ?_); · first | omega | exact True.intro | rfl) | ((with_reducible refine VC.mkD ?_ fun _ => ?_); · first | omega | exact True.intro | (intros; omega)) | ((with_reducible refine dEnd.mk ?_ ?_); · kernel_rfl) | (with_reducible refine adrZ.go ?_) | (simp [go_sem])))
  refine ACallP.plain hL (by simp [go_sem]) ?_
  (repeat (first | ((with_reducible refine VC.mkL ?_ fun _ => ?_); · first | omega | exact True.intro | rfl) | ((with_reducible refine VC.mkD ?_ fun _ => ?_); · first | omega | exact True.intro | (intros; omega)) | ((with_reducible refine dEnd.mk ?_ ?_); · kernel_rfl) | (with_reducible refine adrZ.go ?_) | (simp [go_sem])))
  refine ALoop.start (ALoop.ind (α := Nat × List StD) (fun a => ⟨[(4, .ref 1 0 8 0 0), (7, .sl 2 a.2.length 8 0 a.2.length), (8, encIs line), (9, .v (.int .i64 a.1))], [(1, .rows true 0 8 [encState s]), (2, .rows true a.2.length 8 (a.2.map encState))], 3⟩)
    (fun d a => a.1 + d = line.length ∧ a.2.length = a.1 ∧ R = a.2 ++ slideGo s (line.drop a.1)) ?_ line.length (0, []) ?_) ?_ ?_
  · rintro d ⟨i, out⟩ ⟨i1, i2, i3⟩ hrec
    simp only at i1 i2 i3
    (repeat (first | ((with_reducible refine VC.mkL ?_ fun _ => ?_); · first | omega | exact True.intro | rfl) | ((with_reducible refine VC.mkD ?_ fun _ => ?_); · first | omega | exact True.intro | (intros; omega)) | ((with_reducible refine dEnd.mk ?_ ?_); · kernel_rfl) | (with_reducible refine adrZ.go ?_) | (simp [go_sem])))
    refine aIf.mkL (fun hi => ?_) (fun hi => ?_) <;> simp at hi
    · have hli := hlm _ (nth_mem hi)
      have hlt : (nth line i).toNat < s.p.at_.length := by omega
      rw [dropG_cons hi, slideGo] at i3
      (repeat (first | ((with_reducible refine VC.mkL ?_ fun _ => ?_); · first | omega | exact True.intro | rfl) | ((with_reducible refine VC.mkD ?_ fun _ => ?_); · first | omega | exact True.intro | (intros; omega)) | ((with_reducible refine dEnd.mk ?_ ?_); · kernel_rfl) | (with_reducible refine adrZ.go ?_) | (simp [go_sem, hi, hlt])))
      refine aIf.mkL (fun hz => ?_) (fun hz => ?_) <;> simp at hz
      · rw [if_neg (by simpa using hz)] at i3
        (repeat (first | ((with_reducible refine VC.mkL ?_ fun _ => ?_); · first | omega | exact True.intro | rfl) | ((with_reducible refine VC.mkD ?_ fun _ => ?_); · first | omega | exact True.intro | (intros; omega)) | ((with_reducible refine dEnd.mk ?_ ?_); · kernel_rfl) | (with_reducible refine adrZ.go ?_) | (simp [go_sem])))
        rw [i3]
        (refine leV_frz rfl (by simp) (by simp [noH, upd]) ?_; first | (simp [go_sem]; done) | (simp [go_sem]; exact List.take_of_length_le (by simp)))
      · rw [if_pos (by simpa using hz)] at i3
        (repeat (first | ((with_reducible refine VC.mkL ?_ fun _ => ?_); · first | omega | exact True.intro | rfl) | ((with_reducible refine VC.mkD ?_ fun _ => ?_); · first | omega | exact True.intro | (intros; omega)) | ((with_reducible refine dEnd.mk ?_ ?_); · kernel_rfl) | (with_reducible refine adrZ.go ?_) | (simp [go_sem])))
        refine ALoop.start (hrec (d - 1) (by omega) (i + 1, out ++ [{ s with cursor := nth line i }]) ⟨by simp only; omega, by simp; omega, by simpa using i3⟩) ?_ (by simp)
        simp [go_sem, Wk_eq]
    · rw [List.drop_eq_nil_of_le hi, slideGo] at i3
      (repeat (first | ((with_reducible refine VC.mkL ?_ fun _ => ?_); · first | omega | exact True.intro | rfl) | ((with_reducible refine VC.mkD ?_ fun _ => ?_); · first | omega | exact True.intro | (intros; omega)) | ((with_reducible refine dEnd.mk ?_ ?_); · kernel_rfl) | (with_reducible refine adrZ.go ?_) | (simp [go_sem])))
      rw [i3]
      (refine leV_frz rfl (by simp) (by simp [noH, upd]) ?_; first | (simp [go_sem]; done) | (simp [go_sem]; exact List.take_of_length_le (by simp)))
  · simp [hR]
  · simp [go_sem, Wk_eq]
  · simp
theorem R5take_pure (g : GameD) (hg : GOk g) (s : StD) (hs : StOk g s) : Pure Try.prog 177 [.agg (encGame g), .agg (encState s)] (encSs (takeS g s)) := by
  refine Pure.of (ACallP.of_awp (by kernel_rfl) Try.func177 rfl rfl (Nat.le_of_ble_eq_true rfl) (by kernel_rfl) ?_)
  have hal := hs.p.al
  have hc0 := hs.c0
  have hc1 := hs.c1
  have hcur : s.cursor.toNat < s.p.at_.length := by omega
  have hO := R3Of_pure (nth s.p.at_ s.cursor.toNat)
  have hat := hs.p.at (i := s.cursor.toNat) (by omega)
  have hman := manOf_cases hat.1 hat.2 hg.k6
  have hcp := copied_owns s.p (hs.p.fits hg)
  unfold takeS
  generalize hm : manOf (nth s.p.at_ s.cursor.toNat) = m at *
  obtain ⟨mk, ms⟩ := m
  simp only [Prod.mk.injEq] at hman
  (repeat (first | ((with_reducible refine VC.mkL ?_ fun _ => ?_); · first | omega | exact True.intro | rfl) | ((with_reducible refine VC.mkD ?_ fun _ => ?_); · first | omega | exact True.intro | (intros; omega)) | ((with_reducible refine dEnd.mk ?_ ?_); · kernel_rfl) | (with_reducible refine adrZ.go ?_) | (simp [go_sem, hcur])))
  refine ACallP.plain hO (by simp [go_sem]) ?_
  (repeat (first | ((with_reducible refine VC.mkL ?_ fun _ => ?_); · first | omega | exact True.intro | rfl) | ((with_reducible refine VC.mkD ?_ fun _ => ?_); · first | omega | exact True.intro | (intros; omega)) | ((with_reducible refine dEnd.mk ?_ ?_); · kernel_rfl) | (with_reducible refine adrZ.go ?_) | (simp [go_sem])))
  refine aIf.mkL (fun hc => ?_) (fun hc => ?_) <;> simp at hc
  · rw [if_pos hc]
    (repeat (first | ((with_reducible refine VC.mkL ?_ fun _ => ?_); · first | omega | exact True.intro | rfl) | ((with_reducible refine VC.mkD ?_ fun _ => ?_); · first | omega | exact True.intro | (intros; omega)) | ((with_reducible refine dEnd.mk ?_ ?_); · kernel_rfl) | (with_reducible refine adrZ.go ?_) | (simp [go_sem])))
    (refine leV_frz rfl (by simp) (by simp [noH, upd]) ?_; first | (simp [go_sem]; done) | (simp [go_sem]; exact List.take_of_length_le (by simp)))
  · rw [if_neg (by omega)]
    (repeat (first | ((with_reducible refine VC.mkL ?_ fun _ => ?_); · first | omega | exact True.intro | rfl) | ((with_reducible refine VC.mkD ?_ fun _ => ?_); · first | omega | exact True.intro | (intros; omega)) | ((with_reducible refine dEnd.mk ?_ ?_); · kernel_rfl) | (with_reducible refine adrZ.go ?_) | (simp [go_sem])))
    refine ACallP.ownsPlain hcp (by simp [go_sem]) ?_
    have hmk : mk.toNat < g.kinds.length := by omega
    (repeat (first | ((with_reducible refine VC.mkL ?_ fun _ => ?_); · first | omega | exact True.intro | rfl) | ((with_reducible refine VC.mkD ?_ fun _ => ?_); · first | omega | exact True.intro | (intros; omega)) | ((with_reducible refine dEnd.mk ?_ ?_); · kernel_rfl) | (with_reducible refine adrZ.go ?_) | (simp [go_sem, hcur, hmk])))
    refine aIf.mkL (fun hk => ?_) (fun hk => ?_)
    · rw [if_pos hk]
      have hl0 := hs.p.h0.len
      have hl1 := hs.p.h1.len
      rcases hs.p.s with hsd | hsd
      · have hmk0 : mk.toNat < s.p.h0.length := by omega
        have hmk' : 0 ≤ mk := by omega
        have hv := hs.p.h0.v _ hmk0
        (repeat (first | ((with_reducible refine VC.mkL ?_ fun _ => ?_); · first | omega | exact True.intro | rfl) | ((with_reducible refine VC.mkD ?_ fun _ => ?_); · first | omega | exact True.intro | (intros; omega)) | ((with_reducible refine dEnd.mk ?_ ?_); · kernel_rfl) | (with_reducible refine adrZ.go ?_) | (simp [go_sem, hsd, hmk0, hcur])))
        refine aIf.mkL (fun h8 => ?_) (fun h8 => ?_) <;> simp at h8
        · rw [if_pos (by simpa [PosD.hand, hsd] using h8)]
          (repeat (first | ((with_reducible refine VC.mkL ?_ fun _ => ?_); · first | omega | exact True.intro | rfl) | ((with_reducible refine VC.mkD ?_ fun _ => ?_); · first | omega | exact True.intro | (intros; omega)) | ((with_reducible refine dEnd.mk ?_ ?_); · kernel_rfl) | (with_reducible refine adrZ.go ?_) | (simp [go_sem])))
          (refine leV_frz rfl (by simp) (by simp [noH, upd]) ?_; first | (simp [go_sem]; done) | (simp [go_sem]; exact List.take_of_length_le (by simp)))
        · rw [if_neg (by simpa [PosD.hand, hsd] using h8)]
          (repeat (first | ((with_reducible refine VC.mkL ?_ fun _ => ?_); · first | omega | exact True.intro | rfl) | ((with_reducible refine VC.mkD ?_ fun _ => ?_); · first | omega | exact True.intro | (intros; omega)) | ((with_reducible refine dEnd.mk ?_ ?_); · kernel_rfl) | (with_reducible refine adrZ.go ?_) | (simp [go_sem, hsd, PosD.withHand, PosD.hand, clr])))
          ((refine LeV.frz rfl (by simp) (by simp [noH, upd]) ?_); (try simp only [List.drop_zero, List.take_succ_cons, List.take_zero, List.map_cons, List.map_nil]); (repeat (first | (with_reducible exact LeRows.nil) | (with_reducible refine LeRows.cons ?_ ?_) | (with_reducible exact LeRow.nil) | (with_reducible refine LeRow.cons ?_ ?_) | (with_reducible exact LeV.refl _) | (refine leV_frz rfl (by simp) (by simp [noH, upd]) ?_; first | (simp [go_sem]; done) | (simp [go_sem]; exact List.take_of_length_le (by simp))))))
      · have hmk0 : mk.toNat < s.p.h1.length := by omega
        have hmk' : 0 ≤ mk := by omega
        have hv := hs.p.h1.v _ hmk0
        (repeat (first | ((with_reducible refine VC.mkL ?_ fun _ => ?_); · first | omega | exact True.intro | rfl) | ((with_reducible refine VC.mkD ?_ fun _ => ?_); · first | omega | exact True.intro | (intros; omega)) | ((with_reducible refine dEnd.mk ?_ ?_); · kernel_rfl) | (with_reducible refine adrZ.go ?_) | (simp [go_sem, hsd, hmk0, hcur])))
        refine aIf.mkL (fun h8 => ?_) (fun h8 => ?_) <;> simp at h8
        · rw [if_pos (by simpa [PosD.hand, hsd] using h8)]
          (repeat (first | ((with_reducible refine VC.mkL ?_ fun _ => ?_); · first | omega | exact True.intro | rfl) | ((with_reducible refine VC.mkD ?_ fun _ => ?_); · first | omega | exact True.intro | (intros; omega)) | ((with_reducible refine dEnd.mk ?_ ?_); · kernel_rfl) | (with_reducible refine adrZ.go ?_) | (simp [go_sem])))
          (refine leV_frz rfl (by simp) (by simp [noH, upd]) ?_; first | (simp [go_sem]; done) | (simp [go_sem]; exact List.take_of_length_le (by simp)))
        · rw [if_neg (by simpa [PosD.hand, hsd] using h8)]
          (repeat (first | ((with_reducible refine VC.mkL ?_ fun _ => ?_); · first | omega | exact True.intro | rfl) | ((with_reducible refine VC.mkD ?_ fun _ => ?_); · first | omega | exact True.intro | (intros; omega)) | ((with_reducible refine dEnd.mk ?_ ?_); · kernel_rfl) | (with_reducible refine adrZ.go ?_) | (simp [go_sem, hsd, PosD.withHand, PosD.hand, clr])))
          ((refine LeV.frz rfl (by simp) (by simp [noH, upd]) ?_); (try simp only [List.drop_zero, List.take_succ_cons, List.take_zero, List.map_cons, List.map_nil]); (repeat (first | (with_reducible exact LeRows.nil) | (with_reducible refine LeRows.cons ?_ ?_) | (with_reducible exact LeRow.nil) | (with_reducible refine LeRow.cons ?_ ?_) | (with_reducible exact LeV.refl _) | (refine leV_frz rfl (by simp) (by simp [noH, upd]) ?_; first | (simp [go_sem]; done) | (simp [go_sem]; exact List.take_of_length_le (by simp))))))
    · rw [if_neg (by simpa using hk)]
      (repeat (first | ((with_reducible refine VC.mkL ?_ fun _ => ?_); · first | omega | exact True.intro | rfl) | ((with_reducible refine VC.mkD ?_ fun _ => ?_); · first | omega | exact True.intro | (intros; omega)) | ((with_reducible refine dEnd.mk ?_ ?_); · kernel_rfl) | (with_reducible refine adrZ.go ?_) | (simp [go_sem, clr])))
      ((refine LeV.frz rfl (by simp) (by simp [noH, upd]) ?_); (try simp only [List.drop_zero, List.take_succ_cons, List.take_zero, List.map_cons, List.map_nil]); (repeat (first | (with_reducible exact LeRows.nil) | (with_reducible refine LeRows.cons ?_ ?_) | (with_reducible exact LeRow.nil) | (with_reducible refine LeRow.cons ?_ ?_) | (with_reducible exact LeV.refl _) | (refine leV_frz rfl (by simp) (by simp [noH, upd]) ?_; first | (simp [go_sem]; done) | (simp [go_sem]; exact List.take_of_length_le (by simp))))))
theorem R5push_pure (g : GameD) (hg : GOk g) (s : StD) (hs : StOk g s) (n : Int) : Pure Try.prog 178 [.agg (encGame g), .agg (encState s), .v (.int .i64 n)] (encSs (pushS g s n)) := by
  refine Pure.of (ACallP.of_awp (by kernel_rfl) Try.func178 rfl rfl (Nat.le_of_ble_eq_true rfl) (by kernel_rfl) ?_)
  have hT := R1To_pure g.board hg.board s.p.side n s.cursor
  (repeat (first | ((with_reducible refine VC.mkL ?_ fun _ => ?_); · first | omega | exact True.intro | rfl) | ((with_reducible refine VC.mkD ?_ fun _ => ?_); · first | omega | exact True.intro | (intros; omega)) | ((with_reducible refine dEnd.mk ?_ ?_); · kernel_rfl) | (with_reducible refine adrZ.go ?_) | (simp [go_sem])))
  refine ACallP.plain hT (by simp [go_sem]) ?_
  have hal := hs.p.al
  have hc0 := hs.c0
  have hc1 := hs.c1
  have hcur : s.cursor.toNat < s.p.at_.length := by omega
  have hcp := copied_owns s.p (hs.p.fits hg)
  have hto := toB_lt hg.board s.p.side n s.cursor
  rw [show g.board.cells = g.cells from rfl] at hto
  unfold pushS
  generalize toB g.board s.p.side n s.cursor = to at *
  by_cases ht : to < 0
  · rw [if_pos (.inr (.inl ht))]
    have ht0 : to.toNat = 0 := by omega
    have h0l : 0 < s.p.at_.length := by omega
    (repeat (first | ((with_reducible refine VC.mkL ?_ fun _ => ?_); · first | omega | exact True.intro | rfl) | ((with_reducible refine VC.mkD ?_ fun _ => ?_); · first | omega | exact True.intro | (intros; omega)) | ((with_reducible refine dEnd.mk ?_ ?_); · kernel_rfl) | (with_reducible refine adrZ.go ?_) | (simp [go_sem, hcur, ht, ht0, h0l])))
    (refine leV_frz rfl (by simp) (by simp [noH, upd]) ?_; first | (simp [go_sem]; done) | (simp [go_sem]; exact List.take_of_length_le (by simp)))
  · have htl : to.toNat < s.p.at_.length := by omega
    have ht' : 0 ≤ to := by omega
    (repeat (first | ((with_reducible refine VC.mkL ?_ fun _ => ?_); · first | omega | exact True.intro | rfl) | ((with_reducible refine VC.mkD ?_ fun _ => ?_); · first | omega | exact True.intro | (intros; omega)) | ((with_reducible refine dEnd.mk ?_ ?_); · kernel_rfl) | (with_reducible refine adrZ.go ?_) | (simp [go_sem, hcur, ht, htl])))
    refine aIf.mkL (fun hc => ?_) (fun hc => ?_) <;> simp at hc
    · rw [if_pos (by by_cases h : nth s.p.at_ s.cursor.toNat = 0; exact .inl h; exact .inr (hc.resolve_left h))]
      (repeat (first | ((with_reducible refine VC.mkL ?_ fun _ => ?_); · first | omega | exact True.intro | rfl) | ((with_reducible refine VC.mkD ?_ fun _ => ?_); · first | omega | exact True.intro | (intros; omega)) | ((with_reducible refine dEnd.mk ?_ ?_); · kernel_rfl) | (with_reducible refine adrZ.go ?_) | (simp [go_sem])))
      (refine leV_frz rfl (by simp) (by simp [noH, upd]) ?_; first | (simp [go_sem]; done) | (simp [go_sem]; exact List.take_of_length_le (by simp)))
    · rw [if_neg (by rintro (h | h); exact hc.1 h; exact h hc.2)]
      (repeat (first | ((with_reducible refine VC.mkL ?_ fun _ => ?_); · first | omega | exact True.intro | rfl) | ((with_reducible refine VC.mkD ?_ fun _ => ?_); · first | omega | exact True.intro | (intros; omega)) | ((with_reducible refine dEnd.mk ?_ ?_); · kernel_rfl) | (with_reducible refine adrZ.go ?_) | (simp [go_sem, hcur])))
      refine ACallP.ownsPlain hcp (by simp [go_sem]) ?_
      (repeat (first | ((with_reducible refine VC.mkL ?_ fun _ => ?_); · first | omega | exact True.intro | rfl) | ((with_reducible refine VC.mkD ?_ fun _ => ?_); · first | omega | exact True.intro | (intros; omega)) | ((with_reducible refine dEnd.mk ?_ ?_); · kernel_rfl) | (with_reducible refine adrZ.go ?_) | (simp [go_sem, hcur, htl])))
      ((refine LeV.frz rfl (by simp) (by simp [noH, upd]) ?_); (try simp only [List.drop_zero, List.take_succ_cons, List.take_zero, List.map_cons, List.map_nil]); (repeat (first | (with_reducible exact LeRows.nil) | (with_reducible refine LeRows.cons ?_ ?_) | (with_reducible exact LeRow.nil) | (with_reducible refine LeRow.cons ?_ ?_) | (with_reducible exact LeV.refl _) | (refine leV_frz rfl (by simp) (by simp [noH, upd]) ?_; first | (simp [go_sem]; done) | (simp [go_sem]; exact List.take_of_length_le (by simp))))))
end Go.Av
end
section
set_option linter.unusedSimpArgs false
set_option linter.unusedVariables false
open Go Go.Proofs
set_option maxRecDepth 20000
set_option maxHeartbeats 4000000
namespace Go.Av
theorem addS_nil (l : List StD) : addS l [] = l := rfl
theorem addS_snoc (l more : List StD) (s : StD) : addS l (more ++ [s]) = if s ∈ addS l more then addS l more else addS l more ++ [s] := by
  unfold addS; rw [List.foldl_append]; rfl
theorem addS_take (l more : List StD) {i : Nat} (h : i < more.length) : addS l (more.take (i + 1)) = if nth more i ∈ addS l (more.take i) then addS l (more.take i) else addS l (more.take i) ++ [nth more i] := by
  rw [List.take_add_one, List.getElem?_eq_getElem h, nth_eq _ _ h, Option.toList_some, addS_snoc]
theorem addS_len : ∀ (more l : List StD), l.length ≤ (addS l more).length ∧ (addS l more).length ≤ l.length + more.length
  | [], l => by simp [addS]
  | s :: more, l => by
    have e : addS l (s :: more) = addS (if s ∈ l then l else l ++ [s]) more := rfl
    rw [e]
    by_cases h : s ∈ l
    · have := addS_len more l
      rw [if_pos h]; simp; omega
    · have := addS_len more (l ++ [s])
      rw [if_neg h]; simp at this ⊢; omega
theorem addS_all {P : StD → Prop} : ∀ {more l : List StD}, (∀ s ∈ l, P s) → (∀ s ∈ more, P s) → ∀ s ∈ addS l more, P s
  | [], l, h, _ => h
  | s :: more, l, h, h' => by
    have e : addS l (s :: more) = addS (if s ∈ l then l else l ++ [s]) more := rfl
    rw [e]
    refine addS_all (fun t ht => ?_) (fun t ht => h' t (List.mem_cons_of_mem _ ht))
    split at ht
    · exact h t ht
    · rcases List.mem_append.1 ht with ht | ht
      · exact h t ht
      · simp at ht; subst ht; exact h' _ (by simp)
theorem R5add_owns (l more : List StD) (hl : l.length + more.length ≤ 17179869184) (h1 : ∀ s ∈ l, FitsP s.p) (h2 : ∀ s ∈ more, FitsP s.p) :
    OwnsA Try.prog 171 [.sl 0 l.length 8 0 l.length, encSs more] [(0, .rows true l.length 8 (l.map encState))] 1 (.sl 0 (addS l more).length 8 0 (addS l more).length) [(0, .rows true (addS l more).length 8 ((addS l more).map encState))] 1 := by
  unfold OwnsA
  refine ACallP.of_awp (by kernel_rfl) Try.func171 rfl rfl (Nat.le_of_ble_eq_true rfl) (by kernel_rfl) ?_
  (repeat (first | ((with_reducible refine VC.mkL ?_ fun _ => ?_); · first | omega | exact True.intro | rfl) | ((with_reducible refine VC.mkD ?_ fun _ => ?_); · first | omega | exact True.intro | (intros; omega)) | ((with_reducible refine dEnd.mk ?_ ?_); · kernel_rfl) | (with_reducible refine adrZ.go ?_) | (simp [go_sem])))
  refine ALoop.start (ALoop.ind (α := Nat × List StD) (fun a => ⟨[(0, .sl 0 a.2.length 8 0 a.2.length), (1, encSs more), (5, .v (.int .i64 a.1))], [(0, .rows true a.2.length 8 (a.2.map encState))], 1⟩)
    (fun d a => a.1 + d = more.length ∧ a.2 = addS l (more.take a.1)) ?_ more.length (0, l) ?_) ?_ ?_
  · rintro d ⟨i, out⟩ ⟨i1, i2⟩ hrec
    simp only at i1 i2
    have hol := addS_len (more.take i) l
    rw [← i2] at hol
    have hof : ∀ s ∈ out, FitsP s.p := by rw [i2]; exact addS_all h1 (fun s hs => h2 s (List.mem_of_mem_take hs))
    (repeat (first | ((with_reducible refine VC.mkL ?_ fun _ => ?_); · first | omega | exact True.intro | rfl) | ((with_reducible refine VC.mkD ?_ fun _ => ?_); · first | omega | exact True.intro | (intros; omega)) | ((with_reducible refine dEnd.mk ?_ ?_); · kernel_rfl) | (with_reducible refine adrZ.go ?_) | (simp [go_sem])))
    refine aIf.mkL (fun hi => ?_) (fun hi => ?_) <;> simp at hi
    · have htl : (more.take i).length = i := by simp; omega
      have hfi := h2 _ (nth_mem hi)
      have hsu := addS_take l more hi
      rw [← i2] at hsu
      (repeat (first | ((with_reducible refine VC.mkL ?_ fun _ => ?_); · first | omega | exact True.intro | rfl) | ((with_reducible refine VC.mkD ?_ fun _ => ?_); · first | omega | exact True.intro | (intros; omega)) | ((with_reducible refine dEnd.mk ?_ ?_); · kernel_rfl) | (with_reducible refine adrZ.go ?_) | (simp [go_sem])))
      refine ALoop.start (ALoop.ind (α := Nat) (fun k => ⟨[(0, .sl 0 out.length 8 0 out.length), (1, encSs more), (5, .v (.int .i64 i)), (6, .v (.bool (decide (nth more i ∈ out.take k)))), (7, .v (.int .i64 k))], [(0, .rows true out.length 8 (out.map encState))], 1⟩)
        (fun d k => k + d = out.length) ?_ out.length 0 ?_) ?_ ?_
      · rintro d2 k k1 hrec2
        (repeat (first | ((with_reducible refine VC.mkL ?_ fun _ => ?_); · first | omega | exact True.intro | rfl) | ((with_reducible refine VC.mkD ?_ fun _ => ?_); · first | omega | exact True.intro | (intros; omega)) | ((with_reducible refine dEnd.mk ?_ ?_); · kernel_rfl) | (with_reducible refine adrZ.go ?_) | (simp [go_sem])))
        refine aIf.mkL (fun hk => ?_) (fun hk => ?_) <;> simp at hk
        · have hfk := hof _ (nth_mem hk)
          have htk : out.take (k + 1) = out.take k ++ [nth out k] := by rw [List.take_add_one, List.getElem?_eq_getElem hk, nth_eq _ _ hk]; rfl
          (repeat (first | ((with_reducible refine VC.mkL ?_ fun _ => ?_); · first | omega | exact True.intro | rfl) | ((with_reducible refine VC.mkD ?_ fun _ => ?_); · first | omega | exact True.intro | (intros; omega)) | ((with_reducible refine dEnd.mk ?_ ?_); · kernel_rfl) | (with_reducible refine adrZ.go ?_) | (simp [go_sem, hi, hk])))
          try ((with_reducible refine adrZ.go ?_); (try simp [go_sem]))
          refine dGC.plain _ (fun _ => R5same_pure _ _ hfk hfi) (by simp [go_sem]) ?_
          (repeat (first | ((with_reducible refine VC.mkL ?_ fun _ => ?_); · first | omega | exact True.intro | rfl) | ((with_reducible refine VC.mkD ?_ fun _ => ?_); · first | omega | exact True.intro | (intros; omega)) | ((with_reducible refine dEnd.mk ?_ ?_); · kernel_rfl) | (with_reducible refine adrZ.go ?_) | (simp [go_sem, hi, hk])))
          refine ALoop.start (hrec2 (d2 - 1) (by omega) (k + 1) (by omega)) ?_ (by simp)
          simp [go_sem, Wk_eq, htk, eq_comm (a := nth more i) (b := nth out k)]
        · have hkl : k = out.length := by omega
          subst hkl
          (repeat (first | ((with_reducible refine VC.mkL ?_ fun _ => ?_); · first | omega | exact True.intro | rfl) | ((with_reducible refine VC.mkD ?_ fun _ => ?_); · first | omega | exact True.intro | (intros; omega)) | ((with_reducible refine dEnd.mk ?_ ?_); · kernel_rfl) | (with_reducible refine adrZ.go ?_) | (simp [go_sem])))
          by_cases hm : nth more i ∈ out
          · rw [if_pos hm] at hsu
            (repeat (first | ((with_reducible refine VC.mkL ?_ fun _ => ?_); · first | omega | exact True.intro | rfl) | ((with_reducible refine VC.mkD ?_ fun _ => ?_); · first | omega | exact True.intro | (intros; omega)) | ((with_reducible refine dEnd.mk ?_ ?_); · kernel_rfl) | (with_reducible refine adrZ.go ?_) | (simp [go_sem, hm])))
            refine ALoop.start (hrec (d - 1) (by omega) (i + 1, out) ⟨by simp only; omega, hsu.symm⟩) ?_ (by simp)
            simp [go_sem, Wk_eq]
          · rw [if_neg hm] at hsu
            (repeat (first | ((with_reducible refine VC.mkL ?_ fun _ => ?_); · first | omega | exact True.intro | rfl) | ((with_reducible refine VC.mkD ?_ fun _ => ?_); · first | omega | exact True.intro | (intros; omega)) | ((with_reducible refine dEnd.mk ?_ ?_); · kernel_rfl) | (with_reducible refine adrZ.go ?_) | (simp [go_sem, hm, hi])))
            refine ALoop.start (hrec (d - 1) (by omega) (i + 1, out ++ [nth more i]) ⟨by simp only; omega, hsu.symm⟩) ?_ (by simp)
            simp [go_sem, Wk_eq]
      · omega
      · simp [go_sem, Wk_eq]
      · simp
    · have hil : i = more.length := by omega
      subst hil
      rw [List.take_length] at i2
      rw [← i2]
      (repeat (first | ((with_reducible refine VC.mkL ?_ fun _ => ?_); · first | omega | exact True.intro | rfl) | ((with_reducible refine VC.mkD ?_ fun _ => ?_); · first | omega | exact True.intro | (intros; omega)) | ((with_reducible refine dEnd.mk ?_ ?_); · kernel_rfl) | (with_reducible refine adrZ.go ?_) | (simp [go_sem])))
      simp [go_sem, Wk_eq]
  · simp [addS_nil]
  · simp [go_sem, Wk_eq]
  · simp
theorem bel2 {x y : AV} (h : Bel 0 x) (h' : Bel 0 y) : ∀ c ∈ [x, y], Bel 0 c := by simpa using ⟨h, h'⟩
theorem R5Step_pure (g : GameD) (hg : GOk g) (s : StD) (hs : StOk g s) (x : Int × Int) (hx : StepOk g.next.length g.kinds.length g.rights x) :
    Pure Try.prog 172 [.agg (encGame g), .agg (encState s), .agg (encStep x)] (encSs (stepS g s x)) := by
  refine Pure.of (ACallP.of_awp (by kernel_rfl) Try.func172 rfl rfl (Nat.le_of_ble_eq_true rfl) (by kernel_rfl) ?_)
  have hal := hs.p.al
  have hc0 := hs.c0
  have hc1 := hs.c1
  have hcur : s.cursor.toNat < s.p.at_.length := by omega
  have hat := hs.p.at (i := s.cursor.toNat) (by omega)
  have hO := R3Of_pure (nth s.p.at_ s.cursor.toNat)
  have hTo := fun n => R1To_pure g.board hg.board s.p.side n s.cursor
  have hOn := fun u b => R5only_pure u b
  have hSl := fun n => R5slide_pure g hg s hs n
  have hTk := R5take_pure g hg s hs
  have hPu := fun n => R5push_pure g hg s hs n
  have r0 := hg.r0
  have r4 := hg.r4
  obtain ⟨op, n⟩ := x
  obtain ⟨xo, xd, xz, xk, xr⟩ := hx
  simp only at xo xd xz xk xr
  unfold stepS
  generalize hm : manOf (nth s.p.at_ s.cursor.toNat) = m at *
  obtain ⟨mk, ms⟩ := m
  (repeat (first | ((with_reducible refine VC.mkL ?_ fun _ => ?_); · first | omega | exact True.intro | rfl) | ((with_reducible refine VC.mkD ?_ fun _ => ?_); · first | omega | exact True.intro | (intros; omega)) | ((with_reducible refine dEnd.mk ?_ ?_); · kernel_rfl) | (with_reducible refine adrZ.go ?_) | (simp [go_sem, hcur])))
  refine ACallP.plain hO (by simp [go_sem]) ?_
  rcases (show op = 1 ∨ op = 2 ∨ op = 3 ∨ op = 4 ∨ op = 5 ∨ op = 6 ∨ op = 7 ∨ op = 8 ∨ op = 9 ∨ op = 10 by omega) with rfl | rfl | rfl | rfl | rfl | rfl | rfl | rfl | rfl | rfl
  · (repeat (first | ((with_reducible refine VC.mkL ?_ fun _ => ?_); · first | omega | exact True.intro | rfl) | ((with_reducible refine VC.mkD ?_ fun _ => ?_); · first | omega | exact True.intro | (intros; omega)) | ((with_reducible refine dEnd.mk ?_ ?_); · kernel_rfl) | (with_reducible refine adrZ.go ?_) | (simp [go_sem])))
    refine ACallP.plain (hTo n) (by simp [go_sem]) ?_
    (repeat (first | ((with_reducible refine VC.mkL ?_ fun _ => ?_); · first | omega | exact True.intro | rfl) | ((with_reducible refine VC.mkD ?_ fun _ => ?_); · first | omega | exact True.intro | (intros; omega)) | ((with_reducible refine dEnd.mk ?_ ?_); · kernel_rfl) | (with_reducible refine adrZ.go ?_) | (simp [go_sem])))
    refine ACallP.plain (hOn { s with cursor := toB g.board s.p.side n s.cursor } _) (by simp [go_sem]) ?_
    (repeat (first | ((with_reducible refine VC.mkL ?_ fun _ => ?_); · first | omega | exact True.intro | rfl) | ((with_reducible refine VC.mkD ?_ fun _ => ?_); · first | omega | exact True.intro | (intros; omega)) | ((with_reducible refine dEnd.mk ?_ ?_); · kernel_rfl) | (with_reducible refine adrZ.go ?_) | (simp [go_sem])))
  · (repeat (first | ((with_reducible refine VC.mkL ?_ fun _ => ?_); · first | omega | exact True.intro | rfl) | ((with_reducible refine VC.mkD ?_ fun _ => ?_); · first | omega | exact True.intro | (intros; omega)) | ((with_reducible refine dEnd.mk ?_ ?_); · kernel_rfl) | (with_reducible refine adrZ.go ?_) | (simp [go_sem])))
    refine ACallP.plain (hSl n) (by simp [go_sem]) ?_
    (repeat (first | ((with_reducible refine VC.mkL ?_ fun _ => ?_); · first | omega | exact True.intro | rfl) | ((with_reducible refine VC.mkD ?_ fun _ => ?_); · first | omega | exact True.intro | (intros; omega)) | ((with_reducible refine dEnd.mk ?_ ?_); · kernel_rfl) | (with_reducible refine adrZ.go ?_) | (simp [go_sem])))
  · (repeat (first | ((with_reducible refine VC.mkL ?_ fun _ => ?_); · first | omega | exact True.intro | rfl) | ((with_reducible refine VC.mkD ?_ fun _ => ?_); · first | omega | exact True.intro | (intros; omega)) | ((with_reducible refine dEnd.mk ?_ ?_); · kernel_rfl) | (with_reducible refine adrZ.go ?_) | (simp [go_sem])))
    refine ACallP.plain (hOn s _) (by simp [go_sem]) ?_
    (repeat (first | ((with_reducible refine VC.mkL ?_ fun _ => ?_); · first | omega | exact True.intro | rfl) | ((with_reducible refine VC.mkD ?_ fun _ => ?_); · first | omega | exact True.intro | (intros; omega)) | ((with_reducible refine dEnd.mk ?_ ?_); · kernel_rfl) | (with_reducible refine adrZ.go ?_) | (simp [go_sem])))
  · (repeat (first | ((with_reducible refine VC.mkL ?_ fun _ => ?_); · first | omega | exact True.intro | rfl) | ((with_reducible refine VC.mkD ?_ fun _ => ?_); · first | omega | exact True.intro | (intros; omega)) | ((with_reducible refine dEnd.mk ?_ ?_); · kernel_rfl) | (with_reducible refine adrZ.go ?_) | (simp [go_sem])))
    refine ACallP.plain (hOn s _) (by simp [go_sem]) ?_
    (repeat (first | ((with_reducible refine VC.mkL ?_ fun _ => ?_); · first | omega | exact True.intro | rfl) | ((with_reducible refine VC.mkD ?_ fun _ => ?_); · first | omega | exact True.intro | (intros; omega)) | ((with_reducible refine dEnd.mk ?_ ?_); · kernel_rfl) | (with_reducible refine adrZ.go ?_) | (simp [go_sem])))
  · (repeat (first | ((with_reducible refine VC.mkL ?_ fun _ => ?_); · first | omega | exact True.intro | rfl) | ((with_reducible refine VC.mkD ?_ fun _ => ?_); · first | omega | exact True.intro | (intros; omega)) | ((with_reducible refine dEnd.mk ?_ ?_); · kernel_rfl) | (with_reducible refine adrZ.go ?_) | (simp [go_sem])))
    refine ACallP.plain (hOn s _) (by simp [go_sem]) ?_
    (repeat (first | ((with_reducible refine VC.mkL ?_ fun _ => ?_); · first | omega | exact True.intro | rfl) | ((with_reducible refine VC.mkD ?_ fun _ => ?_); · first | omega | exact True.intro | (intros; omega)) | ((with_reducible refine dEnd.mk ?_ ?_); · kernel_rfl) | (with_reducible refine adrZ.go ?_) | (simp [go_sem])))
  · (repeat (first | ((with_reducible refine VC.mkL ?_ fun _ => ?_); · first | omega | exact True.intro | rfl) | ((with_reducible refine VC.mkD ?_ fun _ => ?_); · first | omega | exact True.intro | (intros; omega)) | ((with_reducible refine dEnd.mk ?_ ?_); · kernel_rfl) | (with_reducible refine adrZ.go ?_) | (simp [go_sem])))
    refine ACallP.plain hTk (by simp [go_sem]) ?_
    (repeat (first | ((with_reducible refine VC.mkL ?_ fun _ => ?_); · first | omega | exact True.intro | rfl) | ((with_reducible refine VC.mkD ?_ fun _ => ?_); · first | omega | exact True.intro | (intros; omega)) | ((with_reducible refine dEnd.mk ?_ ?_); · kernel_rfl) | (with_reducible refine adrZ.go ?_) | (simp [go_sem])))
  · (repeat (first | ((with_reducible refine VC.mkL ?_ fun _ => ?_); · first | omega | exact True.intro | rfl) | ((with_reducible refine VC.mkD ?_ fun _ => ?_); · first | omega | exact True.intro | (intros; omega)) | ((with_reducible refine dEnd.mk ?_ ?_); · kernel_rfl) | (with_reducible refine adrZ.go ?_) | (simp [go_sem])))
    refine ACallP.plain (hPu n) (by simp [go_sem]) ?_
    (repeat (first | ((with_reducible refine VC.mkL ?_ fun _ => ?_); · first | omega | exact True.intro | rfl) | ((with_reducible refine VC.mkD ?_ fun _ => ?_); · first | omega | exact True.intro | (intros; omega)) | ((with_reducible refine dEnd.mk ?_ ?_); · kernel_rfl) | (with_reducible refine adrZ.go ?_) | (simp [go_sem])))
  · (repeat (first | ((with_reducible refine VC.mkL ?_ fun _ => ?_); · first | omega | exact True.intro | rfl) | ((with_reducible refine VC.mkD ?_ fun _ => ?_); · first | omega | exact True.intro | (intros; omega)) | ((with_reducible refine dEnd.mk ?_ ?_); · kernel_rfl) | (with_reducible refine adrZ.go ?_) | (simp [go_sem])))
    (refine leV_frz rfl (by simp) (by simp [noH, upd]) ?_; first | (simp [go_sem]; done) | (simp [go_sem]; exact List.take_of_length_le (by simp)))
  · have hn := xr (by omega)
    (repeat (first | ((with_reducible refine VC.mkL ?_ fun _ => ?_); · first | omega | exact True.intro | rfl) | ((with_reducible refine VC.mkD ?_ fun _ => ?_); · first | omega | exact True.intro | (intros; omega)) | ((with_reducible refine dEnd.mk ?_ ?_); · kernel_rfl) | (with_reducible refine adrZ.go ?_) | (simp [go_sem])))
    try ((with_reducible refine adrZ.go ?_); (try simp [go_sem]))
    refine dCall.plain (hOn s _) (by simp [go_sem]) ?_
    (repeat (first | ((with_reducible refine VC.mkL ?_ fun _ => ?_); · first | omega | exact True.intro | rfl) | ((with_reducible refine VC.mkD ?_ fun _ => ?_); · first | omega | exact True.intro | (intros; omega)) | ((with_reducible refine dEnd.mk ?_ ?_); · kernel_rfl) | (with_reducible refine adrZ.go ?_) | (simp [go_sem])))
  · have hn := xr (by omega)
    have hpn := pow_le16 hn.1 (show n ≤ 4 by omega)
    (repeat (first | ((with_reducible refine VC.mkL ?_ fun _ => ?_); · first | omega | exact True.intro | rfl) | ((with_reducible refine VC.mkD ?_ fun _ => ?_); · first | omega | exact True.intro | (intros; omega)) | ((with_reducible refine dEnd.mk ?_ ?_); · kernel_rfl) | (with_reducible refine adrZ.go ?_) | (simp [go_sem])))
    (refine leV_frz rfl (by simp) (by simp [noH, upd]) ?_; first | (simp [go_sem]; done) | (simp [go_sem]; exact List.take_of_length_le (by simp)))
end Go.Av
end
section
set_option linter.unusedSimpArgs false
set_option linter.unusedVariables false
open Go Go.Proofs
namespace Go.Av
/-- the states after the first n steps -/
def stageS (g : GameD) (p : PosD) (cell : Int) (prog : List (Int × Int)) (n : Nat) : List StD := (prog.take n).foldl (nextS g) [startS p cell]
theorem stageS_zero (g : GameD) (p : PosD) (cell : Int) (prog : List (Int × Int)) : stageS g p cell prog 0 = [startS p cell] := rfl
theorem stageS_succ (g : GameD) (p : PosD) (cell : Int) (prog : List (Int × Int)) {n : Nat} (h : n < prog.length) : stageS g p cell prog (n + 1) = nextS g (stageS g p cell prog n) (nth prog n) := by
  unfold stageS
  rw [List.take_add_one, List.getElem?_eq_getElem h, nth_eq _ _ h, Option.toList_some, List.foldl_append]; rfl
theorem stageS_last (g : GameD) (p : PosD) (cell : Int) (prog : List (Int × Int)) : stageS g p cell prog prog.length = lastS g p cell prog := by
  unfold stageS lastS; rw [List.take_length]
/-- what the first n states of a stage give -/
def partS (g : GameD) (now : List StD) (x : Int × Int) (n : Nat) : List StD := (now.take n).foldl (fun next s => addS next (stepS g s x)) []
theorem partS_zero (g : GameD) (now : List StD) (x : Int × Int) : partS g now x 0 = [] := rfl
theorem partS_succ (g : GameD) (now : List StD) (x : Int × Int) {n : Nat} (h : n < now.length) : partS g now x (n + 1) = addS (partS g now x n) (stepS g (nth now n) x) := by
  unfold partS
  rw [List.take_add_one, List.getElem?_eq_getElem h, nth_eq _ _ h, Option.toList_some, List.foldl_append]; rfl
theorem partS_all (g : GameD) (now : List StD) (x : Int × Int) : partS g now x now.length = nextS g now x := by
  unfold partS nextS; rw [List.take_length]
theorem partS_ok {g : GameD} (hg : GOk g) {now : List StD} {x : Int × Int} (hx : StepOk g.next.length g.kinds.length g.rights x) {side : Int} (hn : ∀ s ∈ now, StOk g s ∧ s.p.side = side) :
    ∀ n, n ≤ now.length → (∀ s ∈ partS g now x n, StOk g s ∧ s.p.side = side) ∧ (partS g now x n).length ≤ 10 * n := by
  intro n
  induction n with
  | zero => intro _; simp [partS]
  | succ n ih =>
    intro h
    obtain ⟨h1, h2⟩ := ih (by omega)
    have hs := hn _ (nth_mem (show n < now.length by omega))
    rw [partS_succ g now x (by omega)]
    refine ⟨addS_all h1 (fun s hs' => ?_), ?_⟩
    · obtain ⟨k1, k2⟩ := stepS_ok hg hs.1 hx s hs'
      exact ⟨k1, k2.trans hs.2⟩
    · have k1 := (addS_len (stepS g (nth now n) x) (partS g now x n)).2
      have k2 := stepS_len hg (nth now n) x
      omega
theorem startS_ok {g : GameD} (hg : GOk g) {p : PosD} (hp : POk g p) {cell : Int} (h0 : 0 ≤ cell) (h1 : cell < g.cells) (hm : 0 ≤ (manOf (nth p.at_ cell.toNat)).1) : StOk g (startS p cell) ∧ (startS p cell).p.side = p.side := by
  have hat := hp.at (i := cell.toNat) (by omega)
  have hk := manOf_cases hat.1 hat.2 hg.k6
  refine ⟨⟨hp.clr _, h0, h1, ?_⟩, rfl⟩
  simp only [startS]
  rcases hk with ⟨_, e⟩ | ⟨_, a, b, _⟩
  · rw [e] at hm; simp at hm
  · exact ⟨a, b⟩
theorem stageS_ok {g : GameD} (hg : GOk g) {p : PosD} (hp : POk g p) {cell : Int} (h0 : 0 ≤ cell) (h1 : cell < g.cells) (hm : 0 ≤ (manOf (nth p.at_ cell.toNat)).1)
    {prog : List (Int × Int)} (hpr : ∀ x ∈ prog, StepOk g.next.length g.kinds.length g.rights x) :
    ∀ n, n ≤ prog.length → (∀ s ∈ stageS g p cell prog n, StOk g s ∧ s.p.side = p.side) ∧ (stageS g p cell prog n).length ≤ 10 ^ n := by
  intro n
  induction n with
  | zero => intro _; rw [stageS_zero]; exact ⟨fun s hs => by simp at hs; subst hs; exact startS_ok hg hp h0 h1 hm, by simp⟩
  | succ n ih =>
    intro h
    obtain ⟨k1, k2⟩ := ih (by omega)
    rw [stageS_succ g p cell prog (by omega), ← partS_all]
    obtain ⟨j1, j2⟩ := partS_ok hg (hpr _ (nth_mem (show n < prog.length by omega))) k1 _ (Nat.le_refl _)
    refine ⟨j1, ?_⟩
    rw [Nat.pow_succ]
    omega
theorem pow10_le {n : Nat} (h : n ≤ 8) : 10 ^ n ≤ 100000000 := by
  have := Nat.pow_le_pow_right (n := 10) (by omega) h
  exact this
def stR (g : GameD) (p : PosD) (cell : Int) (prog : List (Int × Int)) (n : Nat) : List (List AV) := (List.range n).map fun j => [encSs (stageS g p cell prog j)]
theorem stR_succ (g : GameD) (p : PosD) (cell : Int) (prog : List (Int × Int)) (n : Nat) : stR g p cell prog (n + 1) = stR g p cell prog n ++ [[encSs (stageS g p cell prog n)]] := by simp [stR, List.range_succ]
@[go_sem] theorem stR_len (g : GameD) (p : PosD) (cell : Int) (prog : List (Int × Int)) (n : Nat) : (stR g p cell prog n).length = n := by simp [stR]
@[go_sem ↓] theorem bel_stR {m : Nat} {g : GameD} {p : PosD} {cell : Int} {prog : List (Int × Int)} {n : Nat} : (∀ r ∈ stR g p cell prog n, ∀ c ∈ r, Bel m c) = True := by
  refine eq_true fun r hr c hc => ?_
  obtain ⟨j, _, rfl⟩ := List.mem_map.1 hr
  simp only [List.mem_cons, List.not_mem_nil, or_false] at hc
  subst hc
  exact of_eq_true bel_Sts
theorem nth_stR (g : GameD) (p : PosD) (cell : Int) (prog : List (Int × Int)) {n j : Nat} (h : j < n) : nth (stR g p cell prog n) j = [encSs (stageS g p cell prog j)] := by
  unfold stR; rw [nth_map _ _ _ (by simpa using h)]; simp [nth, h]
theorem bel_encSs {n : Nat} (l : List StD) : Bel n (encSs l) := of_eq_true bel_Sts
/-- the man of the side whose turn it is, with a program -/
structure ChoiceOk (g : GameD) (p : PosD) (cell i : Int) : Prop where
  c0 : 0 ≤ cell
  c1 : cell < g.cells
  man : 0 ≤ (manOf (nth p.at_ cell.toNat)).1
  side : (manOf (nth p.at_ cell.toNat)).2 = p.side
  i0 : 0 ≤ i
  i1 : i < (nth g.kinds (manOf (nth p.at_ cell.toNat)).1.toNat).progs.length
end Go.Av
end
section
set_option linter.unusedSimpArgs false
set_option linter.unusedVariables false
open Go Go.Proofs
set_option maxRecDepth 20000
set_option maxHeartbeats 4000000
namespace Go.Av
theorem R5Run_pure (g : GameD) (hg : GOk g) (p : PosD) (hp : POk g p) (cell i : Int) (hc : ChoiceOk g p cell i) :
    Pure Try.prog 164 [.agg (encGame g), .agg (encPos p), .v (.int .i64 cell), .v (.int .i64 i)]
      (.agg [.lst 1 (stR g p cell (progOf g p cell i) ((progOf g p cell i).length + 1)), .v (.int .i64 0)]) := by
  refine Pure.of (ACallP.of_awp (by kernel_rfl) Try.func164 rfl rfl (Nat.le_of_ble_eq_true rfl) (by kernel_rfl) ?_)
  have hal := hp.al
  obtain ⟨c0, c1, cm, cs, i0, i1⟩ := hc
  have hcur : cell.toNat < p.at_.length := by omega
  have hat := hp.at (i := cell.toNat) (by omega)
  have hO := R3Of_pure (nth p.at_ cell.toNat)
  have hman := manOf_cases hat.1 hat.2 hg.k6
  have hcp := copied_owns p (hp.fits hg)
  have hV := RValid_pure g (by have := hg.k6; unfold FitsG; omega) ⟨hg.r0, by have := hg.r4; omega⟩ p (hp.fits hg)
  rw [pOk_iff.2 hp] at hV
  have hkl : (manOf (nth p.at_ cell.toNat)).1.toNat < g.kinds.length := by
    rcases hman with ⟨_, e⟩ | ⟨_, a, b, _⟩
    · rw [e] at cm; simp at cm
    · omega
  have hil : i.toNat < (nth g.kinds (manOf (nth p.at_ cell.toNat)).1.toNat).progs.length := by omega
  have hpg := hg.pr _ (nth_mem hkl) _ (nth_mem hil)
  have hst := fun n hn => stageS_ok hg hp c0 c1 cm (prog := progOf g p cell i) hpg.st n hn
  have hz := stageS_zero g p cell (progOf g p cell i)
  have hsu := fun n hn => stageS_succ g p cell (progOf g p cell i) (n := n) hn
  have hR := fun n => stR_succ g p cell (progOf g p cell i) n
  have hp8 := hpg.len
  have hpst := hpg.st
  have hpe : progOf g p cell i = nth (nth g.kinds (manOf (nth p.at_ cell.toNat)).1.toNat).progs i.toNat := rfl
  rw [← hpe] at hp8 hpst
  obtain ⟨prog, hprog⟩ : ∃ q, q = progOf g p cell i := ⟨_, rfl⟩
  rw [← hprog] at hst hz hsu hR hp8 hpst hpe ⊢
  generalize hm : manOf (nth p.at_ cell.toNat) = m at *
  obtain ⟨mk, ms⟩ := m
  simp only at cm cs i1 hkl hil hpe
  (repeat (first | ((with_reducible refine VC.mkL ?_ fun _ => ?_); · first | omega | exact True.intro | rfl) | ((with_reducible refine VC.mkD ?_ fun _ => ?_); · first | omega | exact True.intro | (intros; omega)) | ((with_reducible refine dEnd.mk ?_ ?_); · kernel_rfl) | (with_reducible refine adrZ.go ?_) | (simp [go_sem])))
  refine ACallP.plain hV (by simp [go_sem]) ?_
  (repeat (first | ((with_reducible refine VC.mkL ?_ fun _ => ?_); · first | omega | exact True.intro | rfl) | ((with_reducible refine VC.mkD ?_ fun _ => ?_); · first | omega | exact True.intro | (intros; omega)) | ((with_reducible refine dEnd.mk ?_ ?_); · kernel_rfl) | (with_reducible refine adrZ.go ?_) | (simp [go_sem])))
  (refine aIf.mkL (fun hF => by first | omega | (simp at hF; omega)) (fun hF => ?_); clear hF)
  (repeat (first | ((with_reducible refine VC.mkL ?_ fun _ => ?_); · first | omega | exact True.intro | rfl) | ((with_reducible refine VC.mkD ?_ fun _ => ?_); · first | omega | exact True.intro | (intros; omega)) | ((with_reducible refine dEnd.mk ?_ ?_); · kernel_rfl) | (with_reducible refine adrZ.go ?_) | (simp [go_sem, hcur])))
  refine ACallP.plain hO (by simp [go_sem]) ?_
  (repeat (first | ((with_reducible refine VC.mkL ?_ fun _ => ?_); · first | omega | exact True.intro | rfl) | ((with_reducible refine VC.mkD ?_ fun _ => ?_); · first | omega | exact True.intro | (intros; omega)) | ((with_reducible refine dEnd.mk ?_ ?_); · kernel_rfl) | (with_reducible refine adrZ.go ?_) | (simp [go_sem, hkl, hil])))
  refine aIf.mkL (fun hF => by simp at hF; omega) (fun hF => ?_)
  clear hF
  (repeat (first | ((with_reducible refine VC.mkL ?_ fun _ => ?_); · first | omega | exact True.intro | rfl) | ((with_reducible refine VC.mkD ?_ fun _ => ?_); · first | omega | exact True.intro | (intros; omega)) | ((with_reducible refine dEnd.mk ?_ ?_); · kernel_rfl) | (with_reducible refine adrZ.go ?_) | (simp [go_sem])))
  refine dCall.owns 28 (by rfl) (hcp) (by decide) (by simp [go_sem]) (by simp [go_sem]) (fun _ => LeRow.refl _ _ _ _) (by simp [go_sem]) (by simp [go_sem]) ?_
  ((repeat (first | ((with_reducible refine VC.mkL ?_ fun _ => ?_); · first | omega | exact True.intro | rfl) | ((with_reducible refine VC.mkD ?_ fun _ => ?_); · first | omega | exact True.intro | (intros; omega)) | (with_reducible refine adrZ.go ?_) | (simp [go_sem]))); refine dEnd.mkN (by kernel_rfl) ?_)
  (repeat (first | ((with_reducible refine VC.mkL ?_ fun _ => ?_); · first | omega | exact True.intro | rfl) | ((with_reducible refine VC.mkD ?_ fun _ => ?_); · first | omega | exact True.intro | (intros; omega)) | ((with_reducible refine dEnd.mk ?_ ?_); · kernel_rfl) | (with_reducible refine adrZ.go ?_) | (simp [go_sem, hcur, hkl, hil])))
  rw [← hpe]
  have hsz : ∀ n, n ≤ prog.length → (stageS g p cell prog n).length ≤ 100000000 := fun n hn => Nat.le_trans (hst n hn).2 (pow10_le (by omega))
  have hst0 : encSs (stageS g p cell prog 0) = .lst 8 [[.lst 1 ((p.at_.map encI).set cell.toNat [.v (.int .i64 0)]), encIs p.h0, encIs p.h1, .v (.int .i64 p.rights), .v (.int .i64 p.side), .v (.int .i64 mk), .v (.int .i64 cell), .v (.bool false)]] := by
    rw [hz]; simp [encSs, startS, encState, clr, hm, encIs, encI, List.map_set]
  have hR0 : stR g p cell prog 1 = [[encSs (stageS g p cell prog 0)]] := rfl
  refine ALoop.start (ALoop.ind (α := Nat) (fun k => ⟨[(4, .ref 0 0 9 0 0), (8, .ref 2 0 2 0 0), (11, .ref 146 0 2 0 0), (12, encSs (stageS g p cell prog k)), (13, encProg prog), (14, .v (.int .i64 k))],
      [(0, .rows true 0 9 [encGame g]), (2, .rows true 0 2 [[AV.nils, .v (.int .i64 0)]]), (142, .rows true k 1 (stR g p cell prog (k + 1))), (146, .rows true 0 2 [[.sl 142 k 1 0 (k + 1), .v (.int .i64 0)]])], 148⟩)
    (fun d k => k + d = prog.length) ?_ prog.length 0 ?_) ?_ ?_
  · rintro d k k1 hrec
    (repeat (first | ((with_reducible refine VC.mkL ?_ fun _ => ?_); · first | omega | exact True.intro | rfl) | ((with_reducible refine VC.mkD ?_ fun _ => ?_); · first | omega | exact True.intro | (intros; omega)) | ((with_reducible refine dEnd.mk ?_ ?_); · kernel_rfl) | (with_reducible refine adrZ.go ?_) | (simp [go_sem])))
    refine aIf.mkL (fun hk => ?_) (fun hk => ?_) <;> simp at hk
    · have hkk := hst k (by omega)
      have hks := hsz k (by omega)
      have hks' := hsz (k + 1) (by omega)
      have hsk := hsu k hk
      have hxs := hpst _ (nth_mem hk)
      have hpo := fun n hn => partS_ok hg hxs hkk.1 n hn
      have hpa := partS_all g (stageS g p cell prog k) (nth prog k)
      have hpz := partS_zero g (stageS g p cell prog k) (nth prog k)
      have hps := fun n hn => partS_succ g (stageS g p cell prog k) (nth prog k) (n := n) hn
      rw [← hsk] at hpa
      obtain ⟨now, hnow⟩ : ∃ now, now = stageS g p cell prog k := ⟨_, rfl⟩
      rw [← hnow] at hkk hks hpo hpa hpz hps ⊢
      obtain ⟨x, hx⟩ : ∃ x, x = nth prog k := ⟨_, rfl⟩
      rw [← hx] at hxs hpo hpa hpz hps
      (repeat (first | ((with_reducible refine VC.mkL ?_ fun _ => ?_); · first | omega | exact True.intro | rfl) | ((with_reducible refine VC.mkD ?_ fun _ => ?_); · first | omega | exact True.intro | (intros; omega)) | ((with_reducible refine dEnd.mk ?_ ?_); · kernel_rfl) | (with_reducible refine adrZ.go ?_) | (simp [go_sem])))
      refine ALoop.start (ALoop.ind (α := Nat) (fun n => ⟨[(4, .ref 0 0 9 0 0), (8, .ref 2 0 2 0 0), (11, .ref 146 0 2 0 0), (12, encSs now), (13, encProg prog), (14, .v (.int .i64 k)), (15, .sl 148 (partS g now x n).length 8 0 (partS g now x n).length), (16, .v (.int .i64 n))],
          [(0, .rows true 0 9 [encGame g]), (2, .rows true 0 2 [[AV.nils, .v (.int .i64 0)]]), (142, .rows true k 1 (stR g p cell prog (k + 1))), (146, .rows true 0 2 [[.sl 142 k 1 0 (k + 1), .v (.int .i64 0)]]), (148, .rows true (partS g now x n).length 8 ((partS g now x n).map encState))], 149⟩)
        (fun d n => n + d = now.length) ?_ now.length 0 ?_) ?_ ?_
      · rintro d2 n n1 hrec2
        (repeat (first | ((with_reducible refine VC.mkL ?_ fun _ => ?_); · first | omega | exact True.intro | rfl) | ((with_reducible refine VC.mkD ?_ fun _ => ?_); · first | omega | exact True.intro | (intros; omega)) | ((with_reducible refine dEnd.mk ?_ ?_); · kernel_rfl) | (with_reducible refine adrZ.go ?_) | (simp [go_sem])))
        refine aIf.mkL (fun hn => ?_) (fun hn => ?_) <;> simp at hn
        · have hsn := hkk.1 _ (nth_mem hn)
          have hpn := hps n hn
          have hpoN := hpo n (by omega)
          have hpoS := hpo (n + 1) (by omega)
          have hSt := R5Step_pure g hg (nth now n) hsn.1 x hxs
          have hsl := stepS_len hg (nth now n) x
          have hso := stepS_ok hg hsn.1 hxs
          have hAd := R5add_owns (partS g now x n) (stepS g (nth now n) x) (by omega) (fun s hs => (hpoN.1 s hs).1.p.fits hg) (fun s hs => (hso s hs).1.p.fits hg)
          rw [← hpn] at hAd
          (repeat (first | ((with_reducible refine VC.mkL ?_ fun _ => ?_); · first | omega | exact True.intro | rfl) | ((with_reducible refine VC.mkD ?_ fun _ => ?_); · first | omega | exact True.intro | (intros; omega)) | ((with_reducible refine dEnd.mk ?_ ?_); · kernel_rfl) | (with_reducible refine adrZ.go ?_) | (simp [go_sem, hn, hk, ← hx])))
          try ((with_reducible refine adrZ.go ?_); (try simp [go_sem]))
          refine dCall.plain hSt (by simp [go_sem]) ?_
          (repeat (first | ((with_reducible refine VC.mkL ?_ fun _ => ?_); · first | omega | exact True.intro | rfl) | ((with_reducible refine VC.mkD ?_ fun _ => ?_); · first | omega | exact True.intro | (intros; omega)) | ((with_reducible refine dEnd.mk ?_ ?_); · kernel_rfl) | (with_reducible refine adrZ.go ?_) | (simp [go_sem])))
          try ((with_reducible refine adrZ.go ?_); (try simp [go_sem]))
          refine dCall.own1 (o := 148) hAd rfl (of_eq_true bel_St) (of_eq_true bel_St) (fun _ => .cons (.sl rfl) (.cons (.same (bel_encSs _)) .nil)) (by simp [go_sem]) (fun n₁ hn₁ => by simp [go_sem, hn₁]) (fun _ => .sl rfl) (.inr ⟨_, _, _, _, rfl⟩) ?_
          (repeat (first | ((with_reducible refine VC.mkL ?_ fun _ => ?_); · first | omega | exact True.intro | rfl) | ((with_reducible refine VC.mkD ?_ fun _ => ?_); · first | omega | exact True.intro | (intros; omega)) | ((with_reducible refine dEnd.mk ?_ ?_); · kernel_rfl) | (with_reducible refine adrZ.go ?_) | (simp [go_sem])))
          refine ALoop.start (hrec2 (d2 - 1) (by omega) (n + 1) (by omega)) ?_ (by simp)
          simp [go_sem, Wk_eq]
        · have hnl : n = now.length := by omega
          subst hnl
          rw [hpa]
          (repeat (first | ((with_reducible refine VC.mkL ?_ fun _ => ?_); · first | omega | exact True.intro | rfl) | ((with_reducible refine VC.mkD ?_ fun _ => ?_); · first | omega | exact True.intro | (intros; omega)) | ((with_reducible refine dEnd.mk ?_ ?_); · kernel_rfl) | (with_reducible refine adrZ.go ?_) | (simp [go_sem])))
          have hRk := hR (k + 1)
          refine ALoop.start (hrec (d - 1) (by omega) (k + 1) (by omega)) ?_ (by simp)
          simp [go_sem, Wk_eq, hRk]
          refine ⟨?_, leRows_append (.refl _) (.cons (.cons ?_ .nil) .nil)⟩ <;> (refine leV_frz rfl (by simp) (by simp [noH, upd]) ?_; first | (simp [go_sem]; done) | (simp [go_sem]; exact List.take_of_length_le (by simp)))
      · omega
      · simp [go_sem, Wk_eq, hpz]
      · simp
    · have hkl' : k = prog.length := by omega
      subst hkl'
      (repeat (first | ((with_reducible refine VC.mkL ?_ fun _ => ?_); · first | omega | exact True.intro | rfl) | ((with_reducible refine VC.mkD ?_ fun _ => ?_); · first | omega | exact True.intro | (intros; omega)) | ((with_reducible refine dEnd.mk ?_ ?_); · kernel_rfl) | (with_reducible refine adrZ.go ?_) | (simp [go_sem])))
      exact leV_frz rfl (by rw [stR_len]; omega) (by simp [noH, upd]) (by rw [List.drop_zero, List.take_of_length_le (by rw [stR_len]; omega)])
  · omega
  · simp [go_sem, Wk_eq, hR0]
    rw [show AV.lst 8 (List.map encState (stageS g p cell prog 0)) = _ from hst0]
    refine ⟨?_, ?_⟩
    · ((refine LeV.frz rfl (by simp) (by simp [noH, upd]) ?_); (try simp only [List.drop_zero, List.take_succ_cons, List.take_zero, List.map_cons, List.map_nil]); (repeat (first | (with_reducible exact LeRows.nil) | (with_reducible refine LeRows.cons ?_ ?_) | (with_reducible exact LeRow.nil) | (with_reducible refine LeRow.cons ?_ ?_) | (with_reducible exact LeV.refl _) | (refine leV_frz rfl (by simp) (by simp [noH, upd]) ?_; first | (simp [go_sem]; done) | (simp [go_sem]; exact List.take_of_length_le (by simp))))))
    · ((refine LeV.frz rfl (by simp) (by simp [noH, upd]) ?_); (try simp only [List.drop_zero, List.take_succ_cons, List.take_zero, List.map_cons, List.map_nil]); (repeat (first | (with_reducible exact LeRows.nil) | (with_reducible refine LeRows.cons ?_ ?_) | (with_reducible exact LeRow.nil) | (with_reducible refine LeRow.cons ?_ ?_) | (with_reducible exact LeV.refl _) | (refine leV_frz rfl (by simp) (by simp [noH, upd]) ?_; first | (simp [go_sem]; done) | (simp [go_sem]; exact List.take_of_length_le (by simp))))))
  · simp
end Go.Av
end
section
set_option linter.unusedSimpArgs false
set_option linter.unusedVariables false
open Go Go.Proofs
set_option maxRecDepth 20000
set_option maxHeartbeats 4000000
namespace Go.Av
theorem R5Less_pure (a b : OutD) (ha : FitsP a.pos) (hb : FitsP b.pos) : Pure Try.prog 173 [.agg (encOut a), .agg (encOut b)] (.v (.bool (lessO a b))) := by
  refine Pure.of (ACallP.of_awp (by kernel_rfl) Try.func173 rfl rfl (Nat.le_of_ble_eq_true rfl) (by kernel_rfl) ?_)
  have hC := Compare_pure _ _ ha hb
  unfold lessO
  obtain ⟨pa, ta⟩ := a
  obtain ⟨pb, tb⟩ := b
  simp only at hC ⊢
  generalize cmpP pa pb = c at *
  (repeat (first | ((with_reducible refine VC.mkL ?_ fun _ => ?_); · first | omega | exact True.intro | rfl) | ((with_reducible refine VC.mkD ?_ fun _ => ?_); · first | omega | exact True.intro | (intros; omega)) | ((with_reducible refine dEnd.mk ?_ ?_); · kernel_rfl) | (with_reducible refine adrZ.go ?_) | (simp [go_sem])))
  refine ACallP.plain hC (by simp [go_sem]) ?_
  by_cases c1 : c < 0
  · (repeat (first | ((with_reducible refine VC.mkL ?_ fun _ => ?_); · first | omega | exact True.intro | rfl) | ((with_reducible refine VC.mkD ?_ fun _ => ?_); · first | omega | exact True.intro | (intros; omega)) | ((with_reducible refine dEnd.mk ?_ ?_); · kernel_rfl) | (with_reducible refine adrZ.go ?_) | (simp [go_sem, c1])))
  · by_cases c2 : c = 0
    · subst c2
      cases ta <;> cases tb <;> (repeat (first | ((with_reducible refine VC.mkL ?_ fun _ => ?_); · first | omega | exact True.intro | rfl) | ((with_reducible refine VC.mkD ?_ fun _ => ?_); · first | omega | exact True.intro | (intros; omega)) | ((with_reducible refine dEnd.mk ?_ ?_); · kernel_rfl) | (with_reducible refine adrZ.go ?_) | (simp [go_sem])))
    · cases ta <;> cases tb <;> (repeat (first | ((with_reducible refine VC.mkL ?_ fun _ => ?_); · first | omega | exact True.intro | rfl) | ((with_reducible refine VC.mkD ?_ fun _ => ?_); · first | omega | exact True.intro | (intros; omega)) | ((with_reducible refine dEnd.mk ?_ ?_); · kernel_rfl) | (with_reducible refine adrZ.go ?_) | (simp [go_sem, c1, c2])))
def insAt (x : OutD) (l : List OutD) (dn : Bool) : List OutD := if dn then l else insertO x l
theorem R5Insert_pure (l : List OutD) (x : OutD) (hl : l.length ≤ 17179869184) (h1 : ∀ o ∈ l, FitsP o.pos) (h2 : FitsP x.pos) : Pure Try.prog 165 [encOs l, .agg (encOut x)] (encOs (insertO x l)) := by
  refine Pure.of (ACallP.of_awp (by kernel_rfl) Try.func165 rfl rfl (Nat.le_of_ble_eq_true rfl) (by kernel_rfl) ?_)
  obtain ⟨R, hR⟩ : ∃ R, R = insertO x l := ⟨_, rfl⟩
  rw [← hR]
  (repeat (first | ((with_reducible refine VC.mkL ?_ fun _ => ?_); · first | omega | exact True.intro | rfl) | ((with_reducible refine VC.mkD ?_ fun _ => ?_); · first | omega | exact True.intro | (intros; omega)) | ((with_reducible refine dEnd.mk ?_ ?_); · kernel_rfl) | (with_reducible refine adrZ.go ?_) | (simp [go_sem])))
  refine ALoop.start (ALoop.ind (α := Nat × List OutD × Bool) (fun a => ⟨[(0, encOs l), (3, .ref 0 0 6 0 0), (5, .sl 1 a.2.1.length 6 0 a.2.1.length), (6, .v (.bool a.2.2)), (7, .v (.int .i64 a.1))], [(0, .rows true 0 6 [encOut x]), (1, .rows true a.2.1.length 6 (a.2.1.map encOut))], 2⟩)
    (fun d a => a.1 + d = l.length ∧ a.2.1.length ≤ a.1 + a.2.2.toNat ∧ R = a.2.1 ++ insAt x (l.drop a.1) a.2.2) ?_ l.length (0, [], false) ?_) ?_ ?_
  · rintro d ⟨i, out, dn⟩ ⟨i1, i2, i3⟩ hrec
    simp only at i1 i2 i3
    (repeat (first | ((with_reducible refine VC.mkL ?_ fun _ => ?_); · first | omega | exact True.intro | rfl) | ((with_reducible refine VC.mkD ?_ fun _ => ?_); · first | omega | exact True.intro | (intros; omega)) | ((with_reducible refine dEnd.mk ?_ ?_); · kernel_rfl) | (with_reducible refine adrZ.go ?_) | (simp [go_sem])))
    refine aIf.mkL (fun hi => ?_) (fun hi => ?_) <;> simp at hi
    · have f1 := h1 _ (nth_mem hi)
      have hL1 := R5Less_pure (nth l i) x f1 h2
      have hL2 := R5Less_pure x (nth l i) h2 f1
      rw [dropG_cons hi] at i3
      cases dn
      · simp only [insAt, insertO] at i3
        simp only [Bool.toNat_false] at i2
        (repeat (first | ((with_reducible refine VC.mkL ?_ fun _ => ?_); · first | omega | exact True.intro | rfl) | ((with_reducible refine VC.mkD ?_ fun _ => ?_); · first | omega | exact True.intro | (intros; omega)) | ((with_reducible refine dEnd.mk ?_ ?_); · kernel_rfl) | (with_reducible refine adrZ.go ?_) | (simp [go_sem, hi])))
        try ((with_reducible refine adrZ.go ?_); (try simp [go_sem]))
        refine dGC.plain _ (fun _ => hL1) (by simp [go_sem]) ?_
        (repeat (first | ((with_reducible refine VC.mkL ?_ fun _ => ?_); · first | omega | exact True.intro | rfl) | ((with_reducible refine VC.mkD ?_ fun _ => ?_); · first | omega | exact True.intro | (intros; omega)) | ((with_reducible refine dEnd.mk ?_ ?_); · kernel_rfl) | (with_reducible refine adrZ.go ?_) | (simp [go_sem, hi])))
        by_cases l1 : lessO (nth l i) x = true
        · rw [if_pos l1] at i3
          (repeat (first | ((with_reducible refine VC.mkL ?_ fun _ => ?_); · first | omega | exact True.intro | rfl) | ((with_reducible refine VC.mkD ?_ fun _ => ?_); · first | omega | exact True.intro | (intros; omega)) | ((with_reducible refine dEnd.mk ?_ ?_); · kernel_rfl) | (with_reducible refine adrZ.go ?_) | (simp [go_sem, hi, l1])))
          refine ALoop.start (hrec (d - 1) (by omega) (i + 1, out ++ [nth l i], false) ⟨by simp only; omega, by simp; omega, by simpa [insAt] using i3⟩) ?_ (by simp)
          simp [go_sem, Wk_eq]
        · rw [if_neg l1] at i3
          (repeat (first | ((with_reducible refine VC.mkL ?_ fun _ => ?_); · first | omega | exact True.intro | rfl) | ((with_reducible refine VC.mkD ?_ fun _ => ?_); · first | omega | exact True.intro | (intros; omega)) | ((with_reducible refine dEnd.mk ?_ ?_); · kernel_rfl) | (with_reducible refine adrZ.go ?_) | (simp [go_sem, hi, l1])))
          try ((with_reducible refine adrZ.go ?_); (try simp [go_sem]))
          refine dCall.plain hL2 (by simp [go_sem]) ?_
          (repeat (first | ((with_reducible refine VC.mkL ?_ fun _ => ?_); · first | omega | exact True.intro | rfl) | ((with_reducible refine VC.mkD ?_ fun _ => ?_); · first | omega | exact True.intro | (intros; omega)) | ((with_reducible refine dEnd.mk ?_ ?_); · kernel_rfl) | (with_reducible refine adrZ.go ?_) | (simp [go_sem, hi])))
          by_cases l2 : lessO x (nth l i) = true
          · rw [if_pos l2] at i3
            (repeat (first | ((with_reducible refine VC.mkL ?_ fun _ => ?_); · first | omega | exact True.intro | rfl) | ((with_reducible refine VC.mkD ?_ fun _ => ?_); · first | omega | exact True.intro | (intros; omega)) | ((with_reducible refine dEnd.mk ?_ ?_); · kernel_rfl) | (with_reducible refine adrZ.go ?_) | (simp [go_sem, hi, l2])))
            refine ALoop.start (hrec (d - 1) (by omega) (i + 1, out ++ [x] ++ [nth l i], true) ⟨by simp only; omega, by simp; omega, by simpa [insAt] using i3⟩) ?_ (by simp)
            simp [go_sem, Wk_eq]
          · rw [if_neg l2] at i3
            (repeat (first | ((with_reducible refine VC.mkL ?_ fun _ => ?_); · first | omega | exact True.intro | rfl) | ((with_reducible refine VC.mkD ?_ fun _ => ?_); · first | omega | exact True.intro | (intros; omega)) | ((with_reducible refine dEnd.mk ?_ ?_); · kernel_rfl) | (with_reducible refine adrZ.go ?_) | (simp [go_sem, hi, l2])))
            refine ALoop.start (hrec (d - 1) (by omega) (i + 1, out ++ [nth l i], true) ⟨by simp only; omega, by simp; omega, by simpa [insAt] using i3⟩) ?_ (by simp)
            simp [go_sem, Wk_eq]
      · simp only [insAt, if_true] at i3
        simp only [Bool.toNat_true] at i2
        (repeat (first | ((with_reducible refine VC.mkL ?_ fun _ => ?_); · first | omega | exact True.intro | rfl) | ((with_reducible refine VC.mkD ?_ fun _ => ?_); · first | omega | exact True.intro | (intros; omega)) | ((with_reducible refine dEnd.mk ?_ ?_); · kernel_rfl) | (with_reducible refine adrZ.go ?_) | (simp [go_sem, hi])))
        try ((with_reducible refine adrZ.go ?_); (try simp [go_sem]))
        refine dGC.skip (.v (.bool true)) ?_
        (repeat (first | ((with_reducible refine VC.mkL ?_ fun _ => ?_); · first | omega | exact True.intro | rfl) | ((with_reducible refine VC.mkD ?_ fun _ => ?_); · first | omega | exact True.intro | (intros; omega)) | ((with_reducible refine dEnd.mk ?_ ?_); · kernel_rfl) | (with_reducible refine adrZ.go ?_) | (simp [go_sem, hi])))
        refine ALoop.start (hrec (d - 1) (by omega) (i + 1, out ++ [nth l i], true) ⟨by simp only; omega, by simp; omega, by simpa [insAt] using i3⟩) ?_ (by simp)
        simp [go_sem, Wk_eq]
    · rw [List.drop_eq_nil_of_le hi] at i3
      cases dn
      · simp [insAt, insertO] at i3
        simp only [Bool.toNat_false] at i2
        (repeat (first | ((with_reducible refine VC.mkL ?_ fun _ => ?_); · first | omega | exact True.intro | rfl) | ((with_reducible refine VC.mkD ?_ fun _ => ?_); · first | omega | exact True.intro | (intros; omega)) | ((with_reducible refine dEnd.mk ?_ ?_); · kernel_rfl) | (with_reducible refine adrZ.go ?_) | (simp [go_sem])))
        rw [i3]
        (refine leV_frz rfl (by simp) (by simp [noH, upd]) ?_; first | (simp [go_sem]; done) | (simp [go_sem]; exact List.take_of_length_le (by simp)))
      · simp [insAt] at i3
        simp only [Bool.toNat_true] at i2
        (repeat (first | ((with_reducible refine VC.mkL ?_ fun _ => ?_); · first | omega | exact True.intro | rfl) | ((with_reducible refine VC.mkD ?_ fun _ => ?_); · first | omega | exact True.intro | (intros; omega)) | ((with_reducible refine dEnd.mk ?_ ?_); · kernel_rfl) | (with_reducible refine adrZ.go ?_) | (simp [go_sem])))
        rw [i3]
        (refine leV_frz rfl (by simp) (by simp [noH, upd]) ?_; first | (simp [go_sem]; done) | (simp [go_sem]; exact List.take_of_length_le (by simp)))
  · simp [insAt, hR]
  · simp [go_sem, Wk_eq]
  · simp
end Go.Av
end
section
set_option linter.unusedSimpArgs false
set_option linter.unusedVariables false
open Go Go.Proofs
set_option maxRecDepth 20000
set_option maxHeartbeats 4000000
namespace Go.Av
theorem R4Same_pure (a b : PosD) (ha : FitsP a) (hb : FitsP b) : Pure Try.prog 53 [.agg (encPos a), .agg (encPos b)] (.v (.bool (decide (cmpP a b = 0)))) := by
  refine Pure.of (ACallP.of_awp (by kernel_rfl) Try.func53 rfl rfl (Nat.le_of_ble_eq_true rfl) (by kernel_rfl) ?_)
  (repeat (first | ((with_reducible refine VC.mkL ?_ fun _ => ?_); · first | omega | exact True.intro | rfl) | ((with_reducible refine VC.mkD ?_ fun _ => ?_); · first | omega | exact True.intro | (intros; omega)) | ((with_reducible refine dEnd.mk ?_ ?_); · kernel_rfl) | (with_reducible refine adrZ.go ?_) | (simp [go_sem])))
  refine ACallP.plain (Compare_pure a b ha hb) (by simp [go_sem]) ?_
  (repeat (first | ((with_reducible refine VC.mkL ?_ fun _ => ?_); · first | omega | exact True.intro | rfl) | ((with_reducible refine VC.mkD ?_ fun _ => ?_); · first | omega | exact True.intro | (intros; omega)) | ((with_reducible refine dEnd.mk ?_ ?_); · kernel_rfl) | (with_reducible refine adrZ.go ?_) | (simp [go_sem])))
attribute [go_sem ↓] bel_P bel_I List.forall_mem_append
theorem bel1 {x : AV} (h : Bel 0 x) : ∀ c ∈ [x], Bel 0 c := by simpa using h
theorem bel_encPs {n : Nat} (l : List PosD) : Bel n (encPs l) := of_eq_true bel_Ps
theorem half_pure : ∀ (f : Nat) (l : List PosD), l.length ≤ f + 1 → l.length ≤ 68719476736 → (∀ p ∈ l, FitsP p) → Pure Try.prog 145 [encPs l] (encPs (sortC cmpP l)) := by
  intro f
  induction f with
  | zero =>
    intro l h1 h2 h3
    rw [sortC_short (by omega)]
    refine Pure.of (ACallP.of_awp (by kernel_rfl) Try.func145 rfl rfl (Nat.le_of_ble_eq_true rfl) (by kernel_rfl) ?_)
    (repeat (first | ((with_reducible refine VC.mkL ?_ fun _ => ?_); · first | omega | exact True.intro | rfl) | ((with_reducible refine VC.mkD ?_ fun _ => ?_); · first | omega | exact True.intro | (intros; omega)) | ((with_reducible refine dEnd.mk ?_ ?_); · kernel_rfl) | (with_reducible refine adrZ.go ?_) | (simp [go_sem])))
    (refine aIf.mkL (fun hT => ?_) (fun hT => by first | omega | (simp at hT; omega)); clear hT)
    (repeat (first | ((with_reducible refine VC.mkL ?_ fun _ => ?_); · first | omega | exact True.intro | rfl) | ((with_reducible refine VC.mkD ?_ fun _ => ?_); · first | omega | exact True.intro | (intros; omega)) | ((with_reducible refine dEnd.mk ?_ ?_); · kernel_rfl) | (with_reducible refine adrZ.go ?_) | (simp [go_sem])))
  | succ f ih =>
    intro l h1 h2 h3
    by_cases hs : l.length < 2
    · rw [sortC_short hs]
      refine Pure.of (ACallP.of_awp (by kernel_rfl) Try.func145 rfl rfl (Nat.le_of_ble_eq_true rfl) (by kernel_rfl) ?_)
      (repeat (first | ((with_reducible refine VC.mkL ?_ fun _ => ?_); · first | omega | exact True.intro | rfl) | ((with_reducible refine VC.mkD ?_ fun _ => ?_); · first | omega | exact True.intro | (intros; omega)) | ((with_reducible refine dEnd.mk ?_ ?_); · kernel_rfl) | (with_reducible refine adrZ.go ?_) | (simp [go_sem])))
      (refine aIf.mkL (fun hT => ?_) (fun hT => by first | omega | (simp at hT; omega)); clear hT)
      (repeat (first | ((with_reducible refine VC.mkL ?_ fun _ => ?_); · first | omega | exact True.intro | rfl) | ((with_reducible refine VC.mkD ?_ fun _ => ?_); · first | omega | exact True.intro | (intros; omega)) | ((with_reducible refine dEnd.mk ?_ ?_); · kernel_rfl) | (with_reducible refine adrZ.go ?_) | (simp [go_sem])))
    · have hm := sortC_merge cmp_pos (l.take (l.length / 2)) (l.drop (l.length / 2))
      rw [List.take_append_drop] at hm
      have hA := ih (l.take (l.length / 2)) (by simp; omega) (by simp; omega) (fun p hp => h3 p (List.mem_of_mem_take hp))
      have hB := ih (l.drop (l.length / 2)) (by simp; omega) (by simp; omega) (fun p hp => h3 p (List.mem_of_mem_drop hp))
      have fA : ∀ p ∈ sortC cmpP (l.take (l.length / 2)), FitsP p := fun p hp => h3 p (List.mem_of_mem_take (sortC_mem.1 hp))
      have fB : ∀ p ∈ sortC cmpP (l.drop (l.length / 2)), FitsP p := fun p hp => h3 p (List.mem_of_mem_drop (sortC_mem.1 hp))
      have lA : (sortC cmpP (l.take (l.length / 2))).length = l.length / 2 := by rw [sortC_len]; simp; omega
      have lB : (sortC cmpP (l.drop (l.length / 2))).length = l.length - l.length / 2 := by rw [sortC_len]; simp
      rw [← hm]
      generalize sortC cmpP (l.take (l.length / 2)) = xs at *
      generalize sortC cmpP (l.drop (l.length / 2)) = ys at *
      have hq : ((l.length : Int) / 2).toNat = l.length / 2 := by omega
      have eA : AV.lst 5 (List.take (l.length / 2) (l.map encPos)) = encPs (l.take (l.length / 2)) := by simp [encPs, List.map_take]
      have eB : AV.lst 5 (List.take (l.length - l.length / 2) (List.drop (l.length / 2) (l.map encPos))) = encPs (l.drop (l.length / 2)) := by rw [List.take_of_length_le (by simp)]; simp [encPs, List.map_drop]
      generalize hR : List.merge xs ys (leC cmpP) = R
      refine Pure.of (ACallP.of_awp (by kernel_rfl) Try.func145 rfl rfl (Nat.le_of_ble_eq_true rfl) (by kernel_rfl) ?_)
      (repeat (first | ((with_reducible refine VC.mkL ?_ fun _ => ?_); · first | omega | exact True.intro | rfl) | ((with_reducible refine VC.mkD ?_ fun _ => ?_); · first | omega | exact True.intro | (intros; omega)) | ((with_reducible refine dEnd.mk ?_ ?_); · kernel_rfl) | (with_reducible refine adrZ.go ?_) | (simp [go_sem])))
      (refine aIf.mkL (fun hF => by first | omega | (simp at hF; omega)) (fun hF => ?_); clear hF)
      (repeat (first | ((with_reducible refine VC.mkL ?_ fun _ => ?_); · first | omega | exact True.intro | rfl) | ((with_reducible refine VC.mkD ?_ fun _ => ?_); · first | omega | exact True.intro | (intros; omega)) | ((with_reducible refine dEnd.mk ?_ ?_); · kernel_rfl) | (with_reducible refine adrZ.go ?_) | (simp [go_sem, hq])))
      rw [eA]
      refine ACallP.plain hA (bel1 (bel_encPs _)) ?_
      (repeat (first | ((with_reducible refine VC.mkL ?_ fun _ => ?_); · first | omega | exact True.intro | rfl) | ((with_reducible refine VC.mkD ?_ fun _ => ?_); · first | omega | exact True.intro | (intros; omega)) | ((with_reducible refine dEnd.mk ?_ ?_); · kernel_rfl) | (with_reducible refine adrZ.go ?_) | (simp [go_sem, hq])))
      rw [eB]
      refine ACallP.plain hB (bel1 (bel_encPs _)) ?_
      (repeat (first | ((with_reducible refine VC.mkL ?_ fun _ => ?_); · first | omega | exact True.intro | rfl) | ((with_reducible refine VC.mkD ?_ fun _ => ?_); · first | omega | exact True.intro | (intros; omega)) | ((with_reducible refine dEnd.mk ?_ ?_); · kernel_rfl) | (with_reducible refine adrZ.go ?_) | (simp [go_sem, hq])))
      refine ALoop.start (ALoop.ind (α := Nat × Nat × List PosD) (fun a => ⟨[(3, encPs xs), (4, encPs ys), (5, .sl 0 a.2.2.length 5 0 a.2.2.length), (6, .v (.int .i64 a.1)), (7, .v (.int .i64 a.2.1))], [(0, .rows true a.2.2.length 5 (a.2.2.map encPos))], 1⟩)
        (fun d a => a.1 + a.2.1 + d = xs.length + ys.length ∧ a.1 ≤ xs.length ∧ a.2.1 ≤ ys.length ∧ a.2.2.length = a.1 + a.2.1 ∧ R = a.2.2 ++ List.merge (xs.drop a.1) (ys.drop a.2.1) (leC cmpP)) ?_ (xs.length + ys.length) (0, 0, []) ?_) ?_ ?_
      · rintro d ⟨i, k, out⟩ ⟨i1, i2, i3, i4, i5⟩ hrec
        simp only at i1 i2 i3 i4 i5
        (repeat (first | ((with_reducible refine VC.mkL ?_ fun _ => ?_); · first | omega | exact True.intro | rfl) | ((with_reducible refine VC.mkD ?_ fun _ => ?_); · first | omega | exact True.intro | (intros; omega)) | ((with_reducible refine dEnd.mk ?_ ?_); · kernel_rfl) | (with_reducible refine adrZ.go ?_) | (simp [go_sem])))
        refine aIf.mkL (fun hj => ?_) (fun hj => ?_) <;> simp at hj
        · by_cases hk : k < ys.length
          · by_cases hi : i < xs.length
            · have fa := fA _ (nth_mem hi)
              have fb := fB _ (nth_mem hk)
              rw [dropG_cons hi, dropG_cons hk, List.cons_merge_cons, ← dropG_cons hi, ← dropG_cons hk] at i5
              have hk' := Nat.not_le.2 hk
              (repeat (first | ((with_reducible refine VC.mkL ?_ fun _ => ?_); · first | omega | exact True.intro | rfl) | ((with_reducible refine VC.mkD ?_ fun _ => ?_); · first | omega | exact True.intro | (intros; omega)) | ((with_reducible refine dEnd.mk ?_ ?_); · kernel_rfl) | (with_reducible refine adrZ.go ?_) | (simp [go_sem, hk, hk', hi])))
              try ((with_reducible refine adrZ.go ?_); (try simp [go_sem]))
              refine dGC.plain _ (fun _ => Compare_pure _ _ fa fb) (by simp [go_sem]) ?_
              (repeat (first | ((with_reducible refine VC.mkL ?_ fun _ => ?_); · first | omega | exact True.intro | rfl) | ((with_reducible refine VC.mkD ?_ fun _ => ?_); · first | omega | exact True.intro | (intros; omega)) | ((with_reducible refine dEnd.mk ?_ ?_); · kernel_rfl) | (with_reducible refine adrZ.go ?_) | (simp [go_sem, hk, hk', hi])))
              refine aIf.mkL (fun hc => ?_) (fun hc => ?_) <;> simp at hc
              · rw [if_pos (by simpa [leC] using hc)] at i5
                (repeat (first | ((with_reducible refine VC.mkL ?_ fun _ => ?_); · first | omega | exact True.intro | rfl) | ((with_reducible refine VC.mkD ?_ fun _ => ?_); · first | omega | exact True.intro | (intros; omega)) | ((with_reducible refine dEnd.mk ?_ ?_); · kernel_rfl) | (with_reducible refine adrZ.go ?_) | (simp [go_sem, hk, hi])))
                refine ALoop.start (hrec (d - 1) (by omega) (i + 1, k, out ++ [nth xs i]) ⟨by simp only; omega, by simp only; omega, i3, by simp; omega, by simpa using i5⟩) ?_ (by simp)
                simp [go_sem, Wk_eq]
              · rw [if_neg (by simpa [leC] using hc)] at i5
                (repeat (first | ((with_reducible refine VC.mkL ?_ fun _ => ?_); · first | omega | exact True.intro | rfl) | ((with_reducible refine VC.mkD ?_ fun _ => ?_); · first | omega | exact True.intro | (intros; omega)) | ((with_reducible refine dEnd.mk ?_ ?_); · kernel_rfl) | (with_reducible refine adrZ.go ?_) | (simp [go_sem, hk, hi])))
                refine ALoop.start (hrec (d - 1) (by omega) (i, k + 1, out ++ [nth ys k]) ⟨by simp only; omega, i2, by simp only; omega, by simp; omega, by simpa using i5⟩) ?_ (by simp)
                simp [go_sem, Wk_eq]
            · rw [List.drop_eq_nil_of_le (show xs.length ≤ i by omega), List.nil_merge, dropG_cons hk] at i5
              have hk' := Nat.not_le.2 hk
              (repeat (first | ((with_reducible refine VC.mkL ?_ fun _ => ?_); · first | omega | exact True.intro | rfl) | ((with_reducible refine VC.mkD ?_ fun _ => ?_); · first | omega | exact True.intro | (intros; omega)) | ((with_reducible refine dEnd.mk ?_ ?_); · kernel_rfl) | (with_reducible refine adrZ.go ?_) | (simp [go_sem, hk, hk', hi])))
              try ((with_reducible refine adrZ.go ?_); (try simp [go_sem]))
              refine dGC.skip (.v (.int .i64 0)) ?_
              (repeat (first | ((with_reducible refine VC.mkL ?_ fun _ => ?_); · first | omega | exact True.intro | rfl) | ((with_reducible refine VC.mkD ?_ fun _ => ?_); · first | omega | exact True.intro | (intros; omega)) | ((with_reducible refine dEnd.mk ?_ ?_); · kernel_rfl) | (with_reducible refine adrZ.go ?_) | (simp [go_sem, hk, hk', hi])))
              refine ALoop.start (hrec (d - 1) (by omega) (i, k + 1, out ++ [nth ys k]) ⟨by simp only; omega, i2, by simp only; omega, by simp; omega, by simp [List.drop_eq_nil_of_le (show xs.length ≤ i by omega), i5]⟩) ?_ (by simp)
              simp [go_sem, Wk_eq]
          · have hi : i < xs.length := by omega
            rw [List.drop_eq_nil_of_le (show ys.length ≤ k by omega), List.merge_right, dropG_cons hi] at i5
            have hk' := Nat.not_lt.1 hk
            (repeat (first | ((with_reducible refine VC.mkL ?_ fun _ => ?_); · first | omega | exact True.intro | rfl) | ((with_reducible refine VC.mkD ?_ fun _ => ?_); · first | omega | exact True.intro | (intros; omega)) | ((with_reducible refine dEnd.mk ?_ ?_); · kernel_rfl) | (with_reducible refine adrZ.go ?_) | (simp [go_sem, hk, hk', hi])))
            try ((with_reducible refine adrZ.go ?_); (try simp [go_sem]))
            refine dGC.skip (.v (.int .i64 0)) ?_
            (repeat (first | ((with_reducible refine VC.mkL ?_ fun _ => ?_); · first | omega | exact True.intro | rfl) | ((with_reducible refine VC.mkD ?_ fun _ => ?_); · first | omega | exact True.intro | (intros; omega)) | ((with_reducible refine dEnd.mk ?_ ?_); · kernel_rfl) | (with_reducible refine adrZ.go ?_) | (simp [go_sem, hk, hk', hi])))
            refine ALoop.start (hrec (d - 1) (by omega) (i + 1, k, out ++ [nth xs i]) ⟨by simp only; omega, by simp only; omega, i3, by simp; omega, by simp [List.drop_eq_nil_of_le (show ys.length ≤ k by omega), i5]⟩) ?_ (by simp)
            simp [go_sem, Wk_eq]
        · rw [List.drop_eq_nil_of_le (show xs.length ≤ i by omega), List.drop_eq_nil_of_le (show ys.length ≤ k by omega)] at i5
          (repeat (first | ((with_reducible refine VC.mkL ?_ fun _ => ?_); · first | omega | exact True.intro | rfl) | ((with_reducible refine VC.mkD ?_ fun _ => ?_); · first | omega | exact True.intro | (intros; omega)) | ((with_reducible refine dEnd.mk ?_ ?_); · kernel_rfl) | (with_reducible refine adrZ.go ?_) | (simp [go_sem])))
          rw [i5]
          (refine leV_frz rfl (by simp) (by simp [noH, upd]) ?_; first | (simp [go_sem]; done) | (simp [go_sem]; exact List.take_of_length_le (by simp)))
      · simp [hR]
      · simp [go_sem, Wk_eq]
      · simp
end Go.Av
end
section
set_option linter.unusedSimpArgs false
set_option linter.unusedVariables false
open Go Go.Proofs
set_option maxRecDepth 20000
set_option maxHeartbeats 4000000
namespace Go.Av
def ddAt (all : List PosD) (i : Nat) : List PosD := if i = 0 then dedup all else dedupGo (nth all (i - 1)) (all.drop i)
theorem ddAt_zero (all : List PosD) : ddAt all 0 = dedup all := rfl
theorem ddAt_end {all : List PosD} {i : Nat} (h : all.length ≤ i) : ddAt all i = [] := by
  unfold ddAt
  split
  · cases all with
    | nil => rfl
    | cons a l => simp at h; omega
  · rw [List.drop_eq_nil_of_le h]; rfl
theorem ddAt_keep {all : List PosD} {i : Nat} (h : i < all.length) (hk : i = 0 ∨ nth all i ≠ nth all (i - 1)) : ddAt all i = nth all i :: ddAt all (i + 1) := by
  unfold ddAt
  rw [if_neg (show ¬ i + 1 = 0 by omega), Nat.add_sub_cancel]
  split
  · rename_i h0
    subst h0
    cases all with
    | nil => simp at h
    | cons a l => rfl
  · rw [dropG_cons h, dedupGo, if_neg (by rcases hk with h | h; omega; exact h)]
theorem ddAt_skip {all : List PosD} {i : Nat} (h : i < all.length) (hi : i ≠ 0) (hk : nth all i = nth all (i - 1)) : ddAt all i = ddAt all (i + 1) := by
  unfold ddAt
  rw [if_neg (show ¬ i + 1 = 0 by omega), Nat.add_sub_cancel, if_neg hi, dropG_cons h, dedupGo, if_pos hk, hk]
theorem R4Sort_pure (l : List PosD) (hl : l.length ≤ 68719476736) (hf : ∀ p ∈ l, FitsP p) : Pure Try.prog 119 [encPs l] (encPs (sortU cmpP l)) := by
  have hH := half_pure l.length l (by omega) hl hf
  unfold sortU
  have fA : ∀ p ∈ sortC cmpP l, FitsP p := fun p hp => hf p (sortC_mem.1 hp)
  have lA : (sortC cmpP l).length = l.length := sortC_len l
  generalize sortC cmpP l = all at *
  generalize hR : dedup all = R
  refine Pure.of (ACallP.of_awp (by kernel_rfl) Try.func119 rfl rfl (Nat.le_of_ble_eq_true rfl) (by kernel_rfl) ?_)
  (repeat (first | ((with_reducible refine VC.mkL ?_ fun _ => ?_); · first | omega | exact True.intro | rfl) | ((with_reducible refine VC.mkD ?_ fun _ => ?_); · first | omega | exact True.intro | (intros; omega)) | ((with_reducible refine dEnd.mk ?_ ?_); · kernel_rfl) | (with_reducible refine adrZ.go ?_) | (simp [go_sem])))
  refine ACallP.plain hH (bel1 (bel_encPs _)) ?_
  (repeat (first | ((with_reducible refine VC.mkL ?_ fun _ => ?_); · first | omega | exact True.intro | rfl) | ((with_reducible refine VC.mkD ?_ fun _ => ?_); · first | omega | exact True.intro | (intros; omega)) | ((with_reducible refine dEnd.mk ?_ ?_); · kernel_rfl) | (with_reducible refine adrZ.go ?_) | (simp [go_sem])))
  refine ALoop.start (ALoop.ind (α := Nat × List PosD) (fun a => ⟨[(3, encPs all), (4, .sl 0 a.2.length 5 0 a.2.length), (5, .v (.int .i64 a.1))], [(0, .rows true a.2.length 5 (a.2.map encPos))], 1⟩)
    (fun d a => a.1 + d = all.length ∧ a.2.length ≤ a.1 ∧ R = a.2 ++ ddAt all a.1) ?_ all.length (0, []) ?_) ?_ ?_
  · rintro d ⟨i, out⟩ ⟨i1, i2, i3⟩ hrec
    simp only at i1 i2 i3
    (repeat (first | ((with_reducible refine VC.mkL ?_ fun _ => ?_); · first | omega | exact True.intro | rfl) | ((with_reducible refine VC.mkD ?_ fun _ => ?_); · first | omega | exact True.intro | (intros; omega)) | ((with_reducible refine dEnd.mk ?_ ?_); · kernel_rfl) | (with_reducible refine adrZ.go ?_) | (simp [go_sem])))
    refine aIf.mkL (fun hi => ?_) (fun hi => ?_) <;> simp at hi
    · by_cases h0 : i = 0
      · rw [ddAt_keep hi (.inl h0)] at i3
        subst h0
        (repeat (first | ((with_reducible refine VC.mkL ?_ fun _ => ?_); · first | omega | exact True.intro | rfl) | ((with_reducible refine VC.mkD ?_ fun _ => ?_); · first | omega | exact True.intro | (intros; omega)) | ((with_reducible refine dEnd.mk ?_ ?_); · kernel_rfl) | (with_reducible refine adrZ.go ?_) | (simp [go_sem, hi])))
        try ((with_reducible refine adrZ.go ?_); (try simp [go_sem]))
        refine dGC.skip (.v (.bool true)) ?_
        (repeat (first | ((with_reducible refine VC.mkL ?_ fun _ => ?_); · first | omega | exact True.intro | rfl) | ((with_reducible refine VC.mkD ?_ fun _ => ?_); · first | omega | exact True.intro | (intros; omega)) | ((with_reducible refine dEnd.mk ?_ ?_); · kernel_rfl) | (with_reducible refine adrZ.go ?_) | (simp [go_sem, hi])))
        refine ALoop.start (hrec (d - 1) (by omega) (0 + 1, out ++ [nth all 0]) ⟨by simp only; omega, by simp only [List.length_append, List.length_singleton]; omega, by simpa using i3⟩) ?_ (by simp)
        simp [go_sem, Wk_eq]
      · have fa := fA _ (nth_mem hi)
        have hi' : i - 1 < all.length := by omega
        have e1 : ((i : Int) - 1).toNat = i - 1 := by omega
        have fb := fA _ (nth_mem hi')
        (repeat (first | ((with_reducible refine VC.mkL ?_ fun _ => ?_); · first | omega | exact True.intro | rfl) | ((with_reducible refine VC.mkD ?_ fun _ => ?_); · first | omega | exact True.intro | (intros; omega)) | ((with_reducible refine dEnd.mk ?_ ?_); · kernel_rfl) | (with_reducible refine adrZ.go ?_) | (simp [go_sem, hi, h0, e1, hi'])))
        try ((with_reducible refine adrZ.go ?_); (try simp [go_sem]))
        refine dGC.plain _ (fun _ => R4Same_pure _ _ fa fb) (by simp [go_sem]) ?_
        (repeat (first | ((with_reducible refine VC.mkL ?_ fun _ => ?_); · first | omega | exact True.intro | rfl) | ((with_reducible refine VC.mkD ?_ fun _ => ?_); · first | omega | exact True.intro | (intros; omega)) | ((with_reducible refine dEnd.mk ?_ ?_); · kernel_rfl) | (with_reducible refine adrZ.go ?_) | (simp [go_sem, hi, h0])))
        refine aIf.mkL (fun hc => ?_) (fun hc => ?_) <;> simp at hc
        · rw [cmpP_eq] at hc
          rw [ddAt_keep hi (.inr hc)] at i3
          (repeat (first | ((with_reducible refine VC.mkL ?_ fun _ => ?_); · first | omega | exact True.intro | rfl) | ((with_reducible refine VC.mkD ?_ fun _ => ?_); · first | omega | exact True.intro | (intros; omega)) | ((with_reducible refine dEnd.mk ?_ ?_); · kernel_rfl) | (with_reducible refine adrZ.go ?_) | (simp [go_sem, hi])))
          refine ALoop.start (hrec (d - 1) (by omega) (i + 1, out ++ [nth all i]) ⟨by simp only; omega, by simp; omega, by simpa using i3⟩) ?_ (by simp)
          simp [go_sem, Wk_eq]
        · rw [cmpP_eq] at hc
          rw [ddAt_skip hi h0 hc] at i3
          (repeat (first | ((with_reducible refine VC.mkL ?_ fun _ => ?_); · first | omega | exact True.intro | rfl) | ((with_reducible refine VC.mkD ?_ fun _ => ?_); · first | omega | exact True.intro | (intros; omega)) | ((with_reducible refine dEnd.mk ?_ ?_); · kernel_rfl) | (with_reducible refine adrZ.go ?_) | (simp [go_sem, hi])))
          refine ALoop.start (hrec (d - 1) (by omega) (i + 1, out) ⟨by simp only; omega, by simp only; omega, i3⟩) ?_ (by simp)
          simp [go_sem, Wk_eq]
    · rw [ddAt_end hi] at i3
      (repeat (first | ((with_reducible refine VC.mkL ?_ fun _ => ?_); · first | omega | exact True.intro | rfl) | ((with_reducible refine VC.mkD ?_ fun _ => ?_); · first | omega | exact True.intro | (intros; omega)) | ((with_reducible refine dEnd.mk ?_ ?_); · kernel_rfl) | (with_reducible refine adrZ.go ?_) | (simp [go_sem])))
      rw [i3]
      (refine leV_frz rfl (by simp) (by simp [noH, upd]) ?_; first | (simp [go_sem]; done) | (simp [go_sem]; exact List.take_of_length_le (by simp)))
  · simp [hR, ddAt_zero]
  · simp [go_sem, Wk_eq]
  · simp
end Go.Av
end
