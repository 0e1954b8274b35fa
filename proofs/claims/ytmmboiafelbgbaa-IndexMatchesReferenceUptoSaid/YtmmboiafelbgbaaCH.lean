/- Contracts, part 17: the reference's At of chapter 14. -/
import Derived.Test.YtmmboiafelbgbaaCF
set_option linter.unusedSimpArgs false
set_option linter.unusedVariables false
open Go Go.Proofs
set_option maxRecDepth 20000
set_option maxHeartbeats 4000000
namespace Go.Av
theorem At14_pure (g : GameD) (hg : FitsG g) (hr : FitsR g) (hc0 : 0 ≤ g.cells) (h64 : g.cells ≤ 64) (hk : g.kinds.length ≤ 400) (m : PosD) (hm : m.at_.length ≤ 9223372036854775807) (h0 : Fits m.h0) (h1 : Fits m.h1) (i : Int) :
    Pure Try.prog 34 [.agg (encGame g), .agg (encPos m), .v (.int .i64 i)] (.tup [.agg (encPos (atOf g m i).1), .v (.int .i64 (atOf g m i).2)]) := by
  refine Pure.of (ACallP.of_awp (by kernel_rfl) Try.func34 rfl rfl (Nat.le_of_ble_eq_true rfl) (by kernel_rfl) ?_)
  (repeat (first | ((with_reducible refine VC.mkL ?_ fun _ => ?_); · first | omega | exact True.intro | rfl) | ((with_reducible refine VC.mkD ?_ fun _ => ?_); · first | omega | exact True.intro | (intros; omega)) | ((with_reducible refine dEnd.mk ?_ ?_); · kernel_rfl) | (simp [go_sem])))
  refine ACallP.plain (Size14_pure g hg hr hc0 h64 hk m hm h0 h1) (by simp [go_sem]) ?_
  (repeat (first | ((with_reducible refine VC.mkL ?_ fun _ => ?_); · first | omega | exact True.intro | rfl) | ((with_reducible refine VC.mkD ?_ fun _ => ?_); · first | omega | exact True.intro | (intros; omega)) | ((with_reducible refine dEnd.mk ?_ ?_); · kernel_rfl) | (simp [go_sem])))
  refine aIf.mkL (fun hs => ?_) (fun hs => ?_) <;> simp at hs
  · have e : atOf g m i = (zeroP, (sizeOf_ g m).2) := by unfold atOf; rw [if_pos hs]
    rw [e]
    (repeat (first | ((with_reducible refine VC.mkL ?_ fun _ => ?_); · first | omega | exact True.intro | rfl) | ((with_reducible refine VC.mkD ?_ fun _ => ?_); · first | omega | exact True.intro | (intros; omega)) | ((with_reducible refine dEnd.mk ?_ ?_); · kernel_rfl) | (simp [go_sem, zeroP])))
  · obtain ⟨hmo, hsz⟩ := sizeOf_ok hs
    have hwb := ways_bound m.at_
    obtain ⟨f1, f2, f3⟩ := matOk_facts hmo hc0
    (repeat (first | ((with_reducible refine VC.mkL ?_ fun _ => ?_); · first | omega | exact True.intro | rfl) | ((with_reducible refine VC.mkD ?_ fun _ => ?_); · first | omega | exact True.intro | (intros; omega)) | ((with_reducible refine dEnd.mk ?_ ?_); · kernel_rfl) | (simp [go_sem])))
    refine aIf.mkL (fun hi => ?_) (fun hi => ?_) <;> simp at hi
    · have e : atOf g m i = (zeroP, 140) := by unfold atOf; rw [if_neg (by simp [hs]), if_pos hi]
      rw [e]
      (repeat (first | ((with_reducible refine VC.mkL ?_ fun _ => ?_); · first | omega | exact True.intro | rfl) | ((with_reducible refine VC.mkD ?_ fun _ => ?_); · first | omega | exact True.intro | (intros; omega)) | ((with_reducible refine dEnd.mk ?_ ?_); · kernel_rfl) | (simp [go_sem, zeroP])))
    · have e : atOf g m i = ({ m with at_ := atL g.cells.toNat m.at_ i }, 0) := by unfold atOf; rw [if_neg (by simp [hs]), if_neg (by omega)]
      rw [e]
      (repeat (first | ((with_reducible refine VC.mkL ?_ fun _ => ?_); · first | omega | exact True.intro | rfl) | ((with_reducible refine VC.mkD ?_ fun _ => ?_); · first | omega | exact True.intro | (intros; omega)) | ((with_reducible refine dEnd.mk ?_ ?_); · kernel_rfl) | (simp [go_sem])))
      refine ACallP.owns (args' := [.agg (encPos { m with at_ := [] })]) _ (Copied_owns { m with at_ := [] } ⟨by unfold Fits; simp, h0, h1⟩) (.refl _) ?_ (by simp [go_sem]) ?_
      · simp only [encPos, encIs, List.map_nil, List.nil_append, List.append_nil]
        exact LeRow.cons (LeV.agg (LeRow.cons (LeV.nil 1) (.refl _ _ _ _))) LeRow.nil
      (repeat (first | ((with_reducible refine VC.mkL ?_ fun _ => ?_); · first | omega | exact True.intro | rfl) | ((with_reducible refine VC.mkD ?_ fun _ => ?_); · first | omega | exact True.intro | (intros; omega)) | ((with_reducible refine dEnd.mk ?_ ?_); · kernel_rfl) | (simp [go_sem])))
      generalize hK : m.at_.length = K at *
      refine ALoop.start (ALoop.ind (α := Nat × Int × List Int × List Int) (fun a => ⟨[(2, .v (.int .i64 a.2.1)), (3, .ref 0 0 9 0 0), (6, .ref 2 0 5 0 0), (10, .sl 3 1 1 0 K), (11, .ref 15 0 5 0 0), (12, .v (.int .i64 a.1))],
          [(0, .rows true 0 9 [encGame g]), (2, .rows true 0 5 [[.v (.slice none 0 0), .v (.slice none 0 0), .v (.slice none 0 0), .v (.int .i64 0), .v (.int .i64 0)]]),
           (3, .rows true 1 1 (a.2.2.1.map encI)), (8, .rows true (1 + a.2.2.2.length) 1 (a.2.2.2.map encI)), (9, .rows true 1 1 (m.h0.map encI)), (14, .rows true 1 1 (m.h1.map encI)),
           (15, .rows true 0 5 [[.sl 8 (1 + a.2.2.2.length) 1 0 a.2.2.2.length, .sl 9 1 1 0 m.h0.length, .sl 14 1 1 0 m.h1.length, .v (.int .i64 m.rights), .v (.int .i64 m.side)]])], 16⟩)
        (fun d a => a.1 + d = g.cells.toNat ∧ 0 ≤ a.2.1 ∧ a.2.1 ≤ 1099511627777 ∧ a.2.2.1.length = K ∧ (∀ x ∈ a.2.2.1, 0 ≤ x ∧ x ≤ 1000) ∧ (toN a.2.2.1).sum ≤ 64 ∧ a.2.2.2 ++ atL d a.2.2.1 a.2.1 = atL g.cells.toNat m.at_ i ∧ a.2.2.2.length ≤ a.1) ?_ g.cells.toNat (0, i, m.at_, []) ?_) ?_ ?_
      · rintro d ⟨c, i0, men, out⟩ ⟨i1, i2, i3, i4, i5, is, i6, i7⟩ hrec
        simp only at i1 i2 i3 i4 i5 is i6 i7
        (repeat (first | ((with_reducible refine VC.mkL ?_ fun _ => ?_); · first | omega | exact True.intro | rfl) | ((with_reducible refine VC.mkD ?_ fun _ => ?_); · first | omega | exact True.intro | (intros; omega)) | ((with_reducible refine dEnd.mk ?_ ?_); · kernel_rfl) | (simp [go_sem])))
        refine aIf.mkL (fun hc => ?_) (fun hc => ?_) <;> simp at hc
        · obtain ⟨d, rfl⟩ : ∃ d', d = d' + 1 := ⟨d - 1, by omega⟩
          rw [atL, i4] at i6
          (repeat (first | ((with_reducible refine VC.mkL ?_ fun _ => ?_); · first | omega | exact True.intro | rfl) | ((with_reducible refine VC.mkD ?_ fun _ => ?_); · first | omega | exact True.intro | (intros; omega)) | ((with_reducible refine dEnd.mk ?_ ?_); · kernel_rfl) | (simp [go_sem])))
          refine ALoop.start (ALoop.ind (α := Nat × Int) (fun a => ⟨[(2, .v (.int .i64 a.2)), (3, .ref 0 0 9 0 0), (6, .ref 2 0 5 0 0), (10, .sl 3 1 1 0 K), (11, .ref 15 0 5 0 0), (12, .v (.int .i64 c)), (13, .v (.int .i64 a.1))],
              [(0, .rows true 0 9 [encGame g]), (2, .rows true 0 5 [[.v (.slice none 0 0), .v (.slice none 0 0), .v (.slice none 0 0), .v (.int .i64 0), .v (.int .i64 0)]]),
               (3, .rows true 1 1 (men.map encI)), (8, .rows true (1 + out.length) 1 (out.map encI)), (9, .rows true 1 1 (m.h0.map encI)), (14, .rows true 1 1 (m.h1.map encI)),
               (15, .rows true 0 5 [[.sl 8 (1 + out.length) 1 0 out.length, .sl 9 1 1 0 m.h0.length, .sl 14 1 1 0 m.h1.length, .v (.int .i64 m.rights), .v (.int .i64 m.side)]])], 16⟩)
            (fun r a => a.1 + r = K ∧ 0 ≤ a.2 ∧ a.2 ≤ 1099511627777 ∧ findA men K 0 i0 = findA men r a.1 a.2) ?_ K (0, i0) ?_) ?_ ?_
          · rintro r ⟨x, j⟩ ⟨j1, j2, j3, j4⟩ hrec2
            simp only at j1 j2 j3 j4
            have hm0 : ∀ x ∈ men, 0 ≤ x := fun x hx => (i5 x hx).1
            (repeat (first | ((with_reducible refine VC.mkL ?_ fun _ => ?_); · first | omega | exact True.intro | rfl) | ((with_reducible refine VC.mkD ?_ fun _ => ?_); · first | omega | exact True.intro | (intros; omega)) | ((with_reducible refine dEnd.mk ?_ ?_); · kernel_rfl) | (simp [go_sem])))
            refine aIf.mkL (fun hx => ?_) (fun hx => ?_) <;> simp at hx
            · obtain ⟨r, rfl⟩ : ∃ r', r = r' + 1 := ⟨r - 1, by omega⟩
              rw [findA] at j4
              have hxl : x < men.length := by omega
              have htb := takeN_bound men x
              have htn := takeN_waysR hm0 (by omega) hxl
              have hmx0 := i5 _ (nth_mem hxl)
              (repeat (first | ((with_reducible refine VC.mkL ?_ fun _ => ?_); · first | omega | exact True.intro | rfl) | ((with_reducible refine VC.mkD ?_ fun _ => ?_); · first | omega | exact True.intro | (intros; omega)) | ((with_reducible refine dEnd.mk ?_ ?_); · kernel_rfl) | (simp [go_sem, hxl])))
              refine aIf.mkL (fun hz => ?_) (fun hz => ?_) <;> simp at hz
              · rw [if_pos hz] at htn
                rw [htn, if_neg (by omega)] at j4
                (repeat (first | ((with_reducible refine VC.mkL ?_ fun _ => ?_); · first | omega | exact True.intro | rfl) | ((with_reducible refine VC.mkD ?_ fun _ => ?_); · first | omega | exact True.intro | (intros; omega)) | ((with_reducible refine dEnd.mk ?_ ?_); · kernel_rfl) | (simp [go_sem])))
                refine ALoop.start (hrec2 r (by omega) (x + 1, j) ⟨by simp only; omega, j2, j3, by simpa using j4⟩) ?_ (by simp)
                simp [go_sem, Wk_eq]
              · rw [if_neg hz] at htn
                have hset : (men.map encI).set x [.v (.int .i64 (nth men x - 1))] = (men.set x (nth men x - 1)).map encI := by rw [List.map_set]; rfl
                have hset2 : ((men.set x (nth men x - 1)).map encI).set x [.v (.int .i64 (nth men x))] = men.map encI := by
                  rw [List.map_set, List.set_set, ← show encI (nth men x) = [.v (.int .i64 (nth men x))] from rfl, ← List.map_set, nth_eq _ _ hxl, List.set_getElem_self]
                have hm2x : nth (men.set x (nth men x - 1)) x = nth men x - 1 := nth_set_self hxl
                have hm2l : (men.set x (nth men x - 1)).length = men.length := by simp
                have hm2s := set_dec_sum hm0 (x := x) (by omega)
                have hm2v : ∀ y ∈ men.set x (nth men x - 1), 0 ≤ y ∧ y ≤ 1000 := fun y hy => by
                  rcases List.mem_or_eq_of_mem_set hy with h | rfl
                  · exact i5 y h
                  · omega
                generalize hm2 : men.set x (nth men x - 1) = m2 at *
                generalize hmxv : nth men x = mx at *
                (repeat (first | ((with_reducible refine VC.mkL ?_ fun _ => ?_); · first | omega | exact True.intro | rfl) | ((with_reducible refine VC.mkD ?_ fun _ => ?_); · first | omega | exact True.intro | (intros; omega)) | ((with_reducible refine dEnd.mk ?_ ?_); · kernel_rfl) | (simp [go_sem, hxl, hset, hmxv])))
                refine ACallP.flat (args' := [encIs m2]) (waysR_pure m2 (by omega) hm2v) (.v _) ?_ bel_Is1 ?_
                · refine LeRow.cons ?_ LeRow.nil
                  refine LeV.frz rfl ?_ ?_ (LeRows.of_eq ?_) <;> simp [noH, hm2l, i4, List.take_of_length_le]
                · generalize waysR m2 = wr at *
                  (repeat (first | ((with_reducible refine VC.mkL ?_ fun _ => ?_); · first | omega | exact True.intro | rfl) | ((with_reducible refine VC.mkD ?_ fun _ => ?_); · first | omega | exact True.intro | (intros; omega)) | ((with_reducible refine dEnd.mk ?_ ?_); · kernel_rfl) | (simp [go_sem])))
                  refine aIf.mkL (fun hlt => ?_) (fun hlt => ?_) <;> simp at hlt
                  · rw [if_pos (by omega)] at j4
                    rw [j4] at i6
                    simp only [hmxv, hm2] at i6
                    (repeat (first | ((with_reducible refine VC.mkL ?_ fun _ => ?_); · first | omega | exact True.intro | rfl) | ((with_reducible refine VC.mkD ?_ fun _ => ?_); · first | omega | exact True.intro | (intros; omega)) | ((with_reducible refine dEnd.mk ?_ ?_); · kernel_rfl) | (simp [go_sem])))
                    refine ALoop.start (hrec d (by omega) (c + 1, j, m2, out ++ [(x : Int)]) ⟨by simp only; omega, j2, j3, by simp only; omega, hm2v, by simp only; omega, by simpa using i6, by simp; omega⟩) ?_ (by simp)
                    simp [go_sem, Wk_eq]
                    (intro r hr c hc; (first | (rcases hr with ⟨_, _, rfl⟩ | rfl) | (rcases hr with rfl | ⟨_, _, rfl⟩) | (rcases hr with rfl | rfl) | ((rcases List.mem_or_eq_of_mem_set hr with hr | rfl) <;> first | (obtain ⟨_, _, rfl⟩ := List.mem_map.1 hr; simp only [encI] at hc) | skip) | (rcases hr with ⟨_, rfl⟩ | ⟨_, rfl⟩) | (rcases hr with ⟨_, _, rfl⟩ | ⟨_, rfl⟩) | (rcases hr with ⟨_, rfl⟩ | ⟨_, _, rfl⟩) | (rcases hr with ⟨_, _, rfl⟩ | ⟨_, _, rfl⟩) | (obtain ⟨_, rfl⟩ := hr) | (obtain ⟨_, _, rfl⟩ := hr)) <;> simp at hc <;> (try subst hc) <;> first | exact .v _ | (rcases hc with rfl | rfl <;> exact .v _))
                  · rw [if_neg (by omega)] at j4
                    (repeat (first | ((with_reducible refine VC.mkL ?_ fun _ => ?_); · first | omega | exact True.intro | rfl) | ((with_reducible refine VC.mkD ?_ fun _ => ?_); · first | omega | exact True.intro | (intros; omega)) | ((with_reducible refine dEnd.mk ?_ ?_); · kernel_rfl) | (simp [go_sem, hm2x, hm2l, hxl, hset2])))
                    refine ALoop.start (hrec2 r (by omega) (x + 1, j - wr) ⟨by simp only; omega, by simp only; omega, by simp only; omega, by rw [j4, htn]⟩) ?_ (by simp)
                    simp [go_sem, Wk_eq]
            · have : r = 0 := by omega
              subst this
              rw [findA] at j4
              rw [j4] at i6
              simp only at i6
              (repeat (first | ((with_reducible refine VC.mkL ?_ fun _ => ?_); · first | omega | exact True.intro | rfl) | ((with_reducible refine VC.mkD ?_ fun _ => ?_); · first | omega | exact True.intro | (intros; omega)) | ((with_reducible refine dEnd.mk ?_ ?_); · kernel_rfl) | (simp [go_sem])))
              refine ALoop.start (hrec d (by omega) (c + 1, j, men, out) ⟨by simp only; omega, j2, j3, i4, i5, is, i6, by simp only; omega⟩) ?_ (by simp)
              simp [go_sem, Wk_eq]
          · exact ⟨by simp, i2, i3, rfl⟩
          · simp [go_sem, Wk_eq]
          · simp
        · have : d = 0 := by omega
          subst this
          rw [atL, List.append_nil] at i6
          subst i6
          (repeat (first | ((with_reducible refine VC.mkL ?_ fun _ => ?_); · first | omega | exact True.intro | rfl) | ((with_reducible refine VC.mkD ?_ fun _ => ?_); · first | omega | exact True.intro | (intros; omega)) | ((with_reducible refine dEnd.mk ?_ ?_); · kernel_rfl) | (simp [go_sem])))
          refine ⟨?_, ?_, ?_⟩
          · (refine leV_frz rfl (by simp) (by simp [noH, upd]) ?_; first | (simp [go_sem]; done) | (simp [go_sem]; exact List.take_of_length_le (by simp)))
          · (refine leV_frz rfl (by simp) (by simp [noH, upd]) ?_; first | (simp [go_sem]; done) | (simp [go_sem]; exact List.take_of_length_le (by simp)))
          · (refine leV_frz rfl (by simp) (by simp [noH, upd]) ?_; first | (simp [go_sem]; done) | (simp [go_sem]; exact List.take_of_length_le (by simp)))
      · exact ⟨by simp, hi.1, by simp only; omega, hK, fun x hx => by have := f2 x hx; omega, by simp only; omega, by simp, by simp⟩
      · simp [go_sem, Wk_eq]
      · simp
end Go.Av
