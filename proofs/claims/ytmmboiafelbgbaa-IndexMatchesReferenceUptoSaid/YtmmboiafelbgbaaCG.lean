/- Contracts, part 16: the reference's Rank of chapter 14. -/
import Derived.Test.YtmmboiafelbgbaaCF
set_option linter.unusedSimpArgs false
set_option linter.unusedVariables false
open Go Go.Proofs
set_option maxRecDepth 20000
set_option maxHeartbeats 4000000
namespace Go.Av
theorem Rank14_pure (g : GameD) (hg : FitsG g) (hr : FitsR g) (hc0 : 0 ≤ g.cells) (h64 : g.cells ≤ 64) (hk : g.kinds.length ≤ 400) (p : PosD) (hp : FitsP p) :
    Pure Try.prog 37 [.agg (encGame g), .agg (encPos p)] (.tup [.v (.int .i64 (rankOf g p).1), .v (.int .i64 (rankOf g p).2)]) := by
  refine Pure.of (ACallP.of_awp (by kernel_rfl) Try.func37 rfl rfl (Nat.le_of_ble_eq_true rfl) (by kernel_rfl) ?_)
  (repeat (first | ((with_reducible refine VC.mkL ?_ fun _ => ?_); · first | omega | exact True.intro | rfl) | ((with_reducible refine VC.mkD ?_ fun _ => ?_); · first | omega | exact True.intro | (intros; omega)) | ((with_reducible refine dEnd.mk ?_ ?_); · kernel_rfl) | (simp [go_sem])))
  refine ACallP.plain (RValid_pure g hg hr p hp) (by simp [go_sem]) ?_
  (repeat (first | ((with_reducible refine VC.mkL ?_ fun _ => ?_); · first | omega | exact True.intro | rfl) | ((with_reducible refine VC.mkD ?_ fun _ => ?_); · first | omega | exact True.intro | (intros; omega)) | ((with_reducible refine dEnd.mk ?_ ?_); · kernel_rfl) | (simp [go_sem])))
  refine aIf.mkL (fun hv => ?_) (fun hv => ?_) <;> simp at hv
  · have e : rankOf g p = (0, 40) := by unfold rankOf; rw [if_pos hv]
    rw [e]
    (repeat (first | ((with_reducible refine VC.mkL ?_ fun _ => ?_); · first | omega | exact True.intro | rfl) | ((with_reducible refine VC.mkD ?_ fun _ => ?_); · first | omega | exact True.intro | (intros; omega)) | ((with_reducible refine dEnd.mk ?_ ?_); · kernel_rfl) | (simp [go_sem])))
  · obtain ⟨v1, v2, _⟩ := posOk_iff.1 hv
    have hl : p.at_.length ≤ 64 := by omega
    (repeat (first | ((with_reducible refine VC.mkL ?_ fun _ => ?_); · first | omega | exact True.intro | rfl) | ((with_reducible refine VC.mkD ?_ fun _ => ?_); · first | omega | exact True.intro | (intros; omega)) | ((with_reducible refine dEnd.mk ?_ ?_); · kernel_rfl) | (simp [go_sem])))
    refine ACallP.ownsPlain (Of14_owns g hk p hp v2) (by simp [go_sem]) ?_
    (repeat (first | ((with_reducible refine VC.mkL ?_ fun _ => ?_); · first | omega | exact True.intro | rfl) | ((with_reducible refine VC.mkD ?_ fun _ => ?_); · first | omega | exact True.intro | (intros; omega)) | ((with_reducible refine dEnd.mk ?_ ?_); · kernel_rfl) | (simp [go_sem])))
    have hK : (menOf (1 + 2 * g.kinds.length) p.at_).length = 1 + 2 * g.kinds.length := menOf_length _ _
    refine ACallP.flat (args' := [.agg (encGame g), .agg (encPos (ofP g p))]) (Size14_pure g hg hr hc0 h64 hk (ofP g p) (by simp [ofP, hK]; omega) hp.2.1 hp.2.2) (.tup (by intro x hx; simp at hx; rcases hx with rfl | rfl <;> exact .v _)) ?_ (by simp [go_sem]) ?_
    · simp only [encPos, encGame, encIs, List.nil_append, List.append_nil, List.cons_append]
      refine LeRow.cons (LeV.refl _) (LeRow.cons (LeV.agg (LeRow.cons ?_ (LeRow.cons ?_ (LeRow.cons ?_ (LeRow.refl _ _ _ _))))) LeRow.nil)
      · (refine leV_frz rfl (by simp) (by simp [noH, upd]) ?_; first | (simp [go_sem]; done) | (simp [go_sem]; exact List.take_of_length_le (by simp)))
      · (refine leV_frz rfl (by simp) (by simp [noH, upd]) ?_; first | (simp [go_sem]; done) | (simp [go_sem]; exact List.take_of_length_le (by simp)))
      · (refine leV_frz rfl (by simp) (by simp [noH, upd]) ?_; first | (simp [go_sem]; done) | (simp [go_sem]; exact List.take_of_length_le (by simp)))
    · (repeat (first | ((with_reducible refine VC.mkL ?_ fun _ => ?_); · first | omega | exact True.intro | rfl) | ((with_reducible refine VC.mkD ?_ fun _ => ?_); · first | omega | exact True.intro | (intros; omega)) | ((with_reducible refine dEnd.mk ?_ ?_); · kernel_rfl) | (simp [go_sem])))
      refine aIf.mkL (fun hs => ?_) (fun hs => ?_) <;> simp at hs
      · have e : rankOf g p = (0, (sizeOf_ g (ofP g p)).2) := by unfold rankOf; rw [if_neg (by simp [hv]), if_pos hs]
        rw [e]
        (repeat (first | ((with_reducible refine VC.mkL ?_ fun _ => ?_); · first | omega | exact True.intro | rfl) | ((with_reducible refine VC.mkD ?_ fun _ => ?_); · first | omega | exact True.intro | (intros; omega)) | ((with_reducible refine dEnd.mk ?_ ?_); · kernel_rfl) | (simp [go_sem])))
      · have e : rankOf g p = (rankN (ofP g p).at_ p.at_, 0) := by unfold rankOf; rw [if_neg (by simp [hv]), if_neg (by simp [hs])]
        rw [e]
        generalize hq : ofP g p = q at *
        have hqa : q.at_ = menOf (1 + 2 * g.kinds.length) p.at_ := by rw [← hq]; rfl
        (repeat (first | ((with_reducible refine VC.mkL ?_ fun _ => ?_); · first | omega | exact True.intro | rfl) | ((with_reducible refine VC.mkD ?_ fun _ => ?_); · first | omega | exact True.intro | (intros; omega)) | ((with_reducible refine dEnd.mk ?_ ?_); · kernel_rfl) | (simp [go_sem])))
        have hel : (encPos p).length = 5 := rfl
        refine ALoop.start (ALoop.ind (α := Nat × Int) (fun a => ⟨[(3, .ref 1 0 5 0 0), (6, .ref 33 0 5 0 0), (7, .v (.int .i64 a.2)), (10, .v (.int .i64 a.1))],
            [(1, .rows true 0 5 [encPos p]), (22, .rows true 0 1 ((menOf (1 + 2 * g.kinds.length) (p.at_.drop a.1)).map encI)), (10, .rows true 1 1 (q.h0.map encI)), (15, .rows true 1 1 (q.h1.map encI)),
             (33, .rows true 0 5 [[.sl 22 0 1 0 (1 + 2 * g.kinds.length), .sl 10 1 1 0 q.h0.length, .sl 15 1 1 0 q.h1.length, .v (.int .i64 q.rights), .v (.int .i64 q.side)]])], 34⟩)
          (fun d a => a.1 + d = p.at_.length ∧ 0 ≤ a.2 ∧ a.2 ≤ 879609302221600 * a.1 ∧ rankN q.at_ p.at_ = a.2 + rankN (menOf (1 + 2 * g.kinds.length) (p.at_.drop a.1)) (p.at_.drop a.1)) ?_ p.at_.length (0, 0) ?_) ?_ ?_
        · rintro d ⟨j, n⟩ ⟨i1, i2, i3, i4⟩ hrec
          simp only at i1 i2 i3 i4
          (repeat (first | ((with_reducible refine VC.mkL ?_ fun _ => ?_); · first | omega | exact True.intro | rfl) | ((with_reducible refine VC.mkD ?_ fun _ => ?_); · first | omega | exact True.intro | (intros; omega)) | ((with_reducible refine dEnd.mk ?_ ?_); · kernel_rfl) | (simp [go_sem])))
          refine aIf.mkL (fun hj => ?_) (fun hj => ?_) <;> simp at hj
          · (repeat (first | ((with_reducible refine VC.mkL ?_ fun _ => ?_); · first | omega | exact True.intro | rfl) | ((with_reducible refine VC.mkD ?_ fun _ => ?_); · first | omega | exact True.intro | (intros; omega)) | ((with_reducible refine dEnd.mk ?_ ?_); · kernel_rfl) | (simp [go_sem, hj])))
            have hcj := v2 _ (nth_mem hj)
            have hdc := drop_cons hj
            have hcK : ∀ y ∈ p.at_.drop (j + 1), y.toNat < 1 + 2 * g.kinds.length := fun y hy => by have := v2 y (List.mem_of_mem_drop hy); omega
            have hdl : (p.at_.drop (j + 1)).length = p.at_.length - (j + 1) := List.length_drop
            generalize hc : nth p.at_ j = c at *
            generalize hrest : p.at_.drop (j + 1) = rest at *
            rw [hdc] at i4
            have hM := menOf_cons (1 + 2 * g.kinds.length) c rest
            have hml := menOf_length (1 + 2 * g.kinds.length) (c :: rest)
            have hcK2 : ∀ y ∈ c :: rest, y.toNat < 1 + 2 * g.kinds.length := fun y hy => (List.mem_cons.1 hy).elim (fun h => by rw [h]; omega) (fun h => hcK y h)
            have hmem : ∀ x ∈ menOf (1 + 2 * g.kinds.length) (c :: rest), 0 ≤ x ∧ x ≤ (c :: rest).length := menOf_mem hcK2
            have hsum : (toN (menOf (1 + 2 * g.kinds.length) (c :: rest))).sum = (c :: rest).length := sum_menOf hcK2
            have hpos : 1 ≤ nth (menOf (1 + 2 * g.kinds.length) (c :: rest)) c.toNat := by
              rw [hM, bump, nth_set_self (by rw [menOf_length]; omega)]
              have := (menOf_mem hcK _ (nth_mem (l := menOf (1 + 2 * g.kinds.length) rest) (i := c.toNat) (by rw [menOf_length]; omega))).1
              omega
            rw [hdc]
            have hsb := set_bump (m := menOf (1 + 2 * g.kinds.length) rest) (c := c) (by rw [menOf_length]; omega)
            rw [← hM] at hsb
            simp only [rankN] at i4
            rw [hsb] at i4
            generalize menOf (1 + 2 * g.kinds.length) (c :: rest) = m at *
            simp only [List.length_cons] at hmem hsum
            have hm1 : ∀ x ∈ m, 0 ≤ x ∧ x ≤ 1000 := fun x hx => by have := hmem x hx; omega
            have hm0 : ∀ x ∈ m, 0 ≤ x := fun x hx => (hm1 x hx).1
            refine ALoop.start (ALoop.ind (α := Nat × Int) (fun a => ⟨[(3, .ref 1 0 5 0 0), (6, .ref 33 0 5 0 0), (7, .v (.int .i64 a.2)), (10, .v (.int .i64 j)), (11, .v (.int .i64 a.1))],
                [(1, .rows true 0 5 [encPos p]), (22, .rows true 0 1 (m.map encI)), (10, .rows true 1 1 (q.h0.map encI)), (15, .rows true 1 1 (q.h1.map encI)),
                 (33, .rows true 0 5 [[.sl 22 0 1 0 (1 + 2 * g.kinds.length), .sl 10 1 1 0 q.h0.length, .sl 15 1 1 0 q.h1.length, .v (.int .i64 q.rights), .v (.int .i64 q.side)]])], 34⟩)
              (fun d a => a.1 + d = c.toNat ∧ a.2 = n + lessN m a.1) ?_ c.toNat (0, n) ?_) ?_ ?_
            · rintro d2 ⟨x, n'⟩ ⟨j1, j2⟩ hrec2
              simp only at j1 j2
              have hxl : x < m.length := by omega
              have hlb := lessN_bound hm0 x
              have htn := takeN_waysR hm0 (by omega) hxl
              have htb := takeN_bound m x
              (repeat (first | ((with_reducible refine VC.mkL ?_ fun _ => ?_); · first | omega | exact True.intro | rfl) | ((with_reducible refine VC.mkD ?_ fun _ => ?_); · first | omega | exact True.intro | (intros; omega)) | ((with_reducible refine dEnd.mk ?_ ?_); · kernel_rfl) | (simp [go_sem, hj, hc])))
              (refine aIf.mkL (fun hT => ?_) (fun hT => by first | omega | (simp at hT; omega)); clear hT)
              have hmx0 := hm1 _ (nth_mem hxl)
              (repeat (first | ((with_reducible refine VC.mkL ?_ fun _ => ?_); · first | omega | exact True.intro | rfl) | ((with_reducible refine VC.mkD ?_ fun _ => ?_); · first | omega | exact True.intro | (intros; omega)) | ((with_reducible refine dEnd.mk ?_ ?_); · kernel_rfl) | (simp [go_sem, hxl])))
              refine aIf.mkL (fun hz => ?_) (fun hz => ?_) <;> simp at hz
              · rw [if_pos hz] at htn
                have hxc : x ≠ c.toNat := by rintro rfl; omega
                (repeat (first | ((with_reducible refine VC.mkL ?_ fun _ => ?_); · first | omega | exact True.intro | rfl) | ((with_reducible refine VC.mkD ?_ fun _ => ?_); · first | omega | exact True.intro | (intros; omega)) | ((with_reducible refine dEnd.mk ?_ ?_); · kernel_rfl) | (simp [go_sem])))
                refine ALoop.start (hrec2 (d2 - 1) (by omega) (x + 1, n') ⟨by simp only; omega, by simp only [lessN]; omega⟩) ?_ (by simp)
                simp [go_sem, Wk_eq]
              · rw [if_neg hz] at htn
                have hset : (m.map encI).set x [.v (.int .i64 (nth m x - 1))] = (m.set x (nth m x - 1)).map encI := by rw [List.map_set]; rfl
                have hset2 : ((m.set x (nth m x - 1)).map encI).set x [.v (.int .i64 (nth m x))] = m.map encI := by
                  rw [List.map_set, List.set_set, ← show encI (nth m x) = [.v (.int .i64 (nth m x))] from rfl, ← List.map_set, nth_eq _ _ hxl, List.set_getElem_self]
                have hm2x : nth (m.set x (nth m x - 1)) x = nth m x - 1 := nth_set_self hxl
                have hm2l : (m.set x (nth m x - 1)).length = m.length := by simp
                have hm2v : ∀ y ∈ m.set x (nth m x - 1), 0 ≤ y ∧ y ≤ 1000 := fun y hy => by
                  rcases List.mem_or_eq_of_mem_set hy with h | rfl
                  · exact hm1 y h
                  · omega
                have hsb2 : x = c.toNat → m.set x (nth m x - 1) = menOf (1 + 2 * g.kinds.length) rest := by rintro rfl; exact hsb
                generalize hm2 : m.set x (nth m x - 1) = m2 at *
                generalize hmxv : nth m x = mx at *
                (repeat (first | ((with_reducible refine VC.mkL ?_ fun _ => ?_); · first | omega | exact True.intro | rfl) | ((with_reducible refine VC.mkD ?_ fun _ => ?_); · first | omega | exact True.intro | (intros; omega)) | ((with_reducible refine dEnd.mk ?_ ?_); · kernel_rfl) | (simp [go_sem, hxl, hset, hmxv])))
                (repeat (first | ((with_reducible refine VC.mkL ?_ fun _ => ?_); · first | omega | exact True.intro | rfl) | ((with_reducible refine VC.mkD ?_ fun _ => ?_); · first | omega | exact True.intro | (intros; omega)) | ((with_reducible refine dEnd.mk ?_ ?_); · kernel_rfl) | (simp [go_sem, hj, hc, hxl, hset, hmxv])))
                refine aIf.mkL (fun hxc => ?_) (fun hxc => ?_) <;> simp at hxc
                · have hxc' : x = c.toNat := by omega
                  rw [hsb2 hxc'] at *
                  subst hxc'
                  (repeat (first | ((with_reducible refine VC.mkL ?_ fun _ => ?_); · first | omega | exact True.intro | rfl) | ((with_reducible refine VC.mkD ?_ fun _ => ?_); · first | omega | exact True.intro | (intros; omega)) | ((with_reducible refine dEnd.mk ?_ ?_); · kernel_rfl) | (simp [go_sem])))
                  refine ALoop.start (hrec (d - 1) (by omega) (j + 1, n') ⟨by simp only; omega, by simp only; omega, by simp only; omega, by simp only [hrest]; omega⟩) ?_ (by simp)
                  simp [go_sem, Wk_eq, hrest]
                · (repeat (first | ((with_reducible refine VC.mkL ?_ fun _ => ?_); · first | omega | exact True.intro | rfl) | ((with_reducible refine VC.mkD ?_ fun _ => ?_); · first | omega | exact True.intro | (intros; omega)) | ((with_reducible refine dEnd.mk ?_ ?_); · kernel_rfl) | (simp [go_sem, hset])))
                  refine ACallP.flat (args' := [encIs m2]) (waysR_pure m2 (by omega) hm2v) (.v _) ?_ bel_Is1 ?_
                  · refine LeRow.cons ?_ LeRow.nil
                    refine LeV.frz rfl ?_ ?_ (LeRows.of_eq ?_) <;> simp [noH, hm2l, hml, List.take_of_length_le]
                  · generalize waysR m2 = wr at *
                    (repeat (first | ((with_reducible refine VC.mkL ?_ fun _ => ?_); · first | omega | exact True.intro | rfl) | ((with_reducible refine VC.mkD ?_ fun _ => ?_); · first | omega | exact True.intro | (intros; omega)) | ((with_reducible refine dEnd.mk ?_ ?_); · kernel_rfl) | (simp [go_sem, hm2x, hm2l, hxl, hset2])))
                    refine ALoop.start (hrec2 (d2 - 1) (by omega) (x + 1, n' + wr) ⟨by simp only; omega, by simp only [lessN]; omega⟩) ?_ (by simp)
                    simp [go_sem, Wk_eq]
            · exact ⟨by simp, by simp [lessN]⟩
            · simp [go_sem, Wk_eq]
            · simp
          · rw [List.drop_eq_nil_of_le hj, rankN] at i4
            rw [i4]
            (repeat (first | ((with_reducible refine VC.mkL ?_ fun _ => ?_); · first | omega | exact True.intro | rfl) | ((with_reducible refine VC.mkD ?_ fun _ => ?_); · first | omega | exact True.intro | (intros; omega)) | ((with_reducible refine dEnd.mk ?_ ?_); · kernel_rfl) | (simp [go_sem])))
        · exact ⟨by simp, by simp, by simp, by simp [hqa]⟩
        · simp [go_sem, Wk_eq, hqa, hK]
        · simp
end Go.Av
