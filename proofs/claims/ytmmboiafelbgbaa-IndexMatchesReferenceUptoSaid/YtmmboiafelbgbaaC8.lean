/- Contracts, part 8: index.At. -/
import Derived.Test.YtmmboiafelbgbaaC7
set_option linter.unusedSimpArgs false
set_option linter.unusedVariables false
open Go Go.Proofs
set_option maxRecDepth 20000
namespace Go.Av
def findA (m : List Int) : Nat → Nat → Int → Option Nat × Int
  | 0, _, i => (none, i)
  | f + 1, x, i => if i < takeN m x then (some x, i) else findA m f (x + 1) (i - takeN m x)
def atL : Nat → List Int → Int → List Int
  | 0, _, _ => []
  | n + 1, m, i => match findA m m.length 0 i with
    | (some x, i') => (x : Int) :: atL n (m.set x (nth m x - 1)) i'
    | (none, i') => atL n m i'
def zeroP : PosD := ⟨[], [], [], 0, 0⟩
def atOf (g : GameD) (m : PosD) (i : Int) : PosD × Int :=
  if (sizeOf_ g m).2 ≠ 0 then (zeroP, (sizeOf_ g m).2) else if i < 0 ∨ (sizeOf_ g m).1 ≤ i then (zeroP, 140) else ({ m with at_ := atL g.cells.toNat m.at_ i }, 0)
theorem sizeOf_ok {g : GameD} {m : PosD} (h : (sizeOf_ g m).2 = 0) : matOk g m = true ∧ (sizeOf_ g m).1 = ways m.at_ := by
  unfold sizeOf_ at h ⊢
  split at h
  · simp at h
  · split at h
    · simp at h
    · rename_i h1 h2
      rw [if_neg h1, if_neg h2]
      exact ⟨by simpa using h1, rfl⟩
theorem At_pure (g : GameD) (hg : FitsG g) (hr : FitsR g) (h64 : g.cells ≤ 64) (hk : g.kinds.length ≤ 400) (m : PosD) (hm : m.at_.length ≤ 9223372036854775807) (h0 : Fits m.h0) (h1 : Fits m.h1) (i : Int) :
    Pure Try.prog 33 [.agg (encGame g), .agg (encPos m), .v (.int .i64 i)] (.tup [.agg (encPos (atOf g m i).1), .v (.int .i64 (atOf g m i).2)]) := by
  refine Pure.of (ACallP.of_awp (by kernel_rfl) Try.func33 rfl rfl (Nat.le_of_ble_eq_true rfl) (by kernel_rfl) ?_)
  (repeat (first | ((with_reducible refine VC.mkL ?_ fun _ => ?_); · first | omega | exact True.intro | rfl) | ((with_reducible refine VC.mkD ?_ fun _ => ?_); · first | omega | exact True.intro | (intros; omega)) | ((with_reducible refine dEnd.mk ?_ ?_); · kernel_rfl) | (simp [go_sem])))
  refine ACallP.plain (Size_pure g hg hr h64 hk m hm h0 h1) (by simp [go_sem]) ?_
  (repeat (first | ((with_reducible refine VC.mkL ?_ fun _ => ?_); · first | omega | exact True.intro | rfl) | ((with_reducible refine VC.mkD ?_ fun _ => ?_); · first | omega | exact True.intro | (intros; omega)) | ((with_reducible refine dEnd.mk ?_ ?_); · kernel_rfl) | (simp [go_sem])))
  refine aIf.mkL (fun hs => ?_) (fun hs => ?_) <;> simp at hs
  · have e : atOf g m i = (zeroP, (sizeOf_ g m).2) := by unfold atOf; rw [if_pos hs]
    rw [e]
    (repeat (first | ((with_reducible refine VC.mkL ?_ fun _ => ?_); · first | omega | exact True.intro | rfl) | ((with_reducible refine VC.mkD ?_ fun _ => ?_); · first | omega | exact True.intro | (intros; omega)) | ((with_reducible refine dEnd.mk ?_ ?_); · kernel_rfl) | (simp [go_sem, zeroP])))
  · obtain ⟨hmo, hsz⟩ := sizeOf_ok hs
    have hwb := ways_bound m.at_
    (repeat (first | ((with_reducible refine VC.mkL ?_ fun _ => ?_); · first | omega | exact True.intro | rfl) | ((with_reducible refine VC.mkD ?_ fun _ => ?_); · first | omega | exact True.intro | (intros; omega)) | ((with_reducible refine dEnd.mk ?_ ?_); · kernel_rfl) | (simp [go_sem])))
    refine aIf.mkL (fun hi => ?_) (fun hi => ?_) <;> simp at hi
    · have e : atOf g m i = (zeroP, 140) := by unfold atOf; rw [if_neg (by simp [hs]), if_pos hi]
      rw [e]
      (repeat (first | ((with_reducible refine VC.mkL ?_ fun _ => ?_); · first | omega | exact True.intro | rfl) | ((with_reducible refine VC.mkD ?_ fun _ => ?_); · first | omega | exact True.intro | (intros; omega)) | ((with_reducible refine dEnd.mk ?_ ?_); · kernel_rfl) | (simp [go_sem, zeroP])))
    · have e : atOf g m i = ({ m with at_ := atL g.cells.toNat m.at_ i }, 0) := by unfold atOf; rw [if_neg (by simp [hs]), if_neg (by omega)]
      rw [e]
      (repeat (first | ((with_reducible refine VC.mkL ?_ fun _ => ?_); · first | omega | exact True.intro | rfl) | ((with_reducible refine VC.mkD ?_ fun _ => ?_); · first | omega | exact True.intro | (intros; omega)) | ((with_reducible refine dEnd.mk ?_ ?_); · kernel_rfl) | (simp [go_sem])))
      refine ALoop.unroll ?_
      (repeat (first | ((with_reducible refine VC.mkL ?_ fun _ => ?_); · first | omega | exact True.intro | rfl) | ((with_reducible refine VC.mkD ?_ fun _ => ?_); · first | omega | exact True.intro | (intros; omega)) | ((with_reducible refine dEnd.mk ?_ ?_); · kernel_rfl) | (simp [go_sem])))
      refine ACallP.ownsPlain (Clone_owns m.h0 h0) (by simp [go_sem]) ?_
      (repeat (first | ((with_reducible refine VC.mkL ?_ fun _ => ?_); · first | omega | exact True.intro | rfl) | ((with_reducible refine VC.mkD ?_ fun _ => ?_); · first | omega | exact True.intro | (intros; omega)) | ((with_reducible refine dEnd.mk ?_ ?_); · kernel_rfl) | (simp [go_sem])))
      refine ALoop.unroll ?_
      (repeat (first | ((with_reducible refine VC.mkL ?_ fun _ => ?_); · first | omega | exact True.intro | rfl) | ((with_reducible refine VC.mkD ?_ fun _ => ?_); · first | omega | exact True.intro | (intros; omega)) | ((with_reducible refine dEnd.mk ?_ ?_); · kernel_rfl) | (simp [go_sem])))
      refine ACallP.ownsPlain (Clone_owns m.h1 h1) (by simp [go_sem]) ?_
      (repeat (first | ((with_reducible refine VC.mkL ?_ fun _ => ?_); · first | omega | exact True.intro | rfl) | ((with_reducible refine VC.mkD ?_ fun _ => ?_); · first | omega | exact True.intro | (intros; omega)) | ((with_reducible refine dEnd.mk ?_ ?_); · kernel_rfl) | (simp [go_sem])))
      refine ALoop.unroll ?_
      (repeat (first | ((with_reducible refine VC.mkL ?_ fun _ => ?_); · first | omega | exact True.intro | rfl) | ((with_reducible refine VC.mkD ?_ fun _ => ?_); · first | omega | exact True.intro | (intros; omega)) | ((with_reducible refine dEnd.mk ?_ ?_); · kernel_rfl) | (simp [go_sem])))
      have hml : (m.at_.length : Int) = 1 + 2 * g.kinds.length ∧ ∀ k ∈ m.at_, 0 ≤ k ∧ k ≤ 64 := by
        unfold matOk at hmo
        simp at hmo
        exact ⟨hmo.1.1, fun k hk => by have := hmo.1.2 k hk; simp [oddN] at this; omega⟩
      obtain ⟨hml, hmv⟩ := hml
      refine ACallP.ownsPlain (Clone_owns m.at_ (by unfold Fits; omega)) (by simp [go_sem]) ?_
      (repeat (first | ((with_reducible refine VC.mkL ?_ fun _ => ?_); · first | omega | exact True.intro | rfl) | ((with_reducible refine VC.mkD ?_ fun _ => ?_); · first | omega | exact True.intro | (intros; omega)) | ((with_reducible refine dEnd.mk ?_ ?_); · kernel_rfl) | (simp [go_sem])))
      generalize hK : m.at_.length = K at *
      refine ALoop.start (ALoop.ind (α := Nat × Int × List Int × List Int) (fun a => ⟨[(2, .v (.int .i64 a.2.1)), (6, .ref 2 0 5 0 0), (10, .ref 3 0 5 0 0), (13, .sl 6 1 1 0 K), (56, .v (.int .i64 g.cells)), (57, .v (.int .i64 a.1))],
          [(2, .rows true 0 5 [[.v (.slice none 0 0), .v (.slice none 0 0), .v (.slice none 0 0), .v (.int .i64 0), .v (.int .i64 0)]]),
           (3, .rows true 0 5 [[.sl 7 a.2.2.2.length 1 0 a.2.2.2.length, .sl 4 1 1 0 m.h0.length, .sl 5 1 1 0 m.h1.length, .v (.int .i64 m.rights), .v (.int .i64 m.side)]]),
           (4, .rows true 1 1 (m.h0.map encI)), (5, .rows true 1 1 (m.h1.map encI)), (6, .rows true 1 1 (a.2.2.1.map encI)), (7, .rows true a.2.2.2.length 1 (a.2.2.2.map encI))], 8⟩)
        (fun d a => a.1 + d = g.cells.toNat ∧ 0 ≤ a.2.1 ∧ a.2.1 ≤ 1099511627777 ∧ a.2.2.1.length = K ∧ (∀ x ∈ a.2.2.1, 0 ≤ x ∧ x ≤ 1000) ∧ a.2.2.2 ++ atL d a.2.2.1 a.2.1 = atL g.cells.toNat m.at_ i ∧ a.2.2.2.length ≤ a.1) ?_ g.cells.toNat (0, i, m.at_, []) ?_) ?_ ?_
      · rintro d ⟨c, i0, men, out⟩ ⟨i1, i2, i3, i4, i5, i6, i7⟩ hrec
        simp only at i1 i2 i3 i4 i5 i6 i7
        (repeat (first | ((with_reducible refine VC.mkL ?_ fun _ => ?_); · first | omega | exact True.intro | rfl) | ((with_reducible refine VC.mkD ?_ fun _ => ?_); · first | omega | exact True.intro | (intros; omega)) | ((with_reducible refine dEnd.mk ?_ ?_); · kernel_rfl) | (simp [go_sem])))
        refine aIf.mkL (fun hc => ?_) (fun hc => ?_) <;> simp at hc
        · obtain ⟨d, rfl⟩ : ∃ d', d = d' + 1 := ⟨d - 1, by omega⟩
          rw [atL, i4] at i6
          (repeat (first | ((with_reducible refine VC.mkL ?_ fun _ => ?_); · first | omega | exact True.intro | rfl) | ((with_reducible refine VC.mkD ?_ fun _ => ?_); · first | omega | exact True.intro | (intros; omega)) | ((with_reducible refine dEnd.mk ?_ ?_); · kernel_rfl) | (simp [go_sem])))
          refine ALoop.start (ALoop.ind (α := Nat × Int) (fun a => ⟨[(2, .v (.int .i64 a.2)), (6, .ref 2 0 5 0 0), (10, .ref 3 0 5 0 0), (13, .sl 6 1 1 0 K), (56, .v (.int .i64 g.cells)), (57, .v (.int .i64 c)), (60, .v (.int .i64 K)), (61, .v (.int .i64 a.1))],
              [(2, .rows true 0 5 [[.v (.slice none 0 0), .v (.slice none 0 0), .v (.slice none 0 0), .v (.int .i64 0), .v (.int .i64 0)]]),
               (3, .rows true 0 5 [[.sl 7 out.length 1 0 out.length, .sl 4 1 1 0 m.h0.length, .sl 5 1 1 0 m.h1.length, .v (.int .i64 m.rights), .v (.int .i64 m.side)]]),
               (4, .rows true 1 1 (m.h0.map encI)), (5, .rows true 1 1 (m.h1.map encI)), (6, .rows true 1 1 (men.map encI)), (7, .rows true out.length 1 (out.map encI))], 8⟩)
            (fun r a => a.1 + r = K ∧ 0 ≤ a.2 ∧ a.2 ≤ 1099511627777 ∧ findA men K 0 i0 = findA men r a.1 a.2) ?_ K (0, i0) ?_) ?_ ?_
          · rintro r ⟨x, j⟩ ⟨j1, j2, j3, j4⟩ hrec2
            simp only at j1 j2 j3 j4
            (repeat (first | ((with_reducible refine VC.mkL ?_ fun _ => ?_); · first | omega | exact True.intro | rfl) | ((with_reducible refine VC.mkD ?_ fun _ => ?_); · first | omega | exact True.intro | (intros; omega)) | ((with_reducible refine dEnd.mk ?_ ?_); · kernel_rfl) | (simp [go_sem])))
            refine aIf.mkL (fun hx => ?_) (fun hx => ?_) <;> simp at hx
            · obtain ⟨r, rfl⟩ : ∃ r', r = r' + 1 := ⟨r - 1, by omega⟩
              rw [findA] at j4
              have hxc : x < men.length := by omega
              have htb := takeN_bound men x
              (repeat (first | ((with_reducible refine VC.mkL ?_ fun _ => ?_); · first | omega | exact True.intro | rfl) | ((with_reducible refine VC.mkD ?_ fun _ => ?_); · first | omega | exact True.intro | (intros; omega)) | ((with_reducible refine dEnd.mk ?_ ?_); · kernel_rfl) | (simp [go_sem])))
              refine ACallP.ownsN (taker_owns men (by unfold Fits; omega)) (by simp [go_sem]) (by simp [go_sem]) ?_ bel_Is1 ?_
              · refine LeRow.cons ?_ LeRow.nil
                exact leV_frz (mt := true) (rs := men.map encI) (by simp [upd]) (by simp [i4]) (by simp [noH, upd]) (by simp [List.take_of_length_le, i4])
              · (repeat (first | ((with_reducible refine VC.mkL ?_ fun _ => ?_); · first | omega | exact True.intro | rfl) | ((with_reducible refine VC.mkD ?_ fun _ => ?_); · first | omega | exact True.intro | (intros; omega)) | ((with_reducible refine dEnd.mk ?_ ?_); · kernel_rfl) | (simp [go_sem])))
                refine taker1_call men (by omega) i5 x hxc (o := 9) (o2 := 8) (by simp [upd]) (by simp [upd]) (by decide) (fun rs => ?_)
                have htn : 0 < takeN men x → 1 ≤ nth men x := by intro h; unfold takeN at h; split at h <;> omega
                generalize htk : takeN men x = tk at *
                (repeat (first | ((with_reducible refine VC.mkL ?_ fun _ => ?_); · first | omega | exact True.intro | rfl) | ((with_reducible refine VC.mkD ?_ fun _ => ?_); · first | omega | exact True.intro | (intros; omega)) | ((with_reducible refine dEnd.mk ?_ ?_); · kernel_rfl) | (simp [go_sem])))
                refine aIf.mkL (fun hlt => ?_) (fun hlt => ?_) <;> simp at hlt
                · rw [if_pos hlt] at j4
                  rw [j4] at i6
                  simp only at i6
                  have := htn (by omega)
                  have hb := i5 _ (nth_mem hxc)
                  (repeat (first | ((with_reducible refine VC.mkL ?_ fun _ => ?_); · first | omega | exact True.intro | rfl) | ((with_reducible refine VC.mkD ?_ fun _ => ?_); · first | omega | exact True.intro | (intros; omega)) | ((with_reducible refine dEnd.mk ?_ ?_); · kernel_rfl) | (simp [go_sem, hxc])))
                  refine ALoop.start (hrec d (by omega) (c + 1, j, men.set x (nth men x - 1), out ++ [(x : Int)]) ⟨by simp only; omega, j2, j3, by simpa using i4, fun y hy => ?_, by simpa using i6, by simp; omega⟩) ?_ (by simp)
                  · rcases List.mem_or_eq_of_mem_set hy with h | rfl
                    · exact i5 y h
                    · omega
                  · simp [go_sem, Wk_eq]
                    refine ⟨?_, ?_⟩
                    · (intro r hr c hc; (first | (rcases hr with ⟨_, _, rfl⟩ | rfl) | (rcases hr with rfl | ⟨_, _, rfl⟩) | (rcases hr with rfl | rfl) | ((rcases List.mem_or_eq_of_mem_set hr with hr | rfl) <;> first | (obtain ⟨_, _, rfl⟩ := List.mem_map.1 hr; simp only [encI] at hc) | skip) | (rcases hr with ⟨_, rfl⟩ | ⟨_, rfl⟩) | (rcases hr with ⟨_, _, rfl⟩ | ⟨_, rfl⟩) | (rcases hr with ⟨_, rfl⟩ | ⟨_, _, rfl⟩) | (rcases hr with ⟨_, _, rfl⟩ | ⟨_, _, rfl⟩) | (obtain ⟨_, rfl⟩ := hr) | (obtain ⟨_, _, rfl⟩ := hr)) <;> simp at hc <;> (try subst hc) <;> first | exact .v _ | (rcases hc with rfl | rfl <;> exact .v _))
                    · (intro r hr c hc; (first | (rcases hr with ⟨_, _, rfl⟩ | rfl) | (rcases hr with rfl | ⟨_, _, rfl⟩) | (rcases hr with rfl | rfl) | ((rcases List.mem_or_eq_of_mem_set hr with hr | rfl) <;> first | (obtain ⟨_, _, rfl⟩ := List.mem_map.1 hr; simp only [encI] at hc) | skip) | (rcases hr with ⟨_, rfl⟩ | ⟨_, rfl⟩) | (rcases hr with ⟨_, _, rfl⟩ | ⟨_, rfl⟩) | (rcases hr with ⟨_, rfl⟩ | ⟨_, _, rfl⟩) | (rcases hr with ⟨_, _, rfl⟩ | ⟨_, _, rfl⟩) | (obtain ⟨_, rfl⟩ := hr) | (obtain ⟨_, _, rfl⟩ := hr)) <;> simp at hc <;> (try subst hc) <;> first | exact .v _ | (rcases hc with rfl | rfl <;> exact .v _))
                · rw [if_neg (by omega)] at j4
                  (repeat (first | ((with_reducible refine VC.mkL ?_ fun _ => ?_); · first | omega | exact True.intro | rfl) | ((with_reducible refine VC.mkD ?_ fun _ => ?_); · first | omega | exact True.intro | (intros; omega)) | ((with_reducible refine dEnd.mk ?_ ?_); · kernel_rfl) | (simp [go_sem])))
                  refine ALoop.start (hrec2 r (by omega) (x + 1, j - tk) ⟨by simp only; omega, by simp only; omega, by simp only; omega, j4⟩) ?_ (by simp)
                  simp [go_sem, Wk_eq]
            · have : r = 0 := by omega
              subst this
              rw [findA] at j4
              rw [j4] at i6
              simp only at i6
              (repeat (first | ((with_reducible refine VC.mkL ?_ fun _ => ?_); · first | omega | exact True.intro | rfl) | ((with_reducible refine VC.mkD ?_ fun _ => ?_); · first | omega | exact True.intro | (intros; omega)) | ((with_reducible refine dEnd.mk ?_ ?_); · kernel_rfl) | (simp [go_sem])))
              refine ALoop.start (hrec d (by omega) (c + 1, j, men, out) ⟨by simp only; omega, j2, j3, i4, i5, i6, by simp only; omega⟩) ?_ (by simp)
              simp [go_sem, Wk_eq]
          · exact ⟨by simp, i2, i3, rfl⟩
          · simp [go_sem, Wk_eq]
          · simp
        · have : d = 0 := by omega
          subst this
          rw [atL, List.append_nil] at i6
          subst i6
          (repeat (first | ((with_reducible refine VC.mkL ?_ fun _ => ?_); · first | omega | exact True.intro | rfl) | ((with_reducible refine VC.mkD ?_ fun _ => ?_); · first | omega | exact True.intro | (intros; omega)) | ((with_reducible refine dEnd.mk ?_ ?_); · kernel_rfl) | (simp [go_sem])))
          refine ⟨?_, ?_, ?_⟩
          · (refine leV_frz rfl (by simp) (by simp [noH, upd]) ?_; first | (simp [go_sem]; done) | (simp [go_sem]; exact List.take_of_length_le (by simp)))
          · (refine leV_frz rfl (by simp) (by simp [noH, upd]) ?_; first | (simp [go_sem]; done) | (simp [go_sem]; exact List.take_of_length_le (by simp)))
          · (refine leV_frz rfl (by simp) (by simp [noH, upd]) ?_; first | (simp [go_sem]; done) | (simp [go_sem]; exact List.take_of_length_le (by simp)))
      · exact ⟨by simp, hi.1, by simp only; omega, hK, fun x hx => by have := hmv x hx; omega, by simp, by simp⟩
      · simp [go_sem, Wk_eq]
      · simp
end Go.Av
