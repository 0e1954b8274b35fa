/- Contracts, part 12: positions that are drawn; the reference's Of. -/
import Derived.Test.YtmmboiafelbgbaaCB
set_option linter.unusedSimpArgs false
set_option linter.unusedVariables false
open Go Go.Proofs
set_option maxRecDepth 20000
set_option maxHeartbeats 2000000
namespace Go.Av
def encU (n : Int) : List AV := [.v (.int .u8 n)]
def encUs (l : List Int) : AV := .lst 1 (l.map encU)
theorem bel_U {n : Nat} {l : List Int} : (∀ r ∈ l.map encU, ∀ c ∈ r, Bel n c) = True := by
  refine eq_true ?_
  intro r hr c hc
  obtain ⟨x, _, rfl⟩ := List.mem_map.1 hr
  simp only [encU, List.mem_singleton] at hc
  subst hc; exact .v _
theorem bel_Us {n : Nat} {l : List Int} : Bel n (.lst 1 (l.map encU)) = True := by rw [Bel_lst, bel_U]
attribute [go_sem] encU encUs
attribute [go_sem high] bel_Us
/-! ### skewerref14.Filled -/
def atFj (cells k : Nat) (l : List Int) (j : Nat) : List Int := (List.range cells).map fun c => if c < j ∧ c < l.length then (nth l c).tmod (2 * k + 1) else 0
def fillPos (cells k : Nat) (l : List Int) : PosD := ⟨atFj cells k l cells, List.replicate k 0, (List.replicate k 0).set (k - 1) ((l.length : Int).tmod 9), 1, 0⟩
theorem atFj_length (cells k : Nat) (l : List Int) (j : Nat) : (atFj cells k l j).length = cells := by simp [atFj]
theorem atFj_set {cells k : Nat} {l : List Int} {j : Nat} (h2 : j < l.length) : (atFj cells k l j).set j ((nth l j).tmod (2 * k + 1)) = atFj cells k l (j + 1) := by
  refine List.ext_getElem (by simp [atFj]) fun i h3 h4 => ?_
  simp only [atFj, List.getElem_set, List.getElem_map, List.getElem_range]
  by_cases e : j = i
  · subst e; simp [h2]
  · rw [if_neg e]
    by_cases e2 : i < j
    · simp [e2, show i < j + 1 by omega]
    · simp [e2, show ¬ i < j + 1 by omega]
theorem atFj_end {cells k : Nat} {l : List Int} {j : Nat} (h : cells ≤ j ∨ l.length ≤ j) (hj : j ≤ cells) : atFj cells k l j = atFj cells k l cells := by
  refine List.ext_getElem (by simp [atFj]) fun i h3 h4 => ?_
  simp only [atFj, List.getElem_map, List.getElem_range]
  simp [atFj] at h3
  have : (i < j ∧ i < l.length) ↔ (i < cells ∧ i < l.length) := by omega
  simp only [this]
theorem Filled_pure (g : GameD) (cells k : Nat) (hc : g.cells = cells) (hk : g.kinds.length = k) (h1 : cells ≤ 1000) (h2 : 1 ≤ k ∧ k ≤ 100) (l : List Int) (hl : l.length ≤ 9223372036854775807) (hv : ∀ x ∈ l, 0 ≤ x ∧ x ≤ 255) :
    Pure Try.prog 40 [.agg (encGame g), encUs l] (.agg (encPos (fillPos cells k l))) := by
  refine Pure.of (ACallP.of_awp (by kernel_rfl) Try.func40 rfl rfl (Nat.le_of_ble_eq_true rfl) (by kernel_rfl) ?_)
  (repeat (first | ((with_reducible refine VC.mkL ?_ fun _ => ?_); · first | omega | exact True.intro | rfl) | ((with_reducible refine VC.mkD ?_ fun _ => ?_); · first | omega | exact True.intro | (intros; omega)) | ((with_reducible refine dEnd.mk ?_ ?_); · kernel_rfl) | (simp [go_sem, hc, hk])))
  refine ALoop.start (ALoop.ind (α := Nat) (fun j => ⟨[(1, encUs l), (2, .ref 0 0 9 0 0), (4, .ref 1 0 5 0 0), (5, .ref 3 0 5 0 0), (6, .v (.int .i64 j))],
      [(0, .rows true 0 9 [encGame g]), (1, .rows true 0 5 [[.v (.slice none 0 0), .v (.slice none 0 0), .v (.slice none 0 0), .v (.int .i64 0), .v (.int .i64 0)]]), (2, .rows true 0 1 ((atFj cells k l j).map encI)),
       (3, .rows true 0 5 [[.sl 2 0 1 0 cells, .v (.slice none 0 0), .v (.slice none 0 0), .v (.int .i64 1), .v (.int .i64 0)]])], 4⟩)
    (fun d j => j + d = cells) ?_ cells 0 ?_) ?_ ?_
  · rintro d j i1 hrec
    have hfl := atFj_length cells k l j
    (repeat (first | ((with_reducible refine VC.mkL ?_ fun _ => ?_); · first | omega | exact True.intro | rfl) | ((with_reducible refine VC.mkD ?_ fun _ => ?_); · first | omega | exact True.intro | (intros; omega)) | ((with_reducible refine dEnd.mk ?_ ?_); · kernel_rfl) | (simp [go_sem, hc, hk])))
    refine aIf.mkL (fun hj => ?_) (fun hj => ?_) <;> simp at hj
    · obtain ⟨hj1, hj2⟩ := hj
      have hx := hv _ (nth_mem hj2)
      have hs := atFj_set (cells := cells) (k := k) (l := l) hj2
      have hrow : ((atFj cells k l j).map encI).set j [.v (.int .i64 ((nth l j).tmod (2 * k + 1)))] = (atFj cells k l (j + 1)).map encI := by rw [← hs, List.map_set]; rfl
      (repeat (first | ((with_reducible refine VC.mkL ?_ fun _ => ?_); · first | omega | exact True.intro | rfl) | ((with_reducible refine VC.mkD ?_ fun _ => ?_); · first | omega | exact True.intro | (intros; omega)) | ((with_reducible refine dEnd.mk ?_ ?_); · kernel_rfl) | (simp [go_sem, hc, hk, hj2, hfl])))
      refine ALoop.start (hrec (d - 1) (by omega) (j + 1) (by omega)) ?_ (by simp)
      simp [go_sem, Wk_eq, hrow, hc]
    · have he := atFj_end (cells := cells) (k := k) (l := l) (j := j) (by omega) (by omega)
      rw [he]
      rw [he] at hfl
      (repeat (first | ((with_reducible refine VC.mkL ?_ fun _ => ?_); · first | omega | exact True.intro | rfl) | ((with_reducible refine VC.mkD ?_ fun _ => ?_); · first | omega | exact True.intro | (intros; omega)) | ((with_reducible refine dEnd.mk ?_ ?_); · kernel_rfl) | (simp [go_sem, hc, hk, fillPos])))
      generalize atFj cells k l cells = at' at *
      refine ⟨?_, ?_, ?_⟩
      · refine LeV.frz rfl ?_ ?_ (LeRows.of_eq ?_)
        · simp [hfl]
        · simp [noH]
        · rw [List.drop_zero, List.take_of_length_le (by simp [hfl])]
      · refine LeV.frz rfl ?_ ?_ (LeRows.of_eq ?_) <;> simp [noH, encI]
      · refine LeV.frz rfl ?_ ?_ (LeRows.of_eq ?_) <;> simp [noH, encI, List.take_of_length_le]
  · simp
  · have e0 : (atFj cells k l 0) = List.replicate cells 0 := by simp [atFj, List.map_const']
    simp [go_sem, Wk_eq, e0, hc]
  · simp
/-! ### skewerlaw14.board -/
theorem board_pure (a b : Int) (ha : 0 ≤ a ∧ a ≤ 255) (hb : 0 ≤ b ∧ b ≤ 255) (c k : Nat) (hc : 1 + a.tmod 64 = c) (hk : 1 + b.tmod 3 = k) (l : List Int) (hl : l.length ≤ 9223372036854775807) (hv : ∀ x ∈ l, 0 ≤ x ∧ x ≤ 255) :
    Pure Try.prog 25 [.agg [.v (.int .u8 a), .v (.int .u8 b)], encUs l] (.tup [.agg (encGame (blankG c k)), .agg (encPos (fillPos c k l))]) := by
  have h1 := Int.tmod_nonneg 64 ha.1
  have h2 := Int.tmod_lt_of_pos a (show (0 : Int) < 64 by decide)
  have h3 := Int.tmod_nonneg 3 hb.1
  have h4 := Int.tmod_lt_of_pos b (show (0 : Int) < 3 by decide)
  have hF := Filled_pure (blankG c k) c k rfl (by simp [blankG]) (by omega) (by omega) l hl hv
  have hB := Blank_pure c k (by omega) (by omega)
  have hel : (encGame (blankG c k)).length = 9 := rfl
  have hbl : ∀ n, (∀ c' ∈ encGame (blankG c k), Bel n c') = True := fun n => by simp [go_sem]
  generalize encGame (blankG c k) = eg at *
  refine Pure.of (ACallP.of_awp (by kernel_rfl) Try.func25 rfl rfl (Nat.le_of_ble_eq_true rfl) (by kernel_rfl) ?_)
  (repeat (first | ((with_reducible refine VC.mkL ?_ fun _ => ?_); · first | omega | exact True.intro | rfl) | ((with_reducible refine VC.mkD ?_ fun _ => ?_); · first | omega | exact True.intro | (intros; omega)) | ((with_reducible refine dEnd.mk ?_ ?_); · kernel_rfl) | (simp [go_sem, hc, hk])))
  refine ACallP.plain hB (by simp [go_sem]) ?_
  (repeat (first | ((with_reducible refine VC.mkL ?_ fun _ => ?_); · first | omega | exact True.intro | rfl) | ((with_reducible refine VC.mkD ?_ fun _ => ?_); · first | omega | exact True.intro | (intros; omega)) | ((with_reducible refine dEnd.mk ?_ ?_); · kernel_rfl) | (simp [go_sem, hel])))
  refine dCall.plain hF (by simp [go_sem, hbl]) ?_
  (repeat (first | ((with_reducible refine VC.mkL ?_ fun _ => ?_); · first | omega | exact True.intro | rfl) | ((with_reducible refine VC.mkD ?_ fun _ => ?_); · first | omega | exact True.intro | (intros; omega)) | ((with_reducible refine dEnd.mk ?_ ?_); · kernel_rfl) | (simp [go_sem, hel])))
  exact of_eq_true (hbl 0)
end Go.Av
