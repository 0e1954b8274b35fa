/- Contracts, part 3: positions. -/
import Derived.Test.YtmmboiafelbgbaaC2

set_option linter.unusedSimpArgs false
set_option linter.unusedVariables false
open Go Go.Proofs
set_option maxRecDepth 20000
namespace Go.Av
theorem bel_rows {n : Nat} {α : Type} {f : α → List AV} {l : List α} {sz : Nat} (h : ∀ x, ∀ c ∈ f x, Bel n c) : Bel n (.lst sz (l.map f)) := by
  refine .lst fun r hr c hc => ?_
  obtain ⟨x, _, rfl⟩ := List.mem_map.1 hr
  exact h x c hc
theorem bel_kinds {n : Nat} {l : List KindD} : Bel n (.lst 3 (l.map encKind)) = True := eq_true (bel_rows fun k c hc => by
  simp only [encKind, List.mem_cons, List.mem_nil_iff, or_false] at hc
  rcases hc with rfl | rfl | rfl
  · exact .v _
  · refine bel_rows fun p c hc => ?_
    simp only [List.mem_cons, List.mem_nil_iff, or_false] at hc
    subst hc
    exact bel_rows fun s c hc => by
      simp only [encStep, List.mem_cons, List.mem_nil_iff, or_false] at hc
      rcases hc with rfl | rfl <;> exact .v _
  · exact .v _)
theorem bel_clauses {n : Nat} {l : List (Int × Int × Int × Int)} : Bel n (.lst 4 (l.map encClause)) = True := eq_true (bel_rows fun k c hc => by
  simp only [encClause, List.mem_cons, List.mem_nil_iff, or_false] at hc
  rcases hc with rfl | rfl | rfl | rfl <;> exact .v _)
theorem bel_iss {n : Nat} {l : List (List Int)} : Bel n (.lst 1 (l.map fun l => [.lst 1 (l.map encI)])) = True := eq_true (bel_rows fun k c hc => by
  simp only [List.mem_cons, List.mem_nil_iff, or_false] at hc
  subst hc
  exact of_eq_true bel_Is)
attribute [go_sem high] bel_kinds bel_clauses bel_iss
/-! ### pos.rules -/
def contOk (g : GameD) (x : Int) : Bool := decide (0 ≤ x) && decide (x ≤ 2 * g.kinds.length)
def FitsG (g : GameD) : Prop := g.kinds.length ≤ 1000000
theorem content_pure (g : GameD) (hg : FitsG g) (x : Int) : Pure Try.prog 100 [.agg (encGame g), .v (.int .i64 x)] (.v (.bool (contOk g x))) := by
  refine Pure.of (ACallP.of_awp (by kernel_rfl) Try.func100 rfl rfl (Nat.le_of_ble_eq_true rfl) (by kernel_rfl) ?_)
  unfold FitsG at hg
  simp [go_sem]
  refine VC.mkL (by omega) fun _ => ?_
  simp [go_sem, contOk]
theorem notContent_pure (g : GameD) (hg : FitsG g) (x : Int) : Pure Try.prog 101 [.v (.int .i64 x), .fp [.fn (.func 100) [.agg (encGame g)] []]] (.v (.bool !contOk g x)) := by
  refine Pure.of (ACallP.of_awp (by kernel_rfl) Try.func101 rfl rfl (Nat.le_of_ble_eq_true rfl) (by kernel_rfl) ?_)
  simp [go_sem]
  refine ACallP.plain (content_pure g hg x) (by simp [go_sem]) ?_
  simp [go_sem]
def handGo : List Int → List KindD → Bool
  | x :: l, k :: ks => decide (0 ≤ x) && decide (x ≤ 8) && (!decide (0 < x) || k.keep) && handGo l ks
  | _, _ => true
def handOk (g : GameD) (l : List Int) : Bool := decide (l.length = g.kinds.length) && handGo l g.kinds
theorem hand_pure (g : GameD) (hg : FitsG g) (l : List Int) (hl : Fits l) : Pure Try.prog 102 [.agg (encGame g), encIs l] (.v (.bool (handOk g l))) := by
  refine Pure.of (ACallP.of_awp (by kernel_rfl) Try.func102 rfl rfl (Nat.le_of_ble_eq_true rfl) (by kernel_rfl) ?_)
  unfold FitsG at hg
  unfold Fits at hl
  simp [go_sem]
  refine aIf.mkL (fun hn => ?_) (fun hn => ?_)
  · simp at hn
    have hn' : l.length ≠ g.kinds.length := by omega
    simp [go_sem, handOk, hn']
  · simp at hn
    have hn' : l.length = g.kinds.length := by omega
    simp [go_sem]
    have hk : handOk g l = handGo l g.kinds := by simp [handOk, hn']
    rw [hk]
    refine ALoop.start (ALoop.ind (α := Nat) (fun j => ⟨[(2, .ref 0 0 9 0 0), (14, encIs l), (15, .v (.int .i64 l.length)), (16, .v (.int .i64 j))], [(0, .rows true 0 9 [encGame g])], 1⟩)
      (fun d j => j + d = l.length ∧ handGo l g.kinds = handGo (l.drop j) (g.kinds.drop j)) ?_ l.length 0 ?_) ?_ ?_
    · rintro d j ⟨i1, i2⟩ hrec
      simp [go_sem]
      refine aIf.mkL (fun hj => ?_) (fun hj => ?_)
      · simp at hj
        have hj2 : j < g.kinds.length := by omega
        rw [drop_cons hj, show g.kinds.drop j = nth g.kinds j :: g.kinds.drop (j + 1) by rw [List.drop_eq_getElem_cons hj2, nth_eq _ _ hj2], handGo] at i2
        simp [go_sem]
        refine VC.mkL hj fun _ => ?_
        simp [go_sem, hj]
        refine VC.mkL (by intros; omega) fun _ => ?_
        simp [go_sem, hj2]
        refine VC.mkL (by intros; omega) fun _ => ?_
        simp [go_sem]
        refine aIf.mkL (fun hb => ?_) (fun hb => ?_)
        · have : handGo l g.kinds = false := by
            rw [i2]; generalize nth l j = x at *; generalize (nth g.kinds j).keep = y at *
            cases y <;> simp at hb ⊢ <;> omega
          simp [go_sem, this]
        · have : handGo l g.kinds = handGo (List.drop (j + 1) l) (List.drop (j + 1) g.kinds) := by
            rw [i2]; generalize nth l j = x at *; generalize (nth g.kinds j).keep = y at *
            cases y <;> simp at hb ⊢ <;> omega
          simp [go_sem]
          refine VC.mkL (by omega) fun _ => ?_
          simp [go_sem]
          refine ALoop.start (hrec (d - 1) (by omega) (j + 1) ⟨by omega, this⟩) ?_ (by simp)
          simp [go_sem, Wk_eq]
      · simp at hj
        rw [List.drop_eq_nil_of_le hj] at i2
        have : handGo l g.kinds = true := by rw [i2]; rfl
        simp [go_sem, this]
    · simp
    · simp [go_sem, Wk_eq]
    · simp
end Go.Av
