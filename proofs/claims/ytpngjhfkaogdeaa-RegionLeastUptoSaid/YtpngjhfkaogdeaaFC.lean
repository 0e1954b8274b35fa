/- Contracts: slices.IndexFunc and ContainsFunc at kinds, programs, clauses, steps. -/
import Derived.Test.YtpngjhfkaogdeaaD9
import Derived.Test.YtpngjhfkaogdeaaAvE
import Derived.Test.YtpngjhfkaogdeaaChecked
import Derived.Shelf.GgClosure.StringsIndexFunc
section
set_option linter.unusedSimpArgs false
set_option linter.unusedVariables false
open Go Go.Proofs
set_option maxRecDepth 20000
set_option maxHeartbeats 4000000
namespace Go.Av
def idxG {α : Type} (p : α → Bool) (l : List α) : Int := match l.findIdx? p with | some i => (i : Int) | none => -1
theorem idxG_at {α : Type} [Inhabited α] {p : α → Bool} {l : List α} {j : Nat} (hj : j < l.length) (h : ∀ i, i < j → p (nth l i) = false) (hp : p (nth l j) = true) : idxG p l = j := by
  have : l.findIdx? p = some j := by
    rw [List.findIdx?_eq_some_iff_getElem]
    refine ⟨hj, by rw [← nth_eq _ _ hj]; exact hp, fun i hi => ?_⟩
    have := h i hi
    rw [nth_eq _ _ (by omega)] at this
    simp [this]
  simp [idxG, this]
theorem idxG_none {α : Type} [Inhabited α] {p : α → Bool} {l : List α} (h : ∀ i, i < l.length → p (nth l i) = false) : idxG p l = -1 := by
  have : l.findIdx? p = none := by
    rw [List.findIdx?_eq_none_iff]
    intro x hx
    obtain ⟨i, hi, rfl⟩ := List.getElem_of_mem hx
    have := h i hi
    rw [nth_eq _ _ hi] at this
    exact this
  simp [idxG, this]
theorem idxG_any {α : Type} {p : α → Bool} {l : List α} : decide (0 ≤ idxG p l) = l.any p := by
  unfold idxG
  cases h : l.findIdx? p with
  | none =>
    rw [List.findIdx?_eq_none_iff] at h
    simp
    simpa using h
  | some i =>
    have := List.findIdx?_isSome (xs := l) (p := p)
    rw [h] at this
    simp at this ⊢
    exact this
theorem IndexFuncK_pure (l : List (KindD)) (hl : l.length ≤ 1048576) (f : FuncId) (caps : List AV) (p : (KindD) → Bool) (hp : ∀ x ∈ l, Pure Try.prog f (.agg (encKind x) :: caps) (.v (.bool (p x)))) (hb' : ∀ c ∈ caps, Bel 0 c) :
    Pure Try.prog 69 [.lst 3 (l.map encKind), .fn (.func f) [] caps] (.v (.int .i64 (idxG p l))) := by
  refine Pure.of (ACallP.of_awp (by kernel_rfl) Try.func69 rfl rfl (Nat.le_of_ble_eq_true rfl) (by kernel_rfl) ?_)
  have hA : ∀ x : (KindD), ∀ m, Bel m (.agg (encKind x)) := fun x m => by simp [go_sem]
  (repeat (first | with_reducible (first | refine wL fun _ => ?_ | refine wD fun _ => ?_ | refine wE ?_ | refine adrZ.go ?_) | simp [go_sem]))
  refine ALoop.start (ALoop.ind (α := Nat) (fun j => ⟨[(0, .lst 3 (l.map encKind)), (1, .fn (.func f) [] caps), (7, .v (.int .i64 l.length)), (8, .v (.int .i64 j))], [], 0⟩)
    (fun d j => j + d = l.length ∧ (∀ i < j, p (nth l i) = false)) ?_ l.length 0 ?_) ?_ ?_
  · rintro d j ⟨i1, i2⟩ hrec
    (repeat (first | with_reducible (first | refine wL fun _ => ?_ | refine wD fun _ => ?_ | refine wE ?_ | refine adrZ.go ?_) | simp [go_sem]))
    refine aIf.mkL (fun hj => ?_) (fun hj => ?_) <;> simp at hj
    · (repeat (first | with_reducible (first | refine wL fun _ => ?_ | refine wD fun _ => ?_ | refine wE ?_ | refine adrZ.go ?_) | simp [go_sem, hj]))
      refine ACallP.plain (hp _ (nth_mem hj)) (fun c hc => by
        simp only [List.nil_append, List.cons_append, List.mem_cons] at hc
        rcases hc with rfl | h
        · exact hA _ _
        · exact hb' c h) ?_
      (repeat (first | with_reducible (first | refine wL fun _ => ?_ | refine wD fun _ => ?_ | refine wE ?_ | refine adrZ.go ?_) | simp [go_sem]))
      refine aIf.mkL (fun h => ?_) (fun h => ?_)
      · (repeat (first | with_reducible (first | refine wL fun _ => ?_ | refine wD fun _ => ?_ | refine wE ?_ | refine adrZ.go ?_) | simp [go_sem, idxG_at hj i2 h]))
      · (repeat (first | with_reducible (first | refine wL fun _ => ?_ | refine wD fun _ => ?_ | refine wE ?_ | refine adrZ.go ?_) | simp [go_sem]))
        refine ALoop.start (hrec (d - 1) (by omega) (j + 1) ⟨by omega, fun i hi => ?_⟩) ?_ (by simp)
        · rcases Nat.lt_or_ge i j with h' | h'
          · exact i2 i h'
          · obtain rfl : i = j := by omega
            exact h
        · simp [go_sem, Wk_eq]
          exact hb'
    · have hn := idxG_none (p := p) (l := l) fun i hi => i2 i (by omega)
      (repeat (first | with_reducible (first | refine wL fun _ => ?_ | refine wD fun _ => ?_ | refine wE ?_ | refine adrZ.go ?_) | simp [go_sem, hn]))
  · simp
  · simp [go_sem, Wk_eq]
    exact hb'
  · simp
theorem ContainsFuncK_pure (l : List (KindD)) (hl : l.length ≤ 1048576) (f : FuncId) (caps : List AV) (p : (KindD) → Bool) (hp : ∀ x ∈ l, Pure Try.prog f (.agg (encKind x) :: caps) (.v (.bool (p x)))) (hb' : ∀ c ∈ caps, Bel 0 c) :
    Pure Try.prog 40 [.lst 3 (l.map encKind), .fn (.func f) [] caps] (.v (.bool (l.any p))) := by
  refine Pure.of (ACallP.of_awp (by kernel_rfl) Try.func40 rfl rfl (Nat.le_of_ble_eq_true rfl) (by kernel_rfl) ?_)
  have hI := IndexFuncK_pure l hl f caps p hp hb'
  (repeat (first | with_reducible (first | refine wL fun _ => ?_ | refine wD fun _ => ?_ | refine wE ?_ | refine adrZ.go ?_) | simp [go_sem]))
  refine ACallP.plain hI (by simp [go_sem]; exact hb') ?_
  (repeat (first | with_reducible (first | refine wL fun _ => ?_ | refine wD fun _ => ?_ | refine wE ?_ | refine adrZ.go ?_) | simp [go_sem, idxG_any]))
theorem IndexFuncP_pure (l : List (List (Int × Int))) (hl : l.length ≤ 1048576) (f : FuncId) (caps : List AV) (p : (List (Int × Int)) → Bool) (hp : ∀ x ∈ l, Pure Try.prog f (encProg x :: caps) (.v (.bool (p x)))) (hb' : ∀ c ∈ caps, Bel 0 c) :
    Pure Try.prog 88 [.lst 1 (l.map fun p => [encProg p]), .fn (.func f) [] caps] (.v (.int .i64 (idxG p l))) := by
  refine Pure.of (ACallP.of_awp (by kernel_rfl) Try.func88 rfl rfl (Nat.le_of_ble_eq_true rfl) (by kernel_rfl) ?_)
  have hA : ∀ x : (List (Int × Int)), ∀ m, Bel m (encProg x) := fun x m => by simp [go_sem]
  (repeat (first | with_reducible (first | refine wL fun _ => ?_ | refine wD fun _ => ?_ | refine wE ?_ | refine adrZ.go ?_) | simp [go_sem]))
  refine ALoop.start (ALoop.ind (α := Nat) (fun j => ⟨[(0, .lst 1 (l.map fun p => [encProg p])), (1, .fn (.func f) [] caps), (7, .v (.int .i64 l.length)), (8, .v (.int .i64 j))], [], 0⟩)
    (fun d j => j + d = l.length ∧ (∀ i < j, p (nth l i) = false)) ?_ l.length 0 ?_) ?_ ?_
  · rintro d j ⟨i1, i2⟩ hrec
    (repeat (first | with_reducible (first | refine wL fun _ => ?_ | refine wD fun _ => ?_ | refine wE ?_ | refine adrZ.go ?_) | simp [go_sem]))
    refine aIf.mkL (fun hj => ?_) (fun hj => ?_) <;> simp at hj
    · (repeat (first | with_reducible (first | refine wL fun _ => ?_ | refine wD fun _ => ?_ | refine wE ?_ | refine adrZ.go ?_) | simp [go_sem, hj]))
      refine ACallP.plain (hp _ (nth_mem hj)) (fun c hc => by
        simp only [List.nil_append, List.cons_append, List.mem_cons] at hc
        rcases hc with rfl | h
        · exact hA _ _
        · exact hb' c h) ?_
      (repeat (first | with_reducible (first | refine wL fun _ => ?_ | refine wD fun _ => ?_ | refine wE ?_ | refine adrZ.go ?_) | simp [go_sem]))
      refine aIf.mkL (fun h => ?_) (fun h => ?_)
      · (repeat (first | with_reducible (first | refine wL fun _ => ?_ | refine wD fun _ => ?_ | refine wE ?_ | refine adrZ.go ?_) | simp [go_sem, idxG_at hj i2 h]))
      · (repeat (first | with_reducible (first | refine wL fun _ => ?_ | refine wD fun _ => ?_ | refine wE ?_ | refine adrZ.go ?_) | simp [go_sem]))
        refine ALoop.start (hrec (d - 1) (by omega) (j + 1) ⟨by omega, fun i hi => ?_⟩) ?_ (by simp)
        · rcases Nat.lt_or_ge i j with h' | h'
          · exact i2 i h'
          · obtain rfl : i = j := by omega
            exact h
        · simp [go_sem, Wk_eq]
          exact hb'
    · have hn := idxG_none (p := p) (l := l) fun i hi => i2 i (by omega)
      (repeat (first | with_reducible (first | refine wL fun _ => ?_ | refine wD fun _ => ?_ | refine wE ?_ | refine adrZ.go ?_) | simp [go_sem, hn]))
  · simp
  · simp [go_sem, Wk_eq]
    exact hb'
  · simp
theorem ContainsFuncP_pure (l : List (List (Int × Int))) (hl : l.length ≤ 1048576) (f : FuncId) (caps : List AV) (p : (List (Int × Int)) → Bool) (hp : ∀ x ∈ l, Pure Try.prog f (encProg x :: caps) (.v (.bool (p x)))) (hb' : ∀ c ∈ caps, Bel 0 c) :
    Pure Try.prog 65 [.lst 1 (l.map fun p => [encProg p]), .fn (.func f) [] caps] (.v (.bool (l.any p))) := by
  refine Pure.of (ACallP.of_awp (by kernel_rfl) Try.func65 rfl rfl (Nat.le_of_ble_eq_true rfl) (by kernel_rfl) ?_)
  have hI := IndexFuncP_pure l hl f caps p hp hb'
  (repeat (first | with_reducible (first | refine wL fun _ => ?_ | refine wD fun _ => ?_ | refine wE ?_ | refine adrZ.go ?_) | simp [go_sem]))
  refine ACallP.plain hI (by simp [go_sem]; exact hb') ?_
  (repeat (first | with_reducible (first | refine wL fun _ => ?_ | refine wD fun _ => ?_ | refine wE ?_ | refine adrZ.go ?_) | simp [go_sem, idxG_any]))
theorem IndexFuncC_pure (l : List (Int × Int × Int × Int)) (hl : l.length ≤ 1048576) (f : FuncId) (caps : List AV) (p : (Int × Int × Int × Int) → Bool) (hp : ∀ x ∈ l, Pure Try.prog f (.agg (encClause x) :: caps) (.v (.bool (p x)))) (hb' : ∀ c ∈ caps, Bel 0 c) :
    Pure Try.prog 89 [.lst 4 (l.map encClause), .fn (.func f) [] caps] (.v (.int .i64 (idxG p l))) := by
  refine Pure.of (ACallP.of_awp (by kernel_rfl) Try.func89 rfl rfl (Nat.le_of_ble_eq_true rfl) (by kernel_rfl) ?_)
  have hA : ∀ x : (Int × Int × Int × Int), ∀ m, Bel m (.agg (encClause x)) := fun x m => by simp [go_sem]
  (repeat (first | with_reducible (first | refine wL fun _ => ?_ | refine wD fun _ => ?_ | refine wE ?_ | refine adrZ.go ?_) | simp [go_sem]))
  refine ALoop.start (ALoop.ind (α := Nat) (fun j => ⟨[(0, .lst 4 (l.map encClause)), (1, .fn (.func f) [] caps), (7, .v (.int .i64 l.length)), (8, .v (.int .i64 j))], [], 0⟩)
    (fun d j => j + d = l.length ∧ (∀ i < j, p (nth l i) = false)) ?_ l.length 0 ?_) ?_ ?_
  · rintro d j ⟨i1, i2⟩ hrec
    (repeat (first | with_reducible (first | refine wL fun _ => ?_ | refine wD fun _ => ?_ | refine wE ?_ | refine adrZ.go ?_) | simp [go_sem]))
    refine aIf.mkL (fun hj => ?_) (fun hj => ?_) <;> simp at hj
    · (repeat (first | with_reducible (first | refine wL fun _ => ?_ | refine wD fun _ => ?_ | refine wE ?_ | refine adrZ.go ?_) | simp [go_sem, hj]))
      refine ACallP.plain (hp _ (nth_mem hj)) (fun c hc => by
        simp only [List.nil_append, List.cons_append, List.mem_cons] at hc
        rcases hc with rfl | h
        · exact hA _ _
        · exact hb' c h) ?_
      (repeat (first | with_reducible (first | refine wL fun _ => ?_ | refine wD fun _ => ?_ | refine wE ?_ | refine adrZ.go ?_) | simp [go_sem]))
      refine aIf.mkL (fun h => ?_) (fun h => ?_)
      · (repeat (first | with_reducible (first | refine wL fun _ => ?_ | refine wD fun _ => ?_ | refine wE ?_ | refine adrZ.go ?_) | simp [go_sem, idxG_at hj i2 h]))
      · (repeat (first | with_reducible (first | refine wL fun _ => ?_ | refine wD fun _ => ?_ | refine wE ?_ | refine adrZ.go ?_) | simp [go_sem]))
        refine ALoop.start (hrec (d - 1) (by omega) (j + 1) ⟨by omega, fun i hi => ?_⟩) ?_ (by simp)
        · rcases Nat.lt_or_ge i j with h' | h'
          · exact i2 i h'
          · obtain rfl : i = j := by omega
            exact h
        · simp [go_sem, Wk_eq]
          exact hb'
    · have hn := idxG_none (p := p) (l := l) fun i hi => i2 i (by omega)
      (repeat (first | with_reducible (first | refine wL fun _ => ?_ | refine wD fun _ => ?_ | refine wE ?_ | refine adrZ.go ?_) | simp [go_sem, hn]))
  · simp
  · simp [go_sem, Wk_eq]
    exact hb'
  · simp
theorem ContainsFuncC_pure (l : List (Int × Int × Int × Int)) (hl : l.length ≤ 1048576) (f : FuncId) (caps : List AV) (p : (Int × Int × Int × Int) → Bool) (hp : ∀ x ∈ l, Pure Try.prog f (.agg (encClause x) :: caps) (.v (.bool (p x)))) (hb' : ∀ c ∈ caps, Bel 0 c) :
    Pure Try.prog 66 [.lst 4 (l.map encClause), .fn (.func f) [] caps] (.v (.bool (l.any p))) := by
  refine Pure.of (ACallP.of_awp (by kernel_rfl) Try.func66 rfl rfl (Nat.le_of_ble_eq_true rfl) (by kernel_rfl) ?_)
  have hI := IndexFuncC_pure l hl f caps p hp hb'
  (repeat (first | with_reducible (first | refine wL fun _ => ?_ | refine wD fun _ => ?_ | refine wE ?_ | refine adrZ.go ?_) | simp [go_sem]))
  refine ACallP.plain hI (by simp [go_sem]; exact hb') ?_
  (repeat (first | with_reducible (first | refine wL fun _ => ?_ | refine wD fun _ => ?_ | refine wE ?_ | refine adrZ.go ?_) | simp [go_sem, idxG_any]))
theorem IndexFuncS_pure (l : List (Int × Int)) (hl : l.length ≤ 1048576) (f : FuncId) (caps : List AV) (p : (Int × Int) → Bool) (hp : ∀ x ∈ l, Pure Try.prog f (.agg (encStep x) :: caps) (.v (.bool (p x)))) (hb' : ∀ c ∈ caps, Bel 0 c) :
    Pure Try.prog 95 [encProg l, .fn (.func f) [] caps] (.v (.int .i64 (idxG p l))) := by
  refine Pure.of (ACallP.of_awp (by kernel_rfl) Try.func95 rfl rfl (Nat.le_of_ble_eq_true rfl) (by kernel_rfl) ?_)
  have hA : ∀ x : (Int × Int), ∀ m, Bel m (.agg (encStep x)) := fun x m => by simp [go_sem]
  (repeat (first | with_reducible (first | refine wL fun _ => ?_ | refine wD fun _ => ?_ | refine wE ?_ | refine adrZ.go ?_) | simp [go_sem]))
  refine ALoop.start (ALoop.ind (α := Nat) (fun j => ⟨[(0, encProg l), (1, .fn (.func f) [] caps), (7, .v (.int .i64 l.length)), (8, .v (.int .i64 j))], [], 0⟩)
    (fun d j => j + d = l.length ∧ (∀ i < j, p (nth l i) = false)) ?_ l.length 0 ?_) ?_ ?_
  · rintro d j ⟨i1, i2⟩ hrec
    (repeat (first | with_reducible (first | refine wL fun _ => ?_ | refine wD fun _ => ?_ | refine wE ?_ | refine adrZ.go ?_) | simp [go_sem]))
    refine aIf.mkL (fun hj => ?_) (fun hj => ?_) <;> simp at hj
    · (repeat (first | with_reducible (first | refine wL fun _ => ?_ | refine wD fun _ => ?_ | refine wE ?_ | refine adrZ.go ?_) | simp [go_sem, hj]))
      refine ACallP.plain (hp _ (nth_mem hj)) (fun c hc => by
        simp only [List.nil_append, List.cons_append, List.mem_cons] at hc
        rcases hc with rfl | h
        · exact hA _ _
        · exact hb' c h) ?_
      (repeat (first | with_reducible (first | refine wL fun _ => ?_ | refine wD fun _ => ?_ | refine wE ?_ | refine adrZ.go ?_) | simp [go_sem]))
      refine aIf.mkL (fun h => ?_) (fun h => ?_)
      · (repeat (first | with_reducible (first | refine wL fun _ => ?_ | refine wD fun _ => ?_ | refine wE ?_ | refine adrZ.go ?_) | simp [go_sem, idxG_at hj i2 h]))
      · (repeat (first | with_reducible (first | refine wL fun _ => ?_ | refine wD fun _ => ?_ | refine wE ?_ | refine adrZ.go ?_) | simp [go_sem]))
        refine ALoop.start (hrec (d - 1) (by omega) (j + 1) ⟨by omega, fun i hi => ?_⟩) ?_ (by simp)
        · rcases Nat.lt_or_ge i j with h' | h'
          · exact i2 i h'
          · obtain rfl : i = j := by omega
            exact h
        · simp [go_sem, Wk_eq]
          exact hb'
    · have hn := idxG_none (p := p) (l := l) fun i hi => i2 i (by omega)
      (repeat (first | with_reducible (first | refine wL fun _ => ?_ | refine wD fun _ => ?_ | refine wE ?_ | refine adrZ.go ?_) | simp [go_sem, hn]))
  · simp
  · simp [go_sem, Wk_eq]
    exact hb'
  · simp
theorem ContainsFuncS_pure (l : List (Int × Int)) (hl : l.length ≤ 1048576) (f : FuncId) (caps : List AV) (p : (Int × Int) → Bool) (hp : ∀ x ∈ l, Pure Try.prog f (.agg (encStep x) :: caps) (.v (.bool (p x)))) (hb' : ∀ c ∈ caps, Bel 0 c) :
    Pure Try.prog 83 [encProg l, .fn (.func f) [] caps] (.v (.bool (l.any p))) := by
  refine Pure.of (ACallP.of_awp (by kernel_rfl) Try.func83 rfl rfl (Nat.le_of_ble_eq_true rfl) (by kernel_rfl) ?_)
  have hI := IndexFuncS_pure l hl f caps p hp hb'
  (repeat (first | with_reducible (first | refine wL fun _ => ?_ | refine wD fun _ => ?_ | refine wE ?_ | refine adrZ.go ?_) | simp [go_sem]))
  refine ACallP.plain hI (by simp [go_sem]; exact hb') ?_
  (repeat (first | with_reducible (first | refine wL fun _ => ?_ | refine wD fun _ => ?_ | refine wE ?_ | refine adrZ.go ?_) | simp [go_sem, idxG_any]))
end Go.Av
end
section
set_option linter.unusedSimpArgs false
set_option linter.unusedVariables false
namespace Go.Av
open Go

mutual
/-- y is x, its objects renamed -/
inductive Rn (σ : Nat → Nat) : AV → AV → Prop
  | same {x : AV} (h : Bel 0 x) : Rn σ x x
  | ref {o o' g sz i off : Nat} (h : o' = σ o) : Rn σ (.ref o g sz i off) (.ref o' g sz i off)
  | sl {o o' g sz i len : Nat} (h : o' = σ o) : Rn σ (.sl o g sz i len) (.sl o' g sz i len)
  | agg {xs ys : List AV} (h : RnL σ xs ys) : Rn σ (.agg xs) (.agg ys)
  | tup {xs ys : List AV} (h : RnL σ xs ys) : Rn σ (.tup xs) (.tup ys)
  | fn {f : Fn} {a b a' b' : List AV} (h : RnL σ a a') (h' : RnL σ b b') : Rn σ (.fn f a b) (.fn f a' b')
inductive RnL (σ : Nat → Nat) : List AV → List AV → Prop
  | nil : RnL σ [] []
  | cons {x y : AV} {xs ys : List AV} (h : Rn σ x y) (t : RnL σ xs ys) : RnL σ (x :: xs) (y :: ys)
end
inductive RnLL (σ : Nat → Nat) : List (List AV) → List (List AV) → Prop
  | same {rs : List (List AV)} (h : ∀ r ∈ rs, ∀ c ∈ r, Bel 0 c) : RnLL σ rs rs
  | nil : RnLL σ [] []
  | cons {x y : List AV} {xs ys : List (List AV)} (h : RnL σ x y) (t : RnLL σ xs ys) : RnLL σ (x :: xs) (y :: ys)
inductive RnO (σ : Nat → Nat) : AObj → AObj → Prop
  | rows {mt : Bool} {g sz : Nat} {rs rs' : List (List AV)} (h : RnLL σ rs rs') : RnO σ (.rows mt g sz rs) (.rows mt g sz rs')
inductive RnH (σ : Nat → Nat) : List (Nat × AObj) → List (Nat × AObj) → Prop
  | nil : RnH σ [] []
  | cons {o o' : Nat} {x y : AObj} {l l' : List (Nat × AObj)} (e : o' = σ o) (h : RnO σ x y) (t : RnH σ l l') : RnH σ ((o, x) :: l) ((o', y) :: l')
section
variable {σ : Nat → Nat} {φ φ' : Place} {w : World} {M M' : Nat → Prop}
theorem Rn.rel (hφ : ∀ o, φ' (σ o) = φ o) (hM : ∀ k, M' k → M k) {x y : AV} (hs : Rn σ x y) : ∀ {v : Value}, Rel φ w M x v → Rel φ' w M' y v := by
  refine Rn.rec (σ := σ) (motive_1 := fun x y _ => ∀ {v : Value}, Rel φ w M x v → Rel φ' w M' y v) (motive_2 := fun xs ys _ => ∀ {vs : List Value}, RelL φ w M xs vs → RelL φ' w M' ys vs)
    ?_ ?_ ?_ ?_ ?_ ?_ ?_ ?_ hs
  · intro x hb v hx; exact hx.closed hM hb
  · intro o o' g sz i off e v hx
    subst e
    cases hx with | ref ho hg h => exact .ref (by rw [hφ]; exact ho) hg h
  · intro o o' g sz i len e v hx
    subst e
    cases hx with | sl ho hg h => exact .sl (by rw [hφ]; exact ho) hg h
  · intro xs ys _ ih v hx
    cases hx with | agg hv h => exact .agg hv (ih h)
  · intro xs ys _ ih v hx
    cases hx with | tup h => exact .tup (ih h)
  · intro f a b a' b' _ _ ih1 ih2 v hx
    cases hx with | fn h1 h2 => exact .fn (ih1 h1) (ih2 h2)
  · intro vs hx; cases hx; exact .nil
  · intro x y xs ys _ _ ih1 ih2 vs hx
    cases hx with | cons h t => exact .cons (ih1 h) (ih2 t)
theorem Rn.back {m : Nat} (hφ : ∀ o, o < m → φ o = φ' (σ o)) (hM : ∀ k, M k → M' k) {x y : AV} (hs : Rn σ x y) : Bel m x → ∀ {v : Value}, Rel φ' w M' y v → Rel φ w M x v := by
  refine Rn.rec (σ := σ) (motive_1 := fun x y _ => Bel m x → ∀ {v : Value}, Rel φ' w M' y v → Rel φ w M x v) (motive_2 := fun xs ys _ => (∀ c ∈ xs, Bel m c) → ∀ {vs : List Value}, RelL φ' w M' ys vs → RelL φ w M xs vs)
    ?_ ?_ ?_ ?_ ?_ ?_ ?_ ?_ hs
  · intro x hb _ v hx; exact hx.closed hM hb
  · intro o o' g sz i off e hb v hx
    subst e
    cases hb with | ref hb => cases hx with | ref ho hg h => exact .ref (by rw [hφ _ hb]; exact ho) hg h
  · intro o o' g sz i len e hb v hx
    subst e
    cases hb with | sl hb => cases hx with | sl ho hg h => exact .sl (by rw [hφ _ hb]; exact ho) hg h
  · intro xs ys _ ih hb v hx
    cases hb with | agg hb => cases hx with | agg hv h => exact .agg hv (ih hb h)
  · intro xs ys _ ih hb v hx
    cases hb with | tup hb => cases hx with | tup h => exact .tup (ih hb h)
  · intro f a b a' b' _ _ ih1 ih2 hb v hx
    cases hb with | fn hb hb' => cases hx with | fn h1 h2 => exact .fn (ih1 hb h1) (ih2 hb' h2)
  · intro _ vs hx; cases hx; exact .nil
  · intro x y xs ys _ _ ih1 ih2 hb vs hx
    cases hx with | cons h t => exact .cons (ih1 (hb _ (by simp)) h) (ih2 (fun c hc => hb c (by simp [hc])) t)
theorem RnL.rel (hφ : ∀ o, φ' (σ o) = φ o) (hM : ∀ k, M' k → M k) : ∀ {xs ys : List AV} {vs : List Value}, RnL σ xs ys → RelL φ w M xs vs → RelL φ' w M' ys vs
  | [], _, _, .nil, .nil => .nil
  | _ :: _, _, _, .cons h t, .cons h' t' => .cons (h.rel hφ hM h') (t.rel hφ hM t')
theorem RnL.back {m : Nat} (hφ : ∀ o, o < m → φ o = φ' (σ o)) (hM : ∀ k, M k → M' k) : ∀ {xs ys : List AV} {vs : List Value}, RnL σ xs ys → (∀ c ∈ xs, Bel m c) → RelL φ' w M' ys vs → RelL φ w M xs vs
  | [], _, _, .nil, _, .nil => .nil
  | _ :: _, _, _, .cons h t, hb, .cons h' t' => .cons (h.back hφ hM (hb _ (by simp)) h') (t.back hφ hM (fun c hc => hb c (by simp [hc])) t')
theorem RnL.length : ∀ {xs ys : List AV}, RnL σ xs ys → ys.length = xs.length
  | [], _, .nil => rfl
  | _ :: _, _, .cons _ t => by simp [t.length]
theorem RnLL.rel (hφ : ∀ o, φ' (σ o) = φ o) (hM : ∀ k, M' k → M k) {xs ys : List (List AV)} (hs : RnLL σ xs ys) :
    ∀ {vs : List Value}, RelL φ w M xs.flatten vs → RelL φ' w M' ys.flatten vs := by
  induction hs with
  | same h =>
    intro vs hx
    refine RelL.of_get hx.length fun k hk hk' => (hx.get k hk hk').closed hM ?_
    obtain ⟨r, hr, hc⟩ := List.mem_flatten.1 (List.getElem_mem hk)
    exact h r hr _ hc
  | nil => intro vs hx; cases hx; exact .nil
  | cons h _ ih =>
    intro vs hx
    rw [List.flatten_cons] at hx ⊢
    obtain ⟨us, ts, rfl, h1, h2⟩ := hx.split
    exact (h.rel hφ hM h1).append (ih h2)
theorem RnLL.back {m : Nat} (hφ : ∀ o, o < m → φ o = φ' (σ o)) (hM : ∀ k, M k → M' k) {xs ys : List (List AV)} (hs : RnLL σ xs ys) :
    (∀ r ∈ xs, ∀ c ∈ r, Bel m c) → ∀ {vs : List Value}, RelL φ' w M' ys.flatten vs → RelL φ w M xs.flatten vs := by
  induction hs with
  | same h =>
    intro _ vs hx
    refine RelL.of_get hx.length fun k hk hk' => (hx.get k hk hk').closed hM ?_
    obtain ⟨r, hr, hc⟩ := List.mem_flatten.1 (List.getElem_mem hk)
    exact h r hr _ hc
  | nil => intro _ vs hx; cases hx; exact .nil
  | cons h _ ih =>
    intro hb vs hx
    rw [List.flatten_cons] at hx ⊢
    obtain ⟨us, ts, rfl, h1, h2⟩ := hx.split
    exact (h.back hφ hM (hb _ (by simp)) h1).append (ih (fun r hr => hb r (by simp [hr])) h2)
theorem RnLL.shape {xs ys : List (List AV)} (hs : RnLL σ xs ys) : ys.length = xs.length ∧ (∀ sz, (∀ r ∈ xs, r.length = sz) → ∀ r ∈ ys, r.length = sz) ∧ ∀ sz, (∀ r ∈ ys, r.length = sz) → ∀ r ∈ xs, r.length = sz := by
  induction hs with
  | same h => exact ⟨rfl, fun _ h => h, fun _ h => h⟩
  | nil => exact ⟨rfl, fun _ h => h, fun _ h => h⟩
  | cons h _ ih =>
    refine ⟨by simp [ih.1], fun sz hr r hm => ?_, fun sz hr r hm => ?_⟩
    · rcases List.mem_cons.1 hm with rfl | hm
      · rw [h.length]; exact hr _ (by simp)
      · exact ih.2.1 sz (fun r hr' => hr r (by simp [hr'])) r hm
    · rcases List.mem_cons.1 hm with rfl | hm
      · rw [← h.length]; exact hr _ (by simp)
      · exact ih.2.2 sz (fun r hr' => hr r (by simp [hr'])) r hm
theorem RnH.at {l l' : List (Nat × AObj)} (hinj : ∀ a b, σ a = σ b → a = b) (hs : RnH σ l l') {o : Nat} {y : AObj} (ho : mkH l' o = some y) : ∃ o0 x, o = σ o0 ∧ mkH l o0 = some x ∧ RnO σ x y := by
  induction hs with
  | nil => cases ho
  | @cons o1 o1' x1 y1 l l' e1 h _ ih =>
    simp only [mkH, upd] at ho ⊢
    split at ho
    · rename_i e
      cases ho
      exact ⟨o1, x1, e.trans e1, by simp, h⟩
    · rename_i e
      obtain ⟨o0, x, rfl, h1, h2⟩ := ih ho
      refine ⟨o0, x, rfl, ?_, h2⟩
      rw [if_neg (fun h => e (by rw [h, e1]))]; exact h1
end
/-- where the objects of the one that is called lie with the caller: the first ones are given, the others are new -/
def ren (rs : List Nat) (n : Nat) (j : Nat) : Nat := if j < rs.length then rs.getD j 0 else n + (j - rs.length)
def remH : List Nat → Heap → Heap
  | [], h => h
  | o :: l, h => upd (remH l h) o none
theorem remH_eq (h : Heap) : ∀ (l : List Nat) (o : Nat), remH l h o = if o ∈ l then none else h o
  | [], o => by simp [remH]
  | a :: l, o => by
    simp only [remH, upd, List.mem_cons]
    by_cases e : o = a
    · simp [e]
    · simp [e, remH_eq h l o]
theorem ren_mem {rs : List Nat} {n j : Nat} (h : j < rs.length) : ren rs n j ∈ rs := by
  unfold ren; rw [if_pos h, List.getD_eq_getElem?_getD, List.getElem?_eq_getElem h]; exact List.getElem_mem h
theorem ren_inj {rs : List Nat} {n : Nat} (hd : rs.Nodup) (hlt : ∀ o ∈ rs, o < n) : ∀ a b, ren rs n a = ren rs n b → a = b := by
  intro a b he
  by_cases ha : a < rs.length <;> by_cases hb : b < rs.length
  · unfold ren at he
    rw [if_pos ha, if_pos hb, List.getD_eq_getElem?_getD, List.getD_eq_getElem?_getD, List.getElem?_eq_getElem ha, List.getElem?_eq_getElem hb] at he
    exact (List.getElem_inj hd).1 (by simpa using he)
  · have h1 := hlt _ (ren_mem (n := n) ha)
    rw [he] at h1
    unfold ren at h1
    rw [if_neg hb] at h1; omega
  · have h1 := hlt _ (ren_mem (n := n) hb)
    rw [← he] at h1
    unfold ren at h1
    rw [if_neg ha] at h1; omega
  · unfold ren at he
    rw [if_neg ha, if_neg hb] at he; omega
/-- f, called at args where the objects HA lie (ids below m), gives R0 and leaves the objects H0: k2 ids -/
def OwnsA (P : Program) (f : FuncId) (args : List AV) (HA : List (Nat × AObj)) (m : Nat) (R0 : AV) (H0 : List (Nat × AObj)) (k2 : Nat) : Prop :=
  ACallP P f args (mkH HA) m (fun r h n' => Wk (fun _ => r) h n' [(0, R0)] H0 k2)
/-- A CALL OF A FUNCTION THAT IS GIVEN OBJECTS OF OURS (those of rs), and turns them. -/
theorem ACallP.ownsA {P : Program} {f : FuncId} {args args' args0 : List AV} {h : Heap} {n m k2 : Nat} {K : CallK} {R0 R : AV} {HA H0 HH : List (Nat × AObj)} (rs : List Nat) (h' : Heap)
    (hp : OwnsA P f args0 HA m R0 H0 k2) (hd : rs.Nodup) (hlt : ∀ o ∈ rs, o < n) (hm : rs.length = m) (hmk : m ≤ k2) (hfz : Frz h h')
    (hA : ∀ j, j < m → ∃ x y, mkH HA j = some x ∧ h' (ren rs n j) = some y ∧ RnO (ren rs n) x y) (hAb : ∀ p ∈ HA, p.1 < m ∧ BelO m p.2)
    (hle : LeRow h h' n args args') (hb' : ∀ c ∈ args', Bel n c) (hargs0 : RnL (ren rs n) args0 args') (hb0 : ∀ c ∈ args0, Bel m c)
    (hR : Rn (ren rs n) R0 R) (hHH : RnH (ren rs n) H0 HH) (hk : K R (over HH (remH rs h')) (n + (k2 - m))) : ACallP P f args h n K := by
  refine ⟨hp.1, fun M0 φ w vs hH hargs => ?_⟩
  obtain ⟨hH', st0⟩ := hH.freeze hfz
  have hσ := ren_inj hd hlt
  have hmt : ∀ o g sz rs, h' o = some (.rows true g sz rs) → h o = some (.rows true g sz rs) := by
    intro o g sz rs ho
    rcases hfz o with h1 | ⟨g1, sz1, rs1, h1, h2⟩
    · rw [← h1]; exact ho
    · rw [h2] at ho; cases ho
  have hmut0 : ∀ k, Mut φ h' k → Mut φ h k := by
    rintro k ⟨o, g, sz, rs, g', a, bs, ho, hp, rfl⟩
    exact ⟨o, g, sz, rs, g', a, bs, hmt _ _ _ _ ho, hp, rfl⟩
  -- the arguments, where what is frozen is frozen
  have hv : RelL φ w (Or M0 (Mut φ h')) args' vs := by
    refine LeRow.rel (φ' := φ) (n' := n) hH (fun {x v} _ hx => hx.keep φ.le_refl (fun _ _ _ => rfl) (fun k hk => .inl (hk.imp id (hmut0 k)))) ?_ (fun o g sz h1 _ h2 => by omega) hle hb' hargs
    rintro o mt g sz rs a bs ho hp ho' h0 (hk | ⟨o', g', sz', rs', g'', a', bs', ho1, hp1, he⟩)
    · exact h0 hk
    · have hne : o' ≠ o := fun e => by subst e; exact ho' _ _ _ ho1
      have ho0 := hmt _ _ _ _ ho1
      have hg : g'' = g' := by
        obtain ⟨A2, hA2, _⟩ := hH.obj _ _ _ _ _ ho0
        rw [hp1] at hA2
        simp only [Option.some.injEq, Prod.mk.injEq] at hA2
        exact hA2.1
      subst hg
      exact hH.inj _ _ _ _ _ _ _ _ _ _ _ _ _ _ ho0 ho hne (.inl rfl) hp1 hp he
  -- what is not given
  let hr : Heap := fun o => if o ∈ rs then none else h' o
  have hrmut : ∀ k, Mut φ hr k → Mut φ h' k := by
    rintro k ⟨o, g, sz, rs1, g', a, bs, ho, hp, rfl⟩
    simp only [hr] at ho
    split at ho
    · cases ho
    · exact ⟨o, g, sz, rs1, g', a, bs, ho, hp, rfl⟩
  let M1 : Nat → Prop := Or M0 (Mut φ hr)
  let φ0 : Place := fun j => if j < m then φ (ren rs n j) else none
  have hφ0 : ∀ j, j < m → φ0 j = φ (ren rs n j) := fun j hj => if_pos hj
  -- a given object
  have hgiv : ∀ j mt g sz rws, mkH HA j = some (.rows mt g sz rws) → j < m ∧ ∃ rws', h' (ren rs n j) = some (.rows mt g sz rws') ∧ RnLL (ren rs n) rws rws' ∧ ∀ r ∈ rws, ∀ c ∈ r, Bel m c := by
    intro j mt g sz rws hj
    have hjm := hAb _ (mkH_mem hj)
    obtain ⟨x, y, h1, h2, h3⟩ := hA j hjm.1
    rw [hj] at h1
    cases h1
    cases h3 with
    | rows h3 => exact ⟨hjm.1, _, h2, h3, hjm.2⟩
  have hgmut : ∀ k, Mut φ0 (mkH HA) k → ∃ j, j < m ∧ ∃ g sz rws g' a bs, h' (ren rs n j) = some (.rows true g sz rws) ∧ φ (ren rs n j) = some (g', some (a, bs)) ∧ a.block = k := by
    rintro k ⟨j, g, sz, rws, g', a, bs, ho, hp, rfl⟩
    obtain ⟨hj, rws', h1, _⟩ := hgiv _ _ _ _ _ ho
    rw [hφ0 j hj] at hp
    exact ⟨j, hj, g, sz, rws', g', a, bs, h1, hp, rfl⟩
  have hgmut' : ∀ k, Mut φ0 (mkH HA) k → Mut φ h' k := fun k hk => by
    obtain ⟨j, _, g, sz, rws, g', a, bs, h1, h2, h3⟩ := hgmut k hk
    exact ⟨_, g, sz, rws, g', a, bs, h1, h2, h3⟩
  have hgen : ∀ {o mt g sz rws g' A}, h' o = some (.rows mt g sz rws) → φ o = some (g', A) → g' = g := by
    intro o mt g sz rws g' A ho hp
    obtain ⟨A2, hA2, _⟩ := hH'.obj _ _ _ _ _ ho
    rw [hp] at hA2
    simp only [Option.some.injEq, Prod.mk.injEq] at hA2
    exact hA2.1
  have hM1 : ∀ k, Or M1 (Mut φ0 (mkH HA)) k → Or M0 (Mut φ h') k := by
    rintro k ((hk | hk) | hk)
    · exact .inl hk
    · exact .inr (hrmut k hk)
    · exact .inr (hgmut' k hk)
  have hH1 : HRel φ0 m w M1 (mkH HA) := by
    refine ⟨fun k hk => hH'.blk (hk.imp id (hrmut k)), fun o ho => if_neg (by omega), fun j mt g sz rws hj => ?_, fun o o' mt g sz rws mt' g' sz' rws' a a' b b' ho ho' hne hmm hp hp' => ?_⟩
    · obtain ⟨hjm, rws', h1, h2, h3⟩ := hgiv _ _ _ _ _ hj
      obtain ⟨A, hA1, hc⟩ := hH'.obj _ _ _ _ _ h1
      refine ⟨A, by rw [hφ0 j hjm]; exact hA1, hc.imp (fun h => ⟨h.1, ?_⟩) ?_⟩
      · obtain ⟨_, rfl⟩ := h
        exact List.eq_nil_of_length_eq_zero h2.shape.1.symm
      · rintro ⟨a, bs, C, T, c1, c2, c3, c4, c5, c6, c7, c8, c9⟩
        refine ⟨a, bs, C, T, c1, c2, ?_, c4, c5, h2.shape.2.2 sz c6, by rw [← h2.shape.1]; exact c7, by rw [← h2.shape.1]; exact c8, ?_⟩
        · rintro (hk | ⟨o', g1, sz1, rs1, g1', a', bs', ho1, hp1, he⟩)
          · exact c3 hk
          · simp only [hr] at ho1
            split at ho1
            · cases ho1
            · rename_i hni
              obtain rfl := hgen ho1 hp1
              subst c1
              exact hH'.inj _ _ _ _ _ _ _ _ _ _ _ _ _ _ ho1 h1 (fun e => hni (e ▸ ren_mem (by omega))) (.inl rfl) hp1 hA1 he
        · rw [← h2.shape.1]
          exact h2.back hφ0 hM1 h3 c9
    · obtain ⟨hj, r1, h1, _⟩ := hgiv _ _ _ _ _ ho
      obtain ⟨hj', r1', h1', _⟩ := hgiv _ _ _ _ _ ho'
      rw [hφ0 o hj] at hp
      rw [hφ0 o' hj'] at hp'
      exact hH'.inj _ _ _ _ _ _ _ _ _ _ _ _ _ _ h1 h1' (fun e => hne (hσ _ _ e)) hmm hp hp'
  have hargs1 : RelL φ0 w (Or M1 (Mut φ0 (mkH HA))) args0 vs := hargs0.back hφ0 hM1 hb0 hv
  refine (hp.2 _ φ0 w vs hH1 hargs1).mono ?_
  rintro e w' ⟨v, φ1, r, h1, n', rfl, hK, hH2, hx, st⟩
  obtain ⟨φ2, hH3, hx3, hm3, hst⟩ := hK.sound hH2 (tmps := fun _ => v) (fun _ => hx)
  have hx3 := hx3 0
  simp only [mkE, upd_same] at hx3
  -- the given ids, later
  have hlater : ∀ j x, j < m → φ (ren rs n j) = some x → ∃ x', φ2 j = some x' ∧ x.1 ≤ x'.1 ∧ (x'.1 = x.1 → x' = x) := by
    intro j x hj hx
    obtain ⟨x', h1, h2, h3⟩ := st.le j x (by rw [hφ0 j hj]; exact hx)
    exact ⟨x', hst j x' (by omega) h1, h2, h3⟩
  let φ3 : Place := fun o => if o ∈ rs then φ2 (rs.idxOf o) else if o < n then φ o else φ2 (o - n + m)
  have hidx : ∀ j, j < m → rs.idxOf (ren rs n j) = j := by
    intro j hj
    have h1 := List.idxOf_lt_length_of_mem (ren_mem (rs := rs) (n := n) (j := j) (by omega))
    refine hσ _ _ ?_
    have h2 := List.getElem_idxOf h1
    unfold ren at h1 h2 ⊢
    rw [if_pos h1, List.getD_eq_getElem?_getD, List.getElem?_eq_getElem h1]
    exact h2
  have e3 : ∀ o, φ3 (ren rs n o) = φ2 o := by
    intro o
    by_cases ho : o < m
    · simp only [φ3]
      rw [if_pos (ren_mem (by omega)), hidx o ho]
    · have hge : ren rs n o = n + (o - m) := by unfold ren; rw [if_neg (by omega), hm]
      simp only [φ3]
      rw [hge, if_neg (fun hmem => by have := hlt _ hmem; omega), if_neg (by omega)]
      congr 1; omega
  have e3' : ∀ o, o < n → o ∉ rs → φ3 o = φ o := fun o ho hni => by simp only [φ3]; rw [if_neg hni, if_pos ho]
  have hltn : ∀ o x, φ o = some x → o < n := fun o x ho => Nat.lt_of_not_le fun hle => by rw [hH.fresh o hle] at ho; cases ho
  have hren : ∀ o, o ∈ rs → ∃ j, j < m ∧ o = ren rs n j := by
    intro o ho
    obtain ⟨j, hj, rfl⟩ := List.getElem_of_mem ho
    exact ⟨j, by omega, by unfold ren; rw [if_pos hj, List.getD_eq_getElem?_getD, List.getElem?_eq_getElem hj]; rfl⟩
  have hle3 : φ.le φ3 := by
    intro o x ho
    by_cases hmem : o ∈ rs
    · obtain ⟨j, hj, rfl⟩ := hren o hmem
      rw [e3]; exact hlater j x hj ho
    · exact ⟨x, by rw [e3' o (hltn _ _ ho) hmem]; exact ho, Nat.le_refl _, fun _ => rfl⟩
  have hheap : ∀ k, k < w.heap.size → ¬ Mut φ0 (mkH HA) k → w'.heap[k]? = w.heap[k]? := fun k hk hn => st.fr.block k hk hn
  -- where an object comes from
  have hsrc : ∀ o y, over HH (remH rs h') o = some y → (∃ o0 x, o = ren rs n o0 ∧ mkH H0 o0 = some x ∧ RnO (ren rs n) x y) ∨ (o < n ∧ o ∉ rs ∧ h' o = some y) := by
    intro o x ho
    rw [over_eq] at ho
    split at ho
    · rename_i y hy
      cases ho
      exact .inl (hHH.at hσ hy)
    · rw [remH_eq] at ho
      split at ho
      · cases ho
      · rename_i hni
        cases x with
        | rows mt g sz rws =>
          obtain ⟨A, hA, _⟩ := hH'.obj _ _ _ _ _ ho
          exact .inr ⟨hltn _ _ hA, hni, ho⟩
  have hmut : ∀ k, Mut φ3 (over HH (remH rs h')) k → Mut φ2 (mkH H0) k ∨ Mut φ hr k := by
    rintro k ⟨o, g, sz, rws, g', a, bs, ho, hp, rfl⟩
    rcases hsrc o _ ho with ⟨o0, x, rfl, h1, h2⟩ | ⟨h1, hni, h2⟩
    · cases h2 with
      | rows h2 => rw [e3] at hp; exact .inl ⟨o0, g, sz, _, g', a, bs, h1, hp, rfl⟩
    · rw [e3' o h1 hni] at hp
      exact .inr ⟨o, g, sz, rws, g', a, bs, by simp only [hr]; rw [if_neg hni]; exact h2, hp, rfl⟩
  have hmnew : ∀ k, Mut φ2 (mkH H0) k → Mut φ0 (mkH HA) k ∨ w.heap.size ≤ k := fun k hk => st.mutd k (hm3 k hk)
  have hsub : ∀ k, Or M0 (Mut φ3 (over HH (remH rs h'))) k → Or M1 (Mut φ2 (mkH H0)) k := fun k hk => hk.elim (fun h => .inl (.inl h)) fun h => (hmut k h).elim .inr fun h => .inl (.inr h)
  have hmutd : ∀ k, Mut φ3 (over HH (remH rs h')) k → Mut φ h' k ∨ w.heap.size ≤ k := fun k hk =>
    (hmut k hk).elim (fun h => (hmnew k h).imp (hgmut' k) id) fun h => .inl (hrmut k h)
  have hsub' : ∀ k, Or M0 (Mut φ3 (over HH (remH rs h'))) k → Or M0 (Mut φ h') k ∨ w.heap.size ≤ k := fun k hk => hk.elim (fun h => .inl (.inl h)) fun h => (hmutd k h).imp .inr id
  have hblk : ∀ o x g' a bs, h' o = some x → φ o = some (g', some (a, bs)) → a.block < w.heap.size := by
    intro o x g' a bs ho hp
    cases x with
    | rows mt g sz rws =>
      obtain ⟨A, hA, hc⟩ := hH'.obj _ _ _ _ _ ho
      rw [hp] at hA
      simp only [Option.some.injEq, Prod.mk.injEq] at hA
      obtain ⟨rfl, rfl⟩ := hA
      rcases hc with ⟨h, _⟩ | ⟨a', bs', C, T, h, _, _, h2, _⟩
      · cases h
      · simp only [Option.some.injEq, Prod.mk.injEq] at h
        obtain ⟨rfl, rfl⟩ := h
        exact (Array.getElem?_eq_some_iff.1 h2).1
  -- an object that was not given lies in no block that was turned
  have hkeep : ∀ o mt g sz rws g' a bs, o ∉ rs → h' o = some (.rows mt g sz rws) → φ o = some (g', some (a, bs)) → ¬ Mut φ0 (mkH HA) a.block := by
    intro o mt g sz rws g' a bs hni ho hp hk
    obtain ⟨j, hj, g1, sz1, rws1, g1', a1, bs1, q1, q2, q3⟩ := hgmut _ hk
    obtain rfl := hgen ho hp
    obtain rfl := hgen q1 q2
    exact hH'.inj _ _ _ _ _ _ _ _ _ _ _ _ _ _ q1 ho (fun e => hni (e ▸ ren_mem (by omega))) (.inl rfl) q2 hp q3
  have hfar : ∀ o0 mt g sz rws g' a bs o' y g1 a' b', mkH H0 o0 = some (.rows mt g sz rws) → φ2 o0 = some (g', some (a, bs)) → o' ∉ rs → h' o' = some y → φ o' = some (g1, some (a', b')) →
      (mt = true ∨ ∃ g sz rs, y = .rows true g sz rs) → a.block ≠ a'.block := by
    intro o0 mt g sz rws g' a bs o' y g1 a' b' q1 q2 hni q3 q4 hmm
    have hb1 := hblk _ _ _ _ _ q3 q4
    rcases hmm with rfl | ⟨g2, sz2, rs2, rfl⟩
    · rcases hmnew a.block ⟨o0, g, sz, rws, _, a, bs, q1, q2, rfl⟩ with hk | hk
      · intro he
        cases y with
        | rows mt1 g1' sz1 rws1 => exact hkeep _ _ _ _ _ _ _ _ hni q3 q4 (he ▸ hk)
      · omega
    · intro he
      obtain ⟨A, hA, hc⟩ := hH3.obj _ _ _ _ _ q1
      rw [q2] at hA
      simp only [Option.some.injEq, Prod.mk.injEq] at hA
      obtain ⟨_, rfl⟩ := hA
      rcases hc with ⟨h, _⟩ | ⟨a1, bs1, C, T, h, _, hn0, _⟩
      · cases h
      · simp only [Option.some.injEq, Prod.mk.injEq] at h
        obtain ⟨rfl, rfl⟩ := h
        exact hn0 (.inr ⟨o', g2, sz2, rs2, _, a', b', by simp only [hr]; rw [if_neg hni]; exact q3, q4, he.symm⟩)
  refine ⟨v, φ3, R, over HH (remH rs h'), n + (k2 - m), rfl, hk, ⟨fun k hk => Nat.lt_of_lt_of_le (hH.m0 k hk) st.fr.size, fun o ho => ?_, fun o mt g sz rws ho => ?_, fun o o' mt g sz rws mt' g' sz' rws' a a' b b' ho ho' hne hmm hp hp' => ?_⟩,
    hR.rel e3 hsub hx3, st0.trans ⟨hle3, hsub', ⟨st.fr.os, st.fr.tape, st.fr.output, st.fr.drawn, st.fr.size, fun k hk hn => hheap k hk (fun hg => hn (hgmut' k hg))⟩, hmutd⟩⟩
  · have h1 : ren rs n (o - n + m) = o := by unfold ren; rw [if_neg (by omega)]; omega
    rw [← h1, e3]; exact hH3.fresh _ (by omega)
  · rcases hsrc o _ ho with ⟨o0, x, rfl, h1, h2⟩ | ⟨h1, hni, h2⟩
    · cases h2 with
      | rows hs =>
        obtain ⟨A, hA, hc⟩ := hH3.obj _ _ _ _ _ h1
        refine ⟨A, by rw [e3]; exact hA, hc.imp (fun h => ⟨h.1, ?_⟩) ?_⟩
        · obtain ⟨_, rfl⟩ := h
          exact List.eq_nil_of_length_eq_zero hs.shape.1
        · rintro ⟨a, bs, C, T, c1, c2, c3, c4, c5, c6, c7, c8, c9⟩
          refine ⟨a, bs, C, T, c1, c2, fun hk => c3 (.inl hk), c4, c5, hs.shape.2.1 sz c6, by rw [hs.shape.1]; exact c7, by rw [hs.shape.1]; exact c8, ?_⟩
          rw [hs.shape.1]
          exact hs.rel e3 hsub c9
    · obtain ⟨A, hA, hc⟩ := hH'.obj _ _ _ _ _ h2
      refine ⟨A, by rw [e3' o h1 hni]; exact hA, hc.imp id ?_⟩
      rintro ⟨a, bs, C, T, c1, c2, c3, c4, c5, c6, c7, c8, c9⟩
      refine ⟨a, bs, C, T, c1, c2, c3, ?_, c5, c6, c7, c8, c9.keep hle3 (fun k hn hk => hheap k hk (fun hg => hn (.inr (hgmut' k hg)))) hsub'⟩
      rw [hheap _ (Array.getElem?_eq_some_iff.1 c4).1 (hkeep _ _ _ _ _ _ _ _ hni h2 (by rw [hA, c1]))]; exact c4
  · rcases hsrc o _ ho with ⟨o0, x, rfl, q1, q2⟩ | ⟨q1, qn, q2⟩ <;> rcases hsrc o' _ ho' with ⟨o0', x', rfl, q1', q2'⟩ | ⟨q1', qn', q2'⟩
    · cases q2; cases q2'
      rw [e3] at hp hp'
      exact hH3.inj _ _ _ _ _ _ _ _ _ _ _ _ _ _ q1 q1' (fun e => hne (by rw [e])) hmm hp hp'
    · cases q2
      rw [e3] at hp; rw [e3' o' q1' qn'] at hp'
      exact hfar _ _ _ _ _ _ _ _ _ _ _ _ _ q1 hp qn' q2' hp' (hmm.imp id fun h => by subst h; exact ⟨_, _, _, rfl⟩)
    · cases q2'
      rw [e3' o q1 qn] at hp; rw [e3] at hp'
      exact Ne.symm (hfar _ _ _ _ _ _ _ _ _ _ _ _ _ q1' hp' qn q2 hp (hmm.symm.imp id fun h => by subst h; exact ⟨_, _, _, rfl⟩))
    · rw [e3' o q1 qn] at hp; rw [e3' o' q1' qn'] at hp'
      exact hH'.inj _ _ _ _ _ _ _ _ _ _ _ _ _ _ q2 q2' hne hmm hp hp'
theorem Bel.mono {n m : Nat} (hnm : n ≤ m) {x : AV} (h : Bel n x) : Bel m x := by
  induction h with
  | top => exact .top
  | v x => exact .v x
  | agg _ ih => exact .agg ih
  | tup _ ih => exact .tup ih
  | lst _ ih => exact .lst ih
  | fp _ ih => exact .fp ih
  | ref h => exact .ref (by omega)
  | sl h => exact .sl (by omega)
  | fn _ _ ih1 ih2 => exact .fn ih1 ih2
  | gd _ ih => exact .gd ih
/-- one object is given, and turned: in a region that draws -/
theorem dCall.own1 {P : Program} {n : Nat} {ops : List Oper} {Q : Post} {m i : Nat} {rest : List Oper} {e : Env} {h : Heap} {acc : List DRec} {dst : Option Tmp} {f : FuncId} {first caps args args0 : List AV} {R0 R : AV} {o : Nat} {mt : Bool} {g g' sz : Nat} {rws rws' : List (List AV)}
    (hp : OwnsA P f args0 [(0, .rows mt g sz rws)] 1 R0 [(0, .rows true g' sz rws')] 1) (ho : h o = some (.rows mt g sz rws)) (hcl : ∀ r ∈ rws, ∀ c ∈ r, Bel 0 c) (hcl' : ∀ r ∈ rws', ∀ c ∈ r, Bel 0 c)
    (hargs : ∀ n₁, RnL (ren [o] n₁) args0 (first ++ args ++ caps)) (hb0 : ∀ c ∈ args0, Bel 1 c) (hb : ∀ n₁, o < n₁ → ∀ c ∈ first ++ args ++ caps, Bel n₁ c)
    (hR : ∀ n₁, Rn (ren [o] n₁) R0 R) (hfl : Flat R ∨ ∃ g sz i len, R = .sl o g sz i len)
    (hk : adr P n ops Q m (i + 1) rest (put e dst R) (upd h o (some (.rows true g' sz rws'))) (acc ++ [([o], [o])])) : dCall P n ops Q m i rest dst (.fn (.func f) first caps) args e h acc := by
  refine ⟨R, [o], [(o, some (.rows true g' sz rws'))], .inr (.inr (.inl ⟨f, first, caps, rfl, ?_, ?_, ?_, fun h₁ n₁ hx hn => ?_⟩)), hk⟩
  · intro o' ho'
    simp only [List.mem_singleton] at ho'
    subst ho'
    exact ⟨_, ho⟩
  · intro p hp
    simp only [List.mem_singleton] at hp
    subst hp
    exact ⟨by simp, g', sz, rws', rfl, hcl'⟩
  · exact hfl.imp id fun ⟨g, sz, i, len, h⟩ => ⟨o, g, sz, i, len, h, by simp⟩
  · have hon := hn o (by simp)
    have r0 : ren [o] n₁ 0 = o := rfl
    refine ACallP.ownsA (args' := first ++ args ++ caps) (HH := [(o, .rows true g' sz rws')]) [o] h₁ hp (by simp) (by simpa using hon) rfl (Nat.le_refl _) (.refl _) ?_ ?_ (.refl _ _ _ _) (hb n₁ hon) (hargs n₁) hb0 (hR n₁)
      (.cons r0.symm (.rows (.same hcl')) .nil) ⟨rfl, ?_, rfl⟩
    · intro j hj
      obtain rfl : j = 0 := by omega
      exact ⟨.rows mt g sz rws, .rows mt g sz rws, by simp [mkH, upd_same], by rw [r0, ← hx o (by simp)]; exact ho, .rows (.same hcl)⟩
    · intro p hp
      simp only [List.mem_singleton] at hp
      subst hp
      refine ⟨by simp, fun r hr c hc => ?_⟩
      exact Bel.mono (Nat.zero_le _) (hcl r hr c hc)
    · funext a
      simp only [over, remH, applyW, upd]
      split <;> rfl
/-- a call that gives new objects: in a region that draws -/
theorem dCall.owns {P : Program} {n : Nat} {ops : List Oper} {Q : Post} {m i : Nat} {rest : List Oper} {e : Env} {h : Heap} {acc : List DRec} {dst : Option Tmp} {f : FuncId} {first caps args args' : List AV} {R : Nat → AV} {HH : Nat → List (Nat × AObj)} {k2 : Nat}
    (b : Nat) (hbb : b = n + ops.length + 16 * i) (hp : Owns P f args' R HH k2) (hk16 : k2 ≤ 16) (hnR : NoFz (R 0)) (hnH : ∀ p ∈ HH 0, NoFzO p.2) (hle : ∀ h₁ : Heap, LeRow h₁ noH 0 (first ++ args ++ caps) args') (hb : ∀ c ∈ args', Bel 0 c)
    (hnd : ((HH b).map (·.1)).Nodup) (hk : adr P n ops Q m (i + 1) rest (put e dst (R b)) (over (HH b) h) (acc ++ [([newMark], (HH b).map (·.1))])) : dCall P n ops Q m i rest dst (.fn (.func f) first caps) args e h acc := by
  subst hbb
  refine ⟨R _, [newMark], (HH (n + ops.length + 16 * i)).map (fun p => (p.1, some p.2)), .inr (.inr (.inr ⟨f, first, caps, args', R 0, HH 0, HH (n + ops.length + 16 * i), k2, rfl, by simp, hk16, hb, hp.1, hnR, hnH, (hp.2 _).1, (hp.2 _).2, hnd, rfl, fun h₁ _ => hle h₁⟩)), ?_⟩
  rw [applyW_over hnd, List.map_map]
  exact hk
/-- .. where objects of ours (S) may be read -/
theorem dCall.ownsR {P : Program} {n : Nat} {ops : List Oper} {Q : Post} {m i : Nat} {rest : List Oper} {e : Env} {h : Heap} {acc : List DRec} {dst : Option Tmp} {f : FuncId} {first caps args args' : List AV} {R : Nat → AV} {HH : Nat → List (Nat × AObj)} {k2 : Nat}
    (S : List Nat) (b : Nat) (hbb : b = n + ops.length + 16 * i) (hp : Owns P f args' R HH k2) (hk16 : k2 ≤ 16) (hnR : NoFz (R 0)) (hnH : ∀ p ∈ HH 0, NoFzO p.2) (hle : ∀ h₁ : Heap, (∀ o ∈ S, h o = h₁ o) → LeRow h₁ noH 0 (first ++ args ++ caps) args') (hb : ∀ c ∈ args', Bel 0 c)
    (hnd : ((HH b).map (·.1)).Nodup) (hk : adr P n ops Q m (i + 1) rest (put e dst (R b)) (over (HH b) h) (acc ++ [(newMark :: S, (HH b).map (·.1))])) : dCall P n ops Q m i rest dst (.fn (.func f) first caps) args e h acc := by
  subst hbb
  refine ⟨R _, newMark :: S, (HH (n + ops.length + 16 * i)).map (fun p => (p.1, some p.2)), .inr (.inr (.inr ⟨f, first, caps, args', R 0, HH 0, HH (n + ops.length + 16 * i), k2, rfl, by simp, hk16, hb, hp.1, hnR, hnH, (hp.2 _).1, (hp.2 _).2, hnd, rfl, fun h₁ h2 => hle h₁ fun o ho => h2 o (List.mem_cons_of_mem _ ho)⟩)), ?_⟩
  rw [applyW_over hnd, List.map_map]
  exact hk
end Go.Av
end
section
set_option linter.unusedSimpArgs false
set_option linter.unusedVariables false
namespace Go.Av
open Go
section
variable {P : Program} {n0 : Nat} {Q : Post} {e : Env} {h : Heap} {n : Nat} {ops rest : List Oper}
def aRange (P : Program) (n0 : Nat) (ps : List Tmp) (a b : Code) (Q : Post) (v : AV) (e : Env) (h : Heap) (n : Nat) : Prop :=
  ∃ f caps caps' more rows h', v = .fn (.func f) [] caps ∧ Frz h h' ∧ LeRow h h' n caps caps' ∧ (∀ c ∈ caps', Bel 0 c) ∧ PSeq P f caps' more rows ∧
    (∀ xs ∈ rows, xs.length = ps.length) ∧ Fgt n0 (ARange n0 more ps (fun n1 => awp P n1 a) (fun n1 => awp P n1 b) Q rows) e h' n
theorem awp_rangeFunc (g : Operand) (ps : List Tmp) (a b : Code) : awp P n0 (.rangeFunc g ps.toArray a b) Q e h n = aRange P n0 ps a b Q (ev e g) e h n := rfl
@[congr] theorem aRange_congr {ps : List Tmp} {a b : Code} {v v' : AV} (hv : v = v') : aRange P n0 ps a b Q v e h n = aRange P n0 ps a b Q v' e h n := by subst hv; rfl
theorem aRange.mk {ps : List Tmp} {a b : Code} {f : FuncId} {caps : List AV} (caps' : List AV) (h' : Heap) {more : Nat} {rows : List (List AV)} (C : PSeq P f caps' more rows) (hfz : Frz h h') (hle : LeRow h h' n caps caps') (hb : ∀ c ∈ caps', Bel 0 c)
    (hlen : ∀ xs ∈ rows, xs.length = ps.length) (hk : Fgt n0 (ARange n0 more ps (fun n1 => awp P n1 a) (fun n1 => awp P n1 b) Q rows) e h' n) : aRange P n0 ps a b Q (.fn (.func f) [] caps) e h n :=
  ⟨f, caps, caps', more, rows, h', rfl, hfz, hle, hb, C, hlen, hk⟩
/-- a round -/
theorem ARange.go {ps : List Tmp} {a b : Code} {more : Nat} {xs : List AV} {rs : List (List AV)} (hn : n0 ≤ n)
    (hk : awp P n a (QNone (awp P n b (QRound (Fgt n0 (ARange n0 more ps (fun n1 => awp P n1 a) (fun n1 => awp P n1 b) Q rs)) Q e))) (putPs ps xs e) h n) :
    ARange n0 more ps (fun n1 => awp P n1 a) (fun n1 => awp P n1 b) Q (xs :: rs) e h n := ⟨hn, hk⟩
theorem ARange.stop {ps : List Tmp} {A B : Nat → Post → Env → Heap → Nat → Prop} {more : Nat} (hm : more = 0) (hk : Q .normal e h n) : ARange n0 more ps A B Q [] e h n := ⟨hm, hk⟩
theorem Fgt.to {K : Env → Heap → Nat → Prop} {E : List (Nat × AV)} {HH : List (Nat × AObj)} {n' : Nat} (hk : K (mkE E) (mkH HH) n') (hw : Wk e h n E HH n') (hn : n0 ≤ n') : Fgt n0 K e h n := .inr ⟨E, HH, n', hw, hn, hk⟩
/-- a range, by induction over its rows -/
theorem ARange.ind {α : Type} (S : α → List (Nat × AV) × List (Nat × AObj) × Nat) (inv : List (List AV) → α → Prop) {ps : List Tmp} {A B : Nat → Post → Env → Heap → Nat → Prop} {more : Nat}
    (h0 : ∀ d, inv [] d → more = 0 ∧ Q .normal (mkE (S d).1) (mkH (S d).2.1) (S d).2.2)
    (h1 : ∀ xs rs d, inv (xs :: rs) d → (∀ d', inv rs d' → ARange n0 more ps A B Q rs (mkE (S d').1) (mkH (S d').2.1) (S d').2.2) → ARange n0 more ps A B Q (xs :: rs) (mkE (S d).1) (mkH (S d).2.1) (S d).2.2) :
    ∀ rows d, inv rows d → ARange n0 more ps A B Q rows (mkE (S d).1) (mkH (S d).2.1) (S d).2.2
  | [], d, hi => h0 d hi
  | xs :: rs, d, hi => h1 xs rs d hi fun d' hi' => ARange.ind S inv h0 h1 rs d' hi'
theorem QNone_normal {K : Env → Heap → Nat → Prop} : QNone K .normal e h n = K e h n := rfl
theorem QRound_normal {K : Env → Heap → Nat → Prop} {e0 : Env} : QRound K Q e0 .normal e h n = K (upd e0 GH (e GH)) h n := rfl
theorem QRound_ret {K : Env → Heap → Nat → Prop} {e0 : Env} : QRound K Q e0 .ret e h n = Q .ret (upd e0 GH (e GH)) h n := rfl
theorem QRound_exit {K : Env → Heap → Nat → Prop} {e0 : Env} {id : Nat} : QRound K Q e0 (.exit id) e h n = Q (.exit id) (upd e0 GH (e GH)) h n := rfl
theorem putPs_nil {xs : List AV} : putPs [] xs e = e := by simp [putPs]
theorem putPs_cons {t : Tmp} {ps : List Tmp} {x : AV} {xs : List AV} : putPs (t :: ps) (x :: xs) e = putPs ps xs (upd e t x) := rfl
theorem RetI_normal {rs : List ResultVar} {l more : Nat} : RetI P rs l more .normal e h n = ((resL P e h rs).1 ∧ ((more = 0 ∧ e GH = ghost l 0 []) ∨ e GH = ghost l 2 [])) := rfl
theorem RetI_ret {rs : List ResultVar} {l more : Nat} : RetI P rs l more .ret e h n = ((resL P e h rs).1 ∧ ((more = 0 ∧ e GH = ghost l 0 []) ∨ e GH = ghost l 2 [])) := rfl
/-- a yield -/
theorem aYld.mk {dst : Option Tmp} {l more : Nat} {args xs : List AV} {rs : List (List AV)} (h' : Heap) (hg : e GH = ghost l more (xs :: rs)) (hfz : Frz h h') (hle : LeRow h h' n args xs) (hb : ∀ c ∈ xs, Bel 0 c)
    (hT : aops P ops Q rest (put (upd e GH (ghost l more rs)) dst (.v (.bool true))) h' n) (hF : aops P ops Q rest (put (upd e GH (ghost l 2 [])) dst (.v (.bool false))) h' n) : aYld P ops Q rest dst l args e h n :=
  ⟨l, more, xs :: rs, rfl, hg, h', hfz, hle, hb, hT, hF⟩
theorem aYld.exh {dst : Option Tmp} {l : Nat} {args : List AV} (hg : e GH = ghost l 1 []) : aYld P ops Q rest dst l args e h n := ⟨l, 1, [], rfl, hg, rfl⟩
theorem aGC.yld {dst : Option Tmp} {l more : Nat} {args xs : List AV} {rs : List (List AV)} (h' : Heap) (hg : e GH = ghost l more (xs :: rs)) (hfz : Frz h h') (hle : LeRow h h' n args xs) (hb : ∀ c ∈ xs, Bel 0 c)
    (hT : aops P ops Q rest (put (upd e GH (ghost l more rs)) dst (.gd true (.v (.bool true)))) h' n) (hF : aops P ops Q rest (put (upd e GH (ghost l 2 [])) dst (.gd true (.v (.bool false)))) h' n) :
    aGC P ops Q rest dst true (.fn (.yield l) [] []) args e h n := .inr (.inr ⟨rfl, l, more, xs :: rs, rfl, hg, h', hfz, hle, hb, hT, hF⟩)
theorem aGC.exh {dst : Option Tmp} {l : Nat} {args : List AV} (hg : e GH = ghost l 1 []) : aGC P ops Q rest dst true (.fn (.yield l) [] []) args e h n := .inr (.inr ⟨rfl, l, 1, [], rfl, hg, rfl⟩)
attribute [go_sem] awp_rangeFunc QNone_normal QRound_normal QRound_ret QRound_exit putPs_nil putPs_cons RetI_normal RetI_ret aCall_yield
end
end Go.Av
end
section
set_option linter.unusedSimpArgs false
set_option linter.unusedVariables false
namespace Go.Av
open Go
theorem ACallP.clear {P : Program} {f : FuncId} {args : List AV} {h : Heap} {n : Nat} {K : CallK}
    (hc : ACallP P f args h n (fun r h' n' => ∃ o mt g sz rs, h' o = some (.rows mt g sz rs) ∧ K r (upd h' o (some (.rows mt g sz []))) n')) : ACallP P f args h n K := by
  refine ⟨hc.1, fun M0 φ w vs hH hargs => (hc.2 M0 φ w vs hH hargs).mono ?_⟩
  rintro e w' ⟨v, φ', r, h', n', rfl, ⟨o, mt, g, sz, rs, ho, hK⟩, hH', hx, st⟩
  have hmut : Mut φ' (upd h' o (some (.rows mt g sz []))) = Mut φ' h' := by
    funext k
    refine propext ⟨?_, ?_⟩
    · rintro ⟨o1, g1, sz1, rs1, g', a, bs, h1, h2, h3⟩
      by_cases he : o1 = o
      · subst he
        rw [upd_same] at h1
        simp only [Option.some.injEq, AObj.rows.injEq] at h1
        obtain ⟨rfl, rfl, rfl, _⟩ := h1
        exact ⟨o1, g, sz, rs, g', a, bs, ho, h2, h3⟩
      · rw [upd_ne _ _ he] at h1
        exact ⟨o1, g1, sz1, rs1, g', a, bs, h1, h2, h3⟩
    · rintro ⟨o1, g1, sz1, rs1, g', a, bs, h1, h2, h3⟩
      by_cases he : o1 = o
      · subst he
        rw [ho] at h1
        simp only [Option.some.injEq, AObj.rows.injEq] at h1
        obtain ⟨rfl, rfl, rfl, _⟩ := h1
        exact ⟨o1, g, sz, [], g', a, bs, by rw [upd_same], h2, h3⟩
      · exact ⟨o1, g1, sz1, rs1, g', a, bs, by rw [upd_ne _ _ he]; exact h1, h2, h3⟩
  have hold : ∀ o1 mt1 g1 sz1 rs1, upd h' o (some (.rows mt g sz [])) o1 = some (.rows mt1 g1 sz1 rs1) → ∃ rs2, h' o1 = some (.rows mt1 g1 sz1 rs2) ∧ (rs1 = rs2 ∨ rs1 = []) := by
    intro o1 mt1 g1 sz1 rs1 h1
    by_cases he : o1 = o
    · subst he
      rw [upd_same] at h1
      simp only [Option.some.injEq, AObj.rows.injEq] at h1
      obtain ⟨rfl, rfl, rfl, rfl⟩ := h1
      exact ⟨rs, ho, .inr rfl⟩
    · rw [upd_ne _ _ he] at h1
      exact ⟨rs1, h1, .inl rfl⟩
  refine ⟨v, φ', r, _, n', rfl, hK, ⟨hH'.m0, hH'.fresh, fun o1 mt1 g1 sz1 rs1 h1 => ?_, fun o1 o2 mt1 g1 sz1 rs1 mt2 g2 sz2 rs2 a a' b b' h1 h2 => ?_⟩, by rw [hmut]; exact hx, st.le, by rw [hmut]; exact st.or, st.fr, by rw [hmut]; exact st.mutd⟩
  · obtain ⟨rs2, h2, h3⟩ := hold _ _ _ _ _ h1
    obtain ⟨A, hA, hobj⟩ := hH'.obj _ _ _ _ _ h2
    rcases h3 with rfl | rfl
    · rw [hmut]; exact ⟨A, hA, hobj⟩
    · refine ⟨A, hA, hobj.imp (fun h => ⟨h.1, rfl⟩) ?_⟩
      rintro ⟨a, bs, C, T, e1, e2, e3, e4, e5, e6, e7, e8, e9⟩
      exact ⟨a, bs, C, T, e1, e2, e3, e4, e5, by simp, by simp; omega, by simp, by simpa using RelL.nil⟩
  · obtain ⟨rs3, h3, _⟩ := hold _ _ _ _ _ h1
    obtain ⟨rs4, h4, _⟩ := hold _ _ _ _ _ h2
    exact hH'.inj _ _ _ _ _ _ _ _ _ _ _ _ _ _ h3 h4
end Go.Av
end
section
set_option linter.unusedSimpArgs false
set_option linter.unusedVariables false
open Go Go.Proofs Go.RowKit Go.Lib
namespace Go.Av
/-- what is asked of the function value -/
def PredD (P : Program) (g : Nat) (p : Nat → Bool) : Prop :=
  ∀ (W : World) (x : Nat), Calls P g #[.int .i32 (x : Int)] W fun e w' => e = .returned (.bool (p x)) ∧ Below W.heap.size W w' ∧ W.drawn ≤ w'.drawn
set_option maxHeartbeats 2000000 in
set_option maxRecDepth 1000000 in
theorem indexFunc_calls (g : Nat) (eg : ∀ args w, (callFunc g args).run Try.prog w = .ok (.enter g args) w) (p : Nat → Bool) (s : ByteArray) (w : World) (hp : PredD Try.prog g p) :
    Calls Try.prog 96 #[.string s, .func (.func g) #[] #[], .bool true] w fun e w' => e = .returned (.int .i64 (Lib.idxFunc p true s)) ∧ Below w.heap.size w w' ∧ w.drawn ≤ w'.drawn := by
  have t0 := Try.underlying0; have a0 := Try.isAgg0; have z0 := Try.sizeOf0; have v0 := Try.zeroValue0
  have t3 := Try.underlying3; have a3 := Try.isAgg3; have z3 := Try.sizeOf3; have v3 := Try.zeroValue3
  have t4 := Try.underlying4; have a4 := Try.isAgg4; have z4 := Try.sizeOf4; have v4 := Try.zeroValue4
  have t9 := Try.underlying9; have a9 := Try.isAgg9; have z9 := Try.sizeOf9; have v9 := Try.zeroValue9
  have t21 := Try.underlying21; have a21 := Try.isAgg21; have z21 := Try.sizeOf21; have v21 := Try.zeroValue21
  have t40 := Try.underlying149; have a40 := Try.isAgg149; have z40 := Try.sizeOf149; have v40 := Try.zeroValue149
  go_enter Try.func96, Try.ntmps96
  go_wp2
  go_loopg [] s.size (fun gf wx => ∃ pos : Nat, wx.heap[w.heap.size]? = some (.stringIter s pos) ∧ (Below w.heap.size w wx ∧ w.drawn ≤ wx.drawn) ∧ Lib.idxFuncFrom p true s gf pos = Lib.idxFunc p true s ∧ s.size ≤ pos + gf)
  case atStart => exact ⟨0, World.iter_heap w s 0, ⟨(Below.refl _ w).alloc (Nat.le_refl _) _, Nat.le_refl _⟩, rfl, by omega⟩
  case round =>
    obtain ⟨pos, hit, ⟨hbw, hdr⟩, hleft, hfu⟩ := hrel
    by_cases hps : pos < s.size
    · obtain ⟨g', rfl⟩ : ∃ g', gk = g' + 1 := ⟨gk - 1, by omega⟩
      have hnx : ∀ ty, (Instr.next (.pointer (some ⟨w.heap.size, 0, none⟩)) true ty).run Try.prog wr = _ := fun ty => Lib.run_next_any_at wr w.heap.size s pos ty hit hps
      have hwd := Lib.width_pos s pos
      obtain ⟨R, hR⟩ : ∃ R, (Utf8.decode s pos).1 = R := ⟨_, rfl⟩
      obtain ⟨K, hK⟩ : ∃ K, (Utf8.decode s pos).2 = K := ⟨_, rfl⟩
      simp only [Lib.idxFuncFrom, hps, if_true, hR, hK] at hleft
      rw [hR, hK] at hnx
      rw [hK] at hwd
      have hit2 := Lib.iterAt_heap wr w.heap.size s pos (pos + K) hit
      have hbw2 := Lib.below_iterAt hbw (k := w.heap.size) (Nat.le_refl _) s (pos + K)
      have hdr2 : w.drawn ≤ (wr.iterAt w.heap.size s (pos + K)).drawn := hdr
      obtain ⟨W, hWd⟩ : ∃ W, wr.iterAt w.heap.size s (pos + K) = W := ⟨_, rfl⟩
      rw [hWd] at hnx hit2 hbw2 hdr2
      have hltW : w.heap.size < W.heap.size := (Array.getElem?_eq_some_iff.1 hit2).1
      have cS : Calls Try.prog g (#[.int .i32 (R : Int)] ++ #[]) W _ := hp W R
      clear hp
      cases hsp : p R <;> rw [hsp] at cS <;> simp only [hsp, if_true, Bool.false_eq_true, Bool.true_eq_false, if_false] at hleft
      · go_wp2_with (go_at_fn g; refine cS.mono ?_; rintro e W' ⟨rfl, hbc, hdc⟩)
        go_roundg g'
        case measure => omega
        case rel => exact ⟨pos + K, (hbc.block _ hltW).trans hit2, ⟨(hbw2.trans (hbc.mono hbw2.size)), Nat.le_trans hdr2 hdc⟩, hleft, by omega⟩
      · go_wp2_with (go_at_fn g; refine cS.mono ?_; rintro e W' ⟨rfl, hbc, hdc⟩)
        go_ret
        exact ⟨by rw [← hleft] <;> rfl, (hbw2.trans (hbc.mono hbw2.size)), Nat.le_trans hdr2 hdc⟩
    · have hnx : ∀ ty, (Instr.next (.pointer (some ⟨w.heap.size, 0, none⟩)) true ty).run Try.prog wr = _ := fun ty => Lib.run_next_end_at wr w.heap.size s pos ty hit hps
      rw [Lib.idxFuncFrom_end p true s gk pos hps] at hleft
      go_wp2
      go_ret
      exact ⟨by rw [← hleft] <;> rfl, hbw, hdr⟩
end Go.Av
end
section
set_option linter.unusedSimpArgs false
set_option linter.unusedVariables false
open Go Go.Proofs
set_option maxRecDepth 20000
set_option maxHeartbeats 4000000
namespace Go.Av
theorem indexFunc_pure (g : FuncId) (p : Nat → Bool) (hg : ∀ x : Nat, Pure Try.prog g [.v (.int .i32 x)] (.v (.bool (p x)))) (s : ByteArray) :
    Pure Try.prog 96 [.v (.string s), .fn (.func g) [] [], .v (.bool true)] (.v (.int .i64 (Lib.idxFunc p true s))) := by
  refine ⟨enters_of Try.func96 rfl rfl, fun M w vs hM hr => ?_⟩
  cases hr with
  | cons h1 hr =>
  cases hr with
  | cons h2 hr =>
  cases hr with
  | cons h3 hr =>
  cases hr
  cases h1
  cases h3
  cases h2 with
  | @fn _ _ _ fs cs q1 q2 =>
  cases q1; cases q2
  have hp : PredD Try.prog g p := fun W x => by
    refine ((hg x).2 (fun _ => False) W [.int .i32 x] (fun _ h => h.elim) (.cons (.v _) .nil)).mono ?_
    rintro e w' ⟨v, rfl, hrv, hfr⟩
    cases hrv
    exact ⟨rfl, ⟨hfr.os, hfr.tape, hfr.output, hfr.size, fun k hk => hfr.block k hk (fun h => h)⟩, hfr.drawn⟩
  refine (indexFunc_calls g (hg 0).1 p s w hp).mono ?_
  rintro e w' ⟨rfl, hb, hd⟩
  exact ⟨_, rfl, .v _, ⟨hb.os, hb.tape, hb.output, hd, hb.size, fun k hk _ => hb.block k hk⟩⟩
theorem sIndexFunc_pure (g : FuncId) (p : Nat → Bool) (hg : ∀ x : Nat, Pure Try.prog g [.v (.int .i32 x)] (.v (.bool (p x)))) (s : ByteArray) :
    Pure Try.prog 85 [.v (.string s), .fn (.func g) [] []] (.v (.int .i64 (Lib.idxFunc p true s))) := by
  refine Pure.of (ACallP.of_awp (by kernel_rfl) Try.func85 rfl rfl (Nat.le_of_ble_eq_true rfl) (by kernel_rfl) ?_)
  have h := indexFunc_pure g p hg s
  (repeat (first | with_reducible (first | refine wL fun _ => ?_ | refine wD fun _ => ?_ | refine wE ?_ | refine adrZ.go ?_) | simp [go_sem]))
  refine ACallP.plain h (by simp [go_sem]) ?_
  (repeat (first | with_reducible (first | refine wL fun _ => ?_ | refine wD fun _ => ?_ | refine wE ?_ | refine adrZ.go ?_) | simp [go_sem]))
theorem notLetter_pure (x : Nat) : Pure Try.prog 86 [.v (.int .i32 x)] (.v (.bool (decide (x < 97 ∨ 122 < x)))) := by
  refine Pure.of (ACallP.of_awp (by kernel_rfl) Try.func86 rfl rfl (Nat.le_of_ble_eq_true rfl) (by kernel_rfl) ?_)
  have e1 : decide ((x : Int) < 97) = decide (x < 97) := decide_eq_decide.2 (by omega)
  have e2 : decide (122 < (x : Int)) = decide (122 < x) := decide_eq_decide.2 (by omega)
  (repeat (first | with_reducible (first | refine wL fun _ => ?_ | refine wD fun _ => ?_ | refine wE ?_ | refine adrZ.go ?_) | simp [go_sem, e1, e2]))
theorem validName_pure (s : ByteArray) (hs : s = nameA ∨ s = nameB) : Pure Try.prog 63 [.v (.string s)] (.v (.bool true)) := by
  refine Pure.of (ACallP.of_awp (by kernel_rfl) Try.func63 rfl rfl (Nat.le_of_ble_eq_true rfl) (by kernel_rfl) ?_)
  have hI := sIndexFunc_pure 86 (fun x => decide (x < 97 ∨ 122 < x)) notLetter_pure s
  have hidx : Lib.idxFunc (fun x => decide (x < 97 ∨ 122 < x)) true s = -1 := by rcases hs with rfl | rfl <;> decide +kernel
  rw [hidx] at hI
  have hne : (!s.toList.isEmpty && decide ((s.size : Int) ≤ 8)) = true := by rcases hs with rfl | rfl <;> decide +kernel
  (repeat (first | with_reducible (first | refine wL fun _ => ?_ | refine wD fun _ => ?_ | refine wE ?_ | refine adrZ.go ?_) | simp [go_sem, hne]))
  refine aGC.plain _ (fun _ => hI) (by simp [go_sem]) ?_
  (repeat (first | with_reducible (first | refine wL fun _ => ?_ | refine wD fun _ => ?_ | refine wE ?_ | refine adrZ.go ?_) | simp [go_sem]))
theorem find1_pure (k : KindD) (nm : ByteArray) : Pure Try.prog 87 [.agg (encKind k), .fp [.v (.string nm)]] (.v (.bool (k.name.toList == nm.toList))) := by
  refine Pure.of (ACallP.of_awp (by kernel_rfl) Try.func87 rfl rfl (Nat.le_of_ble_eq_true rfl) (by kernel_rfl) ?_)
  (repeat (first | with_reducible (first | refine wL fun _ => ?_ | refine wD fun _ => ?_ | refine wE ?_ | refine adrZ.go ?_) | simp [go_sem]))
theorem gFind_pure (g : GameD) (nm : ByteArray) (hk : g.kinds.length ≤ 1048576) : Pure Try.prog 64 [.agg (encGame g), .v (.string nm)] (.v (.int .i64 (idxG (fun k => k.name.toList == nm.toList) g.kinds))) := by
  refine Pure.of (ACallP.of_awp (by kernel_rfl) Try.func64 rfl rfl (Nat.le_of_ble_eq_true rfl) (by kernel_rfl) ?_)
  have hI := IndexFuncK_pure g.kinds hk 87 [.fp [.v (.string nm)]] (fun k => k.name.toList == nm.toList) (fun k _ => find1_pure k nm) (by simp [go_sem])
  (repeat (first | with_reducible (first | refine wL fun _ => ?_ | refine wD fun _ => ?_ | refine wE ?_ | refine adrZ.go ?_) | simp [go_sem]))
  refine ACallP.flat (args' := [.lst 3 (g.kinds.map encKind), .fn (.func 87) [] [.fp [.v (.string nm)]]]) hI (.v _) ?_ (by simp [go_sem]) ?_
  · refine .cons (.refl _) (.cons (.fn .nil (.cons (.frzP rfl ?_ ?_ ?_ ?_) .nil)) .nil) <;> first | exact LeRow.refl _ _ _ _ | simp [noH]
  (repeat (first | with_reducible (first | refine wL fun _ => ?_ | refine wD fun _ => ?_ | refine wE ?_ | refine adrZ.go ?_) | simp [go_sem]))
theorem isResult_pure (n : Int) : Pure Try.prog 60 [.v (.int .i64 n)] (.v (.bool (decide (1 ≤ n) && decide (n ≤ 3)))) := by
  refine Pure.of (ACallP.of_awp (by kernel_rfl) Try.func60 rfl rfl (Nat.le_of_ble_eq_true rfl) (by kernel_rfl) ?_)
  (repeat (first | with_reducible (first | refine wL fun _ => ?_ | refine wD fun _ => ?_ | refine wE ?_ | refine adrZ.go ?_) | simp [go_sem]))
theorem right_true (g : GameD) (c : Int × Int × Int × Int) (hk : g.kinds.length ≤ 1048576) (hc : ClauseOk g.cells g.kinds.length c) : Pure Try.prog 68 [.agg (encGame g), .agg (encClause c)] (.v (.bool true)) := by
  refine Pure.of (ACallP.of_awp (by kernel_rfl) Try.func68 rfl rfl (Nat.le_of_ble_eq_true rfl) (by kernel_rfl) ?_)
  obtain ⟨h1, ⟨h2, h2'⟩, ⟨h3, h4, h5, h6⟩, ⟨h7, h7'⟩, h8⟩ := hc
  have hR := isResult_pure c.2.2.2
  have e : (decide (1 ≤ c.2.2.2) && decide (c.2.2.2 ≤ 3)) = true := by simp [h7, h7']
  rw [e] at hR
  obtain ⟨a, b, n, t⟩ := c
  simp only at *
  rcases h1 with rfl | rfl | rfl
  · (repeat (first | with_reducible (first | refine wL fun _ => ?_ | refine wD fun _ => ?_ | refine wE ?_ | refine adrZ.go ?_) | simp [go_sem, h2, h2']))
    refine ACallP.plain hR (by simp [go_sem]) ?_
    (repeat (first | with_reducible (first | refine wL fun _ => ?_ | refine wD fun _ => ?_ | refine wE ?_ | refine adrZ.go ?_) | simp [go_sem, h4, h5]))
  · (repeat (first | with_reducible (first | refine wL fun _ => ?_ | refine wD fun _ => ?_ | refine wE ?_ | refine adrZ.go ?_) | simp [go_sem, h2, h2']))
    refine ACallP.plain hR (by simp [go_sem]) ?_
    (repeat (first | with_reducible (first | refine wL fun _ => ?_ | refine wD fun _ => ?_ | refine wE ?_ | refine adrZ.go ?_) | simp [go_sem, h4, h3]))
  · (repeat (first | with_reducible (first | refine wL fun _ => ?_ | refine wD fun _ => ?_ | refine wE ?_ | refine adrZ.go ?_) | simp [go_sem, h2, h2']))
    refine ACallP.plain hR (by simp [go_sem]) ?_
    (repeat (first | with_reducible (first | refine wL fun _ => ?_ | refine wD fun _ => ?_ | refine wE ?_ | refine adrZ.go ?_) | simp [go_sem, h8, h3, h6]))
end Go.Av
end
section
set_option linter.unusedSimpArgs false
set_option linter.unusedVariables false
open Go Go.Proofs
set_option maxRecDepth 20000
set_option maxHeartbeats 4000000
namespace Go.Av
/-- what the number of a step is -/
def numberOf (op : Int) : Int := if op = 1 ∨ op = 2 ∨ op = 7 then 1 else if op = 8 then 2 else if op = 9 ∨ op = 10 then 3 else 0
def wordOf (op : Int) : ByteArray := if op = 1 then ⟨#[103, 111]⟩ else if op = 2 then ⟨#[115, 108, 105, 100, 101]⟩ else if op = 3 then ⟨#[101, 109, 112, 116, 121]⟩ else if op = 4 then ⟨#[101, 110, 101, 109, 121]⟩
  else if op = 5 then ⟨#[102, 114, 105, 101, 110, 100]⟩ else if op = 6 then ⟨#[116, 97, 107, 101]⟩ else if op = 7 then ⟨#[112, 117, 115, 104]⟩ else if op = 8 then ⟨#[98, 101, 99, 111, 109, 101]⟩ else if op = 9 then ⟨#[110, 101, 101, 100]⟩ else ⟨#[108, 111, 115, 101]⟩
def encRows : List AV := [.v (.string ⟨#[]⟩), .v (.int .i64 0)] ++ (([1, 2, 3, 4, 5, 6, 7, 8, 9, 10] : List Int).map fun op => [AV.v (.string (wordOf op)), .v (.int .i64 (numberOf op))]).flatten
theorem bel_encRows (n : Nat) : ∀ c ∈ encRows, Bel n c := by
  intro c hc
  have hall : encRows.all (fun c => match c with | .v _ => true | _ => false) = true := rfl
  have h := List.all_eq_true.1 hall c hc
  cases c <;> simp at h
  exact .v _
theorem rows_pure : Pure Try.prog 94 [] (.agg encRows) := by
  refine Pure.of (ACallP.of_awp (by kernel_rfl) Try.func94 rfl rfl (Nat.le_of_ble_eq_true rfl) (by kernel_rfl) ?_)
  (repeat (first | with_reducible (first | refine wL fun _ => ?_ | refine wD fun _ => ?_ | refine wE ?_ | refine adrZ.go ?_) | simp [go_sem]))
  exact ⟨LeRow.of_eq rfl, bel_encRows 0⟩
theorem find_pure (op : Int) (h : 1 ≤ op ∧ op ≤ 10) : Pure Try.prog 82 [.v (.int .i64 op)] (.tup [.agg [.v (.string (wordOf op)), .v (.int .i64 (numberOf op))], .v (.bool true)]) := by
  refine Pure.of (ACallP.of_awp (by kernel_rfl) Try.func82 rfl rfl (Nat.le_of_ble_eq_true rfl) (by kernel_rfl) ?_)
  have hr := rows_pure
  have hl : encRows.length = 22 := rfl
  rcases (show op = 1 ∨ op = 2 ∨ op = 3 ∨ op = 4 ∨ op = 5 ∨ op = 6 ∨ op = 7 ∨ op = 8 ∨ op = 9 ∨ op = 10 by omega) with rfl | rfl | rfl | rfl | rfl | rfl | rfl | rfl | rfl | rfl
  all_goals
    (repeat (first | with_reducible (first | refine wL fun _ => ?_ | refine wD fun _ => ?_ | refine wE ?_ | refine adrZ.go ?_) | simp [go_sem]))
    refine ACallP.plain hr (by simp [go_sem]) ?_
    (repeat (first | with_reducible (first | refine wL fun _ => ?_ | refine wD fun _ => ?_ | refine wE ?_ | refine adrZ.go ?_) | simp [go_sem, hl]))
    exact LeRow.of_eq rfl
theorem count_pure (p : List (Int × Int)) (hp : p.length ≤ 1048576) (op : Int) : Pure Try.prog 84 [encProg p, .v (.int .i64 op)] (.v (.int .i64 (countOp p op))) := by
  refine Pure.of (ACallP.of_awp (by kernel_rfl) Try.func84 rfl rfl (Nat.le_of_ble_eq_true rfl) (by kernel_rfl) ?_)
  generalize hR : countOp p op = R
  (repeat (first | with_reducible (first | refine wL fun _ => ?_ | refine wD fun _ => ?_ | refine wE ?_ | refine adrZ.go ?_) | simp [go_sem]))
  refine ALoop.start (ALoop.ind (α := Nat × Nat) (fun a => ⟨[(1, .v (.int .i64 op)), (5, .v (.int .i64 a.2)), (8, encProg p), (9, .int p.length), (10, .v (.int .i64 a.1))], [], 0⟩)
    (fun d a => a.1 + d = p.length ∧ a.2 ≤ a.1 ∧ a.2 + countOp (p.drop a.1) op = R) ?_ p.length (0, 0) ?_) ?_ ?_
  · rintro d ⟨i, n⟩ ⟨i1, i2, i3⟩ hrec
    simp only at i1 i2 i3
    (repeat (first | with_reducible (first | refine wL fun _ => ?_ | refine wD fun _ => ?_ | refine wE ?_ | refine adrZ.go ?_) | simp [go_sem]))
    refine aIf.mkL (fun hi => ?_) (fun hi => ?_) <;> simp at hi
    · rw [dropG_cons hi] at i3
      unfold countOp at i3
      rw [List.countP_cons] at i3
      (repeat (first | with_reducible (first | refine wL fun _ => ?_ | refine wD fun _ => ?_ | refine wE ?_ | refine adrZ.go ?_) | simp [go_sem, hi]))
      refine aIf.mkL (fun he => ?_) (fun he => ?_) <;> simp at he
      · simp [he] at i3
        (repeat (first | with_reducible (first | refine wL fun _ => ?_ | refine wD fun _ => ?_ | refine wE ?_ | refine adrZ.go ?_) | simp [go_sem]))
        refine ALoop.start (hrec (d - 1) (by omega) (i + 1, n + 1) ⟨by simp only; omega, by simp only; omega, by simp only [countOp]; omega⟩) ?_ (by simp)
        simp [go_sem, Wk_eq]
      · simp [he] at i3
        (repeat (first | with_reducible (first | refine wL fun _ => ?_ | refine wD fun _ => ?_ | refine wE ?_ | refine adrZ.go ?_) | simp [go_sem]))
        refine ALoop.start (hrec (d - 1) (by omega) (i + 1, n) ⟨by simp only; omega, by simp only; omega, by simp only [countOp]; omega⟩) ?_ (by simp)
        simp [go_sem, Wk_eq]
    · rw [List.drop_eq_nil_of_le hi] at i3
      simp [countOp] at i3
      subst i3
      (repeat (first | with_reducible (first | refine wL fun _ => ?_ | refine wD fun _ => ?_ | refine wE ?_ | refine adrZ.go ?_) | simp [go_sem]))
  · exact ⟨by simp, by simp, by simpa using hR⟩
  · simp [go_sem, Wk_eq]
  · simp
theorem odd_false (x : Int × Int) (D K R : Int) (hx : StepOk D K R x) (hK : 0 ≤ K) : Pure Try.prog 81 [.agg (encStep x), .fp [.v (.int .i64 1), .v (.int .i64 D), .v (.int .i64 K), .v (.int .i64 R)]] (.v (.bool false)) := by
  refine Pure.of (ACallP.of_awp (by kernel_rfl) Try.func81 rfl rfl (Nat.le_of_ble_eq_true rfl) (by kernel_rfl) ?_)
  obtain ⟨hop, hd, hz, hk, hr⟩ := hx
  have hf := find_pure x.1 hop
  obtain ⟨op, N⟩ := x
  simp only at *
  have hN : 0 ≤ N := by omega
  have hN' : ¬ N < 0 := by omega
  have hops : op = 1 ∨ op = 2 ∨ op = 3 ∨ op = 4 ∨ op = 5 ∨ op = 6 ∨ op = 7 ∨ op = 8 ∨ op = 9 ∨ op = 10 := by omega
  have hL : N < nth ([1, D, K, R] : List Int) (numberOf op).toNat := by
    rcases hops with rfl | rfl | rfl | rfl | rfl | rfl | rfl | rfl | rfl | rfl <;> simp [numberOf, nth] <;> omega
  rcases hops with rfl | rfl | rfl | rfl | rfl | rfl | rfl | rfl | rfl | rfl
  all_goals
    simp [numberOf, nth] at hf hL
    have hL' := Int.not_le.2 hL
    (repeat (first | with_reducible (first | refine wL fun _ => ?_ | refine wD fun _ => ?_ | refine wE ?_ | refine adrZ.go ?_) | simp [go_sem]))
    refine ACallP.plain hf (by simp [go_sem]) ?_
    (repeat (first | with_reducible (first | refine wL fun _ => ?_ | refine wD fun _ => ?_ | refine wE ?_ | refine adrZ.go ?_) | simp [go_sem, hN, hN', hL']))
theorem pValid_true (p : List (Int × Int)) (D K R : Int) (hp : ProgOk D K R p) (hK : 0 ≤ K) : Pure Try.prog 62 [encProg p, .v (.int .i64 D), .v (.int .i64 K), .v (.int .i64 R)] (.v (.bool true)) := by
  refine Pure.of (ACallP.of_awp (by kernel_rfl) Try.func62 rfl rfl (Nat.le_of_ble_eq_true rfl) (by kernel_rfl) ?_)
  obtain ⟨h1, h2, h3, h4, h5, h6⟩ := hp
  have hc := ContainsFuncS_pure p (by omega) 81 [.fp [.v (.int .i64 1), .v (.int .i64 D), .v (.int .i64 K), .v (.int .i64 R)]] (fun _ => false) (fun x hx => odd_false x D K R (h3 x hx) hK) (by simp [go_sem])
  have he : (p.any fun _ => false) = false := by simp
  rw [he] at hc
  have hc6 := count_pure p (by omega) 6
  have hc7 := count_pure p (by omega) 7
  have hc8 := count_pure p (by omega) 8
  have a1 : 0 < p.length := by omega
  have a2 : (p.length : Int) ≤ 8 := by omega
  have a3 : (countOp p 6 : Int) ≤ 2 := by omega
  have a4 : (countOp p 7 : Int) ≤ 1 := by omega
  have a5 : (countOp p 8 : Int) ≤ 1 := by omega
  (repeat (first | with_reducible (first | refine wL fun _ => ?_ | refine wD fun _ => ?_ | refine wE ?_ | refine adrZ.go ?_) | simp [go_sem, a1, a2, h2]))
  refine aGC.flat [encProg p, .fn (.func 81) [] [.fp [.v (.int .i64 1), .v (.int .i64 D), .v (.int .i64 K), .v (.int .i64 R)]]] (.v (.bool false)) (fun _ => hc) (.v _) ?_ (by simp [go_sem]) ?_
  · refine .cons (.refl _) (.cons (.fn .nil (.cons (.frzP rfl ?_ ?_ ?_ ?_) .nil)) .nil) <;> first | exact LeRow.refl _ _ _ _ | simp [noH]
  (repeat (first | with_reducible (first | refine wL fun _ => ?_ | refine wD fun _ => ?_ | refine wE ?_ | refine adrZ.go ?_) | simp [go_sem, a1, a2]))
  refine aGC.plain _ (fun _ => hc6) (by simp [go_sem]) ?_
  (repeat (first | with_reducible (first | refine wL fun _ => ?_ | refine wD fun _ => ?_ | refine wE ?_ | refine adrZ.go ?_) | simp [go_sem, a3]))
  refine aGC.plain _ (fun _ => hc7) (by simp [go_sem]) ?_
  (repeat (first | with_reducible (first | refine wL fun _ => ?_ | refine wD fun _ => ?_ | refine wE ?_ | refine adrZ.go ?_) | simp [go_sem, a4]))
  refine aGC.plain _ (fun _ => hc8) (by simp [go_sem]) ?_
  (repeat (first | with_reducible (first | refine wL fun _ => ?_ | refine wD fun _ => ?_ | refine wE ?_ | refine adrZ.go ?_) | simp [go_sem, a5]))
end Go.Av
end
section
set_option linter.unusedSimpArgs false
set_option linter.unusedVariables false
open Go Go.Proofs
set_option maxRecDepth 20000
set_option maxHeartbeats 4000000
namespace Go.Av
theorem bIn_pure (n a b : Int) : Pure Try.prog 79 [.v (.int .i64 n), .v (.int .i64 a), .v (.int .i64 b)] (.v (.bool (decide (a ≤ n) && decide (n ≤ b)))) := by
  refine Pure.of (ACallP.of_awp (by kernel_rfl) Try.func79 rfl rfl (Nat.le_of_ble_eq_true rfl) (by kernel_rfl) ?_)
  (repeat (first | with_reducible (first | refine wL fun _ => ?_ | refine wD fun _ => ?_ | refine wE ?_ | refine adrZ.go ?_) | simp [go_sem]))
theorem bIn_true {n a b : Int} (h1 : a ≤ n) (h2 : n ≤ b) : Pure Try.prog 79 [.v (.int .i64 n), .v (.int .i64 a), .v (.int .i64 b)] (.v (.bool true)) := by
  have := bIn_pure n a b
  rwa [show (decide (a ≤ n) && decide (n ≤ b)) = true by simp [h1, h2]] at this
theorem bOut_false (b : BoardD) (hb : BoardOk b) (x : Int) (hx : -1 ≤ x ∧ x < b.cells) : Pure Try.prog 80 [.v (.int .i64 x), .fp [.fn (.func 79) [] []], .fp (encB b)] (.v (.bool false)) := by
  refine Pure.of (ACallP.of_awp (by kernel_rfl) Try.func80 rfl rfl (Nat.le_of_ble_eq_true rfl) (by kernel_rfl) ?_)
  have hI := bIn_true (n := x) (a := -1) (b := b.cells - 1) hx.1 (by omega)
  have hc0 := hb.c0
  have hc1 := hb.c1
  (repeat (first | with_reducible (first | refine wL fun _ => ?_ | refine wD fun _ => ?_ | refine wE ?_ | refine adrZ.go ?_) | simp [go_sem]))
  refine ACallP.plain hI (by simp [go_sem]) ?_
  (repeat (first | with_reducible (first | refine wL fun _ => ?_ | refine wD fun _ => ?_ | refine wE ?_ | refine adrZ.go ?_) | simp [go_sem]))
theorem bValid_true (b : BoardD) (hb : BoardOk b) (h1 : 1 ≤ b.cells) (h2 : b.cells ≤ 64) (h3 : 1 ≤ b.next.length) (h4 : b.next.length ≤ 8) (ht : ∀ d, d < b.turn.length → nth b.turn (nth b.turn d).toNat = d) :
    Pure Try.prog 59 [.agg (encB b)] (.v (.bool true)) := by
  refine Pure.of (ACallP.of_awp (by kernel_rfl) Try.func59 rfl rfl (Nat.le_of_ble_eq_true rfl) (by kernel_rfl) ?_)
  have hO := fun x hx => bOut_false b hb x hx
  obtain ⟨tl, tv, nl, nv, c0, c1, n1⟩ := hb
  have hI1 := bIn_true (n := b.cells) (a := 1) (b := 64) h1 h2
  have hI2 := bIn_true (n := b.next.length) (a := 1) (b := 8) (by omega) (by omega)
  (repeat (first | with_reducible (first | refine wL fun _ => ?_ | refine wD fun _ => ?_ | refine wE ?_ | refine adrZ.go ?_) | simp [go_sem]))
  refine ACallP.plain hI1 (by simp [go_sem]) ?_
  (repeat (first | with_reducible (first | refine wL fun _ => ?_ | refine wD fun _ => ?_ | refine wE ?_ | refine adrZ.go ?_) | simp [go_sem]))
  refine aGC.plain _ (fun _ => hI2) (by simp [go_sem]) ?_
  (repeat (first | with_reducible (first | refine wL fun _ => ?_ | refine wD fun _ => ?_ | refine wE ?_ | refine adrZ.go ?_) | simp [go_sem, tl]))
  refine ALoop.start (ALoop.ind (α := Nat) (fun d => ⟨[(1, .ref 0 0 3 0 0), (3, .int b.next.length), (4, .ref 1 0 1 0 0), (29, encIss b.next), (30, .int b.next.length), (31, .v (.int .i64 d))],
      [(0, .rows true 0 3 [encB b]), (1, .rows true 0 1 [[.fn (.func 79) [] []]])], 2⟩)
    (fun f d => d + f = b.next.length) ?_ b.next.length 0 ?_) ?_ ?_
  · rintro f d i1 hrec
    (repeat (first | with_reducible (first | refine wL fun _ => ?_ | refine wD fun _ => ?_ | refine wE ?_ | refine adrZ.go ?_) | simp [go_sem]))
    refine aIf.mkL (fun hd => ?_) (fun hd => ?_) <;> simp at hd
    · have hm := nth_mem hd
      have hlen := nl _ hm
      have hv := nv _ hm
      have hdt : d < b.turn.length := by omega
      have htv := tv _ (nth_mem hdt)
      have hti : (nth b.turn d).toNat < b.turn.length := by omega
      have htt := ht d hdt
      have hCF := ContainsFunc_pure (nth b.next d) (by unfold Fits; omega) 80 [] [.fp [.fn (.func 79) [] []], .fp (encB b)] (fun _ => false) (fun x hx => hO x (hv x hx)) (by simp) (by simp [go_sem])
      rw [show ((nth b.next d).any fun _ => false) = false by simp] at hCF
      have hI3 := bIn_true (n := nth b.turn d) (a := 0) (b := (b.next.length : Int) - 1) htv.1 (by omega)
      (repeat (first | with_reducible (first | refine wL fun _ => ?_ | refine wD fun _ => ?_ | refine wE ?_ | refine adrZ.go ?_) | simp [go_sem, hd, hlen]))
      refine aGC.flat [encIs (nth b.next d), .fn (.func 80) [] [.fp [.fn (.func 79) [] []], .fp (encB b)]] (.v (.bool false)) (fun _ => hCF) (.v _) ?_ (by simp [go_sem]) ?_
      · refine .cons (.refl _) (.cons (.fn .nil (.cons (.frzP rfl ?_ ?_ ?_ ?_) (.cons (.frzP rfl ?_ ?_ ?_ ?_) .nil))) .nil) <;> first | exact LeRow.refl _ _ _ _ | simp [noH]
      (repeat (first | with_reducible (first | refine wL fun _ => ?_ | refine wD fun _ => ?_ | refine wE ?_ | refine adrZ.go ?_) | simp [go_sem, hd, hdt]))
      try ((with_reducible refine adrZ.go ?_); (try simp [go_sem]))
      refine dCall.plain hI3 (by simp [go_sem]) ?_
      (repeat (first | with_reducible (first | refine wL fun _ => ?_ | refine wD fun _ => ?_ | refine wE ?_ | refine adrZ.go ?_) | simp [go_sem, hd, hdt, hti, htt]))
      refine ALoop.start (hrec (f - 1) (by omega) (d + 1) (by omega)) ?_ (by simp)
      simp [go_sem, Wk_eq]
    · (repeat (first | with_reducible (first | refine wL fun _ => ?_ | refine wD fun _ => ?_ | refine wE ?_ | refine adrZ.go ?_) | simp [go_sem]))
  · simp
  · simp [go_sem, Wk_eq]
  · simp
end Go.Av
end
