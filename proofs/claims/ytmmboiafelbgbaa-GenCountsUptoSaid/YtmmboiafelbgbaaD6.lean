/- Contracts: board.steps, board.Line. -/
import Derived.Test.YtmmboiafelbgbaaAvK
import Derived.Test.YtmmboiafelbgbaaD1
section
set_option linter.unusedSimpArgs false
set_option linter.unusedVariables false
open Go Go.Proofs
set_option maxRecDepth 20000
set_option maxHeartbeats 4000000
namespace Go.Av
/-- the first k cells of a walk -/
def stepRows (b : BoardD) (side d : Int) : Nat → Int → List Int
  | 0, _ => []
  | k + 1, x => if 0 ≤ x then x :: stepRows b side d k (toB b side d x) else []
/-- are there perhaps more? -/
def stepMore (b : BoardD) (side d : Int) : Nat → Int → Nat
  | 0, x => if 0 ≤ x then 1 else 0
  | k + 1, x => if 0 ≤ x then stepMore b side d k (toB b side d x) else 0
theorem stepMore_ne {b : BoardD} {side d : Int} : ∀ {k : Nat} {x : Int}, stepMore b side d k x ≠ 2
  | 0, x => by unfold stepMore; split <;> omega
  | k + 1, x => by unfold stepMore; split; exact stepMore_ne; omega
theorem stepsF_seq (b : BoardD) (hb : BoardOk b) (side d c : Int) (k : Nat) : PSeq Try.prog 166 [.fp (encB b), .fp [.v (.int .i64 side)], .fp [.v (.int .i64 d)], .fp [.v (.int .i64 c)]]
    (stepMore b side d k (toB b side d c)) ((stepRows b side d k (toB b side d c)).map encI) := by
  refine PSeq.of_awp (by kernel_rfl) Try.func166 rfl rfl (Nat.le_of_ble_eq_true rfl) (by kernel_rfl) (fun l => ?_) (hm2 := stepMore_ne)
  have hbl : ∀ n, (∀ c' ∈ encB b, Bel n c') = True := fun n => by simp [go_sem]
  have hel : (encB b).length = 3 := rfl
  have hT : ∀ x, Pure Try.prog 122 [.agg (encB b), .v (.int .i64 side), .v (.int .i64 d), .v (.int .i64 x)] (.v (.int .i64 (toB b side d x))) := fun x => bTo_pure b hb side d x
  have hg : ∀ (n k : Nat) (x : Int), Bel n (ghost l (stepMore b side d k x) ((stepRows b side d k x).map encI)) := fun n k x => by
    simp only [ghost, Bel_gd, Bel_tup, List.forall_mem_cons, Bel_v, Bel_lst]
    simp [go_sem]
  obtain ⟨eb, heb⟩ : ∃ eb, eb = encB b := ⟨_, rfl⟩
  rw [← heb] at hbl hel hT ⊢
  have hte : eb.take 3 = eb := List.take_of_length_le (by omega)
  (repeat (first | ((with_reducible refine VC.mkL ?_ fun _ => ?_); · first | omega | exact True.intro | rfl) | ((with_reducible refine VC.mkD ?_ fun _ => ?_); · first | omega | exact True.intro | (intros; omega)) | ((with_reducible refine dEnd.mk ?_ ?_); · kernel_rfl) | (with_reducible refine adrZ.go ?_) | (simp [go_sem, hel, GH, hte])))
  refine ACallP.plain (hT c) (by simp [go_sem, hbl]) ?_
  (repeat (first | ((with_reducible refine VC.mkL ?_ fun _ => ?_); · first | omega | exact True.intro | rfl) | ((with_reducible refine VC.mkD ?_ fun _ => ?_); · first | omega | exact True.intro | (intros; omega)) | ((with_reducible refine dEnd.mk ?_ ?_); · kernel_rfl) | (with_reducible refine adrZ.go ?_) | (simp [go_sem, hel, GH, hte])))
  refine ALoop.start (ALoop.ind (α := Nat × Int) (fun a => ⟨[(0, .fn (.yield l) [] []), (1, .fp eb), (2, .fp [.v (.int .i64 side)]), (3, .fp [.v (.int .i64 d)]), (6, .v (.int .i64 a.2)), (1000000007, ghost l (stepMore b side d a.1 a.2) ((stepRows b side d a.1 a.2).map encI))], [], 0⟩)
    (fun f a => f = a.1 ∧ stepMore b side d a.1 a.2 = stepMore b side d k (toB b side d c)) ?_ k (k, toB b side d c) ?_) ?_ ?_
  · rintro f ⟨k', x⟩ ⟨i1, i2⟩ hrec
    simp only at i1 i2
    subst i1
    (repeat (first | ((with_reducible refine VC.mkL ?_ fun _ => ?_); · first | omega | exact True.intro | rfl) | ((with_reducible refine VC.mkD ?_ fun _ => ?_); · first | omega | exact True.intro | (intros; omega)) | ((with_reducible refine dEnd.mk ?_ ?_); · kernel_rfl) | (with_reducible refine adrZ.go ?_) | (simp [go_sem, hel, GH, hte])))
    by_cases hx : 0 ≤ x
    · simp only [hx, decide_true]
      cases f with
      | zero => exact aGC.exh (by simp [upd, GH, stepMore, stepRows, hx])
      | succ f =>
        refine aGC.yld (more := stepMore b side d f (toB b side d x)) (xs := [.v (.int .i64 x)]) (rs := (stepRows b side d f (toB b side d x)).map encI) noH (by simp [upd, GH, stepMore, stepRows, hx, encI]) (.refl _) (.refl _ _ _ _) (by simp [go_sem]) ?_ ?_
        · (repeat (first | ((with_reducible refine VC.mkL ?_ fun _ => ?_); · first | omega | exact True.intro | rfl) | ((with_reducible refine VC.mkD ?_ fun _ => ?_); · first | omega | exact True.intro | (intros; omega)) | ((with_reducible refine dEnd.mk ?_ ?_); · kernel_rfl) | (with_reducible refine adrZ.go ?_) | (simp [go_sem, hel, GH, hte])))
          refine ACallP.plain (hT x) (by simp [go_sem, hbl]) ?_
          (repeat (first | ((with_reducible refine VC.mkL ?_ fun _ => ?_); · first | omega | exact True.intro | rfl) | ((with_reducible refine VC.mkD ?_ fun _ => ?_); · first | omega | exact True.intro | (intros; omega)) | ((with_reducible refine dEnd.mk ?_ ?_); · kernel_rfl) | (with_reducible refine adrZ.go ?_) | (simp [go_sem, hel, GH, hte])))
          rw [stepMore, if_pos hx] at i2
          refine ALoop.start (hrec f (by omega) (f, toB b side d x) ⟨rfl, i2⟩) ?_ (by simp)
          simp [go_sem, Wk_eq, hbl, hg, GH]
        · (repeat (first | ((with_reducible refine VC.mkL ?_ fun _ => ?_); · first | omega | exact True.intro | rfl) | ((with_reducible refine VC.mkD ?_ fun _ => ?_); · first | omega | exact True.intro | (intros; omega)) | ((with_reducible refine dEnd.mk ?_ ?_); · kernel_rfl) | (with_reducible refine adrZ.go ?_) | (simp [go_sem, hel, GH, hte])))
    · have hm : stepMore b side d f x = 0 := by cases f <;> simp [stepMore, hx]
      have hr : stepRows b side d f x = [] := by cases f <;> simp [stepRows, hx]
      simp only [hx, decide_false]
      refine aGC.skip (.v (.bool false)) ?_
      (repeat (first | ((with_reducible refine VC.mkL ?_ fun _ => ?_); · first | omega | exact True.intro | rfl) | ((with_reducible refine VC.mkD ?_ fun _ => ?_); · first | omega | exact True.intro | (intros; omega)) | ((with_reducible refine dEnd.mk ?_ ?_); · kernel_rfl) | (with_reducible refine adrZ.go ?_) | (simp [go_sem, hel, GH, hte])))
      rw [← i2, hm, hr]
      exact .inl ⟨rfl, rfl⟩
  · exact ⟨rfl, rfl⟩
  · simp [go_sem, Wk_eq, hbl, hg, GH]
  · simp
def stepsR (n : Nat) : AV := .fn (.func 166) [] [.ref n 0 3 0 0, .ref (n + 1) 0 1 0 0, .ref (n + 2) 0 1 0 0, .ref (n + 3) 0 1 0 0]
def stepsH (b : BoardD) (side d c : Int) (n : Nat) : List (Nat × AObj) := [(n, .rows true 0 3 [encB b]), (n + 1, .rows true 0 1 [[.v (.int .i64 side)]]), (n + 2, .rows true 0 1 [[.v (.int .i64 d)]]), (n + 3, .rows true 0 1 [[.v (.int .i64 c)]])]
theorem steps_owns (b : BoardD) (side d c : Int) : Owns Try.prog 147 [.agg (encB b), .v (.int .i64 side), .v (.int .i64 d), .v (.int .i64 c)] stepsR (stepsH b side d c) 4 := by
  refine ⟨?_, fun n => ⟨by simp [go_sem, stepsR], by simp [go_sem, stepsH]⟩⟩
  refine ACallP.of_awp (by kernel_rfl) Try.func147 rfl rfl (Nat.le_of_ble_eq_true rfl) (by kernel_rfl) ?_
  (repeat (first | ((with_reducible refine VC.mkL ?_ fun _ => ?_); · first | omega | exact True.intro | rfl) | ((with_reducible refine VC.mkD ?_ fun _ => ?_); · first | omega | exact True.intro | (intros; omega)) | ((with_reducible refine dEnd.mk ?_ ?_); · kernel_rfl) | (with_reducible refine adrZ.go ?_) | (simp [go_sem, stepsR, stepsH])))
  simp [go_sem, Wk_eq]
theorem bLine_pure (b : BoardD) (hb : BoardOk b) (side d c : Int) : Pure Try.prog 123 [.agg (encB b), .v (.int .i64 side), .v (.int .i64 d), .v (.int .i64 c)] (encIs (lineB b side d c)) := by
  refine Pure.of (ACallP.of_awp (by kernel_rfl) Try.func123 rfl rfl (Nat.le_of_ble_eq_true rfl) (by kernel_rfl) ?_)
  have hbl : ∀ n, (∀ c' ∈ encB b, Bel n c') = True := fun n => by simp [go_sem]
  have hel : (encB b).length = 3 := rfl
  have hS : Owns Try.prog 147 [.agg (encB b), .v (.int .i64 side), .v (.int .i64 d), .v (.int .i64 c)] (fun n => stepsR n) (fun n => stepsH b side d c n) 4 := steps_owns b side d c
  have hQ := fun k => stepsF_seq b hb side d c k
  simp only [stepsR, stepsH] at hS
  have hte : (encB b).take 3 = encB b := rfl
  obtain ⟨eb, heb⟩ : ∃ eb, eb = encB b := ⟨_, rfl⟩
  rw [← heb] at hbl hel hS hQ hte ⊢
  have hc1 := hb.c1
  have hc0 := hb.c0
  (repeat (first | ((with_reducible refine VC.mkL ?_ fun _ => ?_); · first | omega | exact True.intro | rfl) | ((with_reducible refine VC.mkD ?_ fun _ => ?_); · first | omega | exact True.intro | (intros; omega)) | ((with_reducible refine dEnd.mk ?_ ?_); · kernel_rfl) | (with_reducible refine adrZ.go ?_) | (simp [go_sem, hel, hte, GH])))
  refine ACallP.ownsPlain hS (by simp [go_sem, hbl]) ?_
  (repeat (first | ((with_reducible refine VC.mkL ?_ fun _ => ?_); · first | omega | exact True.intro | rfl) | ((with_reducible refine VC.mkD ?_ fun _ => ?_); · first | omega | exact True.intro | (intros; omega)) | ((with_reducible refine dEnd.mk ?_ ?_); · kernel_rfl) | (with_reducible refine adrZ.go ?_) | (simp [go_sem, hel, hte, GH])))
  refine aRange.mk [.fp eb, .fp [.v (.int .i64 side)], .fp [.v (.int .i64 d)], .fp [.v (.int .i64 c)]] (frzO _ [3, 4, 5, 6]) (hQ (b.cells.toNat + 1)) (frz_frzO _ _) ?_ (by simp [go_sem, hbl]) (by simp [encI]) ?_
  · refine LeRow.cons (.frzP rfl ?_ ?_ ?_ ?_) (LeRow.cons (.frzP rfl ?_ ?_ ?_ ?_) (LeRow.cons (.frzP rfl ?_ ?_ ?_ ?_) (LeRow.cons (.frzP rfl ?_ ?_ ?_ ?_) .nil))) <;> first | exact LeRow.refl _ _ _ _ | simp [frzO, frz1, upd]
  refine Fgt.to (ARange.ind (α := Nat × Int × List Int) (fun a => ([(7, .ref 1 0 1 0 0), (9, .ref 2 0 1 0 0)], [(1, .rows true 0 1 [[.v (.int .i64 c)]]), (2, .rows true 0 1 [[.sl 7 a.2.2.length 1 0 a.2.2.length]]), (7, .rows true a.2.2.length 1 (a.2.2.map encI))], 8))
    (fun rows a => rows = (stepRows b side d a.1 a.2.1).map encI ∧ stepMore b side d a.1 a.2.1 = stepMore b side d (b.cells.toNat + 1) (toB b side d c) ∧ a.1 + a.2.2.length = b.cells.toNat + 1 ∧ a.2.1 < b.cells ∧ a.2.2.Nodup ∧
      (∀ y ∈ a.2.2, 0 ≤ y ∧ y < b.cells) ∧ lineB b side d c = lineGo b side d c a.1 a.2.1 a.2.2) ?_ ?_ _ (b.cells.toNat + 1, toB b side d c, []) ?_) ?_ ?_
  · rintro ⟨f, x, seen⟩ ⟨i0, i1, i2, i3, i4, i5, i6⟩
    simp only at i0 i1 i2 i3 i4 i5 i6
    have hsl : seen.length ≤ b.cells.toNat := nodup_le _ _ i4 (fun y hy => by have := i5 y hy; omega)
    obtain ⟨f, rfl⟩ : ∃ f', f = f' + 1 := ⟨f - 1, by omega⟩
    have hx : ¬ 0 ≤ x := fun hx => by simp [stepRows, hx] at i0
    rw [stepMore, if_neg hx] at i1
    rw [lineGo, if_neg (fun h => hx h.1)] at i6
    refine ⟨i1.symm, ?_⟩
    rw [i6]
    (repeat (first | ((with_reducible refine VC.mkL ?_ fun _ => ?_); · first | omega | exact True.intro | rfl) | ((with_reducible refine VC.mkD ?_ fun _ => ?_); · first | omega | exact True.intro | (intros; omega)) | ((with_reducible refine dEnd.mk ?_ ?_); · kernel_rfl) | (with_reducible refine adrZ.go ?_) | (simp [go_sem, hel])))
    (refine leV_frz rfl (by simp) (by simp [noH, upd]) ?_; first | (simp [go_sem]; done) | (simp [go_sem]; exact List.take_of_length_le (by simp)))
  · rintro xs rs ⟨f, x, seen⟩ ⟨i0, i1, i2, i3, i4, i5, i6⟩ hrec
    simp only at i0 i1 i2 i3 i4 i5 i6
    have hsl : seen.length ≤ b.cells.toNat := nodup_le _ _ i4 (fun y hy => by have := i5 y hy; omega)
    cases f with
    | zero => simp [stepRows] at i0
    | succ f =>
    have hx : 0 ≤ x := by
      by_cases hx : 0 ≤ x
      · exact hx
      · simp [stepRows, hx] at i0
    rw [stepRows, if_pos hx] at i0
    simp only [List.map_cons, List.cons.injEq] at i0
    obtain ⟨rfl, rfl⟩ := i0
    rw [stepMore, if_pos hx] at i1
    rw [lineGo] at i6
    refine ARange.go (Nat.zero_le _) ?_
    (repeat (first | ((with_reducible refine VC.mkL ?_ fun _ => ?_); · first | omega | exact True.intro | rfl) | ((with_reducible refine VC.mkD ?_ fun _ => ?_); · first | omega | exact True.intro | (intros; omega)) | ((with_reducible refine dEnd.mk ?_ ?_); · kernel_rfl) | (with_reducible refine adrZ.go ?_) | (simp [go_sem, hel, GH, encI])))
    refine aGC.flat [encIs seen, .v (.int .i64 x)] (.v (.bool (decide (x ∈ seen)))) (fun _ => Contains_pure seen x (by omega)) (.v _) ?_ (by simp [go_sem]) ?_
    · refine LeRow.cons ?_ (LeRow.cons (.refl _) LeRow.nil)
      refine LeV.frz rfl ?_ ?_ (LeRows.of_eq ?_) <;> simp [noH, List.take_of_length_le]
    (repeat (first | ((with_reducible refine VC.mkL ?_ fun _ => ?_); · first | omega | exact True.intro | rfl) | ((with_reducible refine VC.mkD ?_ fun _ => ?_); · first | omega | exact True.intro | (intros; omega)) | ((with_reducible refine dEnd.mk ?_ ?_); · kernel_rfl) | (with_reducible refine adrZ.go ?_) | (simp [go_sem, hel, GH])))
    refine aIf.mkL (fun hc => ?_) (fun hc => ?_) <;> simp at hc
    · rw [if_neg (by rintro ⟨h1, h2, h3⟩; rcases hc with h | h <;> contradiction)] at i6
      rw [i6]
      (repeat (first | ((with_reducible refine VC.mkL ?_ fun _ => ?_); · first | omega | exact True.intro | rfl) | ((with_reducible refine VC.mkD ?_ fun _ => ?_); · first | omega | exact True.intro | (intros; omega)) | ((with_reducible refine dEnd.mk ?_ ?_); · kernel_rfl) | (with_reducible refine adrZ.go ?_) | (simp [go_sem, hel, GH])))
      (refine leV_frz rfl (by simp) (by simp [noH, upd]) ?_; first | (simp [go_sem]; done) | (simp [go_sem]; exact List.take_of_length_le (by simp)))
    · rw [if_pos ⟨hx, by simpa using hc⟩] at i6
      (repeat (first | ((with_reducible refine VC.mkL ?_ fun _ => ?_); · first | omega | exact True.intro | rfl) | ((with_reducible refine VC.mkD ?_ fun _ => ?_); · first | omega | exact True.intro | (intros; omega)) | ((with_reducible refine dEnd.mk ?_ ?_); · kernel_rfl) | (with_reducible refine adrZ.go ?_) | (simp [go_sem, hel, GH])))
      refine Fgt.to (hrec (f, toB b side d x, seen ++ [x]) ⟨rfl, i1, by simp only [List.length_append, List.length_singleton]; omega, toB_lt hb _ _ _, ?_, ?_, i6⟩) ?_ (by simp)
      · refine List.nodup_append.2 ⟨i4, by simp, ?_⟩
        intro y hy z hz
        simp at hz
        subst hz
        rintro rfl
        exact hc.2 hy
      · intro y hy
        rcases List.mem_append.1 hy with h | h
        · exact i5 y h
        · simp at h; omega
      · simp [go_sem, Wk_eq, GH]
        (intro r hr c hc; (first | (rcases hr with ⟨_, _, rfl⟩ | rfl) | (rcases hr with rfl | ⟨_, _, rfl⟩) | (rcases hr with rfl | rfl) | ((rcases List.mem_or_eq_of_mem_set hr with hr | rfl) <;> first | (obtain ⟨_, _, rfl⟩ := List.mem_map.1 hr; simp only [encI] at hc) | skip) | (rcases hr with ⟨_, rfl⟩ | ⟨_, rfl⟩) | (rcases hr with ⟨_, _, rfl⟩ | ⟨_, rfl⟩) | (rcases hr with ⟨_, rfl⟩ | ⟨_, _, rfl⟩) | (rcases hr with ⟨_, _, rfl⟩ | ⟨_, _, rfl⟩) | (obtain ⟨_, rfl⟩ := hr) | (obtain ⟨_, _, rfl⟩ := hr)) <;> simp at hc <;> (try subst hc) <;> first | exact .v _ | (rcases hc with rfl | rfl <;> exact .v _))
  · exact ⟨rfl, rfl, by simp, toB_lt hb _ _ _, by simp, by simp, rfl⟩
  · simp [go_sem, Wk_eq]
  · simp
end Go.Av
end
section
set_option linter.unusedSimpArgs false
set_option linter.unusedVariables false
open Go Go.Proofs
namespace Go.Av
/-- a comparison that is an order -/
structure Cmp {α : Type} (c : α → α → Int) : Prop where
  swap : ∀ a b, c b a = - c a b
  eq : ∀ a b, c a b = 0 ↔ a = b
  tr : ∀ a b d, c a b ≤ 0 → c b d ≤ 0 → c a d ≤ 0
theorem cmp_number : Cmp number := by
  refine ⟨fun a b => ?_, fun a b => ?_, fun a b d => ?_⟩ <;> unfold number <;> (repeat' split) <;> omega
def lexI (x y : Int) : Int := if x ≠ 0 then x else y
theorem Cmp.prod {α β : Type} {c : α → α → Int} {d : β → β → Int} (hc : Cmp c) (hd : Cmp d) : Cmp (fun (p q : α × β) => lexI (c p.1 q.1) (d p.2 q.2)) := by
  refine ⟨fun p q => ?_, fun p q => ?_, fun p q r => ?_⟩
  · have h1 := hc.swap p.1 q.1
    have h2 := hd.swap p.2 q.2
    simp only [lexI]
    split <;> split <;> omega
  · have h1 := hc.eq p.1 q.1
    have h2 := hd.eq p.2 q.2
    simp only [lexI]
    constructor
    · intro h
      split at h
      · contradiction
      · rename_i h0
        exact Prod.ext (h1.1 (by omega)) (h2.1 h)
    · rintro rfl
      have a := h1.2 rfl
      have b := h2.2 rfl
      split <;> omega
  · intro h1 h2
    simp only [lexI] at h1 h2 ⊢
    have e1 := hc.eq p.1 q.1
    have e2 := hc.eq q.1 r.1
    have e3 := hc.eq p.1 r.1
    have s1 := hc.swap p.1 q.1
    have s2 := hc.swap q.1 r.1
    have s3 := hc.swap p.1 r.1
    have t1 := hc.tr p.1 q.1 r.1
    have t2 := hd.tr p.2 q.2 r.2
    split at h1
    · rename_i n1
      split at h2
      · rename_i n2
        split
        · omega
        · rename_i n3
          have := e3.1 (by omega)
          rw [this] at h1 n1
          omega
      · rename_i n2
        have := e2.1 (by omega)
        rw [this] at h1 n1
        rw [if_pos n1]; exact h1
    · rename_i n1
      have := e1.1 (by omega)
      split at h2
      · rename_i n2
        rw [← this] at h2 n2
        rw [if_pos n2]; exact h2
      · rename_i n2
        rw [← this] at n2
        rw [if_neg n2]
        exact t2 h1 h2
theorem Cmp.pull {α β : Type} {c : β → β → Int} (hc : Cmp c) (f : α → β) (hf : ∀ a b, f a = f b → a = b) : Cmp (fun a b => c (f a) (f b)) :=
  ⟨fun a b => hc.swap _ _, fun a b => ⟨fun h => hf _ _ ((hc.eq _ _).1 h), fun h => (hc.eq _ _).2 (by rw [h])⟩, fun a b d => hc.tr _ _ _⟩
theorem cmp_list : Cmp cmpL := by
  refine ⟨?_, ?_, ?_⟩
  · intro a
    induction a with
    | nil => intro b; cases b with
      | nil => rfl
      | cons y b => simp only [cmpL]; exact cmp_number.swap _ _
    | cons x a ih => intro b; cases b with
      | nil => simp only [cmpL]; exact cmp_number.swap _ _
      | cons y b =>
        have := cmp_number.swap x y
        simp only [cmpL]
        split
        · rename_i h; rw [if_pos h.symm]; exact ih b
        · rename_i h; rw [if_neg (fun e => h e.symm)]; exact this
  · intro a
    induction a with
    | nil => intro b; cases b with
      | nil => simp [cmpL, number]
      | cons y b => simp [cmpL, number]
    | cons x a ih => intro b; cases b with
      | nil => simp [cmpL, number]; split <;> (try split) <;> omega
      | cons y b =>
        have := cmp_number.eq x y
        simp only [cmpL]
        split
        · rename_i h; rw [ih b]; simp [h]
        · rename_i h; rw [this]; simp [h]
  · intro a
    induction a with
    | nil => intro b d _ _; cases d with
      | nil => simp [cmpL, number]
      | cons z d => simp [cmpL, number]
    | cons x a ih =>
      intro b d h1 h2
      cases b with
      | nil => simp [cmpL, number] at h1; split at h1 <;> (try split at h1) <;> omega
      | cons y b =>
        cases d with
        | nil => simp [cmpL, number] at h2; split at h2 <;> (try split at h2) <;> omega
        | cons z d =>
          simp only [cmpL] at h1 h2 ⊢
          have t := cmp_number.tr x y z
          have e1 := cmp_number.eq x z
          have s1 := cmp_number.swap y z
          have e2 := cmp_number.eq x y
          split at h1
          · rename_i xy
            subst xy
            split at h2
            · rename_i yz; subst yz; rw [if_pos rfl]; exact ih _ _ h1 h2
            · rename_i yz; rw [if_neg yz]; exact h2
          · rename_i xy
            split at h2
            · rename_i yz; subst yz; rw [if_neg xy]; exact h1
            · rename_i yz
              by_cases xz : x = z
              · subst xz; omega
              · rw [if_neg xz]; exact t h1 h2
def tupP (p : PosD) : List Int × List Int × List Int × Int × Int := (p.at_, p.h0, p.h1, p.rights, p.side)
theorem cmp_pos : Cmp cmpP :=
  Cmp.pull (cmp_list.prod (cmp_list.prod (cmp_list.prod (cmp_number.prod cmp_number)))) tupP (fun a b h => by cases a; cases b; simp [tupP] at h; simp [h])
theorem cmpP_eq {p q : PosD} : cmpP p q = 0 ↔ p = q := cmp_pos.eq p q
/-! ### sorted lists, by any order -/
section sort
variable {α : Type} {c : α → α → Int} (hc : Cmp c)
def leC (c : α → α → Int) (a b : α) : Bool := decide (c a b ≤ 0)
def sortC (c : α → α → Int) (l : List α) : List α := l.mergeSort (leC c)
include hc
theorem leC_tr (a b d : α) (h1 : leC c a b = true) (h2 : leC c b d = true) : leC c a d = true := by
  simp only [leC, decide_eq_true_eq] at *
  exact hc.tr _ _ _ h1 h2
theorem leC_tot (a b : α) : (leC c a b || leC c b a) = true := by
  have := hc.swap a b
  simp only [leC, Bool.or_eq_true, decide_eq_true_eq]
  omega
theorem leC_anti {a b : α} (h1 : leC c a b = true) (h2 : leC c b a = true) : a = b := by
  have := hc.swap a b
  simp only [leC, decide_eq_true_eq] at *
  exact (hc.eq _ _).1 (by omega)
theorem sortC_pw (l : List α) : (sortC c l).Pairwise (fun a b => leC c a b = true) := List.pairwise_mergeSort (leC_tr hc) (leC_tot hc) l
theorem sortC_unique {l r : List α} (hp : r.Perm l) (hs : r.Pairwise (fun a b => leC c a b = true)) : sortC c l = r :=
  List.Perm.eq_of_pairwise (fun a b _ _ h1 h2 => leC_anti hc h1 h2) (sortC_pw hc l) hs ((List.mergeSort_perm l _).trans hp.symm)
theorem sortC_merge (a b : List α) : List.merge (sortC c a) (sortC c b) (leC c) = sortC c (a ++ b) :=
  (sortC_unique hc ((List.merge_perm_append (le := leC c)).trans ((List.mergeSort_perm a _).append (List.mergeSort_perm b _)))
    (List.pairwise_merge (leC_tr hc) (leC_tot hc) _ _ (sortC_pw hc a) (sortC_pw hc b))).symm
omit hc in
theorem sortC_perm (l : List α) : (sortC c l).Perm l := List.mergeSort_perm l _
omit hc in
theorem sortC_len (l : List α) : (sortC c l).length = l.length := (sortC_perm l).length_eq
omit hc in
theorem sortC_mem {l : List α} {x : α} : x ∈ sortC c l ↔ x ∈ l := (sortC_perm l).mem_iff
omit hc in
theorem sortC_nil : sortC c [] = [] := by simp [sortC]
omit hc in
theorem sortC_one (a : α) : sortC c [a] = [a] := by simp [sortC]
omit hc in
theorem sortC_short {l : List α} (h : l.length < 2) : sortC c l = l := by
  match l, h with
  | [], _ => exact sortC_nil
  | [a], _ => exact sortC_one a
end sort
/-! ### each once -/
section once
variable {α : Type} [DecidableEq α]
def dedupGo : α → List α → List α
  | _, [] => []
  | a, b :: l => if b = a then dedupGo a l else b :: dedupGo b l
def dedup : List α → List α
  | [] => []
  | a :: l => a :: dedupGo a l
theorem dedupGo_mem : ∀ {l : List α} {a x : α}, (x = a ∨ x ∈ dedupGo a l) ↔ (x = a ∨ x ∈ l)
  | [], a, x => by simp [dedupGo]
  | b :: l, a, x => by
    simp only [dedupGo]
    split
    · rename_i h; subst h
      rw [dedupGo_mem (l := l)]
      simp
    · have := dedupGo_mem (l := l) (a := b) (x := x)
      simp only [List.mem_cons]
      rw [this]
theorem dedup_mem {l : List α} {x : α} : x ∈ dedup l ↔ x ∈ l := by
  cases l with
  | nil => simp [dedup]
  | cons a l => simp only [dedup, List.mem_cons]; exact dedupGo_mem
theorem dedupGo_le : ∀ (l : List α) (a : α), (dedupGo a l).length ≤ l.length
  | [], a => by simp [dedupGo]
  | b :: l, a => by
    simp only [dedupGo]
    split
    · have := dedupGo_le l a; simp; omega
    · have := dedupGo_le l b; simp; omega
theorem dedup_le (l : List α) : (dedup l).length ≤ l.length := by
  cases l with
  | nil => simp [dedup]
  | cons a l => simp [dedup]; exact dedupGo_le l a
theorem dedupGo_pw {c : α → α → Int} (hc : Cmp c) : ∀ {l : List α} {a : α}, (a :: l).Pairwise (fun a b => leC c a b = true) → (a :: dedupGo a l).Pairwise (fun a b => c a b < 0)
  | [], a, _ => by simp [dedupGo]
  | b :: l, a, h => by
    simp only [dedupGo]
    rw [List.pairwise_cons] at h
    obtain ⟨h1, h2⟩ := h
    split
    · rename_i e; subst e; exact dedupGo_pw hc h2
    · rename_i e
      have ih := dedupGo_pw hc h2
      rw [List.pairwise_cons]
      refine ⟨fun x hx => ?_, ih⟩
      have hx' : x = b ∨ x ∈ l := dedupGo_mem.1 (by simpa using hx)
      have hax : c a x ≤ 0 := by
        have := h1 x (by simpa using hx')
        simpa [leC] using this
      have hab : c a b ≤ 0 := by
        have := h1 b (by simp)
        simpa [leC] using this
      have hbx : c b x ≤ 0 := by
        rcases hx' with rfl | hm
        · have := (hc.eq x x).2 rfl; omega
        · rw [List.pairwise_cons] at h2
          have := h2.1 x hm
          simpa [leC] using this
      rcases Int.lt_or_eq_of_le hax with h | h
      · exact h
      · have ex := (hc.eq _ _).1 h
        subst ex
        have := hc.swap a b
        exact absurd ((hc.eq b a).1 (by omega)) e
/-- sorted, each once -/
def sortU (c : α → α → Int) (l : List α) : List α := dedup (sortC c l)
theorem sortU_mem {c : α → α → Int} {l : List α} {x : α} : x ∈ sortU c l ↔ x ∈ l := by rw [sortU, dedup_mem, sortC_mem]
theorem sortU_pw {c : α → α → Int} (hc : Cmp c) (l : List α) : (sortU c l).Pairwise (fun a b => c a b < 0) := by
  have h := sortC_pw hc l
  unfold sortU
  cases hs : sortC c l with
  | nil => simp [dedup]
  | cons a m => rw [hs] at h; exact dedupGo_pw hc h
theorem sortU_le (c : α → α → Int) (l : List α) : (sortU c l).length ≤ l.length := by
  have := dedup_le (sortC c l)
  rw [sortC_len] at this
  exact this
omit [DecidableEq α] in
/-- lists in strict order with the same members are equal -/
theorem strict_ext {c : α → α → Int} (hc : Cmp c) : ∀ {l r : List α}, l.Pairwise (fun a b => c a b < 0) → r.Pairwise (fun a b => c a b < 0) → (∀ x, x ∈ l ↔ x ∈ r) → l = r
  | [], r, _, _, h => by
    cases r with
    | nil => rfl
    | cons b r => have := (h b).2 (by simp); simp at this
  | a :: l, [], _, _, h => by have := (h a).1 (by simp); simp at this
  | a :: l, b :: r, h1, h2, h => by
    rw [List.pairwise_cons] at h1 h2
    have irr : ∀ x : α, ¬ c x x < 0 := fun x hx => by have := (hc.eq x x).2 rfl; omega
    have ab : a = b := by
      rcases List.mem_cons.1 ((h a).1 (by simp)) with e | m
      · exact e
      · rcases List.mem_cons.1 ((h b).2 (by simp)) with e | m'
        · exact e.symm
        · have k1 := h2.1 a m
          have k2 := h1.1 b m'
          have := hc.swap a b
          omega
    subst ab
    rw [strict_ext hc h1.2 h2.2 (fun x => ?_)]
    constructor
    · intro hx
      rcases List.mem_cons.1 ((h x).1 (List.mem_cons_of_mem _ hx)) with e | m
      · subst e; exact absurd (h1.1 _ hx) (irr _)
      · exact m
    · intro hx
      rcases List.mem_cons.1 ((h x).2 (List.mem_cons_of_mem _ hx)) with e | m
      · subst e; exact absurd (h2.1 _ hx) (irr _)
      · exact m
theorem sortU_unique {c : α → α → Int} (hc : Cmp c) {l r : List α} (hr : r.Pairwise (fun a b => c a b < 0)) (h : ∀ x, x ∈ l ↔ x ∈ r) : sortU c l = r :=
  strict_ext hc (sortU_pw hc l) hr (fun x => by rw [sortU_mem]; exact h x)
theorem sortU_congr {c : α → α → Int} (hc : Cmp c) {l r : List α} (h : ∀ x, x ∈ l ↔ x ∈ r) : sortU c l = sortU c r :=
  sortU_unique hc (sortU_pw hc r) (fun x => by rw [sortU_mem]; exact h x)
end once
end Go.Av
end
section
set_option linter.unusedSimpArgs false
set_option linter.unusedVariables false
open Go Go.Proofs
set_option maxRecDepth 20000
set_option maxHeartbeats 4000000
namespace Go.Av
def dxL : List Int := [0, 1, 1, 1, 0, -1, -1, -1]
def dyL : List Int := [-1, -1, 0, 1, 1, 1, 0, -1]
def gridStep (w h : Int) (d : Nat) (c : Nat) : Int :=
  if (0 ≤ (c : Int).tmod w + nth dxL d ∧ (c : Int).tmod w + nth dxL d < w) ∧ 0 ≤ (c : Int).tdiv w + nth dyL d ∧ (c : Int).tdiv w + nth dyL d < h then ((c : Int).tdiv w + nth dyL d) * w + ((c : Int).tmod w + nth dxL d) else -1
def gridRow (w h : Nat) (d : Nat) (n : Nat) : List Int := (List.range n).map (gridStep w h d)
def gridNext (w h : Nat) (d : Nat) : List (List Int) := (List.range d).map fun d => gridRow w h d (w * h)
def gridTurn (d : Nat) : List Int := (List.range d).map fun i : Nat => Int.tmod ((i : Int) + 4) 8
def gridB (w h : Nat) : BoardD := ⟨w * h, gridNext w h 8, gridTurn 8⟩
theorem gridRow_succ (w h d n : Nat) : gridRow w h d (n + 1) = gridRow w h d n ++ [gridStep w h d n] := by simp [gridRow, List.range_succ]
theorem gridNext_succ (w h d : Nat) : gridNext w h (d + 1) = gridNext w h d ++ [gridRow w h d (w * h)] := by simp [gridNext, List.range_succ]
theorem gridTurn_succ (d : Nat) : gridTurn (d + 1) = gridTurn d ++ [Int.tmod ((d : Int) + 4) 8] := by simp [gridTurn, List.range_succ]
theorem R1Grid_pure (w h : Nat) (hw : 1 ≤ w ∧ w ≤ 8) (hh : 1 ≤ h ∧ h ≤ 8) : Pure Try.prog 108 [.v (.int .i64 w), .v (.int .i64 h)] (.tup [.agg (encB (gridB w h)), .v (.int .i64 0)]) := by
  refine Pure.of (ACallP.of_awp (by kernel_rfl) Try.func108 rfl rfl (Nat.le_of_ble_eq_true rfl) (by kernel_rfl) ?_)
  have hwh : (w : Int) * h ≤ 64 := by
    have : w * h ≤ 8 * 8 := Nat.mul_le_mul hw.2 hh.2
    exact_mod_cast this
  have hwh0 : (1 : Int) ≤ (w : Int) * h := by
    have : 1 * 1 ≤ w * h := Nat.mul_le_mul hw.1 hh.1
    exact_mod_cast this
  obtain ⟨D, hD⟩ : ∃ D : Nat, D = w * h := ⟨_, rfl⟩
  have hD' : (w : Int) * h = D := by rw [hD]; simp
  rw [hD'] at hwh hwh0
  have e1 : (encB (gridB w h)) = [.v (.int .i64 D), encIss (gridNext w h 8), encIs (gridTurn 8)] := by simp [encB, gridB, hD']
  rw [e1]
  have hdx : ∀ x ∈ dxL, -1 ≤ x ∧ x ≤ 1 := by decide
  have hdy : ∀ x ∈ dyL, -1 ≤ x ∧ x ≤ 1 := by decide
  have ldx : dxL.length = 8 := rfl
  have ldy : dyL.length = 8 := rfl
  have edx : dxL.map encI = [[.v (.int .i64 0)], [.v (.int .i64 1)], [.v (.int .i64 1)], [.v (.int .i64 1)], [.v (.int .i64 0)], [.v (.int .i64 (-1))], [.v (.int .i64 (-1))], [.v (.int .i64 (-1))]] := rfl
  have edy : dyL.map encI = [[.v (.int .i64 (-1))], [.v (.int .i64 (-1))], [.v (.int .i64 0)], [.v (.int .i64 1)], [.v (.int .i64 1)], [.v (.int .i64 1)], [.v (.int .i64 0)], [.v (.int .i64 (-1))]] := rfl
  have hst : ∀ d c, gridStep w h d c = gridStep w h d c := fun _ _ => rfl
  (repeat (first | ((with_reducible refine VC.mkL ?_ fun _ => ?_); · first | omega | exact True.intro | rfl) | ((with_reducible refine VC.mkD ?_ fun _ => ?_); · first | omega | exact True.intro | (intros; omega)) | ((with_reducible refine dEnd.mk ?_ ?_); · kernel_rfl) | (with_reducible refine adrZ.go ?_) | (simp [go_sem, hD'])))
  (refine aIf.mkL (fun hF => by first | omega | (simp at hF; omega)) (fun hF => ?_); clear hF)
  (repeat (first | ((with_reducible refine VC.mkL ?_ fun _ => ?_); · first | omega | exact True.intro | rfl) | ((with_reducible refine VC.mkD ?_ fun _ => ?_); · first | omega | exact True.intro | (intros; omega)) | ((with_reducible refine dEnd.mk ?_ ?_); · kernel_rfl) | (with_reducible refine adrZ.go ?_) | (simp [go_sem, hD'])))
  refine ALoop.start (ALoop.ind (α := Nat) (fun d => ⟨[(0, .v (.int .i64 w)), (1, .v (.int .i64 h)), (4, .ref 0 0 3 0 0), (6, .sl 1 0 1 0 8), (7, .sl 2 0 1 0 8), (8, .ref 3 0 3 0 0), (9, .v (.int .i64 d))],
      [(0, .rows true 0 3 [[.v (.int .i64 0), .v (.slice none 0 0), .v (.slice none 0 0)]]), (1, .rows true 0 1 (dxL.map encI)), (2, .rows true 0 1 (dyL.map encI)),
       (3, .rows true 0 3 [[.v (.int .i64 D), .sl 4 d 1 0 d, .sl 5 d 1 0 d]]), (4, .rows true d 1 ((gridNext w h d).map fun l => [encIs l])), (5, .rows true d 1 ((gridTurn d).map encI))], 6⟩)
    (fun r d => d + r = 8) ?_ 8 0 ?_) ?_ ?_
  · rintro r d i1 hrec
    have lgn : (gridNext w h d).length = d := by simp [gridNext]
    have lgt : (gridTurn d).length = d := by simp [gridTurn]
    (repeat (first | ((with_reducible refine VC.mkL ?_ fun _ => ?_); · first | omega | exact True.intro | rfl) | ((with_reducible refine VC.mkD ?_ fun _ => ?_); · first | omega | exact True.intro | (intros; omega)) | ((with_reducible refine dEnd.mk ?_ ?_); · kernel_rfl) | (with_reducible refine adrZ.go ?_) | (simp [go_sem])))
    refine aIf.mkL (fun hd => ?_) (fun hd => ?_) <;> simp at hd
    · have hd1 : d < dxL.length := by omega
      have hd2 : d < dyL.length := by omega
      have bx := hdx _ (nth_mem hd1)
      have by_ := hdy _ (nth_mem hd2)
      have hgs : ∀ c, gridStep w h d c = if (0 ≤ (c : Int).tmod w + nth dxL d ∧ (c : Int).tmod w + nth dxL d < w) ∧ 0 ≤ (c : Int).tdiv w + nth dyL d ∧ (c : Int).tdiv w + nth dyL d < h then ((c : Int).tdiv w + nth dyL d) * w + ((c : Int).tmod w + nth dxL d) else -1 := fun _ => rfl
      (repeat (first | ((with_reducible refine VC.mkL ?_ fun _ => ?_); · first | omega | exact True.intro | rfl) | ((with_reducible refine VC.mkD ?_ fun _ => ?_); · first | omega | exact True.intro | (intros; omega)) | ((with_reducible refine dEnd.mk ?_ ?_); · kernel_rfl) | (with_reducible refine adrZ.go ?_) | (simp [go_sem])))
      refine ALoop.start (ALoop.ind (α := Nat) (fun c => ⟨[(0, .v (.int .i64 w)), (1, .v (.int .i64 h)), (4, .ref 0 0 3 0 0), (6, .sl 1 0 1 0 8), (7, .sl 2 0 1 0 8), (8, .ref 3 0 3 0 0), (9, .v (.int .i64 d)), (10, .sl 6 c 1 0 c), (11, .v (.int .i64 c))],
          [(0, .rows true 0 3 [[.v (.int .i64 0), .v (.slice none 0 0), .v (.slice none 0 0)]]), (1, .rows true 0 1 (dxL.map encI)), (2, .rows true 0 1 (dyL.map encI)),
           (3, .rows true 0 3 [[.v (.int .i64 D), .sl 4 d 1 0 d, .sl 5 d 1 0 d]]), (4, .rows true d 1 ((gridNext w h d).map fun l => [encIs l])), (5, .rows true d 1 ((gridTurn d).map encI)), (6, .rows true c 1 ((gridRow w h d c).map encI))], 7⟩)
        (fun s c => c + s = D) ?_ D 0 ?_) ?_ ?_
      · rintro s c j1 hrec2
        have lgr : (gridRow w h d c).length = c := by simp [gridRow]
        (repeat (first | ((with_reducible refine VC.mkL ?_ fun _ => ?_); · first | omega | exact True.intro | rfl) | ((with_reducible refine VC.mkD ?_ fun _ => ?_); · first | omega | exact True.intro | (intros; omega)) | ((with_reducible refine dEnd.mk ?_ ?_); · kernel_rfl) | (with_reducible refine adrZ.go ?_) | (simp [go_sem, hD'])))
        refine aIf.mkL (fun hc => ?_) (fun hc => ?_) <;> simp at hc
        · have m0 := Int.tmod_nonneg (w : Int) (show (0 : Int) ≤ c by omega)
          have m1 := Int.tmod_lt_of_pos (c : Int) (show (0 : Int) < w by omega)
          have q0 : 0 ≤ (c : Int).tdiv w := Int.tdiv_nonneg (by omega) (by omega)
          have q1 : (c : Int).tdiv w ≤ c := by rw [Int.tdiv_eq_ediv_of_nonneg (by omega)]; exact Int.ediv_le_self _ (by omega)
          have hgs := hgs c
          generalize hmv : (c : Int).tmod w = mv at *
          generalize hqv : (c : Int).tdiv w = qv at *
          generalize hvx : nth dxL d = vx at *
          generalize hvy : nth dyL d = vy at *
          have hp : 0 ≤ qv + vy → qv + vy < h → 0 ≤ (qv + vy) * w ∧ (qv + vy) * w ≤ 64 := fun k1 k2 =>
            ⟨Int.mul_nonneg k1 (by omega), by have := Int.mul_le_mul (show qv + vy ≤ 8 by omega) (show (w : Int) ≤ 8 by omega) (by omega) (by omega); omega⟩
          (repeat (first | ((with_reducible refine VC.mkL ?_ fun _ => ?_); · first | omega | exact True.intro | rfl) | ((with_reducible refine VC.mkD ?_ fun _ => ?_); · first | omega | exact True.intro | (intros; omega)) | ((with_reducible refine dEnd.mk ?_ ?_); · kernel_rfl) | (with_reducible refine adrZ.go ?_) | (simp [go_sem, hd1, hd2, hmv, hqv, hD', hvx, hvy])))
          refine aIf.mkL (fun hg => ?_) (fun hg => ?_) <;> simp at hg
          · rw [if_pos (by omega)] at hgs
            have hp := hp (by omega) (by omega)
            generalize hpw : (qv + vy) * (w : Int) = pw at *
            (repeat (first | ((with_reducible refine VC.mkL ?_ fun _ => ?_); · first | omega | exact True.intro | rfl) | ((with_reducible refine VC.mkD ?_ fun _ => ?_); · first | omega | exact True.intro | (intros; omega)) | ((with_reducible refine dEnd.mk ?_ ?_); · kernel_rfl) | (with_reducible refine adrZ.go ?_) | (simp [go_sem, hpw])))
            refine ALoop.start (hrec2 (s - 1) (by omega) (c + 1) (by omega)) ?_ (by simp)
            simp [go_sem, Wk_eq, gridRow_succ, hgs]
            (intro r hr c hc; (first | (rcases hr with ⟨_, _, rfl⟩ | rfl) | (rcases hr with rfl | ⟨_, _, rfl⟩) | (rcases hr with rfl | rfl) | ((rcases List.mem_or_eq_of_mem_set hr with hr | rfl) <;> first | (obtain ⟨_, _, rfl⟩ := List.mem_map.1 hr; simp only [encI] at hc) | skip) | (rcases hr with ⟨_, rfl⟩ | ⟨_, rfl⟩) | (rcases hr with ⟨_, _, rfl⟩ | ⟨_, rfl⟩) | (rcases hr with ⟨_, rfl⟩ | ⟨_, _, rfl⟩) | (rcases hr with ⟨_, _, rfl⟩ | ⟨_, _, rfl⟩) | (obtain ⟨_, rfl⟩ := hr) | (obtain ⟨_, _, rfl⟩ := hr)) <;> simp at hc <;> (try subst hc) <;> first | exact .v _ | (rcases hc with rfl | rfl <;> exact .v _))
          · rw [if_neg (by omega)] at hgs
            (repeat (first | ((with_reducible refine VC.mkL ?_ fun _ => ?_); · first | omega | exact True.intro | rfl) | ((with_reducible refine VC.mkD ?_ fun _ => ?_); · first | omega | exact True.intro | (intros; omega)) | ((with_reducible refine dEnd.mk ?_ ?_); · kernel_rfl) | (with_reducible refine adrZ.go ?_) | (simp [go_sem])))
            refine ALoop.start (hrec2 (s - 1) (by omega) (c + 1) (by omega)) ?_ (by simp)
            simp [go_sem, Wk_eq, gridRow_succ, hgs]
            (intro r hr c hc; (first | (rcases hr with ⟨_, _, rfl⟩ | rfl) | (rcases hr with rfl | ⟨_, _, rfl⟩) | (rcases hr with rfl | rfl) | ((rcases List.mem_or_eq_of_mem_set hr with hr | rfl) <;> first | (obtain ⟨_, _, rfl⟩ := List.mem_map.1 hr; simp only [encI] at hc) | skip) | (rcases hr with ⟨_, rfl⟩ | ⟨_, rfl⟩) | (rcases hr with ⟨_, _, rfl⟩ | ⟨_, rfl⟩) | (rcases hr with ⟨_, rfl⟩ | ⟨_, _, rfl⟩) | (rcases hr with ⟨_, _, rfl⟩ | ⟨_, _, rfl⟩) | (obtain ⟨_, rfl⟩ := hr) | (obtain ⟨_, _, rfl⟩ := hr)) <;> simp at hc <;> (try subst hc) <;> first | exact .v _ | (rcases hc with rfl | rfl <;> exact .v _))
        · have hcD : c = w * h := by omega
          subst hcD
          have hgn := gridNext_succ w h d
          have hgt := gridTurn_succ d
          (repeat (first | ((with_reducible refine VC.mkL ?_ fun _ => ?_); · first | omega | exact True.intro | rfl) | ((with_reducible refine VC.mkD ?_ fun _ => ?_); · first | omega | exact True.intro | (intros; omega)) | ((with_reducible refine dEnd.mk ?_ ?_); · kernel_rfl) | (with_reducible refine adrZ.go ?_) | (simp [go_sem])))
          refine ALoop.start (hrec (r - 1) (by omega) (d + 1) (by omega)) ?_ (by simp)
          simp [go_sem, Wk_eq, hgn, hgt]
          refine ⟨⟨?_, ?_⟩, ?_⟩
          · refine leRows_append (.refl _) ?_
            refine LeRows.cons (LeRow.cons ?_ LeRow.nil) LeRows.nil
            refine LeV.frz rfl ?_ ?_ (LeRows.of_eq ?_) <;> simp [mkH, upd, lgr, List.take_of_length_le]
          · rintro r (⟨a, _, rfl⟩ | rfl) c hc <;> simp at hc <;> subst hc <;> exact of_eq_true bel_Is
          · (intro r hr c hc; (first | (rcases hr with ⟨_, _, rfl⟩ | rfl) | (rcases hr with rfl | ⟨_, _, rfl⟩) | (rcases hr with rfl | rfl) | ((rcases List.mem_or_eq_of_mem_set hr with hr | rfl) <;> first | (obtain ⟨_, _, rfl⟩ := List.mem_map.1 hr; simp only [encI] at hc) | skip) | (rcases hr with ⟨_, rfl⟩ | ⟨_, rfl⟩) | (rcases hr with ⟨_, _, rfl⟩ | ⟨_, rfl⟩) | (rcases hr with ⟨_, rfl⟩ | ⟨_, _, rfl⟩) | (rcases hr with ⟨_, _, rfl⟩ | ⟨_, _, rfl⟩) | (obtain ⟨_, rfl⟩ := hr) | (obtain ⟨_, _, rfl⟩ := hr)) <;> simp at hc <;> (try subst hc) <;> first | exact .v _ | (rcases hc with rfl | rfl <;> exact .v _))
      · simp
      · simp [go_sem, Wk_eq, gridRow]
      · simp
    · have hd8 : d = 8 := by omega
      subst hd8
      (repeat (first | ((with_reducible refine VC.mkL ?_ fun _ => ?_); · first | omega | exact True.intro | rfl) | ((with_reducible refine VC.mkD ?_ fun _ => ?_); · first | omega | exact True.intro | (intros; omega)) | ((with_reducible refine dEnd.mk ?_ ?_); · kernel_rfl) | (with_reducible refine adrZ.go ?_) | (simp [go_sem])))
      refine ⟨?_, ?_⟩ <;> (refine LeV.frz rfl ?_ ?_ (LeRows.of_eq ?_) <;> simp [noH, lgn, lgt, List.take_of_length_le])
  · simp
  · simp [go_sem, Wk_eq, edx, edy, gridNext, gridTurn]
  · simp
/-! ### Without -/
def withoutStep (b : BoardD) (c : Int) (d x : Nat) : Int := if (x : Int) = c ∨ nth (nth b.next d) x = c then -1 else nth (nth b.next d) x
def withoutRow (b : BoardD) (c : Int) (d n : Nat) : List Int := (List.range n).map (withoutStep b c d)
def withoutNext (b : BoardD) (c : Int) (d : Nat) : List (List Int) := (List.range d).map fun d => withoutRow b c d b.cells.toNat
def withoutB (b : BoardD) (c : Int) : BoardD := ⟨b.cells, withoutNext b c b.next.length, b.turn⟩
theorem withoutRow_succ (b : BoardD) (c : Int) (d n : Nat) : withoutRow b c d (n + 1) = withoutRow b c d n ++ [withoutStep b c d n] := by simp [withoutRow, List.range_succ]
theorem withoutNext_succ (b : BoardD) (c : Int) (d : Nat) : withoutNext b c (d + 1) = withoutNext b c d ++ [withoutRow b c d b.cells.toNat] := by simp [withoutNext, List.range_succ]
theorem R1Without_pure (b : BoardD) (hb : BoardOk b) (c : Int) (h0 : 0 ≤ c) (h1 : c < b.cells) : Pure Try.prog 109 [.agg (encB b), .v (.int .i64 c)] (.tup [.agg (encB (withoutB b c)), .v (.int .i64 0)]) := by
  refine Pure.of (ACallP.of_awp (by kernel_rfl) Try.func109 rfl rfl (Nat.le_of_ble_eq_true rfl) (by kernel_rfl) ?_)
  obtain ⟨tl, tv, nl, nv, c0, c1, n1⟩ := hb
  have e1 : (encB (withoutB b c)) = [.v (.int .i64 b.cells), encIss (withoutNext b c b.next.length), encIs b.turn] := rfl
  rw [e1]
  (repeat (first | ((with_reducible refine VC.mkL ?_ fun _ => ?_); · first | omega | exact True.intro | rfl) | ((with_reducible refine VC.mkD ?_ fun _ => ?_); · first | omega | exact True.intro | (intros; omega)) | ((with_reducible refine dEnd.mk ?_ ?_); · kernel_rfl) | (with_reducible refine adrZ.go ?_) | (simp [go_sem])))
  (refine aIf.mkL (fun hF => by first | omega | (simp at hF; omega)) (fun hF => ?_); clear hF)
  (repeat (first | ((with_reducible refine VC.mkL ?_ fun _ => ?_); · first | omega | exact True.intro | rfl) | ((with_reducible refine VC.mkD ?_ fun _ => ?_); · first | omega | exact True.intro | (intros; omega)) | ((with_reducible refine dEnd.mk ?_ ?_); · kernel_rfl) | (with_reducible refine adrZ.go ?_) | (simp [go_sem])))
  refine ALoop.start (ALoop.ind (α := Nat) (fun d => ⟨[(1, .v (.int .i64 c)), (2, .ref 0 0 3 0 0), (4, .ref 1 0 3 0 0), (6, .ref 9 0 3 0 0), (7, .v (.int .i64 d))],
      [(0, .rows true 0 3 [encB b]), (1, .rows true 0 3 [[.v (.int .i64 0), .v (.slice none 0 0), .v (.slice none 0 0)]]), (4, .rows true 1 1 (b.turn.map encI)),
       (9, .rows true 0 3 [[.v (.int .i64 b.cells), .sl 11 d 1 0 d, .sl 4 1 1 0 b.turn.length]]), (11, .rows true d 1 ((withoutNext b c d).map fun l => [encIs l]))], 12⟩)
    (fun r d => d + r = b.next.length) ?_ b.next.length 0 ?_) ?_ ?_
  · rintro r d i1 hrec
    have lgn : (withoutNext b c d).length = d := by simp [withoutNext]
    (repeat (first | ((with_reducible refine VC.mkL ?_ fun _ => ?_); · first | omega | exact True.intro | rfl) | ((with_reducible refine VC.mkD ?_ fun _ => ?_); · first | omega | exact True.intro | (intros; omega)) | ((with_reducible refine dEnd.mk ?_ ?_); · kernel_rfl) | (with_reducible refine adrZ.go ?_) | (simp [go_sem])))
    refine aIf.mkL (fun hd => ?_) (fun hd => ?_) <;> simp at hd
    · have hlen := nl _ (nth_mem hd)
      (repeat (first | ((with_reducible refine VC.mkL ?_ fun _ => ?_); · first | omega | exact True.intro | rfl) | ((with_reducible refine VC.mkD ?_ fun _ => ?_); · first | omega | exact True.intro | (intros; omega)) | ((with_reducible refine dEnd.mk ?_ ?_); · kernel_rfl) | (with_reducible refine adrZ.go ?_) | (simp [go_sem])))
      refine ALoop.start (ALoop.ind (α := Nat) (fun x => ⟨[(1, .v (.int .i64 c)), (2, .ref 0 0 3 0 0), (4, .ref 1 0 3 0 0), (6, .ref 9 0 3 0 0), (7, .v (.int .i64 d)), (8, .sl 12 x 1 0 x), (9, .v (.int .i64 x))],
          [(0, .rows true 0 3 [encB b]), (1, .rows true 0 3 [[.v (.int .i64 0), .v (.slice none 0 0), .v (.slice none 0 0)]]), (4, .rows true 1 1 (b.turn.map encI)),
           (9, .rows true 0 3 [[.v (.int .i64 b.cells), .sl 11 d 1 0 d, .sl 4 1 1 0 b.turn.length]]), (11, .rows true d 1 ((withoutNext b c d).map fun l => [encIs l])), (12, .rows true x 1 ((withoutRow b c d x).map encI))], 13⟩)
        (fun s x => x + s = b.cells.toNat) ?_ b.cells.toNat 0 ?_) ?_ ?_
      · rintro s x j1 hrec2
        have lgr : (withoutRow b c d x).length = x := by simp [withoutRow]
        (repeat (first | ((with_reducible refine VC.mkL ?_ fun _ => ?_); · first | omega | exact True.intro | rfl) | ((with_reducible refine VC.mkD ?_ fun _ => ?_); · first | omega | exact True.intro | (intros; omega)) | ((with_reducible refine dEnd.mk ?_ ?_); · kernel_rfl) | (with_reducible refine adrZ.go ?_) | (simp [go_sem])))
        refine aIf.mkL (fun hx => ?_) (fun hx => ?_) <;> simp at hx
        · have hxl : x < (nth b.next d).length := by omega
          have hgs : withoutStep b c d x = if (x : Int) = c ∨ nth (nth b.next d) x = c then -1 else nth (nth b.next d) x := rfl
          (repeat (first | ((with_reducible refine VC.mkL ?_ fun _ => ?_); · first | omega | exact True.intro | rfl) | ((with_reducible refine VC.mkD ?_ fun _ => ?_); · first | omega | exact True.intro | (intros; omega)) | ((with_reducible refine dEnd.mk ?_ ?_); · kernel_rfl) | (with_reducible refine adrZ.go ?_) | (simp [go_sem, hd, hxl])))
          refine aIf.mkL (fun hg => ?_) (fun hg => ?_) <;> simp at hg
          · rw [if_pos (by omega)] at hgs
            (repeat (first | ((with_reducible refine VC.mkL ?_ fun _ => ?_); · first | omega | exact True.intro | rfl) | ((with_reducible refine VC.mkD ?_ fun _ => ?_); · first | omega | exact True.intro | (intros; omega)) | ((with_reducible refine dEnd.mk ?_ ?_); · kernel_rfl) | (with_reducible refine adrZ.go ?_) | (simp [go_sem])))
            refine ALoop.start (hrec2 (s - 1) (by omega) (x + 1) (by omega)) ?_ (by simp)
            simp [go_sem, Wk_eq, withoutRow_succ, hgs]
            (intro r hr c hc; (first | (rcases hr with ⟨_, _, rfl⟩ | rfl) | (rcases hr with rfl | ⟨_, _, rfl⟩) | (rcases hr with rfl | rfl) | ((rcases List.mem_or_eq_of_mem_set hr with hr | rfl) <;> first | (obtain ⟨_, _, rfl⟩ := List.mem_map.1 hr; simp only [encI] at hc) | skip) | (rcases hr with ⟨_, rfl⟩ | ⟨_, rfl⟩) | (rcases hr with ⟨_, _, rfl⟩ | ⟨_, rfl⟩) | (rcases hr with ⟨_, rfl⟩ | ⟨_, _, rfl⟩) | (rcases hr with ⟨_, _, rfl⟩ | ⟨_, _, rfl⟩) | (obtain ⟨_, rfl⟩ := hr) | (obtain ⟨_, _, rfl⟩ := hr)) <;> simp at hc <;> (try subst hc) <;> first | exact .v _ | (rcases hc with rfl | rfl <;> exact .v _))
          · rw [if_neg (by omega)] at hgs
            (repeat (first | ((with_reducible refine VC.mkL ?_ fun _ => ?_); · first | omega | exact True.intro | rfl) | ((with_reducible refine VC.mkD ?_ fun _ => ?_); · first | omega | exact True.intro | (intros; omega)) | ((with_reducible refine dEnd.mk ?_ ?_); · kernel_rfl) | (with_reducible refine adrZ.go ?_) | (simp [go_sem])))
            refine ALoop.start (hrec2 (s - 1) (by omega) (x + 1) (by omega)) ?_ (by simp)
            simp [go_sem, Wk_eq, withoutRow_succ, hgs]
            (intro r hr c hc; (first | (rcases hr with ⟨_, _, rfl⟩ | rfl) | (rcases hr with rfl | ⟨_, _, rfl⟩) | (rcases hr with rfl | rfl) | ((rcases List.mem_or_eq_of_mem_set hr with hr | rfl) <;> first | (obtain ⟨_, _, rfl⟩ := List.mem_map.1 hr; simp only [encI] at hc) | skip) | (rcases hr with ⟨_, rfl⟩ | ⟨_, rfl⟩) | (rcases hr with ⟨_, _, rfl⟩ | ⟨_, rfl⟩) | (rcases hr with ⟨_, rfl⟩ | ⟨_, _, rfl⟩) | (rcases hr with ⟨_, _, rfl⟩ | ⟨_, _, rfl⟩) | (obtain ⟨_, rfl⟩ := hr) | (obtain ⟨_, _, rfl⟩ := hr)) <;> simp at hc <;> (try subst hc) <;> first | exact .v _ | (rcases hc with rfl | rfl <;> exact .v _))
        · have hcD : x = b.cells.toNat := by omega
          subst hcD
          have hgn := withoutNext_succ b c d
          (repeat (first | ((with_reducible refine VC.mkL ?_ fun _ => ?_); · first | omega | exact True.intro | rfl) | ((with_reducible refine VC.mkD ?_ fun _ => ?_); · first | omega | exact True.intro | (intros; omega)) | ((with_reducible refine dEnd.mk ?_ ?_); · kernel_rfl) | (with_reducible refine adrZ.go ?_) | (simp [go_sem])))
          refine ALoop.start (hrec (r - 1) (by omega) (d + 1) (by omega)) ?_ (by simp)
          simp [go_sem, Wk_eq, hgn]
          refine ⟨?_, ?_⟩
          · refine leRows_append (.refl _) ?_
            refine LeRows.cons (LeRow.cons ?_ LeRow.nil) LeRows.nil
            refine LeV.frz rfl ?_ ?_ (LeRows.of_eq ?_) <;> simp [mkH, upd, lgr, List.take_of_length_le]
          · rintro r (⟨a, _, rfl⟩ | rfl) c hc <;> simp at hc <;> subst hc <;> exact of_eq_true bel_Is
      · simp
      · simp [go_sem, Wk_eq, withoutRow]
      · simp
    · have hd8 : d = b.next.length := by omega
      subst hd8
      (repeat (first | ((with_reducible refine VC.mkL ?_ fun _ => ?_); · first | omega | exact True.intro | rfl) | ((with_reducible refine VC.mkD ?_ fun _ => ?_); · first | omega | exact True.intro | (intros; omega)) | ((with_reducible refine dEnd.mk ?_ ?_); · kernel_rfl) | (with_reducible refine adrZ.go ?_) | (simp [go_sem])))
      refine ⟨?_, ?_⟩ <;> (refine LeV.frz rfl ?_ ?_ (LeRows.of_eq ?_) <;> simp [noH, lgn, List.take_of_length_le])
  · simp
  · simp [go_sem, Wk_eq, withoutNext]
  · simp
end Go.Av
end
section
set_option linter.unusedSimpArgs false
set_option linter.unusedVariables false
open Go Go.Proofs
set_option maxRecDepth 20000
set_option maxHeartbeats 4000000
namespace Go.Av
theorem boardOk_grid {w h : Nat} (hw : 1 ≤ w ∧ w ≤ 8) (hh : 1 ≤ h ∧ h ≤ 8) : BoardOk (gridB w h) := by
  have hwh : w * h ≤ 64 := Nat.mul_le_mul hw.2 hh.2
  have e : ((w : Int) * h) = ((w * h : Nat) : Int) := by simp
  refine ⟨by simp [gridB, gridTurn, gridNext], ?_, ?_, ?_, ?_, ?_, by simp [gridB, gridNext]⟩
  · intro t ht
    simp only [gridB, gridTurn, List.mem_map, List.mem_range] at ht
    obtain ⟨i, hi, rfl⟩ := ht
    have h1 := Int.tmod_nonneg 8 (show (0 : Int) ≤ (i : Int) + 4 by omega)
    have h2 := Int.tmod_lt_of_pos ((i : Int) + 4) (show (0 : Int) < 8 by decide)
    simp [gridB, gridNext]; omega
  · intro l hl
    simp only [gridB, gridNext, List.mem_map, List.mem_range] at hl
    obtain ⟨i, hi, rfl⟩ := hl
    simp [gridRow, gridB]
  · intro l hl x hx
    simp only [gridB, gridNext, List.mem_map, List.mem_range] at hl
    obtain ⟨i, hi, rfl⟩ := hl
    simp only [gridRow, List.mem_map, List.mem_range] at hx
    obtain ⟨c, hc, rfl⟩ := hx
    simp only [gridB, gridStep]
    split
    · rename_i hg
      obtain ⟨⟨g1, g2⟩, g3, g4⟩ := hg
      generalize (c : Int).tmod w + nth dxL i = x at *
      generalize (c : Int).tdiv w + nth dyL i = y at *
      have k1 : 0 ≤ y * w := Int.mul_nonneg g3 (by omega)
      have k2 : y * w ≤ (h - 1) * w := Int.mul_le_mul_of_nonneg_right (by omega) (by omega)
      have k3 : ((h : Int) - 1) * w = w * h - w := by rw [Int.sub_mul, Int.mul_comm]; simp
      omega
    · omega
  · simp [gridB]; omega
  · simp only [gridB]; omega
theorem boardOk_without {b : BoardD} (hb : BoardOk b) (c : Int) : BoardOk (withoutB b c) := by
  have hl : (withoutNext b c b.next.length).length = b.next.length := by simp [withoutNext]
  have hc0 := hb.c0
  refine ⟨by simp only [withoutB, hl]; exact hb.tl, ?_, ?_, ?_, hb.c0, hb.c1, by simp only [withoutB, hl]; exact hb.n1⟩
  · intro t ht
    simp only [withoutB, hl]
    exact hb.tv t ht
  · intro l hl
    simp only [withoutB, withoutNext, List.mem_map, List.mem_range] at hl
    obtain ⟨i, hi, rfl⟩ := hl
    simp [withoutRow, withoutB]; omega
  · intro l hl x hx
    simp only [withoutB, withoutNext, List.mem_map, List.mem_range] at hl
    obtain ⟨i, hi, rfl⟩ := hl
    simp only [withoutRow, List.mem_map, List.mem_range] at hx
    obtain ⟨k, hk, rfl⟩ := hx
    simp only [withoutB, withoutStep]
    split
    · omega
    · have h1 := hb.nl _ (nth_mem hi)
      exact hb.nv _ (nth_mem hi) _ (nth_mem (by omega))
def madeB (w h cut : Int) : BoardD :=
  if 200 < cut then withoutB (gridB (1 + w.tmod 3).toNat (1 + h.tmod 3).toNat) (cut.tmod (gridB (1 + w.tmod 3).toNat (1 + h.tmod 3).toNat).cells) else gridB (1 + w.tmod 3).toNat (1 + h.tmod 3).toNat
theorem boardOk_made {w h : Int} (hw : 0 ≤ w) (hh : 0 ≤ h) (cut : Int) : BoardOk (madeB w h cut) := by
  have a0 := Int.tmod_nonneg 3 hw
  have a1 := Int.tmod_lt_of_pos w (show (0 : Int) < 3 by decide)
  have b0 := Int.tmod_nonneg 3 hh
  have b1 := Int.tmod_lt_of_pos h (show (0 : Int) < 3 by decide)
  have hg : BoardOk (gridB (1 + w.tmod 3).toNat (1 + h.tmod 3).toNat) := boardOk_grid (by omega) (by omega)
  unfold madeB
  split
  · exact boardOk_without hg _
  · exact hg
theorem R1Made_pure (w h cut : Int) (hw : 0 ≤ w ∧ w ≤ 255) (hh : 0 ≤ h ∧ h ≤ 255) (hc : 0 ≤ cut ∧ cut ≤ 255) : Pure Try.prog 85 [.v (.int .u8 w), .v (.int .u8 h), .v (.int .u8 cut)] (.agg (encB (madeB w h cut))) := by
  refine Pure.of (ACallP.of_awp (by kernel_rfl) Try.func85 rfl rfl (Nat.le_of_ble_eq_true rfl) (by kernel_rfl) ?_)
  have a0 := Int.tmod_nonneg 3 hw.1
  have a1 := Int.tmod_lt_of_pos w (show (0 : Int) < 3 by decide)
  have b0 := Int.tmod_nonneg 3 hh.1
  have b1 := Int.tmod_lt_of_pos h (show (0 : Int) < 3 by decide)
  obtain ⟨W, hW⟩ : ∃ W : Nat, 1 + w.tmod 3 = W := ⟨(1 + w.tmod 3).toNat, by omega⟩
  obtain ⟨H, hH⟩ : ∃ H : Nat, 1 + h.tmod 3 = H := ⟨(1 + h.tmod 3).toNat, by omega⟩
  have e : madeB w h cut = if 200 < cut then withoutB (gridB W H) (cut.tmod (gridB W H).cells) else gridB W H := by unfold madeB; rw [hW, hH]; rfl
  rw [e]
  have hG := R1Grid_pure W H (by omega) (by omega)
  have hok : BoardOk (gridB W H) := boardOk_grid (by omega) (by omega)
  have hcl : 1 ≤ (gridB W H).cells := by
    have : 1 * 1 ≤ W * H := Nat.mul_le_mul (by omega) (by omega)
    simp only [gridB]; exact_mod_cast this
  generalize gridB W H = b at *
  have m0 := Int.tmod_nonneg b.cells hc.1
  have m1 := Int.tmod_lt_of_pos cut (show (0 : Int) < b.cells by omega)
  have hWo := R1Without_pure b hok (cut.tmod b.cells) m0 m1
  have hel : (encB b).length = 3 := rfl
  have hbl : ∀ n, (∀ c' ∈ encB b, Bel n c') = True := fun n => by simp [go_sem]
  (repeat (first | ((with_reducible refine VC.mkL ?_ fun _ => ?_); · first | omega | exact True.intro | rfl) | ((with_reducible refine VC.mkD ?_ fun _ => ?_); · first | omega | exact True.intro | (intros; omega)) | ((with_reducible refine dEnd.mk ?_ ?_); · kernel_rfl) | (with_reducible refine adrZ.go ?_) | (simp [go_sem, hW, hH])))
  refine ACallP.plain hG (by simp [go_sem]) ?_
  (repeat (first | ((with_reducible refine VC.mkL ?_ fun _ => ?_); · first | omega | exact True.intro | rfl) | ((with_reducible refine VC.mkD ?_ fun _ => ?_); · first | omega | exact True.intro | (intros; omega)) | ((with_reducible refine dEnd.mk ?_ ?_); · kernel_rfl) | (with_reducible refine adrZ.go ?_) | (simp [go_sem])))
  refine aIf.mkL (fun hcut => ?_) (fun hcut => ?_) <;> simp at hcut
  · rw [if_pos hcut]
    (repeat (first | ((with_reducible refine VC.mkL ?_ fun _ => ?_); · first | omega | exact True.intro | rfl) | ((with_reducible refine VC.mkD ?_ fun _ => ?_); · first | omega | exact True.intro | (intros; omega)) | ((with_reducible refine dEnd.mk ?_ ?_); · kernel_rfl) | (with_reducible refine adrZ.go ?_) | (simp [go_sem])))
    try ((with_reducible refine adrZ.go ?_); (try simp [go_sem]))
    refine dCall.plain hWo (by simp [go_sem]) ?_
    (repeat (first | ((with_reducible refine VC.mkL ?_ fun _ => ?_); · first | omega | exact True.intro | rfl) | ((with_reducible refine VC.mkD ?_ fun _ => ?_); · first | omega | exact True.intro | (intros; omega)) | ((with_reducible refine dEnd.mk ?_ ?_); · kernel_rfl) | (with_reducible refine adrZ.go ?_) | (simp [go_sem])))
  · rw [if_neg (by omega)]
    (repeat (first | ((with_reducible refine VC.mkL ?_ fun _ => ?_); · first | omega | exact True.intro | rfl) | ((with_reducible refine VC.mkD ?_ fun _ => ?_); · first | omega | exact True.intro | (intros; omega)) | ((with_reducible refine dEnd.mk ?_ ?_); · kernel_rfl) | (with_reducible refine adrZ.go ?_) | (simp [go_sem])))
end Go.Av
end
section
set_option linter.unusedSimpArgs false
set_option linter.unusedVariables false
open Go Go.Proofs
set_option maxRecDepth 20000
set_option maxHeartbeats 4000000
namespace Go.Av
def encProg (p : List (Int × Int)) : AV := .lst 2 (p.map encStep)
theorem bel_S {n : Nat} {l : List (Int × Int)} : (∀ r ∈ l.map encStep, ∀ c ∈ r, Bel n c) = True := by
  refine eq_true ?_
  intro r hr c hc
  obtain ⟨x, _, rfl⟩ := List.mem_map.1 hr
  simp only [encStep, List.mem_cons, List.mem_nil_iff, or_false] at hc
  rcases hc with rfl | rfl <;> exact .v _
theorem bel_Prog {n : Nat} {l : List (Int × Int)} : Bel n (.lst 2 (l.map encStep)) = True := by rw [Bel_lst, bel_S]
attribute [go_sem] encProg
attribute [go_sem high] bel_Prog
theorem R2at_pure (l : List Int) (i : Nat) (hi : i ≤ 1000) (hl : l.length ≤ 9223372036854775807) (hv : ∀ x ∈ l, 0 ≤ x ∧ x ≤ 255) : Pure Try.prog 136 [encUs l, .v (.int .i64 i)] (.v (.int .i64 (if i < l.length then nth l i else 0))) := by
  refine Pure.of (ACallP.of_awp (by kernel_rfl) Try.func136 rfl rfl (Nat.le_of_ble_eq_true rfl) (by kernel_rfl) ?_)
  (repeat (first | ((with_reducible refine VC.mkL ?_ fun _ => ?_); · first | omega | exact True.intro | rfl) | ((with_reducible refine VC.mkD ?_ fun _ => ?_); · first | omega | exact True.intro | (intros; omega)) | ((with_reducible refine dEnd.mk ?_ ?_); · kernel_rfl) | (with_reducible refine adrZ.go ?_) | (simp [go_sem])))
  refine aIf.mkL (fun h => ?_) (fun h => ?_) <;> simp at h
  · have hb := hv _ (nth_mem h)
    rw [if_pos h]
    (repeat (first | ((with_reducible refine VC.mkL ?_ fun _ => ?_); · first | omega | exact True.intro | rfl) | ((with_reducible refine VC.mkD ?_ fun _ => ?_); · first | omega | exact True.intro | (intros; omega)) | ((with_reducible refine dEnd.mk ?_ ?_); · kernel_rfl) | (with_reducible refine adrZ.go ?_) | (simp [go_sem, h])))
  · rw [if_neg (by omega)]
    (repeat (first | ((with_reducible refine VC.mkL ?_ fun _ => ?_); · first | omega | exact True.intro | rfl) | ((with_reducible refine VC.mkD ?_ fun _ => ?_); · first | omega | exact True.intro | (intros; omega)) | ((with_reducible refine dEnd.mk ?_ ?_); · kernel_rfl) | (with_reducible refine adrZ.go ?_) | (simp [go_sem])))
def libL (d e k r : Int) : List (List (Int × Int)) :=
  [[(1, d), (3, 0)], [(1, d), (4, 0), (6, 0)], [(2, d)], [(2, d), (4, 0), (6, 0)], [(1, d), (4, 0), (6, 0), (1, d)], [(1, d), (1, e)], [(1, d), (7, d)], [(1, d), (3, 0), (8, k)],
   [(9, r), (1, d), (1, d), (10, r)], [(1, d), (5, 0), (1, d), (3, 0)], [(10, r), (1, d)], [(1, d), (4, 0), (6, 0), (1, (d + 4).tmod 8)], [(1, d), (4, 0), (6, 0), (1, e), (4, 0), (6, 0)], [(2, d), (5, 0), (1, d)], [(1, d), (4, 0), (6, 0), (8, k)], [(1, d), (7, d), (1, e)]]
theorem R2Lib_pure (a b c d e : Int) (hv : ∀ x ∈ [a, b, c, d, e], 0 ≤ x ∧ x ≤ 255) : Pure Try.prog 111 [encUs [a, b, c, d, e]] (encProg (nth (libL (b.tmod 8) (c.tmod 8) (d.tmod 6) (e.tmod 4)) (a.tmod 16).toNat)) := by
  refine Pure.of (ACallP.of_awp (by kernel_rfl) Try.func111 rfl rfl (Nat.le_of_ble_eq_true rfl) (by kernel_rfl) ?_)
  have hA := fun (i : Nat) (hi : i < 5) => R2at_pure [a, b, c, d, e] i (by omega) (by simp) hv
  have h0 := hA 0 (by omega)
  have h1 := hA 1 (by omega)
  have h2 := hA 2 (by omega)
  have h3 := hA 3 (by omega)
  have h4 := hA 4 (by omega)
  clear hA
  simp [nth] at h0 h1 h2 h3 h4 hv
  obtain ⟨v0, v1, v2, v3, v4⟩ := hv
  have b0 := Int.tmod_nonneg 8 v1.1
  have b1 := Int.tmod_lt_of_pos b (show (0 : Int) < 8 by decide)
  have a0 := Int.tmod_nonneg 16 v0.1
  have a1 := Int.tmod_lt_of_pos a (show (0 : Int) < 16 by decide)
  (repeat (first | ((with_reducible refine VC.mkL ?_ fun _ => ?_); · first | omega | exact True.intro | rfl) | ((with_reducible refine VC.mkD ?_ fun _ => ?_); · first | omega | exact True.intro | (intros; omega)) | ((with_reducible refine dEnd.mk ?_ ?_); · kernel_rfl) | (with_reducible refine adrZ.go ?_) | (simp [go_sem])))
  refine ACallP.plain h1 (by simp [go_sem]) ?_
  (repeat (first | ((with_reducible refine VC.mkL ?_ fun _ => ?_); · first | omega | exact True.intro | rfl) | ((with_reducible refine VC.mkD ?_ fun _ => ?_); · first | omega | exact True.intro | (intros; omega)) | ((with_reducible refine dEnd.mk ?_ ?_); · kernel_rfl) | (with_reducible refine adrZ.go ?_) | (simp [go_sem])))
  refine ACallP.plain h2 (by simp [go_sem]) ?_
  (repeat (first | ((with_reducible refine VC.mkL ?_ fun _ => ?_); · first | omega | exact True.intro | rfl) | ((with_reducible refine VC.mkD ?_ fun _ => ?_); · first | omega | exact True.intro | (intros; omega)) | ((with_reducible refine dEnd.mk ?_ ?_); · kernel_rfl) | (with_reducible refine adrZ.go ?_) | (simp [go_sem])))
  refine ACallP.plain h3 (by simp [go_sem]) ?_
  (repeat (first | ((with_reducible refine VC.mkL ?_ fun _ => ?_); · first | omega | exact True.intro | rfl) | ((with_reducible refine VC.mkD ?_ fun _ => ?_); · first | omega | exact True.intro | (intros; omega)) | ((with_reducible refine dEnd.mk ?_ ?_); · kernel_rfl) | (with_reducible refine adrZ.go ?_) | (simp [go_sem])))
  refine ACallP.plain h4 (by simp [go_sem]) ?_
  generalize hbv : b.tmod 8 = B at *
  generalize hcv : c.tmod 8 = C at *
  generalize hdv : d.tmod 6 = D at *
  generalize hev : e.tmod 4 = E at *
  (repeat (first | ((with_reducible refine VC.mkL ?_ fun _ => ?_); · first | omega | exact True.intro | rfl) | ((with_reducible refine VC.mkD ?_ fun _ => ?_); · first | omega | exact True.intro | (intros; omega)) | ((with_reducible refine dEnd.mk ?_ ?_); · kernel_rfl) | (with_reducible refine adrZ.go ?_) | (simp [go_sem, hbv, hcv, hdv, hev])))
  refine ACallP.plain h0 (by simp [go_sem]) ?_
  (repeat (first | ((with_reducible refine VC.mkL ?_ fun _ => ?_); · first | omega | exact True.intro | rfl) | ((with_reducible refine VC.mkD ?_ fun _ => ?_); · first | omega | exact True.intro | (intros; omega)) | ((with_reducible refine dEnd.mk ?_ ?_); · kernel_rfl) | (with_reducible refine adrZ.go ?_) | (simp [go_sem])))
  obtain ⟨i, hi⟩ : ∃ i : Nat, a.tmod 16 = i := ⟨(a.tmod 16).toNat, by omega⟩
  rw [hi] at a0 a1 ⊢
  rcases (show i = 0 ∨ i = 1 ∨ i = 2 ∨ i = 3 ∨ i = 4 ∨ i = 5 ∨ i = 6 ∨ i = 7 ∨ i = 8 ∨ i = 9 ∨ i = 10 ∨ i = 11 ∨ i = 12 ∨ i = 13 ∨ i = 14 ∨ i = 15 by omega) with rfl | rfl | rfl | rfl | rfl | rfl | rfl | rfl | rfl | rfl | rfl | rfl | rfl | rfl | rfl | rfl <;>
    (simp [nth, cel, libL, encStep]; refine LeV.frz rfl ?_ ?_ (LeRows.of_eq ?_) <;> simp [noH])
end Go.Av
end
section
set_option linter.unusedSimpArgs false
set_option linter.unusedVariables false
open Go Go.Proofs
set_option maxRecDepth 20000
set_option maxHeartbeats 4000000
namespace Go.Av
def fitStep (dirs kinds rights : Int) (x : Int × Int) : Option (Int × Int) :=
  if x.1 = 1 ∨ x.1 = 2 ∨ x.1 = 7 then some (x.1, x.2.tmod dirs) else if x.1 = 8 then some (x.1, x.2.tmod kinds)
  else if x.1 = 9 ∨ x.1 = 10 then (if rights = 0 then none else some (x.1, x.2.tmod rights)) else some x
def fitP (dirs kinds rights : Int) (p : List (Int × Int)) : List (Int × Int) := if p.filterMap (fitStep dirs kinds rights) = [] then [(3, 0)] else p.filterMap (fitStep dirs kinds rights)
theorem fm_take {α β : Type} [Inhabited α] (f : α → Option β) (l : List α) (j : Nat) (h : j < l.length) : (l.take (j + 1)).filterMap f = (l.take j).filterMap f ++ (f (nth l j)).toList := by
  rw [List.take_add_one, List.filterMap_append, List.getElem?_eq_getElem h, nth_eq _ _ h]
  cases hf : f l[j] <;> simp [hf]
theorem R2Fit_pure (p : List (Int × Int)) (hp : p.length ≤ 1048576) (dirs kinds rights : Int) (hd : 1 ≤ dirs) (hk : 1 ≤ kinds) (hr : 0 ≤ rights) :
    Pure Try.prog 110 [encProg p, .v (.int .i64 dirs), .v (.int .i64 kinds), .v (.int .i64 rights)] (encProg (fitP dirs kinds rights p)) := by
  refine Pure.of (ACallP.of_awp (by kernel_rfl) Try.func110 rfl rfl (Nat.le_of_ble_eq_true rfl) (by kernel_rfl) ?_)
  (repeat (first | ((with_reducible refine VC.mkL ?_ fun _ => ?_); · first | omega | exact True.intro | rfl) | ((with_reducible refine VC.mkD ?_ fun _ => ?_); · first | omega | exact True.intro | (intros; omega)) | ((with_reducible refine dEnd.mk ?_ ?_); · kernel_rfl) | (with_reducible refine adrZ.go ?_) | (simp [go_sem])))
  refine ALoop.start (ALoop.ind (α := Nat × List (Int × Int)) (fun a => ⟨[(0, encProg p), (1, .v (.int .i64 dirs)), (2, .v (.int .i64 kinds)), (3, .v (.int .i64 rights)), (9, .sl 0 a.2.length 2 0 a.2.length), (10, .v (.int .i64 a.1))], [(0, .rows true a.2.length 2 (a.2.map encStep))], 1⟩)
    (fun d a => a.1 + d = p.length ∧ a.2 = (p.take a.1).filterMap (fitStep dirs kinds rights) ∧ a.2.length ≤ a.1) ?_ p.length (0, []) ?_) ?_ ?_
  · rintro d ⟨j, out⟩ ⟨i1, i2, i3⟩ hrec
    simp only at i1 i2 i3
    (repeat (first | ((with_reducible refine VC.mkL ?_ fun _ => ?_); · first | omega | exact True.intro | rfl) | ((with_reducible refine VC.mkD ?_ fun _ => ?_); · first | omega | exact True.intro | (intros; omega)) | ((with_reducible refine dEnd.mk ?_ ?_); · kernel_rfl) | (with_reducible refine adrZ.go ?_) | (simp [go_sem])))
    refine aIf.mkL (fun hj => ?_) (fun hj => ?_) <;> simp at hj
    · have hs := fm_take (fitStep dirs kinds rights) p j hj
      rw [← i2] at hs
      generalize hx : nth p j = x at *
      obtain ⟨op, n⟩ := x
      have hgo : ∀ y, fitStep dirs kinds rights (op, n) = some y → out ++ [y] = (p.take (j + 1)).filterMap (fitStep dirs kinds rights) ∧ (out ++ [y]).length ≤ j + 1 := fun y hy => by rw [hs, hy]; simp; omega
      have hbel : ∀ y : Int × Int, ∀ r ∈ (out ++ [y]).map encStep, ∀ c ∈ r, Bel 1 c := fun y => of_eq_true bel_S
      rcases (show (op = 1 ∨ op = 2 ∨ op = 7) ∨ op = 8 ∨ (op = 9 ∨ op = 10) ∨ (op ≠ 1 ∧ op ≠ 2 ∧ op ≠ 7 ∧ op ≠ 8 ∧ op ≠ 9 ∧ op ≠ 10) by omega) with c1 | c1 | c1 | ⟨c1, c2, c3, c4, c5, c6⟩
      · have hf : fitStep dirs kinds rights (op, n) = some (op, n.tmod dirs) := by unfold fitStep; rw [if_pos c1]
        obtain ⟨k1, k2⟩ := hgo _ hf
        have hb := hbel (op, n.tmod dirs)
        rcases c1 with rfl | rfl | rfl <;>
        · (repeat (first | ((with_reducible refine VC.mkL ?_ fun _ => ?_); · first | omega | exact True.intro | rfl) | ((with_reducible refine VC.mkD ?_ fun _ => ?_); · first | omega | exact True.intro | (intros; omega)) | ((with_reducible refine dEnd.mk ?_ ?_); · kernel_rfl) | (with_reducible refine adrZ.go ?_) | (simp [go_sem, hj, hx])))
          refine ALoop.start (hrec (d - 1) (by omega) (j + 1, out ++ [(_, n.tmod dirs)]) ⟨by simp only; omega, k1, k2⟩) ?_ (by simp)
          simp [go_sem, Wk_eq] at hb ⊢
          try exact hb
      · have hf : fitStep dirs kinds rights (op, n) = some (op, n.tmod kinds) := by unfold fitStep; rw [if_neg (by omega), if_pos c1]
        obtain ⟨k1, k2⟩ := hgo _ hf
        have hb := hbel (op, n.tmod kinds)
        subst c1
        (repeat (first | ((with_reducible refine VC.mkL ?_ fun _ => ?_); · first | omega | exact True.intro | rfl) | ((with_reducible refine VC.mkD ?_ fun _ => ?_); · first | omega | exact True.intro | (intros; omega)) | ((with_reducible refine dEnd.mk ?_ ?_); · kernel_rfl) | (with_reducible refine adrZ.go ?_) | (simp [go_sem, hj, hx])))
        refine ALoop.start (hrec (d - 1) (by omega) (j + 1, out ++ [(_, n.tmod kinds)]) ⟨by simp only; omega, k1, k2⟩) ?_ (by simp)
        simp [go_sem, Wk_eq] at hb ⊢
        try exact hb
      · by_cases hr0 : rights = 0
        · have hf : fitStep dirs kinds rights (op, n) = none := by unfold fitStep; rw [if_neg (by omega), if_neg (by omega), if_pos c1, if_pos hr0]
          rw [hf, Option.toList_none, List.append_nil] at hs
          have hb := hbel (op, n)
          subst hr0
          rcases c1 with rfl | rfl <;>
          · (repeat (first | ((with_reducible refine VC.mkL ?_ fun _ => ?_); · first | omega | exact True.intro | rfl) | ((with_reducible refine VC.mkD ?_ fun _ => ?_); · first | omega | exact True.intro | (intros; omega)) | ((with_reducible refine dEnd.mk ?_ ?_); · kernel_rfl) | (with_reducible refine adrZ.go ?_) | (simp [go_sem, hj, hx])))
            refine ALoop.start (hrec (d - 1) (by omega) (j + 1, out) ⟨by simp only; omega, hs.symm, by simp only; omega⟩) ?_ (by simp)
            simp [go_sem, Wk_eq]
            rintro r x y _ rfl c hc
            simp at hc
            rcases hc with rfl | rfl <;> exact .v _
        · have hf : fitStep dirs kinds rights (op, n) = some (op, n.tmod rights) := by unfold fitStep; rw [if_neg (by omega), if_neg (by omega), if_pos c1, if_neg hr0]
          obtain ⟨k1, k2⟩ := hgo _ hf
          have hb := hbel (op, n.tmod rights)
          rcases c1 with rfl | rfl <;>
          · (repeat (first | ((with_reducible refine VC.mkL ?_ fun _ => ?_); · first | omega | exact True.intro | rfl) | ((with_reducible refine VC.mkD ?_ fun _ => ?_); · first | omega | exact True.intro | (intros; omega)) | ((with_reducible refine dEnd.mk ?_ ?_); · kernel_rfl) | (with_reducible refine adrZ.go ?_) | (simp [go_sem, hj, hx, hr0])))
            refine ALoop.start (hrec (d - 1) (by omega) (j + 1, out ++ [(_, n.tmod rights)]) ⟨by simp only; omega, k1, k2⟩) ?_ (by simp)
            simp [go_sem, Wk_eq] at hb ⊢
            try exact hb
      · have hf : fitStep dirs kinds rights (op, n) = some (op, n) := by unfold fitStep; rw [if_neg (by omega), if_neg (by omega), if_neg (by omega)]
        obtain ⟨k1, k2⟩ := hgo _ hf
        have hb := hbel (op, n)
        (repeat (first | ((with_reducible refine VC.mkL ?_ fun _ => ?_); · first | omega | exact True.intro | rfl) | ((with_reducible refine VC.mkD ?_ fun _ => ?_); · first | omega | exact True.intro | (intros; omega)) | ((with_reducible refine dEnd.mk ?_ ?_); · kernel_rfl) | (with_reducible refine adrZ.go ?_) | (simp [go_sem, hj, hx, c1, c2, c3, c4, c5, c6])))
        refine ALoop.start (hrec (d - 1) (by omega) (j + 1, out ++ [(op, n)]) ⟨by simp only; omega, k1, k2⟩) ?_ (by simp)
        simp [go_sem, Wk_eq] at hb ⊢
        try exact hb
    · have hout : fitP dirs kinds rights p = if out = [] then [(3, 0)] else out := by
        unfold fitP
        rw [i2, List.take_of_length_le hj]
      rw [hout]
      (repeat (first | ((with_reducible refine VC.mkL ?_ fun _ => ?_); · first | omega | exact True.intro | rfl) | ((with_reducible refine VC.mkD ?_ fun _ => ?_); · first | omega | exact True.intro | (intros; omega)) | ((with_reducible refine dEnd.mk ?_ ?_); · kernel_rfl) | (with_reducible refine adrZ.go ?_) | (simp [go_sem])))
      refine aIf.mkL (fun ho => ?_) (fun ho => ?_) <;> simp at ho
      · rw [if_pos ho]
        (repeat (first | ((with_reducible refine VC.mkL ?_ fun _ => ?_); · first | omega | exact True.intro | rfl) | ((with_reducible refine VC.mkD ?_ fun _ => ?_); · first | omega | exact True.intro | (intros; omega)) | ((with_reducible refine dEnd.mk ?_ ?_); · kernel_rfl) | (with_reducible refine adrZ.go ?_) | (simp [go_sem])))
        refine LeV.frz rfl ?_ ?_ (LeRows.of_eq ?_) <;> simp [noH]
      · rw [if_neg ho]
        (repeat (first | ((with_reducible refine VC.mkL ?_ fun _ => ?_); · first | omega | exact True.intro | rfl) | ((with_reducible refine VC.mkD ?_ fun _ => ?_); · first | omega | exact True.intro | (intros; omega)) | ((with_reducible refine dEnd.mk ?_ ?_); · kernel_rfl) | (with_reducible refine adrZ.go ?_) | (simp [go_sem])))
        refine LeV.frz rfl ?_ ?_ (LeRows.of_eq ?_) <;> simp [noH, List.take_of_length_le]
  · simp
  · simp [go_sem, Wk_eq]
  · simp
/-! ### Made -/
def madeP (n dirs kinds rights : Int) : List (Int × Int) :=
  fitP dirs kinds rights (nth (libL ((n.tdiv 16).tmod 8) ((n.tdiv 16 + n.tmod 5).tmod 8) ((n.tdiv 3).tmod 6) (n.tmod 4)) (n.tmod 16).toNat)
theorem libL_len (d e k r : Int) (i : Nat) : (nth (libL d e k r) i).length ≤ 6 := by
  rcases Nat.lt_or_ge i 16 with h | h
  · have : ∀ l ∈ libL d e k r, l.length ≤ 6 := by simp [libL]
    exact this _ (nth_mem h)
  · have : nth (libL d e k r) i = [] := by
      unfold nth
      rw [List.getD_eq_getElem?_getD, List.getElem?_eq_none (by exact h)]; rfl
    rw [this]; simp
theorem R2Made_pure (n dirs kinds rights : Int) (hn : 0 ≤ n ∧ n ≤ 255) (hd : 1 ≤ dirs) (hk : 1 ≤ kinds) (hr : 0 ≤ rights) :
    Pure Try.prog 86 [.v (.int .u8 n), .v (.int .i64 dirs), .v (.int .i64 kinds), .v (.int .i64 rights)] (encProg (madeP n dirs kinds rights)) := by
  refine Pure.of (ACallP.of_awp (by kernel_rfl) Try.func86 rfl rfl (Nat.le_of_ble_eq_true rfl) (by kernel_rfl) ?_)
  have q0 : 0 ≤ n.tdiv 16 ∧ n.tdiv 16 ≤ 15 := by rw [Int.tdiv_eq_ediv_of_nonneg hn.1]; omega
  have q1 : 0 ≤ n.tdiv 3 ∧ n.tdiv 3 ≤ 255 := by rw [Int.tdiv_eq_ediv_of_nonneg hn.1]; omega
  have m0 := Int.tmod_nonneg 5 hn.1
  have m1 := Int.tmod_lt_of_pos n (show (0 : Int) < 5 by decide)
  have hL := R2Lib_pure n (n.tdiv 16) (n.tdiv 16 + n.tmod 5) (n.tdiv 3) n (by simp; omega)
  unfold madeP
  have hpl := libL_len ((n.tdiv 16).tmod 8) ((n.tdiv 16 + n.tmod 5).tmod 8) ((n.tdiv 3).tmod 6) (n.tmod 4) (n.tmod 16).toNat
  generalize nth (libL ((n.tdiv 16).tmod 8) ((n.tdiv 16 + n.tmod 5).tmod 8) ((n.tdiv 3).tmod 6) (n.tmod 4)) (n.tmod 16).toNat = p at *
  have hF := R2Fit_pure p (by omega) dirs kinds rights hd hk hr
  generalize hqa : n.tdiv 16 = qa at *
  generalize hqb : n.tdiv 3 = qb at *
  generalize hmc : n.tmod 5 = mc at *
  (repeat (first | ((with_reducible refine VC.mkL ?_ fun _ => ?_); · first | omega | exact True.intro | rfl) | ((with_reducible refine VC.mkD ?_ fun _ => ?_); · first | omega | exact True.intro | (intros; omega)) | ((with_reducible refine dEnd.mk ?_ ?_); · kernel_rfl) | (with_reducible refine adrZ.go ?_) | (simp [go_sem, hqa, hqb, hmc])))
  refine ACallP.pureF [0] hL ?_ (by simp [go_sem]) ?_
  · refine LeRow.cons ?_ LeRow.nil
    refine LeV.frz rfl ?_ ?_ (LeRows.of_eq ?_) <;> simp [frzO, frz1, upd, encU]
  · (repeat (first | ((with_reducible refine VC.mkL ?_ fun _ => ?_); · first | omega | exact True.intro | rfl) | ((with_reducible refine VC.mkD ?_ fun _ => ?_); · first | omega | exact True.intro | (intros; omega)) | ((with_reducible refine dEnd.mk ?_ ?_); · kernel_rfl) | (with_reducible refine adrZ.go ?_) | (simp [go_sem])))
    refine ACallP.plain hF (by simp [go_sem]) ?_
    (repeat (first | ((with_reducible refine VC.mkL ?_ fun _ => ?_); · first | omega | exact True.intro | rfl) | ((with_reducible refine VC.mkD ?_ fun _ => ?_); · first | omega | exact True.intro | (intros; omega)) | ((with_reducible refine dEnd.mk ?_ ?_); · kernel_rfl) | (with_reducible refine adrZ.go ?_) | (simp [go_sem])))
end Go.Av
end
section
set_option linter.unusedSimpArgs false
set_option linter.unusedVariables false
open Go Go.Proofs
set_option maxRecDepth 20000
set_option maxHeartbeats 4000000
namespace Go.Av
theorem R3in_pure (n a b : Int) : Pure Try.prog 163 [.v (.int .i64 n), .v (.int .i64 a), .v (.int .i64 b)] (.v (.bool (decide (a ≤ n ∧ n ≤ b)))) := by
  refine Pure.of (ACallP.of_awp (by kernel_rfl) Try.func163 rfl rfl (Nat.le_of_ble_eq_true rfl) (by kernel_rfl) ?_)
  (repeat (first | ((with_reducible refine VC.mkL ?_ fun _ => ?_); · first | omega | exact True.intro | rfl) | ((with_reducible refine VC.mkD ?_ fun _ => ?_); · first | omega | exact True.intro | (intros; omega)) | ((with_reducible refine dEnd.mk ?_ ?_); · kernel_rfl) | (with_reducible refine adrZ.go ?_) | (simp [go_sem])))
/-- the kind and the side of a content -/
def manOf (c : Int) : Int × Int := if 1 ≤ c ∧ c ≤ 12 then ((c - 1).tdiv 2, (c - 1).tmod 2) else (-1, -1)
theorem R3Of_pure (c : Int) : Pure Try.prog 142 [.v (.int .i64 c)] (.agg [.v (.int .i64 (manOf c).1), .v (.int .i64 (manOf c).2)]) := by
  refine Pure.of (ACallP.of_awp (by kernel_rfl) Try.func142 rfl rfl (Nat.le_of_ble_eq_true rfl) (by kernel_rfl) ?_)
  (repeat (first | ((with_reducible refine VC.mkL ?_ fun _ => ?_); · first | omega | exact True.intro | rfl) | ((with_reducible refine VC.mkD ?_ fun _ => ?_); · first | omega | exact True.intro | (intros; omega)) | ((with_reducible refine dEnd.mk ?_ ?_); · kernel_rfl) | (with_reducible refine adrZ.go ?_) | (simp [go_sem])))
  refine ACallP.plain (R3in_pure c 1 12) (by simp [go_sem]) ?_
  by_cases h : 1 ≤ c ∧ c ≤ 12
  · have e : manOf c = ((c - 1).tdiv 2, (c - 1).tmod 2) := by unfold manOf; rw [if_pos h]
    have q : (c - 1).tdiv 2 = (c - 1) / 2 := Int.tdiv_eq_ediv_of_nonneg (by omega)
    rw [e]
    (repeat (first | ((with_reducible refine VC.mkL ?_ fun _ => ?_); · first | omega | exact True.intro | rfl) | ((with_reducible refine VC.mkD ?_ fun _ => ?_); · first | omega | exact True.intro | (intros; omega)) | ((with_reducible refine dEnd.mk ?_ ?_); · kernel_rfl) | (with_reducible refine adrZ.go ?_) | (simp [go_sem, h, q])))
  · have e : manOf c = (-1, -1) := by unfold manOf; rw [if_neg h]
    rw [e]
    (repeat (first | ((with_reducible refine VC.mkL ?_ fun _ => ?_); · first | omega | exact True.intro | rfl) | ((with_reducible refine VC.mkD ?_ fun _ => ?_); · first | omega | exact True.intro | (intros; omega)) | ((with_reducible refine dEnd.mk ?_ ?_); · kernel_rfl) | (with_reducible refine adrZ.go ?_) | (simp [go_sem, h])))
def codeOf (k s : Int) : Int := if (0 ≤ k ∧ k ≤ 5) ∧ 0 ≤ s ∧ s ≤ 1 then 2 * k + 1 + s else 0
theorem R3Code_pure (k s : Int) : Pure Try.prog 144 [.v (.int .i64 k), .v (.int .i64 s)] (.v (.int .i64 (codeOf k s))) := by
  refine Pure.of (ACallP.of_awp (by kernel_rfl) Try.func144 rfl rfl (Nat.le_of_ble_eq_true rfl) (by kernel_rfl) ?_)
  (repeat (first | ((with_reducible refine VC.mkL ?_ fun _ => ?_); · first | omega | exact True.intro | rfl) | ((with_reducible refine VC.mkD ?_ fun _ => ?_); · first | omega | exact True.intro | (intros; omega)) | ((with_reducible refine dEnd.mk ?_ ?_); · kernel_rfl) | (with_reducible refine adrZ.go ?_) | (simp [go_sem])))
  refine ACallP.plain (R3in_pure k 0 5) (by simp [go_sem]) ?_
  (repeat (first | ((with_reducible refine VC.mkL ?_ fun _ => ?_); · first | omega | exact True.intro | rfl) | ((with_reducible refine VC.mkD ?_ fun _ => ?_); · first | omega | exact True.intro | (intros; omega)) | ((with_reducible refine dEnd.mk ?_ ?_); · kernel_rfl) | (with_reducible refine adrZ.go ?_) | (simp [go_sem])))
  refine aGC.plain _ (fun _ => R3in_pure s 0 1) (by simp [go_sem]) ?_
  (repeat (first | ((with_reducible refine VC.mkL ?_ fun _ => ?_); · first | omega | exact True.intro | rfl) | ((with_reducible refine VC.mkD ?_ fun _ => ?_); · first | omega | exact True.intro | (intros; omega)) | ((with_reducible refine dEnd.mk ?_ ?_); · kernel_rfl) | (with_reducible refine adrZ.go ?_) | (simp [go_sem])))
  refine aIf.mkL (fun h => ?_) (fun h => ?_) <;> simp at h
  · have e : codeOf k s = 0 := by unfold codeOf; rw [if_neg (by omega)]
    rw [e]
    (repeat (first | ((with_reducible refine VC.mkL ?_ fun _ => ?_); · first | omega | exact True.intro | rfl) | ((with_reducible refine VC.mkD ?_ fun _ => ?_); · first | omega | exact True.intro | (intros; omega)) | ((with_reducible refine dEnd.mk ?_ ?_); · kernel_rfl) | (with_reducible refine adrZ.go ?_) | (simp [go_sem])))
  · have e : codeOf k s = 2 * k + 1 + s := by unfold codeOf; rw [if_pos (by omega)]
    rw [e]
    (repeat (first | ((with_reducible refine VC.mkL ?_ fun _ => ?_); · first | omega | exact True.intro | rfl) | ((with_reducible refine VC.mkD ?_ fun _ => ?_); · first | omega | exact True.intro | (intros; omega)) | ((with_reducible refine dEnd.mk ?_ ?_); · kernel_rfl) | (with_reducible refine adrZ.go ?_) | (simp [go_sem])))
    exact LeV.of_eq (by congr 2; omega)
end Go.Av
end
