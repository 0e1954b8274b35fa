/- Contracts, part 1: how data is laid; lists of numbers. -/
import Derived.Test.YtmmboiafelbgbaaAvE
import Derived.Test.YtmmboiafelbgbaaTy
set_option linter.unusedSimpArgs false
set_option linter.unusedVariables false
open Go Go.Proofs
namespace Go.Av
/-! ### data -/
def encI (n : Int) : List AV := [.v (.int .i64 n)]
def encIs (l : List Int) : AV := .lst 1 (l.map encI)
def encIss (l : List (List Int)) : AV := .lst 1 (l.map fun l => [encIs l])
structure KindD where
  name : ByteArray
  progs : List (List (Int × Int))
  keep : Bool
  deriving Inhabited
structure GameD where
  cells : Int
  next : List (List Int)
  turn : List Int
  kinds : List KindD
  rights : Int
  must : Bool
  clauses : List (Int × Int × Int × Int)
  blocked : Int
  endless : Int
structure PosD where
  at_ : List Int
  h0 : List Int
  h1 : List Int
  rights : Int
  side : Int
  deriving DecidableEq
def encStep (s : Int × Int) : List AV := [.v (.int .i64 s.1), .v (.int .i64 s.2)]
def encKind (k : KindD) : List AV := [.v (.string k.name), .lst 1 (k.progs.map fun p => [.lst 2 (p.map encStep)]), .v (.bool k.keep)]
def encClause (c : Int × Int × Int × Int) : List AV := [.v (.int .i64 c.1), .v (.int .i64 c.2.1), .v (.int .i64 c.2.2.1), .v (.int .i64 c.2.2.2)]
def encBoard (cells : Int) (next : List (List Int)) (turn : List Int) : List AV := [.v (.int .i64 cells), encIss next, encIs turn]
def encGame (g : GameD) : List AV := [.v (.int .i64 g.cells), encIss g.next, encIs g.turn, .lst 3 (g.kinds.map encKind), .v (.int .i64 g.rights), .v (.bool g.must), .lst 4 (g.clauses.map encClause), .v (.int .i64 g.blocked), .v (.int .i64 g.endless)]
def encPos (p : PosD) : List AV := [encIs p.at_, encIs p.h0, encIs p.h1, .v (.int .i64 p.rights), .v (.int .i64 p.side)]
attribute [go_sem] encI encIs encIss encStep encKind encClause encBoard encGame encPos
/-- a list that fits into memory -/
def Fits (l : List Int) : Prop := l.length ≤ 1099511627776
theorem bel_I {n : Nat} {l : List Int} : (∀ r ∈ l.map encI, ∀ c ∈ r, Bel n c) = True := by
  refine eq_true ?_
  intro r hr c hc
  obtain ⟨x, _, rfl⟩ := List.mem_map.1 hr
  simp only [encI, List.mem_singleton] at hc
  subst hc; exact .v _
theorem bel_Is {n : Nat} {l : List Int} : Bel n (.lst 1 (l.map encI)) = True := by rw [Bel_lst, bel_I]
attribute [go_sem high] bel_Is

/-! ### skewerref04.number -/
def number (a b : Int) : Int := if a < b then -1 else if b < a then 1 else 0
theorem number_pure (a b : Int) : Pure Try.prog 78 [.v (.int .i64 a), .v (.int .i64 b)] (.v (.int .i64 (number a b))) := by
  refine Pure.of (ACallP.of_awp (by kernel_rfl) Try.func78 rfl rfl (Nat.le_of_ble_eq_true rfl) (by kernel_rfl) ?_)
  simp [go_sem]
  refine aIf.mkL (fun h => ?_) (fun h => ?_)
  · simp at h
    simp [go_sem, number, h]
  · simp at h
    simp [go_sem]
    refine aIf.mkL (fun h2 => ?_) (fun h2 => ?_)
    · simp at h2
      simp [go_sem, number, h2, show ¬ a < b by omega]
    · simp at h2
      simp [go_sem, number, show ¬ b < a by omega, show ¬ a < b by omega]
/-! ### skewerref04.list -/
def cmpL : List Int → List Int → Int
  | x :: a, y :: b => if x = y then cmpL a b else number x y
  | a, b => number a.length b.length
theorem cmpL_nil_left (b : List Int) : cmpL [] b = number 0 b.length := by cases b <;> rfl
theorem cmpL_nil_right (a : List Int) : cmpL a [] = number a.length 0 := by cases a <;> rfl
theorem list_pure (a b : List Int) (ha : Fits a) (hb : Fits b) : Pure Try.prog 77 [encIs a, encIs b] (.v (.int .i64 (cmpL a b))) := by
  refine Pure.of (ACallP.of_awp (by kernel_rfl) Try.func77 rfl rfl (Nat.le_of_ble_eq_true rfl) (by kernel_rfl) ?_)
  unfold Fits at ha hb
  simp [go_sem]
  refine ALoop.start (ALoop.ind (α := Nat) (fun j => ⟨[(0, encIs a), (1, encIs b), (5, .v (.int .i64 j))], [], 0⟩)
    (fun d j => j + d = a.length ∧ j ≤ b.length ∧ cmpL a b = cmpL (a.drop j) (b.drop j)) ?_ a.length 0 ?_) ?_ ?_
  · rintro d j ⟨i1, i2, i3⟩ hrec
    simp [go_sem]
    refine aIf.mkL (fun hj => ?_) (fun hj => ?_)
    · simp at hj
      obtain ⟨hj1, hj2⟩ := hj
      have hd1 : a.drop j = nth a j :: a.drop (j + 1) := by rw [List.drop_eq_getElem_cons hj1, nth_eq _ _ hj1]
      have hd2 : b.drop j = nth b j :: b.drop (j + 1) := by rw [List.drop_eq_getElem_cons hj2, nth_eq _ _ hj2]
      rw [hd1, hd2, cmpL] at i3
      simp [go_sem]
      refine VC.mkD hj1 fun _ => ?_
      simp [go_sem, hj1]
      refine VC.mkD hj2 fun _ => ?_
      simp [go_sem, hj2]
      refine dEnd.mk (by kernel_rfl) ?_
      simp [go_sem]
      refine aIf.mkL (fun he => ?_) (fun he => ?_)
      · simp at he
        rw [if_neg he] at i3
        simp [go_sem]
        refine VC.mkD hj1 fun _ => ?_
        simp [go_sem, hj1]
        refine VC.mkD hj2 fun _ => ?_
        simp [go_sem, hj2]
        refine dCall.plain (number_pure _ _) (by simp [go_sem]) ?_
        simp [go_sem]
        refine dEnd.mk (by kernel_rfl) ?_
        simp [go_sem, i3]
      · simp at he
        rw [if_pos he] at i3
        simp [go_sem]
        refine VC.mkL (by omega) fun _ => ?_
        simp [go_sem]
        refine ALoop.start (hrec (d - 1) (by omega) (j + 1) ⟨by omega, by omega, i3⟩) ?_ (by simp)
        simp [go_sem, Wk_eq]
    · simp at hj
      simp [go_sem]
      refine ACallP.plain (number_pure _ _) (by simp [go_sem]) ?_
      have : number a.length b.length = cmpL a b := by
        rw [i3]
        rcases Nat.lt_or_ge j a.length with h | h
        · have hb' := hj h
          rw [List.drop_eq_nil_of_le hb', cmpL_nil_right]
          simp only [number, List.length_drop]
          split <;> split <;> (try split) <;> (try split) <;> omega
        · rw [List.drop_eq_nil_of_le h, cmpL_nil_left]
          simp only [number, List.length_drop]
          split <;> split <;> (try split) <;> (try split) <;> omega
      simp [go_sem, this]
  · simp
  · simp [go_sem, Wk_eq]
  · simp
/-! ### skewerref05.Ints -/
theorem drop_cons {l : List Int} {j : Nat} (h : j < l.length) : l.drop j = nth l j :: l.drop (j + 1) := by rw [List.drop_eq_getElem_cons h, nth_eq _ _ h]
theorem Ints_pure (a b : List Int) (ha : Fits a) (hb : Fits b) : Pure Try.prog 70 [encIs a, encIs b] (.v (.bool (decide (a = b)))) := by
  refine Pure.of (ACallP.of_awp (by kernel_rfl) Try.func70 rfl rfl (Nat.le_of_ble_eq_true rfl) (by kernel_rfl) ?_)
  unfold Fits at ha hb
  simp [go_sem]
  refine aIf.mkL (fun hl => ?_) (fun hl => ?_)
  · simp at hl
    have : decide (a = b) = false := by simp; rintro rfl; exact hl rfl
    rw [this]
    simp [go_sem]
  · simp at hl
    simp [go_sem]
    refine ALoop.start (ALoop.ind (α := Nat) (fun j => ⟨[(0, encIs a), (1, encIs b), (5, .v (.int .i64 j))], [], 0⟩)
      (fun d j => j + d = a.length ∧ ((a = b) ↔ (a.drop j = b.drop j))) ?_ a.length 0 ?_) ?_ ?_
    · rintro d j ⟨i1, i3⟩ hrec
      simp [go_sem]
      refine aIf.mkL (fun hj => ?_) (fun hj => ?_)
      · simp at hj
        have hj2 : j < b.length := by omega
        rw [drop_cons hj, drop_cons hj2, List.cons.injEq] at i3
        simp [go_sem]
        refine VC.mkD hj fun _ => ?_
        simp [go_sem, hj]
        refine VC.mkD hj2 fun _ => ?_
        simp [go_sem, hj2]
        refine dEnd.mk (by kernel_rfl) ?_
        simp [go_sem]
        refine aIf.mkL (fun he => ?_) (fun he => ?_)
        · simp at he
          have : decide (a = b) = false := by simp; intro h; exact he (i3.1 h).1
          rw [this]
          simp [go_sem]
        · simp at he
          simp [go_sem]
          refine VC.mkL (by omega) fun _ => ?_
          simp [go_sem]
          refine ALoop.start (hrec (d - 1) (by omega) (j + 1) ⟨by omega, i3.trans ⟨fun h => h.2, fun h => ⟨he, h⟩⟩⟩) ?_ (by simp)
          simp [go_sem, Wk_eq]
      · simp at hj
        rw [List.drop_eq_nil_of_le hj, List.drop_eq_nil_of_le (by omega)] at i3
        have : decide (a = b) = true := by simpa using i3.2 rfl
        rw [this]
        simp [go_sem]
    · simp
    · simp [go_sem, Wk_eq]
    · simp
/-! ### skewerref14.Same -/
def FitsP (p : PosD) : Prop := Fits p.at_ ∧ Fits p.h0 ∧ Fits p.h1
theorem Same14_pure (a b : PosD) (ha : FitsP a) (hb : FitsP b) : Pure Try.prog 27 [.agg (encPos a), .agg (encPos b)] (.v (.bool (decide (a = b)))) := by
  refine Pure.of (ACallP.of_awp (by kernel_rfl) Try.func27 rfl rfl (Nat.le_of_ble_eq_true rfl) (by kernel_rfl) ?_)
  obtain ⟨a1, a2, a3⟩ := ha
  obtain ⟨b1, b2, b3⟩ := hb
  simp [go_sem]
  refine ACallP.plain (Ints_pure _ _ a1 b1) (by simp [go_sem]) ?_
  simp [go_sem]
  refine aGC.plain _ (fun _ => Ints_pure _ _ a2 b2) (by simp [go_sem]) ?_
  simp [go_sem]
  refine aGC.plain _ (fun _ => Ints_pure _ _ a3 b3) (by simp [go_sem]) ?_
  simp [go_sem]
  refine LeV.of_eq ?_
  congr 2
  cases a; cases b
  simp [Bool.decide_and, Bool.and_assoc]
/-! ### skewerref04.Compare -/
def cmpP (p q : PosD) : Int :=
  if cmpL p.at_ q.at_ ≠ 0 then cmpL p.at_ q.at_ else if cmpL p.h0 q.h0 ≠ 0 then cmpL p.h0 q.h0 else if cmpL p.h1 q.h1 ≠ 0 then cmpL p.h1 q.h1 else if number p.rights q.rights ≠ 0 then number p.rights q.rights else number p.side q.side
theorem Compare_pure (a b : PosD) (ha : FitsP a) (hb : FitsP b) : Pure Try.prog 35 [.agg (encPos a), .agg (encPos b)] (.v (.int .i64 (cmpP a b))) := by
  refine Pure.of (ACallP.of_awp (by kernel_rfl) Try.func35 rfl rfl (Nat.le_of_ble_eq_true rfl) (by kernel_rfl) ?_)
  obtain ⟨a1, a2, a3⟩ := ha
  obtain ⟨b1, b2, b3⟩ := hb
  simp [go_sem]
  refine dCall.plain (list_pure _ _ a1 b1) (by simp [go_sem]) ?_
  simp [go_sem]
  refine dCall.plain (list_pure _ _ a2 b2) (by simp [go_sem]) ?_
  simp [go_sem]
  refine dCall.plain (list_pure _ _ a3 b3) (by simp [go_sem]) ?_
  simp [go_sem]
  refine dCall.plain (number_pure _ _) (by simp [go_sem]) ?_
  simp [go_sem]
  refine dCall.plain (number_pure _ _) (by simp [go_sem]) ?_
  simp [go_sem]
  refine dEnd.mk (by kernel_rfl) ?_
  simp [go_sem]
  generalize e1 : cmpL a.at_ b.at_ = x1
  generalize e2 : cmpL a.h0 b.h0 = x2
  generalize e3 : cmpL a.h1 b.h1 = x3
  generalize e4 : number a.rights b.rights = x4
  generalize e5 : number a.side b.side = x5
  unfold cmpP
  rw [e1, e2, e3, e4, e5]
  refine ALoop.unroll ?_
  simp [go_sem]
  refine aIf.mkL (fun h1 => ?_) (fun h1 => ?_) <;> simp at h1 <;> simp [go_sem, h1]
  refine ALoop.unroll ?_
  simp [go_sem]
  refine aIf.mkL (fun h2 => ?_) (fun h2 => ?_) <;> simp at h2 <;> simp [go_sem, h1, h2]
  refine ALoop.unroll ?_
  simp [go_sem]
  refine aIf.mkL (fun h3 => ?_) (fun h3 => ?_) <;> simp at h3 <;> simp [go_sem, h1, h2, h3]
  refine ALoop.unroll ?_
  simp [go_sem]
  refine aIf.mkL (fun h4 => ?_) (fun h4 => ?_) <;> simp at h4 <;> simp [go_sem, h1, h2, h3, h4]
  refine ALoop.unroll ?_
  simp [go_sem]
  refine aIf.mkL (fun h5 => ?_) (fun h5 => ?_) <;> simp at h5 <;> simp [go_sem, h1, h2, h3, h4, h5]
  refine ALoop.unroll ?_
  simp [go_sem]
/-! ### skewerref05.copied -/
def ownPos (n : Nat) (p : PosD) : AV := .agg [.sl (n + 2) 1 1 0 p.at_.length, .sl (n + 3) 1 1 0 p.h0.length, .sl (n + 8) 1 1 0 p.h1.length, .v (.int .i64 p.rights), .v (.int .i64 p.side)]
def ownPosH (n : Nat) (p : PosD) : List (Nat × AObj) := [(n + 2, .rows true 1 1 (p.at_.map encI)), (n + 3, .rows true 1 1 (p.h0.map encI)), (n + 8, .rows true 1 1 (p.h1.map encI))]
attribute [go_sem] ownPos ownPosH
theorem copied_owns (p : PosD) (ha : FitsP p) : Owns Try.prog 79 [.agg (encPos p)] (fun n => ownPos n p) (fun n => ownPosH n p) 9 := by
  refine ⟨ACallP.of_awp (by kernel_rfl) Try.func79 rfl rfl (Nat.le_of_ble_eq_true rfl) (by kernel_rfl) ?_, fun n => ⟨?_, ?_⟩⟩
  · obtain ⟨a1, a2, a3⟩ := ha
    unfold Fits at a1 a2 a3
    simp [go_sem]
    refine VC.mkL (by omega) fun _ => ?_
    simp [go_sem]
    refine VC.mkD (by omega) fun _ => ?_
    simp [go_sem]
    refine VC.mkD (by omega) fun _ => ?_
    simp [go_sem]
    refine dEnd.mk (by kernel_rfl) ?_
    simp [go_sem, Wk_eq]
  · simp [go_sem]
  · simp [go_sem]
end Go.Av
