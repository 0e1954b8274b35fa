/- Contracts, part 6: bits.Mul, slices.Repeat, index.filled, index.Valid, index.Size. -/
import Derived.Test.YtmmboiafelbgbaaC5
set_option linter.unusedSimpArgs false
set_option linter.unusedVariables false
open Go Go.Proofs
set_option maxRecDepth 20000
namespace Go.Av
/-! ### math/bits.Mul64, Mul -/
theorem and32 {n : Int} (h0 : 0 ≤ n) (h1 : n < 4294967296) : andN .u64 n 4294967295 = n := by
  obtain ⟨m, rfl⟩ := Int.eq_ofNat_of_zero_le h0
  have hm : m < 4294967296 := by omega
  have e : (BitVec.ofInt IntKind.u64.bits (m : Int) &&& BitVec.ofInt IntKind.u64.bits 4294967295).toNat = m := by
    rw [BitVec.toNat_and]
    have e1 : (BitVec.ofInt IntKind.u64.bits (m : Int)).toNat = m := by simp [BitVec.toNat_ofInt, IntKind.bits]; omega
    have e2 : (BitVec.ofInt IntKind.u64.bits 4294967295).toNat = 2 ^ 32 - 1 := by rfl
    rw [e1, e2, Nat.and_two_pow_sub_one_eq_mod]
    exact Nat.mod_eq_of_lt hm
  unfold andN
  rw [e]
  exact wrap_InR (by rw [InR_u64]; omega)
theorem fdiv32 {n : Int} (h0 : 0 ≤ n) (h1 : n < 4294967296) : n.fdiv 4294967296 = 0 := by rw [Int.fdiv_eq_ediv_of_nonneg _ (by omega)]; omega
theorem Mul64_pure (x y : Int) (x0 : 0 ≤ x) (x1 : x < 4294967296) (y0 : 0 ≤ y) (y1 : y < 4294967296) (h : x * y < 4294967296) : Pure Try.prog 150 [.v (.int .u64 x), .v (.int .u64 y)] (.tup [.v (.int .u64 0), .v (.int .u64 (x * y))]) := by
  refine Pure.of (ACallP.of_awp (by kernel_rfl) Try.func150 rfl rfl (Nat.le_of_ble_eq_true rfl) (by kernel_rfl) ?_)
  have m0 : 0 ≤ x * y := Int.mul_nonneg x0 y0
  generalize hz : x * y = z at *
  have a1 := and32 x0 x1
  have a2 := and32 y0 y1
  have a3 := fdiv32 x0 x1
  have a4 := fdiv32 y0 y1
  have a5 := fdiv32 m0 h
  have a6 : andN .u64 0 4294967295 = 0 := by rfl
  (repeat (first | ((with_reducible refine VC.mkL ?_ fun _ => ?_); · first | omega | exact True.intro | rfl) | ((with_reducible refine VC.mkD ?_ fun _ => ?_); · first | omega | exact True.intro | (intros; omega)) | ((with_reducible refine dEnd.mk ?_ ?_); · kernel_rfl) | (simp [go_sem, a1, a2, a3, a4, a5, a6, hz])))
theorem Mul_pure (x y : Int) (x0 : 0 ≤ x) (x1 : x < 4294967296) (y0 : 0 ≤ y) (y1 : y < 4294967296) (h : x * y < 4294967296) : Pure Try.prog 124 [.v (.int .u64 x), .v (.int .u64 y)] (.tup [.v (.int .u64 0), .v (.int .u64 (x * y))]) := by
  refine Pure.of (ACallP.of_awp (by kernel_rfl) Try.func124 rfl rfl (Nat.le_of_ble_eq_true rfl) (by kernel_rfl) ?_)
  (repeat (first | ((with_reducible refine VC.mkL ?_ fun _ => ?_); · first | omega | exact True.intro | rfl) | ((with_reducible refine VC.mkD ?_ fun _ => ?_); · first | omega | exact True.intro | (intros; omega)) | ((with_reducible refine dEnd.mk ?_ ?_); · kernel_rfl) | (simp [go_sem])))
  refine ACallP.plain (Mul64_pure x y x0 x1 y0 y1 h) (by simp [go_sem]) ?_
  generalize x * y = z at *
  (repeat (first | ((with_reducible refine VC.mkL ?_ fun _ => ?_); · first | omega | exact True.intro | rfl) | ((with_reducible refine VC.mkD ?_ fun _ => ?_); · first | omega | exact True.intro | (intros; omega)) | ((with_reducible refine dEnd.mk ?_ ?_); · kernel_rfl) | (simp [go_sem])))
/-! ### slices.Repeat, of one number -/
theorem Repeat_owns (x : Int) (n : Nat) (hn : n ≤ 1048576) : Owns Try.prog 103 [encIs [x], .v (.int .i64 n)] (fun k => .sl k 0 1 0 n) (fun k => [(k, .rows true 0 1 ((List.replicate n x).map encI))]) 1 := by
  refine ⟨ACallP.of_awp (by kernel_rfl) Try.func103 rfl rfl (Nat.le_of_ble_eq_true rfl) (by kernel_rfl) ?_, fun n => ⟨by simp [go_sem], by simp [go_sem]⟩⟩
  (repeat (first | ((with_reducible refine VC.mkL ?_ fun _ => ?_); · first | omega | exact True.intro | rfl) | ((with_reducible refine VC.mkD ?_ fun _ => ?_); · first | omega | exact True.intro | (intros; omega)) | ((with_reducible refine dEnd.mk ?_ ?_); · kernel_rfl) | (simp [go_sem])))
  (refine aIf.mkL (fun hF => by first | omega | (simp at hF; omega)) (fun hF => ?_); clear hF)
  (repeat (first | ((with_reducible refine VC.mkL ?_ fun _ => ?_); · first | omega | exact True.intro | rfl) | ((with_reducible refine VC.mkD ?_ fun _ => ?_); · first | omega | exact True.intro | (intros; omega)) | ((with_reducible refine dEnd.mk ?_ ?_); · kernel_rfl) | (simp [go_sem])))
  refine ACallP.plain (Mul_pure 1 n (by omega) (by omega) (by omega) (by omega) (by omega)) (by simp [go_sem]) ?_
  (repeat (first | ((with_reducible refine VC.mkL ?_ fun _ => ?_); · first | omega | exact True.intro | rfl) | ((with_reducible refine VC.mkD ?_ fun _ => ?_); · first | omega | exact True.intro | (intros; omega)) | ((with_reducible refine dEnd.mk ?_ ?_); · kernel_rfl) | (simp [go_sem])))
  (refine aIf.mkL (fun hF => by first | omega | (simp at hF; omega)) (fun hF => ?_); clear hF)
  (repeat (first | ((with_reducible refine VC.mkL ?_ fun _ => ?_); · first | omega | exact True.intro | rfl) | ((with_reducible refine VC.mkD ?_ fun _ => ?_); · first | omega | exact True.intro | (intros; omega)) | ((with_reducible refine dEnd.mk ?_ ?_); · kernel_rfl) | (simp [go_sem])))
  refine ALoop.start (ALoop.ind (α := Nat) (fun m => ⟨[(7, .sl 0 0 1 0 n), (8, .v (.int .i64 m))], [(0, .rows true 0 1 (List.replicate m [.v (.int .i64 x)] ++ List.replicate (n - m) [.v (.int .i64 0)]))], 1⟩)
    (fun d m => m + d = n ∧ (0 < n → 0 < m)) ?_ (n - min 1 n) (min 1 n) ?_) ?_ ?_
  · rintro d m ⟨i1, i2⟩ hrec
    (repeat (first | ((with_reducible refine VC.mkL ?_ fun _ => ?_); · first | omega | exact True.intro | rfl) | ((with_reducible refine VC.mkD ?_ fun _ => ?_); · first | omega | exact True.intro | (intros; omega)) | ((with_reducible refine dEnd.mk ?_ ?_); · kernel_rfl) | (simp [go_sem])))
    refine aIf.mkL (fun hm => ?_) (fun hm => ?_) <;> simp at hm
    · (repeat (first | ((with_reducible refine VC.mkL ?_ fun _ => ?_); · first | omega | exact True.intro | rfl) | ((with_reducible refine VC.mkD ?_ fun _ => ?_); · first | omega | exact True.intro | (intros; omega)) | ((with_reducible refine dEnd.mk ?_ ?_); · kernel_rfl) | (simp [go_sem])))
      refine ALoop.start (hrec (n - (m + min m (n - m))) (by have := i2 (by omega); omega) (m + min m (n - m)) ⟨by omega, by intros; have := i2 (by omega); omega⟩) ?_ (by simp)
      have e1 : List.drop (m + min m (n - m)) (List.replicate m [AV.v (Value.int IntKind.i64 x)] ++ List.replicate (n - m) [AV.v (Value.int IntKind.i64 0)]) = List.replicate (n - (m + min m (n - m))) [AV.v (Value.int IntKind.i64 0)] := by
        rw [List.drop_append, List.drop_replicate, List.drop_replicate, List.length_replicate]
        rw [show m - (m + min m (n - m)) = 0 by omega, show n - m - (m + min m (n - m) - m) = n - (m + min m (n - m)) by omega]; rfl
      simp [go_sem, Wk_eq, e1]
      (intro r hr c hc; (first | (rcases hr with ⟨_, _, rfl⟩ | rfl) | (rcases hr with rfl | ⟨_, _, rfl⟩) | (rcases hr with rfl | rfl) | ((rcases List.mem_or_eq_of_mem_set hr with hr | rfl) <;> first | (obtain ⟨_, _, rfl⟩ := List.mem_map.1 hr; simp only [encI] at hc) | skip) | (rcases hr with ⟨_, rfl⟩ | ⟨_, rfl⟩) | (rcases hr with ⟨_, _, rfl⟩ | ⟨_, rfl⟩) | (rcases hr with ⟨_, rfl⟩ | ⟨_, _, rfl⟩) | (rcases hr with ⟨_, _, rfl⟩ | ⟨_, _, rfl⟩) | (obtain ⟨_, rfl⟩ := hr) | (obtain ⟨_, _, rfl⟩ := hr)) <;> simp at hc <;> (try subst hc) <;> first | exact .v _ | (rcases hc with rfl | rfl <;> exact .v _))
    · obtain rfl : m = n := by omega
      (repeat (first | ((with_reducible refine VC.mkL ?_ fun _ => ?_); · first | omega | exact True.intro | rfl) | ((with_reducible refine VC.mkD ?_ fun _ => ?_); · first | omega | exact True.intro | (intros; omega)) | ((with_reducible refine dEnd.mk ?_ ?_); · kernel_rfl) | (simp [go_sem])))
      simp [go_sem, Wk_eq]
  · exact ⟨by omega, by omega⟩
  · have e1 : List.take (min 1 n) [[AV.v (Value.int IntKind.i64 x)]] = List.replicate (min 1 n) [AV.v (Value.int IntKind.i64 x)] := by
      rcases Nat.eq_zero_or_pos n with h | h
      · subst h; rfl
      · rw [show min 1 n = 1 by omega]; rfl
    simp [go_sem, Wk_eq, e1]
    (intro r hr c hc; (first | (rcases hr with ⟨_, _, rfl⟩ | rfl) | (rcases hr with rfl | ⟨_, _, rfl⟩) | (rcases hr with rfl | rfl) | ((rcases List.mem_or_eq_of_mem_set hr with hr | rfl) <;> first | (obtain ⟨_, _, rfl⟩ := List.mem_map.1 hr; simp only [encI] at hc) | skip) | (rcases hr with ⟨_, rfl⟩ | ⟨_, rfl⟩) | (rcases hr with ⟨_, _, rfl⟩ | ⟨_, rfl⟩) | (rcases hr with ⟨_, rfl⟩ | ⟨_, _, rfl⟩) | (rcases hr with ⟨_, _, rfl⟩ | ⟨_, _, rfl⟩) | (obtain ⟨_, rfl⟩ := hr) | (obtain ⟨_, _, rfl⟩ := hr)) <;> simp at hc <;> (try subst hc) <;> first | exact .v _ | (rcases hc with rfl | rfl <;> exact .v _))
  · simp
theorem Repeat_pure (x : Int) (n : Nat) (hn : n ≤ 1048576) : Pure Try.prog 103 [encIs [x], .v (.int .i64 n)] (encIs (List.replicate n x)) :=
  (Repeat_owns x n hn).pure (leV_frz rfl (by simp) (by simp [noH]) (by rw [List.drop_zero, List.take_of_length_le (by simp)])) (by simp [go_sem])
/-! ### index.filled -/
def fillL : Nat → List Int → List Int
  | _, [] => []
  | c, k :: l => List.replicate k.toNat (c : Int) ++ fillL (c + 1) l
theorem fillL_length : ∀ (l : List Int) (c : Nat), (∀ k ∈ l, k ≤ 64) → (fillL c l).length ≤ 64 * l.length
  | [], c, _ => by simp [fillL]
  | k :: l, c, h => by
    have := fillL_length l (c + 1) fun k hk => h k (by simp [hk])
    have := h k (by simp)
    simp [fillL]; omega
def filledP (m : PosD) : PosD := { m with at_ := fillL 0 m.at_ }
theorem filled_pure (m : PosD) (h1 : m.at_.length ≤ 1000) (h2 : ∀ k ∈ m.at_, 0 ≤ k ∧ k ≤ 64) : Pure Try.prog 75 [.agg (encPos m)] (.agg (encPos (filledP m))) := by
  refine Pure.of (ACallP.of_awp (by kernel_rfl) Try.func75 rfl rfl (Nat.le_of_ble_eq_true rfl) (by kernel_rfl) ?_)
  (repeat (first | ((with_reducible refine VC.mkL ?_ fun _ => ?_); · first | omega | exact True.intro | rfl) | ((with_reducible refine VC.mkD ?_ fun _ => ?_); · first | omega | exact True.intro | (intros; omega)) | ((with_reducible refine dEnd.mk ?_ ?_); · kernel_rfl) | (simp [go_sem])))
  refine ALoop.start (ALoop.ind (α := Nat × List Int) (fun a => ⟨[(2, .ref 1 0 5 0 0), (3, .ref 2 0 5 0 0), (14, encIs m.at_), (15, .v (.int .i64 m.at_.length)), (16, .v (.int .i64 a.1))],
      [(1, .rows true 0 5 [[.v (.slice none 0 0), .v (.slice none 0 0), .v (.slice none 0 0), .v (.int .i64 0), .v (.int .i64 0)]]), (2, .rows true 0 5 [[.sl 3 a.1 1 0 a.2.length, encIs m.h0, encIs m.h1, .v (.int .i64 m.rights), .v (.int .i64 m.side)]]), (3, .rows true a.1 1 (a.2.map encI))], 4⟩)
    (fun d a => a.1 + d = m.at_.length ∧ a.2.length ≤ 64 * a.1 ∧ a.2 ++ fillL a.1 (m.at_.drop a.1) = fillL 0 m.at_) ?_ m.at_.length (0, []) ?_) ?_ ?_
  · rintro d ⟨j, out⟩ ⟨i1, i2, i3⟩ hrec
    simp only at i1 i2 i3
    (repeat (first | ((with_reducible refine VC.mkL ?_ fun _ => ?_); · first | omega | exact True.intro | rfl) | ((with_reducible refine VC.mkD ?_ fun _ => ?_); · first | omega | exact True.intro | (intros; omega)) | ((with_reducible refine dEnd.mk ?_ ?_); · kernel_rfl) | (simp [go_sem])))
    refine aIf.mkL (fun hj => ?_) (fun hj => ?_) <;> simp at hj
    · (repeat (first | ((with_reducible refine VC.mkL ?_ fun _ => ?_); · first | omega | exact True.intro | rfl) | ((with_reducible refine VC.mkD ?_ fun _ => ?_); · first | omega | exact True.intro | (intros; omega)) | ((with_reducible refine dEnd.mk ?_ ?_); · kernel_rfl) | (simp [go_sem, hj])))
      have hm := h2 _ (nth_mem hj)
      rw [drop_cons hj, fillL] at i3
      generalize nth m.at_ j = k at *
      refine dCall.frz [encIs [(j : Int)], .v (.int .i64 k.toNat)] (encIs (List.replicate k.toNat (j : Int))) [7] [(7, some (.rows false 0 1 [[.v (.int .i64 j)]]))] (Repeat_pure _ _ (by omega)) ?_ ?_ (by simp [go_sem]) ?_
      · intro p hp
        simp only [List.mem_singleton] at hp
        subst hp
        exact ⟨by simp, 0, 1, _, rfl, by simp [upd]⟩
      · intro h₁ hS
        have h7 := hS 7 (by simp)
        simp [go_sem] at h7
        exact .cons (leV_frz h7.symm (by simp) (by simp [applyW, upd]) (by simp [go_sem])) (.cons (LeV.of_eq (by rw [show ((k.toNat : Nat) : Int) = k by omega])) .nil)
      · (repeat (first | ((with_reducible refine VC.mkL ?_ fun _ => ?_); · first | omega | exact True.intro | rfl) | ((with_reducible refine VC.mkD ?_ fun _ => ?_); · first | omega | exact True.intro | (intros; omega)) | ((with_reducible refine dEnd.mk ?_ ?_); · kernel_rfl) | (simp [go_sem])))
        refine ALoop.start (hrec (d - 1) (by omega) (j + 1, out ++ List.replicate k.toNat (j : Int)) ⟨by simp only; omega, by simp; omega, by simp only [List.append_assoc]; exact i3⟩) ?_ (by simp)
        simp [go_sem, Wk_eq]
        (intro r hr c hc; (first | (rcases hr with ⟨_, _, rfl⟩ | rfl) | (rcases hr with rfl | ⟨_, _, rfl⟩) | (rcases hr with rfl | rfl) | ((rcases List.mem_or_eq_of_mem_set hr with hr | rfl) <;> first | (obtain ⟨_, _, rfl⟩ := List.mem_map.1 hr; simp only [encI] at hc) | skip) | (rcases hr with ⟨_, rfl⟩ | ⟨_, rfl⟩) | (rcases hr with ⟨_, _, rfl⟩ | ⟨_, rfl⟩) | (rcases hr with ⟨_, rfl⟩ | ⟨_, _, rfl⟩) | (rcases hr with ⟨_, _, rfl⟩ | ⟨_, _, rfl⟩) | (obtain ⟨_, rfl⟩ := hr) | (obtain ⟨_, _, rfl⟩ := hr)) <;> simp at hc <;> (try subst hc) <;> first | exact .v _ | (rcases hc with rfl | rfl <;> exact .v _))
    · rw [List.drop_eq_nil_of_le hj, fillL, List.append_nil] at i3
      subst i3
      (repeat (first | ((with_reducible refine VC.mkL ?_ fun _ => ?_); · first | omega | exact True.intro | rfl) | ((with_reducible refine VC.mkD ?_ fun _ => ?_); · first | omega | exact True.intro | (intros; omega)) | ((with_reducible refine dEnd.mk ?_ ?_); · kernel_rfl) | (simp [go_sem, filledP])))
      (refine leV_frz rfl (by simp) (by simp [noH, upd]) ?_; first | (simp [go_sem]; done) | (simp [go_sem]; exact List.take_of_length_le (by simp)))
  · simp
  · simp [go_sem, Wk_eq]
  · simp
/-! ### index.Valid -/
def matOk (g : GameD) (m : PosD) : Bool := decide ((m.at_.length : Int) = 1 + 2 * g.kinds.length) && !(m.at_.any (oddN g)) && posOk g (filledP m)
theorem ixValid_pure (g : GameD) (hg : FitsG g) (hr : FitsR g) (h64 : g.cells ≤ 64) (hk : g.kinds.length ≤ 400) (m : PosD) (hm : m.at_.length ≤ 9223372036854775807) (h0 : Fits m.h0) (h1 : Fits m.h1) :
    Pure Try.prog 31 [.agg (encGame g), .agg (encPos m)] (.v (.bool (matOk g m))) := by
  refine Pure.of (ACallP.of_awp (by kernel_rfl) Try.func31 rfl rfl (Nat.le_of_ble_eq_true rfl) (by kernel_rfl) ?_)
  (repeat (first | ((with_reducible refine VC.mkL ?_ fun _ => ?_); · first | omega | exact True.intro | rfl) | ((with_reducible refine VC.mkD ?_ fun _ => ?_); · first | omega | exact True.intro | (intros; omega)) | ((with_reducible refine dEnd.mk ?_ ?_); · kernel_rfl) | (simp [go_sem])))
  refine aGC.flat [encIs m.at_, .fn (.func 72) [] [.fp (encGame g)]] (.v (.bool (m.at_.any (oddN g)))) (fun hg => ?_) (.v _) ?_ (by simp [go_sem]) ?_
  · simp at hg
    exact ContainsFunc_pure _ (by unfold Fits; omega) _ [] _ _ (fun x _ => odd_pure g x) (by simp) (by simp [go_sem])
  · simp only [List.nil_append, List.append_nil, encIs]
    exact .cons (.refl _) (.cons (.fn .nil (.cons (.frzP rfl (by simp) (by simp) (by simp [noH]) (by simp [nth, go_sem])) .nil)) .nil)
  · (repeat (first | ((with_reducible refine VC.mkL ?_ fun _ => ?_); · first | omega | exact True.intro | rfl) | ((with_reducible refine VC.mkD ?_ fun _ => ?_); · first | omega | exact True.intro | (intros; omega)) | ((with_reducible refine dEnd.mk ?_ ?_); · kernel_rfl) | (simp [go_sem])))
    refine aIf.mkL (fun hc => ?_) (fun hc => ?_) <;> simp at hc
    · have e : matOk g m = false := by
        unfold matOk
        rcases hc with hc | ⟨x, h1, h2⟩
        · simp [hc]
        · have : m.at_.any (oddN g) = true := by simp; exact ⟨x, h1, h2⟩
          simp [this]
      (repeat (first | ((with_reducible refine VC.mkL ?_ fun _ => ?_); · first | omega | exact True.intro | rfl) | ((with_reducible refine VC.mkD ?_ fun _ => ?_); · first | omega | exact True.intro | (intros; omega)) | ((with_reducible refine dEnd.mk ?_ ?_); · kernel_rfl) | (simp [go_sem, e])))
    · obtain ⟨c1, c2⟩ := hc
      have hb : ∀ k ∈ m.at_, 0 ≤ k ∧ k ≤ 64 := fun k hk => by have := c2 k hk; simp [oddN] at this; omega
      (repeat (first | ((with_reducible refine VC.mkL ?_ fun _ => ?_); · first | omega | exact True.intro | rfl) | ((with_reducible refine VC.mkD ?_ fun _ => ?_); · first | omega | exact True.intro | (intros; omega)) | ((with_reducible refine dEnd.mk ?_ ?_); · kernel_rfl) | (simp [go_sem])))
      refine dCall.plain (filled_pure m (by omega) hb) (by simp [go_sem]) ?_
      (repeat (first | ((with_reducible refine VC.mkL ?_ fun _ => ?_); · first | omega | exact True.intro | rfl) | ((with_reducible refine VC.mkD ?_ fun _ => ?_); · first | omega | exact True.intro | (intros; omega)) | ((with_reducible refine dEnd.mk ?_ ?_); · kernel_rfl) | (simp [go_sem])))
      refine dCall.plain (Valid_pure g hg hr (filledP m) ?_) (by simp [go_sem]) ?_
      · have := fillL_length m.at_ 0 (fun k hk => (hb k hk).2)
        exact ⟨by unfold Fits filledP; simp only; omega, h0, h1⟩
      · have e : matOk g m = posOk g (filledP m) := by
          have : m.at_.any (oddN g) = false := by simp; exact c2
          unfold matOk
          simp [this, c1]
        (repeat (first | ((with_reducible refine VC.mkL ?_ fun _ => ?_); · first | omega | exact True.intro | rfl) | ((with_reducible refine VC.mkD ?_ fun _ => ?_); · first | omega | exact True.intro | (intros; omega)) | ((with_reducible refine dEnd.mk ?_ ?_); · kernel_rfl) | (simp [go_sem, e])))
/-! ### index.Size -/
def sizeOf_ (g : GameD) (m : PosD) : Int × Int := if matOk g m = false then (0, 140) else if ways m.at_ = big then (0, 2) else (ways m.at_, 0)
theorem Size_pure (g : GameD) (hg : FitsG g) (hr : FitsR g) (h64 : g.cells ≤ 64) (hk : g.kinds.length ≤ 400) (m : PosD) (hm : m.at_.length ≤ 9223372036854775807) (h0 : Fits m.h0) (h1 : Fits m.h1) :
    Pure Try.prog 29 [.agg (encGame g), .agg (encPos m)] (.tup [.v (.int .i64 (sizeOf_ g m).1), .v (.int .i64 (sizeOf_ g m).2)]) := by
  refine Pure.of (ACallP.of_awp (by kernel_rfl) Try.func29 rfl rfl (Nat.le_of_ble_eq_true rfl) (by kernel_rfl) ?_)
  (repeat (first | ((with_reducible refine VC.mkL ?_ fun _ => ?_); · first | omega | exact True.intro | rfl) | ((with_reducible refine VC.mkD ?_ fun _ => ?_); · first | omega | exact True.intro | (intros; omega)) | ((with_reducible refine dEnd.mk ?_ ?_); · kernel_rfl) | (simp [go_sem])))
  refine ACallP.plain (ixValid_pure g hg hr h64 hk m hm h0 h1) (by simp [go_sem]) ?_
  (repeat (first | ((with_reducible refine VC.mkL ?_ fun _ => ?_); · first | omega | exact True.intro | rfl) | ((with_reducible refine VC.mkD ?_ fun _ => ?_); · first | omega | exact True.intro | (intros; omega)) | ((with_reducible refine dEnd.mk ?_ ?_); · kernel_rfl) | (simp [go_sem])))
  refine aIf.mkL (fun hv => ?_) (fun hv => ?_) <;> simp at hv
  · have e : sizeOf_ g m = (0, 140) := by unfold sizeOf_; rw [if_pos hv]
    rw [e]
    (repeat (first | ((with_reducible refine VC.mkL ?_ fun _ => ?_); · first | omega | exact True.intro | rfl) | ((with_reducible refine VC.mkD ?_ fun _ => ?_); · first | omega | exact True.intro | (intros; omega)) | ((with_reducible refine dEnd.mk ?_ ?_); · kernel_rfl) | (simp [go_sem])))
  · (repeat (first | ((with_reducible refine VC.mkL ?_ fun _ => ?_); · first | omega | exact True.intro | rfl) | ((with_reducible refine VC.mkD ?_ fun _ => ?_); · first | omega | exact True.intro | (intros; omega)) | ((with_reducible refine dEnd.mk ?_ ?_); · kernel_rfl) | (simp [go_sem])))
    have hl : (m.at_.length : Int) = 1 + 2 * g.kinds.length ∧ ∀ k ∈ m.at_, k ≤ 64 := by
      unfold matOk at hv
      simp at hv
      exact ⟨hv.1.1, fun k hk => by have := hv.1.2 k hk; simp [oddN] at this; omega⟩
    refine ACallP.plain (ways_pure m.at_ (by omega) (fun k hk => by have := hl.2 k hk; omega)) (by simp [go_sem]) ?_
    (repeat (first | ((with_reducible refine VC.mkL ?_ fun _ => ?_); · first | omega | exact True.intro | rfl) | ((with_reducible refine VC.mkD ?_ fun _ => ?_); · first | omega | exact True.intro | (intros; omega)) | ((with_reducible refine dEnd.mk ?_ ?_); · kernel_rfl) | (simp [go_sem])))
    refine aIf.mkL (fun hw => ?_) (fun hw => ?_) <;> simp at hw
    · have e : sizeOf_ g m = (0, 2) := by unfold sizeOf_ big; rw [if_neg (by simp [hv]), if_pos hw]
      rw [e]
      (repeat (first | ((with_reducible refine VC.mkL ?_ fun _ => ?_); · first | omega | exact True.intro | rfl) | ((with_reducible refine VC.mkD ?_ fun _ => ?_); · first | omega | exact True.intro | (intros; omega)) | ((with_reducible refine dEnd.mk ?_ ?_); · kernel_rfl) | (simp [go_sem])))
    · have e : sizeOf_ g m = (ways m.at_, 0) := by unfold sizeOf_ big; rw [if_neg (by simp [hv]), if_neg hw]
      rw [e]
      (repeat (first | ((with_reducible refine VC.mkL ?_ fun _ => ?_); · first | omega | exact True.intro | rfl) | ((with_reducible refine VC.mkD ?_ fun _ => ?_); · first | omega | exact True.intro | (intros; omega)) | ((with_reducible refine dEnd.mk ?_ ?_); · kernel_rfl) | (simp [go_sem])))
end Go.Av
