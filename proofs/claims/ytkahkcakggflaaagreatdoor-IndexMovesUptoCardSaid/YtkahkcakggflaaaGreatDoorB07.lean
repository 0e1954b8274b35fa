/- Texts of ours, part 7: our library and contracts of functions. -/
import Derived.Test.YtkahkcakggflaaaGreatDoorB06
set_option linter.unusedSimpArgs false
set_option linter.unusedVariables false
set_option maxRecDepth 100000
set_option maxHeartbeats 40000000
section
/- Contracts, part 3: positions. -/
open Go Go.Proofs
namespace Go.Av
theorem bel_rows {n : Nat} {α : Type} {f : α → List AV} {l : List α} {sz : Nat} (h : ∀ x, ∀ c ∈ f x, Bel n c) : Bel n (.lst sz (l.map f)) := by
 refine .lst fun r hr c hc => ?_
 obtain ⟨x, _, rfl⟩ := List.mem_map.1 hr
 exact h x c hc
theorem bel_kinds {n : Nat} {l : List KindD} : Bel n (.lst 3 (l.map encKind)) = True := eq_true (bel_rows fun k c hc => by
 simp only [encKind, List.mem_cons, List.mem_nil_iff, or_false] at hc
 rcases hc with rfl | rfl | rfl
 ·exact .v _
 ·refine bel_rows fun p c hc => ?_
  simp only [List.mem_cons, List.mem_nil_iff, or_false] at hc
  subst hc
  exact bel_rows fun s c hc => by
   simp only [encStep, List.mem_cons, List.mem_nil_iff, or_false] at hc
   rcases hc with rfl | rfl <;> exact .v _
 ·exact .v _)
theorem bel_clauses {n : Nat} {l : List (Int × Int × Int × Int)} : Bel n (.lst 4 (l.map encClause)) = True := eq_true (bel_rows fun k c hc => by
 simp only [encClause, List.mem_cons, List.mem_nil_iff, or_false] at hc
 rcases hc with rfl | rfl | rfl | rfl <;> exact .v _)
theorem bel_iss {n : Nat} {l : List (List Int)} : Bel n (.lst 1 (l.map fun l => [.lst 1 (l.map encI)])) = True := eq_true (bel_rows fun k c hc => by
 simp only [List.mem_cons, List.mem_nil_iff, or_false] at hc
 subst hc
 exact of_eq_true bel_Is)
attribute [go_sem high] bel_kinds bel_clauses bel_iss
def contOk (g : GameD) (x : Int) : Bool := decide (0 ≤ x) && decide (x ≤ 2 * g.kinds.length)
def FitsG (g : GameD) : Prop := g.kinds.length ≤ 1000000
theorem content_pure (g : GameD) (hg : FitsG g) (x : Int) : Pure Tryz.prog 143 [.agg (encGame g), .v (.int .i64 x)] (.v (.bool (contOk g x))) := by
 refine pF Tryz.func143 ?_
 unfold FitsG at hg
 simp [go_sem]
 refine VC.mkL (by omega) fun _ => ?_
 simp [go_sem, contOk]
theorem notContent_pure (g : GameD) (hg : FitsG g) (x : Int) : Pure Tryz.prog 144 [.v (.int .i64 x), .fp [.fn (.func 143) [.agg (encGame g)] []]] (.v (.bool !contOk g x)) := by
 refine pF Tryz.func144 ?_
 simp [go_sem]
 refine ACallP.plain (content_pure g hg x) (by simp [go_sem]) ?_
 simp [go_sem]
def handGo : List Int → List KindD → Bool
 | x :: l, k :: ks => decide (0 ≤ x) && decide (x ≤ 8) && (!decide (0 < x) || k.keep) && handGo l ks
 | _, _ => true
def handOk (g : GameD) (l : List Int) : Bool := decide (l.length = g.kinds.length) && handGo l g.kinds
theorem hand_pure (g : GameD) (hg : FitsG g) (l : List Int) (hl : Fits l) : Pure Tryz.prog 145 [.agg (encGame g), encIs l] (.v (.bool (handOk g l))) := by
 refine pF Tryz.func145 ?_
 unfold FitsG at hg
 unfold Fits at hl
 simp [go_sem]
 refine aIf.mkL (fun hn => ?_) (fun hn => ?_)
 ·simp at hn
  have hn' : l.length ≠ g.kinds.length := by omega
  simp [go_sem, handOk, hn']
 ·simp at hn
  have hn' : l.length = g.kinds.length := by omega
  simp [go_sem]
  have hk : handOk g l = handGo l g.kinds := by simp [handOk, hn']
  rw [hk]
  refine ALoop.start (ALoop.ind (α := Nat) (fun j => ⟨[(2, .ref 0 0 9 0 0), (14, encIs l), (15, .v (.int .i64 l.length)), (16, .v (.int .i64 j))], [(0, .rows true 0 9 [encGame g])], 1⟩)
   (fun d j => j + d = l.length ∧ handGo l g.kinds = handGo (l.drop j) (g.kinds.drop j)) ?_ l.length 0 ?_) ?_ ?_
  ·rintro d j ⟨i1, i2⟩ hrec
   simp [go_sem]
   refine aIf.mkL (fun hj => ?_) (fun hj => ?_)
   ·simp at hj
    have hj2 : j < g.kinds.length := by omega
    rw [drop_cons hj, show g.kinds.drop j = nth g.kinds j :: g.kinds.drop (j + 1) by rw [List.drop_eq_getElem_cons hj2, nth_eq _ _ hj2], handGo] at i2
    simp [go_sem]
    refine VC.mkL hj fun _ => ?_
    simp [go_sem, hj]
    refine VC.mkL (by intros; omega) fun _ => ?_
    simp [go_sem, hj2]
    refine VC.mkL (by intros; omega) fun _ => ?_
    simp [go_sem]
    refine aIf.mkL (fun hb => ?_) (fun hb => ?_)
    ·have : handGo l g.kinds = false := by
      rw [i2]; generalize nth l j = x at *; generalize (nth g.kinds j).keep = y at *
      cases y <;> simp at hb ⊢ <;> omega
     simp [go_sem, this]
    ·have : handGo l g.kinds = handGo (List.drop (j + 1) l) (List.drop (j + 1) g.kinds) := by
      rw [i2]; generalize nth l j = x at *; generalize (nth g.kinds j).keep = y at *
      cases y <;> simp at hb ⊢ <;> omega
     simp [go_sem]
     refine VC.mkL (by omega) fun _ => ?_
     simp [go_sem]
     refine ALoop.start (hrec (d - 1) (by omega) (j + 1) ⟨by omega, this⟩) ?_ (by simp)
     simp [go_sem, Wk_eq]
   ·simp at hj
    rw [List.drop_eq_nil_of_le hj] at i2
    have : handGo l g.kinds = true := by rw [i2]; rfl
    simp [go_sem, this]
  ·simp
  ·simp [go_sem, Wk_eq]
  ·simp
end Go.Av
end
section
/- Contracts, part 4: pos.Valid. -/
open Go Go.Proofs
namespace Go.Av
def posOk (g : GameD) (p : PosD) : Bool :=
 decide ((p.at_.length : Int) = g.cells) && !(p.at_.any fun x => !contOk g x) && handOk g p.h0 && handOk g p.h1 && decide (0 ≤ p.rights) && decide (p.rights < 2 ^ g.rights.toNat) && (decide (p.side = 0) || decide (p.side = 1))
def FitsR (g : GameD) : Prop := 0 ≤ g.rights ∧ g.rights ≤ 60
theorem Valid_pure (g : GameD) (hg : FitsG g) (hr : FitsR g) (p : PosD) (hp : FitsP p) : Pure Tryz.prog 78 [.agg (encGame g), .agg (encPos p)] (.v (.bool (posOk g p))) := by
 refine pF Tryz.func78 ?_
 obtain ⟨p1, p2, p3⟩ := hp
 obtain ⟨r1, r2⟩ := hr
 simp [go_sem]
 try ((with_reducible refine wZ ?_); (try simp [go_sem]))
 refine dGC.flat [encIs p.at_, .fn (.func 144) [] [.fp [.fn (.func 143) [.agg (encGame g)] []]]] (.v (.bool (p.at_.any fun x => !contOk g x))) [3]
  (fun _ => ContainsFunc_pure _ p1 _ [] _ _ (fun x _ => notContent_pure g hg x) (by simp) (by simp [go_sem])) (.v _) (fun h₁ hS => ?_) (by simp [go_sem]) ?_
 ·have := hS 3 (by simp)
  simp [go_sem] at this
  simp only [List.nil_append, List.append_nil, encIs]
  exact .cons (.refl _) (.cons (.fn .nil (.cons (.frzP this.symm (by simp) (by simp) (by simp [noH]) (by simp [nth, go_sem])) .nil)) .nil)
 simp [go_sem]
 try ((with_reducible refine wZ ?_); (try simp [go_sem]))
 refine dGC.plain _ (fun _ => hand_pure g hg p.h0 p2) (by simp [go_sem]) ?_
 simp [go_sem]
 try ((with_reducible refine wZ ?_); (try simp [go_sem]))
 refine dGC.plain _ (fun _ => hand_pure g hg p.h1 p3) (by simp [go_sem]) ?_
 simp [go_sem]
 have hpow : (0 : Int) ≤ 2 ^ g.rights.toNat ∧ (2 : Int) ^ g.rights.toNat ≤ 1152921504606846976 := by
  have h1 : g.rights.toNat ≤ 60 := by omega
  have h2 : (2 : Int) ^ g.rights.toNat ≤ 2 ^ 60 := by have := Nat.pow_le_pow_right (n := 2) (by omega) h1; exact_mod_cast this
  exact ⟨Int.pow_nonneg (by omega), by simpa using h2⟩
 try ((with_reducible refine wZ ?_); (try simp [go_sem]))
 refine VC.mkD (by intros; omega) fun _ => ?_
 simp [go_sem]
 try ((with_reducible refine wZ ?_); (try simp [go_sem]))
 refine VC.mkD (fun a1 a2 a3 a4 a5 a6 => ⟨⟨⟨⟨⟨⟨a1, a2⟩, a3⟩, a4⟩, a5⟩, a6⟩, fun a7 => ⟨⟨⟨⟨⟨⟨a1, a2⟩, a3⟩, a4⟩, a5⟩, a6⟩, a7⟩⟩) fun _ => ?_
 simp [go_sem]
 try ((with_reducible refine wZ ?_); (try simp [go_sem]))
 refine dEnd.mk (by kernel_rfl) ?_
 simp [go_sem]
 exact LeV.of_eq (by simp [posOk])
end Go.Av
end
section
/- Contracts, part 5: numbers of arrangements. -/
open Go Go.Proofs
namespace Go.Av
def big : Int := 1099511627777
def wgo : Nat → Int → Int → Int → Option (Int × Int)
 | 0, _, out, n => some (out, n)
 | r + 1, i, out, n => if 4611686018427387904 / (n + 1) < out then none else wgo r (i + 1) (out * (n + 1) / i) (n + 1)
def wall : List Int → Int → Int → Option Int
 | [], out, _ => some out
 | k :: l, out, n => match wgo k.toNat 1 out n with
  | none => none
  | some (o, m) => wall l o m
def ways (men : List Int) : Int := match wall men 1 0 with
 | none => big
 | some o => min o big
theorem ways_pure (men : List Int) (h1 : men.length ≤ 1000) (h2 : ∀ k ∈ men, k ≤ 1000) : Pure Tryz.prog 167 [encIs men] (.v (.int .i64 (ways men))) := by
 refine pF Tryz.func167 ?_
 simp [go_sem]
 refine ALoop.start (ALoop.ind (α := Nat × Int × Int) (fun a => ⟨[(0, encIs men), (8, encIs men), (9, .v (.int .i64 men.length)), (10, .v (.int .i64 a.1)), (3, .v (.int .i64 a.2.1)), (4, .v (.int .i64 a.2.2))], [], 0⟩)
  (fun d a => a.1 + d = men.length ∧ 0 ≤ a.2.1 ∧ a.2.1 ≤ 4611686018427387904 ∧ 0 ≤ a.2.2 ∧ a.2.2 ≤ a.1 * 1000 ∧ ways men = match wall (men.drop a.1) a.2.1 a.2.2 with | none => big | some o => min o big) ?_ men.length (0, 1, 0) ?_) ?_ ?_
 ·rintro d ⟨j, out, n⟩ ⟨i1, i2, i3, i4, i5, i6⟩ hrec
  simp only at i1 i2 i3 i4 i5 i6
  simp [go_sem]
  refine aIf.mkL (fun hj => ?_) (fun hj => ?_)
  ·simp at hj
   simp [go_sem]
   refine VC.mkL hj fun _ => ?_
   simp [go_sem, hj]
   have hm := h2 _ (nth_mem hj)
   have hd : men.drop j = nth men j :: men.drop (j + 1) := by rw [List.drop_eq_getElem_cons hj, nth_eq _ _ hj]
   rw [hd] at i6
   simp only [wall] at i6
   generalize nth men j = k at *
   refine ALoop.start (ALoop.ind (α := Int × Int × Int) (fun a => ⟨[(0, encIs men), (8, encIs men), (9, .v (.int .i64 men.length)), (10, .v (.int .i64 j)), (6, .v (.int .i64 k)), (7, .v (.int .i64 a.1)), (3, .v (.int .i64 a.2.1)), (4, .v (.int .i64 a.2.2))], [], 0⟩)
    (fun r a => 1 ≤ a.1 ∧ a.1 - 1 + r = k.toNat ∧ 0 ≤ a.2.1 ∧ a.2.1 ≤ 4611686018427387904 ∧ a.2.2 = n + (a.1 - 1) ∧ wgo k.toNat 1 out n = wgo r a.1 a.2.1 a.2.2) ?_ k.toNat (1, out, n) ?_) ?_ ?_
   ·rintro r ⟨i, out', n'⟩ ⟨j1, j2, j3, j4, j5, j6⟩ hrec2
    simp only at j1 j2 j3 j4 j5 j6
    simp [go_sem]
    refine aIf.mkL (fun hi => ?_) (fun hi => ?_)
    ·simp at hi
     simp [go_sem]
     refine VC.mkL (by omega) fun _ => ?_
     have q1 : (4611686018427387904 : Int).tdiv (n' + 1) = 4611686018427387904 / (n' + 1) := Int.tdiv_eq_ediv_of_nonneg (by omega)
     have q2 : 4611686018427387904 / (n' + 1) ≤ 4611686018427387904 := Int.ediv_le_self _ (by omega)
     have q3 : 0 ≤ 4611686018427387904 / (n' + 1) := Int.ediv_nonneg (by omega) (by omega)
     simp [go_sem]
     rw [q1]
     refine VC.mkL (by omega) fun _ => ?_
     simp [go_sem]
     obtain ⟨r, rfl⟩ : ∃ r', r = r' + 1 := ⟨r - 1, by omega⟩
     rw [wgo] at j6
     refine aIf.mkL (fun ho => ?_) (fun ho => ?_)
     ·simp at ho
      rw [if_pos ho] at j6
      simp [go_sem]
      have : ways men = 1099511627777 := by rw [i6, j6]; rfl
      rw [this]; exact .refl _
     ·simp at ho
      rw [if_neg (by omega)] at j6
      have q4 : out' * (n' + 1) ≤ 4611686018427387904 := Int.le_trans (Int.mul_le_mul_of_nonneg_right ho (by omega)) (Int.ediv_mul_le _ (by omega))
      have q5 : 0 ≤ out' * (n' + 1) := Int.mul_nonneg j3 (by omega)
      have q6 : (out' * (n' + 1)).tdiv i = out' * (n' + 1) / i := Int.tdiv_eq_ediv_of_nonneg q5
      have q7 : 0 ≤ out' * (n' + 1) / i := Int.ediv_nonneg q5 (by omega)
      have q8 : out' * (n' + 1) / i ≤ out' * (n' + 1) := Int.ediv_le_self _ q5
      simp [go_sem]
      refine VC.mkL (by omega) fun _ => ?_
      simp [go_sem]
      rw [q6]
      refine VC.mkL (by omega) fun _ => ?_
      simp [go_sem]
      refine VC.mkL (by omega) fun _ => ?_
      simp [go_sem]
      refine ALoop.start (hrec2 r (by omega) (i + 1, out' * (n' + 1) / i, n' + 1) (by refine ⟨?_, ?_, ?_, ?_, ?_, j6⟩ <;> simp only <;> omega)) ?_ (by simp)
      simp [go_sem, Wk_eq]
    ·simp at hi
     have : r = 0 := by omega
     subst this
     simp only [wgo] at j6
     rw [j6] at i6
     simp only at i6
     simp [go_sem]
     refine VC.mkL (by omega) fun _ => ?_
     simp [go_sem]
     refine ALoop.start (hrec (d - 1) (by omega) (j + 1, out', n') (by refine ⟨?_, ?_, ?_, ?_, ?_, i6⟩ <;> simp only <;> omega)) ?_ (by simp)
     simp [go_sem, Wk_eq]
   ·refine ⟨?_, ?_, ?_, ?_, ?_, rfl⟩ <;> simp only <;> omega
   ·simp [go_sem, Wk_eq]
   ·simp
  ·simp at hj
   simp [go_sem]
   rw [List.drop_eq_nil_of_le hj] at i6
   have : (if 1099511627777 < out then 1099511627777 else out) = ways men := by rw [i6]; simp only [wall, big, Int.min_def]; split <;> split <;> omega
   rw [this]; exact .refl _
 ·simp [ways]
 ·simp [go_sem, Wk_eq]
 ·simp
def oddN (g : GameD) (x : Int) : Bool := decide (x < 0) || decide (g.cells < x)
theorem odd_pure (g : GameD) (x : Int) : Pure Tryz.prog 116 [.v (.int .i64 x), .fp (encGame g)] (.v (.bool (oddN g x))) := by
 refine pF Tryz.func116 ?_
 simp [go_sem, oddN]
end Go.Av
end
section
/- Contracts, part 6: bits.Mul, slices.Repeat, index.filled, index.Valid, index.Size. -/
open Go Go.Proofs
namespace Go.Av
theorem and32 {n : Int} (h0 : 0 ≤ n) (h1 : n < 4294967296) : andN .u64 n 4294967295 = n := by
 obtain ⟨m, rfl⟩ := Int.eq_ofNat_of_zero_le h0
 have hm : m < 4294967296 := by omega
 have e : (BitVec.ofInt IntKind.u64.bits (m : Int) &&& BitVec.ofInt IntKind.u64.bits 4294967295).toNat = m := by
  rw [BitVec.toNat_and]
  have e1 : (BitVec.ofInt IntKind.u64.bits (m : Int)).toNat = m := by simp [BitVec.toNat_ofInt, IntKind.bits]; omega
  have e2 : (BitVec.ofInt IntKind.u64.bits 4294967295).toNat = 2 ^ 32 - 1 := by rfl
  rw [e1, e2, Nat.and_two_pow_sub_one_eq_mod]
  exact Nat.mod_eq_of_lt hm
 unfold andN
 rw [e]
 exact wrap_InR (by rw [InR_u64]; omega)
theorem fdiv32 {n : Int} (h0 : 0 ≤ n) (h1 : n < 4294967296) : n.fdiv 4294967296 = 0 := by rw [Int.fdiv_eq_ediv_of_nonneg _ (by omega)]; omega
theorem Mul64_pure (x y : Int) (x0 : 0 ≤ x) (x1 : x < 4294967296) (y0 : 0 ≤ y) (y1 : y < 4294967296) (h : x * y < 4294967296) : Pure Tryz.prog 264 [.v (.int .u64 x), .v (.int .u64 y)] (.tup [.v (.int .u64 0), .v (.int .u64 (x * y))]) := by
 refine pF Tryz.func264 ?_
 have m0 : 0 ≤ x * y := Int.mul_nonneg x0 y0
 generalize hz : x * y = z at *
 have a1 := and32 x0 x1
 have a2 := and32 y0 y1
 have a3 := fdiv32 x0 x1
 have a4 := fdiv32 y0 y1
 have a5 := fdiv32 m0 h
 have a6 : andN .u64 0 4294967295 = 0 := by rfl
 (repeat (first|with_reducible refine wV fun _=>?_|simp [go_sem, a1, a2, a3, a4, a5, a6, hz]))
theorem Mul_pure (x y : Int) (x0 : 0 ≤ x) (x1 : x < 4294967296) (y0 : 0 ≤ y) (y1 : y < 4294967296) (h : x * y < 4294967296) : Pure Tryz.prog 207 [.v (.int .u64 x), .v (.int .u64 y)] (.tup [.v (.int .u64 0), .v (.int .u64 (x * y))]) := by
 refine pF Tryz.func207 ?_
 (repeat (first|with_reducible refine wV fun _=>?_|simp [go_sem]))
 refine ACallP.plain (Mul64_pure x y x0 x1 y0 y1 h) (by simp [go_sem]) ?_
 generalize x * y = z at *
 (repeat (first|with_reducible refine wV fun _=>?_|simp [go_sem]))
theorem Repeat_owns (x : Int) (n : Nat) (hn : n ≤ 1048576) : Owns Tryz.prog 171 [encIs [x], .v (.int .i64 n)] (fun k => .sl k 0 1 0 n) (fun k => [(k, .rows true 0 1 ((List.replicate n x).map encI))]) 1 := by
 refine ⟨ACallP.of_awp (by kernel_rfl) Tryz.func171 rfl rfl (Nat.le_of_ble_eq_true rfl) (by kernel_rfl) ?_, fun n => ⟨by simp [go_sem], by simp [go_sem]⟩⟩
 (repeat (first|with_reducible refine wV fun _=>?_|simp [go_sem]))
 (refine aIf.mkL (fun hF => by first | omega | (simp at hF; omega)) (fun hF => ?_); clear hF)
 (repeat (first|with_reducible refine wV fun _=>?_|simp [go_sem]))
 refine ACallP.plain (Mul_pure 1 n (by omega) (by omega) (by omega) (by omega) (by omega)) (by simp [go_sem]) ?_
 (repeat (first|with_reducible refine wV fun _=>?_|simp [go_sem]))
 (refine aIf.mkL (fun hF => by first | omega | (simp at hF; omega)) (fun hF => ?_); clear hF)
 (repeat (first|with_reducible refine wV fun _=>?_|simp [go_sem]))
 refine ALoop.start (ALoop.ind (α := Nat) (fun m => ⟨[(7, .sl 0 0 1 0 n), (8, .v (.int .i64 m))], [(0, .rows true 0 1 (List.replicate m [.v (.int .i64 x)] ++ List.replicate (n - m) [.v (.int .i64 0)]))], 1⟩)
  (fun d m => m + d = n ∧ (0 < n → 0 < m)) ?_ (n - min 1 n) (min 1 n) ?_) ?_ ?_
 ·rintro d m ⟨i1, i2⟩ hrec
  (repeat (first|with_reducible refine wV fun _=>?_|simp [go_sem]))
  refine aIf.mkL (fun hm => ?_) (fun hm => ?_) <;> simp at hm
  ·(repeat (first|with_reducible refine wV fun _=>?_|simp [go_sem]))
   refine ALoop.start (hrec (n - (m + min m (n - m))) (by have := i2 (by omega); omega) (m + min m (n - m)) ⟨by omega, by intros; have := i2 (by omega); omega⟩) ?_ (by simp)
   have e1 : List.drop (m + min m (n - m)) (List.replicate m [AV.v (Value.int IntKind.i64 x)] ++ List.replicate (n - m) [AV.v (Value.int IntKind.i64 0)]) = List.replicate (n - (m + min m (n - m))) [AV.v (Value.int IntKind.i64 0)] := by
    rw [List.drop_append, List.drop_replicate, List.drop_replicate, List.length_replicate]
    rw [show m - (m + min m (n - m)) = 0 by omega, show n - m - (m + min m (n - m) - m) = n - (m + min m (n - m)) by omega]; rfl
   simp [go_sem, Wk_eq, e1]
   (first|done|exact blX)
  ·obtain rfl : m = n := by omega
   (repeat (first|with_reducible refine wV fun _=>?_|simp [go_sem]))
   simp [go_sem, Wk_eq]
 ·exact ⟨by omega, by omega⟩
 ·have e1 : List.take (min 1 n) [[AV.v (Value.int IntKind.i64 x)]] = List.replicate (min 1 n) [AV.v (Value.int IntKind.i64 x)] := by
   rcases Nat.eq_zero_or_pos n with h | h
   ·subst h; rfl
   ·rw [show min 1 n = 1 by omega]; rfl
  simp [go_sem, Wk_eq, e1]
  (first|done|exact blX)
 ·simp
theorem Repeat_pure (x : Int) (n : Nat) (hn : n ≤ 1048576) : Pure Tryz.prog 171 [encIs [x], .v (.int .i64 n)] (encIs (List.replicate n x)) :=
 (Repeat_owns x n hn).pure (leV_frz rfl (by simp) (by simp [noH]) (by rw [List.drop_zero, List.take_of_length_le (by simp)])) (by simp [go_sem])
def fillL : Nat → List Int → List Int
 | _, [] => []
 | c, k :: l => List.replicate k.toNat (c : Int) ++ fillL (c + 1) l
theorem fillL_length : ∀ (l : List Int) (c : Nat), (∀ k ∈ l, k ≤ 64) → (fillL c l).length ≤ 64 * l.length
 | [], c, _ => by simp [fillL]
 | k :: l, c, h => by
  have := fillL_length l (c + 1) fun k hk => h k (by simp [hk])
  have := h k (by simp)
  simp [fillL]; omega
def filledP (m : PosD) : PosD := { m with at_ := fillL 0 m.at_ }
theorem filled_pure (m : PosD) (h1 : m.at_.length ≤ 1000) (h2 : ∀ k ∈ m.at_, 0 ≤ k ∧ k ≤ 64) : Pure Tryz.prog 118 [.agg (encPos m)] (.agg (encPos (filledP m))) := by
 refine pF Tryz.func118 ?_
 (repeat (first|with_reducible refine wV fun _=>?_|simp [go_sem]))
 refine ALoop.start (ALoop.ind (α := Nat × List Int) (fun a => ⟨[(2, .ref 1 0 5 0 0), (3, .ref 2 0 5 0 0), (14, encIs m.at_), (15, .v (.int .i64 m.at_.length)), (16, .v (.int .i64 a.1))],
   [(1, .rows true 0 5 [[.v (.slice none 0 0), .v (.slice none 0 0), .v (.slice none 0 0), .v (.int .i64 0), .v (.int .i64 0)]]), (2, .rows true 0 5 [[.sl 3 a.1 1 0 a.2.length, encIs m.h0, encIs m.h1, .v (.int .i64 m.rights), .v (.int .i64 m.side)]]), (3, .rows true a.1 1 (a.2.map encI))], 4⟩)
  (fun d a => a.1 + d = m.at_.length ∧ a.2.length ≤ 64 * a.1 ∧ a.2 ++ fillL a.1 (m.at_.drop a.1) = fillL 0 m.at_) ?_ m.at_.length (0, []) ?_) ?_ ?_
 ·rintro d ⟨j, out⟩ ⟨i1, i2, i3⟩ hrec
  simp only at i1 i2 i3
  (repeat (first|with_reducible refine wV fun _=>?_|simp [go_sem]))
  refine aIf.mkL (fun hj => ?_) (fun hj => ?_) <;> simp at hj
  ·(repeat (first|with_reducible refine wV fun _=>?_|simp [go_sem, hj]))
   have hm := h2 _ (nth_mem hj)
   rw [drop_cons hj, fillL] at i3
   generalize nth m.at_ j = k at *
   try ((with_reducible refine wZ ?_); (try simp [go_sem]))
   refine dCall.frz [encIs [(j : Int)], .v (.int .i64 k.toNat)] (encIs (List.replicate k.toNat (j : Int))) [7] [(7, some (.rows false 0 1 [[.v (.int .i64 j)]]))] (Repeat_pure _ _ (by omega)) ?_ ?_ (by simp [go_sem]) ?_
   ·intro p hp
    simp only [List.mem_singleton] at hp
    subst hp
    exact ⟨by simp, 0, 1, _, rfl, by simp [upd]⟩
   ·intro h₁ hS
    have h7 := hS 7 (by simp)
    simp [go_sem] at h7
    exact .cons (leV_frz h7.symm (by simp) (by simp [applyW, upd]) (by simp [go_sem])) (.cons (LeV.of_eq (by rw [show ((k.toNat : Nat) : Int) = k by omega])) .nil)
   ·(repeat (first|with_reducible refine wV fun _=>?_|simp [go_sem]))
    refine ALoop.start (hrec (d - 1) (by omega) (j + 1, out ++ List.replicate k.toNat (j : Int)) ⟨by simp only; omega, by simp; omega, by simp only [List.append_assoc]; exact i3⟩) ?_ (by simp)
    simp [go_sem, Wk_eq]
    (first|done|exact blX)
  ·rw [List.drop_eq_nil_of_le hj, fillL, List.append_nil] at i3
   subst i3
   (repeat (first|with_reducible refine wV fun _=>?_|simp [go_sem, filledP]))
   exact frX
 ·simp
 ·simp [go_sem, Wk_eq]
 ·simp
def matOk (g : GameD) (m : PosD) : Bool := decide ((m.at_.length : Int) = 1 + 2 * g.kinds.length) && !(m.at_.any (oddN g)) && posOk g (filledP m)
theorem ixValid_pure (g : GameD) (hg : FitsG g) (hr : FitsR g) (h64 : g.cells ≤ 64) (hk : g.kinds.length ≤ 400) (m : PosD) (hm : m.at_.length ≤ 9223372036854775807) (h0 : Fits m.h0) (h1 : Fits m.h1) :
  Pure Tryz.prog 59 [.agg (encGame g), .agg (encPos m)] (.v (.bool (matOk g m))) := by
 refine pF Tryz.func59 ?_
 (repeat (first|with_reducible refine wV fun _=>?_|simp [go_sem]))
 refine aGC.flat [encIs m.at_, .fn (.func 116) [] [.fp (encGame g)]] (.v (.bool (m.at_.any (oddN g)))) (fun hg => ?_) (.v _) ?_ (by simp [go_sem]) ?_
 ·simp at hg
  exact ContainsFunc_pure _ (by unfold Fits; omega) _ [] _ _ (fun x _ => odd_pure g x) (by simp) (by simp [go_sem])
 ·simp only [List.nil_append, List.append_nil, encIs]
  exact .cons (.refl _) (.cons (.fn .nil (.cons (.frzP rfl (by simp) (by simp) (by simp [noH]) (by simp [nth, go_sem])) .nil)) .nil)
 ·(repeat (first|with_reducible refine wV fun _=>?_|simp [go_sem]))
  refine aIf.mkL (fun hc => ?_) (fun hc => ?_) <;> simp at hc
  ·have e : matOk g m = false := by
    unfold matOk
    rcases hc with hc | ⟨x, h1, h2⟩
    ·simp [hc]
    ·have : m.at_.any (oddN g) = true := by simp; exact ⟨x, h1, h2⟩
     simp [this]
   (repeat (first|with_reducible refine wV fun _=>?_|simp [go_sem, e]))
  ·obtain ⟨c1, c2⟩ := hc
   have hb : ∀ k ∈ m.at_, 0 ≤ k ∧ k ≤ 64 := fun k hk => by have := c2 k hk; simp [oddN] at this; omega
   (repeat (first|with_reducible refine wV fun _=>?_|simp [go_sem]))
   refine dCall.plain (filled_pure m (by omega) hb) (by simp [go_sem]) ?_
   (repeat (first|with_reducible refine wV fun _=>?_|simp [go_sem]))
   refine dCall.plain (Valid_pure g hg hr (filledP m) ?_) (by simp [go_sem]) ?_
   ·have := fillL_length m.at_ 0 (fun k hk => (hb k hk).2)
    exact ⟨by unfold Fits filledP; simp only; omega, h0, h1⟩
   ·have e : matOk g m = posOk g (filledP m) := by
     have : m.at_.any (oddN g) = false := by simp; exact c2
     unfold matOk
     simp [this, c1]
    (repeat (first|with_reducible refine wV fun _=>?_|simp [go_sem, e]))
def sizeOf_ (g : GameD) (m : PosD) : Int × Int := if matOk g m = false then (0, 140) else if ways m.at_ = big then (0, 2) else (ways m.at_, 0)
theorem Size_pure (g : GameD) (hg : FitsG g) (hr : FitsR g) (h64 : g.cells ≤ 64) (hk : g.kinds.length ≤ 400) (m : PosD) (hm : m.at_.length ≤ 9223372036854775807) (h0 : Fits m.h0) (h1 : Fits m.h1) :
  Pure Tryz.prog 110 [.agg (encGame g), .agg (encPos m)] (.tup [.v (.int .i64 (sizeOf_ g m).1), .v (.int .i64 (sizeOf_ g m).2)]) := by
 refine pF Tryz.func110 ?_
 (repeat (first|with_reducible refine wV fun _=>?_|simp [go_sem]))
 refine ACallP.plain (ixValid_pure g hg hr h64 hk m hm h0 h1) (by simp [go_sem]) ?_
 (repeat (first|with_reducible refine wV fun _=>?_|simp [go_sem]))
 refine aIf.mkL (fun hv => ?_) (fun hv => ?_) <;> simp at hv
 ·have e : sizeOf_ g m = (0, 140) := by unfold sizeOf_; rw [if_pos hv]
  rw [e]
  (repeat (first|with_reducible refine wV fun _=>?_|simp [go_sem]))
 ·(repeat (first|with_reducible refine wV fun _=>?_|simp [go_sem]))
  have hl : (m.at_.length : Int) = 1 + 2 * g.kinds.length ∧ ∀ k ∈ m.at_, k ≤ 64 := by
   unfold matOk at hv
   simp at hv
   exact ⟨hv.1.1, fun k hk => by have := hv.1.2 k hk; simp [oddN] at this; omega⟩
  refine ACallP.plain (ways_pure m.at_ (by omega) (fun k hk => by have := hl.2 k hk; omega)) (by simp [go_sem]) ?_
  (repeat (first|with_reducible refine wV fun _=>?_|simp [go_sem]))
  refine aIf.mkL (fun hw => ?_) (fun hw => ?_) <;> simp at hw
  ·have e : sizeOf_ g m = (0, 2) := by unfold sizeOf_ big; rw [if_neg (by simp [hv]), if_pos hw]
   rw [e]
   (repeat (first|with_reducible refine wV fun _=>?_|simp [go_sem]))
  ·have e : sizeOf_ g m = (ways m.at_, 0) := by unfold sizeOf_ big; rw [if_neg (by simp [hv]), if_neg hw]
   rw [e]
   (repeat (first|with_reducible refine wV fun _=>?_|simp [go_sem]))
end Go.Av
end
section
/- Contracts: what all later parts lean on. -/
open Go Go.Proofs
namespace Go.Av
theorem leRows_append {h h' : Heap} {n : Nat} : ∀ {xs xs' ys ys' : List (List AV)}, LeRows h h' n xs xs' → LeRows h h' n ys ys' → LeRows h h' n (xs ++ ys) (xs' ++ ys')
 | [], _, _, _, .refl _, h2 => h2
 | [], _, _, _, .nil, h2 => h2
 | x :: xs, _, _, _, .refl _, h2 => .cons (.refl _ _ _ _) (leRows_append (.refl xs) h2)
 | _ :: _, _, _, _, .cons a b, h2 => .cons a (leRows_append b h2)
theorem LeRows.of_eq {h h' : Heap} {n : Nat} {xs ys : List (List AV)} (e : xs = ys) : LeRows h h' n xs ys := e ▸ .refl _
def frz1 : Option AObj → Option AObj
 | some (.rows _ g sz rs) => some (.rows false g sz rs)
 | none => none
def frzO (h : Heap) (os : List Nat) : Heap := fun o => if os.contains o then frz1 (h o) else h o
theorem frzO_apply (h : Heap) (os : List Nat) (o : Nat) : frzO h os o = if os.contains o then frz1 (h o) else h o := rfl
theorem frz1_some (mt : Bool) (g sz : Nat) (rs : List (List AV)) : frz1 (some (.rows mt g sz rs)) = some (.rows false g sz rs) := rfl
theorem frz_frzO (h : Heap) (os : List Nat) : Frz h (frzO h os) := by
 intro o
 unfold frzO
 split
 ·cases ho : h o with
  | none => exact .inl rfl
  | some x =>
   cases x with
   | rows mt g sz rs =>
    cases mt with
    | true => exact .inr ⟨g, sz, rs, rfl, rfl⟩
    | false => exact .inl rfl
 ·exact .inl rfl
theorem ACallP.pureF {P : Program} {f : FuncId} {args args' : List AV} {r : AV} {h : Heap} {n : Nat} {K : CallK} (os : List Nat) (hp : Pure P f args' r) (hle : LeRow h (frzO h os) n args args') (hb : ∀ c ∈ args', Bel 0 c)
  (hk : K r (frzO h os) n) : ACallP P f args h n K := ACallP.pure (frzO h os) hp (frz_frzO h os) hle hb hk
attribute [go_sem] frzO_apply frz1_some
def encU (n : Int) : List AV := [.v (.int .u8 n)]
def encUs (l : List Int) : AV := .lst 1 (l.map encU)
theorem bel_U {n : Nat} {l : List Int} : (∀ r ∈ l.map encU, ∀ c ∈ r, Bel n c) = True := by
 refine eq_true ?_
 intro r hr c hc
 obtain ⟨x, _, rfl⟩ := List.mem_map.1 hr
 simp only [encU, List.mem_singleton] at hc
 subst hc; exact .v _
theorem bel_Us {n : Nat} {l : List Int} : Bel n (.lst 1 (l.map encU)) = True := by rw [Bel_lst, bel_U]
attribute [go_sem] encU encUs
attribute [go_sem high] bel_Us
theorem posOk_iff {g : GameD} {p : PosD} : posOk g p = true ↔ ((p.at_.length : Int) = g.cells ∧ (∀ x ∈ p.at_, 0 ≤ x ∧ x ≤ 2 * g.kinds.length) ∧ handOk g p.h0 = true ∧ handOk g p.h1 = true ∧ 0 ≤ p.rights ∧ p.rights < 2 ^ g.rights.toNat ∧ (p.side = 0 ∨ p.side = 1)) := by
 unfold posOk
 simp [contOk, and_assoc]
theorem nth_set_self {α : Type} [Inhabited α] {l : List α} {c : Nat} {x : α} (h : c < l.length) : nth (l.set c x) c = x := by simp [nth, h]
attribute [go_sem] nth_set_self
end Go.Av
end
section
/- Contracts, part 7: index.Of, taker, Rank, At. -/
open Go Go.Proofs
namespace Go.Av
def bump (m : List Int) (c : Int) : List Int := m.set c.toNat (nth m c.toNat + 1)
def menOf (k : Nat) (l : List Int) : List Int := l.foldl bump (List.replicate k 0)
def ofP (g : GameD) (p : PosD) : PosD := { p with at_ := menOf (1 + 2 * g.kinds.length) p.at_ }
theorem bump_length (m : List Int) (c : Int) : (bump m c).length = m.length := by simp [bump]
theorem bump_mem {m : List Int} {c x : Int} {j : Nat} (h : ∀ x ∈ m, 0 ≤ x ∧ x ≤ j) (hc : c.toNat < m.length) (hx : x ∈ bump m c) : 0 ≤ x ∧ x ≤ (j + 1 : Nat) := by
  rcases List.mem_or_eq_of_mem_set hx with h1 | rfl
  · have := h x h1; omega
  · have := h _ (nth_mem hc); omega
def ownMat (n : Nat) (p : PosD) : AV := .agg [.sl (n + 8) 0 1 0 p.at_.length, .sl (n + 16) 1 1 0 p.h0.length, .sl (n + 17) 1 1 0 p.h1.length, .v (.int .i64 p.rights), .v (.int .i64 p.side)]
def ownMatH (n : Nat) (p : PosD) : List (Nat × AObj) := [(n + 8, .rows true 0 1 (p.at_.map encI)), (n + 16, .rows true 1 1 (p.h0.map encI)), (n + 17, .rows true 1 1 (p.h1.map encI))]
attribute [go_sem] ownMat ownMatH
theorem bump_set {m : List Int} {c : Int} : (m.map encI).set c.toNat [.v (.int .i64 (nth m c.toNat + 1))] = (bump m c).map encI := by simp [bump, List.map_set, encI]
theorem Of_owns (g : GameD) (hk : g.kinds.length ≤ 400) (p : PosD) (hp : FitsP p) (hc : ∀ c ∈ p.at_, 0 ≤ c ∧ c ≤ 2 * g.kinds.length) :
    Owns Tryz.prog 56 [.agg (encGame g), .agg (encPos p)] (fun n => ownMat n (ofP g p)) (fun n => ownMatH n (ofP g p)) 18 := by
  refine ⟨ACallP.of_awp (by kernel_rfl) Tryz.func56 rfl rfl (Nat.le_of_ble_eq_true rfl) (by kernel_rfl) ?_, fun n => ⟨by simp [go_sem], by simp [go_sem]⟩⟩
  obtain ⟨p1, p2, p3⟩ := hp
  have eK : (1 + 2 * (g.kinds.length : Int)).toNat = 1 + 2 * g.kinds.length := by omega
  (repeat (first|with_reducible refine wV fun _=>?_|simp [go_sem, eK]))
  refine ALoop.unroll ?_
  (repeat (first|with_reducible refine wV fun _=>?_|simp [go_sem, eK]))
  refine ACallP.ownsPlain (Clone_owns p.h0 p2) (by simp [go_sem]) ?_
  (repeat (first|with_reducible refine wV fun _=>?_|simp [go_sem]))
  refine ALoop.unroll ?_
  (repeat (first|with_reducible refine wV fun _=>?_|simp [go_sem]))
  refine ACallP.ownsPlain (Clone_owns p.h1 p3) (by simp [go_sem]) ?_
  (repeat (first|with_reducible refine wV fun _=>?_|simp [go_sem]))
  refine ALoop.unroll ?_
  (repeat (first|with_reducible refine wV fun _=>?_|simp [go_sem]))
  unfold Fits at p1 p2 p3
  refine ALoop.start (ALoop.ind (α := Nat × List Int) (fun a => ⟨[(4, .ref 2 0 5 0 0), (5, .ref 14 0 5 0 0), (34, encIs p.at_), (35, .v (.int .i64 p.at_.length)), (36, .v (.int .i64 a.1))],
      [(2, .rows true 0 5 [[.v (.slice none 0 0), .v (.slice none 0 0), .v (.slice none 0 0), .v (.int .i64 0), .v (.int .i64 0)]]), (8, .rows true 0 1 (a.2.map encI)),
       (14, .rows true 0 5 [[.sl 8 0 1 0 (1 + 2 * g.kinds.length), .sl 16 1 1 0 p.h0.length, .sl 17 1 1 0 p.h1.length, .v (.int .i64 p.rights), .v (.int .i64 p.side)]]), (16, .rows true 1 1 (p.h0.map encI)), (17, .rows true 1 1 (p.h1.map encI))], 18⟩)
    (fun d a => a.1 + d = p.at_.length ∧ a.2.length = 1 + 2 * g.kinds.length ∧ (∀ x ∈ a.2, 0 ≤ x ∧ x ≤ a.1) ∧ (p.at_.drop a.1).foldl bump a.2 = menOf (1 + 2 * g.kinds.length) p.at_) ?_ p.at_.length (0, List.replicate (1 + 2 * g.kinds.length) 0) ?_) ?_ ?_
  · rintro d ⟨j, m⟩ ⟨i1, i2, i3, i4⟩ hrec
    simp only at i1 i2 i3 i4
    (repeat (first|with_reducible refine wV fun _=>?_|simp [go_sem]))
    refine aIf.mkL (fun hj => ?_) (fun hj => ?_) <;> simp at hj
    · (repeat (first|with_reducible refine wV fun _=>?_|simp [go_sem, hj]))
      have hm := hc _ (nth_mem hj)
      rw [drop_cons hj, List.foldl_cons] at i4
      generalize nth p.at_ j = c at *
      have hcl : c.toNat < m.length := by omega
      have hb := i3 _ (nth_mem hcl)
      (repeat (first|with_reducible refine wV fun _=>?_|simp [go_sem, hcl]))
      refine ALoop.start (hrec (d - 1) (by omega) (j + 1, bump m c) ⟨by simp only; omega, by simp only [bump_length]; exact i2, fun x hx => bump_mem i3 hcl hx, i4⟩) ?_ (by simp)
      simp [go_sem, Wk_eq, bump_set]
    · rw [List.drop_eq_nil_of_le hj, List.foldl_nil] at i4
      subst i4
      (repeat (first|with_reducible refine wV fun _=>?_|simp [go_sem]))
      simp [go_sem, Wk_eq, ofP, i2]
  · refine ⟨by simp, by simp, fun x hx => ?_, rfl⟩
    have := (List.mem_replicate.1 hx).2
    omega
  · simp [go_sem, Wk_eq, eK]
  · simp
theorem Of_pure (g : GameD) (hk : g.kinds.length ≤ 400) (p : PosD) (hp : FitsP p) (hc : ∀ c ∈ p.at_, 0 ≤ c ∧ c ≤ 2 * g.kinds.length) :
    Pure Tryz.prog 56 [.agg (encGame g), .agg (encPos p)] (.agg (encPos (ofP g p))) := by
  refine (Of_owns g hk p hp hc).pure ?_ (by simp [go_sem])
  refine .agg (.cons ?_ (.cons ?_ (.cons ?_ (.refl _ _ _ _))))
  · exact frX
  · exact frX
  · exact frX
theorem upd_upd {α : Type} (f : Nat → α) (k : Nat) (x y : α) : upd (upd f k x) k y = upd f k y := by funext j; simp only [upd]; split <;> rfl
theorem bel_Is1 {n : Nat} {l : List Int} : ∀ c ∈ [encIs l], Bel n c := fun c hc => by rcases List.mem_singleton.1 hc with rfl; exact of_eq_true bel_Is
def takeN (m : List Int) (c : Nat) : Int := if nth m c - 1 < 0 then 0 else ways (m.set c (nth m c - 1))
theorem taker_owns (m : List Int) (hm : Fits m) : Owns Tryz.prog 168 [encIs m] (fun n => .fn (.func 206) [] [.ref (n + 1) 0 1 0 0]) (fun n => [(n + 1, .rows true 0 1 [[.sl n 1 1 0 m.length]]), (n, .rows true 1 1 (m.map encI))]) 2 := by
  refine ⟨ACallP.of_awp (by kernel_rfl) Tryz.func168 rfl rfl (Nat.le_of_ble_eq_true rfl) (by kernel_rfl) ?_, fun n => ⟨by simp [go_sem], by simp [go_sem]⟩⟩
  (repeat (first|with_reducible refine wV fun _=>?_|simp [go_sem]))
  refine ACallP.ownsPlain (Clone_owns m hm) (by simp [go_sem]) ?_
  (repeat (first|with_reducible refine wV fun _=>?_|simp [go_sem]))
  simp [go_sem, Wk_eq]
theorem taker1_call (m : List Int) (hm : m.length ≤ 1000) (hv : ∀ x ∈ m, 0 ≤ x ∧ x ≤ 1000) (c : Nat) (hc : c < m.length) {h : Heap} {n o o2 : Nat} (h1 : h o = some (.rows true 0 1 [[.sl o2 1 1 0 m.length]])) (h2 : h o2 = some (.rows true 1 1 (m.map encI))) (hne : o ≠ o2)
    {K : CallK} (hK : ∀ rs, K (.v (.int .i64 (takeN m c))) (upd h o2 (some (.rows true 1 1 rs))) n) : ACallP Tryz.prog 206 [.v (.int .i64 c), .ref o 0 1 0 0] h n K := by
  refine ACallP.of_awp (by kernel_rfl) Tryz.func206 rfl rfl (Nat.le_of_ble_eq_true rfl) (by kernel_rfl) ?_
  have hb := hv _ (nth_mem hc)
  have hl : c < (m.map encI).length := by simpa using hc
  have hm' : ∀ x ∈ m.set c (nth m c - 1), x ≤ 1000 := by
    intro x hx
    rcases List.mem_or_eq_of_mem_set hx with h | rfl
    · exact (hv x h).2
    · omega
  (repeat (first|with_reducible refine wV fun _=>?_|simp [go_sem, h1, h2, hne, hc]))
  refine aIf.mkL (fun hz => ?_) (fun hz => ?_) <;> simp at hz
  · have e : takeN m c = 0 := by unfold takeN; rw [if_pos hz]
    rw [e] at hK
    (repeat (first|with_reducible refine wV fun _=>?_|simp [go_sem, h1, h2, hne, hc]))
    rw [upd_upd]
    exact hK _
  · have e : takeN m c = ways (m.set c (nth m c - 1)) := by unfold takeN; rw [if_neg (by omega)]
    rw [e] at hK
    (repeat (first|with_reducible refine wV fun _=>?_|simp [go_sem, h1, h2, hne, hc]))
    refine ACallP.flat (ways_pure (m.set c (nth m c - 1)) (by simpa using hm) hm') (.v _) ?_ bel_Is1 ?_
    · refine .cons (leV_frz (upd_same _ _ _) (by simp) (by simp [noH]) ?_) .nil
      simp [List.take_of_length_le, encI]
    · (repeat (first|with_reducible refine wV fun _=>?_|simp [go_sem, h1, h2, hne, hc]))
      exact hK _
theorem bump_comm (m : List Int) (a b : Int) : bump (bump m a) b = bump (bump m b) a := by
  unfold bump
  by_cases h : a.toNat = b.toNat
  · rw [h]
  · refine List.ext_getElem (by simp) fun i h1 h2 => ?_
    simp only [List.length_set] at h1
    simp only [List.getElem_set, nth, List.getD_eq_getElem?_getD, List.getElem?_set]
    by_cases e1 : a.toNat = i <;> by_cases e2 : b.toNat = i
    · omega
    · subst e1; simp [e2, Ne.symm e2, h]
    · subst e2; simp [e1, h]
    · simp [e1, e2]
theorem foldl_bump_bump (l : List Int) (m : List Int) (c : Int) : l.foldl bump (bump m c) = bump (l.foldl bump m) c := by
  induction l generalizing m with
  | nil => rfl
  | cons x l ih => rw [List.foldl_cons, List.foldl_cons, bump_comm, ih]
theorem menOf_cons (K : Nat) (c : Int) (l : List Int) : menOf K (c :: l) = bump (menOf K l) c := by rw [menOf, List.foldl_cons, foldl_bump_bump]; rfl
theorem foldl_bump_length (l : List Int) (m : List Int) : (l.foldl bump m).length = m.length := by
  induction l generalizing m with
  | nil => rfl
  | cons x l ih => rw [List.foldl_cons, ih, bump_length]
theorem menOf_length (K : Nat) (l : List Int) : (menOf K l).length = K := by rw [menOf, foldl_bump_length]; simp
theorem set_bump {m : List Int} {c : Int} (h : c.toNat < m.length) : (bump m c).set c.toNat (nth (bump m c) c.toNat - 1) = m := by
  have e : nth (bump m c) c.toNat = nth m c.toNat + 1 := by simp [bump, nth_set_self h]
  rw [e, bump, List.set_set, Int.add_sub_cancel, nth_eq _ _ h, List.set_getElem_self]
theorem menOf_mem {K : Nat} : ∀ {l : List Int}, (∀ c ∈ l, c.toNat < K) → ∀ x ∈ menOf K l, 0 ≤ x ∧ x ≤ l.length
  | [], _, x, hx => by
    have := (List.mem_replicate.1 (show x ∈ List.replicate K 0 from hx)).2
    subst this; simp
  | c :: l, h, x, hx => by
    rw [menOf_cons] at hx
    exact bump_mem (menOf_mem fun c hc => h c (by simp [hc])) (by rw [menOf_length]; exact h c (by simp)) hx
theorem wgo_nonneg : ∀ (r : Nat) (i out n : Int) (o m : Int), 0 ≤ i → 0 ≤ out → 0 ≤ n → wgo r i out n = some (o, m) → 0 ≤ o ∧ 0 ≤ m
  | 0, i, out, n, o, m, _, h1, h2, h => by simp only [wgo, Option.some.injEq, Prod.mk.injEq] at h; obtain ⟨rfl, rfl⟩ := h; exact ⟨h1, h2⟩
  | r + 1, i, out, n, o, m, h0, h1, h2, h => by
    rw [wgo] at h
    split at h
    · cases h
    · exact wgo_nonneg r (i + 1) _ (n + 1) o m (by omega) (Int.ediv_nonneg (Int.mul_nonneg h1 (by omega)) h0) (by omega) h
theorem wall_nonneg : ∀ (l : List Int) (out n o : Int), 0 ≤ out → 0 ≤ n → wall l out n = some o → 0 ≤ o
  | [], out, n, o, h1, _, h => by simp only [wall, Option.some.injEq] at h; omega
  | k :: l, out, n, o, h1, h2, h => by
    simp only [wall] at h
    split at h
    · cases h
    · rename_i o' m' hw
      have := wgo_nonneg _ _ _ _ _ _ (by omega) h1 h2 hw
      exact wall_nonneg l o' m' o this.1 this.2 h
theorem ways_bound (l : List Int) : 0 ≤ ways l ∧ ways l ≤ 1099511627777 := by
  unfold ways big
  split
  · omega
  · rename_i o h
    have := wall_nonneg l 1 0 o (by omega) (by omega) h
    omega
theorem takeN_bound (m : List Int) (c : Nat) : 0 ≤ takeN m c ∧ takeN m c ≤ 1099511627777 := by
  unfold takeN
  split
  · omega
  · exact ways_bound _
def lessN (m : List Int) : Nat → Int
  | 0 => 0
  | c + 1 => lessN m c + takeN m c
theorem lessN_bound {m : List Int} (_ : ∀ x ∈ m, 0 ≤ x) : ∀ x : Nat, 0 ≤ lessN m x ∧ lessN m x ≤ 1099511627777 * x
  | 0 => by simp [lessN]
  | x + 1 => by
    have h1 := lessN_bound ‹_› x
    have h2 := takeN_bound m x
    simp only [lessN]
    omega
def rankN : List Int → List Int → Int
  | _, [] => 0
  | m, c :: p => lessN m c.toNat + rankN (m.set c.toNat (nth m c.toNat - 1)) p
def rankOf (g : GameD) (p : PosD) : Int × Int := if posOk g p = false then (0, 40) else if (sizeOf_ g (ofP g p)).2 ≠ 0 then (0, (sizeOf_ g (ofP g p)).2) else (rankN (ofP g p).at_ p.at_, 0)
theorem Rank_pure (g : GameD) (hg : FitsG g) (hr : FitsR g) (h64 : g.cells ≤ 64) (hk : g.kinds.length ≤ 400) (p : PosD) (hp : FitsP p) :
    Pure Tryz.prog 111 [.agg (encGame g), .agg (encPos p)] (.tup [.v (.int .i64 (rankOf g p).1), .v (.int .i64 (rankOf g p).2)]) := by
  refine pF Tryz.func111 ?_
  (repeat (first|with_reducible refine wV fun _=>?_|simp [go_sem]))
  refine ACallP.plain (Valid_pure g hg hr p hp) (by simp [go_sem]) ?_
  (repeat (first|with_reducible refine wV fun _=>?_|simp [go_sem]))
  refine aIf.mkL (fun hv => ?_) (fun hv => ?_) <;> simp at hv
  · have e : rankOf g p = (0, 40) := by unfold rankOf; rw [if_pos hv]
    rw [e]
    (repeat (first|with_reducible refine wV fun _=>?_|simp [go_sem]))
  · have hc : ∀ c ∈ p.at_, 0 ≤ c ∧ c ≤ 2 * g.kinds.length := by
      intro c hc
      simp [posOk] at hv
      have := hv.1.1.1.1.1.2 c hc
      simpa [contOk] using this
    have hl : p.at_.length ≤ 64 := by simp [posOk] at hv; omega
    (repeat (first|with_reducible refine wV fun _=>?_|simp [go_sem]))
    refine ACallP.ownsPlain (Of_owns g hk p hp hc) (by simp [go_sem]) ?_
    (repeat (first|with_reducible refine wV fun _=>?_|simp [go_sem]))
    have hK : (menOf (1 + 2 * g.kinds.length) p.at_).length = 1 + 2 * g.kinds.length := menOf_length _ _
    refine ACallP.flat (args' := [.agg (encGame g), .agg (encPos (ofP g p))]) (Size_pure g hg hr h64 hk (ofP g p) (by simp [ofP, hK]; omega) hp.2.1 hp.2.2) (.tup (by intro x hx; simp at hx; rcases hx with rfl | rfl <;> exact .v _)) ?_ (by simp [go_sem]) ?_
    · simp only [encPos, encGame, encIs, List.nil_append, List.append_nil, List.cons_append]
      refine LeRow.cons (LeV.refl _) (LeRow.cons (LeV.agg (LeRow.cons ?_ (LeRow.cons ?_ (LeRow.cons ?_ (LeRow.refl _ _ _ _))))) LeRow.nil)
      · exact frX
      · exact frX
      · exact frX
    · (repeat (first|with_reducible refine wV fun _=>?_|simp [go_sem]))
      refine aIf.mkL (fun hs => ?_) (fun hs => ?_) <;> simp at hs
      · have e : rankOf g p = (0, (sizeOf_ g (ofP g p)).2) := by unfold rankOf; rw [if_neg (by simp [hv]), if_pos hs]
        rw [e]
        (repeat (first|with_reducible refine wV fun _=>?_|simp [go_sem]))
      · have e : rankOf g p = (rankN (ofP g p).at_ p.at_, 0) := by unfold rankOf; rw [if_neg (by simp [hv]), if_neg (by simp [hs])]
        rw [e]
        generalize hq : ofP g p = q at *
        have hqa : q.at_ = menOf (1 + 2 * g.kinds.length) p.at_ := by rw [← hq]; rfl
        (repeat (first|with_reducible refine wV fun _=>?_|simp [go_sem]))
        refine ALoop.start (ALoop.ind (α := Nat × Int) (fun a => ⟨[(6, .ref 20 0 5 0 0), (9, .v (.int .i64 a.2)), (30, encIs p.at_), (31, .v (.int .i64 p.at_.length)), (32, .v (.int .i64 a.1))],
            [(10, .rows true 0 1 ((menOf (1 + 2 * g.kinds.length) (p.at_.drop a.1)).map encI)), (18, .rows true 1 1 (q.h0.map encI)), (19, .rows true 1 1 (q.h1.map encI)),
             (20, .rows true 0 5 [[.sl 10 0 1 0 (1 + 2 * g.kinds.length), .sl 18 1 1 0 q.h0.length, .sl 19 1 1 0 q.h1.length, .v (.int .i64 q.rights), .v (.int .i64 q.side)]])], 21⟩)
          (fun d a => a.1 + d = p.at_.length ∧ 0 ≤ a.2 ∧ a.2 ≤ 879609302221600 * a.1 ∧ rankN q.at_ p.at_ = a.2 + rankN (menOf (1 + 2 * g.kinds.length) (p.at_.drop a.1)) (p.at_.drop a.1)) ?_ p.at_.length (0, 0) ?_) ?_ ?_
        · rintro d ⟨j, n⟩ ⟨i1, i2, i3, i4⟩ hrec
          simp only at i1 i2 i3 i4
          (repeat (first|with_reducible refine wV fun _=>?_|simp [go_sem]))
          refine aIf.mkL (fun hj => ?_) (fun hj => ?_) <;> simp at hj
          · (repeat (first|with_reducible refine wV fun _=>?_|simp [go_sem, hj]))
            have hcj := hc _ (nth_mem hj)
            have hdc := drop_cons hj
            have hcK : ∀ y ∈ p.at_.drop (j + 1), y.toNat < 1 + 2 * g.kinds.length := fun y hy => by have := hc y (List.mem_of_mem_drop hy); omega
            have hdl : (p.at_.drop (j + 1)).length = p.at_.length - (j + 1) := List.length_drop
            generalize nth p.at_ j = c at *
            generalize hrest : p.at_.drop (j + 1) = rest at *
            rw [hdc] at i4
            have hM := menOf_cons (1 + 2 * g.kinds.length) c rest
            have hml := menOf_length (1 + 2 * g.kinds.length) (c :: rest)
            have hmem : ∀ x ∈ menOf (1 + 2 * g.kinds.length) (c :: rest), 0 ≤ x ∧ x ≤ (c :: rest).length := menOf_mem (fun y hy => (List.mem_cons.1 hy).elim (fun h => by rw [h]; omega) (fun h => hcK y h))
            rw [hdc]
            have hsb := set_bump (m := menOf (1 + 2 * g.kinds.length) rest) (c := c) (by rw [menOf_length]; omega)
            rw [← hM] at hsb
            simp only [rankN] at i4
            rw [hsb] at i4
            generalize menOf (1 + 2 * g.kinds.length) (c :: rest) = m at *
            simp only [List.length_cons] at hmem
            have hm1 : ∀ x ∈ m, 0 ≤ x ∧ x ≤ 1000 := fun x hx => by have := hmem x hx; omega
            refine ALoop.start (ALoop.ind (α := Nat × Int) (fun a => ⟨[(6, .ref 20 0 5 0 0), (9, .v (.int .i64 a.2)), (11, .v (.int .i64 c)), (30, encIs p.at_), (31, .v (.int .i64 p.at_.length)), (32, .v (.int .i64 j)), (36, .v (.int .i64 c)), (37, .v (.int .i64 a.1))],
                [(10, .rows true 0 1 (m.map encI)), (18, .rows true 1 1 (q.h0.map encI)), (19, .rows true 1 1 (q.h1.map encI)),
                 (20, .rows true 0 5 [[.sl 10 0 1 0 (1 + 2 * g.kinds.length), .sl 18 1 1 0 q.h0.length, .sl 19 1 1 0 q.h1.length, .v (.int .i64 q.rights), .v (.int .i64 q.side)]])], 21⟩)
              (fun r a => a.1 + r = c.toNat ∧ a.2 = n + lessN m a.1) ?_ c.toNat (0, n) ?_) ?_ ?_
            · rintro r ⟨x, n'⟩ ⟨j1, j2⟩ hrec2
              simp only at j1 j2
              have hlb := lessN_bound (m := m) (fun x hx => (hm1 x hx).1) x
              (repeat (first|with_reducible refine wV fun _=>?_|simp [go_sem]))
              refine aIf.mkL (fun hx => ?_) (fun hx => ?_) <;> simp at hx
              · (repeat (first|with_reducible refine wV fun _=>?_|simp [go_sem]))
                refine ACallP.ownsN (taker_owns m (by unfold Fits; omega)) (by simp [go_sem]) (by simp [go_sem]) ?_ bel_Is1 ?_
                · refine LeRow.cons ?_ LeRow.nil
                  refine leV_frz (mt := true) (rs := m.map encI) (by simp [upd]) (by simp [hml]) (by simp [noH, upd]) (by simp [List.take_of_length_le, hml])
                · (repeat (first|with_reducible refine wV fun _=>?_|simp [go_sem]))
                  have hxc : x < m.length := by omega
                  have hlb2 := lessN_bound (m := m) (fun x hx => (hm1 x hx).1) (x + 1)
                  rw [lessN] at hlb2
                  refine taker1_call m (by omega) hm1 x hxc (o := 22) (o2 := 21) (by simp [upd]) (by simp [upd]) (by decide) (fun rs => ?_)
                  generalize htk : takeN m x = tk at *
                  (repeat (first|with_reducible refine wV fun _=>?_|simp [go_sem]))
                  refine ALoop.start (hrec2 (r - 1) (by omega) (x + 1, n' + tk) ⟨by simp only; omega, by simp only [lessN, htk]; omega⟩) ?_ (by simp)
                  simp [go_sem, Wk_eq]
              · have hxc : x = c.toNat := by omega
                subst hxc
                have hcl : c.toNat < m.length := by omega
                have hcm := hm1 _ (nth_mem hcl)
                have hset : (m.map encI).set c.toNat [.v (.int .i64 (nth m c.toNat - 1))] = (menOf (1 + 2 * g.kinds.length) rest).map encI := by rw [← hsb, List.map_set]; rfl
                (repeat (first|with_reducible refine wV fun _=>?_|simp [go_sem, hcl]))
                refine ALoop.start (hrec (d - 1) (by omega) (j + 1, n') ⟨by simp only; omega, by simp only; omega, by simp only; omega, by simp only [hrest]; omega⟩) ?_ (by simp)
                simp [go_sem, Wk_eq, hset, hrest]
            · exact ⟨by simp, by simp [lessN]⟩
            · simp [go_sem, Wk_eq]
            · simp
          · rw [List.drop_eq_nil_of_le hj, rankN] at i4
            rw [i4]
            (repeat (first|with_reducible refine wV fun _=>?_|simp [go_sem]))
        · exact ⟨by simp, by simp, by simp, by simp [hqa]⟩
        · simp [go_sem, Wk_eq, hqa, hK]
        · simp
end Go.Av
end
section
/- Contracts, part 8: index.At. -/
open Go Go.Proofs
namespace Go.Av
def findA (m : List Int) : Nat → Nat → Int → Option Nat × Int
  | 0, _, i => (none, i)
  | f + 1, x, i => if i < takeN m x then (some x, i) else findA m f (x + 1) (i - takeN m x)
def atL : Nat → List Int → Int → List Int
  | 0, _, _ => []
  | n + 1, m, i => match findA m m.length 0 i with
    | (some x, i') => (x : Int) :: atL n (m.set x (nth m x - 1)) i'
    | (none, i') => atL n m i'
def zeroP : PosD := ⟨[], [], [], 0, 0⟩
def atOf (g : GameD) (m : PosD) (i : Int) : PosD × Int :=
  if (sizeOf_ g m).2 ≠ 0 then (zeroP, (sizeOf_ g m).2) else if i < 0 ∨ (sizeOf_ g m).1 ≤ i then (zeroP, 140) else ({ m with at_ := atL g.cells.toNat m.at_ i }, 0)
theorem sizeOf_ok {g : GameD} {m : PosD} (h : (sizeOf_ g m).2 = 0) : matOk g m = true ∧ (sizeOf_ g m).1 = ways m.at_ := by
  unfold sizeOf_ at h ⊢
  split at h
  · simp at h
  · split at h
    · simp at h
    · rename_i h1 h2
      rw [if_neg h1, if_neg h2]
      exact ⟨by simpa using h1, rfl⟩
theorem At_pure (g : GameD) (hg : FitsG g) (hr : FitsR g) (h64 : g.cells ≤ 64) (hk : g.kinds.length ≤ 400) (m : PosD) (hm : m.at_.length ≤ 9223372036854775807) (h0 : Fits m.h0) (h1 : Fits m.h1) (i : Int) :
    Pure Tryz.prog 112 [.agg (encGame g), .agg (encPos m), .v (.int .i64 i)] (.tup [.agg (encPos (atOf g m i).1), .v (.int .i64 (atOf g m i).2)]) := by
  refine pF Tryz.func112 ?_
  (repeat (first|with_reducible refine wV fun _=>?_|simp [go_sem]))
  refine ACallP.plain (Size_pure g hg hr h64 hk m hm h0 h1) (by simp [go_sem]) ?_
  (repeat (first|with_reducible refine wV fun _=>?_|simp [go_sem]))
  refine aIf.mkL (fun hs => ?_) (fun hs => ?_) <;> simp at hs
  · have e : atOf g m i = (zeroP, (sizeOf_ g m).2) := by unfold atOf; rw [if_pos hs]
    rw [e]
    (repeat (first|with_reducible refine wV fun _=>?_|simp [go_sem, zeroP]))
  · obtain ⟨hmo, hsz⟩ := sizeOf_ok hs
    have hwb := ways_bound m.at_
    (repeat (first|with_reducible refine wV fun _=>?_|simp [go_sem]))
    refine aIf.mkL (fun hi => ?_) (fun hi => ?_) <;> simp at hi
    · have e : atOf g m i = (zeroP, 140) := by unfold atOf; rw [if_neg (by simp [hs]), if_pos hi]
      rw [e]
      (repeat (first|with_reducible refine wV fun _=>?_|simp [go_sem, zeroP]))
    · have e : atOf g m i = ({ m with at_ := atL g.cells.toNat m.at_ i }, 0) := by unfold atOf; rw [if_neg (by simp [hs]), if_neg (by omega)]
      rw [e]
      (repeat (first|with_reducible refine wV fun _=>?_|simp [go_sem]))
      refine ALoop.unroll ?_
      (repeat (first|with_reducible refine wV fun _=>?_|simp [go_sem]))
      refine ACallP.ownsPlain (Clone_owns m.h0 h0) (by simp [go_sem]) ?_
      (repeat (first|with_reducible refine wV fun _=>?_|simp [go_sem]))
      refine ALoop.unroll ?_
      (repeat (first|with_reducible refine wV fun _=>?_|simp [go_sem]))
      refine ACallP.ownsPlain (Clone_owns m.h1 h1) (by simp [go_sem]) ?_
      (repeat (first|with_reducible refine wV fun _=>?_|simp [go_sem]))
      refine ALoop.unroll ?_
      (repeat (first|with_reducible refine wV fun _=>?_|simp [go_sem]))
      have hml : (m.at_.length : Int) = 1 + 2 * g.kinds.length ∧ ∀ k ∈ m.at_, 0 ≤ k ∧ k ≤ 64 := by
        unfold matOk at hmo
        simp at hmo
        exact ⟨hmo.1.1, fun k hk => by have := hmo.1.2 k hk; simp [oddN] at this; omega⟩
      obtain ⟨hml, hmv⟩ := hml
      refine ACallP.ownsPlain (Clone_owns m.at_ (by unfold Fits; omega)) (by simp [go_sem]) ?_
      (repeat (first|with_reducible refine wV fun _=>?_|simp [go_sem]))
      generalize hK : m.at_.length = K at *
      refine ALoop.start (ALoop.ind (α := Nat × Int × List Int × List Int) (fun a => ⟨[(2, .v (.int .i64 a.2.1)), (6, .ref 2 0 5 0 0), (10, .ref 3 0 5 0 0), (13, .sl 6 1 1 0 K), (56, .v (.int .i64 g.cells)), (57, .v (.int .i64 a.1))],
          [(2, .rows true 0 5 [[.v (.slice none 0 0), .v (.slice none 0 0), .v (.slice none 0 0), .v (.int .i64 0), .v (.int .i64 0)]]),
           (3, .rows true 0 5 [[.sl 7 a.2.2.2.length 1 0 a.2.2.2.length, .sl 4 1 1 0 m.h0.length, .sl 5 1 1 0 m.h1.length, .v (.int .i64 m.rights), .v (.int .i64 m.side)]]),
           (4, .rows true 1 1 (m.h0.map encI)), (5, .rows true 1 1 (m.h1.map encI)), (6, .rows true 1 1 (a.2.2.1.map encI)), (7, .rows true a.2.2.2.length 1 (a.2.2.2.map encI))], 8⟩)
        (fun d a => a.1 + d = g.cells.toNat ∧ 0 ≤ a.2.1 ∧ a.2.1 ≤ 1099511627777 ∧ a.2.2.1.length = K ∧ (∀ x ∈ a.2.2.1, 0 ≤ x ∧ x ≤ 1000) ∧ a.2.2.2 ++ atL d a.2.2.1 a.2.1 = atL g.cells.toNat m.at_ i ∧ a.2.2.2.length ≤ a.1) ?_ g.cells.toNat (0, i, m.at_, []) ?_) ?_ ?_
      · rintro d ⟨c, i0, men, out⟩ ⟨i1, i2, i3, i4, i5, i6, i7⟩ hrec
        simp only at i1 i2 i3 i4 i5 i6 i7
        (repeat (first|with_reducible refine wV fun _=>?_|simp [go_sem]))
        refine aIf.mkL (fun hc => ?_) (fun hc => ?_) <;> simp at hc
        · obtain ⟨d, rfl⟩ : ∃ d', d = d' + 1 := ⟨d - 1, by omega⟩
          rw [atL, i4] at i6
          (repeat (first|with_reducible refine wV fun _=>?_|simp [go_sem]))
          refine ALoop.start (ALoop.ind (α := Nat × Int) (fun a => ⟨[(2, .v (.int .i64 a.2)), (6, .ref 2 0 5 0 0), (10, .ref 3 0 5 0 0), (13, .sl 6 1 1 0 K), (56, .v (.int .i64 g.cells)), (57, .v (.int .i64 c)), (60, .v (.int .i64 K)), (61, .v (.int .i64 a.1))],
              [(2, .rows true 0 5 [[.v (.slice none 0 0), .v (.slice none 0 0), .v (.slice none 0 0), .v (.int .i64 0), .v (.int .i64 0)]]),
               (3, .rows true 0 5 [[.sl 7 out.length 1 0 out.length, .sl 4 1 1 0 m.h0.length, .sl 5 1 1 0 m.h1.length, .v (.int .i64 m.rights), .v (.int .i64 m.side)]]),
               (4, .rows true 1 1 (m.h0.map encI)), (5, .rows true 1 1 (m.h1.map encI)), (6, .rows true 1 1 (men.map encI)), (7, .rows true out.length 1 (out.map encI))], 8⟩)
            (fun r a => a.1 + r = K ∧ 0 ≤ a.2 ∧ a.2 ≤ 1099511627777 ∧ findA men K 0 i0 = findA men r a.1 a.2) ?_ K (0, i0) ?_) ?_ ?_
          · rintro r ⟨x, j⟩ ⟨j1, j2, j3, j4⟩ hrec2
            simp only at j1 j2 j3 j4
            (repeat (first|with_reducible refine wV fun _=>?_|simp [go_sem]))
            refine aIf.mkL (fun hx => ?_) (fun hx => ?_) <;> simp at hx
            · obtain ⟨r, rfl⟩ : ∃ r', r = r' + 1 := ⟨r - 1, by omega⟩
              rw [findA] at j4
              have hxc : x < men.length := by omega
              have htb := takeN_bound men x
              (repeat (first|with_reducible refine wV fun _=>?_|simp [go_sem]))
              refine ACallP.ownsN (taker_owns men (by unfold Fits; omega)) (by simp [go_sem]) (by simp [go_sem]) ?_ bel_Is1 ?_
              · refine LeRow.cons ?_ LeRow.nil
                exact leV_frz (mt := true) (rs := men.map encI) (by simp [upd]) (by simp [i4]) (by simp [noH, upd]) (by simp [List.take_of_length_le, i4])
              · (repeat (first|with_reducible refine wV fun _=>?_|simp [go_sem]))
                refine taker1_call men (by omega) i5 x hxc (o := 9) (o2 := 8) (by simp [upd]) (by simp [upd]) (by decide) (fun rs => ?_)
                have htn : 0 < takeN men x → 1 ≤ nth men x := by intro h; unfold takeN at h; split at h <;> omega
                generalize htk : takeN men x = tk at *
                (repeat (first|with_reducible refine wV fun _=>?_|simp [go_sem]))
                refine aIf.mkL (fun hlt => ?_) (fun hlt => ?_) <;> simp at hlt
                · rw [if_pos hlt] at j4
                  rw [j4] at i6
                  simp only at i6
                  have := htn (by omega)
                  have hb := i5 _ (nth_mem hxc)
                  (repeat (first|with_reducible refine wV fun _=>?_|simp [go_sem, hxc]))
                  refine ALoop.start (hrec d (by omega) (c + 1, j, men.set x (nth men x - 1), out ++ [(x : Int)]) ⟨by simp only; omega, j2, j3, by simpa using i4, fun y hy => ?_, by simpa using i6, by simp; omega⟩) ?_ (by simp)
                  · rcases List.mem_or_eq_of_mem_set hy with h | rfl
                    · exact i5 y h
                    · omega
                  · simp [go_sem, Wk_eq]
                    refine ⟨?_, ?_⟩
                    · (first|done|exact blX)
                    · (first|done|exact blX)
                · rw [if_neg (by omega)] at j4
                  (repeat (first|with_reducible refine wV fun _=>?_|simp [go_sem]))
                  refine ALoop.start (hrec2 r (by omega) (x + 1, j - tk) ⟨by simp only; omega, by simp only; omega, by simp only; omega, j4⟩) ?_ (by simp)
                  simp [go_sem, Wk_eq]
            · have : r = 0 := by omega
              subst this
              rw [findA] at j4
              rw [j4] at i6
              simp only at i6
              (repeat (first|with_reducible refine wV fun _=>?_|simp [go_sem]))
              refine ALoop.start (hrec d (by omega) (c + 1, j, men, out) ⟨by simp only; omega, j2, j3, i4, i5, i6, by simp only; omega⟩) ?_ (by simp)
              simp [go_sem, Wk_eq]
          · exact ⟨by simp, i2, i3, rfl⟩
          · simp [go_sem, Wk_eq]
          · simp
        · have : d = 0 := by omega
          subst this
          rw [atL, List.append_nil] at i6
          subst i6
          (repeat (first|with_reducible refine wV fun _=>?_|simp [go_sem]))
          refine ⟨?_, ?_, ?_⟩
          · exact frX
          · exact frX
          · exact frX
      · exact ⟨by simp, hi.1, by simp only; omega, hK, fun x hx => by have := hmv x hx; omega, by simp, by simp⟩
      · simp [go_sem, Wk_eq]
      · simp
end Go.Av
end
section
/- Contracts, part 9: Blank, place; the fixed examples of chapter 14. -/
open Go Go.Proofs
namespace Go.Av
def blankK (kinds : Int) (k : Nat) : KindD := ⟨strOf [97 + k], [], decide ((k : Int) = kinds - 1)⟩
def blankG (cells kinds : Nat) : GameD := ⟨cells, [List.replicate cells (-1)], [0], (List.range kinds).map (blankK kinds), 2, false, [], 3, 2⟩
theorem Blank_pure (cells kinds : Nat) (h1 : cells ≤ 1000) (h2 : kinds ≤ 100) : Pure Tryz.prog 108 [.v (.int .i64 cells), .v (.int .i64 kinds)] (.agg (encGame (blankG cells kinds))) := by
  refine pF Tryz.func108 ?_
  (repeat (first|with_reducible refine wV fun _=>?_|simp [go_sem]))
  refine ALoop.start (ALoop.ind (α := Nat) (fun j => ⟨[(0, .v (.int .i64 cells)), (1, .v (.int .i64 kinds)), (4, .ref 0 0 9 0 0), (5, .ref 4 0 9 0 0), (6, .v (.int .i64 j))],
      [(0, .rows true 0 9 [[.v (.int .i64 0), .v (.slice none 0 0), .v (.slice none 0 0), .v (.slice none 0 0), .v (.int .i64 0), .v (.bool false), .v (.slice none 0 0), .v (.int .i64 0), .v (.int .i64 0)]]), (1, .rows true 0 1 ((List.replicate j (-1) ++ List.replicate (cells - j) 0).map encI)), (2, .rows true 0 1 [[.sl 1 0 1 0 cells]]), (3, .rows true 0 1 [[.v (.int .i64 0)]]),
       (4, .rows true 0 9 [[.v (.int .i64 cells), .sl 2 0 1 0 1, .sl 3 0 1 0 1, .v (.slice none 0 0), .v (.int .i64 2), .v (.bool false), .v (.slice none 0 0), .v (.int .i64 3), .v (.int .i64 2)]])], 5⟩)
    (fun d j => j + d = cells) ?_ cells 0 ?_) ?_ ?_
  · rintro d j i1 hrec
    have hjl : (List.replicate j (-1 : Int) ++ List.replicate (cells - j) 0).length = cells := by simp; omega
    have hset : (List.replicate j (-1 : Int) ++ List.replicate (cells - j) 0).set j (-1) = List.replicate (j + 1) (-1) ++ List.replicate (cells - (j + 1)) 0 ∨ cells ≤ j := by
      rcases Nat.lt_or_ge j cells with h | h
      · refine .inl ?_
        rw [List.set_append_right _ _ (by simp)]
        simp only [List.length_replicate, Nat.sub_self]
        obtain ⟨t, ht⟩ : ∃ t, cells - j = t + 1 := ⟨cells - j - 1, by omega⟩
        rw [ht, show cells - (j + 1) = t by omega, List.replicate_succ, List.set_cons_zero, List.replicate_succ' , List.append_assoc]; rfl
      · exact .inr h
    generalize hL : (List.replicate j (-1 : Int) ++ List.replicate (cells - j) 0) = L at *
    (repeat (first|with_reducible refine wV fun _=>?_|simp [go_sem]))
    refine aIf.mkL (fun hj => ?_) (fun hj => ?_) <;> simp at hj
    · replace hset := hset.resolve_right (by omega)
      (repeat (first|with_reducible refine wV fun _=>?_|simp [go_sem, hjl]))
      refine ALoop.start (hrec (d - 1) (by omega) (j + 1) (by omega)) ?_ (by simp)
      have hrow : (L.map encI).set j [.v (.int .i64 (-1))] = ((List.replicate (j + 1) (-1 : Int) ++ List.replicate (cells - (j + 1)) 0)).map encI := by rw [← hset, List.map_set]; rfl
      generalize hL2 : (List.replicate (j + 1) (-1 : Int) ++ List.replicate (cells - (j + 1)) 0) = L2 at *
      simp [go_sem, Wk_eq, hrow]
    · have hjc : j = cells := by omega
      subst hjc
      rw [Nat.sub_self, List.replicate_zero, List.append_nil] at hL
      (repeat (first|with_reducible refine wV fun _=>?_|simp [go_sem]))
      refine ALoop.start (ALoop.ind (α := Nat) (fun k => ⟨[(1, .v (.int .i64 kinds)), (4, .ref 0 0 9 0 0), (5, .ref 4 0 9 0 0), (7, .v (.int .i64 k))],
          [(0, .rows true 0 9 [[.v (.int .i64 0), .v (.slice none 0 0), .v (.slice none 0 0), .v (.slice none 0 0), .v (.int .i64 0), .v (.bool false), .v (.slice none 0 0), .v (.int .i64 0), .v (.int .i64 0)]]), (1, .rows true 0 1 (L.map encI)), (2, .rows true 0 1 [[.sl 1 0 1 0 j]]), (3, .rows true 0 1 [[.v (.int .i64 0)]]),
           (4, .rows true 0 9 [[.v (.int .i64 j), .sl 2 0 1 0 1, .sl 3 0 1 0 1, .sl 5 k 3 0 k, .v (.int .i64 2), .v (.bool false), .v (.slice none 0 0), .v (.int .i64 3), .v (.int .i64 2)]]),
           (5, .rows true k 3 (((List.range k).map (blankK kinds)).map encKind))], 6⟩)
        (fun d k => k + d = kinds) ?_ kinds 0 ?_) ?_ ?_
      · rintro d k i2 hrec2
        have hkl : ((List.range k).map (blankK kinds)).length = k := by simp
        have hks : (List.range (k + 1)).map (blankK kinds) = (List.range k).map (blankK kinds) ++ [blankK kinds k] := by rw [List.range_succ, List.map_append]; rfl
        generalize hL3 : (List.range k).map (blankK kinds) = L3 at *
        (repeat (first|with_reducible refine wV fun _=>?_|simp [go_sem]))
        refine aIf.mkL (fun hk => ?_) (fun hk => ?_) <;> simp at hk
        · have hoc : ∀ s : ByteArray, (Value.string s).oneCell' = true := fun _ => rfl
          (repeat (first|with_reducible refine wV fun _=>?_|simp [go_sem, hkl, hoc]))
          refine ALoop.start (hrec2 (d - 1) (by omega) (k + 1) (by omega)) ?_ (by simp)
          simp [go_sem, Wk_eq, hks]
          have em : ((97 : Int) + k).emod 256 = 97 + k := Int.emod_eq_of_lt (by omega) (by omega)
          have em2 : ((97 : Int) + k) % 256 = 97 + k := em
          try simp only [em, em2]
          have e1 : List.map (encKind ∘ blankK kinds) (List.range k) = L3.map encKind := by rw [← List.map_map, hL3]
          rw [e1]
          refine ⟨leRows_append (.refl _) ?_, ?_⟩
          · simp [go_sem, blankK]
          · rintro r (⟨a, _, rfl⟩ | rfl) c hc <;> simp [blankK] at hc <;> rcases hc with rfl | rfl | rfl <;> simp [go_sem]
        · (repeat (first|with_reducible refine wV fun _=>?_|simp [go_sem, blankG]))
          have hkk : k = kinds := by omega
          subst hkk
          refine ⟨?_, ?_, ?_⟩
          · refine LeV.frz rfl ?_ ?_ ?_
            · simp
            · simp [noH]
            · refine LeRows.cons (LeRow.cons ?_ LeRow.nil) LeRows.nil
              refine LeV.frz rfl ?_ ?_ (LeRows.of_eq ?_)
              · simp [hjl]
              · simp [noH]
              · rw [← hL]; simp [encI]
          · refine LeV.frz rfl ?_ ?_ (LeRows.of_eq ?_) <;> simp [noH]
          · refine LeV.frz rfl ?_ ?_ (LeRows.of_eq ?_)
            · simp [hkl]
            · simp [noH]
            · rw [← List.map_map, hL3, List.drop_zero, List.take_of_length_le (by simp [hkl])]
      · simp
      · simp [go_sem, Wk_eq]
      · simp
  · simp
  · simp [go_sem, Wk_eq]
  · simp
theorem place_pure (a b c d : Int) : Pure Tryz.prog 109 [.v (.int .i64 a), .v (.int .i64 b), .v (.int .i64 c), .v (.int .i64 d)] (.agg (encPos ⟨[a, b, c, d], [0], [0], 0, 0⟩)) := by
  refine pF Tryz.func109 ?_
  (repeat (first|with_reducible refine wV fun _=>?_|simp [go_sem]))
  (repeat' (first | (with_reducible apply And.intro) | ((refine LeV.frz rfl ?_ ?_ (LeRows.of_eq ?_)) <;> first | (simp [noH]; done) | (rw [List.drop_zero, List.take_of_length_le (by simp)]))))
end Go.Av
end
section
/- Contracts, part 10: the fixed examples of chapter 14. -/
open Go Go.Proofs
namespace Go.Av
theorem ok14_pure : Pure Tryz.prog 55 [] (.v (.bool true)) := by
 obtain ⟨g, hg⟩ : ∃ g, g = blankG 4 1 := ⟨_, rfl⟩
 have g1 : FitsG g := by subst hg; unfold FitsG; decide
 have g2 : FitsR g := by subst hg; unfold FitsR; decide
 have g3 : g.cells ≤ 64 := by subst hg; decide
 have g4 : g.kinds.length ≤ 400 := by subst hg; decide
 have hB : Pure Tryz.prog 108 [.v (.int .i64 4), .v (.int .i64 1)] (.agg (encGame g)) := by subst hg; exact Blank_pure 4 1 (by omega) (by omega)
 have hf : ∀ a b c d : Int, FitsP ⟨[a, b, c, d], [0], [0], 0, 0⟩ := fun a b c d => ⟨by unfold Fits; simp, by unfold Fits; simp, by unfold Fits; simp⟩
 have hO : Pure Tryz.prog 56 [.agg (encGame g), .agg (encPos ⟨[0, 1, 0, 2], [0], [0], 0, 0⟩)] (.agg (encPos ⟨[2, 1, 1], [0], [0], 0, 0⟩)) := by
  have h := Of_pure g g4 ⟨[0, 1, 0, 2], [0], [0], 0, 0⟩ (hf _ _ _ _) (by subst hg; decide)
  rw [show ofP g ⟨[0, 1, 0, 2], [0], [0], 0, 0⟩ = ⟨[2, 1, 1], [0], [0], 0, 0⟩ by subst hg; rfl] at h
  exact h
 have hSz : ∀ m : PosD, m.at_.length ≤ 9 → m.h0.length ≤ 9 → m.h1.length ≤ 9 → ∀ r : Int × Int, sizeOf_ g m = r → Pure Tryz.prog 110 [.agg (encGame g), .agg (encPos m)] (.tup [.v (.int .i64 r.1), .v (.int .i64 r.2)]) := by
  intro m m1 m2 m3 r hr
  subst hr
  exact Size_pure g g1 g2 g3 g4 m (by omega) (by unfold Fits; omega) (by unfold Fits; omega)
 have hRk : ∀ m : PosD, m.at_.length ≤ 9 → m.h0.length ≤ 9 → m.h1.length ≤ 9 → ∀ r : Int × Int, rankOf g m = r → Pure Tryz.prog 111 [.agg (encGame g), .agg (encPos m)] (.tup [.v (.int .i64 r.1), .v (.int .i64 r.2)]) := by
  intro m m1 m2 m3 r hr
  subst hr
  exact Rank_pure g g1 g2 g3 g4 m ⟨by unfold Fits; omega, by unfold Fits; omega, by unfold Fits; omega⟩
 have hAt : ∀ (m : PosD) (i : Int), m.at_.length ≤ 9 → m.h0.length ≤ 9 → m.h1.length ≤ 9 → ∀ r : PosD × Int, atOf g m i = r → Pure Tryz.prog 112 [.agg (encGame g), .agg (encPos m), .v (.int .i64 i)] (.tup [.agg (encPos r.1), .v (.int .i64 r.2)]) := by
  intro m i m1 m2 m3 r hr
  subst hr
  exact At_pure g g1 g2 g3 g4 m (by omega) (by unfold Fits; omega) (by unfold Fits; omega) i
 have hV : ∀ m : PosD, m.at_.length ≤ 9 → m.h0.length ≤ 9 → m.h1.length ≤ 9 → ∀ r : Bool, matOk g m = r → Pure Tryz.prog 59 [.agg (encGame g), .agg (encPos m)] (.v (.bool r)) := by
  intro m m1 m2 m3 r hr
  subst hr
  exact ixValid_pure g g1 g2 g3 g4 m (by omega) (by unfold Fits; omega) (by unfold Fits; omega)
 have z1 := hSz ⟨[2, 1, 1], [0], [0], 0, 0⟩ (by decide) (by decide) (by decide) (12, 0) (by subst hg; decide +kernel)
 have z2 := hSz zeroP (by decide) (by decide) (by decide) (0, 140) (by subst hg; decide +kernel)
 have r1 := hRk ⟨[0, 0, 1, 2], [0], [0], 0, 0⟩ (by decide) (by decide) (by decide) (0, 0) (by subst hg; decide +kernel)
 have r2 := hRk ⟨[0, 1, 0, 2], [0], [0], 0, 0⟩ (by decide) (by decide) (by decide) (2, 0) (by subst hg; decide +kernel)
 have r3 := hRk ⟨[2, 1, 0, 0], [0], [0], 0, 0⟩ (by decide) (by decide) (by decide) (11, 0) (by subst hg; decide +kernel)
 have r4 := hRk zeroP (by decide) (by decide) (by decide) (0, 40) (by subst hg; decide +kernel)
 have a1 := hAt ⟨[2, 1, 1], [0], [0], 0, 0⟩ 3 (by decide) (by decide) (by decide) (⟨[0, 1, 2, 0], [0], [0], 0, 0⟩, 0) (by subst hg; decide +kernel)
 have a2 := hAt ⟨[2, 1, 1], [0], [0], 0, 0⟩ 12 (by decide) (by decide) (by decide) (zeroP, 140) (by subst hg; decide +kernel)
 have a3 := hAt ⟨[2, 1, 1], [0], [0], 0, 0⟩ (-1) (by decide) (by decide) (by decide) (zeroP, 140) (by subst hg; decide +kernel)
 have v1 := hV ⟨[2, 1, 1], [0], [0], 0, 0⟩ (by decide) (by decide) (by decide) true (by subst hg; decide +kernel)
 have v2 := hV zeroP (by decide) (by decide) (by decide) false (by subst hg; decide +kernel)
 clear hSz hRk hAt hV
 refine pF Tryz.func55 ?_
 (repeat (first|with_reducible refine wV fun _=>?_|simp [go_sem]))
 refine ACallP.plain hB (by simp [go_sem]) ?_
 clear hB
 have hel : (encGame g).length = 9 := rfl
 have hbl : ∀ n, (∀ c ∈ encGame g, Bel n c) = True := fun n => by simp [go_sem]
 clear hg g1 g2 g3 g4
 generalize encGame g = eg at *
 (repeat (first|with_reducible refine wV fun _=>?_|simp [go_sem, hel]))
 refine dCall.plain (place_pure 0 1 0 2) (by simp [go_sem]) ?_
 (repeat (first|with_reducible refine wV fun _=>?_|simp [go_sem, hel]))
 refine dCall.plain hO (by simp [go_sem, hbl]) ?_
 (repeat (first|with_reducible refine wV fun _=>?_|simp [go_sem, hel]))
 refine ACallP.flat (args' := [.agg (encPos ⟨[2, 1, 1], [0], [0], 0, 0⟩), .agg (encPos ⟨[2, 1, 1], [0], [0], 0, 0⟩)]) (Same14_pure _ _ (by unfold FitsP Fits; decide) (by unfold FitsP Fits; decide)) (.v _) ?_ (by simp [go_sem]) ?_
 ·simp only [encPos, encIs, List.nil_append, List.append_nil]
  refine LeRow.cons (.refl _) (LeRow.cons (LeV.agg (LeRow.cons ?_ (LeRow.cons ?_ (LeRow.cons ?_ (LeRow.refl _ _ _ _))))) LeRow.nil) <;> (refine LeV.frz rfl ?_ ?_ (LeRows.of_eq ?_) <;> simp [noH, encI])
 ·(repeat (first|with_reducible refine wV fun _=>?_|simp [go_sem, hel]))
  refine ACallP.plain z1 (by simp [go_sem, hbl]) ?_
  (repeat (first|with_reducible refine wV fun _=>?_|simp [go_sem, hel]))
  refine dCall.plain (place_pure 0 0 1 2) (by simp [go_sem]) ?_
  (repeat (first|with_reducible refine wV fun _=>?_|simp [go_sem, hel]))
  refine dCall.plain r1 (by simp [go_sem, hbl]) ?_
  (repeat (first|with_reducible refine wV fun _=>?_|simp [go_sem, hel]))
  refine dCall.plain (place_pure 0 1 0 2) (by simp [go_sem]) ?_
  (repeat (first|with_reducible refine wV fun _=>?_|simp [go_sem, hel]))
  refine dCall.plain r2 (by simp [go_sem, hbl]) ?_
  (repeat (first|with_reducible refine wV fun _=>?_|simp [go_sem, hel]))
  refine dCall.plain (place_pure 2 1 0 0) (by simp [go_sem]) ?_
  (repeat (first|with_reducible refine wV fun _=>?_|simp [go_sem, hel]))
  refine dCall.plain r3 (by simp [go_sem, hbl]) ?_
  (repeat (first|with_reducible refine wV fun _=>?_|simp [go_sem, hel]))
  refine ACallP.plain a1 (by simp [go_sem, hbl]) ?_
  (repeat (first|with_reducible refine wV fun _=>?_|simp [go_sem, hel]))
  refine ACallP.plain a2 (by simp [go_sem, hbl]) ?_
  (repeat (first|with_reducible refine wV fun _=>?_|simp [go_sem, hel, zeroP]))
  refine ACallP.plain a3 (by simp [go_sem, hbl]) ?_
  (repeat (first|with_reducible refine wV fun _=>?_|simp [go_sem, hel, zeroP]))
  refine ACallP.flat z2 (.tup (by intro x hx; simp at hx; rcases hx with rfl | rfl <;> exact .v _)) ?_ (by simp [go_sem, hbl, zeroP]) ?_
  ·simp [go_sem, zeroP]
  (repeat (first|with_reducible refine wV fun _=>?_|simp [go_sem, hel]))
  refine ACallP.flat r4 (.tup (by intro x hx; simp at hx; rcases hx with rfl | rfl <;> exact .v _)) ?_ (by simp [go_sem, hbl, zeroP]) ?_
  ·simp [go_sem, zeroP]
  (repeat (first|with_reducible refine wV fun _=>?_|simp [go_sem, hel]))
  refine dGC.plain _ (fun _ => place_pure 0 1 2 0) (by simp [go_sem]) ?_
  (repeat (first|with_reducible refine wV fun _=>?_|simp [go_sem, hel]))
  refine dGC.plain _ (fun _ => Compare_pure ⟨[0, 1, 2, 0], [0], [0], 0, 0⟩ ⟨[0, 1, 2, 0], [0], [0], 0, 0⟩ (by unfold FitsP Fits; decide) (by unfold FitsP Fits; decide)) (by simp [go_sem]) ?_
  rw [show cmpP ⟨[0, 1, 2, 0], [0], [0], 0, 0⟩ ⟨[0, 1, 2, 0], [0], [0], 0, 0⟩ = 0 by rfl]
  (repeat (first|with_reducible refine wV fun _=>?_|simp [go_sem, hel]))
  refine dGC.plain _ (fun _ => v1) (by simp [go_sem, hbl]) ?_
  (repeat (first|with_reducible refine wV fun _=>?_|simp [go_sem, hel]))
  refine dGC.flat _ _ [] (fun _ => v2) (.v _) ?_ ?_ ?_
  ·intro h₁ _
   simp [go_sem, zeroP]
  ·simp [go_sem, hbl, zeroP]
  ·(repeat (first|with_reducible refine wV fun _=>?_|simp [go_sem, hel]))
end Go.Av
end
section
/- Contracts, part 14: the reference's Valid, Sorted, Find. -/
open Go Go.Proofs
namespace Go.Av
theorem dropG_cons {α : Type} [Inhabited α] {l : List α} {j : Nat} (h : j < l.length) : l.drop j = nth l j :: l.drop (j + 1) := by rw [List.drop_eq_getElem_cons h, nth_eq _ _ h]
theorem hands_pure (g : GameD) (hg : FitsG g) (l : List Int) (hl : l.length ≤ 9223372036854775807) : Pure Tryz.prog 91 [.agg (encGame g), encIs l] (.v (.bool (handOk g l))) := by
 refine pF Tryz.func91 ?_
 unfold FitsG at hg
 (repeat (first|with_reducible refine wV fun _=>?_|simp [go_sem]))
 refine aIf.mkL (fun hn => ?_) (fun hn => ?_) <;> simp at hn
 ·have e : handOk g l = false := by simp [handOk]; intro h; omega
  rw [e]
  (repeat (first|with_reducible refine wV fun _=>?_|simp [go_sem]))
 ·(repeat (first|with_reducible refine wV fun _=>?_|simp [go_sem]))
  have e : handOk g l = handGo l g.kinds := by simp [handOk]; intro; omega
  rw [e]
  refine ALoop.start (ALoop.ind (α := Nat) (fun j => ⟨[(1, encIs l), (2, .ref 0 0 9 0 0), (5, .v (.int .i64 j))], [(0, .rows true 0 9 [encGame g])], 1⟩)
   (fun d j => j + d = l.length ∧ handGo l g.kinds = handGo (l.drop j) (g.kinds.drop j)) ?_ l.length 0 ?_) ?_ ?_
  ·rintro d j ⟨i1, i2⟩ hrec
   (repeat (first|with_reducible refine wV fun _=>?_|simp [go_sem]))
   refine aIf.mkL (fun hj => ?_) (fun hj => ?_) <;> simp at hj
   ·have hjk : j < g.kinds.length := by omega
    rw [dropG_cons hj, dropG_cons hjk, handGo] at i2
    generalize hR : handGo (List.drop (j + 1) l) (List.drop (j + 1) g.kinds) = R at *
    cases hkp : (nth g.kinds j).keep
    ·rw [hkp] at i2
     (repeat (first|with_reducible refine wV fun _=>?_|simp [go_sem, hj, hjk, hkp]))
     refine aIf.mkL (fun hb => ?_) (fun hb => ?_) <;> simp at hb
     ·have e2 : handGo l g.kinds = false := by rw [i2]; simp; intros; omega
      rw [e2]
      (repeat (first|with_reducible refine wV fun _=>?_|simp [go_sem]))
     ·have e2 : handGo l g.kinds = R := by
       rw [i2]
       simp [show 0 ≤ nth l j by omega, show nth l j ≤ 8 by omega, show ¬ 0 < nth l j by omega]
      (repeat (first|with_reducible refine wV fun _=>?_|simp [go_sem]))
      refine ALoop.start (hrec (d - 1) (by omega) (j + 1) ⟨by omega, by rw [e2, hR]⟩) ?_ (by simp)
      simp [go_sem, Wk_eq]
    ·rw [hkp] at i2
     (repeat (first|with_reducible refine wV fun _=>?_|simp [go_sem, hj, hjk, hkp]))
     refine aIf.mkL (fun hb => ?_) (fun hb => ?_) <;> simp at hb
     ·have e2 : handGo l g.kinds = false := by rw [i2]; simp; intros; omega
      rw [e2]
      (repeat (first|with_reducible refine wV fun _=>?_|simp [go_sem]))
     ·have e2 : handGo l g.kinds = R := by
       rw [i2]
       simp [show 0 ≤ nth l j by omega, show nth l j ≤ 8 by omega]
      (repeat (first|with_reducible refine wV fun _=>?_|simp [go_sem]))
      refine ALoop.start (hrec (d - 1) (by omega) (j + 1) ⟨by omega, by rw [e2, hR]⟩) ?_ (by simp)
      simp [go_sem, Wk_eq]
   ·rw [List.drop_eq_nil_of_le hj, show ∀ ks, handGo [] ks = true from fun ks => by simp [handGo]] at i2
    rw [i2]
    (repeat (first|with_reducible refine wV fun _=>?_|simp [go_sem]))
  ·exact ⟨by simp, rfl⟩
  ·simp [go_sem, Wk_eq]
  ·simp
theorem RValid_pure (g : GameD) (hg : FitsG g) (hr : FitsR g) (p : PosD) (hp : FitsP p) : Pure Tryz.prog 39 [.agg (encGame g), .agg (encPos p)] (.v (.bool (posOk g p))) := by
 refine pF Tryz.func39 ?_
 obtain ⟨p1, p2, p3⟩ := hp
 obtain ⟨r1, r2⟩ := hr
 have hpow : (0 : Int) ≤ 2 ^ g.rights.toNat ∧ (2 : Int) ^ g.rights.toNat ≤ 1152921504606846976 := by
  have h1 : g.rights.toNat ≤ 60 := by omega
  have h2 : (2 : Int) ^ g.rights.toNat ≤ 2 ^ 60 := by have := Nat.pow_le_pow_right (n := 2) (by omega) h1; exact_mod_cast this
  exact ⟨Int.pow_nonneg (by omega), by simpa using h2⟩
 unfold FitsG at hg
 (repeat (first|with_reducible refine wV fun _=>?_|simp [go_sem]))
 refine dGC.plain _ (fun _ => hands_pure g hg p.h0 (by unfold Fits at p2; omega)) (by simp [go_sem]) ?_
 (repeat (first|with_reducible refine wV fun _=>?_|simp [go_sem]))
 refine dGC.plain _ (fun _ => hands_pure g hg p.h1 (by unfold Fits at p3; omega)) (by simp [go_sem]) ?_
 generalize hpw : (2 : Int) ^ g.rights.toNat = pw at *
 (repeat (first|with_reducible refine wV fun _=>?_|simp [go_sem, hpw]))
 unfold Fits at p1
 refine aIf.mkL (fun hv => ?_) (fun hv => ?_) <;> simp at hv
 ·have e : posOk g p = false := by
   rw [Bool.eq_false_iff]
   intro h
   obtain ⟨a1, a2, a3, a4, a5, a6, a7⟩ := posOk_iff.1 h
   rw [hpw] at a6
   rw [a3, a4] at hv
   simp at hv
   omega
  rw [e]
  (repeat (first|with_reducible refine wV fun _=>?_|simp [go_sem]))
 ·have hn : ∀ x : Int, (∀ y ∈ p.at_, 0 ≤ y ∧ y ≤ 2 * g.kinds.length) → posOk g p = true := fun _ h => by
   rw [posOk_iff, hpw]
   obtain ⟨⟨⟨⟨⟨⟨b1, b2⟩, b3⟩, b4⟩, b5⟩, b6⟩, b7⟩ := hv
   exact ⟨b1, h, b2, b3, b4, b5, by omega⟩
  (repeat (first|with_reducible refine wV fun _=>?_|simp [go_sem]))
  refine ALoop.start (ALoop.ind (α := Nat) (fun j => ⟨[(2, .ref 0 0 9 0 0), (3, .ref 1 0 5 0 0), (5, .v (.int .i64 j))], [(0, .rows true 0 9 [encGame g]), (1, .rows true 0 5 [encPos p])], 2⟩)
   (fun d j => j + d = p.at_.length ∧ ∀ i, i < j → 0 ≤ nth p.at_ i ∧ nth p.at_ i ≤ 2 * g.kinds.length) ?_ p.at_.length 0 ?_) ?_ ?_
  ·rintro d j ⟨i1, i2⟩ hrec
   (repeat (first|with_reducible refine wV fun _=>?_|simp [go_sem]))
   refine aIf.mkL (fun hj => ?_) (fun hj => ?_) <;> simp at hj
   ·(repeat (first|with_reducible refine wV fun _=>?_|simp [go_sem, hj]))
    refine aIf.mkL (fun hb => ?_) (fun hb => ?_) <;> simp at hb
    ·have e : posOk g p = false := by
      rw [Bool.eq_false_iff]
      intro h
      have := (posOk_iff.1 h).2.1 _ (nth_mem hj)
      omega
     rw [e]
     (repeat (first|with_reducible refine wV fun _=>?_|simp [go_sem]))
    ·(repeat (first|with_reducible refine wV fun _=>?_|simp [go_sem]))
     refine ALoop.start (hrec (d - 1) (by omega) (j + 1) ⟨by omega, fun i hi => ?_⟩) ?_ (by simp)
     ·rcases Nat.lt_or_ge i j with h | h
      ·exact i2 i h
      ·obtain rfl : i = j := by omega
       exact hb
     ·simp [go_sem, Wk_eq]
   ·have e := hn 0 (fun y hy => by
     obtain ⟨i, hi, rfl⟩ := List.getElem_of_mem hy
     rw [← nth_eq _ _ hi]
     exact i2 i (by omega))
    rw [e]
    (repeat (first|with_reducible refine wV fun _=>?_|simp [go_sem]))
  ·exact ⟨by simp, fun i hi => by omega⟩
  ·simp [go_sem, Wk_eq]
  ·simp
def encPs (l : List PosD) : AV := .lst 5 (l.map encPos)
attribute [go_sem] encPs
instance : Inhabited PosD := ⟨⟨[], [], [], 0, 0⟩⟩
theorem bel_Pos {n : Nat} {p : PosD} : ∀ c ∈ encPos p, Bel n c := by simp [go_sem]
theorem bel_P {n : Nat} {l : List PosD} : (∀ r ∈ l.map encPos, ∀ c ∈ r, Bel n c) = True := by
 refine eq_true ?_
 intro r hr c hc
 obtain ⟨x, _, rfl⟩ := List.mem_map.1 hr
 exact bel_Pos c hc
theorem bel_Ps {n : Nat} {l : List PosD} : Bel n (.lst 5 (l.map encPos)) = True := by rw [Bel_lst, bel_P]
attribute [go_sem high] bel_Ps
end Go.Av
end
section
/- Numbers of arrangements: plain arithmetic, no program in sight. -/
namespace Go.Av
def bn : Nat → Nat → Nat
 | _, 0 => 1
 | 0, _ + 1 => 0
 | n + 1, k + 1 => bn n k + bn n (k + 1)
@[simp] theorem bn_zero (n : Nat) : bn n 0 = 1 := by cases n <;> rfl
theorem bn_lt : ∀ {n k : Nat}, n < k → bn n k = 0
 | _, 0, h => by omega
 | 0, k + 1, _ => rfl
 | n + 1, k + 1, h => by rw [bn, bn_lt (by omega), bn_lt (by omega)]
@[simp] theorem bn_self : ∀ n : Nat, bn n n = 1
 | 0 => rfl
 | n + 1 => by rw [bn, bn_self n, bn_lt (by omega)]
def arr : Nat → List Nat → Nat
 | _, [] => 1
 | n, k :: l => bn (n + k) k * arr (n + k) l
def dec (l : List Nat) (x : Nat) : List Nat := l.set x (l.getD x 0 - 1)
def arrAt (n : Nat) (l : List Nat) (x : Nat) : Nat := if l.getD x 0 = 0 then 0 else arr n (dec l x)
def sumTo (f : Nat → Nat) : Nat → Nat
 | 0 => 0
 | k + 1 => sumTo f k + f k
def rk : List Nat → List Nat → Nat
 | _, [] => 0
 | men, c :: p => sumTo (arrAt 0 men) c + rk (dec men c) p
def isArr : List Nat → List Nat → Prop
 | men, [] => men.sum = 0
 | men, c :: p => c < men.length ∧ 0 < men.getD c 0 ∧ isArr (dec men c) p
theorem dec_sum : ∀ (l : List Nat) (x : Nat), 0 < l.getD x 0 → (dec l x).sum + 1 = l.sum
 | [], x, h => by simp at h
 | k :: l, 0, h => by simp [dec] at h ⊢; omega
 | k :: l, x + 1, h => by
  have := dec_sum l x (by simpa using h)
  simp [dec] at this ⊢; omega
theorem isArr_sum : ∀ {men p : List Nat}, isArr men p → men.sum = p.length
 | men, [], h => h
 | men, c :: p, h => by
  have := isArr_sum h.2.2
  have := dec_sum men c h.2.1
  simp; omega
end Go.Av
end
section
/- Contracts, part 11: the reference's numbers of arrangements; positions that are drawn. -/
open Go Go.Proofs
namespace Go.Av
end Go.Av
end
section
/- Contracts, part 12: positions that are drawn; the reference's Of. -/
open Go Go.Proofs
namespace Go.Av
end Go.Av
end
section
/- Contracts, part 13: the reference's Of. -/
open Go Go.Proofs
namespace Go.Av
def ownMatR (n : Nat) (p : PosD) : AV := .agg [.sl (n + 20) 0 1 0 p.at_.length, .sl (n + 8) 1 1 0 p.h0.length, .sl (n + 13) 1 1 0 p.h1.length, .v (.int .i64 p.rights), .v (.int .i64 p.side)]
def ownMatRH (n : Nat) (p : PosD) : List (Nat × AObj) := [(n + 20, .rows true 0 1 (p.at_.map encI)), (n + 8, .rows true 1 1 (p.h0.map encI)), (n + 13, .rows true 1 1 (p.h1.map encI))]
attribute [go_sem] ownMatR ownMatRH
theorem Of14_owns (g : GameD) (hk : g.kinds.length ≤ 400) (p : PosD) (hp : FitsP p) (hc : ∀ c ∈ p.at_, 0 ≤ c ∧ c ≤ 2 * g.kinds.length) :
    Owns Tryz.prog 58 [.agg (encGame g), .agg (encPos p)] (fun n => ownMatR n (ofP g p)) (fun n => ownMatRH n (ofP g p)) 31 := by
  refine ⟨ACallP.of_awp (by kernel_rfl) Tryz.func58 rfl rfl (Nat.le_of_ble_eq_true rfl) (by kernel_rfl) ?_, fun n => ⟨by simp [go_sem], by simp [go_sem]⟩⟩
  have eK : (1 + 2 * (g.kinds.length : Int)).toNat = 1 + 2 * g.kinds.length := by omega
  have eK2 : (2 * (g.kinds.length : Int) + 1).toNat = 1 + 2 * g.kinds.length := by omega
  (repeat (first|with_reducible refine wV fun _=>?_|simp [go_sem, eK, eK2]))
  refine ACallP.ownsPlain (Copied_owns p hp) (by simp [go_sem]) ?_
  (repeat (first|with_reducible refine wV fun _=>?_|simp [go_sem, eK, eK2]))
  obtain ⟨p1, p2, p3⟩ := hp
  unfold Fits at p1 p2 p3
  refine ALoop.start (ALoop.ind (α := Nat × List Int) (fun a => ⟨[(3, .ref 1 0 5 0 0), (4, .ref 2 0 5 0 0), (6, .ref 28 0 5 0 0), (7, .v (.int .i64 a.1))],
      [(1, .rows true 0 5 [encPos p]), (2, .rows true 0 5 [[.v (.slice none 0 0), .v (.slice none 0 0), .v (.slice none 0 0), .v (.int .i64 0), .v (.int .i64 0)]]), (8, .rows true 1 1 (p.h0.map encI)), (13, .rows true 1 1 (p.h1.map encI)), (20, .rows true 0 1 (a.2.map encI)),
       (28, .rows true 0 5 [[.sl 20 0 1 0 (1 + 2 * g.kinds.length), .sl 8 1 1 0 p.h0.length, .sl 13 1 1 0 p.h1.length, .v (.int .i64 p.rights), .v (.int .i64 p.side)]])], 31⟩)
    (fun d a => a.1 + d = p.at_.length ∧ a.2.length = 1 + 2 * g.kinds.length ∧ (∀ x ∈ a.2, 0 ≤ x ∧ x ≤ a.1) ∧ (p.at_.drop a.1).foldl bump a.2 = menOf (1 + 2 * g.kinds.length) p.at_) ?_ p.at_.length (0, List.replicate (1 + 2 * g.kinds.length) 0) ?_) ?_ ?_
  · rintro d ⟨j, m⟩ ⟨i1, i2, i3, i4⟩ hrec
    simp only at i1 i2 i3 i4
    (repeat (first|with_reducible refine wV fun _=>?_|simp [go_sem]))
    refine aIf.mkL (fun hj => ?_) (fun hj => ?_) <;> simp at hj
    · have hm := hc _ (nth_mem hj)
      rw [drop_cons hj, List.foldl_cons] at i4
      have hcl : (nth p.at_ j).toNat < m.length := by omega
      have hb := i3 _ (nth_mem hcl)
      have hbs := bump_set (m := m) (c := nth p.at_ j)
      (repeat (first|with_reducible refine wV fun _=>?_|simp [go_sem, hj, hcl]))
      refine ALoop.start (hrec (d - 1) (by omega) (j + 1, bump m (nth p.at_ j)) ⟨by simp only; omega, by simp only [bump_length]; exact i2, fun x hx => bump_mem i3 hcl hx, i4⟩) ?_ (by simp)
      simp [go_sem, Wk_eq, hbs]
    · rw [List.drop_eq_nil_of_le hj, List.foldl_nil] at i4
      subst i4
      (repeat (first|with_reducible refine wV fun _=>?_|simp [go_sem]))
      simp [go_sem, Wk_eq, ofP, i2]
  · refine ⟨by simp, by simp, fun x hx => ?_, rfl⟩
    have := (List.mem_replicate.1 hx).2
    omega
  · simp [go_sem, Wk_eq, eK]
  · simp
theorem Of14_pure (g : GameD) (hk : g.kinds.length ≤ 400) (p : PosD) (hp : FitsP p) (hc : ∀ c ∈ p.at_, 0 ≤ c ∧ c ≤ 2 * g.kinds.length) :
    Pure Tryz.prog 58 [.agg (encGame g), .agg (encPos p)] (.agg (encPos (ofP g p))) := by
  refine (Of14_owns g hk p hp hc).pure ?_ (by simp [go_sem])
  refine .agg (.cons ?_ (.cons ?_ (.cons ?_ (.refl _ _ _ _))))
  · exact frX
  · exact frX
  · exact frX
end Go.Av
end
section
/- Ranks of positions: what the program computes, as plain numbers. -/
open Go
namespace Go.Av
def toN (l : List Int) : List Nat := l.map Int.toNat
theorem toN_length (l : List Int) : (toN l).length = l.length := by simp [toN]
theorem toN_getD (l : List Int) (x : Nat) : (toN l).getD x 0 = (nth l x).toNat := by
 simp only [toN, nth, List.getD_eq_getElem?_getD, List.getElem?_map]
 cases l[x]? <;> rfl
theorem toN_set (m : List Int) (x : Nat) : toN (m.set x (nth m x - 1)) = dec (toN m) x := by
 unfold dec
 rw [toN_getD]
 simp only [toN, List.map_set]
 congr 1
 omega
theorem menOf_nonneg {K : Nat} {l : List Int} (h : ∀ c ∈ l, c.toNat < K) : ∀ x ∈ menOf K l, 0 ≤ x := fun x hx => (menOf_mem h x hx).1
theorem dec_menOf {K : Nat} {c : Int} {l : List Int} (h : c.toNat < K) : dec (toN (menOf K (c :: l))) c.toNat = toN (menOf K l) := by
 rw [← toN_set]
 have := set_bump (m := menOf K l) (c := c) (by rw [menOf_length]; exact h)
 rw [← menOf_cons] at this
 rw [this]
theorem isArr_menOf {K : Nat} : ∀ {l : List Int}, (∀ c ∈ l, c.toNat < K) → isArr (toN (menOf K l)) (toN l)
 | [], _ => by simp [toN, isArr, menOf]
 | c :: l, h => by
  have hc := h c (by simp)
  have ht := isArr_menOf (l := l) fun x hx => h x (by simp [hx])
  refine ⟨by rw [toN_length, menOf_length]; exact hc, ?_, by rw [dec_menOf hc]; exact ht⟩
  rw [toN_getD, menOf_cons]
  have h0 := menOf_nonneg (K := K) (l := l) (fun x hx => h x (by simp [hx]))
  have hlt : c.toNat < (menOf K l).length := by rw [menOf_length]; exact hc
  have := h0 _ (nth_mem hlt)
  rw [bump, nth_set_self hlt]
  omega
theorem sum_menOf {K : Nat} {l : List Int} (h : ∀ c ∈ l, c.toNat < K) : (toN (menOf K l)).sum = l.length := by
 have := isArr_sum (isArr_menOf h)
 rwa [toN_length] at this
end Go.Av
end
section
/- Positions that are drawn are valid; the material of a valid position is valid. -/
open Go
namespace Go.Av
theorem fillL_len : ∀ (l : List Int) (c : Nat), (fillL c l).length = (toN l).sum
 | [], c => rfl
 | k :: l, c => by
  have := fillL_len l (c + 1)
  simp only [fillL, List.length_append, List.length_replicate, this]
  rfl
theorem fillL_mem : ∀ (l : List Int) (c : Nat) (x : Int), x ∈ fillL c l → (c : Int) ≤ x ∧ x < c + l.length
 | [], c, x, h => by simp [fillL] at h
 | k :: l, c, x, h => by
  simp only [fillL, List.mem_append, List.mem_replicate] at h
  rcases h with ⟨_, rfl⟩ | h
  ·simp; omega
  ·have := fillL_mem l (c + 1) x h
   simp at this ⊢; omega
theorem matOk_of {g : GameD} {p : PosD} (h : posOk g p = true) : matOk g (ofP g p) = true := by
 obtain ⟨h1, h2, h3, h4, h5, h6, h7⟩ := posOk_iff.1 h
 have hK : ∀ c ∈ p.at_, c.toNat < 1 + 2 * g.kinds.length := fun c hc => by have := h2 c hc; omega
 have hm := menOf_mem hK
 have hl := menOf_length (1 + 2 * g.kinds.length) p.at_
 have hany : (menOf (1 + 2 * g.kinds.length) p.at_).any (oddN g) = false := by
  simp [oddN]
  intro x hx
  have := hm x hx
  omega
 have hpos : posOk g (filledP (ofP g p)) = true := by
  rw [posOk_iff]
  refine ⟨?_, ?_, h3, h4, h5, h6, h7⟩
  ·simp only [filledP, ofP]
   rw [fillL_len, sum_menOf hK]
   exact h1
  ·intro x hx
   have := fillL_mem _ _ _ hx
   simp only [ofP, hl] at this
   omega
 unfold matOk
 rw [hpos]
 simp only [ofP, hany, hl]
 simp
end Go.Av
end
section
/- The reference's Valid and Ways of chapter 14 say the same as the program's. -/
namespace Go.Av
def leftGo : List Int → Int → Bool
 | [], l => decide (l = 0)
 | x :: t, l => !decide (x < 0) && !decide (l < x) && leftGo t (l - x)
def zerosP (g : GameD) (m : PosD) : PosD := { m with at_ := List.replicate g.cells.toNat 0 }
def matR (g : GameD) (m : PosD) : Bool := decide ((m.at_.length : Int) = 1 + 2 * g.kinds.length) && leftGo m.at_ g.cells && posOk g (zerosP g m)
theorem toN_sum {l : List Int} (h : ∀ x ∈ l, 0 ≤ x) : (((toN l).sum : Nat) : Int) = l.sum := by
 induction l with
 | nil => rfl
 | cons x l ih =>
  have h1 := h x (by simp)
  have h2 := ih fun y hy => h y (by simp [hy])
  simp only [toN, List.map_cons, List.sum_cons] at h2 ⊢
  omega
theorem sum_nonneg' {l : List Int} (h : ∀ x ∈ l, 0 ≤ x) : 0 ≤ l.sum := by
 have := toN_sum h; omega
theorem leftGo_iff : ∀ (l : List Int) (c : Int), 0 ≤ c → (leftGo l c = true ↔ (∀ x ∈ l, 0 ≤ x) ∧ l.sum = c)
 | [], c, h => by simp [leftGo]; omega
 | x :: l, c, h => by
  simp only [leftGo, Bool.and_eq_true, Bool.not_eq_true', decide_eq_false_iff_not, List.sum_cons]
  constructor
  ·rintro ⟨⟨h1, h2⟩, h3⟩
   obtain ⟨h4, h5⟩ := (leftGo_iff l (c - x) (by omega)).1 h3
   refine ⟨fun y hy => ?_, by omega⟩
   rcases List.mem_cons.1 hy with rfl | hy
   ·omega
   ·exact h4 y hy
  ·rintro ⟨h1, h2⟩
   have hx := h1 x (by simp)
   have hl : ∀ y ∈ l, 0 ≤ y := fun y hy => h1 y (by simp [hy])
   have hs := sum_nonneg' hl
   exact ⟨⟨by omega, by omega⟩, (leftGo_iff l (c - x) (by omega)).2 ⟨hl, by omega⟩⟩
theorem le_sum {l : List Int} (h : ∀ x ∈ l, 0 ≤ x) : ∀ x ∈ l, x ≤ l.sum := by
 induction l with
 | nil => intro x hx; cases hx
 | cons y l ih =>
  intro x hx
  have hy := h y (by simp)
  have hl : ∀ z ∈ l, 0 ≤ z := fun z hz => h z (by simp [hz])
  have hs := sum_nonneg' hl
  simp only [List.sum_cons]
  rcases List.mem_cons.1 hx with rfl | hx
  ·omega
  ·have := ih hl x hx; omega
theorem matR_eq {g : GameD} (h0 : 0 ≤ g.cells) (m : PosD) : matR g m = matOk g m := by
 rw [Bool.eq_iff_iff]
 unfold matR matOk
 simp only [Bool.and_eq_true, decide_eq_true_eq, Bool.not_eq_true', List.any_eq_false, leftGo_iff _ _ h0, posOk_iff]
 constructor
 ·rintro ⟨⟨h1, h2, h3⟩, h4, h5, h6, h7, h8, h9, h10⟩
  refine ⟨⟨h1, fun x hx => ?_⟩, ?_, fun x hx => ?_, h6, h7, h8, h9, h10⟩
  ·have := h2 x hx
   have := le_sum h2 x hx
   simp [oddN]; omega
  ·have := toN_sum h2
   simp only [filledP, fillL_len]; omega
  ·have := fillL_mem _ _ _ hx
   omega
 ·rintro ⟨⟨h1, h2⟩, h3, h4, h5, h6, h7, h8, h9⟩
  have h2' : ∀ x ∈ m.at_, 0 ≤ x := fun x hx => by have := h2 x hx; simp [oddN] at this; omega
  have := toN_sum h2'
  simp only [filledP, fillL_len] at h3
  refine ⟨⟨h1, h2', by omega⟩, ?_, fun x hx => ?_, h5, h6, h7, h8, h9⟩
  ·simp [zerosP]; omega
  ·simp only [zerosP] at hx
   have := (List.mem_replicate.1 hx).2
   omega
end Go.Av
end
section
/- Contracts, part 15: the reference's Valid, Size, of chapter 14. -/
open Go Go.Proofs
namespace Go.Av
theorem matRgo_pure (g : GameD) (hg : FitsG g) (hr : FitsR g) (hc0 : 0 ≤ g.cells) (h64 : g.cells ≤ 64) (m : PosD) (hm : m.at_.length ≤ 9223372036854775807) (h0 : Fits m.h0) (h1 : Fits m.h1) :
  Pure Tryz.prog 60 [.agg (encGame g), .agg (encPos m)] (.v (.bool (matR g m))) := by
 refine pF Tryz.func60 ?_
 unfold FitsG at hg
 have hVp : Pure Tryz.prog 39 [.agg (encGame g), .agg (encPos (zerosP g m))] (.v (.bool (posOk g (zerosP g m)))) := RValid_pure g hg hr _ ⟨by unfold Fits zerosP; simp; omega, h0, h1⟩
 (repeat (first|with_reducible refine wV fun _=>?_|simp [go_sem]))
 refine aIf.mkL (fun hn => ?_) (fun hn => ?_) <;> simp at hn
 ·have e : matR g m = false := by
   unfold matR
   rw [decide_eq_false (by omega)]; rfl
  rw [e]
  (repeat (first|with_reducible refine wV fun _=>?_|simp [go_sem]))
 ·(repeat (first|with_reducible refine wV fun _=>?_|simp [go_sem]))
  refine ALoop.start (ALoop.ind (α := Nat × Int) (fun a => ⟨[(2, .ref 0 0 9 0 0), (3, .ref 1 0 5 0 0), (5, .v (.int .i64 a.2)), (6, .v (.int .i64 a.1))], [(0, .rows true 0 9 [encGame g]), (1, .rows true 0 5 [encPos m])], 2⟩)
   (fun d a => a.1 + d = m.at_.length ∧ 0 ≤ a.2 ∧ a.2 ≤ 64 ∧ leftGo m.at_ g.cells = leftGo (m.at_.drop a.1) a.2) ?_ m.at_.length (0, g.cells) ?_) ?_ ?_
  ·rintro d ⟨j, left⟩ ⟨i1, i2, i3, i4⟩ hrec
   simp only at i1 i2 i3 i4
   (repeat (first|with_reducible refine wV fun _=>?_|simp [go_sem]))
   refine aIf.mkL (fun hj => ?_) (fun hj => ?_) <;> simp at hj
   ·rw [drop_cons hj, leftGo] at i4
    (repeat (first|with_reducible refine wV fun _=>?_|simp [go_sem, hj]))
    refine aIf.mkL (fun hb => ?_) (fun hb => ?_) <;> simp at hb
    ·have e : matR g m = false := by
      have : leftGo m.at_ g.cells = false := by
       rw [i4]
       rcases hb with hb | hb
       ·simp [hb]
       ·simp [hb]
      unfold matR
      rw [this]; simp
     rw [e]
     (repeat (first|with_reducible refine wV fun _=>?_|simp [go_sem]))
    ·(repeat (first|with_reducible refine wV fun _=>?_|simp [go_sem, hj]))
     refine ALoop.start (hrec (d - 1) (by omega) (j + 1, left - nth m.at_ j) ⟨by simp only; omega, by simp only; omega, by simp only; omega, ?_⟩) ?_ (by simp)
     ·rw [i4]; simp only
      rw [decide_eq_false (by omega), decide_eq_false (by omega)]; rfl
     ·simp [go_sem, Wk_eq]
   ·rw [List.drop_eq_nil_of_le hj, leftGo] at i4
    by_cases hz : left = 0
    ·subst hz
     have e : matR g m = posOk g (zerosP g m) := by
      unfold matR
      rw [i4, decide_eq_true (by omega)]; simp
     rw [e]
     generalize posOk g (zerosP g m) = v at *
     (repeat (first|with_reducible refine wV fun _=>?_|simp [go_sem]))
     refine dGC.flat [.agg (encGame g), .agg (encPos (zerosP g m))] (.v (.bool v)) [9] (fun _ => hVp) (.v _) ?_ (by simp [go_sem]) ?_
     ·intro h₁ hS
      have h9 := hS 9 (by simp)
      simp [go_sem] at h9
      simp only [encPos, zerosP, encIs, encGame, encIss, List.nil_append, List.append_nil, List.cons_append]
      refine LeRow.cons (.refl _) (LeRow.cons (LeV.agg (LeRow.cons ?_ (.refl _ _ _ _))) LeRow.nil)
      refine LeV.frz h9.symm ?_ ?_ (LeRows.of_eq ?_) <;> simp [noH, encI]
     ·(repeat (first|with_reducible refine wV fun _=>?_|simp [go_sem]))
    ·have e : matR g m = false := by
      unfold matR
      rw [i4, decide_eq_false hz]; simp
     rw [e]
     (repeat (first|with_reducible refine wV fun _=>?_|simp [go_sem, hz]))
     refine dGC.skip (.v (.bool false)) ?_
     (repeat (first|with_reducible refine wV fun _=>?_|simp [go_sem, hz]))
  ·exact ⟨by simp, hc0, h64, rfl⟩
  ·simp [go_sem, Wk_eq]
  ·simp
end Go.Av
end
section
/- IndexRanks: the call gives true. -/
open Go Go.Proofs
namespace Go.Av
theorem fitsP_of {g : GameD} {p : PosD} (hp : FitsP p) (hk : g.kinds.length ≤ 400) : FitsP (ofP g p) := ⟨by simp [Fits, ofP, menOf_length]; omega, hp.2.1, hp.2.2⟩
end Go.Av
end
section
/- Plain: the order of positions; sorted lists. -/
open Go Go.Proofs
namespace Go.Av
structure Cmp {α : Type} (c : α → α → Int) : Prop where
 swap : ∀ a b, c b a = - c a b
 eq : ∀ a b, c a b = 0 ↔ a = b
 tr : ∀ a b d, c a b ≤ 0 → c b d ≤ 0 → c a d ≤ 0
theorem cmp_number : Cmp number := by
 refine ⟨fun a b => ?_, fun a b => ?_, fun a b d => ?_⟩ <;> unfold number <;> (repeat' split) <;> omega
def lexI (x y : Int) : Int := if x ≠ 0 then x else y
theorem Cmp.prod {α β : Type} {c : α → α → Int} {d : β → β → Int} (hc : Cmp c) (hd : Cmp d) : Cmp (fun (p q : α × β) => lexI (c p.1 q.1) (d p.2 q.2)) := by
 refine ⟨fun p q => ?_, fun p q => ?_, fun p q r => ?_⟩
 ·have h1 := hc.swap p.1 q.1
  have h2 := hd.swap p.2 q.2
  simp only [lexI]
  split <;> split <;> omega
 ·have h1 := hc.eq p.1 q.1
  have h2 := hd.eq p.2 q.2
  simp only [lexI]
  constructor
  ·intro h
   split at h
   ·contradiction
   ·rename_i h0
    exact Prod.ext (h1.1 (by omega)) (h2.1 h)
  ·rintro rfl
   have a := h1.2 rfl
   have b := h2.2 rfl
   split <;> omega
 ·intro h1 h2
  simp only [lexI] at h1 h2 ⊢
  have e1 := hc.eq p.1 q.1
  have e2 := hc.eq q.1 r.1
  have e3 := hc.eq p.1 r.1
  have s1 := hc.swap p.1 q.1
  have s2 := hc.swap q.1 r.1
  have s3 := hc.swap p.1 r.1
  have t1 := hc.tr p.1 q.1 r.1
  have t2 := hd.tr p.2 q.2 r.2
  split at h1
  ·rename_i n1
   split at h2
   ·rename_i n2
    split
    ·omega
    ·rename_i n3
     have := e3.1 (by omega)
     rw [this] at h1 n1
     omega
   ·rename_i n2
    have := e2.1 (by omega)
    rw [this] at h1 n1
    rw [if_pos n1]; exact h1
  ·rename_i n1
   have := e1.1 (by omega)
   split at h2
   ·rename_i n2
    rw [← this] at h2 n2
    rw [if_pos n2]; exact h2
   ·rename_i n2
    rw [← this] at n2
    rw [if_neg n2]
    exact t2 h1 h2
theorem Cmp.pull {α β : Type} {c : β → β → Int} (hc : Cmp c) (f : α → β) (hf : ∀ a b, f a = f b → a = b) : Cmp (fun a b => c (f a) (f b)) :=
 ⟨fun a b => hc.swap _ _, fun a b => ⟨fun h => hf _ _ ((hc.eq _ _).1 h), fun h => (hc.eq _ _).2 (by rw [h])⟩, fun a b d => hc.tr _ _ _⟩
theorem cmp_list : Cmp cmpL := by
 refine ⟨?_, ?_, ?_⟩
 ·intro a
  induction a with
  | nil => intro b; cases b with
   | nil => rfl
   | cons y b => simp only [cmpL]; exact cmp_number.swap _ _
  | cons x a ih => intro b; cases b with
   | nil => simp only [cmpL]; exact cmp_number.swap _ _
   | cons y b =>
    have := cmp_number.swap x y
    simp only [cmpL]
    split
    ·rename_i h; rw [if_pos h.symm]; exact ih b
    ·rename_i h; rw [if_neg (fun e => h e.symm)]; exact this
 ·intro a
  induction a with
  | nil => intro b; cases b with
   | nil => simp [cmpL, number]
   | cons y b => simp [cmpL, number]
  | cons x a ih => intro b; cases b with
   | nil => simp [cmpL, number]; split <;> (try split) <;> omega
   | cons y b =>
    have := cmp_number.eq x y
    simp only [cmpL]
    split
    ·rename_i h; rw [ih b]; simp [h]
    ·rename_i h; rw [this]; simp [h]
 ·intro a
  induction a with
  | nil => intro b d _ _; cases d with
   | nil => simp [cmpL, number]
   | cons z d => simp [cmpL, number]
  | cons x a ih =>
   intro b d h1 h2
   cases b with
   | nil => simp [cmpL, number] at h1; split at h1 <;> (try split at h1) <;> omega
   | cons y b =>
    cases d with
    | nil => simp [cmpL, number] at h2; split at h2 <;> (try split at h2) <;> omega
    | cons z d =>
     simp only [cmpL] at h1 h2 ⊢
     have t := cmp_number.tr x y z
     have e1 := cmp_number.eq x z
     have s1 := cmp_number.swap y z
     have e2 := cmp_number.eq x y
     split at h1
     ·rename_i xy
      subst xy
      split at h2
      ·rename_i yz; subst yz; rw [if_pos rfl]; exact ih _ _ h1 h2
      ·rename_i yz; rw [if_neg yz]; exact h2
     ·rename_i xy
      split at h2
      ·rename_i yz; subst yz; rw [if_neg xy]; exact h1
      ·rename_i yz
       by_cases xz : x = z
       ·subst xz; omega
       ·rw [if_neg xz]; exact t h1 h2
def tupP (p : PosD) : List Int × List Int × List Int × Int × Int := (p.at_, p.h0, p.h1, p.rights, p.side)
theorem cmp_pos : Cmp cmpP :=
 Cmp.pull (cmp_list.prod (cmp_list.prod (cmp_list.prod (cmp_number.prod cmp_number)))) tupP (fun a b h => by cases a; cases b; simp [tupP] at h; simp [h])
theorem cmpP_eq {p q : PosD} : cmpP p q = 0 ↔ p = q := cmp_pos.eq p q
section sort
variable {α : Type} {c : α → α → Int} (hc : Cmp c)
def leC (c : α → α → Int) (a b : α) : Bool := decide (c a b ≤ 0)
def sortC (c : α → α → Int) (l : List α) : List α := l.mergeSort (leC c)
include hc
theorem leC_tr (a b d : α) (h1 : leC c a b = true) (h2 : leC c b d = true) : leC c a d = true := by
 simp only [leC, decide_eq_true_eq] at *
 exact hc.tr _ _ _ h1 h2
theorem leC_tot (a b : α) : (leC c a b || leC c b a) = true := by
 have := hc.swap a b
 simp only [leC, Bool.or_eq_true, decide_eq_true_eq]
 omega
theorem leC_anti {a b : α} (h1 : leC c a b = true) (h2 : leC c b a = true) : a = b := by
 have := hc.swap a b
 simp only [leC, decide_eq_true_eq] at *
 exact (hc.eq _ _).1 (by omega)
theorem sortC_pw (l : List α) : (sortC c l).Pairwise (fun a b => leC c a b = true) := List.pairwise_mergeSort (leC_tr hc) (leC_tot hc) l
theorem sortC_unique {l r : List α} (hp : r.Perm l) (hs : r.Pairwise (fun a b => leC c a b = true)) : sortC c l = r :=
 List.Perm.eq_of_pairwise (fun a b _ _ h1 h2 => leC_anti hc h1 h2) (sortC_pw hc l) hs ((List.mergeSort_perm l _).trans hp.symm)
theorem sortC_merge (a b : List α) : List.merge (sortC c a) (sortC c b) (leC c) = sortC c (a ++ b) :=
 (sortC_unique hc ((List.merge_perm_append (le := leC c)).trans ((List.mergeSort_perm a _).append (List.mergeSort_perm b _)))
  (List.pairwise_merge (leC_tr hc) (leC_tot hc) _ _ (sortC_pw hc a) (sortC_pw hc b))).symm
omit hc in
theorem sortC_perm (l : List α) : (sortC c l).Perm l := List.mergeSort_perm l _
omit hc in
theorem sortC_len (l : List α) : (sortC c l).length = l.length := (sortC_perm l).length_eq
omit hc in
theorem sortC_mem {l : List α} {x : α} : x ∈ sortC c l ↔ x ∈ l := (sortC_perm l).mem_iff
omit hc in
theorem sortC_nil : sortC c [] = [] := by simp [sortC]
omit hc in
theorem sortC_one (a : α) : sortC c [a] = [a] := by simp [sortC]
omit hc in
theorem sortC_short {l : List α} (h : l.length < 2) : sortC c l = l := by
 match l, h with
 | [], _ => exact sortC_nil
 | [a], _ => exact sortC_one a
end sort
section once
variable {α : Type} [DecidableEq α]
def dedupGo : α → List α → List α
 | _, [] => []
 | a, b :: l => if b = a then dedupGo a l else b :: dedupGo b l
def dedup : List α → List α
 | [] => []
 | a :: l => a :: dedupGo a l
theorem dedupGo_mem : ∀ {l : List α} {a x : α}, (x = a ∨ x ∈ dedupGo a l) ↔ (x = a ∨ x ∈ l)
 | [], a, x => by simp [dedupGo]
 | b :: l, a, x => by
  simp only [dedupGo]
  split
  ·rename_i h; subst h
   rw [dedupGo_mem (l := l)]
   simp
  ·have := dedupGo_mem (l := l) (a := b) (x := x)
   simp only [List.mem_cons]
   rw [this]
theorem dedup_mem {l : List α} {x : α} : x ∈ dedup l ↔ x ∈ l := by
 cases l with
 | nil => simp [dedup]
 | cons a l => simp only [dedup, List.mem_cons]; exact dedupGo_mem
theorem dedupGo_le : ∀ (l : List α) (a : α), (dedupGo a l).length ≤ l.length
 | [], a => by simp [dedupGo]
 | b :: l, a => by
  simp only [dedupGo]
  split
  ·have := dedupGo_le l a; simp; omega
  ·have := dedupGo_le l b; simp; omega
theorem dedup_le (l : List α) : (dedup l).length ≤ l.length := by
 cases l with
 | nil => simp [dedup]
 | cons a l => simp [dedup]; exact dedupGo_le l a
theorem dedupGo_pw {c : α → α → Int} (hc : Cmp c) : ∀ {l : List α} {a : α}, (a :: l).Pairwise (fun a b => leC c a b = true) → (a :: dedupGo a l).Pairwise (fun a b => c a b < 0)
 | [], a, _ => by simp [dedupGo]
 | b :: l, a, h => by
  simp only [dedupGo]
  rw [List.pairwise_cons] at h
  obtain ⟨h1, h2⟩ := h
  split
  ·rename_i e; subst e; exact dedupGo_pw hc h2
  ·rename_i e
   have ih := dedupGo_pw hc h2
   rw [List.pairwise_cons]
   refine ⟨fun x hx => ?_, ih⟩
   have hx' : x = b ∨ x ∈ l := dedupGo_mem.1 (by simpa using hx)
   have hax : c a x ≤ 0 := by
    have := h1 x (by simpa using hx')
    simpa [leC] using this
   have hab : c a b ≤ 0 := by
    have := h1 b (by simp)
    simpa [leC] using this
   have hbx : c b x ≤ 0 := by
    rcases hx' with rfl | hm
    ·have := (hc.eq x x).2 rfl; omega
    ·rw [List.pairwise_cons] at h2
     have := h2.1 x hm
     simpa [leC] using this
   rcases Int.lt_or_eq_of_le hax with h | h
   ·exact h
   ·have ex := (hc.eq _ _).1 h
    subst ex
    have := hc.swap a b
    exact absurd ((hc.eq b a).1 (by omega)) e
def sortU (c : α → α → Int) (l : List α) : List α := dedup (sortC c l)
theorem sortU_mem {c : α → α → Int} {l : List α} {x : α} : x ∈ sortU c l ↔ x ∈ l := by rw [sortU, dedup_mem, sortC_mem]
theorem sortU_pw {c : α → α → Int} (hc : Cmp c) (l : List α) : (sortU c l).Pairwise (fun a b => c a b < 0) := by
 have h := sortC_pw hc l
 unfold sortU
 cases hs : sortC c l with
 | nil => simp [dedup]
 | cons a m => rw [hs] at h; exact dedupGo_pw hc h
theorem sortU_le (c : α → α → Int) (l : List α) : (sortU c l).length ≤ l.length := by
 have := dedup_le (sortC c l)
 rw [sortC_len] at this
 exact this
omit [DecidableEq α] in
theorem strict_ext {c : α → α → Int} (hc : Cmp c) : ∀ {l r : List α}, l.Pairwise (fun a b => c a b < 0) → r.Pairwise (fun a b => c a b < 0) → (∀ x, x ∈ l ↔ x ∈ r) → l = r
 | [], r, _, _, h => by
  cases r with
  | nil => rfl
  | cons b r => have := (h b).2 (by simp); simp at this
 | a :: l, [], _, _, h => by have := (h a).1 (by simp); simp at this
 | a :: l, b :: r, h1, h2, h => by
  rw [List.pairwise_cons] at h1 h2
  have irr : ∀ x : α, ¬ c x x < 0 := fun x hx => by have := (hc.eq x x).2 rfl; omega
  have ab : a = b := by
   rcases List.mem_cons.1 ((h a).1 (by simp)) with e | m
   ·exact e
   ·rcases List.mem_cons.1 ((h b).2 (by simp)) with e | m'
    ·exact e.symm
    ·have k1 := h2.1 a m
     have k2 := h1.1 b m'
     have := hc.swap a b
     omega
  subst ab
  rw [strict_ext hc h1.2 h2.2 (fun x => ?_)]
  constructor
  ·intro hx
   rcases List.mem_cons.1 ((h x).1 (List.mem_cons_of_mem _ hx)) with e | m
   ·subst e; exact absurd (h1.1 _ hx) (irr _)
   ·exact m
  ·intro hx
   rcases List.mem_cons.1 ((h x).2 (List.mem_cons_of_mem _ hx)) with e | m
   ·subst e; exact absurd (h2.1 _ hx) (irr _)
   ·exact m
theorem sortU_unique {c : α → α → Int} (hc : Cmp c) {l r : List α} (hr : r.Pairwise (fun a b => c a b < 0)) (h : ∀ x, x ∈ l ↔ x ∈ r) : sortU c l = r :=
 strict_ext hc (sortU_pw hc l) hr (fun x => by rw [sortU_mem]; exact h x)
theorem sortU_congr {c : α → α → Int} (hc : Cmp c) {l r : List α} (h : ∀ x, x ∈ l ↔ x ∈ r) : sortU c l = sortU c r :=
 sortU_unique hc (sortU_pw hc r) (fun x => by rw [sortU_mem]; exact h x)
end once
end Go.Av
end
section
/- Contracts, boards: To, Has, Line of the reference; board.To; slices.Index, Contains. -/
open Go Go.Proofs
namespace Go.Av
structure BoardD where
 cells : Int
 next : List (List Int)
 turn : List Int
 deriving DecidableEq
def encB (b : BoardD) : List AV := [.v (.int .i64 b.cells), encIss b.next, encIs b.turn]
attribute [go_sem] encB
def GameD.board (g : GameD) : BoardD := ⟨g.cells, g.next, g.turn⟩
structure BoardOk (b : BoardD) : Prop where
 tl : b.turn.length = b.next.length
 tv : ∀ t ∈ b.turn, 0 ≤ t ∧ t < b.next.length
 nl : ∀ l ∈ b.next, (l.length : Int) = b.cells
 nv : ∀ l ∈ b.next, ∀ x ∈ l, -1 ≤ x ∧ x < b.cells
 c0 : 0 ≤ b.cells
 c1 : b.cells ≤ 1048576
 n1 : b.next.length ≤ 1048576
def toB (b : BoardD) (side d c : Int) : Int :=
 if side < 0 ∨ 1 < side ∨ d < 0 ∨ (b.next.length : Int) ≤ d ∨ c < 0 ∨ b.cells ≤ c then -1 else nth (nth b.next (if side = 1 then (nth b.turn d.toNat) else d).toNat) c.toNat
theorem toB_range {b : BoardD} (hb : BoardOk b) (side d c : Int) : -1 ≤ toB b side d c ∧ toB b side d c < b.cells ∨ toB b side d c = -1 := by
 unfold toB
 split
 ·exact .inr rfl
 ·rename_i h
  left
  have hd : (if side = 1 then (nth b.turn d.toNat) else d).toNat < b.next.length := by
   split
   ·have := hb.tv _ (nth_mem (l := b.turn) (i := d.toNat) (by have := hb.tl; omega))
    omega
   ·omega
  have hl := hb.nl _ (nth_mem hd)
  exact hb.nv _ (nth_mem hd) _ (nth_mem (by omega))
theorem R1To_pure (b : BoardD) (hb : BoardOk b) (side d c : Int) : Pure Tryz.prog 241 [.agg (encB b), .v (.int .i64 side), .v (.int .i64 d), .v (.int .i64 c)] (.v (.int .i64 (toB b side d c))) := by
 refine pF Tryz.func241 ?_
 obtain ⟨tl, tv, nl, nv, c0, c1, n1⟩ := hb
 (repeat (first|with_reducible refine wV fun _=>?_|simp [go_sem]))
 refine aIf.mkL (fun hs => ?_) (fun hs => ?_) <;> simp at hs
 ·have e : toB b side d c = -1 := by unfold toB; rw [if_pos (by omega)]
  rw [e]
  (repeat (first|with_reducible refine wV fun _=>?_|simp [go_sem]))
 ·have hdt : d.toNat < b.next.length := by omega
  have hdu : d.toNat < b.turn.length := by omega
  have e : toB b side d c = nth (nth b.next (if side = 1 then (nth b.turn d.toNat) else d).toNat) c.toNat := by unfold toB; rw [if_neg (by omega)]
  (repeat (first|with_reducible refine wV fun _=>?_|simp [go_sem]))
  refine aIf.mkL (fun h1 => ?_) (fun h1 => ?_) <;> simp at h1
  ·rw [if_pos h1] at e
   have ht := tv _ (nth_mem hdu)
   have hn : (nth b.turn d.toNat).toNat < b.next.length := by omega
   have hl := nl _ (nth_mem hn)
   have hc : c.toNat < (nth b.next (nth b.turn d.toNat).toNat).length := by omega
   rw [e]
   (repeat (first|with_reducible refine wV fun _=>?_|simp [go_sem, hdu, hn, hc]))
  ·rw [if_neg h1] at e
   have hl := nl _ (nth_mem hdt)
   have hc : c.toNat < (nth b.next d.toNat).length := by omega
   rw [e]
   (repeat (first|with_reducible refine wV fun _=>?_|simp [go_sem, hdt, hc]))
theorem bTo_pure (b : BoardD) (hb : BoardOk b) (side d c : Int) : Pure Tryz.prog 254 [.agg (encB b), .v (.int .i64 side), .v (.int .i64 d), .v (.int .i64 c)] (.v (.int .i64 (toB b side d c))) := by
 refine pF Tryz.func254 ?_
 obtain ⟨tl, tv, nl, nv, c0, c1, n1⟩ := hb
 (repeat (first|with_reducible refine wV fun _=>?_|simp [go_sem]))
 refine aIf.mkL (fun hs => ?_) (fun hs => ?_) <;> simp at hs
 ·have e : toB b side d c = -1 := by unfold toB; rw [if_pos (by omega)]
  rw [e]
  (repeat (first|with_reducible refine wV fun _=>?_|simp [go_sem]))
 ·have hdt : d.toNat < b.next.length := by omega
  have hdu : d.toNat < b.turn.length := by omega
  have e : toB b side d c = nth (nth b.next (if side = 1 then (nth b.turn d.toNat) else d).toNat) c.toNat := by unfold toB; rw [if_neg (by omega)]
  (repeat (first|with_reducible refine wV fun _=>?_|simp [go_sem]))
  refine aIf.mkL (fun h1 => ?_) (fun h1 => ?_) <;> simp at h1
  ·rw [if_pos h1] at e
   have ht := tv _ (nth_mem hdu)
   have hn : (nth b.turn d.toNat).toNat < b.next.length := by omega
   have hl := nl _ (nth_mem hn)
   have hc : c.toNat < (nth b.next (nth b.turn d.toNat).toNat).length := by omega
   rw [e]
   (repeat (first|with_reducible refine wV fun _=>?_|simp [go_sem, hdu, hn, hc]))
  ·rw [if_neg h1] at e
   have hl := nl _ (nth_mem hdt)
   have hc : c.toNat < (nth b.next d.toNat).length := by omega
   rw [e]
   (repeat (first|with_reducible refine wV fun _=>?_|simp [go_sem, hdt, hc]))
theorem R1Has_pure (l : List Int) (n : Int) (hl : l.length ≤ 1099511627776) : Pure Tryz.prog 277 [encIs l, .v (.int .i64 n)] (.v (.bool (decide (n ∈ l)))) := by
 refine pF Tryz.func277 ?_
 generalize hr : decide (n ∈ l) = res
 (repeat (first|with_reducible refine wV fun _=>?_|simp [go_sem]))
 refine ALoop.start (ALoop.ind (α := Nat) (fun j => ⟨[(0, encIs l), (1, .v (.int .i64 n)), (5, .v (.int .i64 j))], [], 0⟩)
  (fun d j => j + d = l.length ∧ res = decide (n ∈ l.drop j)) ?_ l.length 0 ?_) ?_ ?_
 ·rintro d j ⟨i1, i2⟩ hrec
  (repeat (first|with_reducible refine wV fun _=>?_|simp [go_sem]))
  refine aIf.mkL (fun hj => ?_) (fun hj => ?_) <;> simp at hj
  ·rw [drop_cons hj] at i2
   (repeat (first|with_reducible refine wV fun _=>?_|simp [go_sem, hj]))
   refine aIf.mkL (fun he => ?_) (fun he => ?_) <;> simp at he
   ·have e : res = true := by rw [i2, he]; simp
    rw [e]
    (repeat (first|with_reducible refine wV fun _=>?_|simp [go_sem]))
   ·have e : res = decide (n ∈ l.drop (j + 1)) := by rw [i2]; simp [Ne.symm he]
    (repeat (first|with_reducible refine wV fun _=>?_|simp [go_sem]))
    refine ALoop.start (hrec (d - 1) (by omega) (j + 1) ⟨by omega, e⟩) ?_ (by simp)
    simp [go_sem, Wk_eq]
  ·have e : res = false := by rw [i2, List.drop_eq_nil_of_le hj]; simp
   rw [e]
   (repeat (first|with_reducible refine wV fun _=>?_|simp [go_sem]))
 ·exact ⟨by simp, hr.symm⟩
 ·simp [go_sem, Wk_eq]
 ·simp
def indexI (l : List Int) (n : Int) : Int := match l.findIdx? (· == n) with | some i => (i : Int) | none => -1
theorem indexI_at {n : Int} {l : List Int} {j : Nat} (hj : j < l.length) (h : ∀ i, i < j → nth l i ≠ n) (hp : nth l j = n) : indexI l n = j := by
 have : l.findIdx? (· == n) = some j := by
  rw [List.findIdx?_eq_some_iff_getElem]
  refine ⟨hj, by rw [← nth_eq _ _ hj, hp]; simp, fun i hi => ?_⟩
  have := h i hi
  rw [nth_eq _ _ (by omega)] at this
  simp [this]
 simp [indexI, this]
theorem indexI_none {n : Int} {l : List Int} (h : ∀ i, i < l.length → nth l i ≠ n) : indexI l n = -1 := by
 have : l.findIdx? (· == n) = none := by
  rw [List.findIdx?_eq_none_iff]
  intro x hx
  obtain ⟨i, hi, rfl⟩ := List.getElem_of_mem hx
  have := h i hi
  rw [nth_eq _ _ hi] at this
  simp [this]
 simp [indexI, this]
theorem indexI_mem {l : List Int} {n : Int} : decide (0 ≤ indexI l n) = decide (n ∈ l) := by
 by_cases h : n ∈ l
 ·cases hf : l.findIdx? (· == n) with
  | none =>
   rw [List.findIdx?_eq_none_iff] at hf
   have := hf n h
   simp at this
  | some i => simp [indexI, hf, h]
 ·have : l.findIdx? (· == n) = none := by
   rw [List.findIdx?_eq_none_iff]
   intro x hx
   have : x ≠ n := fun e => h (e ▸ hx)
   simp [this]
  simp [indexI, this, h]
theorem Index_pure (l : List Int) (n : Int) (hl : l.length ≤ 1099511627776) : Pure Tryz.prog 292 [encIs l, .v (.int .i64 n)] (.v (.int .i64 (indexI l n))) := by
 refine pF Tryz.func292 ?_
 (repeat (first|with_reducible refine wV fun _=>?_|simp [go_sem]))
 refine ALoop.start (ALoop.ind (α := Nat) (fun j => ⟨[(0, encIs l), (1, .v (.int .i64 n)), (7, .v (.int .i64 l.length)), (8, .v (.int .i64 j))], [], 0⟩)
  (fun d j => j + d = l.length ∧ ∀ i, i < j → nth l i ≠ n) ?_ l.length 0 ?_) ?_ ?_
 ·rintro d j ⟨i1, i2⟩ hrec
  (repeat (first|with_reducible refine wV fun _=>?_|simp [go_sem]))
  refine aIf.mkL (fun hj => ?_) (fun hj => ?_) <;> simp at hj
  ·(repeat (first|with_reducible refine wV fun _=>?_|simp [go_sem, hj]))
   refine aIf.mkL (fun he => ?_) (fun he => ?_) <;> simp at he
   ·rw [indexI_at hj i2 he.symm]
    (repeat (first|with_reducible refine wV fun _=>?_|simp [go_sem]))
   ·(repeat (first|with_reducible refine wV fun _=>?_|simp [go_sem]))
    refine ALoop.start (hrec (d - 1) (by omega) (j + 1) ⟨by omega, fun i hi => ?_⟩) ?_ (by simp)
    ·rcases Nat.lt_or_ge i j with h | h
     ·exact i2 i h
     ·obtain rfl : i = j := by omega
      exact fun e => he e.symm
    ·simp [go_sem, Wk_eq]
  ·rw [indexI_none (fun i hi => i2 i (by omega))]
   (repeat (first|with_reducible refine wV fun _=>?_|simp [go_sem]))
 ·exact ⟨by simp, fun i hi => by omega⟩
 ·simp [go_sem, Wk_eq]
 ·simp
theorem Contains_pure (l : List Int) (n : Int) (hl : l.length ≤ 1099511627776) : Pure Tryz.prog 283 [encIs l, .v (.int .i64 n)] (.v (.bool (decide (n ∈ l)))) := by
 refine pF Tryz.func283 ?_
 (repeat (first|with_reducible refine wV fun _=>?_|simp [go_sem]))
 refine ACallP.plain (Index_pure l n hl) (by simp [go_sem]) ?_
 rw [← indexI_mem]
 (repeat (first|with_reducible refine wV fun _=>?_|simp [go_sem]))
def lineGo (b : BoardD) (side d c : Int) : Nat → Int → List Int → List Int
 | 0, _, seen => seen
 | f + 1, x, seen => if 0 ≤ x ∧ x ≠ c ∧ ¬ x ∈ seen then lineGo b side d c f (toB b side d x) (seen ++ [x]) else seen
def lineB (b : BoardD) (side d c : Int) : List Int := lineGo b side d c (b.cells.toNat + 1) (toB b side d c) []
theorem nodup_le : ∀ (n : Nat) (l : List Int), l.Nodup → (∀ x ∈ l, 0 ≤ x ∧ x < n) → l.length ≤ n
 | 0, l, _, h => by
  cases l with
  | nil => simp
  | cons x l => have := h x (by simp); omega
 | n + 1, l, hn, h => by
  by_cases hm : (n : Int) ∈ l
  ·have := nodup_le n (l.erase n) (hn.erase _) (fun x hx => by
    have h1 := (hn.mem_erase_iff).1 hx
    have := h x h1.2
    have := h1.1
    omega)
   rw [List.length_erase_of_mem hm] at this
   omega
  ·have := nodup_le n l hn (fun x hx => by
    have := h x hx
    have : x ≠ n := fun e => hm (e ▸ hx)
    omega)
   omega
theorem toB_lt {b : BoardD} (hb : BoardOk b) (side d c : Int) : toB b side d c < b.cells := by
 have := hb.c0
 rcases toB_range hb side d c with h | h <;> omega
theorem R1Line_pure (b : BoardD) (hb : BoardOk b) (side d c : Int) : Pure Tryz.prog 243 [.agg (encB b), .v (.int .i64 side), .v (.int .i64 d), .v (.int .i64 c)] (encIs (lineB b side d c)) := by
 refine pF Tryz.func243 ?_
 have hbl : ∀ n, (∀ c' ∈ encB b, Bel n c') = True := fun n => by simp [go_sem]
 have hel : (encB b).length = 3 := rfl
 have hT : ∀ x, Pure Tryz.prog 241 [.agg (encB b), .v (.int .i64 side), .v (.int .i64 d), .v (.int .i64 x)] (.v (.int .i64 (toB b side d x))) := fun x => R1To_pure b hb side d x
 obtain ⟨eb, heb⟩ : ∃ eb, eb = encB b := ⟨_, rfl⟩
 rw [← heb] at hbl hel hT ⊢
 have hc1 := hb.c1
 have hc0 := hb.c0
 (repeat (first|with_reducible refine wV fun _=>?_|simp [go_sem, hel]))
 refine ACallP.plain (hT c) (by simp [go_sem, hbl]) ?_
 (repeat (first|with_reducible refine wV fun _=>?_|simp [go_sem, hel]))
 refine ALoop.start (ALoop.ind (α := Int × List Int) (fun a => ⟨[(1, .v (.int .i64 side)), (2, .v (.int .i64 d)), (3, .v (.int .i64 c)), (4, .ref 0 0 3 0 0), (9, .sl 1 a.2.length 1 0 a.2.length), (10, .v (.int .i64 a.1))],
   [(0, .rows true 0 3 [eb]), (1, .rows true a.2.length 1 (a.2.map encI))], 2⟩)
  (fun f a => f + a.2.length = b.cells.toNat + 1 ∧ a.1 < b.cells ∧ a.2.Nodup ∧ (∀ y ∈ a.2, 0 ≤ y ∧ y < b.cells) ∧ lineB b side d c = lineGo b side d c f a.1 a.2) ?_ (b.cells.toNat + 1) (toB b side d c, []) ?_) ?_ ?_
 ·rintro f ⟨x, seen⟩ ⟨i1, i2, i3, i4, i5⟩ hrec
  simp only at i1 i2 i3 i4 i5
  have hsl : seen.length ≤ b.cells.toNat := nodup_le _ _ i3 (fun y hy => by have := i4 y hy; omega)
  obtain ⟨f, rfl⟩ : ∃ f', f = f' + 1 := ⟨f - 1, by omega⟩
  rw [lineGo] at i5
  (repeat (first|with_reducible refine wV fun _=>?_|simp [go_sem, hel]))
  refine aGC.flat [encIs seen, .v (.int .i64 x)] (.v (.bool (decide (x ∈ seen)))) (fun _ => R1Has_pure seen x (by omega)) (.v _) ?_ (by simp [go_sem]) ?_
  ·refine LeRow.cons ?_ (LeRow.cons (.refl _) LeRow.nil)
   refine LeV.frz rfl ?_ ?_ (LeRows.of_eq ?_) <;> simp [noH, List.take_of_length_le]
  ·(repeat (first|with_reducible refine wV fun _=>?_|simp [go_sem, hel]))
   refine aIf.mkL (fun hx => ?_) (fun hx => ?_) <;> simp at hx
   ·rw [if_pos (by simpa [and_assoc] using hx)] at i5
    (repeat (first|with_reducible refine wV fun _=>?_|simp [go_sem, hel]))
    refine ACallP.plain (hT x) (by simp [go_sem, hbl]) ?_
    (repeat (first|with_reducible refine wV fun _=>?_|simp [go_sem, hel]))
    refine ALoop.start (hrec f (by omega) (toB b side d x, seen ++ [x]) ⟨by simp only [List.length_append, List.length_singleton]; omega, toB_lt hb _ _ _, ?_, ?_, i5⟩) ?_ (by simp)
    ·refine List.nodup_append.2 ⟨i3, by simp, ?_⟩
     intro y hy z hz
     simp at hz
     subst hz
     rintro rfl
     exact hx.2 hy
    ·intro y hy
     rcases List.mem_append.1 hy with h | h
     ·exact i4 y h
     ·simp at h; omega
    ·simp [go_sem, Wk_eq, hbl]
     (first|done|exact blX)
   ·rw [if_neg (by simpa [and_assoc] using hx)] at i5
    rw [i5]
    (repeat (first|with_reducible refine wV fun _=>?_|simp [go_sem, hel]))
    exact frX
 ·exact ⟨by simp, toB_lt hb _ _ _, by simp, by simp, rfl⟩
 ·simp [go_sem, Wk_eq, hbl]
 ·simp
end Go.Av
end
