/- Texts of ours, part 9: our library and contracts of functions. -/
import Derived.Test.YtkahkcakggflaaaGreatDoorB08
import Derived.Shelf.SlSortCmp.NoneTotal
import Derived.Test.YtkahkcakggflaaaGreatDoorProg
set_option linter.unusedSimpArgs false
set_option linter.unusedVariables false
set_option maxRecDepth 100000
set_option maxHeartbeats 40000000
section
open Go Go.Proofs
namespace Go.Av
def zcs (b : zaM) (side d : Int) : Nat → Int → List Int
 | 0, _ => []
 | k + 1, x => if 0 ≤ x then x :: zcs b side d k (toB b side d x) else []
def zbv (b : zaM) (side d : Int) : Nat → Int → Nat
 | 0, x => if 0 ≤ x then 1 else 0
 | k + 1, x => if 0 ≤ x then zbv b side d k (toB b side d x) else 0
theorem zkK {b : zaM} {side d : Int} : ∀ {k : Nat} {x : Int}, zbv b side d k x ≠ 2
 | 0, x => by unfold zbv; split <;> omega
 | k + 1, x => by unfold zbv; split; exact zkK; omega
theorem zus (b : zaM) (hb : za7 b) (side d c : Int) (k : Nat) : znM Tryz.prog 291 [.fp (zdf b), .fp [.v (.int .i64 side)], .fp [.v (.int .i64 d)], .fp [.v (.int .i64 c)]]
  (zbv b side d k (toB b side d c)) ((zcs b side d k (toB b side d c)).map zb6) := by
 refine zBH (by kernel_rfl) Tryz.func291 rfl rfl (Nat.le_of_ble_eq_true rfl) (by kernel_rfl) (fun l => ?_) (hm2 := zkK)
 have hbl : ∀ n, (∀ c' ∈ zdf b, Bel n c') = True := fun n => by simp [go_sem]
 have hel : (zdf b).length = 3 := rfl
 have hT : ∀ x, zaC Tryz.prog 254 [.agg (zdf b), .v (.int .i64 side), .v (.int .i64 d), .v (.int .i64 x)] (.v (.int .i64 (toB b side d x))) := fun x => zi4 b hb side d x
 have hg : ∀ (n k : Nat) (x : Int), Bel n (zbi l (zbv b side d k x) ((zcs b side d k x).map zb6)) := fun n k x => by
  simp only [zbi, zru, zmv, List.forall_mem_cons, zxw, zck]
  simp [go_sem]
 obtain ⟨eb, heb⟩ : ∃ eb, eb = zdf b := ⟨_, rfl⟩
 rw [← heb] at hbl hel hT ⊢
 have hte : eb.take 3 = eb := List.take_of_length_le (by omega)
 repeat first|with_reducible refine wV fun _=>?_|simp [go_sem, hel, GH, hte]
 refine zBn (hT c) (by simp [go_sem, hbl]) ?_
 repeat first|with_reducible refine wV fun _=>?_|simp [go_sem, hel, GH, hte]
 refine zBm (zBr (α := Nat × Int) (fun a => ⟨[(0, .fn (.yield l) [] []), (1, .fp eb), (2, .fp [.v (.int .i64 side)]), (3, .fp [.v (.int .i64 d)]), (6, .v (.int .i64 a.2)), (1000000007, zbi l (zbv b side d a.1 a.2) ((zcs b side d a.1 a.2).map zb6))], [], 0⟩)
  (fun f a => f = a.1 ∧ zbv b side d a.1 a.2 = zbv b side d k (toB b side d c)) ?_ k (k, toB b side d c) ?_) ?_ ?_
 ·rintro f ⟨k', x⟩ ⟨i1, i2⟩ hrec
  simp only at i1 i2
  subst i1
  repeat first|with_reducible refine wV fun _=>?_|simp [go_sem, hel, GH, hte]
  by_cases hx : 0 ≤ x
  ·simp only [hx, decide_true]
   cases f with
   | zero => exact aGC.exh (by simp [upd, GH, zbv, zcs, hx])
   | succ f =>
    refine aGC.yld (more := zbv b side d f (toB b side d x)) (xs := [.v (.int .i64 x)]) (rs := (zcs b side d f (toB b side d x)).map zb6) noH (by simp [upd, GH, zbv, zcs, hx, zb6]) (.refl _) (.refl _ _ _ _) (by simp [go_sem]) ?_ ?_
    ·repeat first|with_reducible refine wV fun _=>?_|simp [go_sem, hel, GH, hte]
     refine zBn (hT x) (by simp [go_sem, hbl]) ?_
     repeat first|with_reducible refine wV fun _=>?_|simp [go_sem, hel, GH, hte]
     rw [zbv, if_pos hx] at i2
     refine zBm (hrec f (by omega) (f, toB b side d x) ⟨rfl, i2⟩) ?_ (by simp)
     simp [go_sem, zah, hbl, hg, GH]
    ·repeat first|with_reducible refine wV fun _=>?_|simp [go_sem, hel, GH, hte]
  ·have hm : zbv b side d f x = 0 := by cases f <;> simp [zbv, hx]
   have hr : zcs b side d f x = [] := by cases f <;> simp [zcs, hx]
   simp only [hx, decide_false]
   refine aGC.skip (.v (.bool false)) ?_
   repeat first|with_reducible refine wV fun _=>?_|simp [go_sem, hel, GH, hte]
   rw [← i2, hm, hr]
   exact .inl ⟨rfl, rfl⟩
 ·exact ⟨rfl, rfl⟩
 ·simp [go_sem, zah, hbl, hg, GH]
 ·simp
def zpy (n : Nat) : AV := .fn (.func 291) [] [.ref n 0 3 0 0, .ref (n + 1) 0 1 0 0, .ref (n + 2) 0 1 0 0, .ref (n + 3) 0 1 0 0]
def zpx (b : zaM) (side d c : Int) (n : Nat) : List (Nat × zbt) := [(n, .rows true 0 3 [zdf b]), (n + 1, .rows true 0 1 [[.v (.int .i64 side)]]), (n + 2, .rows true 0 1 [[.v (.int .i64 d)]]), (n + 3, .rows true 0 1 [[.v (.int .i64 c)]])]
theorem zut (b : zaM) (side d c : Int) : zgp Tryz.prog 282 [.agg (zdf b), .v (.int .i64 side), .v (.int .i64 d), .v (.int .i64 c)] zpy (zpx b side d c) 4 := by
 refine ⟨?_, fun n => ⟨by simp [go_sem, zpy], by simp [go_sem, zpx]⟩⟩
 refine zBp (by kernel_rfl) Tryz.func282 rfl rfl (Nat.le_of_ble_eq_true rfl) (by kernel_rfl) ?_
 repeat first|with_reducible refine wV fun _=>?_|simp [go_sem, zpy, zpx]
 simp [go_sem, zah]
theorem zlC (b : zaM) (hb : za7 b) (side d c : Int) : zaC Tryz.prog 255 [.agg (zdf b), .v (.int .i64 side), .v (.int .i64 d), .v (.int .i64 c)] (zas (zfL b side d c)) := by
 refine pF Tryz.func255 ?_
 have hbl : ∀ n, (∀ c' ∈ zdf b, Bel n c') = True := fun n => by simp [go_sem]
 have hel : (zdf b).length = 3 := rfl
 have hS : zgp Tryz.prog 282 [.agg (zdf b), .v (.int .i64 side), .v (.int .i64 d), .v (.int .i64 c)] (fun n => zpy n) (fun n => zpx b side d c n) 4 := zut b side d c
 have hQ := fun k => zus b hb side d c k
 simp only [zpy, zpx] at hS
 have hte : (zdf b).take 3 = zdf b := rfl
 obtain ⟨eb, heb⟩ : ∃ eb, eb = zdf b := ⟨_, rfl⟩
 rw [← heb] at hbl hel hS hQ hte ⊢
 have hc1 := hb.c1
 have hc0 := hb.c0
 repeat first|with_reducible refine wV fun _=>?_|simp [go_sem, hel, hte, GH]
 refine zBs hS (by simp [go_sem, hbl]) ?_
 repeat first|with_reducible refine wV fun _=>?_|simp [go_sem, hel, hte, GH]
 refine zey.mk [.fp eb, .fp [.v (.int .i64 side)], .fp [.v (.int .i64 d)], .fp [.v (.int .i64 c)]] (zaL _ [3, 4, 5, 6]) (hQ (b.cells.toNat + 1)) (zc6 _ _) ?_ (by simp [go_sem, hbl]) (by simp [zb6]) ?_
 ·refine zai.cons (.frzP rfl ?_ ?_ ?_ ?_) (zai.cons (.frzP rfl ?_ ?_ ?_ ?_) (zai.cons (.frzP rfl ?_ ?_ ?_ ?_) (zai.cons (.frzP rfl ?_ ?_ ?_ ?_) .nil))) <;> first | exact zai.refl _ _ _ _ | simp [zaL, zaS, upd]
 refine Fgt.to (zBF (α := Nat × Int × List Int) (fun a => ([(7, .ref 1 0 1 0 0), (9, .ref 2 0 1 0 0)], [(1, .rows true 0 1 [[.v (.int .i64 c)]]), (2, .rows true 0 1 [[.sl 7 a.2.2.length 1 0 a.2.2.length]]), (7, .rows true a.2.2.length 1 (a.2.2.map zb6))], 8))
  (fun rows a => rows = (zcs b side d a.1 a.2.1).map zb6 ∧ zbv b side d a.1 a.2.1 = zbv b side d (b.cells.toNat + 1) (toB b side d c) ∧ a.1 + a.2.2.length = b.cells.toNat + 1 ∧ a.2.1 < b.cells ∧ a.2.2.Nodup ∧
   (∀ y ∈ a.2.2, 0 ≤ y ∧ y < b.cells) ∧ zfL b side d c = zd3 b side d c a.1 a.2.1 a.2.2) ?_ ?_ _ (b.cells.toNat + 1, toB b side d c, []) ?_) ?_ ?_
 ·rintro ⟨f, x, seen⟩ ⟨i0, i1, i2, i3, i4, i5, i6⟩
  simp only at i0 i1 i2 i3 i4 i5 i6
  have hsl : seen.length ≤ b.cells.toNat := zf9 _ _ i4 (fun y hy => by have := i5 y hy; omega)
  obtain ⟨f, rfl⟩ : ∃ f', f = f' + 1 := ⟨f - 1, by omega⟩
  have hx : ¬ 0 ≤ x := fun hx => by simp [zcs, hx] at i0
  rw [zbv, if_neg hx] at i1
  rw [zd3, if_neg (fun h => hx h.1)] at i6
  refine ⟨i1.symm, ?_⟩
  rw [i6]
  repeat first|with_reducible refine wV fun _=>?_|simp [go_sem, hel]
  exact frX
 ·rintro xs rs ⟨f, x, seen⟩ ⟨i0, i1, i2, i3, i4, i5, i6⟩ hrec
  simp only at i0 i1 i2 i3 i4 i5 i6
  have hsl : seen.length ≤ b.cells.toNat := zf9 _ _ i4 (fun y hy => by have := i5 y hy; omega)
  cases f with
  | zero => simp [zcs] at i0
  | succ f =>
  have hx : 0 ≤ x := by
   by_cases hx : 0 ≤ x
   ·exact hx
   ·simp [zcs, hx] at i0
  rw [zcs, if_pos hx] at i0
  simp only [List.map_cons, List.cons.injEq] at i0
  obtain ⟨rfl, rfl⟩ := i0
  rw [zbv, if_pos hx] at i1
  rw [zd3] at i6
  refine zBI (Nat.zero_le _) ?_
  repeat first|with_reducible refine wV fun _=>?_|simp [go_sem, hel, GH, zb6]
  refine zBZ [zas seen, .v (.int .i64 x)] (.v (.bool (decide (x ∈ seen)))) (fun _ => zmA seen x (by omega)) (.v _) ?_ (by simp [go_sem]) ?_
  ·refine zai.cons ?_ (zai.cons (.refl _) zai.nil)
   refine LeV.frz rfl ?_ ?_ (zBx ?_) <;> simp [noH, List.take_of_length_le]
  repeat first|with_reducible refine wV fun _=>?_|simp [go_sem, hel, GH]
  refine zBo (fun hc => ?_) (fun hc => ?_) <;> simp at hc
  ·rw [if_neg (by rintro ⟨h1, h2, h3⟩; rcases hc with h | h <;> contradiction)] at i6
   rw [i6]
   repeat first|with_reducible refine wV fun _=>?_|simp [go_sem, hel, GH]
   exact frX
  ·rw [if_pos ⟨hx, by simpa using hc⟩] at i6
   repeat first|with_reducible refine wV fun _=>?_|simp [go_sem, hel, GH]
   refine Fgt.to (hrec (f, toB b side d x, seen ++ [x]) ⟨rfl, i1, by simp only [List.length_append, List.length_singleton]; omega, zfV hb _ _ _, ?_, ?_, i6⟩) ?_ (by simp)
   ·refine List.nodup_append.2 ⟨i4, by simp, ?_⟩
    intro y hy z hz
    simp at hz
    subst hz
    rintro rfl
    exact hc.2 hy
   ·intro y hy
    rcases List.mem_append.1 hy with h | h
    ·exact i5 y h
    ·simp at h; omega
   ·simp [go_sem, zah, GH] <;> (first|done|exact blX)
 ·exact ⟨rfl, rfl, by simp, zfV hb _ _ _, by simp, by simp, rfl⟩
 ·simp [go_sem, zah]
 ·simp
theorem zfI (c : Int) : zaC Tryz.prog 138 [.v (.int .i64 c)] (.tup [.v (.int .i64 (zaq c).1), .v (.int .i64 (zaq c).2)]) := by
 refine pF Tryz.func138 ?_
 unfold zaq
 by_cases h1 : c < 1
 ·rw [if_neg (by omega)]
  repeat first|with_reducible refine wV fun _=>?_|simp [go_sem, h1]
 ·by_cases h2 : 12 < c
  ·rw [if_neg (by omega)]
   repeat first|with_reducible refine wV fun _=>?_|simp [go_sem, h1, h2]
  ·rw [if_pos (by omega)]
   have e1 : (c - 1).tdiv 2 = (c - 1) / 2 := Int.tdiv_eq_ediv_of_nonneg (by omega)
   have e2 : (c - 1).tmod 2 = (c - 1) % 2 := Int.tmod_eq_emod_of_nonneg (by omega)
   have b1 : 0 ≤ (c - 1).tdiv 2 ∧ (c - 1).tdiv 2 ≤ 12 := by omega
   have b2 : 0 ≤ (c - 1).tmod 2 ∧ (c - 1).tmod 2 ≤ 12 := by omega
   clear e1 e2
   repeat first|with_reducible refine wV fun _=>?_|simp [go_sem, h1, h2]
theorem zdO (k s : Int) : zaC Tryz.prog 122 [.v (.int .i64 k), .v (.int .i64 s)] (.v (.int .i64 (zaD k s))) := by
 refine pF Tryz.func122 ?_
 unfold zaD
 by_cases h1 : k < 0
 ·rw [if_neg (by omega)]
  repeat first|with_reducible refine wV fun _=>?_|simp [go_sem, h1]
 by_cases h2 : 6 ≤ k
 ·rw [if_neg (by omega)]
  repeat first|with_reducible refine wV fun _=>?_|simp [go_sem, h1, h2]
 by_cases h3 : s < 0
 ·rw [if_neg (by omega)]
  repeat first|with_reducible refine wV fun _=>?_|simp [go_sem, h1, h2, h3]
 by_cases h4 : 1 < s
 ·rw [if_neg (by omega)]
  repeat first|with_reducible refine wV fun _=>?_|simp [go_sem, h1, h2, h3, h4]
 ·rw [if_pos (by omega), show 2 * k + 1 + s = 1 + 2 * k + s by omega]
  repeat first|with_reducible refine wV fun _=>?_|simp [go_sem, h1, h2, h3, h4]
theorem zl0 (x : Int) : zaC Tryz.prog 155 [.v (.int .i64 x)] (.v (.bool false)) := by
 refine pF Tryz.func155 ?_
 repeat first|with_reducible refine wV fun _=>?_|simp [go_sem]
theorem zdI (a b : Int) : zaC Tryz.prog 96 [.v (.int .i64 a), .v (.int .i64 b)] (.v (.int .i64 (zbf a b))) := by
 refine pF Tryz.func96 ?_
 repeat first|with_reducible refine wV fun _=>?_|simp [go_sem]
 refine zBn (zl0 a) (by simp [go_sem]) ?_
 repeat first|with_reducible refine wV fun _=>?_|simp [go_sem]
 refine zBn (zl0 b) (by simp [go_sem]) ?_
 unfold zbf
 by_cases h1 : a < b
 ·rw [if_pos h1]
  repeat first|with_reducible refine wV fun _=>?_|simp [go_sem, h1]
 ·by_cases h2 : b < a
  ·rw [if_neg h1, if_pos h2]
   repeat first|with_reducible refine wV fun _=>?_|simp [go_sem, h1, h2]
  ·rw [if_neg h1, if_neg h2]
   repeat first|with_reducible refine wV fun _=>?_|simp [go_sem, h1, h2]
def orI : List Int → Int
 | [] => 0
 | x :: l => if x = 0 then orI l else x
theorem zrO (l : List Int) (hl : zeS l) : zaC Tryz.prog 94 [zas l] (.v (.int .i64 (orI l))) := by
 refine pF Tryz.func94 ?_
 unfold zeS at hl
 repeat first|with_reducible refine wV fun _=>?_|simp [go_sem]
 refine zBm (zBr (α := Nat) (fun j => ⟨[(3, .v (.int .i64 0)), (6, zas l), (7, .v (.int .i64 l.length)), (8, .v (.int .i64 j))], [], 0⟩)
  (fun d j => j + d = l.length ∧ orI l = orI (l.drop j)) ?_ l.length 0 ?_) ?_ ?_
 ·rintro d j ⟨i1, i2⟩ hrec
  repeat first|with_reducible refine wV fun _=>?_|simp [go_sem]
  refine zBo (fun hj => ?_) (fun hj => ?_) <;> simp at hj
  ·rw [zfB hj, orI] at i2
   repeat first|with_reducible refine wV fun _=>?_|simp [go_sem, hj]
   by_cases h0 : nth l j = 0
   ·rw [if_pos h0] at i2
    repeat first|with_reducible refine wV fun _=>?_|simp [go_sem, h0]
    refine zBm (hrec (d - 1) (by omega) (j + 1) ⟨by omega, i2⟩) ?_ (by simp)
    simp [go_sem, zah]
   ·rw [if_neg h0] at i2
    rw [i2]
    repeat first|with_reducible refine wV fun _=>?_|simp [go_sem, h0]
  ·rw [List.drop_eq_nil_of_le hj, orI] at i2
   rw [i2]
   repeat first|with_reducible refine wV fun _=>?_|simp [go_sem]
 ·simp
 ·simp [go_sem, zah]
 ·simp
theorem zfd (a b : List Int) (ha : zeS a) (hb : zeS b) : zaC Tryz.prog 95 [zas a, zas b] (.v (.int .i64 (zez a b))) := by
 refine pF Tryz.func95 ?_
 unfold zeS at ha hb
 repeat first|with_reducible refine wV fun _=>?_|simp [go_sem]
 refine zBm (zBr (α := Nat) (fun j => ⟨[(0, zas a), (1, zas b), (9, zas a), (10, .v (.int .i64 a.length)), (11, .v (.int .i64 j))], [], 0⟩)
  (fun d j => j + d = a.length ∧ j ≤ b.length ∧ zez a b = zez (a.drop j) (b.drop j)) ?_ a.length 0 ?_) ?_ ?_
 ·rintro d j ⟨i1, i2, i3⟩ hrec
  repeat first|with_reducible refine wV fun _=>?_|simp [go_sem]
  refine zBo (fun hj => ?_) (fun hj => ?_) <;> simp at hj
  ·rw [zfB hj] at i3
   repeat first|with_reducible refine wV fun _=>?_|simp [go_sem, hj]
   by_cases hk : j < b.length
   ·rw [zfB hk, zez] at i3
    have hk' : ¬ b.length ≤ j := by omega
    repeat first|with_reducible refine wV fun _=>?_|simp [go_sem, hj, hk, hk']
    refine zBn (zdI _ _) (by simp [go_sem]) ?_
    by_cases he : nth a j = nth b j
    ·rw [if_pos he] at i3
     have hn : zbf (nth a j) (nth b j) = 0 := by simp [zbf, he]
     rw [hn]
     repeat first|with_reducible refine wV fun _=>?_|simp [go_sem]
     refine zBm (hrec (d - 1) (by omega) (j + 1) ⟨by omega, by omega, i3⟩) ?_ (by simp)
     simp [go_sem, zah]
    ·rw [if_neg he] at i3
     have hn : zbf (nth a j) (nth b j) ≠ 0 := by unfold zbf; split <;> (try split) <;> omega
     rw [i3]
     repeat first|with_reducible refine wV fun _=>?_|simp [go_sem, hn]
   ·have hk' : b.length ≤ j := by omega
    rw [List.drop_eq_nil_of_le hk', zgr] at i3
    have : zez a b = 1 := by rw [i3]; unfold zbf; rw [if_neg (by simp only [List.length_cons]; omega), if_pos (by simp only [List.length_cons]; omega)]
    rw [this]
    repeat first|with_reducible refine wV fun _=>?_|simp [go_sem, hj, hk, hk']
  ·have hja : j = a.length := by omega
   subst hja
   rw [List.drop_eq_nil_of_le (Nat.le_refl _), zhe] at i3
   rw [i3]
   unfold zbf
   by_cases hb' : a.length < b.length
   ·rw [if_pos (by simp; omega)]
    repeat first|with_reducible refine wV fun _=>?_|simp [go_sem, hb']
   ·rw [if_neg (by simp; omega), if_neg (by omega)]
    repeat first|with_reducible refine wV fun _=>?_|simp [go_sem, hb']
 ·simp
 ·simp [go_sem, zah]
 ·simp
theorem zAs (p q : zaj) : orI [zez p.at_ q.at_, zez p.h0 q.h0, zez p.h1 q.h1, zbf p.rights q.rights, zbf p.side q.side] = zbB p q := by
 unfold zbB
 simp only [orI]
 repeat' split
 all_goals first | rfl | omega
theorem zbL (p q : zaj) (hp : za0 p) (hq : za0 q) : zaC Tryz.prog 42 [.agg (zad p), .agg (zad q)] (.v (.int .i64 (zbB p q))) := by
 refine pF Tryz.func42 ?_
 obtain ⟨p1, p2, p3⟩ := hp
 obtain ⟨q1, q2, q3⟩ := hq
 rw [← zAs]
 have c1 := zfd _ _ p1 q1
 have c2 := zfd _ _ p2 q2
 have c3 := zfd _ _ p3 q3
 have c4 := zdI p.rights q.rights
 have c5 := zdI p.side q.side
 generalize zez p.at_ q.at_ = x1 at *
 generalize zez p.h0 q.h0 = x2 at *
 generalize zez p.h1 q.h1 = x3 at *
 generalize zbf p.rights q.rights = x4 at *
 generalize zbf p.side q.side = x5 at *
 repeat first|with_reducible refine wV fun _=>?_|simp [go_sem]
 refine zBq c1 (by simp [go_sem]) ?_
 repeat first|with_reducible refine wV fun _=>?_|simp [go_sem]
 refine zBq c2 (by simp [go_sem]) ?_
 repeat first|with_reducible refine wV fun _=>?_|simp [go_sem]
 refine zBq c3 (by simp [go_sem]) ?_
 repeat first|with_reducible refine wV fun _=>?_|simp [go_sem]
 refine zBq c4 (by simp [go_sem]) ?_
 repeat first|with_reducible refine wV fun _=>?_|simp [go_sem]
 refine zBq c5 (by simp [go_sem]) ?_
 repeat first|with_reducible refine wV fun _=>?_|simp [go_sem]
 refine zay.frz [zas [x1, x2, x3, x4, x5]] _ [31] [(31, some (.rows false 0 1 ([x1, x2, x3, x4, x5].map zb6)))] (zrO _ (by unfold zeS; simp)) ?_ ?_ (by simp [go_sem]) ?_
 ·intro p hp
  simp only [List.mem_singleton] at hp
  subst hp
  exact ⟨by simp, 0, 1, _, rfl, by simp [upd, go_sem]⟩
 ·intro h₁ hS
  have h7 := hS 31 (by simp)
  simp [go_sem] at h7
  exact .cons (zam h7.symm (by simp) (by simp [zao, upd]) (by simp [go_sem])) .nil
 ·repeat first|with_reducible refine wV fun _=>?_|simp [go_sem]
end Go.Av
end
section
/- Contracts, runs of the program: own, man, provided, and the steps. -/
open Go Go.Proofs
namespace Go.Av
def zsb (n : Nat) (s : StD) : AV := .agg [.sl (n + 2) 1 1 0 s.p.at_.length, .sl (n + 81) 1 1 0 s.p.h0.length, .sl (n + 161) 1 1 0 s.p.h1.length, .v (.int .i64 s.p.rights), .v (.int .i64 s.p.side), .v (.int .i64 s.kind), .v (.int .i64 s.cursor), .v (.bool s.took)]
def zpn (n : Nat) (s : StD) : List (Nat × zbt) := [(n + 2, .rows true 1 1 (s.p.at_.map zb6)), (n + 81, .rows true 1 1 (s.p.h0.map zb6)), (n + 161, .rows true 1 1 (s.p.h1.map zb6))]
attribute [go_sem] zsb zpn
theorem zhu (s : StD) (ha : za0 s.p) : zgp Tryz.prog 121 [.agg (zal s)] (fun n => zsb n s) (fun n => zpn n s) 241 := by
 refine ⟨zBp (by kernel_rfl) Tryz.func121 rfl rfl (Nat.le_of_ble_eq_true rfl) (by kernel_rfl) ?_, fun n => ⟨by simp [go_sem], by simp [go_sem]⟩⟩
 obtain ⟨a1, a2, a3⟩ := ha
 have h1 := zdM s.p.at_ a1
 have h2 := zdM s.p.h0 a2
 have h3 := zdM s.p.h1 a3
 repeat first|with_reducible refine wV fun _=>?_|simp [go_sem]
 refine zBs h1 (by simp [go_sem]) ?_
 repeat first|with_reducible refine wV fun _=>?_|simp [go_sem]
 refine zBN 81 (by rfl) (h2) (by decide) (by simp [go_sem]) (by simp [go_sem]) (fun _ => zai.refl _ _ _ _) (by simp [go_sem]) (by simp [go_sem]) ?_
 repeat first|with_reducible refine wV fun _=>?_|simp [go_sem]
 refine zBN 161 (by rfl) (h3) (by decide) (by simp [go_sem]) (by simp [go_sem]) (fun _ => zai.refl _ _ _ _) (by simp [go_sem]) (by simp [go_sem]) ?_
 ((repeat (first|with_reducible (first|refine wL fun _=>?_|refine wD fun _=>?_|refine wZ ?_)|simp [go_sem])); refine zBP (by kernel_rfl) ?_)
 repeat first|with_reducible refine wV fun _=>?_|simp [go_sem]
 simp [go_sem, zah]
theorem znn (s : StD) (hc : s.cursor.toNat < s.p.at_.length) (h0 : 0 ≤ s.cursor) : zaC Tryz.prog 266 [.agg (zal s)] (.tup [.v (.int .i64 (zaq (nth s.p.at_ s.cursor.toNat)).1), .v (.int .i64 (zaq (nth s.p.at_ s.cursor.toNat)).2)]) := by
 refine pF Tryz.func266 ?_
 have hO := zfI (nth s.p.at_ s.cursor.toNat)
 generalize zaq (nth s.p.at_ s.cursor.toNat) = m at *
 repeat first|with_reducible refine wV fun _=>?_|simp [go_sem, hc]
 refine zBn hO (by simp [go_sem]) ?_
 repeat first|with_reducible refine wV fun _=>?_|simp [go_sem]
theorem zcB (s : StD) (b : Bool) : zaC Tryz.prog 265 [.agg (zal s), .v (.bool b)] (zaQ (zcV s b)) := by
 refine pF Tryz.func265 ?_
 cases b
 ·repeat first|with_reducible refine wV fun _=>?_|simp [go_sem, zcV]
 ·repeat first|with_reducible refine wV fun _=>?_|simp [go_sem, zcV]
  exact frX
abbrev zk4 (f : FuncId) (g : zaf) (s : StD) (n : Int) (r : List StD) : Prop := zaC Tryz.prog f [.agg (zal s), .agg (zab g), .v (.int .i64 n)] (zaQ r)
section
variable (g : zaf) (hg : GOk g) (s : StD) (hs : zfn g s) (n : Int)
theorem zxl (hg : GOk g) : zk4 208 g s n (zcV { s with cursor := toB g.board s.p.side n s.cursor } (decide (0 ≤ toB g.board s.p.side n s.cursor))) := by
 refine pF Tryz.func208 ?_
 have hT := zi4 g.board hg.board s.p.side n s.cursor
 have hP := zcB { s with cursor := toB g.board s.p.side n s.cursor }
 repeat first|with_reducible refine wV fun _=>?_|simp [go_sem]
 refine zBn hT (by simp [go_sem]) ?_
 repeat first|with_reducible refine wV fun _=>?_|simp [go_sem]
 refine zBn (hP _) (by simp [go_sem]) ?_
 repeat first|with_reducible refine wV fun _=>?_|simp [go_sem]
theorem zum (hg : GOk g) (hs : zfn g s) : zk4 209 g s n (zkF g.board s n) := by
 refine pF Tryz.func209 ?_
 have hL := zlC g.board hg.board s.p.side n s.cursor
 have hlm := zeG hg.board (side := s.p.side) (d := n) (c := s.cursor)
 have hll := zkb (b := g.board) (side := s.p.side) (d := n) (c := s.cursor)
 have c9 := hg.c9
 have c1 := hg.c1
 have hal := hs.p.al
 rw [show g.board.cells = g.cells from rfl] at hlm hll
 unfold zkF
 generalize zfL g.board s.p.side n s.cursor = line at *
 generalize hR : zbQ s line = R
 repeat first|with_reducible refine wV fun _=>?_|simp [go_sem]
 refine zBn hL (by simp [go_sem]) ?_
 repeat first|with_reducible refine wV fun _=>?_|simp [go_sem]
 refine zBm (zBr (α := Nat × List StD) (fun a => ⟨[(3, .ref 0 0 8 0 0), (7, .sl 2 a.2.length 8 0 a.2.length), (19, zas line), (20, .v (.int .i64 line.length)), (21, .v (.int .i64 a.1))], [(0, .rows true 0 8 [zal s]), (2, .rows true a.2.length 8 (a.2.map zal))], 3⟩)
  (fun d a => a.1 + d = line.length ∧ a.2.length = a.1 ∧ R = a.2 ++ zbQ s (line.drop a.1)) ?_ line.length (0, []) ?_) ?_ ?_
 ·rintro d ⟨i, out⟩ ⟨i1, i2, i3⟩ hrec
  simp only at i1 i2 i3
  repeat first|with_reducible refine wV fun _=>?_|simp [go_sem]
  refine zBo (fun hi => ?_) (fun hi => ?_) <;> simp at hi
  ·have hli := hlm _ (zan hi)
   have hlt : (nth line i).toNat < s.p.at_.length := by omega
   rw [zaO hi, zbQ] at i3
   repeat first|with_reducible refine wV fun _=>?_|simp [go_sem, hi, hlt]
   refine zBo (fun hz => ?_) (fun hz => ?_) <;> simp at hz
   ·rw [if_neg (by simpa using hz)] at i3
    repeat first|with_reducible refine wV fun _=>?_|simp [go_sem]
    rw [i3]
    exact frX
   ·rw [if_pos (by simpa using hz)] at i3
    repeat first|with_reducible refine wV fun _=>?_|simp [go_sem]
    refine zBm (hrec (d - 1) (by omega) (i + 1, out ++ [{ s with cursor := nth line i }]) ⟨by simp only; omega, by simp; omega, by simpa using i3⟩) ?_ (by simp)
    simp [go_sem, zah]
  ·rw [List.drop_eq_nil_of_le hi, zbQ] at i3
   repeat first|with_reducible refine wV fun _=>?_|simp [go_sem]
   rw [i3]
   exact frX
 ·simp [hR]
 ·simp [go_sem, zah]
 ·simp
theorem zo8 (hg : GOk g) (hs : zfn g s) : s.cursor.toNat < s.p.at_.length ∧ 0 ≤ s.cursor ∧ (nth s.p.at_ s.cursor.toNat = 0 ∧ zaq (nth s.p.at_ s.cursor.toNat) = (-1, -1) ∨ nth s.p.at_ s.cursor.toNat ≠ 0 ∧ 0 ≤ (zaq (nth s.p.at_ s.cursor.toNat)).1 ∧ (zaq (nth s.p.at_ s.cursor.toNat)).1 < g.kinds.length ∧
  ((zaq (nth s.p.at_ s.cursor.toNat)).2 = 0 ∨ (zaq (nth s.p.at_ s.cursor.toNat)).2 = 1)) ∧ (s.p.side = 0 ∨ s.p.side = 1) := by
 have hal := hs.p.al
 have hc0 := hs.c0
 have hc1 := hs.c1
 have hcur : s.cursor.toNat < s.p.at_.length := by omega
 have hat := hs.p.at (i := s.cursor.toNat) (by omega)
 have hman := zaU hat.1 hat.2 hg.k6
 refine ⟨hcur, hc0, ?_, hs.p.s⟩
 rcases hman with ⟨h1, h2⟩ | ⟨h1, h2, h3, h4, _⟩
 ·exact .inl ⟨h1, h2⟩
 ·exact .inr ⟨h1, h2, h3, h4⟩
theorem ztz (hg : GOk g) (hs : zfn g s) : zk4 210 g s n (zcV s (decide ((zaq (nth s.p.at_ s.cursor.toNat)).1 < 0))) := by
 refine pF Tryz.func210 ?_
 obtain ⟨hcur, h0, hm, hsd⟩ := zo8 g s hg hs
 have e : decide ((zaq (nth s.p.at_ s.cursor.toNat)).1 < 0) = decide (nth s.p.at_ s.cursor.toNat = 0) := by
  rcases hm with ⟨h1, h2⟩ | ⟨h1, h2, _, _⟩
  ·rw [h2]; simp [h1]
  ·simp; omega
 rw [e]
 have hP := zcB s
 repeat first|with_reducible refine wV fun _=>?_|simp [go_sem, hcur]
 refine zBq (hP _) (by simp [go_sem]) ?_
 repeat first|with_reducible refine wV fun _=>?_|simp [go_sem]
theorem ztB (hg : GOk g) (hs : zfn g s) : zk4 211 g s n (zcV s (decide (0 ≤ (zaq (nth s.p.at_ s.cursor.toNat)).1 ∧ (zaq (nth s.p.at_ s.cursor.toNat)).2 ≠ s.p.side))) := by
 refine pF Tryz.func211 ?_
 obtain ⟨hcur, h0, hm, hsd⟩ := zo8 g s hg hs
 have hO := znn s hcur h0
 have hP := zcB s
 have e : decide (0 ≤ (zaq (nth s.p.at_ s.cursor.toNat)).1 ∧ (zaq (nth s.p.at_ s.cursor.toNat)).2 ≠ s.p.side) = decide ((zaq (nth s.p.at_ s.cursor.toNat)).2 = 1 - s.p.side) := by
  rcases hm with ⟨h1, h2⟩ | ⟨h1, h2, _, _⟩
  ·rw [h2]; simp; omega
  ·simp only [decide_eq_decide]; omega
 rw [e]
 generalize zaq (nth s.p.at_ s.cursor.toNat) = m at *
 repeat first|with_reducible refine wV fun _=>?_|simp [go_sem]
 refine zBn hO (by simp [go_sem]) ?_
 repeat first|with_reducible refine wV fun _=>?_|simp [go_sem]
 refine zBn (hP _) (by simp [go_sem]) ?_
 repeat first|with_reducible refine wV fun _=>?_|simp [go_sem]
theorem zqL (hg : GOk g) (hs : zfn g s) : zk4 212 g s n (zcV s (decide (0 ≤ (zaq (nth s.p.at_ s.cursor.toNat)).1 ∧ (zaq (nth s.p.at_ s.cursor.toNat)).2 = s.p.side))) := by
 refine pF Tryz.func212 ?_
 obtain ⟨hcur, h0, hm, hsd⟩ := zo8 g s hg hs
 have hO := znn s hcur h0
 have hP := zcB s
 have e : decide (0 ≤ (zaq (nth s.p.at_ s.cursor.toNat)).1 ∧ (zaq (nth s.p.at_ s.cursor.toNat)).2 = s.p.side) = decide ((zaq (nth s.p.at_ s.cursor.toNat)).2 = s.p.side) := by
  rcases hm with ⟨h1, h2⟩ | ⟨h1, h2, _, _⟩
  ·rw [h2]; simp; omega
  ·simp only [decide_eq_decide]; omega
 rw [e]
 generalize zaq (nth s.p.at_ s.cursor.toNat) = m at *
 repeat first|with_reducible refine wV fun _=>?_|simp [go_sem]
 refine zBn hO (by simp [go_sem]) ?_
 repeat first|with_reducible refine wV fun _=>?_|simp [go_sem]
 refine zBn (hP _) (by simp [go_sem]) ?_
 repeat first|with_reducible refine wV fun _=>?_|simp [go_sem]
theorem zxa (hg : GOk g) (hs : zfn g s) : zk4 213 g s n (znz g s) := by
 refine pF Tryz.func213 ?_
 obtain ⟨hcur, h0, hm, hsd⟩ := zo8 g s hg hs
 have hO := znn s hcur h0
 have hP := zcB
 have hcp := zhu s (hs.p.fits hg)
 unfold znz
 generalize hme : zaq (nth s.p.at_ s.cursor.toNat) = m at *
 obtain ⟨mk, ms⟩ := m
 simp only [Prod.mk.injEq] at hm
 repeat first|with_reducible refine wV fun _=>?_|simp [go_sem]
 refine zBn hO (by simp [go_sem]) ?_
 repeat first|with_reducible refine wV fun _=>?_|simp [go_sem]
 refine zBo (fun hc => ?_) (fun hc => ?_) <;> simp at hc
 ·rw [if_pos (by omega)]
  repeat first|with_reducible refine wV fun _=>?_|simp [go_sem]
 ·rw [if_neg (by omega)]
  repeat first|with_reducible refine wV fun _=>?_|simp [go_sem]
  refine zBs hcp (by simp [go_sem]) ?_
  have hmk : mk.toNat < g.kinds.length := by omega
  have hmk' : 0 ≤ mk := by omega
  repeat first|with_reducible refine wV fun _=>?_|simp [go_sem, hcur, hmk]
  refine zBo (fun hk => ?_) (fun hk => ?_)
  ·rw [if_neg (by simpa using hk)]
   repeat first|with_reducible refine wV fun _=>?_|simp [go_sem, clr]
   (first|done|exact dpX)
  ·rw [if_pos (by simpa using hk)]
   have hl0 := hs.p.h0.len
   have hl1 := hs.p.h1.len
   rcases hsd with hsd | hsd
   ·have hmk0 : mk.toNat < s.p.h0.length := by omega
    have hv := hs.p.h0.v _ hmk0
    obtain ⟨u, hu⟩ : ∃ u : StD, u = { s with p := (clr s.p s.cursor).withHand s.p.side ((s.p.hand s.p.side).set mk.toNat (nth (s.p.hand s.p.side) mk.toNat + 1)), took := true } := ⟨_, rfl⟩
    have hres : (if 8 < nth (s.p.hand s.p.side) mk.toNat + 1 then [] else [u]) = zcV u (decide (nth s.p.h0 mk.toNat + 1 ≤ 8)) := by
     have : s.p.hand s.p.side = s.p.h0 := by simp [zaj.hand, hsd]
     rw [this]
     unfold zcV
     by_cases h8 : 8 < nth s.p.h0 mk.toNat + 1
     ·rw [if_pos h8, if_neg (by simp; omega)]
     ·rw [if_neg h8, if_pos (by simp; omega)]
    rw [← hu, hres]
    have hue : zal u = [.lst 1 ((s.p.at_.map zb6).set s.cursor.toNat [.v (.int .i64 0)]), .lst 1 ((s.p.h0.map zb6).set mk.toNat [.v (.int .i64 (nth s.p.h0 mk.toNat + 1))]), .lst 1 (s.p.h1.map zb6), .v (.int .i64 s.p.rights), .v (.int .i64 s.p.side), .v (.int .i64 s.kind), .v (.int .i64 s.cursor), .v (.bool true)] := by
     rw [hu]; simp [zal, zaj.withHand, zaj.hand, clr, hsd, zas, zb6, List.map_set]
    have hP' := hP u
    rw [hue, hsd] at hP'
    (repeat (first|with_reducible (first|refine wL fun _=>?_|refine wD fun _=>?_|refine wE ?_)|simp [go_sem, hsd, hmk0, hcur]))
    refine zn2.frz (zaL _ [4, 83, 163]) (zc6 _ _) ?_
    repeat first|with_reducible refine wV fun _=>?_|simp [go_sem, hsd, hmk0, hcur, zaL, zaS]
    refine zay.frz _ _ [4, 83, 163] [] (hP' (decide (nth s.p.h0 mk.toNat + 1 ≤ 8))) (by simp) ?_ (by simp [go_sem]) ?_
    ·intro h₁ hS
     have e4 := hS 4 (by simp)
     have e5 := hS 83 (by simp)
     have e6 := hS 163 (by simp)
     simp [upd, zaL, zaS] at e4 e5 e6
     refine .cons (.agg (.cons (zam e4.symm (by simp) (by simp [zao, ← e4]) (by simp; exact List.take_of_length_le (by simp))) (.cons (zam e5.symm (by simp) (by simp [zao, ← e5]) (by simp; exact List.take_of_length_le (by simp))) (.cons (zam e6.symm (by simp) (by simp [zao, ← e6]) (by simp; exact List.take_of_length_le (by simp))) (.refl _ _ _ _))))) (.refl _ _ _ _)
    ·repeat first|with_reducible refine wV fun _=>?_|simp [go_sem]
   ·have hmk0 : mk.toNat < s.p.h1.length := by omega
    have hv := hs.p.h1.v _ hmk0
    obtain ⟨u, hu⟩ : ∃ u : StD, u = { s with p := (clr s.p s.cursor).withHand s.p.side ((s.p.hand s.p.side).set mk.toNat (nth (s.p.hand s.p.side) mk.toNat + 1)), took := true } := ⟨_, rfl⟩
    have hres : (if 8 < nth (s.p.hand s.p.side) mk.toNat + 1 then [] else [u]) = zcV u (decide (nth s.p.h1 mk.toNat + 1 ≤ 8)) := by
     have : s.p.hand s.p.side = s.p.h1 := by simp [zaj.hand, hsd]
     rw [this]
     unfold zcV
     by_cases h8 : 8 < nth s.p.h1 mk.toNat + 1
     ·rw [if_pos h8, if_neg (by simp; omega)]
     ·rw [if_neg h8, if_pos (by simp; omega)]
    rw [← hu, hres]
    have hue : zal u = [.lst 1 ((s.p.at_.map zb6).set s.cursor.toNat [.v (.int .i64 0)]), .lst 1 (s.p.h0.map zb6), .lst 1 ((s.p.h1.map zb6).set mk.toNat [.v (.int .i64 (nth s.p.h1 mk.toNat + 1))]), .v (.int .i64 s.p.rights), .v (.int .i64 s.p.side), .v (.int .i64 s.kind), .v (.int .i64 s.cursor), .v (.bool true)] := by
     rw [hu]; simp [zal, zaj.withHand, zaj.hand, clr, hsd, zas, zb6, List.map_set]
    have hP' := hP u
    rw [hue, hsd] at hP'
    (repeat (first|with_reducible (first|refine wL fun _=>?_|refine wD fun _=>?_|refine wE ?_)|simp [go_sem, hsd, hmk0, hcur]))
    refine zn2.frz (zaL _ [4, 83, 163]) (zc6 _ _) ?_
    repeat first|with_reducible refine wV fun _=>?_|simp [go_sem, hsd, hmk0, hcur, zaL, zaS]
    refine zay.frz _ _ [4, 83, 163] [] (hP' (decide (nth s.p.h1 mk.toNat + 1 ≤ 8))) (by simp) ?_ (by simp [go_sem]) ?_
    ·intro h₁ hS
     have e4 := hS 4 (by simp)
     have e5 := hS 83 (by simp)
     have e6 := hS 163 (by simp)
     simp [upd, zaL, zaS] at e4 e5 e6
     refine .cons (.agg (.cons (zam e4.symm (by simp) (by simp [zao, ← e4]) (by simp; exact List.take_of_length_le (by simp))) (.cons (zam e5.symm (by simp) (by simp [zao, ← e5]) (by simp; exact List.take_of_length_le (by simp))) (.cons (zam e6.symm (by simp) (by simp [zao, ← e6]) (by simp; exact List.take_of_length_le (by simp))) (.refl _ _ _ _))))) (.refl _ _ _ _)
    ·repeat first|with_reducible refine wV fun _=>?_|simp [go_sem]
theorem zwT (hg : GOk g) (hs : zfn g s) : zk4 214 g s n (znu g s n) := by
 refine pF Tryz.func214 ?_
 have hT := zi4 g.board hg.board s.p.side n s.cursor
 have hal := hs.p.al
 have hc0 := hs.c0
 have hc1 := hs.c1
 have hcur : s.cursor.toNat < s.p.at_.length := by omega
 have hcp := zhu s (hs.p.fits hg)
 have hto := zfV hg.board s.p.side n s.cursor
 rw [show g.board.cells = g.cells from rfl] at hto
 unfold znu
 generalize toB g.board s.p.side n s.cursor = to at *
 repeat first|with_reducible refine wV fun _=>?_|simp [go_sem]
 refine zBn hT (by simp [go_sem]) ?_
 by_cases ht : to < 0
 ·rw [if_pos (.inr (.inl ht))]
  have ht0 : to.toNat = 0 := by omega
  have h0l : 0 < s.p.at_.length := by omega
  repeat first|with_reducible refine wV fun _=>?_|simp [go_sem, hcur, ht, ht0, h0l]
 ·have htl : to.toNat < s.p.at_.length := by omega
  have ht' : 0 ≤ to := by omega
  repeat first|with_reducible refine wV fun _=>?_|simp [go_sem, hcur, ht, htl]
  refine zBo (fun hc => ?_) (fun hc => ?_) <;> simp at hc
  ·rw [if_pos (by by_cases h : nth s.p.at_ s.cursor.toNat = 0; exact .inl h; exact .inr (hc.resolve_left h))]
   repeat first|with_reducible refine wV fun _=>?_|simp [go_sem]
  ·rw [if_neg (by rintro (h | h); exact hc.1 h; exact h hc.2)]
   repeat first|with_reducible refine wV fun _=>?_|simp [go_sem, hcur]
   refine zBs hcp (by simp [go_sem]) ?_
   repeat first|with_reducible refine wV fun _=>?_|simp [go_sem, hcur, htl]
   (first|done|exact dpX)
theorem zqv : zk4 215 g s n [{ s with kind := n }] := by
 refine pF Tryz.func215 ?_
 repeat first|with_reducible refine wV fun _=>?_|simp [go_sem]
 exact frX
theorem zwC (h0 : 0 ≤ n) (h4 : n < 64) : zk4 216 g s n (zcV s (decide (zhO .i64 (s.p.rights.fdiv (2 ^ n.toNat)) 1 = 1))) := by
 refine pF Tryz.func216 ?_
 have hP := zcB s
 repeat first|with_reducible refine wV fun _=>?_|simp [go_sem]
 refine zBq (hP _) (by simp [go_sem]) ?_
 repeat first|with_reducible refine wV fun _=>?_|simp [go_sem]
theorem zwo (h0 : 0 ≤ n) (h4 : n ≤ 4) : zk4 217 g s n [{ s with p := { s.p with rights := zbz .i64 s.p.rights (2 ^ n.toNat) } }] := by
 refine pF Tryz.func217 ?_
 have hpn := zjg h0 h4
 repeat first|with_reducible refine wV fun _=>?_|simp [go_sem]
 exact frX
end
end Go.Av
end
section
open Go Go.Proofs
namespace Go.Av
theorem zw6 (g : zaf) (hg : GOk g) (s : StD) (hs : zfn g s) (x : Int × Int) (hx : zex g.next.length g.kinds.length g.rights x) :
  zaC Tryz.prog 172 [.agg (zab g), .agg (zal s), .agg (zau x)] (zaQ (zbY g s x)) := by
 refine pF Tryz.func172 ?_
 have r4 := hg.r4
 obtain ⟨op, n⟩ := x
 obtain ⟨xo, xd, xz, xk, xr⟩ := hx
 simp only at xo xd xz xk xr
 rcases (show op = 1 ∨ op = 2 ∨ op = 3 ∨ op = 4 ∨ op = 5 ∨ op = 6 ∨ op = 7 ∨ op = 8 ∨ op = 9 ∨ op = 10 by omega) with rfl | rfl | rfl | rfl | rfl | rfl | rfl | rfl | rfl | rfl
 ·have hS := zxl g s n hg
  repeat first|with_reducible refine wV fun _=>?_|simp [go_sem]
  refine zBq hS (by simp [go_sem]) ?_
  repeat first|with_reducible refine wV fun _=>?_|simp [go_sem]
  exact zBA (by simp [zbY, zaQ, zal, zas])
 ·have hS := zum g s n hg hs
  repeat first|with_reducible refine wV fun _=>?_|simp [go_sem]
  refine zBq hS (by simp [go_sem]) ?_
  repeat first|with_reducible refine wV fun _=>?_|simp [go_sem]
  exact zBA (by simp [zbY, zaQ, zal, zas])
 ·have hS := ztz g s n hg hs
  repeat first|with_reducible refine wV fun _=>?_|simp [go_sem]
  refine zBq hS (by simp [go_sem]) ?_
  repeat first|with_reducible refine wV fun _=>?_|simp [go_sem]
  exact zBA (by simp [zbY, zaQ, zal, zas])
 ·have hS := ztB g s n hg hs
  repeat first|with_reducible refine wV fun _=>?_|simp [go_sem]
  refine zBq hS (by simp [go_sem]) ?_
  repeat first|with_reducible refine wV fun _=>?_|simp [go_sem]
  exact zBA (by simp [zbY, zaQ, zal, zas])
 ·have hS := zqL g s n hg hs
  repeat first|with_reducible refine wV fun _=>?_|simp [go_sem]
  refine zBq hS (by simp [go_sem]) ?_
  repeat first|with_reducible refine wV fun _=>?_|simp [go_sem]
  exact zBA (by simp [zbY, zaQ, zal, zas])
 ·have hS := zxa g s n hg hs
  repeat first|with_reducible refine wV fun _=>?_|simp [go_sem]
  refine zBq hS (by simp [go_sem]) ?_
  repeat first|with_reducible refine wV fun _=>?_|simp [go_sem]
  exact zBA (by simp [zbY, zaQ, zal, zas])
 ·have hS := zwT g s n hg hs
  repeat first|with_reducible refine wV fun _=>?_|simp [go_sem]
  refine zBq hS (by simp [go_sem]) ?_
  repeat first|with_reducible refine wV fun _=>?_|simp [go_sem]
  exact zBA (by simp [zbY, zaQ, zal, zas])
 ·have hS := zqv g s n
  repeat first|with_reducible refine wV fun _=>?_|simp [go_sem]
  refine zBq hS (by simp [go_sem]) ?_
  repeat first|with_reducible refine wV fun _=>?_|simp [go_sem]
  exact zBA (by simp [zbY, zaQ, zal, zas])
 ·have hn := xr (by omega)
  have hS := zwC g s n hn.1 (by omega)
  repeat first|with_reducible refine wV fun _=>?_|simp [go_sem]
  refine zBq hS (by simp [go_sem]) ?_
  repeat first|with_reducible refine wV fun _=>?_|simp [go_sem]
  exact zBA (by simp [zbY, zaQ, zal, zas])
 ·have hn := xr (by omega)
  have hS := zwo g s n hn.1 (by omega)
  repeat first|with_reducible refine wV fun _=>?_|simp [go_sem]
  refine zBq hS (by simp [go_sem]) ?_
  repeat first|with_reducible refine wV fun _=>?_|simp [go_sem]
  exact zBA (by simp [zbY, zaQ, zal, zas])
end Go.Av
end
section
namespace Go.Av
open Go
theorem zaa.clear {P : Program} {f : FuncId} {args : List AV} {h : zav} {n : Nat} {K : zcS}
  (hc : zaa P f args h n (fun r h' n' => ∃ o mt g sz rs, sz ≠ 2 ∧ h' o = some (.rows mt g sz rs) ∧ K r (upd h' o (some (.rows mt g sz []))) n')) : zaa P f args h n K := by
 refine ⟨hc.1, fun M0 φ w vs hH hargs => (hc.2 M0 φ w vs hH hargs).mono ?_⟩
 rintro e w' ⟨v, φ', r, h', n', rfl, ⟨o, mt, g, sz, rs, hsz, ho, hK⟩, hH', hx, st⟩
 have hmut : Mut φ' (upd h' o (some (.rows mt g sz []))) = Mut φ' h' := by
  funext k
  refine propext ⟨?_, ?_⟩
  ·rintro ⟨o1, g1, sz1, rs1, g', a, bs, h1, h2, h3⟩
   by_cases he : o1 = o
   ·subst he
    rw [zaB] at h1
    simp only [Option.some.injEq, zbt.rows.injEq] at h1
    obtain ⟨rfl, rfl, rfl, _⟩ := h1
    exact ⟨o1, g, sz, rs, g', a, bs, ho, h2, h3⟩
   ·rw [zbs _ _ he] at h1
    exact ⟨o1, g1, sz1, rs1, g', a, bs, h1, h2, h3⟩
  ·rintro ⟨o1, g1, sz1, rs1, g', a, bs, h1, h2, h3⟩
   by_cases he : o1 = o
   ·subst he
    rw [ho] at h1
    simp only [Option.some.injEq, zbt.rows.injEq] at h1
    obtain ⟨rfl, rfl, rfl, _⟩ := h1
    exact ⟨o1, g, sz, [], g', a, bs, by rw [zaB], h2, h3⟩
   ·exact ⟨o1, g1, sz1, rs1, g', a, bs, by rw [zbs _ _ he]; exact h1, h2, h3⟩
 have hold : ∀ o1 mt1 g1 sz1 rs1, upd h' o (some (.rows mt g sz [])) o1 = some (.rows mt1 g1 sz1 rs1) → ∃ rs2, h' o1 = some (.rows mt1 g1 sz1 rs2) ∧ (rs1 = rs2 ∨ rs1 = []) := by
  intro o1 mt1 g1 sz1 rs1 h1
  by_cases he : o1 = o
  ·subst he
   rw [zaB] at h1
   simp only [Option.some.injEq, zbt.rows.injEq] at h1
   obtain ⟨rfl, rfl, rfl, rfl⟩ := h1
   exact ⟨rs, ho, .inr rfl⟩
  ·rw [zbs _ _ he] at h1
   exact ⟨rs1, h1, .inl rfl⟩
 refine ⟨v, φ', r, _, n', rfl, hK, ⟨hH'.m0, hH'.fresh, fun o1 mt1 g1 sz1 rs1 h1 => ?_, fun o1 o2 mt1 g1 sz1 rs1 mt2 g2 sz2 rs2 a a' b b' h1 h2 => ?_, by rw [hmut]; exact hH'.glob⟩, by rw [hmut]; exact hx, st.le, by rw [hmut]; exact st.or, st.fr, by rw [hmut]; exact st.mutd⟩
 ·obtain ⟨rs2, h2, h3⟩ := hold _ _ _ _ _ h1
  obtain ⟨A, hA, hobj⟩ := hH'.obj _ _ _ _ _ h2
  rcases h3 with rfl | rfl
  ·rw [hmut]; exact ⟨A, hA, hobj⟩
  ·by_cases he : o1 = o
   ·subst he
    rw [ho] at h2
    simp only [Option.some.injEq, zbt.rows.injEq] at h2
    obtain ⟨rfl, rfl, rfl, rfl⟩ := h2
    refine ⟨A, hA, hobj.imp (fun h => ⟨h.1, rfl⟩) ?_⟩
    rintro ⟨a, bs, e1, e3, ⟨C, T, e2, e4, e5, e6, e7, e8, e9⟩ | ⟨es, clk, e2, e4, e5, e6, e9⟩⟩
    ·exact ⟨a, bs, e1, e3, .inl ⟨C, T, e2, e4, e5, by simp, by simp; omega, by simp, by simpa using zaP.nil⟩⟩
    ·exact absurd e6.1 hsz
   ·rw [zbs _ _ he] at h1
    rw [h1] at h2
    simp only [Option.some.injEq, zbt.rows.injEq] at h2
    obtain ⟨_, _, _, rfl⟩ := h2
    rw [hmut]; exact ⟨A, hA, hobj⟩
 ·obtain ⟨rs3, h3, _⟩ := hold _ _ _ _ _ h1
  obtain ⟨rs4, h4, _⟩ := hold _ _ _ _ _ h2
  exact hH'.inj _ _ _ _ _ _ _ _ _ _ _ _ _ _ h3 h4
end Go.Av
end
section
open Go Go.Proofs
namespace Go.Av
theorem zsz (m : Int) (h0 : 0 ≤ m) (h1 : m ≤ 17179869184) : zgp Tryz.prog 262 [zBu, .v (.int .i64 m)] (fun n => .sl n 0 1 0 0) (fun n => [(n, .rows true 0 1 [])]) 1 := by
 refine ⟨?_, fun n => ⟨by simp [go_sem], by simp [go_sem]⟩⟩
 by_cases hm : m = 0
 ·subst hm
  refine zBp (by kernel_rfl) Tryz.func262 rfl rfl (Nat.le_of_ble_eq_true rfl) (by kernel_rfl) ?_
  repeat first|with_reducible refine wV fun _=>?_|simp [go_sem]
  simp [go_sem, zah]
 ·refine zaa.clear ?_
  refine zBp (by kernel_rfl) Tryz.func262 rfl rfl (Nat.le_of_ble_eq_true rfl) (by kernel_rfl) ?_
  repeat first|with_reducible refine wV fun _=>?_|simp [go_sem]
  (refine zBo (fun hF => by first | omega | (simp at hF; omega)) (fun hF => ?_); clear hF)
  repeat first|with_reducible refine wV fun _=>?_|simp [go_sem]
  (refine zBo (fun hT => ?_) (fun hT => by first | omega | (simp at hT; omega)); clear hT)
  repeat first|with_reducible refine wV fun _=>?_|simp [go_sem]
  refine ⟨0, 0, 1, by decide, ⟨rfl, rfl, rfl⟩, ?_⟩
  simp [go_sem, zah]
theorem znH (a b c d : List Int) (ha : a.length ≤ 1000) (hb : b.length ≤ 1000) (hc : c.length ≤ 1000) (hd : d.length ≤ 1000) : zaC Tryz.prog 205 [.lst 1 [[zas a], [zas b], [zas c], [zas d]]] (zas (a ++ b ++ c ++ d)) := by
 refine pF Tryz.func205 ?_
 repeat first|with_reducible refine wV fun _=>?_|simp [go_sem]
 refine zBv ?_
 repeat first|with_reducible refine wV fun _=>?_|simp [go_sem]
 (refine zBo (fun hF => by first | omega | (simp at hF; omega)) (fun hF => ?_); clear hF)
 repeat first|with_reducible refine wV fun _=>?_|simp [go_sem]
 refine zBv ?_
 repeat first|with_reducible refine wV fun _=>?_|simp [go_sem]
 (refine zBo (fun hF => by first | omega | (simp at hF; omega)) (fun hF => ?_); clear hF)
 repeat first|with_reducible refine wV fun _=>?_|simp [go_sem]
 refine zBv ?_
 repeat first|with_reducible refine wV fun _=>?_|simp [go_sem]
 (refine zBo (fun hF => by first | omega | (simp at hF; omega)) (fun hF => ?_); clear hF)
 repeat first|with_reducible refine wV fun _=>?_|simp [go_sem]
 refine zBv ?_
 repeat first|with_reducible refine wV fun _=>?_|simp [go_sem]
 (refine zBo (fun hF => by first | omega | (simp at hF; omega)) (fun hF => ?_); clear hF)
 repeat first|with_reducible refine wV fun _=>?_|simp [go_sem]
 refine zBv ?_
 repeat first|with_reducible refine wV fun _=>?_|simp [go_sem]
 refine zBs (zsz _ (by omega) (by omega)) (by simp [go_sem]) ?_
 repeat first|with_reducible refine wV fun _=>?_|simp [go_sem]
 refine zBv ?_
 repeat first|with_reducible refine wV fun _=>?_|simp [go_sem]
 refine zBv ?_
 repeat first|with_reducible refine wV fun _=>?_|simp [go_sem]
 refine zBv ?_
 repeat first|with_reducible refine wV fun _=>?_|simp [go_sem]
 refine zBv ?_
 repeat first|with_reducible refine wV fun _=>?_|simp [go_sem]
 refine zBv ?_
 repeat first|with_reducible refine wV fun _=>?_|simp [go_sem]
 exact frX

theorem zok : ∀ l : List Int, zen (l.map zox) = some l
 | [] => rfl
 | n :: l => by rw [List.map_cons, zox, zen, zok l]; rfl
def zrE (p : zaj) : List Int := p.at_ ++ p.h0 ++ p.h1 ++ [p.rights, p.side]
def zzE (p : zaj) : ByteArray := zeN (zrE p)
theorem zxx (p : zaj) (ha : p.at_.length ≤ 100) (hb : p.h0.length ≤ 100) (hc : p.h1.length ≤ 100) (hv : ∀ x ∈ zrE p, 0 ≤ x ∧ x ≤ 255) : zaC Tryz.prog 164 [.agg (zad p)] (.v (.string (zzE p))) := by
 refine pF Tryz.func164 ?_
 have hC : zaC Tryz.prog 205 [.lst 1 [[.lst 1 (p.at_.map zb6)], [.lst 1 (p.h0.map zb6)], [.lst 1 (p.h1.map zb6)], [.lst 1 [[.v (.int .i64 p.rights)], [.v (.int .i64 p.side)]]]]] (zas (p.at_ ++ p.h0 ++ p.h1 ++ [p.rights, p.side])) :=
  znH p.at_ p.h0 p.h1 [p.rights, p.side] (by omega) (by omega) (by omega) (by simp)
 have hll : (zrE p).length ≤ 302 := by simp [zrE]; omega
 unfold zzE
 rw [show p.at_ ++ p.h0 ++ p.h1 ++ [p.rights, p.side] = zrE p from rfl] at hC
 generalize zrE p = l at *
 repeat first|with_reducible refine wV fun _=>?_|simp [go_sem]
 refine zBt [1, 2] hC ?_ (by simp [go_sem]) ?_
 ·(first|done|exact leX)
 repeat first|with_reducible refine wV fun _=>?_|simp [go_sem]
 refine zBm (zBr (α := Nat) (fun i => ⟨[(3, .sl 3 i 1 0 i), (20, zas l), (21, .v (.int .i64 l.length)), (22, .v (.int .i64 i))], [(3, .rows true i 1 ((l.take i).map zox))], 4⟩)
  (fun d i => i + d = l.length) ?_ l.length 0 ?_) ?_ ?_
 ·rintro d i i1 hrec
  repeat first|with_reducible refine wV fun _=>?_|simp [go_sem]
  refine zBo (fun hi => ?_) (fun hi => ?_) <;> simp at hi
  ·have hx := hv _ (zan hi)
   have hem : (nth l i).emod 256 = nth l i := Int.emod_eq_of_lt hx.1 (by omega)
   have hem2 : nth l i % 256 = nth l i := hem
   repeat first|with_reducible refine wV fun _=>?_|simp [go_sem, hi, hem, hem2]
   refine zBm (hrec (d - 1) (by omega) (i + 1) (by omega)) ?_ (by simp)
   rw [List.take_add_one, List.getElem?_eq_getElem hi, ← zaJ _ _ hi]
   simp [go_sem, zah, zox, hem, hem2]
   intro x hx c hc
   obtain ⟨y, _, rfl⟩ := List.mem_map.1 (List.mem_of_mem_take hx)
   simp only [zox, List.mem_singleton] at hc
   subst hc
   exact .v _
  ·have hb : zen (List.take i (List.map zox l)) = some l := by rw [List.take_of_length_le (by simp; omega)]; exact zok l
   have hb2 : zen (List.take i (List.take i (List.map zox l))) = some l := by rw [List.take_take, Nat.min_self]; exact hb
   repeat first|with_reducible refine wV fun _=>?_|simp [go_sem, hb, hb2]
 ·omega
 ·simp [go_sem, zah]
 ·simp
def zjS (n : Int) : ByteArray := zeN [48 + n]
theorem zrf (n : Int) (h0 : 0 ≤ n) (h1 : n < 10) : zaC Tryz.prog 296 [.v (.int .i64 n)] (.v (.string (zjS n))) := by
 refine pF Tryz.func296 ?_
 rcases (show n = 0 ∨ n = 1 ∨ n = 2 ∨ n = 3 ∨ n = 4 ∨ n = 5 ∨ n = 6 ∨ n = 7 ∨ n = 8 ∨ n = 9 by omega) with rfl | rfl | rfl | rfl | rfl | rfl | rfl | rfl | rfl | rfl <;> ((repeat (first|with_reducible refine wV fun _=>?_|simp [go_sem]))) <;> exact zBA (by kernel_rfl)
theorem zpu (n : Int) (h0 : 0 ≤ n) (h1 : n < 10) : zaC Tryz.prog 288 [.v (.int .i64 n), .v (.int .i64 10)] (.v (.string (zjS n))) := by
 refine pF Tryz.func288 ?_
 have hS := zrf n h0 h1
 have h1' : n < 100 := by omega
 repeat first|with_reducible refine wV fun _=>?_|simp [go_sem, h0, h1']
 refine zBn hS (by simp [go_sem]) ?_
 repeat first|with_reducible refine wV fun _=>?_|simp [go_sem]
theorem zul (n : Int) (h0 : 0 ≤ n) (h1 : n < 10) : zaC Tryz.prog 267 [.v (.int .i64 n)] (.v (.string (zjS n))) := by
 refine pF Tryz.func267 ?_
 have hS := zpu n h0 h1
 repeat first|with_reducible refine wV fun _=>?_|simp [go_sem]
 refine zBn hS (by simp [go_sem]) ?_
 repeat first|with_reducible refine wV fun _=>?_|simp [go_sem]
theorem znK (n : Int) (h0 : 0 ≤ n) (h1 : n < 10) : zaC Tryz.prog 218 [.v (.int .i64 n)] (.v (.string (zjS n))) := by
 refine pF Tryz.func218 ?_
 have hS := zul n h0 h1
 repeat first|with_reducible refine wV fun _=>?_|simp [go_sem]
 refine zBn hS (by simp [go_sem]) ?_
 repeat first|with_reducible refine wV fun _=>?_|simp [go_sem]
theorem zuk (b : Bool) : zaC Tryz.prog 268 [.v (.bool b)] (.v (.string (if b then zeN [116, 114, 117, 101] else zeN [102, 97, 108, 115, 101]))) := by
 refine pF Tryz.func268 ?_
 cases b
 ·repeat first|with_reducible refine wV fun _=>?_|simp [go_sem]
  exact zBA (by kernel_rfl)
 ·repeat first|with_reducible refine wV fun _=>?_|simp [go_sem]
  exact zBA (by kernel_rfl)
theorem zuI (b : Bool) : zaC Tryz.prog 219 [.v (.bool b)] (.v (.string (if b then zeN [116, 114, 117, 101] else zeN [102, 97, 108, 115, 101]))) := by
 refine pF Tryz.func219 ?_
 have hS := zuk b
 repeat first|with_reducible refine wV fun _=>?_|simp [go_sem]
 refine zBn hS (by simp [go_sem]) ?_
 repeat first|with_reducible refine wV fun _=>?_|simp [go_sem]
theorem ziK : ∀ (l : List Int) (r : ByteArray), (l.foldl (fun r n => r.push (UInt8.ofNat n.toNat)) r).data.toList = r.data.toList ++ l.map fun n => UInt8.ofNat n.toNat
 | [], r => by simp
 | n :: l, r => by
  rw [List.foldl_cons, ziK l]
  simp [ByteArray.push]
theorem ziL (l : List Int) : (zeN l).data.toList = l.map fun n => UInt8.ofNat n.toNat := by
 unfold zeN; rw [ziK]; rfl
theorem zgf (l : List Int) : (zeN l).size = l.length := by
 rw [← ByteArray.size_data, ← Array.length_toList, ziL, List.length_map]
def ziT (s : StD) : ByteArray := zjS s.kind ++ zeN [32] ++ zjS s.cursor ++ zeN [32] ++ (if s.took then zeN [116, 114, 117, 101] else zeN [102, 97, 108, 115, 101]) ++ zeN [32] ++ zzE s.p
theorem zyH (s : StD) (hk : 0 ≤ s.kind ∧ s.kind < 10) (hc : 0 ≤ s.cursor ∧ s.cursor < 10) (h1 : s.p.at_.length ≤ 100) (h2 : s.p.h0.length ≤ 100) (h3 : s.p.h1.length ≤ 100) (hv : ∀ x ∈ zrE s.p, 0 ≤ x ∧ x ≤ 255) :
  zaC Tryz.prog 173 [.agg (zal s)] (.v (.string (ziT s))) := by
 refine pF Tryz.func173 ?_
 have hK := znK s.kind hk.1 hk.2
 have hC := znK s.cursor hc.1 hc.2
 have hB := zuI s.took
 have hP := zxx s.p h1 h2 h3 hv
 have hdk : (zjS s.kind).size = 1 := zgf _
 have hdc : (zjS s.cursor).size = 1 := zgf _
 have hdb : (if s.took then zeN [116, 114, 117, 101] else zeN [102, 97, 108, 115, 101]).size ≤ 5 := by split <;> simp [zgf]
 have hdp : (zzE s.p).size ≤ 302 := by unfold zzE; rw [zgf]; simp [zrE]; omega
 have h32 : (ByteArray.mk ⟨[32]⟩).size = 1 := rfl
 unfold ziT
 rw [show zeN [32] = ByteArray.mk ⟨[32]⟩ from rfl]
 generalize zjS s.kind = dk at *
 generalize zjS s.cursor = dc at *
 generalize (if s.took then zeN [116, 114, 117, 101] else zeN [102, 97, 108, 115, 101]) = db at *
 generalize zzE s.p = dp at *
 generalize ByteArray.mk ⟨[32]⟩ = sp at *
 repeat first|with_reducible refine wV fun _=>?_|simp [go_sem]
 refine zBq hK (by simp [go_sem]) ?_
 repeat first|with_reducible refine wV fun _=>?_|simp [go_sem]
 refine zBq hC (by simp [go_sem]) ?_
 repeat first|with_reducible refine wV fun _=>?_|simp [go_sem]
 refine zBq hB (by simp [go_sem]) ?_
 repeat first|with_reducible refine wV fun _=>?_|simp [go_sem]
 refine zBq hP (by simp [go_sem]) ?_
 repeat first|with_reducible refine wV fun _=>?_|simp [go_sem]
def ze4 (side : Int) (x : Int × Int) (s : StD) (l : List zcu) : List zcu := if x.1 = 0 then l ++ (zgm side s).toList else l
def zyP (p : zaj) (l : List zcu) : List (Nat × zbt) := [(0, .rows true 0 5 [zad p]), (1, .rows true 0 1 [[.sl 2 l.length 6 0 l.length]]), (2, .rows true l.length 6 (l.map zat))]
theorem zwl (g : zaf) (hg : GOk g) (p : zaj) (hp : POk g p) (s : StD) (hs : zfn g s) (hsd : s.p.side = p.side) (x : Int × Int) (l : List zcu) (hl : l.length ≤ 100000000) :
  ziQ Tryz.prog 120 [.agg (zal s), .agg (zau x), .ref 0 0 5 0 0, .ref 1 0 1 0 0] (zyP p l) 3 (.tup []) (zyP p (ze4 p.side x s l)) 3 := by
 unfold ziQ zyP
 refine zBp (by kernel_rfl) Tryz.func120 rfl rfl (Nat.le_of_ble_eq_true rfl) (by kernel_rfl) ?_
 obtain ⟨hcur, h0, hm, _⟩ := zo8 g s hg hs
 have hcp := zhu s (hs.p.fits hg)
 have hC := zdO s.kind p.side
 have hps := hp.s
 obtain ⟨op, xn⟩ := x
 repeat first|with_reducible refine wV fun _=>?_|simp [go_sem, hcur]
 refine zBo (fun hc => ?_) (fun hc => ?_) <;> simp at hc
 ·have e : ze4 p.side (op, xn) s l = l := by
   unfold ze4 zgm
   by_cases h : op = 0
   ·rw [if_pos h, if_neg (hc.resolve_left fun hn => hn h)]; simp
   ·rw [if_neg h]
  rw [e]
  repeat first|with_reducible refine wV fun _=>?_|simp [go_sem]
  simp [go_sem, zah]
 ·have e : ze4 p.side (op, xn) s l = l ++ [⟨{ s.p with at_ := s.p.at_.set s.cursor.toNat (zaD s.kind p.side), side := 1 - p.side }, s.took⟩] := by
   unfold ze4 zgm
   rw [if_pos hc.1, if_pos hc.2]; rfl
  rw [e]
  generalize zaD s.kind p.side = code at *
  repeat first|with_reducible refine wV fun _=>?_|simp [go_sem, hcur]
  refine zBs hcp (by simp [go_sem]) ?_
  repeat first|with_reducible refine wV fun _=>?_|simp [go_sem, hcur]
  refine zBq hC (by simp [go_sem]) ?_
  repeat first|with_reducible refine wV fun _=>?_|simp [go_sem, hcur]
  simp [go_sem, zah]
  (first|done|exact rwX)
theorem zcU {n : Nat} (l : List zcu) : ∀ r ∈ l.map zat, ∀ c ∈ r, Bel n c := by
 intro r hr c hc
 obtain ⟨x, _, rfl⟩ := List.mem_map.1 hr
 revert c
 simp [go_sem]
def zo2 (h : zav) (a b c : Nat) (p : zaj) (l : List zcu) : zav := upd (upd (upd h a (some (.rows true 0 5 [zad p]))) b (some (.rows true 0 1 [[.sl c l.length 6 0 l.length]]))) c (some (.rows true l.length 6 (l.map zat)))
theorem zo3 (g : zaf) (hg : GOk g) (p : zaj) (hp : POk g p) (s : StD) (hs : zfn g s) (hsd : s.p.side = p.side) (x : Int × Int) (l : List zcu) (hl : l.length ≤ 100000000) {h : zav} {n a b c : Nat}
  (hd : [a, b, c].Nodup) (hlt : ∀ j ∈ [a, b, c], j < n) (ha : h a = some (.rows true 0 5 [zad p])) (hb : h b = some (.rows true 0 1 [[.sl c l.length 6 0 l.length]])) (hc : h c = some (.rows true l.length 6 (l.map zat))) {K : zcS}
  (hK : K (.tup []) (zo2 h a b c p (ze4 p.side x s l)) n) :
  zaa Tryz.prog 120 [.agg (zal s), .agg (zau x), .ref a 0 5 0 0, .ref b 0 1 0 0] h n K := by
 have hbs : ∀ m, Bel m (.agg (zal s)) := fun m => by simp [go_sem]
 have hbx : ∀ m, Bel m (.agg (zau x)) := fun m => by simp [go_sem]
 have hbp : ∀ m, ∀ c ∈ zad p, Bel m c := fun m => by simp [go_sem]
 refine zBG (args' := [.agg (zal s), .agg (zau x), .ref a 0 5 0 0, .ref b 0 1 0 0])
  (HH := [(a, .rows true 0 5 [zad p]), (b, .rows true 0 1 [[.sl c (ze4 p.side x s l).length 6 0 (ze4 p.side x s l).length]]), (c, .rows true (ze4 p.side x s l).length 6 ((ze4 p.side x s l).map zat))])
  [a, b, c] h (zwl g hg p hp s hs hsd x l hl) hd hlt rfl (Nat.le_refl _) (.refl _) ?_ ?_ (.refl _ _ _ _) ?_ ?_ ?_ (.same ?_) ?_ ?_
 ·intro j hj
  rcases (show j = 0 ∨ j = 1 ∨ j = 2 by omega) with rfl | rfl | rfl
  ·exact ⟨_, _, rfl, ha, .rows (.same (by intro r hr; simp only [List.mem_singleton] at hr; subst hr; exact hbp _))⟩
  ·exact ⟨_, _, rfl, hb, .rows (.cons (.cons (.sl rfl) .nil) .nil)⟩
  ·exact ⟨_, _, rfl, hc, .rows (.same (zcU _))⟩
 ·intro q hq
  simp only [zyP, List.mem_cons, List.not_mem_nil, or_false] at hq
  rcases hq with rfl | rfl | rfl
  ·exact ⟨Nat.le_of_ble_eq_true rfl, by intro r hr; simp only [List.mem_singleton] at hr; subst hr; exact hbp _⟩
  ·exact ⟨Nat.le_of_ble_eq_true rfl, by simp [go_sem, zzK]⟩
  ·exact ⟨Nat.le_of_ble_eq_true rfl, zcU _⟩
 ·intro y hy
  simp only [List.mem_cons, List.not_mem_nil, or_false] at hy
  rcases hy with rfl | rfl | rfl | rfl
  ·exact hbs _
  ·exact hbx _
  ·exact .ref (hlt a (by simp))
  ·exact .ref (hlt b (by simp))
 ·exact .cons (.same (hbs _)) (.cons (.same (hbx _)) (.cons (.ref rfl) (.cons (.ref rfl) .nil)))
 ·intro y hy
  simp only [List.mem_cons, List.not_mem_nil, or_false] at hy
  rcases hy with rfl | rfl | rfl | rfl
  ·exact hbs _
  ·exact hbx _
  ·exact .ref (by decide)
  ·exact .ref (by decide)
 ·exact .tup (by simp)
 ·exact .cons rfl (.rows (.same (by intro r hr; simp only [List.mem_singleton] at hr; subst hr; exact hbp _))) (.cons rfl (.rows (.cons (.cons (.sl rfl) .nil) .nil)) (.cons rfl (.rows (.same (zcU _))) .nil))
 ·have e : zd7 [(a, .rows true 0 5 [zad p]), (b, .rows true 0 1 [[.sl c (ze4 p.side x s l).length 6 0 (ze4 p.side x s l).length]]), (c, .rows true (ze4 p.side x s l).length 6 ((ze4 p.side x s l).map zat))] (zml [a, b, c] h) = zo2 h a b c p (ze4 p.side x s l) := by
   simp only [List.nodup_cons, List.mem_cons, List.not_mem_nil, or_false, not_or, List.nodup_nil, and_true, not_false_eq_true] at hd
   obtain ⟨⟨d1, d2⟩, d3⟩ := hd
   funext j
   simp only [zd7, zml, zo2, upd]
   by_cases j1 : j = a
   ·subst j1; simp [d1, d2]
   ·by_cases j2 : j = b
    ·subst j2; simp [d3, j1]
    ·by_cases j3 : j = c
     ·subst j3; simp [j1, j2]
     ·simp [j1, j2, j3]
  rw [e]
  exact hK
def zAK (s : StD) : List Int := [48 + s.kind, 32, 48 + s.cursor, 32] ++ ((if s.took then [116, 114, 117, 101] else [102, 97, 108, 115, 101]) ++ ([32] ++ zrE s.p))
theorem zj9 (s : StD) : (ziT s).data.toList = (zAK s).map fun n => UInt8.ofNat n.toNat := by
 unfold ziT zjS zzE zAK
 cases s.took <;> simp [ByteArray.data_append, ziL]
theorem u8_inj {x y : Int} (hx : 0 ≤ x ∧ x ≤ 255) (hy : 0 ≤ y ∧ y ≤ 255) (h : UInt8.ofNat x.toNat = UInt8.ofNat y.toNat) : x = y := by
 have h1 := congrArg UInt8.toNat h
 rw [UInt8.toNat_ofNat', UInt8.toNat_ofNat'] at h1
 omega
theorem zmb : ∀ {l l' : List Int}, (∀ x ∈ l, 0 ≤ x ∧ x ≤ 255) → (∀ x ∈ l', 0 ≤ x ∧ x ≤ 255) → (l.map fun n => UInt8.ofNat n.toNat) = (l'.map fun n => UInt8.ofNat n.toNat) → l = l'
 | [], [], _, _, _ => rfl
 | [], _ :: _, _, _, h => by simp at h
 | _ :: _, [], _, _, h => by simp at h
 | x :: l, y :: l', h1, h2, h => by
  simp only [List.map_cons, List.cons.injEq] at h
  rw [u8_inj (h1 x (by simp)) (h2 y (by simp)) h.1, zmb (fun z hz => h1 z (by simp [hz])) (fun z hz => h2 z (by simp [hz])) h.2]
theorem zu9 {g : zaf} (hg : GOk g) {p : zaj} (hp : POk g p) : ∀ x ∈ zrE p, 0 ≤ x ∧ x ≤ 255 := by
 have k6 := hg.k6
 have r0 := hp.r0
 have r1 := hp.r1
 have hr : (2 : Int) ^ g.rights.toNat ≤ 16 := by
  have h1 := hg.r0
  have h2 := hg.r4
  rcases (show g.rights = 0 ∨ g.rights = 1 ∨ g.rights = 2 ∨ g.rights = 3 ∨ g.rights = 4 by omega) with h | h | h | h | h <;> rw [h] <;> decide
 have hh : ∀ l, zew g l → ∀ x ∈ l, 0 ≤ x ∧ x ≤ 255 := by
  intro l hl x hx
  obtain ⟨i, hi, rfl⟩ := List.mem_iff_getElem.1 hx
  have := hl.v i hi
  rw [zaJ _ _ hi] at this
  omega
 intro x hx
 simp only [zrE, List.mem_append, List.mem_cons, List.not_mem_nil, or_false] at hx
 rcases hx with ((hx | hx) | hx) | hx | hx
 ·have := hp.av x hx; omega
 ·exact hh _ hp.h0 x hx
 ·exact hh _ hp.h1 x hx
 ·omega
 ·have := hp.s; omega
theorem zyG {g : zaf} (hg : GOk g) {a b : StD} (ha : zfn g a) (hb : zfn g b) (h : ziT a = ziT b) : a = b := by
 have k6 := hg.k6
 have c9 := hg.c9
 have hv : ∀ s, zfn g s → ∀ x ∈ zAK s, 0 ≤ x ∧ x ≤ 255 := by
  intro s hs x hx
  have hk := hs.k
  have h0 := hs.c0
  have h1 := hs.c1
  unfold zAK at hx
  rcases List.mem_append.1 hx with hx | hx
  ·simp at hx; omega
  rcases List.mem_append.1 hx with hx | hx
  ·by_cases ht : s.took = true <;> simp [ht] at hx <;> omega
  rcases List.mem_append.1 hx with hx | hx
  ·simp at hx; omega
  ·exact zu9 hg hs.p x hx
 have h1 : zAK a = zAK b := zmb (hv a ha) (hv b hb) (by rw [← zj9, ← zj9, h])
 obtain ⟨pa, ka, ca, ta⟩ := a
 obtain ⟨pb, kb, cb, tb⟩ := b
 unfold zAK at h1
 simp only [List.cons_append, List.nil_append, List.cons.injEq, true_and] at h1
 obtain ⟨e1, e2, h1⟩ := h1
 obtain rfl : ka = kb := by omega
 obtain rfl : ca = cb := by omega
 have h2 : ta = tb ∧ zrE pa = zrE pb := by
  cases ta <;> cases tb <;> simp at h1 ⊢
  ·exact h1
  ·exact h1
 obtain ⟨rfl, h2⟩ := h2
 have a1 := ha.p.al
 have b1 := hb.p.al
 have a2 := ha.p.h0.len
 have b2 := hb.p.h0.len
 have a3 := ha.p.h1.len
 have b3 := hb.p.h1.len
 obtain ⟨pat, ph0, ph1, pr, ps⟩ := pa
 obtain ⟨qat, qh0, qh1, qr, qs⟩ := pb
 simp only [zrE, List.append_assoc] at h2 a1 b1 a2 b2 a3 b3
 obtain ⟨e3, h3⟩ := List.append_inj h2 (by omega)
 obtain ⟨e4, h4⟩ := List.append_inj h3 (by omega)
 obtain ⟨e5, h5⟩ := List.append_inj h4 (by omega)
 simp only [List.cons.injEq, and_true] at h5
 rw [e3, e4, e5, h5.1, h5.2]
def zfk (s : StD) : List AV := [.v (.string (ziT s)), .v (.bool true)]
theorem zx6 {n : Nat} {l : List StD} : (∀ r ∈ l.map zfk, ∀ c ∈ r, Bel n c) = True := by
 refine eq_true ?_
 intro r hr c hc
 obtain ⟨x, _, rfl⟩ := List.mem_map.1 hr
 simp only [zfk, List.mem_cons, List.not_mem_nil, or_false] at hc
 rcases hc with rfl | rfl <;> exact .v _
attribute [go_sem ↓] zx6
theorem zoO (t : StD) : ∀ (next : List StD), (∀ s ∈ next, ziT t = ziT s → t = s) → zes .string (.v (.string (ziT t))) (next.map zfk) = some (if t ∈ next then some (.v (.bool true)) else none)
 | [], _ => by simp [zes]
 | s :: next, h => by
  rw [List.map_cons, zes]
  have e : zqS .string (.v (.string (ziT t))) (cel (zfk s) 0) = some (ziT t == ziT s) := rfl
  rw [e, zol]
  by_cases hk : ziT t = ziT s
  ·have := h s (by simp) hk
   subst this
   simp [zfk, cel]
  ·have hne : t ≠ s := fun e => hk (by rw [e])
   rw [decide_eq_false hk]
   simp only
   rw [zoO t next (fun u hu => h u (by simp [hu]))]
   simp [hne]
theorem zsg (t : StD) : ∀ (next : List StD), (∀ s ∈ next, ziT t = ziT s → t = s) → t ∉ next → zhp .string (.v (.string (ziT t))) (.v (.bool true)) (next.map zfk) = some ((next ++ [t]).map zfk)
 | [], _, _ => by simp [zhp, zfk]
 | s :: next, h, hn => by
  rw [List.map_cons, zhp]
  have e : zqS .string (.v (.string (ziT t))) (cel (zfk s) 0) = some (ziT t == ziT s) := rfl
  rw [e, zol]
  have hk : ziT t ≠ ziT s := fun e => hn (by rw [h s (by simp) e]; simp)
  rw [decide_eq_false hk]
  simp only
  rw [zsg t next (fun u hu => h u (by simp [hu])) (fun hm => hn (by simp [hm]))]
  simp
def zdG (g : zaf) (p : zaj) (cell i : Int) : List zcu := (zeq g p cell (zbb g p cell i)).filterMap (zgm p.side)
theorem zy9 (g : zaf) (hg : GOk g) (p : zaj) (hp : POk g p) (cell i : Int) (hc : zcn g p cell i) :
  ziQ Tryz.prog 119 [.agg (zab g), .agg (zad p), .v (.int .i64 cell), .v (.int .i64 i), .fn (.func 120) [] [.ref 0 0 5 0 0, .ref 1 0 1 0 0]]
   [(0, .rows true 0 5 [zad p]), (1, .rows true 0 1 [[zBu]])] 2 (.v (.int .i64 0))
   [(0, .rows true 0 5 [zad p]), (1, .rows true 0 1 [[.sl 247 (zdG g p cell i).length 6 0 (zdG g p cell i).length]]), (247, .rows true (zdG g p cell i).length 6 ((zdG g p cell i).map zat))] 248 := by
 unfold ziQ
 refine zBp (by kernel_rfl) Tryz.func119 rfl rfl (Nat.le_of_ble_eq_true rfl) (by kernel_rfl) ?_
 have hal := hp.al
 obtain ⟨c0, c1, cm, cs, i0, i1⟩ := hc
 have hcur : cell.toNat < p.at_.length := by omega
 have hat := hp.at (i := cell.toNat) (by omega)
 have hO := zfI (nth p.at_ cell.toNat)
 have hman := zaU hat.1 hat.2 hg.k6
 have hV := zlw g (by have := hg.k6; unfold zfp; omega) ⟨hg.r0, by have := hg.r4; omega⟩ p (hp.fits hg)
 rw [ze8.2 hp] at hV
 have hkl : (zaq (nth p.at_ cell.toNat)).1.toNat < g.kinds.length := by
  rcases hman with ⟨_, e⟩ | ⟨_, a, b, _⟩
  ·rw [e] at cm; simp at cm
  ·omega
 have hil : i.toNat < (nth g.kinds (zaq (nth p.at_ cell.toNat)).1.toNat).progs.length := by omega
 have hpg := hg.pr _ (zan hkl) _ (zan hil)
 have hst := fun n hn => zhD hg hp c0 c1 cm (prog := zbb g p cell i) hpg.st n hn
 have hz := zgW g p cell (zbb g p cell i)
 have hsu := fun n hn => zgV g p cell (zbb g p cell i) (n := n) hn
 have hla := zgU g p cell (zbb g p cell i)
 have hp8 := hpg.len
 have hpst := hpg.st
 have hpe : zbb g p cell i = nth (nth g.kinds (zaq (nth p.at_ cell.toNat)).1.toNat).progs i.toNat := rfl
 rw [← hpe] at hp8 hpst
 have hlo : zdG g p cell i = (zeq g p cell (zbb g p cell i)).filterMap (zgm p.side) := rfl
 rw [hlo]
 obtain ⟨prog, hprog⟩ : ∃ q, q = zbb g p cell i := ⟨_, rfl⟩
 rw [← hprog] at hst hz hsu hp8 hpst hpe hla ⊢
 have hcp := zhu ⟨p, (zaq (nth p.at_ cell.toNat)).1, cell, false⟩ (hp.fits hg)
 generalize hm : zaq (nth p.at_ cell.toNat) = m at *
 obtain ⟨mk, ms⟩ := m
 simp only at cm cs i1 hkl hil hpe hcp
 repeat first|with_reducible refine wV fun _=>?_|simp [go_sem]
 refine zBn hV (by simp [go_sem]) ?_
 repeat first|with_reducible refine wV fun _=>?_|simp [go_sem, hcur]
 (refine zBo (fun hF => by first | omega | (simp at hF; omega)) (fun hF => ?_); clear hF)
 repeat first|with_reducible refine wV fun _=>?_|simp [go_sem, hcur]
 refine zBn hO (by simp [go_sem]) ?_
 repeat first|with_reducible refine wV fun _=>?_|simp [go_sem, hkl, hil, cs]
 (refine zBo (fun hF => by first | omega | (simp at hF; omega)) (fun hF => ?_); clear hF)
 repeat first|with_reducible refine wV fun _=>?_|simp [go_sem]
 refine zBs hcp (by simp [go_sem]) ?_
 repeat first|with_reducible refine wV fun _=>?_|simp [go_sem, hcur, hkl, hil]
 rw [← hpe]
 have hsz : ∀ n, n ≤ prog.length → (zbR g p cell prog n).length ≤ 100000000 := fun n hn => Nat.le_trans (hst n hn).2 (zjf (by omega))
 have hst0 : zaQ (zbR g p cell prog 0) = .lst 8 [[.lst 1 ((p.at_.map zb6).set cell.toNat [.v (.int .i64 0)]), zas p.h0, zas p.h1, .v (.int .i64 p.rights), .v (.int .i64 p.side), .v (.int .i64 mk), .v (.int .i64 cell), .v (.bool false)]] := by
  rw [hz]; simp [zaQ, zeM, zal, clr, hm, zas, zb6, List.map_set]
 refine zBm (zBr (α := Nat) (fun k => ⟨[(4, .fn (.func 120) [] [.ref 0 0 5 0 0, .ref 1 0 1 0 0]), (5, .ref 2 0 9 0 0), (14, zaQ (zbR g p cell prog k)), (87, zar prog), (88, .v (.int .i64 prog.length)), (89, .v (.int .i64 k))],
   [(0, .rows true 0 5 [zad p]), (1, .rows true 0 1 [[.sl 247 0 6 0 0]]), (2, .rows true 0 9 [zab g]), (247, .rows true 0 6 [])], 248⟩)
  (fun d k => k + d = prog.length) ?_ prog.length 0 ?_) ?_ ?_
 ·rintro d k k1 hrec
  repeat first|with_reducible refine wV fun _=>?_|simp [go_sem]
  refine zBo (fun hk => ?_) (fun hk => ?_) <;> simp at hk
  ·have hkk := hst k (by omega)
   have hks := hsz k (by omega)
   have hks' := hsz (k + 1) (by omega)
   have hsk := hsu k hk
   have hxs := hpst _ (zan hk)
   have hpo := fun n hn => zns hg hxs hkk.1 n hn
   have hpa := zkt g (zbR g p cell prog k) (nth prog k)
   have hpz := zmj g (zbR g p cell prog k) (nth prog k)
   have hps := fun n hn => zh9 g (zbR g p cell prog k) (nth prog k) (n := n) hn
   rw [← hsk] at hpa
   obtain ⟨now, hnow⟩ : ∃ now, now = zbR g p cell prog k := ⟨_, rfl⟩
   rw [← hnow] at hkk hks hpo hpa hpz hps ⊢
   obtain ⟨x, hx⟩ : ∃ x, x = nth prog k := ⟨_, rfl⟩
   rw [← hx] at hxs hpo hpa hpz hps
   repeat first|with_reducible refine wV fun _=>?_|simp [go_sem, hk, ← hx]
   refine zBm (zBr (α := Nat) (fun n => ⟨[(4, .fn (.func 120) [] [.ref 0 0 5 0 0, .ref 1 0 1 0 0]), (5, .ref 2 0 9 0 0), (16, .ref 248 0 2 0 0), (17, .sl 250 (zdb g now x n).length 8 0 (zdb g now x n).length), (18, .mp 249), (87, zar prog), (88, .v (.int .i64 prog.length)), (89, .v (.int .i64 k)), (94, zaQ now), (95, .v (.int .i64 now.length)), (96, .v (.int .i64 n))],
     [(0, .rows true 0 5 [zad p]), (1, .rows true 0 1 [[.sl 247 0 6 0 0]]), (2, .rows true 0 9 [zab g]), (247, .rows true 0 6 []), (248, .rows true 0 2 [zau x]), (249, .rows true 0 2 ((zdb g now x n).map zfk)), (250, .rows true (zdb g now x n).length 8 ((zdb g now x n).map zal))], 251⟩)
    (fun d n => n + d = now.length) ?_ now.length 0 ?_) ?_ ?_
   ·rintro d2 n n1 hrec2
    repeat first|with_reducible refine wV fun _=>?_|simp [go_sem]
    refine zBo (fun hn => ?_) (fun hn => ?_) <;> simp at hn
    ·have hsn := hkk.1 _ (zan hn)
     have hpn := hps n hn
     have hpoN := hpo n (by omega)
     have hpoS := hpo (n + 1) (by omega)
     have hSt := zw6 g hg (nth now n) hsn.1 x hxs
     have hsl := zkM hg (nth now n) x
     have hso := zhE hg hsn.1 hxs
     have hlk : ze4 p.side x (nth now n) [] = [] := by unfold ze4; rw [if_neg (by have := hxs.1; omega)]
     obtain ⟨s, hs⟩ : ∃ s, s = nth now n := ⟨_, rfl⟩
     rw [← hs] at hsn hpn hSt hsl hso hlk
     obtain ⟨more, hmore⟩ : ∃ more, more = zbY g s x := ⟨_, rfl⟩
     rw [← hmore] at hpn hSt hsl hso
     have hat := fun j hj => znW (zdb g now x n) more (i := j) hj
     have hal' := fun j => zg6 (more.take j) (zdb g now x n)
     have haok : ∀ j, ∀ u ∈ zev (zdb g now x n) (more.take j), zfn g u := fun j => zi1 (fun u hu => (hpoN.1 u hu).1) (fun u hu => (hso u (List.mem_of_mem_take hu)).1)
     have haz : zev (zdb g now x n) (more.take 0) = zdb g now x n := by simp [zrB]
     have haa : zev (zdb g now x n) (more.take more.length) = zdb g now x (n + 1) := by rw [List.take_length, hpn]
     obtain ⟨nx, hnx⟩ : ∃ nx : Nat → List StD, nx = fun j => zev (zdb g now x n) (more.take j) := ⟨_, rfl⟩
     have hnx' : ∀ j, zev (zdb g now x n) (more.take j) = nx j := fun j => by rw [hnx]
     simp only [hnx'] at hat hal' haok haz haa
     clear hnx hnx'
     repeat first|with_reducible refine wV fun _=>?_|simp [go_sem, hn, ← hs]
     refine zo3 g hg p hp s hsn.1 hsn.2 x [] (by simp) (a := 0) (b := 1) (c := 247) (by decide) (by simp) (by simp [upd, zad, zas]) (by simp [upd]) (by simp [upd]) ?_
     rw [hlk]
     simp only [zo2]
     repeat first|with_reducible refine wV fun _=>?_|simp [go_sem]
     refine zBn hSt (by simp [go_sem]) ?_
     repeat first|with_reducible refine wV fun _=>?_|simp [go_sem]
     refine zBm (zBr (α := Nat) (fun j => ⟨[(4, .fn (.func 120) [] [.ref 0 0 5 0 0, .ref 1 0 1 0 0]), (5, .ref 2 0 9 0 0), (16, .ref 248 0 2 0 0), (17, .sl 250 (nx j).length 8 0 (nx j).length), (18, .mp 249), (87, zar prog), (88, .v (.int .i64 prog.length)), (89, .v (.int .i64 k)), (94, zaQ now), (95, .v (.int .i64 now.length)), (96, .v (.int .i64 n)), (107, zaQ more), (108, .v (.int .i64 more.length)), (109, .v (.int .i64 j))],
       [(0, .rows true 0 5 [zad p]), (1, .rows true 0 1 [[.sl 247 0 6 0 0]]), (2, .rows true 0 9 [zab g]), (247, .rows true 0 6 []), (248, .rows true 0 2 [zau x]), (249, .rows true 0 2 ((nx j).map zfk)), (250, .rows true (nx j).length 8 ((nx j).map zal))], 252⟩)
      (fun d j => j + d = more.length) ?_ more.length 0 ?_) ?_ ?_
     ·rintro d3 j j1 hrec3
      repeat first|with_reducible refine wV fun _=>?_|simp [go_sem]
      refine zBo (fun hj => ?_) (fun hj => ?_) <;> simp at hj
      ·have htj := (hso _ (zan hj)).1
       have hatj := hat j hj
       have halj := hal' j
       have hmj : (more.take j).length ≤ 10 := by rw [List.length_take]; omega
       obtain ⟨t, ht⟩ : ∃ t, t = nth more j := ⟨_, rfl⟩
       rw [← ht] at htj hatj
       have hk6 := hg.k6
       have hc9 := hg.c9
       have hta := htj.p.al
       have ht0 := htj.p.h0.len
       have ht1 := htj.p.h1.len
       have htk := htj.k
       have htc0 := htj.c0
       have htc1 := htj.c1
       have hKey := zyH t (by omega) (by omega) (by omega) (by omega) (by omega) (zu9 hg htj.p)
       have hin : ∀ u ∈ nx j, ziT t = ziT u → t = u := fun u hu e => zyG hg htj (haok j u hu) e
       have hfind := zoO t (nx j) hin
       have hput := zsg t (nx j) hin
       repeat first|with_reducible refine wV fun _=>?_|simp [go_sem, hj, ← ht]
       refine zBn hKey (by simp [go_sem]) ?_
       by_cases hmem : t ∈ nx j
       ·rw [if_pos hmem] at hatj hfind
        repeat first|with_reducible refine wV fun _=>?_|simp [go_sem, hfind]
        refine zBm (hrec3 (d3 - 1) (by omega) (j + 1) (by omega)) ?_ (by simp)
        simp [go_sem, zah, hatj]
       ·rw [if_neg hmem] at hatj hfind
        have hput := hput hmem
        repeat first|with_reducible refine wV fun _=>?_|simp [go_sem, hfind, hput]
        refine zBm (hrec3 (d3 - 1) (by omega) (j + 1) (by omega)) ?_ (by simp)
        simp [go_sem, zah, hatj]
        intro c hc
        simp only [zfk, List.mem_cons, List.not_mem_nil, or_false] at hc
        rcases hc with rfl | rfl <;> exact .v _
      ·have hnl : j = more.length := by omega
       subst hnl
       rw [haa]
       repeat first|with_reducible refine wV fun _=>?_|simp [go_sem]
       refine zBm (hrec2 (d2 - 1) (by omega) (n + 1) (by omega)) ?_ (by simp)
       simp [go_sem, zah]
     ·omega
     ·simp [go_sem, zah, haz]
     ·simp
    ·have hnl : n = now.length := by omega
     subst hnl
     rw [hpa]
     repeat first|with_reducible refine wV fun _=>?_|simp [go_sem]
     refine zBm (hrec (d - 1) (by omega) (k + 1) (by omega)) ?_ (by simp)
     simp [go_sem, zah]
     exact frX
   ·omega
   ·simp [go_sem, zah, hpz]
   ·simp
  ·have hkl' : k = prog.length := by omega
   subst hkl'
   rw [hla]
   have hl8 := hsz prog.length (Nat.le_refl _)
   have hlok := (hst prog.length (Nat.le_refl _)).1
   rw [hla] at hl8 hlok
   generalize zeq g p cell prog = last at *
   repeat first|with_reducible refine wV fun _=>?_|simp [go_sem]
   refine zBm (zBr (α := Nat) (fun j => ⟨[(4, .fn (.func 120) [] [.ref 0 0 5 0 0, .ref 1 0 1 0 0]), (129, zaQ last), (130, .v (.int .i64 last.length)), (131, .v (.int .i64 j))],
     [(0, .rows true 0 5 [zad p]), (1, .rows true 0 1 [[.sl 247 ((last.take j).filterMap (zgm p.side)).length 6 0 ((last.take j).filterMap (zgm p.side)).length]]), (247, .rows true ((last.take j).filterMap (zgm p.side)).length 6 (((last.take j).filterMap (zgm p.side)).map zat))], 248⟩)
    (fun d j => j + d = last.length) ?_ last.length 0 ?_) ?_ ?_
   ·rintro d4 j j1 hrec4
    repeat first|with_reducible refine wV fun _=>?_|simp [go_sem]
    refine zBo (fun hj => ?_) (fun hj => ?_) <;> simp at hj
    ·have hsj := hlok _ (zan hj)
     have hol : ((last.take j).filterMap (zgm p.side)).length ≤ 100000000 := Nat.le_trans (List.length_filterMap_le _ _) (by rw [List.length_take]; omega)
     have hse : (last.take (j + 1)).filterMap (zgm p.side) = ze4 p.side (0, 0) (nth last j) ((last.take j).filterMap (zgm p.side)) := by
      rw [List.take_add_one, List.getElem?_eq_getElem hj, zaJ _ _ hj, List.filterMap_append]
      simp only [Option.toList_some, List.filterMap_cons, List.filterMap_nil, ze4, if_true]
      cases zgm p.side last[j] <;> rfl
     obtain ⟨out, hout⟩ : ∃ out, out = (last.take j).filterMap (zgm p.side) := ⟨_, rfl⟩
     rw [← hout] at hol hse ⊢
     obtain ⟨t, ht⟩ : ∃ t, t = nth last j := ⟨_, rfl⟩
     rw [← ht] at hsj hse
     repeat first|with_reducible refine wV fun _=>?_|simp [go_sem, hj, ← ht]
     refine zo3 g hg p hp t hsj.1 hsj.2 (0, 0) out hol (a := 0) (b := 1) (c := 247) (by decide) (by simp) (by simp [upd, zad, zas]) (by simp [upd]) (by simp [upd]) ?_
     rw [← hse]
     simp only [zo2]
     repeat first|with_reducible refine wV fun _=>?_|simp [go_sem]
     refine zBm (hrec4 (d4 - 1) (by omega) (j + 1) (by omega)) ?_ (by simp)
     simp [go_sem, zah]
    ·have hnl : j = last.length := by omega
     subst hnl
     rw [List.take_length]
     repeat first|with_reducible refine wV fun _=>?_|simp [go_sem]
     simp [go_sem, zah]
   ·omega
   ·simp [go_sem, zah]
   ·simp
 ·omega
 ·simp [go_sem, zah]
  rw [show AV.lst 8 (List.map zal (zbR g p cell prog 0)) = _ from hst0]
  (first|done|exact dpX)
 ·simp
theorem zyk (a b : zcu) : orI [zbB a.pos b.pos, zbf (if a.took then 1 else 0) (if b.took then 1 else 0)] = ziu a b := by
 unfold ziu zAQ
 simp only [orI]
 repeat' split
 all_goals first | rfl | omega
theorem zgS (a b : zcu) (ha : za0 a.pos) (hb : za0 b.pos) : zaC Tryz.prog 124 [.agg (zat a), .agg (zat b)] (.v (.int .i64 (ziu a b))) := by
 refine pF Tryz.func124 ?_
 rw [← zyk]
 have c1 := zbL _ _ ha hb
 obtain ⟨pa, ta⟩ := a
 obtain ⟨pb, tb⟩ := b
 have c4 := zdI (if ta then 1 else 0) (if tb then 1 else 0)
 simp only at c1 c4 ⊢
 generalize hx1 : zbB pa pb = x1 at *
 generalize hx2 : zbf (if ta then 1 else 0) (if tb then 1 else 0) = x2 at *
 cases ta <;> cases tb <;> simp only [if_true, Bool.false_eq_true, if_false] at c4 <;>
 ·repeat first|with_reducible refine wV fun _=>?_|simp [go_sem]
  refine zBq c1 (by simp [go_sem]) ?_
  repeat first|with_reducible refine wV fun _=>?_|simp [go_sem]
  refine zBq c4 (by simp [go_sem]) ?_
  repeat first|with_reducible refine wV fun _=>?_|simp [go_sem]
  refine zay.frz [zas [x1, x2]] _ [17] [(17, some (.rows false 0 1 ([x1, x2].map zb6)))] (zrO _ (by unfold zeS; simp)) ?_ ?_ (by simp [go_sem]) ?_
  ·intro p hp
   simp only [List.mem_singleton] at hp
   subst hp
   exact ⟨by simp, 0, 1, _, rfl, by simp [upd, go_sem]⟩
  ·intro h₁ hS
   have h7 := hS 17 (by simp)
   simp [go_sem] at h7
   exact .cons (zam h7.symm (by simp) (by simp [zao, upd]) (by simp [go_sem])) .nil
  ·repeat first|with_reducible refine wV fun _=>?_|simp [go_sem]
theorem zui (a b : zcu) (ha : za0 a.pos) (hb : za0 b.pos) : zaC Tryz.prog 126 [.agg (zat a), .agg (zat b)] (.v (.bool (decide (a = b)))) := by
 refine pF Tryz.func126 ?_
 have c1 := zgS a b ha hb
 have e : decide (a = b) = decide (ziu a b = 0) := by rw [decide_eq_decide]; exact (zcm.eq a b).symm
 rw [e]
 generalize ziu a b = x at *
 repeat first|with_reducible refine wV fun _=>?_|simp [go_sem]
 refine zBn c1 (by simp [go_sem]) ?_
 repeat first|with_reducible refine wV fun _=>?_|simp [go_sem]
theorem zrc (a b : zaj) (ha : za0 a) (hb : za0 b) : zaC Tryz.prog 142 [.agg (zad a), .agg (zad b)] (.v (.bool (decide (a = b)))) := by
 refine pF Tryz.func142 ?_
 have c1 := zbL a b ha hb
 have e : decide (a = b) = decide (zbB a b = 0) := by rw [decide_eq_decide]; exact (zbd.eq a b).symm
 rw [e]
 generalize zbB a b = x at *
 repeat first|with_reducible refine wV fun _=>?_|simp [go_sem]
 refine zBn c1 (by simp [go_sem]) ?_
 repeat first|with_reducible refine wV fun _=>?_|simp [go_sem]
def znC : List AV := [.v (.slice none 0 0), .v (.slice none 0 0), .v (.slice none 0 0), .v (.int .i64 0), .v (.int .i64 0), .v (.bool false)]
theorem zjR {α : Type} [DecidableEq α] {l : List α} (h : l.length < 2) : zbw l = l := by
 match l, h with
 | [], _ => rfl
 | [a], _ => rfl
 | a :: b :: l, h => simp only [List.length_cons] at h; omega
end Go.Av
end
section
namespace Go.Av
open Go Go.Sort Go.Shelf Go.Proofs
structure El (w : World) (M : Nat → Prop) {α : Type} (en : α → List AV) (Q : α → Prop) where
 x : α
 vs : List Value
 q : Q x
 rel : zaP noP w M (en x) vs
 cells : ∀ v ∈ vs, zcl v = true
theorem zty {w : World} {M : Nat → Prop} {α : Type} {en : α → List AV} {Q : α → Prop} : ∀ {l : List α} {W : List Value}, (∀ x ∈ l, Q x) → zaP noP w M (l.map en).flatten W → (∀ v ∈ W, zcl v = true) →
  ∃ ls : List (El w M en Q), ls.map (·.x) = l ∧ (ls.map (·.vs)).flatten = W
 | [], W, _, h, _ => by cases h; exact ⟨[], rfl, rfl⟩
 | x :: l, W, hq, h, hc => by
  rw [List.map_cons, List.flatten_cons] at h
  obtain ⟨us, ts, rfl, h1, h2⟩ := h.split
  obtain ⟨ls, e1, e2⟩ := zty (fun y hy => hq y (by simp [hy])) h2 (fun v hv => hc v (by simp [hv]))
  exact ⟨⟨x, us, hq x (by simp), h1, fun v hv => hc v (by simp [hv])⟩ :: ls, by simp [e1], by simp [e2]⟩
theorem zrV {k : Nat} (hk : 0 < k) : ∀ (ls : List (List Value)) (t : Nat), (∀ r ∈ ls, r.length = k) → t < ls.length * k → ls.flatten[t]? = (ls[t / k]?).bind (·[t % k]?)
 | [], t, _, h => by simp at h
 | r :: ls, t, hr, h => by
  have hl : r.length = k := hr r (by simp)
  rw [List.flatten_cons]
  by_cases ht : t < k
  ·rw [List.getElem?_append_left (by omega), Nat.div_eq_of_lt ht, Nat.mod_eq_of_lt ht]; rfl
  ·obtain ⟨s, rfl⟩ : ∃ s, t = s + k := ⟨t - k, by omega⟩
   have hs : s < ls.length * k := by simp only [List.length_cons, Nat.add_mul, Nat.one_mul] at h; omega
   rw [List.getElem?_append_right (by omega), hl, Nat.add_sub_cancel, zrV hk ls s (fun r hr' => hr r (by simp [hr'])) hs, Nat.add_div_right _ hk, Nat.add_mod_right, List.getElem?_cons_succ]
theorem ztH {β : Type} [Inhabited β] (enc : β → List Value) {k : Nat} (hk0 : 0 < k) (hk : ∀ x, (enc x).length = k) (d : Array β) : (flatK enc k d).toList = (d.toList.map enc).flatten := by
 refine List.ext_getElem? fun t => ?_
 have hr : ∀ r ∈ d.toList.map enc, r.length = k := fun r hr => by obtain ⟨x, _, rfl⟩ := List.mem_map.1 hr; exact hk x
 have hlen : ((d.toList.map enc).flatten).length = d.size * k := by
  have : ∀ ls : List (List Value), (∀ r ∈ ls, r.length = k) → ls.flatten.length = ls.length * k := by
   intro ls
   induction ls with
   | nil => intro _; simp
   | cons r ls ih => intro h; rw [List.flatten_cons, List.length_append, ih (fun r hr => h r (by simp [hr])), h r (by simp), List.length_cons, Nat.add_mul]; omega
  rw [this _ hr]; simp
 by_cases ht : t < d.size * k
 ·have h1 := get_flatK enc k d t ht
  have hq : t / k < d.size := Nat.div_lt_of_lt_mul (by rw [Nat.mul_comm]; exact ht)
  have hm : t % k < k := Nat.mod_lt _ hk0
  have hs : t < (flatK enc k d).size := by rw [size_flatK]; exact ht
  rw [zrV hk0 _ t hr (by simpa using ht), Array.getElem?_toList, Array.getElem?_eq_getElem hs, ← getElem!_pos (flatK enc k d) t hs, h1, List.getElem?_map, Array.getElem?_toList, Array.getElem?_eq_getElem hq,
   getElem!_pos d (t / k) hq]
  simp only [Option.map_some, Option.bind_some]
  rw [List.getElem?_eq_getElem (by rw [hk]; exact hm), getElem!_pos _ _ (by rw [hk]; exact hm)]
 ·rw [List.getElem?_eq_none (by rw [Array.length_toList, size_flatK]; omega), List.getElem?_eq_none (by omega)]
theorem zup {w : World} {blk off : Nat} {C : Array Value} {T : TypeId} (hb : w.heap[blk]? = some (.cells C T (0, 0))) {F : Array Value} (hF : off + F.size ≤ C.size) (n : Nat) (os : Array Obj) :
  ∃ C', (grow (putRow id (Sort.ahead w n) blk off F) os).heap[blk]? = some (.cells C' T (0, 0)) ∧ C'.size = C.size ∧ (C'.toList.drop off).take F.size = F.toList ∧
   (∀ j, j ≠ blk → j < w.heap.size → (grow (putRow id (Sort.ahead w n) blk off F) os).heap[j]? = w.heap[j]?) ∧ w.heap.size ≤ (grow (putRow id (Sort.ahead w n) blk off F) os).heap.size := by
 have hlt : blk < w.heap.size := (Array.getElem?_eq_some_iff.1 hb).1
 have hsz : (putRow id (Sort.ahead w n) blk off F).heap.size = w.heap.size := by rw [Sort.size_putRow]; rfl
 have hold : ∀ j, j < w.heap.size → (grow (putRow id (Sort.ahead w n) blk off F) os).heap[j]? = (w.heap.modify blk (onCells (putCells id off F)))[j]? := by
  intro j hj
  show (_ ++ os)[j]? = _
  rw [Array.getElem?_append_left (by rw [hsz]; exact hj)]
  rfl
 refine ⟨putCells id off F C, ?_, by simp [putCells], ?_, fun j hj hjl => ?_, ?_⟩
 ·rw [hold blk hlt, Array.getElem?_modify]
  simp [hb, onCells]
 ·refine List.ext_getElem? fun j => ?_
  by_cases hj : j < F.size
  ·rw [List.getElem?_take, if_pos hj, List.getElem?_drop, Array.getElem?_toList, Array.getElem?_toList]
   simp only [putCells, Array.getElem?_mapIdx]
   rw [Array.getElem?_eq_getElem (show off + j < C.size by omega), Array.getElem?_eq_getElem hj]
   simp only [Option.map_some]
   rw [if_pos ⟨by omega, by omega⟩, show off + j - off = j by omega, getElem!_pos F j hj]
   rfl
  ·rw [List.getElem?_eq_none (by simp; omega), List.getElem?_eq_none (by simpa using hj)]
 ·rw [hold j hjl, Array.getElem?_modify, if_neg (Ne.symm hj)]
 ·rw [size_grow, hsz]; omega
theorem zkH {w : World} {blk off : Nat} {C : Array Value} {T : TypeId} (hb : w.heap[blk]? = some (.cells C T (0, 0))) {β : Type} [Inhabited β] (enc : β → List Value) (k : Nat) (d : Array β) (hF : off + d.size * k ≤ C.size) (n : Nat) (os : Array Obj) :
  ∃ C', (sortWorldK enc k w blk off n d os).heap[blk]? = some (.cells C' T (0, 0)) ∧ C'.size = C.size ∧ (C'.toList.drop off).take (d.size * k) = (flatK enc k d).toList ∧
   (∀ j, j ≠ blk → j < w.heap.size → (sortWorldK enc k w blk off n d os).heap[j]? = w.heap[j]?) ∧ w.heap.size ≤ (sortWorldK enc k w blk off n d os).heap.size ∧
   (sortWorldK enc k w blk off n d os).os = w.os ∧ (sortWorldK enc k w blk off n d os).tape = w.tape ∧ (sortWorldK enc k w blk off n d os).output = w.output ∧ w.drawn ≤ (sortWorldK enc k w blk off n d os).drawn := by
 obtain ⟨C', h1, h2, h3, h4, h5⟩ := zup hb (F := flatK enc k d) (by rw [size_flatK]; exact hF) n os
 unfold sortWorldK putRowK
 rw [size_flatK] at h3
 exact ⟨C', h1, h2, h3, h4, h5, rfl, rfl, rfl, Nat.le_add_right _ _⟩
theorem zzf {α β : Type} {lt : α → α → Bool} (h : SWO lt) (f : β → α) : SWO (fun a b => lt (f a) (f b)) := ⟨fun _ => h.irrefl _, fun _ _ _ => h.trans _ _ _, fun _ _ _ => h.ntrans _ _ _⟩
theorem zBL {P : Program} {ρ : Ren} (L : SlLaysF0.n6 P ρ) {α : Type} {k : Nat} (hk0 : 0 < k) (aE : ∀ w, (isAgg (ρ.t 24)).run P w = .ok true w) (zE : ∀ w, (Go.sizeOf (ρ.t 24)).run P w = .ok k w)
  (en : α → List AV) (henl : ∀ x, (en x).length = k) (henb : ∀ x, ∀ c ∈ en x, Bel 0 c) (Q : α → Prop) (cf : α → α → Int) (hO : SWO (fun a b : α => decide (cf a b < 0))) (g : FuncId)
  (hC : ∀ x y, Q x → Q y → zaC P g [.agg (en x), .agg (en y)] (.v (.int .i64 (cf x y)))) (hg : zd9 P g) (l : List α) (hQ : ∀ x ∈ l, Q x) (hl : l.length < 4611686018427387904) {h : zav} {n o gn : Nat}
  (ho : h o = some (.rows true gn k (l.map en))) {K : zcS} (hK : ∀ l' : List α, l'.Perm l → l'.Pairwise (fun a b => ¬ cf b a < 0) → K (.tup []) (upd h o (some (.rows true gn k (l'.map en)))) n) :
  zaa P (ρ.f 6) [.sl o gn k 0 l.length, .fn (.func g) [] []] h n K := by
 have e6 : zd9 P (ρ.f 6) := L.f6.enters rfl
 refine ⟨e6, fun M0 φ w vs hH hargs => ?_⟩
 cases hargs with
 | cons hs ht =>
 cases ht with
 | cons hf ht =>
 cases ht
 cases hf with
 | @fn _ _ _ fs cs q1 q2 =>
 cases q1; cases q2
 have hal : zcI h o gn k := by simp [zcI, ho]
 obtain ⟨A, cap, rfl, hcap, hA⟩ := hH.sl_alive hal hs
 have hnone : l = [] → Calls P (ρ.f 6) ⟨[.slice A l.length cap, .func (.func g) ⟨[]⟩ ⟨[]⟩]⟩ w fun e w' => ∃ v φ' r h' n', e = .returned v ∧ K r h' n' ∧ zg1 φ' n' w' M0 h' ∧ Rel φ' w' (Or M0 (Mut φ' h')) r v ∧ zc3 φ w M0 h φ' w' h' := by
  intro he
  subst he
  refine (AnyF.slices_SortFunc_none L A cap _ w).mono ?_
  rintro e w' ⟨rfl, rfl⟩
  have := hK [] (.refl _) .nil
  rw [← ho, zel] at this
  exact ⟨_, φ, .tup [], h, n, rfl, this, hH, .tup (vs := []) .nil, .refl _ _ _ _⟩
 by_cases he : l = []
 ·exact hnone he
 have hlp : 0 < l.length := List.length_pos_iff.2 he
 rcases hA with ⟨rfl, _, h0, _⟩ | ⟨h0, rfl, _⟩ | ⟨a, bs, hp, hsp, rfl, hcb⟩
 ·omega
 ·omega
 obtain ⟨A0, hA0, hobj⟩ := hH.obj _ _ _ _ _ ho
 rw [hp] at hA0
 simp only [Option.some.injEq, Prod.mk.injEq, true_and] at hA0
 subst hA0
 rcases hobj with ⟨hobj, _⟩ | ⟨a₁, bs₁, e1, h0, hd⟩
 ·cases hobj
 simp only [Option.some.injEq, Prod.mk.injEq] at e1
 obtain ⟨rfl, rfl⟩ := e1
 obtain ⟨C, T, hb, hCs, hr, hle, hv, hrel⟩ := hd.cells hsp
 rw [List.length_map] at hle hv hrel
 have hrel0 : zaP noP w (Or M0 (Mut φ h)) (l.map en).flatten ((C.toList.drop a.off).take (l.length * k)) := zgT (fun _ hk => hk) (fun c hc => by
  obtain ⟨r, hr, hc⟩ := List.mem_flatten.1 hc
  obtain ⟨x, _, rfl⟩ := List.mem_map.1 hr
  exact henb x c hc) hrel
 obtain ⟨ls, hlx, hlv⟩ := zty (Q := Q) hQ hrel0 hv
 have hlen : ls.length = l.length := by rw [← hlx, List.length_map]
 obtain ⟨d, hd⟩ : ∃ d : Array (El w (Or M0 (Mut φ h)) en Q), d = ls.toArray := ⟨_, rfl⟩
 have hds : d.size = l.length := by rw [hd]; simpa using hlen
 haveI : Inhabited (El w (Or M0 (Mut φ h)) en Q) := ⟨ls[0]'(by omega)⟩
 have hkE : ∀ x : El w (Or M0 (Mut φ h)) en Q, x.vs.length = k := fun x => by rw [← x.rel.length, henl]
 have hMb : Or M0 (Mut φ h) a.block := .inr ⟨o, gn, k, _, gn, a, bs, ho, hp, rfl⟩
 have hblk : a.block < w.heap.size := (Array.getElem?_eq_some_iff.1 hb).1
 have hfl : ∀ d' : Array (El w (Or M0 (Mut φ h)) en Q), (flatK (fun x => x.vs) k d').toList = (d'.toList.map fun x => x.vs).flatten := fun d' => ztH _ hk0 hkE d'
 have hCal : Calls P (ρ.f 6) ⟨[.slice (some ⟨a.block, a.off + 0 * k, none⟩) l.length cap, .func (.func g) ⟨[]⟩ ⟨[]⟩]⟩ w fun e w' =>
   e = .returned (.tuple #[]) ∧ ∃ d' n os, PermIn 0 d.size d d' ∧ SortedIn (ltOf fun x y : El w (Or M0 (Mut φ h)) en Q => cf x.x y.x) 0 d.size d' ∧ w' = sortWorldK (fun x => x.vs) k w a.block a.off n d' os := by
  rw [Nat.zero_mul, Nat.add_zero, ← hds]
  refine AnyQ.slices_SortFunc L k aE zE (fun x : El w (Or M0 (Mut φ h)) en Q => x.vs) hkE (fun x => x.cells) (fun x y => cf x.x y.x) (zzf hO fun x : El w (Or M0 (Mut φ h)) en Q => x.x) g #[] a.block a.off cap d w hg ?_ ?_ hblk (by omega)
  ·intro m os dk hdk x y
   obtain ⟨hx1, hx2⟩ := hC x.x y.x x.q y.q
   obtain ⟨C', k1, k2, k3, k4, k5, k6, k7, k8, k9⟩ := zkH (off := a.off) hb (fun x : El w (Or M0 (Mut φ h)) en Q => x.vs) k dk (by rw [hdk, hds]; omega) m os
   generalize sortWorldK (fun x : El w (Or M0 (Mut φ h)) en Q => x.vs) k w a.block a.off m dk os = X at *
   have hkeep : ∀ z : El w (Or M0 (Mut φ h)) en Q, zaP noP X (Or M0 (Mut φ h)) (en z.x) z.vs := fun z =>
    z.rel.keep noP.le_refl (fun j hj hjl => k4 j (fun e => hj (e ▸ hMb)) hjl) (fun j hj => .inl hj)
   have hag : ∀ z : El w (Or M0 (Mut φ h)) en Q, Rel noP X (Or M0 (Mut φ h)) (.agg (en z.x)) (.agg z.vs.toArray) := fun z => .agg z.cells (hkeep z)
   refine (hx2 (Or M0 (Mut φ h)) X [.agg x.vs.toArray, .agg y.vs.toArray] (fun j hj => Nat.lt_of_lt_of_le (hH.blk hj) k5) (hH.glob.keep (fun j hj hjl => k4 j (fun e => hj (e ▸ hMb)) hjl) (fun j hj => .inl hj)) (.cons (hag x) (.cons (hag y) .nil))).mono ?_
   rintro e w' ⟨v, rfl, hrv, hfr⟩
   cases hrv
   refine ⟨rfl, w'.drawn - X.drawn, w'.heap.extract X.heap.size w'.heap.size, ?_⟩
   have hheap : X.heap ++ w'.heap.extract X.heap.size w'.heap.size = w'.heap := by
    refine Array.ext_getElem? fun j => ?_
    by_cases hj : j < X.heap.size
    ·rw [Array.getElem?_append_left hj, hfr.block j hj (fun h => h)]
    ·rw [Array.getElem?_append_right (by omega), Array.getElem?_extract]
     have := hfr.size
     split
     ·congr 1; omega
     ·rw [Array.getElem?_eq_none (by omega)]
   have hdr : X.drawn + (w'.drawn - X.drawn) = w'.drawn := by have := hfr.drawn; omega
   cases w' with
   | mk hp tp dr os' out =>
    have e1 := hfr.os; have e2 := hfr.tape; have e3 := hfr.output
    simp only at e1 e2 e3 hheap hdr
    subst e1 e2 e3
    simp only [grow, World.drewN, hheap, hdr]
  ·intro j hj
   have hjl : j < ((C.toList.drop a.off).take (l.length * k)).length := by
    rw [← hlv, ← show (d.toList.map fun x => x.vs) = ls.map (·.vs) by rw [hd], ← hfl, Array.length_toList]; exact hj
   have hget : (flatK (fun x : El w (Or M0 (Mut φ h)) en Q => x.vs) k d)[j]! = C[a.off + j]! := by
    have e1 : (flatK (fun x : El w (Or M0 (Mut φ h)) en Q => x.vs) k d).toList = (C.toList.drop a.off).take (l.length * k) := by rw [hfl, hd]; exact hlv
    have hjC : a.off + j < C.size := by simp at hjl; omega
    rw [getElem!_pos _ j hj, getElem!_pos C _ hjC, ← Array.getElem_toList, ← Array.getElem_toList (xs := C)]
    simp only [e1, List.getElem_take, List.getElem_drop]
   have hjC : a.off + j < C.size := by simp at hjl; omega
   refine ⟨?_, ?_⟩
   ·simp only [World.cell?, hb]
    rw [hget]
    simp [hjC]
   ·simp [World.frozen?, hb]
 refine hCal.mono ?_
 rintro e w' ⟨rfl, d', n', os, hperm, hsort, rfl⟩
 obtain ⟨hps, _, hpp⟩ := hperm
 obtain ⟨C', k1, k2, k3, k4, k5, k6, k7, k8, k9⟩ := zkH (off := a.off) hb (fun x : El w (Or M0 (Mut φ h)) en Q => x.vs) k d' (by rw [hps, hds]; omega) n' os
 generalize sortWorldK (fun x : El w (Or M0 (Mut φ h)) en Q => x.vs) k w a.block a.off n' d' os = X at *
 obtain ⟨l', hl'⟩ : ∃ l' : List α, l' = d'.toList.map fun x => x.x := ⟨_, rfl⟩
 have hl'l : l'.length = l.length := by rw [hl', List.length_map, Array.length_toList, hps, hds]
 have hpl : l'.Perm l := by
  have h1 : (d'.extract 0 d.size).toList = d'.toList := by rw [← hps]; simp
  have h2 : (d.extract 0 d.size).toList = d.toList := by simp
  rw [h1, h2] at hpp
  have := hpp.map fun x => x.x
  rw [hl', ← hlx]
  simpa [hd] using this
 have hpw : l'.Pairwise (fun x y => ¬ cf y x < 0) := by
  rw [hl', List.pairwise_map, List.pairwise_iff_getElem]
  intro i j hi hj hij
  have hi' : i < d'.size := by simpa using hi
  have hj' : j < d'.size := by simpa using hj
  have := hsort i j (Nat.zero_le _) hij (by omega)
  rw [getElem!_pos d' i hi', getElem!_pos d' j hj'] at this
  simpa [ltOf] using this
 have hwin : (C'.toList.drop a.off).take (l'.length * k) = (d'.toList.map fun x => x.vs).flatten := by
  rw [hps, hds, hfl] at k3
  rw [hl'l]; exact k3
 have hrel' : zaP φ w (Or M0 (Mut φ h)) (l'.map en).flatten ((C'.toList.drop a.off).take (l'.length * k)) := by
  rw [hwin, hl']
  generalize d'.toList = ds
  induction ds with
  | nil => exact .nil
  | cons z ds ih =>
   simp only [List.map_cons, List.flatten_cons]
   exact (z.rel.keep (fun o x ho => by cases ho) (fun _ _ _ => rfl) (fun k hk => .inl hk)).append ih
 have hle0 : φ.le (upd φ o (some (gn, some (a, bs)))) := by rw [← hp, zel]; exact φ.le_refl
 have hol : ¬ n ≤ o := fun hle => by rw [hH.fresh o hle] at hp; cases hp
 obtain ⟨g1, g2, g3⟩ := hH.set (w' := X) (F' := fun o => n ≤ o) (o := o) (mt := true) (g := gn) (sz := k) (rs := l'.map en) (A := some (a, bs))
  (fun _ h => h) hol k5 hle0 (fun j hj hjl => k4 j (fun e => hj (e ▸ hMb)) hjl)
  (fun o' mt' g' sz' rs' a₁ b₁ hne ho' hp' => by
   have := hH.inj _ _ _ _ _ _ _ _ _ _ _ _ _ _ ho ho' (Ne.symm hne) (.inl rfl) hp hp'
   have hlt : a₁.block < w.heap.size := by
    obtain ⟨A1, hA1, hc1⟩ := hH.obj _ _ _ _ _ ho'
    rw [hp'] at hA1
    simp only [Option.some.injEq, Prod.mk.injEq, true_and] at hA1
    subst hA1
    rcases hc1 with ⟨hc1, _⟩ | ⟨a2, b2, e2, _, hb2⟩
    ·cases hc1
    ·simp only [Option.some.injEq, Prod.mk.injEq] at e2
     obtain ⟨rfl, rfl⟩ := e2
     exact hb2.blk
   refine ⟨k4 _ (Ne.symm this) hlt, fun a₂ b₂ e => ?_⟩
   simp only [Option.some.injEq, Prod.mk.injEq] at e
   obtain ⟨rfl, rfl⟩ := e
   exact this)
  (fun a₁ b₁ e => by
   simp only [Option.some.injEq, Prod.mk.injEq] at e
   obtain ⟨rfl, rfl⟩ := e
   exact .inl hMb)
  (.inr ⟨a, bs, C', T, rfl, hsp, h0, k1, by rw [k2]; exact hCs, fun r hr => by
    obtain ⟨x, _, rfl⟩ := List.mem_map.1 hr
    exact henl x, by rw [List.length_map, hl'l]; exact hle, fun c hm => by
    rw [List.length_map, hwin] at hm
    obtain ⟨r, hr, hm⟩ := List.mem_flatten.1 hm
    obtain ⟨z, _, rfl⟩ := List.mem_map.1 hr
    exact z.cells c hm, by rw [List.length_map]; exact hrel'⟩)
 refine ⟨_, _, .tup [], _, n, rfl, hK l' hpl hpw, g1, .tup (vs := []) .nil, ⟨hle0, g2, ⟨k6, k7, k8, k9, k5, fun j hj hu => k4 j (fun e => hu ⟨o, gn, k, _, gn, a, bs, ho, hp, e.symm⟩) hj⟩, fun j hj => ?_⟩⟩
 rcases g3 j hj with h | ⟨a₁, b₁, e, rfl⟩
 ·exact .inl h
 ·simp only [Option.some.injEq, Prod.mk.injEq] at e
  obtain ⟨rfl, rfl⟩ := e
  exact .inl ⟨o, gn, k, _, gn, a, bs, ho, hp, rfl⟩
end Go.Av
end
section
namespace Go.Proofs
open Go.Shelf
def zxo : Go.Shelf.Ren := ⟨fun | 6 => 123 | 15 => 175 | 14 => 174 | 28 => 228 | 29 => 229 | 20 => 220 | 21 => 221 | 22 => 222 | 23 => 223 | 24 => 224 | 25 => 225 | 26 => 226 | 27 => 227 | 46 => 269 | 47 => 270 | 48 => 271 | 49 => 272 | 50 => 273 | 57 => 289 | n => n, fun | 22 => 108 | 24 => 112 | 25 => 188 | 3 => 3 | 39 => 219 | 0 => 0 | 53 => 280 | 55 => 282 | 4 => 4 | 46 => 274 | 45 => 273 | 50 => 62 | 5 => 5 | 9 => 9 | 66 => 313 | 70 => 317 | 76 => 341 | 77 => 203 | n => n, fun n => n⟩
theorem zsort : Go.Proofs.SlLaysF0.n6 Tryz.prog zxo := {
 mixed := by kernel_rfl
 f6 := ⟨Tryz.f123.name, by decide, Tryz.func123.trans (congrArg some (by kernel_rfl))⟩
 f14 := ⟨Tryz.f174.name, by decide, Tryz.func174.trans (congrArg some (by kernel_rfl))⟩
 f15 := Tryz.func175.trans (congrArg some (by kernel_rfl))
 f20 := ⟨Tryz.f220.name, by decide, Tryz.func220.trans (congrArg some (by kernel_rfl))⟩
 f21 := ⟨Tryz.f221.name, by decide, Tryz.func221.trans (congrArg some (by kernel_rfl))⟩
 f22 := ⟨Tryz.f222.name, by decide, Tryz.func222.trans (congrArg some (by kernel_rfl))⟩
 f23 := ⟨Tryz.f223.name, by decide, Tryz.func223.trans (congrArg some (by kernel_rfl))⟩
 f24 := ⟨Tryz.f224.name, by decide, Tryz.func224.trans (congrArg some (by kernel_rfl))⟩
 f25 := ⟨Tryz.f225.name, by decide, Tryz.func225.trans (congrArg some (by kernel_rfl))⟩
 f26 := ⟨Tryz.f226.name, by decide, Tryz.func226.trans (congrArg some (by kernel_rfl))⟩
 f27 := ⟨Tryz.f227.name, by decide, Tryz.func227.trans (congrArg some (by kernel_rfl))⟩
 f28 := Tryz.func228.trans (congrArg some (by kernel_rfl))
 f29 := Tryz.func229.trans (congrArg some (by kernel_rfl))
 f46 := ⟨Tryz.f269.name, by decide, Tryz.func269.trans (congrArg some (by kernel_rfl))⟩
 f47 := Tryz.func270.trans (congrArg some (by kernel_rfl))
 f48 := Tryz.func271.trans (congrArg some (by kernel_rfl))
 f49 := ⟨Tryz.f272.name, by decide, Tryz.func272.trans (congrArg some (by kernel_rfl))⟩
 f50 := ⟨Tryz.f273.name, by decide, Tryz.func273.trans (congrArg some (by kernel_rfl))⟩
 f57 := ⟨Tryz.f289.name, by decide, Tryz.func289.trans (congrArg some (by kernel_rfl))⟩
 t0 := Tryz.underlying0
 a0 := Tryz.isAgg0
 z0 := Tryz.sizeOf0
 v0 := Tryz.zeroValue0
 t3 := Tryz.underlying3
 a3 := Tryz.isAgg3
 z3 := Tryz.sizeOf3
 v3 := Tryz.zeroValue3
 t4 := Tryz.underlying4
 a4 := Tryz.isAgg4
 z4 := Tryz.sizeOf4
 v4 := Tryz.zeroValue4
 t5 := Tryz.underlying5
 a5 := Tryz.isAgg5
 z5 := Tryz.sizeOf5
 v5 := Tryz.zeroValue5
 t9 := Tryz.underlying9
 a9 := Tryz.isAgg9
 z9 := Tryz.sizeOf9
 v9 := Tryz.zeroValue9
 t22 := Tryz.underlying108
 a22 := Tryz.isAgg108
 z22 := Tryz.sizeOf108
 v22 := Tryz.zeroValue108
 t25 := Tryz.underlying188
 a25 := Tryz.isAgg188
 z25 := Tryz.sizeOf188
 v25 := Tryz.zeroValue188
 t39 := Tryz.underlying219
 a39 := Tryz.isAgg219
 z39 := Tryz.sizeOf219
 v39 := Tryz.zeroValue219
 t45 := Tryz.underlying273
 a45 := Tryz.isAgg273
 z45 := Tryz.sizeOf273
 v45 := Tryz.zeroValue273
 t46 := Tryz.underlying274
 a46 := Tryz.isAgg274
 z46 := Tryz.sizeOf274
 v46 := Tryz.zeroValue274
 t50 := Tryz.underlying62
 a50 := Tryz.isAgg62
 z50 := Tryz.sizeOf62
 v50 := Tryz.zeroValue62
 t53 := Tryz.underlying280
 a53 := Tryz.isAgg280
 z53 := Tryz.sizeOf280
 v53 := Tryz.zeroValue280
 t55 := Tryz.underlying282
 a55 := Tryz.isAgg282
 z55 := Tryz.sizeOf282
 v55 := Tryz.zeroValue282
 t66 := Tryz.underlying313
 a66 := Tryz.isAgg313
 z66 := Tryz.sizeOf313
 v66 := Tryz.zeroValue313
 t70 := Tryz.underlying317
 a70 := Tryz.isAgg317
 z70 := Tryz.sizeOf317
 v70 := Tryz.zeroValue317
 t76 := Tryz.underlying341
 a76 := Tryz.isAgg341
 z76 := Tryz.sizeOf341
 v76 := Tryz.zeroValue341
 t77 := Tryz.underlying203
 a77 := Tryz.isAgg203
 z77 := Tryz.sizeOf203
 v77 := Tryz.zeroValue203 }
end Go.Proofs
end
section
open Go Go.Proofs
namespace Go.Av
theorem zmz (l : List zcu) (gn : Nat) (hl : l.length ≤ 17179869184) (hf : ∀ o ∈ l, za0 o.pos) :
  ziQ Tryz.prog 125 [.sl 0 gn 6 0 l.length, .fn (.func 126) [] []] [(0, .rows true gn 6 (l.map zat))] 1
   (.sl 0 gn 6 0 (zbw l).length) [(0, .rows true gn 6 ((zbw l).map zat ++ List.replicate (l.length - (zbw l).length) znC))] 1 := by
 unfold ziQ
 by_cases h2 : l.length < 2
 ·rw [zjR h2]
  refine zBp (by kernel_rfl) Tryz.func125 rfl rfl (Nat.le_of_ble_eq_true rfl) (by kernel_rfl) ?_
  repeat first|with_reducible refine wV fun _=>?_|simp [go_sem]
  (refine zBo (fun hT => ?_) (fun hT => by first | omega | (simp at hT; omega)); clear hT)
  repeat first|with_reducible refine wV fun _=>?_|simp [go_sem]
  simp [go_sem, zah]
 obtain ⟨D, hD⟩ : ∃ D, D = zbw l := ⟨_, rfl⟩
 rw [← hD]
 have hE : ∀ i j, i < l.length → j < l.length → zaC Tryz.prog 126 [.agg (zat (nth l i)), .agg (zat (nth l j))] (.v (.bool (decide (nth l i = nth l j)))) :=
  fun i j hi hj => zui _ _ (hf _ (zan hi)) (hf _ (zan hj))
 refine zBp (by kernel_rfl) Tryz.func125 rfl rfl (Nat.le_of_ble_eq_true rfl) (by kernel_rfl) ?_
 repeat first|with_reducible refine wV fun _=>?_|simp [go_sem]
 (refine zBo (fun hF => by first | omega | (simp at hF; omega)) (fun hF => ?_); clear hF)
 repeat first|with_reducible refine wV fun _=>?_|simp [go_sem]
 refine zBm (zBr (α := Nat) (fun j => ⟨[(0, .sl 0 gn 6 0 l.length), (1, .fn (.func 126) [] []), (5, .v (.int .i64 j))], [(0, .rows true gn 6 (l.map zat))], 1⟩)
  (fun d j => 1 ≤ j ∧ j + d = l.length ∧ D = l.take j ++ zbn (nth l (j - 1)) (l.drop j)) ?_ (l.length - 1) 1 ?_) ?_ ?_
 ·rintro d j ⟨i1, i2, i3⟩ hrec
  have e1 : ((j : Int) - 1).toNat = j - 1 := by omega
  repeat first|with_reducible refine wV fun _=>?_|simp [go_sem]
  refine zBo (fun hj => ?_) (fun hj => ?_) <;> simp at hj
  ·have hj' : j - 1 < l.length := by omega
   rw [zaO hj, zbn] at i3
   repeat first|with_reducible refine wV fun _=>?_|simp [go_sem, hj, hj', e1]
   refine zBq (hE j (j - 1) hj hj') (by simp [go_sem]) ?_
   repeat first|with_reducible refine wV fun _=>?_|simp [go_sem, hj, hj', e1]
   by_cases he : nth l j = nth l (j - 1)
   ·rw [if_pos he] at i3
    repeat first|with_reducible refine wV fun _=>?_|simp [go_sem, he, hj, hj', e1]
    refine zBm (zBr (α := Nat × List zcu × Nat) (fun a => ⟨[(0, .sl 0 gn 6 0 l.length), (1, .fn (.func 126) [] []), (5, .v (.int .i64 a.2.2)), (6, .sl 0 gn 6 j (l.length - j)), (7, .v (.int .i64 a.1))], [(0, .rows true gn 6 (a.2.1.map zat))], 1⟩)
     (fun d a => 1 ≤ a.1 ∧ j + a.1 + d = l.length ∧ a.2.1.length = l.length ∧ a.2.2 ≤ j + a.1 - 1 ∧ a.2.1.drop (j + a.1 - 1) = l.drop (j + a.1 - 1) ∧ D = a.2.1.take a.2.2 ++ zbn (nth l (j + a.1 - 1)) (l.drop (j + a.1))) ?_ (l.length - j - 1) (1, l, j) ?_) ?_ ?_
    ·rintro d2 ⟨k2, R, k⟩ ⟨j1, j2, j3, j4, j5, j6⟩ hrec2
     simp only at j1 j2 j3 j4 j5 j6
     have e2 : ((k2 : Int) - 1).toNat = k2 - 1 := by omega
     have e3 : j + (k2 - 1) = j + k2 - 1 := by omega
     have hRn : ∀ m, j + k2 - 1 ≤ m → m < l.length → nth R m = nth l m := fun m h1 h2 => by
      have h3 : (R.drop (j + k2 - 1))[m - (j + k2 - 1)]? = (l.drop (j + k2 - 1))[m - (j + k2 - 1)]? := by rw [j5]
      rw [List.getElem?_drop, List.getElem?_drop, show j + k2 - 1 + (m - (j + k2 - 1)) = m by omega, List.getElem?_eq_getElem (by omega), List.getElem?_eq_getElem h2] at h3
      rw [zaJ _ _ (by omega), zaJ _ _ h2]
      exact Option.some.inj h3
     repeat first|with_reducible refine wV fun _=>?_|simp [go_sem, j3]
     refine zBo (fun hk => ?_) (fun hk => ?_) <;> simp at hk
     ·have hk1 : j + k2 < l.length := by omega
      have hk0 : j + k2 - 1 < l.length := by omega
      have hr1 := hRn (j + k2) (by omega) hk1
      have hr0 := hRn (j + k2 - 1) (by omega) hk0
      rw [zaO hk1, zbn] at j6
      have hk2 : k2 - 1 < l.length - j := by omega
      have hk3 : k < l.length := by omega
      repeat first|with_reducible refine wV fun _=>?_|simp [go_sem, j3, hk, hk1, hk0, hr1, hr0, e2, e3, hk2]
      refine zBq (hE (j + k2) (j + k2 - 1) hk1 hk0) (by simp [go_sem]) ?_
      repeat first|with_reducible refine wV fun _=>?_|simp [go_sem, j3, hk, hk1, hk0, hr1, hr0, e2, e3, hk2]
      by_cases hc : nth l (j + k2) = nth l (j + k2 - 1)
      ·rw [if_pos hc] at j6
       repeat first|with_reducible refine wV fun _=>?_|simp [go_sem, hc]
       refine zBm (hrec2 (d2 - 1) (by omega) (k2 + 1, R, k) ⟨by simp only; omega, by simp only; omega, j3, by simp only; omega, ?_, ?_⟩) ?_ (by simp)
       ·have := congrArg (List.drop 1) j5
        rw [List.drop_drop, List.drop_drop] at this
        rw [show j + (k2 + 1) - 1 = j + k2 - 1 + 1 by omega]
        exact this
       ·simp only
        rw [show j + (k2 + 1) - 1 = j + k2 by omega, hc]
        exact j6
       ·simp [go_sem, zah]
      ·rw [if_neg hc] at j6
       repeat first|with_reducible refine wV fun _=>?_|simp [go_sem, hc, j3, hk, hk1, hk0, hr1, hr0, e2, e3, hk2, hk3]
       refine zBm (hrec2 (d2 - 1) (by omega) (k2 + 1, R.set k (nth l (j + k2)), k + 1) ⟨by simp only; omega, by simp only; omega, by simpa using j3, by simp only; omega, ?_, ?_⟩) ?_ (by simp)
       ·have := congrArg (List.drop 1) j5
        rw [List.drop_drop, List.drop_drop] at this
        simp only
        rw [show j + (k2 + 1) - 1 = j + k2 - 1 + 1 by omega, List.drop_set, if_pos (by omega)]
        exact this
       ·simp only
        rw [show j + (k2 + 1) - 1 = j + k2 by omega, List.take_add_one, List.take_set_of_le (by omega), List.getElem?_set_self (by omega), Option.toList_some, List.append_assoc]
        exact j6
       ·have hb : ∀ n, ∀ r ∈ ((R.set k (nth l (j + k2))).map zat), ∀ c ∈ r, Bel n c := fun n => of_eq_true zrL
        rw [List.map_set] at hb
        simp [go_sem, zah, List.map_set]
        exact hb 1
     ·rw [List.drop_eq_nil_of_le (by omega), zbn, List.append_nil] at j6
      have hDl : D.length = k := by rw [j6, List.length_take]; omega
      have hd0 : List.drop (k + (l.length - k)) (R.map zat) = [] := List.drop_eq_nil_of_le (by simp; omega)
      have hDm : D.map zat = List.take k (R.map zat) := by rw [j6, List.map_take]
      repeat first|with_reducible refine wV fun _=>?_|simp [go_sem]
      simp [go_sem, zah, hd0, hDl, hDm, znC]
      exact fun x hx => of_eq_true (zrL (n := 1) (l := R)) x (List.mem_of_mem_take hx)
    ·refine ⟨Nat.le_refl _, by simp only; omega, rfl, by simp only; omega, rfl, ?_⟩
     simp only
     rw [Nat.add_sub_cancel, he]
     exact i3
    ·simp [go_sem, zah]
    ·simp
   ·rw [if_neg he] at i3
    repeat first|with_reducible refine wV fun _=>?_|simp [go_sem, he, hj, hj', e1]
    refine zBm (hrec (d - 1) (by omega) (j + 1) ⟨by omega, by omega, ?_⟩) ?_ (by simp)
    ·rw [i3, Nat.add_sub_cancel, List.take_add_one, List.getElem?_eq_getElem hj, zaJ _ _ hj, Option.toList_some, List.append_assoc]; rfl
    ·simp [go_sem, zah]
  ·rw [List.drop_eq_nil_of_le hj, List.take_of_length_le hj, zbn, List.append_nil] at i3
   rw [i3]
   repeat first|with_reducible refine wV fun _=>?_|simp [go_sem]
   simp [go_sem, zah]
 ·refine ⟨Nat.le_refl _, by omega, ?_⟩
  cases l with
  | nil => simp at h2
  | cons a l => rw [hD]; rfl
 ·simp [go_sem, zah]
 ·simp
theorem zm3 (l : List zcu) (gn : Nat) (hl : l.length ≤ 17179869184) (hf : ∀ o ∈ l, za0 o.pos) {h : zav} {n o : Nat} (ho : h o = some (.rows true gn 6 (l.map zat))) (hon : o < n) {K : zcS}
  (hK : K (.sl o gn 6 0 (zbw l).length) (upd h o (some (.rows true gn 6 ((zbw l).map zat ++ List.replicate (l.length - (zbw l).length) znC)))) n) :
  zaa Tryz.prog 125 [.sl o gn 6 0 l.length, .fn (.func 126) [] []] h n K := by
 have hz : ∀ m, ∀ r ∈ (zbw l).map zat ++ List.replicate (l.length - (zbw l).length) znC, ∀ c ∈ r, Bel m c := by
  intro m r hr c hc
  rcases List.mem_append.1 hr with hr | hr
  ·exact zcU _ r hr c hc
  ·rw [List.eq_of_mem_replicate hr] at hc
   simp only [znC, List.mem_cons, List.not_mem_nil, or_false] at hc
   rcases hc with rfl | rfl | rfl | rfl | rfl | rfl <;> exact .v _
 refine zBG (args' := [.sl o gn 6 0 l.length, .fn (.func 126) [] []]) (HH := [(o, .rows true gn 6 ((zbw l).map zat ++ List.replicate (l.length - (zbw l).length) znC))])
  [o] h (zmz l gn hl hf) (by simp) (by simpa using hon) rfl (Nat.le_refl _) (.refl _) ?_ ?_ (.refl _ _ _ _) ?_ ?_ ?_ (.sl rfl) ?_ ?_
 ·intro j hj
  obtain rfl : j = 0 := by omega
  exact ⟨_, _, rfl, ho, .rows (.same (zcU _))⟩
 ·intro p hp
  simp only [List.mem_singleton] at hp
  subst hp
  exact ⟨Nat.le_of_ble_eq_true rfl, zcU _⟩
 ·intro y hy
  simp only [List.mem_cons, List.not_mem_nil, or_false] at hy
  rcases hy with rfl | rfl
  ·exact .sl hon
  ·simp [go_sem]
 ·exact .cons (.sl rfl) (.cons (.same (by simp [go_sem])) .nil)
 ·intro y hy
  simp only [List.mem_cons, List.not_mem_nil, or_false] at hy
  rcases hy with rfl | rfl
  ·exact .sl (by decide)
  ·simp [go_sem]
 ·exact .cons rfl (.rows (.same (hz 0))) .nil
 ·have e : zd7 [(o, .rows true gn 6 ((zbw l).map zat ++ List.replicate (l.length - (zbw l).length) znC))] (zml [o] h) = upd h o (some (.rows true gn 6 ((zbw l).map zat ++ List.replicate (l.length - (zbw l).length) znC))) := by
   funext j
   simp only [zd7, zml, upd]
   by_cases j1 : j = o
   ·simp [j1]
   ·simp [j1]
  rw [e, Nat.sub_self, Nat.add_zero]
  exact hK
theorem zlh (l : List zcu) (gn m : Nat) (hm : l.length = m) (hl : m ≤ 17179869184) (hf : ∀ o ∈ l, za0 o.pos) {h : zav} {n o : Nat} (ho : h o = some (.rows true gn 6 (l.map zat))) (hon : o < n) {K : zcS}
  (hK : K (.sl o gn 6 0 (zbw l).length) (upd h o (some (.rows true gn 6 ((zbw l).map zat ++ List.replicate (l.length - (zbw l).length) znC)))) n) :
  zaa Tryz.prog 125 [.sl o gn 6 0 m, .fn (.func 126) [] []] h n K := by
 subst hm
 exact zm3 l gn hl hf ho hon hK
theorem zze : Go.Sort.SWO (fun a b : zcu => decide (ziu a b < 0)) := by
 refine ⟨fun x => ?_, fun x y z h1 h2 => ?_, fun x y z h1 h2 => ?_⟩
 ·have := zcm.swap x x
  simp; omega
 ·simp only [decide_eq_true_eq] at h1 h2 ⊢
  have t := zcm.tr x y z (by omega) (by omega)
  rcases Int.lt_or_eq_of_le t with h | h
  ·exact h
  ·have e := (zcm.eq _ _).1 h
   subst e
   have := zcm.swap x y
   omega
 ·simp only [decide_eq_false_iff_not] at h1 h2 ⊢
  have s1 := zcm.swap x y
  have s2 := zcm.swap y z
  have s3 := zcm.swap x z
  have t := zcm.tr z y x (by omega) (by omega)
  omega
theorem zuo (l : List zcu) (hf : ∀ o ∈ l, za0 o.pos) (hl : l.length < 4611686018427387904) {h : zav} {n o gn : Nat} (ho : h o = some (.rows true gn 6 (l.map zat))) {K : zcS}
  (hK : K (.tup []) (upd h o (some (.rows true gn 6 ((zcN ziu l).map zat)))) n) :
  zaa Tryz.prog 123 [.sl o gn 6 0 l.length, .fn (.func 124) [] []] h n K := by
 refine zBL zsort (k := 6) (by omega) Tryz.isAgg112 Tryz.sizeOf112 zat (fun _ => rfl) ?_ (fun o => za0 o.pos) ziu zze _ (fun x y hx hy => zgS x y hx hy) ?_ l hf hl ho ?_
 ·intro x
  simp [go_sem]
 ·exact (zgS default default (by unfold za0 zeS; decide) (by unfold za0 zeS; decide)).1
 ·intro l' hp hs
  have : zcN ziu l = l' := zfU zcm hp (hs.imp fun {a b} hab => by
   have := zcm.swap a b
   simp only [leC, decide_eq_true_eq]
   omega)
  rw [← this]
  exact hK
end Go.Av
end
section
namespace Go.Proofs
open Go.Shelf
def zuC : Go.Shelf.Ren := ⟨fun | 6 => 140 | 15 => 175 | 14 => 189 | 28 => 228 | 29 => 229 | 20 => 244 | 21 => 245 | 22 => 246 | 23 => 247 | 24 => 248 | 25 => 249 | 26 => 250 | 27 => 251 | 46 => 278 | 47 => 270 | 48 => 271 | 49 => 279 | 50 => 280 | 57 => 290 | n => n, fun | 22 => 47 | 24 => 45 | 25 => 80 | 3 => 3 | 39 => 219 | 0 => 0 | 53 => 280 | 55 => 282 | 4 => 4 | 46 => 274 | 45 => 273 | 50 => 62 | 5 => 5 | 9 => 9 | 66 => 313 | 70 => 317 | 76 => 341 | 77 => 203 | n => n, fun n => n⟩
theorem zsortP : Go.Proofs.SlLaysF0.n6 Tryz.prog zuC := {
 mixed := by kernel_rfl
 f6 := ⟨Tryz.f140.name, by decide, Tryz.func140.trans (congrArg some (by kernel_rfl))⟩
 f14 := ⟨Tryz.f189.name, by decide, Tryz.func189.trans (congrArg some (by kernel_rfl))⟩
 f15 := Tryz.func175.trans (congrArg some (by kernel_rfl))
 f20 := ⟨Tryz.f244.name, by decide, Tryz.func244.trans (congrArg some (by kernel_rfl))⟩
 f21 := ⟨Tryz.f245.name, by decide, Tryz.func245.trans (congrArg some (by kernel_rfl))⟩
 f22 := ⟨Tryz.f246.name, by decide, Tryz.func246.trans (congrArg some (by kernel_rfl))⟩
 f23 := ⟨Tryz.f247.name, by decide, Tryz.func247.trans (congrArg some (by kernel_rfl))⟩
 f24 := ⟨Tryz.f248.name, by decide, Tryz.func248.trans (congrArg some (by kernel_rfl))⟩
 f25 := ⟨Tryz.f249.name, by decide, Tryz.func249.trans (congrArg some (by kernel_rfl))⟩
 f26 := ⟨Tryz.f250.name, by decide, Tryz.func250.trans (congrArg some (by kernel_rfl))⟩
 f27 := ⟨Tryz.f251.name, by decide, Tryz.func251.trans (congrArg some (by kernel_rfl))⟩
 f28 := Tryz.func228.trans (congrArg some (by kernel_rfl))
 f29 := Tryz.func229.trans (congrArg some (by kernel_rfl))
 f46 := ⟨Tryz.f278.name, by decide, Tryz.func278.trans (congrArg some (by kernel_rfl))⟩
 f47 := Tryz.func270.trans (congrArg some (by kernel_rfl))
 f48 := Tryz.func271.trans (congrArg some (by kernel_rfl))
 f49 := ⟨Tryz.f279.name, by decide, Tryz.func279.trans (congrArg some (by kernel_rfl))⟩
 f50 := ⟨Tryz.f280.name, by decide, Tryz.func280.trans (congrArg some (by kernel_rfl))⟩
 f57 := ⟨Tryz.f290.name, by decide, Tryz.func290.trans (congrArg some (by kernel_rfl))⟩
 t0 := Tryz.underlying0
 a0 := Tryz.isAgg0
 z0 := Tryz.sizeOf0
 v0 := Tryz.zeroValue0
 t3 := Tryz.underlying3
 a3 := Tryz.isAgg3
 z3 := Tryz.sizeOf3
 v3 := Tryz.zeroValue3
 t4 := Tryz.underlying4
 a4 := Tryz.isAgg4
 z4 := Tryz.sizeOf4
 v4 := Tryz.zeroValue4
 t5 := Tryz.underlying5
 a5 := Tryz.isAgg5
 z5 := Tryz.sizeOf5
 v5 := Tryz.zeroValue5
 t9 := Tryz.underlying9
 a9 := Tryz.isAgg9
 z9 := Tryz.sizeOf9
 v9 := Tryz.zeroValue9
 t22 := Tryz.underlying47
 a22 := Tryz.isAgg47
 z22 := Tryz.sizeOf47
 v22 := Tryz.zeroValue47
 t25 := Tryz.underlying80
 a25 := Tryz.isAgg80
 z25 := Tryz.sizeOf80
 v25 := Tryz.zeroValue80
 t39 := Tryz.underlying219
 a39 := Tryz.isAgg219
 z39 := Tryz.sizeOf219
 v39 := Tryz.zeroValue219
 t45 := Tryz.underlying273
 a45 := Tryz.isAgg273
 z45 := Tryz.sizeOf273
 v45 := Tryz.zeroValue273
 t46 := Tryz.underlying274
 a46 := Tryz.isAgg274
 z46 := Tryz.sizeOf274
 v46 := Tryz.zeroValue274
 t50 := Tryz.underlying62
 a50 := Tryz.isAgg62
 z50 := Tryz.sizeOf62
 v50 := Tryz.zeroValue62
 t53 := Tryz.underlying280
 a53 := Tryz.isAgg280
 z53 := Tryz.sizeOf280
 v53 := Tryz.zeroValue280
 t55 := Tryz.underlying282
 a55 := Tryz.isAgg282
 z55 := Tryz.sizeOf282
 v55 := Tryz.zeroValue282
 t66 := Tryz.underlying313
 a66 := Tryz.isAgg313
 z66 := Tryz.sizeOf313
 v66 := Tryz.zeroValue313
 t70 := Tryz.underlying317
 a70 := Tryz.isAgg317
 z70 := Tryz.sizeOf317
 v70 := Tryz.zeroValue317
 t76 := Tryz.underlying341
 a76 := Tryz.isAgg341
 z76 := Tryz.sizeOf341
 v76 := Tryz.zeroValue341
 t77 := Tryz.underlying203
 a77 := Tryz.isAgg203
 z77 := Tryz.sizeOf203
 v77 := Tryz.zeroValue203 }
end Go.Proofs
end
