/- Texts of ours, part 10: our library and contracts of functions. -/
import Derived.Test.YtkahkcakggflaaaGreatDoorB09
set_option linter.unusedSimpArgs false
set_option linter.unusedVariables false
set_option maxRecDepth 100000
set_option maxHeartbeats 40000000
section
/- Contracts, paths: slices.Grow, slices.Concat (lists of acts), gen.extend. -/
open Go Go.Proofs
namespace Go.Av
theorem nofz_A {l : List ActD} : (∀ r ∈ l.map encAct, ∀ c ∈ r, NoFz c) = True := by
 refine eq_true ?_
 intro r hr c hc
 obtain ⟨x, _, rfl⟩ := List.mem_map.1 hr
 revert c
 simp [go_sem]
attribute [go_sem ↓] nofz_A
theorem Grow_owns (m : Int) (h0 : 0 ≤ m) (h1 : m ≤ 17179869184) : Owns Tryz.prog 281 [AV.nils, .v (.int .i64 m)] (fun n => .sl n 0 3 0 0) (fun n => [(n, .rows true 0 3 [])]) 1 := by
 refine ⟨?_, fun n => ⟨by simp [go_sem], by simp [go_sem]⟩⟩
 by_cases hm : m = 0
 ·subst hm
  refine ACallP.of_awp (by kernel_rfl) Tryz.func281 rfl rfl (Nat.le_of_ble_eq_true rfl) (by kernel_rfl) ?_
  (repeat (first|with_reducible refine wV fun _=>?_|simp [go_sem]))
  simp [go_sem, Wk_eq]
 ·refine ACallP.clear ?_
  refine ACallP.of_awp (by kernel_rfl) Tryz.func281 rfl rfl (Nat.le_of_ble_eq_true rfl) (by kernel_rfl) ?_
  (repeat (first|with_reducible refine wV fun _=>?_|simp [go_sem]))
  (refine aIf.mkL (fun hF => by first | omega | (simp at hF; omega)) (fun hF => ?_); clear hF)
  (repeat (first|with_reducible refine wV fun _=>?_|simp [go_sem]))
  (refine aIf.mkL (fun hT => ?_) (fun hT => by first | omega | (simp at hT; omega)); clear hT)
  (repeat (first|with_reducible refine wV fun _=>?_|simp [go_sem]))
  refine ⟨0, 0, 3, by decide, ⟨rfl, rfl, rfl⟩, ?_⟩
  simp [go_sem, Wk_eq]
theorem Concat_owns (a b : List ActD) (ha : a.length ≤ 1048576) (hb : b.length ≤ 1048576) : Owns Tryz.prog 253 [.lst 1 [[encAs a], [encAs b]]]
  (fun n => .sl n 2 3 0 (a.length + b.length)) (fun n => [(n, .rows true 2 3 ((a ++ b).map encAct))]) 1 := by
 refine ⟨?_, fun n => ⟨by simp [go_sem], by simp [go_sem]⟩⟩
 refine ACallP.of_awp (by kernel_rfl) Tryz.func253 rfl rfl (Nat.le_of_ble_eq_true rfl) (by kernel_rfl) ?_
 (repeat (first|with_reducible refine wV fun _=>?_|simp [go_sem]))
 refine ALoop.unroll ?_
 (repeat (first|with_reducible refine wV fun _=>?_|simp [go_sem]))
 (refine aIf.mkL (fun hF => by first | omega | (simp at hF; omega)) (fun hF => ?_); clear hF)
 (repeat (first|with_reducible refine wV fun _=>?_|simp [go_sem]))
 refine ALoop.unroll ?_
 (repeat (first|with_reducible refine wV fun _=>?_|simp [go_sem]))
 (refine aIf.mkL (fun hF => by first | omega | (simp at hF; omega)) (fun hF => ?_); clear hF)
 (repeat (first|with_reducible refine wV fun _=>?_|simp [go_sem]))
 refine ALoop.unroll ?_
 (repeat (first|with_reducible refine wV fun _=>?_|simp [go_sem]))
 refine ACallP.ownsPlain (Grow_owns _ (by omega) (by omega)) (by simp [go_sem]) ?_
 (repeat (first|with_reducible refine wV fun _=>?_|simp [go_sem]))
 refine ALoop.unroll ?_
 (repeat (first|with_reducible refine wV fun _=>?_|simp [go_sem]))
 refine ALoop.unroll ?_
 (repeat (first|with_reducible refine wV fun _=>?_|simp [go_sem]))
 refine ALoop.unroll ?_
 (repeat (first|with_reducible refine wV fun _=>?_|simp [go_sem]))
 simp [go_sem, Wk_eq]
theorem ext1_owns (p : PathD) (to : Int) (more : List ActD) (ha : p.acts.length ≤ 1048576) (hb : more.length ≤ 1048576) : Owns Tryz.prog 252 [.v (.int .i64 to), encAs more, .fp (encPath p)]
  (fun n => .agg [.sl (n + 2) 2 3 0 (p.acts.length + more.length), .v (.int .i64 to)]) (fun n => [(n + 2, .rows true 2 3 ((p.acts ++ more).map encAct))]) 3 := by
 refine ⟨?_, fun n => ⟨by simp [go_sem], by simp [go_sem]⟩⟩
 refine ACallP.of_awp (by kernel_rfl) Tryz.func252 rfl rfl (Nat.le_of_ble_eq_true rfl) (by kernel_rfl) ?_
 (repeat (first|with_reducible refine wV fun _=>?_|simp [go_sem]))
 refine ACallP.ownsN (Concat_owns p.acts more ha hb) (by simp [go_sem]) (by simp [go_sem]) ?_ (by simp [go_sem]) ?_
 ·simp only [encAs]
  refine LeRow.cons ?_ LeRow.nil
  refine leV_frz rfl (by simp) (by simp [noH, upd]) ?_
  simp [go_sem]
 ·(repeat (first|with_reducible refine wV fun _=>?_|simp [go_sem]))
  simp [go_sem, Wk_eq]
end Go.Av
end
section
/- Contracts, paths: gen.extend. -/
open Go Go.Proofs
namespace Go.Av
theorem slideP_append (p : PathD) : ∀ (l : List Int) (passed : List ActD) (c : Int), slideP p (l ++ [c]) passed = slideP p l passed ++ [onP p c (passed ++ l.map fun c => (3, c, 0))]
 | [], passed, c => by simp [slideP, onP]
 | d :: l, passed, c => by simp [slideP, slideP_append p l]
def passK (l : List Int) : List ActD := l.map fun c => (3, c, 0)
theorem passK_append (l : List Int) (c : Int) : passK (l ++ [c]) = passK l ++ [(3, c, 0)] := by simp [passK]
theorem passK_len (l : List Int) : (passK l).length = l.length := by simp [passK]
theorem slideP_succ (p : PathD) (l : List Int) {i : Nat} (h : i < l.length) : slideP p (l.take (i + 1)) [] = slideP p (l.take i) [] ++ [onP p (nth l i) (passK (l.take i))] ∧ passK (l.take (i + 1)) = passK (l.take i) ++ [(3, nth l i, 0)] := by
 rw [List.take_add_one, List.getElem?_eq_getElem h, nth_eq _ _ h, Option.toList_some, slideP_append, passK_append]
 exact ⟨by simp [passK], rfl⟩
theorem extend_pure (b : BoardD) (hb : BoardOk b) (h9 : b.cells ≤ 9) (side : Int) (p : PathD) (hp : p.acts.length ≤ 1000000) (x : Int × Int) :
  Pure Tryz.prog 192 [.agg (encB b), .v (.int .i64 side), .agg (encPath p), .agg [.v (.int .i64 x.1), .v (.int .i64 x.2)]] (encPt (extP b side p x)) := by
 refine pF Tryz.func192 ?_
 obtain ⟨op, N⟩ := x
 have hT := bTo_pure b hb side N p.to
 have hL := bLine_pure b hb side N p.to
 have hll := lineB_le hb (side := side) (d := N) (c := p.to)
 have hO := fun to more (h : more.length ≤ 1048576) => ext1_owns p to more (by omega) h
 have hE : extP b side p (op, N) = if op = 1 ∨ op = 7 then
  if toB b side N p.to < 0 then [] else if op = 1 then [onP p (toB b side N p.to) []] else [onP p p.to [(7, p.to, toB b side N p.to)]]
  else if op = 2 then slideP p (lineB b side N p.to) []
  else if op = 8 ∨ op = 9 ∨ op = 10 then [onP p p.to [(op, N, 0)]]
  else [onP p p.to [(op, p.to, 0)]] := rfl
 generalize toB b side N p.to = to at *
 generalize lineB b side N p.to = line at *
 generalize extP b side p (op, N) = R at *
 have hbl : ∀ n, (∀ c' ∈ encB b, Bel n c') = True := fun n => by simp [go_sem]
 have hel : (encB b).length = 3 := rfl
 have hte : (encB b).take 3 = encB b := rfl
 obtain ⟨eb, heb⟩ : ∃ eb, eb = encB b := ⟨_, rfl⟩
 rw [← heb] at hbl hel hT hL hte ⊢
 (repeat (first|with_reducible refine wV fun _=>?_|simp [go_sem, hel, hte]))
 refine aIf.mkL (fun h1 => ?_) (fun h1 => ?_) <;> simp at h1
 ·subst h1
  (repeat (first|with_reducible refine wV fun _=>?_|simp [go_sem, hel, hte]))
  refine ACallP.plain hT (by simp [go_sem, hbl]) ?_
  (repeat (first|with_reducible refine wV fun _=>?_|simp [go_sem, hel, hte]))
  refine aIf.mkL (fun ht => ?_) (fun ht => ?_) <;> simp at ht
  ·rw [if_pos (by omega), if_pos ht] at hE
   rw [hE]
   (repeat (first|with_reducible refine wV fun _=>?_|simp [go_sem, hel, hte]))
  ·rw [if_pos (by omega), if_neg (by omega), if_pos rfl] at hE
   rw [hE]
   (repeat (first|with_reducible refine wV fun _=>?_|simp [go_sem, hel, hte]))
   refine ACallP.ownsN (hO to [] (by simp)) (by simp [go_sem]) (by simp [go_sem]) ?_ (by simp [go_sem]) ?_
   ·(first|done|exact leX)
   ·(repeat (first|with_reducible refine wV fun _=>?_|simp [go_sem, hel, hte, onP]))
    (first|done|exact leX)
 ·(repeat (first|with_reducible refine wV fun _=>?_|simp [go_sem, hel, hte]))
  refine aIf.mkL (fun h7 => ?_) (fun h7 => ?_) <;> simp at h7
  ·subst h7
   (repeat (first|with_reducible refine wV fun _=>?_|simp [go_sem, hel, hte]))
   refine ACallP.plain hT (by simp [go_sem, hbl]) ?_
   (repeat (first|with_reducible refine wV fun _=>?_|simp [go_sem, hel, hte]))
   refine aIf.mkL (fun ht => ?_) (fun ht => ?_) <;> simp at ht
   ·rw [if_pos (by omega), if_pos ht] at hE
    rw [hE]
    (repeat (first|with_reducible refine wV fun _=>?_|simp [go_sem, hel, hte]))
   ·rw [if_pos (by omega), if_neg (by omega), if_neg (by omega)] at hE
    rw [hE]
    (repeat (first|with_reducible refine wV fun _=>?_|simp [go_sem, hel, hte]))
    refine ACallP.ownsN (hO p.to [(7, p.to, to)] (by simp)) (by simp [go_sem]) (by simp [go_sem]) ?_ (by simp [go_sem]) ?_
    ·(first|done|exact leX)
    ·(repeat (first|with_reducible refine wV fun _=>?_|simp [go_sem, hel, hte, onP]))
     (first|done|exact leX)
  ·rw [if_neg (by omega)] at hE
   (repeat (first|with_reducible refine wV fun _=>?_|simp [go_sem, hel, hte]))
   refine aIf.mkL (fun h2 => ?_) (fun h2 => ?_) <;> simp at h2
   ·subst h2
    rw [if_pos rfl] at hE
    (repeat (first|with_reducible refine wV fun _=>?_|simp [go_sem, hel, hte]))
    refine ACallP.plain hL (by simp [go_sem, hbl]) ?_
    (repeat (first|with_reducible refine wV fun _=>?_|simp [go_sem, hel, hte]))
    refine ALoop.start (ALoop.ind (α := Nat) (fun i => ⟨[(9, .fn (.func 252) [] [.ref 1 0 2 0 0]), (11, .sl 3 i 2 0 i), (12, .sl 4 i 3 0 i), (55, encIs line), (56, .v (.int .i64 line.length)), (57, .v (.int .i64 i))],
      [(1, .rows true 0 2 [encPath p]), (3, .rows true i 2 ((slideP p (line.take i) []).map encPath)), (4, .rows true i 3 ((passK (line.take i)).map encAct))], 5⟩)
     (fun d i => i + d = line.length) ?_ line.length 0 ?_) ?_ ?_
    ·rintro d i i1 hrec
     have hsl : (slideP p (line.take i) []).length = i := by rw [slideP_len]; simp; omega
     have hpl : (passK (line.take i)).length = i := by rw [passK_len]; simp; omega
     (repeat (first|with_reducible refine wV fun _=>?_|simp [go_sem, hel, hte]))
     refine aIf.mkL (fun hi => ?_) (fun hi => ?_) <;> simp at hi
     ·obtain ⟨s1, s2⟩ := slideP_succ p line hi
      (repeat (first|with_reducible refine wV fun _=>?_|simp [go_sem, hi]))
      refine ACallP.ownsN (hO (nth line i) (passK (line.take i)) (by omega)) (by simp [go_sem]) (by simp [go_sem]) ?_ (by simp [go_sem]) ?_
      ·((try simp only [encProg, encStep, encAct, encAs, encPath, encPt, encOut, encState, encPos, encOs, encSs, encPs, encIs, encGame, List.map_cons, List.map_nil, List.nil_append, List.append_nil, List.cons_append]); (repeat (first | (with_reducible exact LeRow.nil) | (with_reducible exact LeRows.nil) | (with_reducible exact LeV.refl _) | (with_reducible exact LeRow.refl _ _ _ _) | (with_reducible exact LeRows.refl _) | (with_reducible refine LeRow.cons ?_ ?_) | (with_reducible refine LeRows.cons ?_ ?_) | (with_reducible refine LeV.agg ?_) | (with_reducible refine LeV.tup ?_) | (with_reducible refine LeV.fn ?_ ?_) | (with_reducible exact LeV.nil _) | (with_reducible refine leRows_append (LeRows.refl _) ?_) | ((refine leV_frz rfl (by simp [hpl]) (by simp [frzO, frz1, upd, noH]) ?_); (first | (simp [go_sem, hpl]; done) | (simp [go_sem, hpl]; exact List.take_of_length_le (by simp [hpl])))) | ((refine LeV.frz rfl (by simp [hpl]) (by simp [frzO, frz1, upd, noH]) ?_); (simp only [List.drop_zero, List.take_succ_cons, List.take_zero, List.map_cons, List.map_nil])) | ((refine LeV.frzP rfl (by simp [hpl]) (by simp) (by simp [frzO, frz1, upd, noH]) ?_); (simp only [nth_zero, List.drop_zero])))))
      ·(repeat (first|with_reducible refine wV fun _=>?_|simp [go_sem, hi, hsl, hpl]))
       refine ALoop.start (hrec (d - 1) (by omega) (i + 1) (by omega)) ?_ (by simp)
       simp [go_sem, Wk_eq, s1, s2, onP, hpl]
       ((try simp only [encProg, encStep, encAct, encAs, encPath, encPt, encOut, encState, encPos, encOs, encSs, encPs, encIs, encGame, List.map_cons, List.map_nil, List.nil_append, List.append_nil, List.cons_append]); (repeat (first | (with_reducible exact LeRow.nil) | (with_reducible exact LeRows.nil) | (with_reducible exact LeV.refl _) | (with_reducible exact LeRow.refl _ _ _ _) | (with_reducible exact LeRows.refl _) | (with_reducible refine LeRow.cons ?_ ?_) | (with_reducible refine LeRows.cons ?_ ?_) | (with_reducible refine LeV.agg ?_) | (with_reducible refine LeV.tup ?_) | (with_reducible refine LeV.fn ?_ ?_) | (with_reducible exact LeV.nil _) | (with_reducible refine leRows_append (LeRows.refl _) ?_) | ((refine leV_frz rfl (by simp [hpl]) (by simp [frzO, frz1, upd, noH]) ?_); (first | (simp [go_sem, hpl]; done) | (simp [go_sem, hpl]; exact List.take_of_length_le (by simp [hpl])))) | ((refine LeV.frz rfl (by simp [hpl]) (by simp [frzO, frz1, upd, noH]) ?_); (simp only [List.drop_zero, List.take_succ_cons, List.take_zero, List.map_cons, List.map_nil])) | ((refine LeV.frzP rfl (by simp [hpl]) (by simp) (by simp [frzO, frz1, upd, noH]) ?_); (simp only [nth_zero, List.drop_zero])))))
     ·have hil : i = line.length := by omega
      subst hil
      rw [List.take_length] at hsl ⊢
      rw [hE]
      (repeat (first|with_reducible refine wV fun _=>?_|simp [go_sem, hsl]))
      ((try simp only [encProg, encStep, encAct, encAs, encPath, encPt, encOut, encState, encPos, encOs, encSs, encPs, encIs, encGame, List.map_cons, List.map_nil, List.nil_append, List.append_nil, List.cons_append]); (repeat (first | (with_reducible exact LeRow.nil) | (with_reducible exact LeRows.nil) | (with_reducible exact LeV.refl _) | (with_reducible exact LeRow.refl _ _ _ _) | (with_reducible exact LeRows.refl _) | (with_reducible refine LeRow.cons ?_ ?_) | (with_reducible refine LeRows.cons ?_ ?_) | (with_reducible refine LeV.agg ?_) | (with_reducible refine LeV.tup ?_) | (with_reducible refine LeV.fn ?_ ?_) | (with_reducible exact LeV.nil _) | (with_reducible refine leRows_append (LeRows.refl _) ?_) | ((refine leV_frz rfl (by simp [hsl]) (by simp [frzO, frz1, upd, noH]) ?_); (first | (simp [go_sem, hsl]; done) | (simp [go_sem, hsl]; exact List.take_of_length_le (by simp [hsl])))) | ((refine LeV.frz rfl (by simp [hsl]) (by simp [frzO, frz1, upd, noH]) ?_); (simp only [List.drop_zero, List.take_succ_cons, List.take_zero, List.map_cons, List.map_nil])) | ((refine LeV.frzP rfl (by simp [hsl]) (by simp) (by simp [frzO, frz1, upd, noH]) ?_); (simp only [nth_zero, List.drop_zero])))))
    ·simp
    ·simp [go_sem, Wk_eq, slideP, passK]
    ·simp
   ·rw [if_neg h2] at hE
    (repeat (first|with_reducible refine wV fun _=>?_|simp [go_sem, hel, hte]))
    refine aIf.mkL (fun h8 => ?_) (fun h8 => ?_) <;> simp at h8
    ·subst h8
     rw [if_pos (by omega)] at hE
     rw [hE]
     (repeat (first|with_reducible refine wV fun _=>?_|simp [go_sem, hel, hte]))
     refine ACallP.ownsN (hO p.to [(8, N, 0)] (by simp)) (by simp [go_sem]) (by simp [go_sem]) ?_ (by simp [go_sem]) ?_
     ·(first|done|exact leX)
     ·(repeat (first|with_reducible refine wV fun _=>?_|simp [go_sem, hel, hte, onP]))
      (first|done|exact leX)
    ·(repeat (first|with_reducible refine wV fun _=>?_|simp [go_sem, hel, hte]))
     refine aIf.mkL (fun h99 => ?_) (fun h99 => ?_) <;> simp at h99
     ·subst h99
      rw [if_pos (by omega)] at hE
      rw [hE]
      (repeat (first|with_reducible refine wV fun _=>?_|simp [go_sem, hel, hte]))
      refine ACallP.ownsN (hO p.to [(9, N, 0)] (by simp)) (by simp [go_sem]) (by simp [go_sem]) ?_ (by simp [go_sem]) ?_
      ·(first|done|exact leX)
      ·(repeat (first|with_reducible refine wV fun _=>?_|simp [go_sem, hel, hte, onP]))
       (first|done|exact leX)
     ·(repeat (first|with_reducible refine wV fun _=>?_|simp [go_sem, hel, hte]))
      refine aIf.mkL (fun h10 => ?_) (fun h10 => ?_) <;> simp at h10
      ·subst h10
       rw [if_pos (by omega)] at hE
       rw [hE]
       (repeat (first|with_reducible refine wV fun _=>?_|simp [go_sem, hel, hte]))
       refine ACallP.ownsN (hO p.to [(10, N, 0)] (by simp)) (by simp [go_sem]) (by simp [go_sem]) ?_ (by simp [go_sem]) ?_
       ·(first|done|exact leX)
       ·(repeat (first|with_reducible refine wV fun _=>?_|simp [go_sem, hel, hte, onP]))
        (first|done|exact leX)
      ·rw [if_neg (by omega)] at hE
       rw [hE]
       (repeat (first|with_reducible refine wV fun _=>?_|simp [go_sem, hel, hte]))
       refine ACallP.ownsN (hO p.to [(op, p.to, 0)] (by simp)) (by simp [go_sem]) (by simp [go_sem]) ?_ (by simp [go_sem]) ?_
       ·(first|done|exact leX)
       ·(repeat (first|with_reducible refine wV fun _=>?_|simp [go_sem, hel, hte, onP]))
        (first|done|exact leX)
end Go.Av
end
section
/- Contracts, paths: gen.flat, gen.paths. -/
open Go Go.Proofs
namespace Go.Av
def flaQ {α β : Type} (F : α → List β) (l : List α) (i : Nat) : List β := (l.take i).flatMap F
theorem flaQ_succ {α β : Type} [Inhabited α] (F : α → List β) (l : List α) {i : Nat} (h : i < l.length) : flaQ F l (i + 1) = flaQ F l i ++ F (nth l i) := by
 unfold flaQ
 rw [List.take_add_one, List.getElem?_eq_getElem h, nth_eq _ _ h, Option.toList_some, List.flatMap_append]
 simp
theorem flaQ_zero {α β : Type} (F : α → List β) (l : List α) : flaQ F l 0 = [] := by simp [flaQ]
theorem flaQ_all {α β : Type} (F : α → List β) (l : List α) : flaQ F l l.length = l.flatMap F := by simp [flaQ]
theorem flaQ_le {α β : Type} (F : α → List β) (l : List α) (i : Nat) : (flaQ F l i).length ≤ (l.flatMap F).length := by
 unfold flaQ
 conv => rhs; rw [← List.take_append_drop i l]
 rw [List.flatMap_append, List.length_append]
 omega
theorem flatQ_pure (l : List (List (Int × Int))) (hl : l.length ≤ 1048576) (f : FuncId) (caps : List AV) (F : List (Int × Int) → List PathD) (hF : ∀ x ∈ l, Pure Tryz.prog f (encProg x :: caps) (encPt (F x))) (hb : ∀ c ∈ caps, Bel 0 c)
  (hn : (l.flatMap F).length ≤ 8589934592) : Pure Tryz.prog 146 [.lst 1 (l.map fun p => [encProg p]), .fn (.func f) [] caps] (encPt (l.flatMap F)) := by
 refine pF Tryz.func146 ?_
 rw [← flaQ_all F l] at hn ⊢
 (repeat (first|with_reducible refine wV fun _=>?_|simp [go_sem]))
 refine ALoop.start (ALoop.ind (α := Nat) (fun i => ⟨[(1, .fn (.func f) [] caps), (5, .sl 0 i 2 0 (flaQ F l i).length), (8, .lst 1 (l.map fun p => [encProg p])), (9, .v (.int .i64 l.length)), (10, .v (.int .i64 i))], [(0, .rows true i 2 ((flaQ F l i).map encPath))], 1⟩)
  (fun d i => i + d = l.length) ?_ l.length 0 ?_) ?_ ?_
 ·rintro d i i1 hrec
  have hni := flaQ_le F l i
  (repeat (first|with_reducible refine wV fun _=>?_|simp [go_sem]))
  refine aIf.mkL (fun hi => ?_) (fun hi => ?_) <;> simp at hi
  ·have hs := flaQ_succ F l hi
   have hns := flaQ_le F l (i + 1)
   rw [hs, List.length_append] at hns
   rw [flaQ_all] at hn
   (repeat (first|with_reducible refine wV fun _=>?_|simp [go_sem, hi]))
   refine ACallP.plain (hF _ (nth_mem hi)) (by simp [go_sem]; exact hb) ?_
   (repeat (first|with_reducible refine wV fun _=>?_|simp [go_sem, hi]))
   refine ALoop.start (hrec (d - 1) (by omega) (i + 1) (by omega)) ?_ (by simp)
   simp [go_sem, Wk_eq, hs]
   exact fun c hc => (hb c hc).mono (Nat.zero_le _)
  ·have hil : i = l.length := by omega
   subst hil
   generalize flaQ F l l.length = R at *
   (repeat (first|with_reducible refine wV fun _=>?_|simp [go_sem]))
   (first|done|exact leX)
 ·simp
 ·simp [go_sem, Wk_eq, flaQ_zero]
  exact fun c hc => (hb c hc).mono (Nat.zero_le _)
 ·simp
theorem flatP_pure (l : List PathD) (hl : l.length ≤ 1073741824) (f : FuncId) (caps : List AV) (F : PathD → List PathD) (hF : ∀ x ∈ l, Pure Tryz.prog f (.agg (encPath x) :: caps) (encPt (F x))) (hb : ∀ c ∈ caps, Bel 0 c)
  (hn : (l.flatMap F).length ≤ 8589934592) : Pure Tryz.prog 190 [encPt l, .fn (.func f) [] caps] (encPt (l.flatMap F)) := by
 refine pF Tryz.func190 ?_
 rw [← flaQ_all F l] at hn ⊢
 (repeat (first|with_reducible refine wV fun _=>?_|simp [go_sem]))
 refine ALoop.start (ALoop.ind (α := Nat) (fun i => ⟨[(1, .fn (.func f) [] caps), (5, .sl 0 i 2 0 (flaQ F l i).length), (8, encPt l), (9, .v (.int .i64 l.length)), (10, .v (.int .i64 i))], [(0, .rows true i 2 ((flaQ F l i).map encPath))], 1⟩)
  (fun d i => i + d = l.length) ?_ l.length 0 ?_) ?_ ?_
 ·rintro d i i1 hrec
  have hni := flaQ_le F l i
  (repeat (first|with_reducible refine wV fun _=>?_|simp [go_sem]))
  refine aIf.mkL (fun hi => ?_) (fun hi => ?_) <;> simp at hi
  ·have hs := flaQ_succ F l hi
   have hns := flaQ_le F l (i + 1)
   rw [hs, List.length_append] at hns
   rw [flaQ_all] at hn
   (repeat (first|with_reducible refine wV fun _=>?_|simp [go_sem, hi]))
   refine ACallP.plain (hF _ (nth_mem hi)) (by simp [go_sem]; exact hb) ?_
   (repeat (first|with_reducible refine wV fun _=>?_|simp [go_sem, hi]))
   refine ALoop.start (hrec (d - 1) (by omega) (i + 1) (by omega)) ?_ (by simp)
   simp [go_sem, Wk_eq, hs]
   exact fun c hc => (hb c hc).mono (Nat.zero_le _)
  ·have hil : i = l.length := by omega
   subst hil
   generalize flaQ F l l.length = R at *
   (repeat (first|with_reducible refine wV fun _=>?_|simp [go_sem]))
   (first|done|exact leX)
 ·simp
 ·simp [go_sem, Wk_eq, flaQ_zero]
  exact fun c hc => (hb c hc).mono (Nat.zero_le _)
 ·simp
theorem paths1_pure (b : BoardD) (hb : BoardOk b) (h9 : b.cells ≤ 9) (side : Int) (p : PathD) (hp : p.acts.length ≤ 1000000) (x : Int × Int) :
  Pure Tryz.prog 191 [.agg (encPath p), .fp (encB b), .fp [.v (.int .i64 side)], .fp [.v (.int .i64 x.1), .v (.int .i64 x.2)]] (encPt (extP b side p x)) := by
 refine pF Tryz.func191 ?_
 have hE := extend_pure b hb h9 side p hp x
 generalize extP b side p x = R at *
 (repeat (first|with_reducible refine wV fun _=>?_|simp [go_sem]))
 refine ACallP.plain hE (by simp [go_sem]) ?_
 (repeat (first|with_reducible refine wV fun _=>?_|simp [go_sem]))
def pathsK (b : BoardD) (side : Int) (prog : List (Int × Int)) (cell : Int) (i : Nat) : List PathD := pathsP b side (prog.take i) cell
theorem pathsK_succ (b : BoardD) (side : Int) (prog : List (Int × Int)) (cell : Int) {i : Nat} (h : i < prog.length) : pathsK b side prog cell (i + 1) = (pathsK b side prog cell i).flatMap fun w => extP b side w (nth prog i) := by
 unfold pathsK pathsP
 rw [List.take_add_one, List.getElem?_eq_getElem h, nth_eq _ _ h, Option.toList_some, List.foldl_append]
 rfl
theorem pathsK_acts {b : BoardD} (hb : BoardOk b) (h9 : b.cells ≤ 9) (side : Int) (prog : List (Int × Int)) (cell : Int) : ∀ i, i ≤ prog.length → ActsLe (10 * i) (pathsK b side prog cell i)
 | 0, _ => by
  intro w hw
  simp [pathsK, pathsP] at hw
  subst hw
  simp
 | i + 1, h => by
  rw [pathsK_succ b side prog cell (by omega)]
  exact stepP_acts hb h9 side (pathsK_acts hb h9 side prog cell i (by omega)) _
theorem pathsK_len {b : BoardD} (hb : BoardOk b) (h1 : 1 ≤ b.cells) (h9 : b.cells ≤ 9) (side : Int) (prog : List (Int × Int)) (hp : prog.length ≤ 8) (cell : Int) (i : Nat) : (pathsK b side prog cell i).length ≤ 43046721 := by
 have h := pathsP_len hb h1 side (prog.take i) cell
 have hc : countOp (prog.take i) 2 ≤ 8 := by
  unfold countOp
  have := List.countP_le_length (p := fun x : Int × Int => x.1 == 2) (l := prog.take i)
  simp at this
  omega
 have h2 : b.cells.toNat ^ countOp (prog.take i) 2 ≤ 9 ^ countOp (prog.take i) 2 := Nat.pow_le_pow_left (by omega) _
 have h3 : 9 ^ countOp (prog.take i) 2 ≤ 9 ^ 8 := Nat.pow_le_pow_right (by omega) hc
 unfold pathsK
 omega
theorem paths_pure (b : BoardD) (hb : BoardOk b) (h1 : 1 ≤ b.cells) (h9 : b.cells ≤ 9) (side : Int) (prog : List (Int × Int)) (hp : prog.length ≤ 8) (cell : Int) :
  Pure Tryz.prog 148 [.agg (encB b), .v (.int .i64 side), encProg prog, .v (.int .i64 cell)] (encPt (pathsP b side prog cell)) := by
 refine pF Tryz.func148 ?_
 have hR : pathsP b side prog cell = pathsK b side prog cell prog.length := by unfold pathsK; rw [List.take_length]
 have hl := pathsK_len hb h1 h9 side prog hp cell
 have ha := pathsK_acts hb h9 side prog cell
 have hs := fun (i : Nat) (h : i < prog.length) => pathsK_succ b side prog cell h
 have h0 : pathsK b side prog cell 0 = [⟨[], cell⟩] := rfl
 rw [hR]
 have hP := fun w hw x => paths1_pure b hb h9 side w hw x
 generalize pathsK b side prog cell = K at *
 generalize hXb : extP b side = E at *
 have hbl : ∀ n, (∀ c' ∈ encB b, Bel n c') = True := fun n => by simp [go_sem]
 have hel : (encB b).length = 3 := rfl
 have hte : (encB b).take 3 = encB b := rfl
 obtain ⟨eb, heb⟩ : ∃ eb, eb = encB b := ⟨_, rfl⟩
 rw [← heb] at hbl hel hte ⊢
 have hP' : ∀ w : PathD, w.acts.length ≤ 1000000 → ∀ x : Int × Int, Pure Tryz.prog 191 [.agg (encPath w), .fp eb, .fp [.v (.int .i64 side)], .fp [.v (.int .i64 x.1), .v (.int .i64 x.2)]] (encPt (E w x)) := fun w hw x => by rw [heb]; exact hP w hw x
 clear hP
 (repeat (first|with_reducible refine wV fun _=>?_|simp [go_sem, hel, hte]))
 refine ALoop.start (ALoop.ind (α := Nat) (fun i => ⟨[(4, .ref 0 0 3 0 0), (5, .ref 1 0 1 0 0), (9, encPt (K i)), (15, encProg prog), (16, .v (.int .i64 prog.length)), (17, .v (.int .i64 i))], [(0, .rows false 0 3 [eb]), (1, .rows false 0 1 [[.v (.int .i64 side)]])], 2⟩)
  (fun d i => i + d = prog.length) ?_ prog.length 0 ?_) ?_ ?_
 ·rintro d i i1 hrec
  have hli := hl i
  (repeat (first|with_reducible refine wV fun _=>?_|simp [go_sem, hel, hte]))
  refine aIf.mkL (fun hi => ?_) (fun hi => ?_) <;> simp at hi
  ·have hsi := hs i hi
   have hls := hl (i + 1)
   have hai := ha i (by omega)
   (repeat (first|with_reducible refine wV fun _=>?_|simp [go_sem, hel, hte, hi]))
   refine ACallP.pureF [2] (flatP_pure (K i) (by omega) 191 [.fp eb, .fp [.v (.int .i64 side)], .fp [.v (.int .i64 (nth prog i).1), .v (.int .i64 (nth prog i).2)]] (fun w => E w (nth prog i)) (fun w hw => hP' w (by have := hai w hw; omega) _) (by simp [go_sem, hbl]) (by rw [← hsi]; omega)) ?_ (by simp [go_sem, hbl]) ?_
   ·(first|done|exact leX)
   ·rw [← hsi]
    (repeat (first|with_reducible refine wV fun _=>?_|simp [go_sem, hel, hte]))
    refine ALoop.start (hrec (d - 1) (by omega) (i + 1) (by omega)) ?_ (by simp)
    simp [go_sem, Wk_eq, hbl]
  ·have hil : i = prog.length := by omega
   subst hil
   generalize K prog.length = R at *
   (repeat (first|with_reducible refine wV fun _=>?_|simp [go_sem]))
 ·simp
 ·simp [go_sem, Wk_eq, h0, hbl]
  (first|done|exact leX)
 ·simp
end Go.Av
end
section
/- Contracts, paths: gen.Compile. -/
open Go Go.Proofs
namespace Go.Av
theorem compile1_pure (g : GameD) (hg : GOk g) (side : Int) (cell : Int) (prog : List (Int × Int)) (hp : prog.length ≤ 8) :
    Pure Tryz.prog 147 [encProg prog, .fp (encGame g), .fp [.v (.int .i64 side)], .fp [.v (.int .i64 cell)]] (encPt (pathsP g.board side prog cell)) := by
  refine pF Tryz.func147 ?_
  have hP := paths_pure g.board hg.board hg.c1 hg.c9 side prog hp cell
  generalize pathsP g.board side prog cell = R at *
  rw [show encB g.board = [.v (.int .i64 g.cells), encIss g.next, encIs g.turn] from rfl] at hP
  (repeat (first|with_reducible refine wV fun _=>?_|simp [go_sem]))
  refine ACallP.plain hP (by simp [go_sem]) ?_
  (repeat (first|with_reducible refine wV fun _=>?_|simp [go_sem]))
def fillR (f : Nat → List AV) (z : List AV) (n c : Nat) : List (List AV) := (List.range n).map fun i => if i < c then f i else z
theorem fillR_len (f : Nat → List AV) (z : List AV) (n c : Nat) : (fillR f z n c).length = n := by simp [fillR]
theorem fillR_zero (f : Nat → List AV) (z : List AV) (n : Nat) : List.replicate n z = fillR f z n 0 := by
  unfold fillR
  refine List.ext_getElem (by simp) fun i h1 h2 => ?_
  simp
theorem fillR_set (f : Nat → List AV) (z : List AV) (n c : Nat) : (fillR f z n c).set c (f c) = fillR f z n (c + 1) := by
  unfold fillR
  refine List.ext_getElem (by simp) fun i h1 h2 => ?_
  simp only [List.getElem_set, List.getElem_map, List.getElem_range]
  by_cases h : c = i
  · subst h; simp
  · rw [if_neg h]
    by_cases hi : i < c
    · rw [if_pos hi, if_pos (by omega)]
    · rw [if_neg hi, if_neg (by omega)]
theorem fillR_all (f : Nat → List AV) (z : List AV) (n : Nat) : fillR f z n n = (List.range n).map f := by
  unfold fillR
  refine List.map_congr_left fun i hi => ?_
  rw [if_pos (List.mem_range.1 hi)]
theorem fillR_bel {f : Nat → List AV} {z : List AV} {n c m : Nat} (hf : ∀ i, ∀ x ∈ f i, Bel m x) (hz : ∀ x ∈ z, Bel m x) : ∀ r ∈ fillR f z n c, ∀ x ∈ r, Bel m x := by
  intro r hr x hx
  unfold fillR at hr
  obtain ⟨i, _, rfl⟩ := List.mem_map.1 hr
  split at hx
  · exact hf i x hx
  · exact hz x hx
theorem frzO_upd (h : Heap) (o : Nat) (x : Option AObj) : frzO (upd h o x) [o] = upd h o (frz1 x) := by
  funext a
  unfold frzO upd
  by_cases e : a = o
  · subst e; simp
  · simp [e]
def sideK (g : GameD) (side : Int) (j : Nat) : List (List (List PathD)) := (g.kinds.take j).map fun k => cellsP g.board side k.progs
theorem sideK_succ (g : GameD) (side : Int) {j : Nat} (h : j < g.kinds.length) : sideK g side (j + 1) = sideK g side j ++ [cellsP g.board side (nth g.kinds j).progs] := by
  unfold sideK
  rw [List.take_add_one, List.getElem?_eq_getElem h, nth_eq _ _ h, Option.toList_some, List.map_append]
  rfl
theorem sideK_all (g : GameD) (side : Int) : sideK g side g.kinds.length = sideP g side := by unfold sideK sideP; rw [List.take_length]
theorem sideK_zero (g : GameD) (side : Int) : sideK g side 0 = [] := by simp [sideK]
theorem sideK_len (g : GameD) (side : Int) {j : Nat} (h : j ≤ g.kinds.length) : (sideK g side j).length = j := by simp [sideK]; omega
theorem kindP_len {g : GameD} (hg : GOk g) (side : Int) {k : KindD} (hk : k ∈ g.kinds) (cell : Int) : (kindP g.board side k.progs cell).length ≤ 8589934592 := by
  have h := flatMap_le (fun p => pathsP g.board side p cell) 43046721 k.progs (fun p hp => by
    have := pathsK_len hg.board hg.c1 hg.c9 side p (hg.pr k hk p hp).len cell p.length
    unfold pathsK at this
    rwa [List.take_length] at this)
  have := hg.pn k hk
  have h2 : k.progs.length * 43046721 ≤ 8 * 43046721 := Nat.mul_le_mul_right _ this
  unfold kindP
  omega
theorem kindP_acts {g : GameD} (hg : GOk g) (s : Int) {k : KindD} (hk : k ∈ g.kinds) (c : Int) : ActsLe 1048576 (kindP g.board s k.progs c) := by
  intro w hw
  obtain ⟨p, hp, hw⟩ := List.mem_flatMap.1 hw
  have := pathsK_acts hg.board hg.c9 s p c p.length (Nat.le_refl _) w (by unfold pathsK; rwa [List.take_length])
  have := (hg.pr k hk p hp).len
  omega
theorem Compile_pure (g : GameD) (hg : GOk g) : Pure Tryz.prog 80 [.agg (encGame g)] (.agg (encCode (codeP g))) := by
  refine pF Tryz.func80 ?_
  have hc9 := hg.c9
  have hc1 := hg.c1
  have hk6 := hg.k6
  have hF := fun (s : Int) (c : Int) (k : KindD) (hk : k ∈ g.kinds) => flatQ_pure k.progs (by have := hg.pn k hk; omega) 147 [.fp (encGame g), .fp [.v (.int .i64 s)], .fp [.v (.int .i64 c)]] (fun p => pathsP g.board s p c)
    (fun p hp => compile1_pure g hg s c p (hg.pr k hk p hp).len) (by simp [go_sem]) (kindP_len hg s hk c)
  have hkb : ∀ (s : Int) (k : KindD) (c : Nat), c < g.cells.toNat → True := fun _ _ _ _ => trivial
  have hR : encCode (codeP g) = [encSide (sideP g 0), encSide (sideP g 1)] := rfl
  rw [hR]
  clear hR
  have hsk := fun (s : Int) (j : Nat) (h : j < g.kinds.length) => sideK_succ g s h
  have hsa := fun s => sideK_all g s
  have hsz := fun s => sideK_zero g s
  have hsl := fun (s : Int) (j : Nat) (h : j ≤ g.kinds.length) => sideK_len g s h
  obtain ⟨C, hC⟩ : ∃ C : Nat, g.cells = C := ⟨g.cells.toNat, by omega⟩
  have hcells : ∀ (s : Int) (j : Nat), cellsP g.board s (nth g.kinds j).progs = (List.range C).map fun (c : Nat) => kindP g.board s (nth g.kinds j).progs c := fun s j => by
    unfold cellsP
    rw [show g.board.cells.toNat = C by have : g.board.cells = g.cells := rfl; omega]
  generalize sideK g = K at *
  have heg : encGame g = [.v (.int .i64 (C : Int)), encIss g.next, encIs g.turn, .lst 3 (g.kinds.map encKind), .v (.int .i64 g.rights), .v (.bool g.must), .lst 4 (g.clauses.map encClause), .v (.int .i64 g.blocked), .v (.int .i64 g.endless)] := by rw [← hC]; rfl
  rw [heg] at hF
  have hbl : ∀ n, (∀ c' ∈ encGame g, Bel n c') = True := fun n => by simp [go_sem]
  have hel : (encGame g).length = 9 := rfl
  (repeat (first|with_reducible refine wV fun _=>?_|simp [go_sem, hel]))
  refine ALoop.start (ALoop.ind (α := Nat) (fun s => ⟨[(1, .ref 0 0 9 0 0), (2, .ref 1 0 2 0 0), (3, .ref 2 0 2 0 0), (9, .v (.int .i64 s))],
      [(0, .rows false 0 9 [encGame g]), (1, .rows true 0 2 [[AV.v (.slice none 0 0), AV.v (.slice none 0 0)]]), (2, .rows true 0 2 [[if s = 0 then AV.v (.slice none 0 0) else encSide (sideP g 0), if s < 2 then AV.v (.slice none 0 0) else encSide (sideP g 1)]])], 3⟩)
    (fun d s => s + d = 2) ?_ 2 0 ?_) ?_ ?_
  · rintro d0 s s1 hrec
    rcases (show s = 0 ∨ s = 1 ∨ s = 2 by omega) with rfl | rfl | rfl
    · have hFs := hF 0
      have hsk := hsk 0
      have hsa := hsa 0
      have hsz := hsz 0
      have hsl := hsl 0
      have hcells := hcells 0
      (repeat (first|with_reducible refine wV fun _=>?_|simp [go_sem, hel, hC]))
      refine ALoop.start (ALoop.ind (α := Nat) (fun j => ⟨[(1, .ref 0 0 9 0 0), (2, .ref 1 0 2 0 0), (3, .ref 2 0 2 0 0), (4, .ref 3 0 1 0 0), (9, .v (.int .i64 0)), (13, .lst 3 (g.kinds.map encKind)), (14, .v (.int .i64 g.kinds.length)), (15, .v (.int .i64 j))],
          [(0, .rows false 0 9 [encGame g]), (1, .rows true 0 2 [[AV.v (.slice none 0 0), AV.v (.slice none 0 0)]]), (2, .rows true 0 2 [[.sl 4 j 1 0 j, AV.v (.slice none 0 0)]]), (3, .rows false 0 1 [[.v (.int .i64 0)]]), (4, .rows true j 1 ((K 0 j).map fun x => [encCells x]))], 5⟩)
        (fun d j => j + d = g.kinds.length) ?_ g.kinds.length 0 ?_) ?_ ?_
      · rintro d j j1 hrec2
        have hlj := hsl j (by omega)
        (repeat (first|with_reducible refine wV fun _=>?_|simp [go_sem, hel, hC, hlj]))
        refine aIf.mkL (fun hj => ?_) (fun hj => ?_) <;> simp at hj
        · have hkm := nth_mem hj
          have hpn := hg.pn _ hkm
          have hFk := fun (c : Nat) => hFs c _ hkm
          have hsj := hsk j hj
          have hcj := hcells j
          have hlj1 := hsl (j + 1) (by omega)
          have hkp : ∀ c : Int, (nth g.kinds j).progs.flatMap (fun p => pathsP g.board 0 p c) = kindP g.board 0 (nth g.kinds j).progs c := fun c => rfl
          simp only [hkp] at hFk
          generalize kindP g.board 0 (nth g.kinds j).progs = KP at *
          (repeat (first|with_reducible refine wV fun _=>?_|simp [go_sem, hel, hC, hj]))
          rw [fillR_zero (fun (i : Nat) => [.lst 2 ((KP i).map encPath)])]
          refine ALoop.start (ALoop.ind (α := Nat) (fun c => ⟨[(1, .ref 0 0 9 0 0), (2, .ref 1 0 2 0 0), (3, .ref 2 0 2 0 0), (4, .ref 3 0 1 0 0), (6, .ref 5 0 3 0 0), (7, .sl 6 0 1 0 C), (9, .v (.int .i64 0)), (13, .lst 3 (g.kinds.map encKind)), (14, .v (.int .i64 g.kinds.length)), (15, .v (.int .i64 j)), (24, .v (.int .i64 C)), (25, .v (.int .i64 c))],
              [(0, .rows false 0 9 [encGame g]), (1, .rows true 0 2 [[AV.v (.slice none 0 0), AV.v (.slice none 0 0)]]), (2, .rows true 0 2 [[.sl 4 j 1 0 j, AV.v (.slice none 0 0)]]), (3, .rows false 0 1 [[.v (.int .i64 0)]]), (4, .rows true j 1 ((K 0 j).map fun x => [encCells x])),
               (5, .rows true 0 3 [encKind (nth g.kinds j)]), (6, .rows true 0 1 (fillR (fun (i : Nat) => [.lst 2 ((KP i).map encPath)]) [AV.v (.slice none 0 0)] C c))], 7⟩)
            (fun d c => c + d = C) ?_ C 0 ?_) ?_ ?_
          · rintro d2 c c1' hrec3
            have hfl := fillR_len (fun (i : Nat) => [.lst 2 ((KP i).map encPath)]) [AV.v (.slice none 0 0)] C c
            have hfs := fillR_set (fun (i : Nat) => [.lst 2 ((KP i).map encPath)]) [AV.v (.slice none 0 0)] C c
            (repeat (first|with_reducible refine wV fun _=>?_|simp [go_sem, hel, hC, hlj, hfl]))
            refine aIf.mkL (fun hc => ?_) (fun hc => ?_) <;> simp at hc
            · (repeat (first|with_reducible (first|refine wL fun _=>?_|refine wD fun _=>?_|refine wE ?_)|simp [go_sem, hel, hC, hj, hfl]))
              refine adrZ.frz (frzO _ [7]) (frz_frzO _ _) ?_
              simp only [frzO_upd]
              (repeat (first|with_reducible refine wV fun _=>?_|simp [go_sem, hel, hC, hj, hfl]))
              refine dCall.frz [.lst 1 ((nth g.kinds j).progs.map fun p => [encProg p]), _] _ [0, 3, 7] [] (hFk c) (by simp) ?_ (by simp [go_sem]) ?_
              · intro h₁ hS
                have h0 := hS 0 (by simp)
                have h3 := hS 3 (by simp)
                have h7 := hS 7 (by simp)
                simp [upd, frzO, frz1] at h0 h3 h7
                refine .cons (.refl _) (.cons (.fn .nil (.cons (.frzP h0.symm (by simp) (by simp) (by simp [applyW, upd, ← h0]) (.refl _ _ _ _)) (.cons (.frzP h3.symm (by simp) (by simp) (by simp [applyW, upd, ← h3]) (.refl _ _ _ _)) (.cons (.frzP h7.symm (by simp) (by simp) (by simp [applyW, upd, ← h7]) (.refl _ _ _ _)) .nil)))) .nil)
              · (repeat (first|with_reducible refine wV fun _=>?_|simp [go_sem, hel, hC, hj, hfl]))
                refine ALoop.start (hrec3 (d2 - 1) (by omega) (c + 1) (by omega)) ?_ (by simp)
                simp [go_sem, Wk_eq, hfs, hC]
                exact fillR_bel (fun i x hx => by simp only [List.mem_singleton] at hx; subst hx; exact of_eq_true bel_Pas) (fun x hx => by simp only [List.mem_singleton] at hx; subst hx; exact .v _)
            · have hcC : c = C := by omega
              subst hcC
              rw [fillR_all]
              (repeat (first|with_reducible refine wV fun _=>?_|simp [go_sem, hel, hC, hj]))
              refine ALoop.start (hrec2 (d - 1) (by omega) (j + 1) (by omega)) ?_ (by simp)
              simp [go_sem, Wk_eq, hsj, hcj, hC]
              (first|done|exact leX)
          · simp
          · simp [go_sem, Wk_eq, hC]
            exact fillR_bel (fun i x hx => by simp only [List.mem_singleton] at hx; subst hx; exact of_eq_true bel_Pas) (fun x hx => by simp only [List.mem_singleton] at hx; subst hx; exact .v _)
          · simp
        · have hjl : j = g.kinds.length := by omega
          subst hjl
          rw [hsa]
          (repeat (first|with_reducible refine wV fun _=>?_|simp [go_sem, hel, hC]))
          refine ALoop.start (hrec (d0 - 1) (by omega) (1) (by omega)) ?_ (by simp)
          have hsl' : (sideP g 0).length = g.kinds.length := by simp [sideP]
          simp [go_sem, Wk_eq, hC]
          ((try simp only [encProg, encStep, encAct, encAs, encPath, encPt, encOut, encState, encPos, encOs, encSs, encPs, encIs, encGame, List.map_cons, List.map_nil, List.nil_append, List.append_nil, List.cons_append]); (repeat (first | (with_reducible exact LeRow.nil) | (with_reducible exact LeRows.nil) | (with_reducible exact LeV.refl _) | (with_reducible exact LeRow.refl _ _ _ _) | (with_reducible exact LeRows.refl _) | (with_reducible refine LeRow.cons ?_ ?_) | (with_reducible refine LeRows.cons ?_ ?_) | (with_reducible refine LeV.agg ?_) | (with_reducible refine LeV.tup ?_) | (with_reducible refine LeV.fn ?_ ?_) | (with_reducible exact LeV.nil _) | (with_reducible refine leRows_append (LeRows.refl _) ?_) | ((refine leV_frz rfl (by simp [hsl']) (by simp [frzO, frz1, upd, noH]) ?_); (first | (simp [go_sem, hsl']; done) | (simp [go_sem, hsl']; exact List.take_of_length_le (by simp [hsl'])))) | ((refine LeV.frz rfl (by simp [hsl']) (by simp [frzO, frz1, upd, noH]) ?_); (simp only [List.drop_zero, List.take_succ_cons, List.take_zero, List.map_cons, List.map_nil])) | ((refine LeV.frzP rfl (by simp [hsl']) (by simp) (by simp [frzO, frz1, upd, noH]) ?_); (simp only [nth_zero, List.drop_zero])))))
      · simp
      · simp [go_sem, Wk_eq, hsz, hC]
      · simp
    · have hFs := hF 1
      have hsk := hsk 1
      have hsa := hsa 1
      have hsz := hsz 1
      have hsl := hsl 1
      have hcells := hcells 1
      (repeat (first|with_reducible refine wV fun _=>?_|simp [go_sem, hel, hC]))
      refine ALoop.start (ALoop.ind (α := Nat) (fun j => ⟨[(1, .ref 0 0 9 0 0), (2, .ref 1 0 2 0 0), (3, .ref 2 0 2 0 0), (4, .ref 3 0 1 0 0), (9, .v (.int .i64 1)), (13, .lst 3 (g.kinds.map encKind)), (14, .v (.int .i64 g.kinds.length)), (15, .v (.int .i64 j))],
          [(0, .rows false 0 9 [encGame g]), (1, .rows true 0 2 [[AV.v (.slice none 0 0), AV.v (.slice none 0 0)]]), (2, .rows true 0 2 [[encSide (sideP g 0), .sl 4 j 1 0 j]]), (3, .rows false 0 1 [[.v (.int .i64 1)]]), (4, .rows true j 1 ((K 1 j).map fun x => [encCells x]))], 5⟩)
        (fun d j => j + d = g.kinds.length) ?_ g.kinds.length 0 ?_) ?_ ?_
      · rintro d j j1 hrec2
        have hlj := hsl j (by omega)
        (repeat (first|with_reducible refine wV fun _=>?_|simp [go_sem, hel, hC, hlj]))
        refine aIf.mkL (fun hj => ?_) (fun hj => ?_) <;> simp at hj
        · have hkm := nth_mem hj
          have hpn := hg.pn _ hkm
          have hFk := fun (c : Nat) => hFs c _ hkm
          have hsj := hsk j hj
          have hcj := hcells j
          have hlj1 := hsl (j + 1) (by omega)
          have hkp : ∀ c : Int, (nth g.kinds j).progs.flatMap (fun p => pathsP g.board 1 p c) = kindP g.board 1 (nth g.kinds j).progs c := fun c => rfl
          simp only [hkp] at hFk
          generalize kindP g.board 1 (nth g.kinds j).progs = KP at *
          (repeat (first|with_reducible refine wV fun _=>?_|simp [go_sem, hel, hC, hj]))
          rw [fillR_zero (fun (i : Nat) => [.lst 2 ((KP i).map encPath)])]
          refine ALoop.start (ALoop.ind (α := Nat) (fun c => ⟨[(1, .ref 0 0 9 0 0), (2, .ref 1 0 2 0 0), (3, .ref 2 0 2 0 0), (4, .ref 3 0 1 0 0), (6, .ref 5 0 3 0 0), (7, .sl 6 0 1 0 C), (9, .v (.int .i64 1)), (13, .lst 3 (g.kinds.map encKind)), (14, .v (.int .i64 g.kinds.length)), (15, .v (.int .i64 j)), (24, .v (.int .i64 C)), (25, .v (.int .i64 c))],
              [(0, .rows false 0 9 [encGame g]), (1, .rows true 0 2 [[AV.v (.slice none 0 0), AV.v (.slice none 0 0)]]), (2, .rows true 0 2 [[encSide (sideP g 0), .sl 4 j 1 0 j]]), (3, .rows false 0 1 [[.v (.int .i64 1)]]), (4, .rows true j 1 ((K 1 j).map fun x => [encCells x])),
               (5, .rows true 0 3 [encKind (nth g.kinds j)]), (6, .rows true 0 1 (fillR (fun (i : Nat) => [.lst 2 ((KP i).map encPath)]) [AV.v (.slice none 0 0)] C c))], 7⟩)
            (fun d c => c + d = C) ?_ C 0 ?_) ?_ ?_
          · rintro d2 c c1' hrec3
            have hfl := fillR_len (fun (i : Nat) => [.lst 2 ((KP i).map encPath)]) [AV.v (.slice none 0 0)] C c
            have hfs := fillR_set (fun (i : Nat) => [.lst 2 ((KP i).map encPath)]) [AV.v (.slice none 0 0)] C c
            (repeat (first|with_reducible refine wV fun _=>?_|simp [go_sem, hel, hC, hlj, hfl]))
            refine aIf.mkL (fun hc => ?_) (fun hc => ?_) <;> simp at hc
            · (repeat (first|with_reducible (first|refine wL fun _=>?_|refine wD fun _=>?_|refine wE ?_)|simp [go_sem, hel, hC, hj, hfl]))
              refine adrZ.frz (frzO _ [7]) (frz_frzO _ _) ?_
              simp only [frzO_upd]
              (repeat (first|with_reducible refine wV fun _=>?_|simp [go_sem, hel, hC, hj, hfl]))
              refine dCall.frz [.lst 1 ((nth g.kinds j).progs.map fun p => [encProg p]), _] _ [0, 3, 7] [] (hFk c) (by simp) ?_ (by simp [go_sem]) ?_
              · intro h₁ hS
                have h0 := hS 0 (by simp)
                have h3 := hS 3 (by simp)
                have h7 := hS 7 (by simp)
                simp [upd, frzO, frz1] at h0 h3 h7
                refine .cons (.refl _) (.cons (.fn .nil (.cons (.frzP h0.symm (by simp) (by simp) (by simp [applyW, upd, ← h0]) (.refl _ _ _ _)) (.cons (.frzP h3.symm (by simp) (by simp) (by simp [applyW, upd, ← h3]) (.refl _ _ _ _)) (.cons (.frzP h7.symm (by simp) (by simp) (by simp [applyW, upd, ← h7]) (.refl _ _ _ _)) .nil)))) .nil)
              · (repeat (first|with_reducible refine wV fun _=>?_|simp [go_sem, hel, hC, hj, hfl]))
                refine ALoop.start (hrec3 (d2 - 1) (by omega) (c + 1) (by omega)) ?_ (by simp)
                simp [go_sem, Wk_eq, hfs, hC]
                exact fillR_bel (fun i x hx => by simp only [List.mem_singleton] at hx; subst hx; exact of_eq_true bel_Pas) (fun x hx => by simp only [List.mem_singleton] at hx; subst hx; exact .v _)
            · have hcC : c = C := by omega
              subst hcC
              rw [fillR_all]
              (repeat (first|with_reducible refine wV fun _=>?_|simp [go_sem, hel, hC, hj]))
              refine ALoop.start (hrec2 (d - 1) (by omega) (j + 1) (by omega)) ?_ (by simp)
              simp [go_sem, Wk_eq, hsj, hcj, hC]
              (first|done|exact leX)
          · simp
          · simp [go_sem, Wk_eq, hC]
            exact fillR_bel (fun i x hx => by simp only [List.mem_singleton] at hx; subst hx; exact of_eq_true bel_Pas) (fun x hx => by simp only [List.mem_singleton] at hx; subst hx; exact .v _)
          · simp
        · have hjl : j = g.kinds.length := by omega
          subst hjl
          rw [hsa]
          (repeat (first|with_reducible refine wV fun _=>?_|simp [go_sem, hel, hC]))
          refine ALoop.start (hrec (d0 - 1) (by omega) (2) (by omega)) ?_ (by simp)
          have hsl' : (sideP g 1).length = g.kinds.length := by simp [sideP]
          simp [go_sem, Wk_eq, hC]
          ((try simp only [encProg, encStep, encAct, encAs, encPath, encPt, encOut, encState, encPos, encOs, encSs, encPs, encIs, encGame, List.map_cons, List.map_nil, List.nil_append, List.append_nil, List.cons_append]); (repeat (first | (with_reducible exact LeRow.nil) | (with_reducible exact LeRows.nil) | (with_reducible exact LeV.refl _) | (with_reducible exact LeRow.refl _ _ _ _) | (with_reducible exact LeRows.refl _) | (with_reducible refine LeRow.cons ?_ ?_) | (with_reducible refine LeRows.cons ?_ ?_) | (with_reducible refine LeV.agg ?_) | (with_reducible refine LeV.tup ?_) | (with_reducible refine LeV.fn ?_ ?_) | (with_reducible exact LeV.nil _) | (with_reducible refine leRows_append (LeRows.refl _) ?_) | ((refine leV_frz rfl (by simp [hsl']) (by simp [frzO, frz1, upd, noH]) ?_); (first | (simp [go_sem, hsl']; done) | (simp [go_sem, hsl']; exact List.take_of_length_le (by simp [hsl'])))) | ((refine LeV.frz rfl (by simp [hsl']) (by simp [frzO, frz1, upd, noH]) ?_); (simp only [List.drop_zero, List.take_succ_cons, List.take_zero, List.map_cons, List.map_nil])) | ((refine LeV.frzP rfl (by simp [hsl']) (by simp) (by simp [frzO, frz1, upd, noH]) ?_); (simp only [nth_zero, List.drop_zero])))))
      · simp
      · simp [go_sem, Wk_eq, hsz, hC]
      · simp
    · (repeat (first|with_reducible refine wV fun _=>?_|simp [go_sem]))
  · simp
  · simp [go_sem, Wk_eq]
  · simp
end Go.Av
end
section
/- Contracts, the reference of layer 22: names, joined cells, joins of names. -/
open Go Go.Proofs
namespace Go.Av
def namesU (of : List Int) (c : Nat) : List Int := ((List.range c).filter fun (c : Nat) => decide (nth of c = (c : Int))).map fun (c : Nat) => (c : Int)
theorem namesU_succ (of : List Int) (c : Nat) : namesU of (c + 1) = if nth of c = (c : Int) then namesU of c ++ [(c : Int)] else namesU of c := by
 unfold namesU
 rw [List.range_succ, List.filter_append]
 by_cases h : nth of c = (c : Int) <;> simp [h]
theorem namesU_len (of : List Int) (c : Nat) : (namesU of c).length ≤ c := by
 unfold namesU
 rw [List.length_map]
 exact Nat.le_trans (List.length_filter_le _ _) (by simp)
theorem minE (a b : Int) : (if b < a then b else a) = min a b := by rw [Int.min_def]; split <;> split <;> omega
theorem maxE (a b : Int) : (if a < b then b else a) = max a b := by rw [Int.max_def]; split <;> split <;> omega
def outP (names : List Int) (L : Int) (p : Nat → Bool) : List Int := (List.range names.length).map fun j => if p j then L else nth names j
theorem outP_len (names : List Int) (L : Int) (p : Nat → Bool) : (outP names L p).length = names.length := by simp [outP]
theorem outP_congr {names : List Int} {L : Int} {p q : Nat → Bool} (h : ∀ j, j < names.length → p j = q j) : outP names L p = outP names L q := by
 unfold outP
 refine List.map_congr_left fun j hj => ?_
 rw [h j (List.mem_range.1 hj)]
theorem outP_set {names : List Int} {L : Int} {p q : Nat → Bool} {k : Nat} (hk : k < names.length) (h : ∀ j, j < names.length → q j = (p j || decide (j = k))) : outP names L q = (outP names L p).set k L := by
 refine List.ext_getElem (by simp [outP]) fun j h1 h2 => ?_
 have hj : j < names.length := by simpa [outP] using h1
 simp only [outP, List.getElem_map, List.getElem_range, List.getElem_set, List.length_map, List.length_range]
 rw [h j hj]
 by_cases e : k = j
 ·subst e; simp
 ·rw [if_neg e]
  have : decide (j = k) = false := by simp; omega
  rw [this, Bool.or_false]
theorem outP_none (names : List Int) (L : Int) : outP names L (fun _ => false) = names := by
 refine List.ext_getElem (by simp [outP]) fun j h1 h2 => ?_
 simp [outP, nth_eq _ _ h2]
end Go.Av
end
section
/- Contracts, layer 22: parts; names, cells, links of the program. -/
open Go Go.Proofs
namespace Go.Av
theorem rNames_pure (of : List Int) (hl : of.length ≤ 1048576) : Pure Tryz.prog 72 [encIs of] (encIs (namesU of of.length)) := by
  refine pF Tryz.func72 ?_
  (repeat (first|with_reducible refine wV fun _=>?_|simp [go_sem]))
  refine ALoop.start (ALoop.ind (α := Nat) (fun c => ⟨[(3, .sl 0 (namesU of c).length 1 0 (namesU of c).length), (6, encIs of), (7, .int of.length), (8, .v (.int .i64 c))], [(0, .rows true (namesU of c).length 1 ((namesU of c).map encI))], 1⟩)
    (fun d c => c + d = of.length) ?_ of.length 0 ?_) ?_ ?_
  · rintro d c i1 hrec
    have hs := namesU_succ of c
    have hn := namesU_len of c
    (repeat (first|with_reducible refine wV fun _=>?_|simp [go_sem]))
    refine aIf.mkL (fun hc => ?_) (fun hc => ?_) <;> simp at hc
    · (repeat (first|with_reducible refine wV fun _=>?_|simp [go_sem, hc]))
      refine aIf.mkL (fun he => ?_) (fun he => ?_) <;> simp at he
      · rw [if_pos he.symm] at hs
        (repeat (first|with_reducible refine wV fun _=>?_|simp [go_sem]))
        refine ALoop.start (hrec (d - 1) (by omega) (c + 1) (by omega)) ?_ (by simp)
        simp [go_sem, Wk_eq, hs]
      · rw [if_neg (fun h => he h.symm)] at hs
        (repeat (first|with_reducible refine wV fun _=>?_|simp [go_sem]))
        refine ALoop.start (hrec (d - 1) (by omega) (c + 1) (by omega)) ?_ (by simp)
        simp [go_sem, Wk_eq, hs]
    · have hil : c = of.length := by omega
      subst hil
      (repeat (first|with_reducible refine wV fun _=>?_|simp [go_sem]))
      (first|done|exact leX)
  · simp
  · simp [go_sem, Wk_eq, namesU]
  · simp
theorem rCells_pure (a : ActD) : Pure Tryz.prog 82 [.agg (encAct a)] (encIs (cellsA a)) := by
  refine pF Tryz.func82 ?_
  obtain ⟨op, A, B⟩ := a
  simp only [cellsA]
  by_cases h7 : op = 7
  · subst h7
    (repeat (first|with_reducible refine wV fun _=>?_|simp [go_sem]))
    (first|done|exact leX)
  · by_cases h3 : op = 3 ∨ op = 4 ∨ op = 5 ∨ op = 6
    · rw [if_pos h3]
      rcases h3 with rfl | rfl | rfl | rfl <;> (repeat (first|with_reducible refine wV fun _=>?_|simp [go_sem])) <;> (first|done|exact leX)
    · rw [if_neg h3, if_neg h7]
      have a3 : ¬ op = 3 := fun e => h3 (.inl e)
      have a4 : ¬ op = 4 := fun e => h3 (.inr (.inl e))
      have a5 : ¬ op = 5 := fun e => h3 (.inr (.inr (.inl e)))
      have a6 : ¬ op = 6 := fun e => h3 (.inr (.inr (.inr e)))
      (repeat (first|with_reducible refine wV fun _=>?_|simp [go_sem, h7, a3, a4, a5, a6]))
      (first|done|exact leX)
def partL (of at_ : List Int) (name : Int) (k : Nat) : List Int := (List.range k).map fun c => if nth of c = name then nth at_ c else 0
theorem partL_len (of at_ : List Int) (name : Int) (k : Nat) : (partL of at_ name k).length = k := by simp [partL]
def hideL (of at_ : List Int) (name : Int) (c : Nat) : List Int := outP at_ 0 (fun j => decide (j < c) && decide (nth of j ≠ name))
theorem hideL_len (of at_ : List Int) (name : Int) (c : Nat) : (hideL of at_ name c).length = at_.length := outP_len _ _ _
theorem hideL_zero (of at_ : List Int) (name : Int) : hideL of at_ name 0 = at_ := (outP_congr fun j hj => by simp).trans (outP_none at_ 0)
theorem hideL_succ (of at_ : List Int) (name : Int) {c : Nat} (hc : c < at_.length) : hideL of at_ name (c + 1) = if nth of c = name then hideL of at_ name c else (hideL of at_ name c).set c 0 := by
  split
  · rename_i he
    refine outP_congr fun j hj => ?_
    by_cases hjc : j = c
    · subst hjc; simp [he]
    · have e1 : decide (j < c + 1) = decide (j < c) := by simp; omega
      rw [e1]
  · rename_i he
    refine outP_set hc fun j hj => ?_
    by_cases hjc : j = c
    · subst hjc; simp [he]
    · have e1 : decide (j < c + 1) = decide (j < c) := by simp; omega
      have e2 : decide (j = c) = false := by simp [hjc]
      rw [e1, e2, Bool.or_false]
theorem partL_out (of at_ : List Int) (name : Int) : hideL of at_ name at_.length = partL of at_ name at_.length := by
  unfold hideL outP partL
  refine List.map_congr_left fun j hj => ?_
  have hj' := List.mem_range.1 hj
  by_cases h : nth of j = name <;> simp [hj', h]
def partP (of : List Int) (p : PosD) (name : Int) : PosD := { p with at_ := partL of p.at_ name p.at_.length }
theorem rPart_pure (of : List Int) (p : PosD) (name : Int) (hof : of.length = p.at_.length) (hp : p.at_.length ≤ 1048576) :
    Pure Tryz.prog 73 [encIs of, .agg (encPos p), .v (.int .i64 name)] (.agg (encPos (partP of p name))) := by
  refine pF Tryz.func73 ?_
  unfold partP
  obtain ⟨at_, h0, h1, rt, sd⟩ := p
  simp only at hof hp ⊢
  rw [← partL_out]
  (repeat (first|with_reducible refine wV fun _=>?_|simp [go_sem]))
  refine ACallP.ownsPlain (Clone_owns at_ (by unfold Fits; omega)) (by simp [go_sem]) ?_
  (repeat (first|with_reducible refine wV fun _=>?_|simp [go_sem]))
  refine ALoop.start (ALoop.ind (α := Nat) (fun c => ⟨[(0, encIs of), (2, .v (.int .i64 name)), (4, .ref 0 0 5 0 0), (6, .ref 1 0 5 0 0), (14, .int at_.length), (15, .v (.int .i64 c))],
      [(0, .rows true 0 5 [[.sl 2 1 1 0 at_.length, encIs h0, encIs h1, .v (.int .i64 rt), .v (.int .i64 sd)]]), (1, .rows true 0 5 [[.v (.slice none 0 0), .v (.slice none 0 0), .v (.slice none 0 0), .v (.int .i64 0), .v (.int .i64 0)]]),
       (2, .rows true 1 1 ((hideL of at_ name c).map encI))], 3⟩)
    (fun d c => c + d = at_.length) ?_ at_.length 0 ?_) ?_ ?_
  · rintro d c i1 hrec
    have hn := hideL_len of at_ name c
    (repeat (first|with_reducible refine wV fun _=>?_|simp [go_sem]))
    refine aIf.mkL (fun hc => ?_) (fun hc => ?_) <;> simp at hc
    · have hc' : c < of.length := by omega
      have hs := hideL_succ of at_ name hc
      (repeat (first|with_reducible refine wV fun _=>?_|simp [go_sem, hc, hc', hn]))
      refine aIf.mkL (fun he => ?_) (fun he => ?_) <;> simp at he
      · rw [if_neg he] at hs
        (repeat (first|with_reducible refine wV fun _=>?_|simp [go_sem, hn, hc]))
        refine ALoop.start (hrec (d - 1) (by omega) (c + 1) (by omega)) ?_ (by simp)
        simp [go_sem, Wk_eq, hs]
      · rw [if_pos he] at hs
        (repeat (first|with_reducible refine wV fun _=>?_|simp [go_sem]))
        refine ALoop.start (hrec (d - 1) (by omega) (c + 1) (by omega)) ?_ (by simp)
        simp [go_sem, Wk_eq, hs]
    · have hil : c = at_.length := by omega
      subst hil
      (repeat (first|with_reducible refine wV fun _=>?_|simp [go_sem, hn]))
      ((try simp only [encProg, encStep, encAct, encAs, encPath, encPt, encOut, encState, encPos, encOs, encSs, encPs, encIs, encGame, List.map_cons, List.map_nil, List.nil_append, List.append_nil, List.cons_append]); (repeat (first | (with_reducible exact LeRow.nil) | (with_reducible exact LeRows.nil) | (with_reducible exact LeV.refl _) | (with_reducible exact LeRow.refl _ _ _ _) | (with_reducible exact LeRows.refl _) | (with_reducible refine LeRow.cons ?_ ?_) | (with_reducible refine LeRows.cons ?_ ?_) | (with_reducible refine LeV.agg ?_) | (with_reducible refine LeV.tup ?_) | (with_reducible refine LeV.fn ?_ ?_) | (with_reducible exact LeV.nil _) | (with_reducible refine leRows_append (LeRows.refl _) ?_) | ((refine leV_frz rfl (by simp [hn]) (by simp [frzO, frz1, upd, noH]) ?_); (first | (simp [go_sem, hn]; done) | (simp [go_sem, hn]; exact List.take_of_length_le (by simp [hn])))) | ((refine LeV.frz rfl (by simp [hn]) (by simp [frzO, frz1, upd, noH]) ?_); (simp only [List.drop_zero, List.take_succ_cons, List.take_zero, List.map_cons, List.map_nil])) | ((refine LeV.frzP rfl (by simp [hn]) (by simp) (by simp [frzO, frz1, upd, noH]) ?_); (simp only [nth_zero, List.drop_zero])))))
  · simp
  · simp [go_sem, Wk_eq, hideL_zero]
  · simp
end Go.Av
end
section
/- Contracts, layer 22: the links of the program: roots, joins. -/
open Go Go.Proofs
namespace Go.Av
def encL (l : List Int) : List AV := l.map fun x => .v (.int .i64 x)
theorem encL_len (l : List Int) : (encL l).length = l.length := by simp [encL]
theorem cel_encL0 {l : List Int} {c : Nat} (h : c < l.length) : cel ((encL l).drop c) 0 = .v (.int .i64 (nth l c)) := by
 unfold cel encL
 simp [nth_eq _ _ h, h]
theorem bel_encL {n : Nat} {l : List Int} : (∀ c ∈ encL l, Bel n c) = True := by
 refine eq_true ?_
 intro c hc
 obtain ⟨x, _, rfl⟩ := List.mem_map.1 hc
 exact .v _
attribute [go_sem ↓] bel_encL
theorem root_pure (l : List Int) (hl : LinkOk l) (c : Int) (h0 : 0 ≤ c) (h1 : c < 64) : Pure Tryz.prog 83 [.fp (encL l), .v (.int .i64 c)] (.v (.int .i64 (rootL l c))) := by
 refine pF Tryz.func83 ?_
 have hlen : (encL l).length = 64 := by rw [encL_len, hl.len]
 have hcel : ∀ c, c < 64 → cel ((encL l).drop c) 0 = .v (.int .i64 (nth l c)) := fun c hc => cel_encL0 (by rw [hl.len]; exact hc)
 have hbl : ∀ n, (∀ c ∈ encL l, Bel n c) := fun n => of_eq_true bel_encL
 generalize hel : encL l = el at *
 (repeat (first|with_reducible refine wV fun _=>?_|simp [go_sem, hlen]))
 refine ALoop.start (ALoop.ind (α := Int) (fun x => ⟨[(0, .fp el), (1, .v (.int .i64 x))], [], 0⟩)
  (fun d x => 0 ≤ x ∧ x < 64 ∧ d = x.toNat ∧ rootL l x = rootL l c) ?_ c.toNat c ?_) ?_ ?_
 ·rintro d x ⟨i0, i1, i2, i3⟩ hrec
  have hx := hl.le x.toNat (by omega)
  have hs := rootL_step hl i0 i1
  have hcx := hcel x.toNat (by omega)
  (repeat (first|with_reducible refine wV fun _=>?_|simp [go_sem, hlen, hcx]))
  refine aIf.mkL (fun he => ?_) (fun he => ?_) <;> simp at he
  ·have hne : ¬ nth l x.toNat = x := he
   rw [if_neg hne] at hs
   (repeat (first|with_reducible refine wV fun _=>?_|simp [go_sem, hlen, hcx]))
   refine ALoop.start (hrec (nth l x.toNat).toNat (by omega) (nth l x.toNat) ⟨by omega, by omega, rfl, by rw [← hs, i3]⟩) ?_ (by simp)
   simp [go_sem, Wk_eq]
   exact hbl 0
  ·rw [if_pos he] at hs
   rw [hs] at i3
   subst i3
   (repeat (first|with_reducible refine wV fun _=>?_|simp [go_sem]))
 ·exact ⟨h0, h1, rfl, rfl⟩
 ·simp [go_sem, Wk_eq]
  exact hbl 0
 ·simp
theorem join_owns (l : List Int) (hl : LinkOk l) (first : Int) (h0 : 0 ≤ first ∧ first < 64) (others : List Int) (ho : ∀ c ∈ others, 0 ≤ c ∧ c < 64) (hlo : others.length ≤ 1048576) :
  OwnsA Tryz.prog 81 [.ref 0 0 64 0 0, .v (.int .i64 first), encIs others] [(0, .rows true 0 64 [encL l])] 1 (.tup []) [(0, .rows true 0 64 [encL (joinsL l first others)])] 1 := by
 unfold OwnsA
 refine ACallP.of_awp (by kernel_rfl) Tryz.func81 rfl rfl (Nat.le_of_ble_eq_true rfl) (by kernel_rfl) ?_
 (repeat (first|with_reducible refine wV fun _=>?_|simp [go_sem]))
 refine ALoop.start (ALoop.ind (α := Nat) (fun i => ⟨[(0, .ref 0 0 64 0 0), (1, .v (.int .i64 first)), (10, encIs others), (11, .int others.length), (12, .v (.int .i64 i))], [(0, .rows true 0 64 [encL (joinsL l first (others.take i))])], 1⟩)
  (fun d i => i + d = others.length) ?_ others.length 0 ?_) ?_ ?_
 ·rintro d i i1 hrec
  have htk : ∀ c ∈ others.take i, 0 ≤ c ∧ c < 64 := fun c hc => ho c (List.mem_of_mem_take hc)
  have hok := (joinsL_spec hl h0 (others.take i) htk).1
  have hel : (encL (joinsL l first (others.take i))).length = 64 := by rw [encL_len, hok.len]
  (repeat (first|with_reducible refine wV fun _=>?_|simp [go_sem]))
  refine aIf.mkL (fun hi => ?_) (fun hi => ?_) <;> simp at hi
  ·have hx := ho _ (nth_mem hi)
   have hs : joinsL l first (others.take (i + 1)) = linkL (joinsL l first (others.take i)) (rootL (joinsL l first (others.take i)) first) (rootL (joinsL l first (others.take i)) (nth others i)) := by
    rw [List.take_add_one, List.getElem?_eq_getElem hi, Option.toList_some, joinsL_snoc, nth_eq _ _ hi]
   generalize joinsL l first (others.take i) = l1 at hok hel hs ⊢
   have hr1 := root_pure l1 hok first h0.1 h0.2
   have hr2 := root_pure l1 hok (nth others i) hx.1 hx.2
   have ra := rootL_spec hok h0.1 h0.2
   have rb := rootL_spec hok hx.1 hx.2
   generalize rootL l1 first = a at hs hr1 ra
   generalize rootL l1 (nth others i) = b at hs hr2 rb
   (repeat (first|with_reducible refine wV fun _=>?_|simp [go_sem, hi]))
   refine ACallP.flat (args' := [.fp (encL l1), .v (.int .i64 first)]) hr1 (.v _) ?_ (by simp [go_sem]) ?_
   ·refine LeRow.cons (.frzP rfl ?_ ?_ ?_ ?_) (.refl _ _ _ _) <;> first | exact LeRow.refl _ _ _ _ | simp [hel, noH]
   (repeat (first|with_reducible refine wV fun _=>?_|simp [go_sem]))
   refine ACallP.flat (args' := [.fp (encL l1), .v (.int .i64 (nth others i))]) hr2 (.v _) ?_ (by simp [go_sem]) ?_
   ·refine LeRow.cons (.frzP rfl ?_ ?_ ?_ ?_) (.refl _ _ _ _) <;> first | exact LeRow.refl _ _ _ _ | simp [hel, noH]
   (repeat (first|with_reducible refine wV fun _=>?_|simp [go_sem, hel]))
   refine ALoop.start (hrec (d - 1) (by omega) (i + 1) (by omega)) ?_ (by simp)
   have hst : encL (linkL l1 a b) = (encL l1).set (max a b).toNat (.v (.int .i64 (min a b))) := by simp [encL, linkL, List.map_set]
   simp [go_sem, Wk_eq, hs, minE, maxE, hst]
   rw [← hst]
   exact of_eq_true bel_encL
  ·have hil : i = others.length := by omega
   subst hil
   rw [List.take_length] at *
   (repeat (first|with_reducible refine wV fun _=>?_|simp [go_sem]))
   simp [go_sem, Wk_eq]
 ·simp
 ·simp [go_sem, Wk_eq, joinsL]
 ·simp
theorem join_call (l : List Int) (hl : LinkOk l) (first : Int) (h0 : 0 ≤ first ∧ first < 64) (others : List Int) (ho : ∀ c ∈ others, 0 ≤ c ∧ c < 64) (hlo : others.length ≤ 1048576) {h h' : Heap} {n o : Nat} {A : AV} (hfz : Frz h h')
  (ho' : h' o = some (.rows true 0 64 [encL l])) (hon : o < n) (hA : LeV h h' n A (encIs others)) {K : CallK} (hK : K (.tup []) (upd h' o (some (.rows true 0 64 [encL (joinsL l first others)]))) n) :
  ACallP Tryz.prog 81 [.ref o 0 64 0 0, .v (.int .i64 first), A] h n K := by
 have hbo : ∀ m, Bel m (encIs others) := fun m => by simp [go_sem]
 have hbl : ∀ (l : List Int) m, ∀ r ∈ [encL l], ∀ c ∈ r, Bel m c := fun l m r hr c hc => by
  rw [List.mem_singleton] at hr; subst hr; exact of_eq_true bel_encL c hc
 refine ACallP.ownsA (args' := [.ref o 0 64 0 0, .v (.int .i64 first), encIs others]) (HH := [(o, .rows true 0 64 [encL (joinsL l first others)])])
  [o] h' (join_owns l hl first h0 others ho hlo) (by simp) (by simpa using hon) rfl (Nat.le_refl _) hfz ?_ ?_ (.cons (.refl _) (.cons (.refl _) (.cons hA .nil))) ?_ ?_ ?_ (.same (.tup fun _ h => by cases h)) ?_ ?_
 ·intro j hj
  obtain rfl : j = 0 := by omega
  exact ⟨_, _, rfl, ho', .rows (.same (hbl _ _))⟩
 ·intro p hp
  simp only [List.mem_cons, List.not_mem_nil, or_false] at hp
  subst hp
  exact ⟨Nat.le_refl _, hbl _ _⟩
 ·intro y hy
  simp only [List.mem_cons, List.not_mem_nil, or_false] at hy
  rcases hy with rfl | rfl | rfl
  ·exact .ref hon
  ·exact .v _
  ·exact hbo _
 ·exact .cons (.ref rfl) (.cons (.same (.v _)) (.cons (.same (hbo _)) .nil))
 ·intro y hy
  simp only [List.mem_cons, List.not_mem_nil, or_false] at hy
  rcases hy with rfl | rfl | rfl
  ·exact .ref (by decide)
  ·exact .v _
  ·exact hbo _
 ·exact .cons rfl (.rows (.same (hbl _ _))) .nil
 ·have e : over [(o, .rows true 0 64 [encL (joinsL l first others)])] (remH [o] h') = upd h' o (some (.rows true 0 64 [encL (joinsL l first others)])) := by
   funext j
   simp only [over, remH, upd]
   by_cases j1 : j = o
   ·subst j1; simp
   ·simp [j1]
  rw [e, Nat.sub_self, Nat.add_zero]
  exact hK
end Go.Av
end
section
/- Contracts, layer 22: the names of the regions of a game (region.Of). -/
open Go Go.Proofs
namespace Go.Av
theorem sideR_codeP {g : GameD} (hg : GOk g) (s : Int) : SideR g.cells.toNat (sideP g s) := by
 have hc1 := hg.c1
 refine ⟨by simp [sideP]; exact hg.k6, fun k hk => ?_⟩
 obtain ⟨kd, hkd, rfl⟩ := List.mem_map.1 hk
 refine ⟨by simp [cellsP, GameD.board], fun x hx => ?_⟩
 obtain ⟨c, hc, rfl⟩ := List.mem_map.1 hx
 have hc' := List.mem_range.1 hc
 have hcc : (0 : Int) ≤ (c : Int) ∧ (c : Int) < g.cells := by simp [GameD.board] at hc'; omega
 refine ⟨by have := kindP_len hg s hkd (c : Nat); omega, fun p hp => ?_⟩
 have ho := kindP_ok hg (side := s) hkd hcc p hp
 have e : ((g.cells.toNat : Nat) : Int) = g.cells := by omega
 refine ⟨by rw [e]; exact ho.to, kindP_acts hg s hkd _ p hp, fun a ha => by rw [e]; exact cellsA_ok (ho.acts a ha)⟩
def initL (i : Nat) : List Int := idL.take i ++ List.replicate (64 - i) 0
theorem initL_len {i : Nat} (h : i ≤ 64) : (initL i).length = 64 := by simp [initL, idL]; omega
theorem initL_succ : ∀ i, i < 64 → initL (i + 1) = (initL i).set i (i : Int) := by decide +kernel
theorem initL_all : initL 64 = idL := rfl
def zerosTo (l : List Int) (n c : Nat) : List Int := namesL l c ++ List.replicate (n - c) 0
theorem namesL_len (l : List Int) (n : Nat) : (namesL l n).length = n := by simp [namesL]
theorem zerosTo_len (l : List Int) {n c : Nat} (h : c ≤ n) : (zerosTo l n c).length = n := by simp [zerosTo, namesL_len]; omega
theorem zerosTo_all (l : List Int) (n : Nat) : zerosTo l n n = namesL l n := by simp [zerosTo]
theorem zerosTo_succ (l : List Int) {n c : Nat} (h : c < n) : zerosTo l n (c + 1) = (zerosTo l n c).set c (rootL l c) := by
 unfold zerosTo
 have e : namesL l (c + 1) = namesL l c ++ [rootL l c] := by simp [namesL, List.range_succ]
 have e2 : List.replicate (n - c) (0 : Int) = 0 :: List.replicate (n - (c + 1)) 0 := by rw [show n - c = (n - (c + 1)) + 1 by omega, List.replicate_succ]
 rw [e, e2, List.set_append_right _ _ (by rw [namesL_len]; omega), namesL_len, Nat.sub_self, List.set_cons_zero, List.append_assoc]
 rfl
theorem rOf_pure (g : GameD) (hg : GOk g) : Pure Tryz.prog 28 [.agg (encGame g)] (encIs (namesL (linksC (codeP g)) g.cells.toNat)) := by
 refine pF Tryz.func28 ?_
 have hC := Compile_pure g hg
 have hc1 := hg.c1
 have hc9 := hg.c9
 have hs1 := sideR_codeP hg 0
 have hs2 := sideR_codeP hg 1
 have hcc : codeP g = (sideP g 0, sideP g 1) := rfl
 rw [hcc] at hC ⊢
 generalize sideP g 0 = s0 at *
 generalize sideP g 1 = s1 at *
 have hgb : ∀ n, (∀ c ∈ encGame g, Bel n c) = True := fun n => by simp [go_sem]
 have hg0 : cel (encGame g) 0 = .v (.int .i64 g.cells) := rfl
 obtain ⟨eg, heg⟩ : ∃ eg, eg = encGame g := ⟨_, rfl⟩
 have hel : eg.length = 9 := by rw [heg]; rfl
 have hn64 : g.cells.toNat ≤ 64 := by omega
 rw [← heg] at hC hgb hg0 ⊢
 clear hcc heg
 obtain ⟨n, hn⟩ : ∃ n, n = g.cells.toNat := ⟨_, rfl⟩
 have hnc : g.cells = (n : Int) := by omega
 rw [← hn] at hs1 hs2 hn64 ⊢
 rw [hnc] at *
 (repeat (first|with_reducible refine wV fun _=>?_|simp [go_sem, hel]))
 refine ALoop.start (ALoop.ind (α := Nat) (fun i => ⟨[(1, .ref 0 0 9 0 0), (3, .ref 1 0 64 0 0), (17, .v (.int .i64 i))], [(0, .rows true 0 9 [eg]), (1, .rows true 0 64 [encL (initL i)])], 2⟩)
  (fun d i => i + d = 64) ?_ 64 0 ?_) ?_ ?_
 ·rintro d i i1 hrec
  have hell : (encL (initL i)).length = 64 := by rw [encL_len, initL_len (by omega)]
  (repeat (first|with_reducible refine wV fun _=>?_|simp [go_sem]))
  refine aIf.mkL (fun hi => ?_) (fun hi => ?_) <;> simp at hi
  ·have hst : encL (initL (i + 1)) = (encL (initL i)).set i (.v (.int .i64 i)) := by rw [initL_succ i (by omega)]; simp [encL, List.map_set]
   (repeat (first|with_reducible refine wV fun _=>?_|simp [go_sem, hell]))
   refine ALoop.start (hrec (d - 1) (by omega) (i + 1) (by omega)) ?_ (by simp)
   simp [go_sem, Wk_eq, hst]
   exact ⟨of_eq_true (hgb 2), by rw [← hst]; exact of_eq_true bel_encL⟩
  ·have hil : i = 64 := by omega
   subst hil
   rw [initL_all]
   have hcl : (encCode (s0, s1)).length = 2 := rfl
   have hcb : ∀ n, (∀ c ∈ encCode (s0, s1), Bel n c) = True := fun n => by simp [go_sem]
   have hct : (encCode (s0, s1)).take 2 = [encSide s0, encSide s1] := rfl
   generalize encCode (s0, s1) = ec at *
   (repeat (first|with_reducible refine wV fun _=>?_|simp [go_sem]))
   refine ACallP.plain hC (by simp [go_sem, hgb]) ?_
   (repeat (first|with_reducible refine wV fun _=>?_|simp [go_sem, hcl, hct]))
   obtain ⟨R, hR⟩ : ∃ R, R = linksC (s0, s1) := ⟨_, rfl⟩
   have hRok : LinkOk R := by rw [hR]; exact linksC_ok hn64 hs1 hs2
   rw [← hR]
   have hss : ∀ i : Nat, i < 2 → ∃ s, SideR n s ∧ cel [encSide s0, encSide s1] i = encSide s ∧ (i = 0 → s = s0) ∧ (i = 1 → s = s1) := by
    intro i hi
    rcases (show i = 0 ∨ i = 1 by omega) with rfl | rfl
    ·exact ⟨s0, hs1, rfl, fun _ => rfl, fun h => by omega⟩
    ·exact ⟨s1, hs2, rfl, fun h => by omega, fun _ => rfl⟩
   have hR' : R = kindsF (kindsF idL s0) s1 := hR
   clear hC
   refine ALoop.start (ALoop.ind (α := Nat × List Int) (fun a => ⟨[(1, .ref 0 0 9 0 0), (3, .ref 1 0 64 0 0), (26, .agg [encSide s0, encSide s1]), (27, .v (.int .i64 a.1))], [(0, .rows true 0 9 [eg]), (1, .rows true 0 64 [encL a.2])], 2⟩)
    (fun d a => a.1 + d = 2 ∧ LinkOk a.2 ∧ (a.1 = 0 → a.2 = idL) ∧ (a.1 = 1 → a.2 = kindsF idL s0) ∧ (a.1 = 2 → a.2 = R)) ?_ 2 (0, idL) ?_) ?_ ?_
   ·rintro d ⟨i, l⟩ ⟨i1, i2, i3, i4, i5⟩ hrec
    simp only at i1 i2 i3 i4 i5
    (repeat (first|with_reducible refine wV fun _=>?_|simp [go_sem]))
    refine aIf.mkL (fun hi => ?_) (fun hi => ?_) <;> simp at hi
    ·obtain ⟨s, hs, hcs, hsa, hsb⟩ := hss i (by omega)
     obtain ⟨R2, hR2⟩ : ∃ R2, R2 = kindsF l s := ⟨_, rfl⟩
     have hgo := hrec (d - 1) (by omega) (i + 1, R2) ⟨by simp only; omega, by rw [hR2]; exact kindsF_ok hn64 s i2 hs.2, fun h => by omega, fun h => by simp only at h ⊢; rw [hR2, i3 (by omega), hsa (by omega)], fun h => by simp only at h ⊢; rw [hR2, i4 (by omega), hsb (by omega), hR']⟩
     obtain ⟨hs6, hsk⟩ := hs
     simp only [encSide, encCells, encPt] at hcs
     (repeat (first|with_reducible refine wV fun _=>?_|simp [go_sem, hcs]))
     refine ALoop.start (ALoop.ind (α := Nat × List Int) (fun a => ⟨[(1, .ref 0 0 9 0 0), (3, .ref 1 0 64 0 0), (26, .agg [encSide s0, encSide s1]), (27, .v (.int .i64 i)), (30, encSide s), (31, .int s.length), (32, .v (.int .i64 a.1))], [(0, .rows true 0 9 [eg]), (1, .rows true 0 64 [encL a.2])], 2⟩)
      (fun d a => a.1 + d = s.length ∧ LinkOk a.2 ∧ kindsF a.2 (s.drop a.1) = R2) ?_ s.length (0, l) ?_) ?_ ?_
     ·rintro d2 ⟨k, l2⟩ ⟨j1, j2, j3⟩ hrec2
      simp only at j1 j2 j3
      (repeat (first|with_reducible refine wV fun _=>?_|simp [go_sem]))
      refine aIf.mkL (fun hk => ?_) (fun hk => ?_) <;> simp at hk
      ·have hsk' := hsk _ (nth_mem hk)
       rw [dropG_cons hk] at j3
       obtain ⟨kl, hkl⟩ : ∃ kl, kl = nth s k := ⟨_, rfl⟩
       rw [← hkl] at hsk' j3
       obtain ⟨R3, hR3⟩ : ∃ R3, R3 = cellsF l2 0 kl := ⟨_, rfl⟩
       have hgo2 := hrec2 (d2 - 1) (by omega) (k + 1, R3) ⟨by simp only; omega, by rw [hR3]; exact cellsF_ok hn64 kl 0 j2 (by omega) (fun x hx => (hsk'.2 x hx).2), by rw [hR3]; exact j3⟩
       obtain ⟨hkn, hkx⟩ := hsk'
       (repeat (first|with_reducible refine wV fun _=>?_|simp [go_sem, hk, ← hkl]))
       refine ALoop.start (ALoop.ind (α := Nat × List Int) (fun a => ⟨[(1, .ref 0 0 9 0 0), (3, .ref 1 0 64 0 0), (26, .agg [encSide s0, encSide s1]), (27, .v (.int .i64 i)), (30, encSide s), (31, .int s.length), (32, .v (.int .i64 k)), (36, encCells kl), (37, .int n), (38, .v (.int .i64 a.1))], [(0, .rows true 0 9 [eg]), (1, .rows true 0 64 [encL a.2])], 2⟩)
        (fun d a => a.1 + d = n ∧ LinkOk a.2 ∧ cellsF a.2 a.1 (kl.drop a.1) = R3) ?_ n (0, l2) ?_) ?_ ?_
       ·rintro d3 ⟨c, l3⟩ ⟨m1, m2, m3⟩ hrec3
        simp only at m1 m2 m3
        (repeat (first|with_reducible refine wV fun _=>?_|simp [go_sem]))
        refine aIf.mkL (fun hc => ?_) (fun hc => ?_) <;> simp at hc
        ·have hck : c < kl.length := by omega
         have hkx' := hkx _ (nth_mem hck)
         rw [dropG_cons hck] at m3
         rw [cellsF] at m3
         obtain ⟨ps, hps⟩ : ∃ ps, ps = nth kl c := ⟨_, rfl⟩
         rw [← hps] at hkx' m3
         have hcn : (0 : Int) ≤ (c : Int) ∧ (c : Int) < (n : Int) := ⟨by omega, by omega⟩
         obtain ⟨R4, hR4⟩ : ∃ R4, R4 = pathsF (c : Int) l3 ps := ⟨_, rfl⟩
         have hgo3 := hrec3 (d3 - 1) (by omega) (c + 1, R4) ⟨by simp only; omega, by rw [hR4]; exact pathsF_ok hn64 hcn ps m2 hkx'.2, by rw [hR4]; exact m3⟩
         obtain ⟨hpl, hpp⟩ := hkx'
         (repeat (first|with_reducible refine wV fun _=>?_|simp [go_sem, hck, ← hps]))
         refine ALoop.start (ALoop.ind (α := Nat × List Int) (fun a => ⟨[(1, .ref 0 0 9 0 0), (3, .ref 1 0 64 0 0), (9, .v (.int .i64 c)), (26, .agg [encSide s0, encSide s1]), (27, .v (.int .i64 i)), (30, encSide s), (31, .int s.length), (32, .v (.int .i64 k)), (36, encCells kl), (37, .int n), (38, .v (.int .i64 c)), (43, encPt ps), (44, .int ps.length), (45, .v (.int .i64 a.1))], [(0, .rows true 0 9 [eg]), (1, .rows true 0 64 [encL a.2])], 2⟩)
          (fun d a => a.1 + d = ps.length ∧ LinkOk a.2 ∧ pathsF c a.2 (ps.drop a.1) = R4) ?_ ps.length (0, l3) ?_) ?_ ?_
         ·rintro d4 ⟨j, l4⟩ ⟨o1, o2, o3⟩ hrec4
          simp only at o1 o2 o3
          (repeat (first|with_reducible refine wV fun _=>?_|simp [go_sem]))
          refine aIf.mkL (fun hj => ?_) (fun hj => ?_) <;> simp at hj
          ·have hpp' := hpp _ (nth_mem hj)
           rw [dropG_cons hj] at o3
           obtain ⟨p, hp⟩ : ∃ p, p = nth ps j := ⟨_, rfl⟩
           rw [← hp] at hpp' o3
           obtain ⟨R5, hR5⟩ : ∃ R5, R5 = pathF (c : Int) l4 p := ⟨_, rfl⟩
           have hgo4 := hrec4 (d4 - 1) (by omega) (j + 1, R5) ⟨by simp only; omega, by rw [hR5]; exact pathF_ok hn64 hcn hpp' o2, by rw [hR5]; exact o3⟩
           obtain ⟨hto, hal, hac⟩ := hpp'
           have hl5 := joinsL_ok o2 hn64 hcn (others := [p.to]) (fun x hx => by rw [List.mem_singleton] at hx; subst hx; exact hto)
           (repeat (first|with_reducible refine wV fun _=>?_|simp [go_sem, hj, ← hp]))
           refine join_call l4 o2 c ⟨hcn.1, by omega⟩ [p.to] (fun x hx => by rw [List.mem_singleton] at hx; subst hx; omega) (by simp) (frz_frzO _ [3]) rfl (by omega) ?_ ?_
           ·(first|done|exact leX)
           have hR5' : actsF (c : Int) (joinsL l4 c [p.to]) p.acts = R5 := hR5.symm
           generalize joinsL l4 c [p.to] = l5 at hl5 hR5' ⊢
           (repeat (first|with_reducible refine wV fun _=>?_|simp [go_sem]))
           refine ALoop.start (ALoop.ind (α := Nat × List Int) (fun a => ⟨[(1, .ref 0 0 9 0 0), (3, .ref 1 0 64 0 0), (9, .v (.int .i64 c)), (26, .agg [encSide s0, encSide s1]), (27, .v (.int .i64 i)), (30, encSide s), (31, .int s.length), (32, .v (.int .i64 k)), (36, encCells kl), (37, .int n), (38, .v (.int .i64 c)), (43, encPt ps), (44, .int ps.length), (45, .v (.int .i64 j)),
             (55, encAs p.acts), (56, .int p.acts.length), (57, .v (.int .i64 a.1))], [(0, .rows true 0 9 [eg]), (1, .rows true 0 64 [encL a.2])], 2⟩)
            (fun d a => a.1 + d = p.acts.length ∧ LinkOk a.2 ∧ actsF c a.2 (p.acts.drop a.1) = R5) ?_ p.acts.length (0, l5) ?_) ?_ ?_
           ·rintro d5 ⟨m, l6⟩ ⟨q1, q2, q3⟩ hrec5
            simp only at q1 q2 q3
            (repeat (first|with_reducible refine wV fun _=>?_|simp [go_sem]))
            refine aIf.mkL (fun hm => ?_) (fun hm => ?_) <;> simp at hm
            ·have hac' := hac _ (nth_mem hm)
             rw [dropG_cons hm] at q3
             obtain ⟨a, ha⟩ : ∃ a, a = nth p.acts m := ⟨_, rfl⟩
             rw [← ha] at hac' q3
             have hgo5 := hrec5 (d5 - 1) (by omega) (m + 1, joinsL l6 c (cellsA a)) ⟨by simp only; omega, joinsL_ok q2 hn64 hcn hac', q3⟩
             have hra := rCells_pure a
             (repeat (first|with_reducible refine wV fun _=>?_|simp [go_sem, hm, ← ha]))
             refine ACallP.plain hra (by simp [go_sem]) ?_
             (repeat (first|with_reducible refine wV fun _=>?_|simp [go_sem]))
             refine join_call l6 q2 c ⟨hcn.1, by omega⟩ (cellsA a) (fun x hx => by have := hac' x hx; omega) (by have := cellsA_len a; omega) (.refl _) rfl (by omega) (.refl _) ?_
             (repeat (first|with_reducible refine wV fun _=>?_|simp [go_sem]))
             refine ALoop.start hgo5 ?_ (by simp)
             simp [go_sem, Wk_eq]
             exact of_eq_true (hgb 2)
            ·rw [List.drop_eq_nil_of_le hm] at q3
             have q3' : l6 = R5 := q3
             subst q3'
             (repeat (first|with_reducible refine wV fun _=>?_|simp [go_sem]))
             refine ALoop.start hgo4 ?_ (by simp)
             simp [go_sem, Wk_eq]
             exact of_eq_true (hgb 2)
           ·exact ⟨by simp, hl5, by rw [← hR5']; rfl⟩
           ·simp [go_sem, Wk_eq]
            exact of_eq_true (hgb 2)
           ·simp
          ·rw [List.drop_eq_nil_of_le hj] at o3
           have o3' : l4 = R4 := o3
           subst o3'
           (repeat (first|with_reducible refine wV fun _=>?_|simp [go_sem]))
           refine ALoop.start hgo3 ?_ (by simp)
           simp [go_sem, Wk_eq]
           exact of_eq_true (hgb 2)
         ·exact ⟨by simp, m2, by rw [hR4]; rfl⟩
         ·simp [go_sem, Wk_eq]
          exact of_eq_true (hgb 2)
         ·simp
        ·rw [List.drop_eq_nil_of_le (by omega)] at m3
         have m3' : l3 = R3 := m3
         subst m3'
         (repeat (first|with_reducible refine wV fun _=>?_|simp [go_sem]))
         refine ALoop.start hgo2 ?_ (by simp)
         simp [go_sem, Wk_eq]
         exact of_eq_true (hgb 2)
       ·exact ⟨by simp, j2, by rw [hR3]; rfl⟩
       ·simp [go_sem, Wk_eq, hkn]
        exact of_eq_true (hgb 2)
       ·simp
      ·rw [List.drop_eq_nil_of_le hk] at j3
       have j3' : l2 = R2 := j3
       subst j3'
       (repeat (first|with_reducible refine wV fun _=>?_|simp [go_sem]))
       refine ALoop.start hgo ?_ (by simp)
       simp [go_sem, Wk_eq]
       exact of_eq_true (hgb 2)
     ·exact ⟨by simp, i2, by rw [hR2]; rfl⟩
     ·simp [go_sem, Wk_eq]
      exact of_eq_true (hgb 2)
     ·simp
    ·have hi2 : i = 2 := by omega
     rw [i5 hi2]
     (repeat (first|with_reducible refine wV fun _=>?_|simp [go_sem, hg0, ← hn]))
     refine ALoop.start (ALoop.ind (α := Nat) (fun c => ⟨[(3, .ref 1 0 64 0 0), (15, .sl 2 0 1 0 n), (75, .int n), (76, .v (.int .i64 c))], [(1, .rows true 0 64 [encL R]), (2, .rows true 0 1 ((zerosTo R n c).map encI))], 3⟩)
      (fun d c => c + d = n) ?_ n 0 ?_) ?_ ?_
     ·rintro d2 c j1 hrec2
      have hzl := zerosTo_len R (show c ≤ n by omega)
      (repeat (first|with_reducible refine wV fun _=>?_|simp [go_sem]))
      refine aIf.mkL (fun hc => ?_) (fun hc => ?_) <;> simp at hc
      ·have hzs := zerosTo_succ R hc
       have hr := root_pure R hRok c (by omega) (by omega)
       (repeat (first|with_reducible refine wV fun _=>?_|simp [go_sem]))
       refine ACallP.flat (args' := [.fp (encL R), .v (.int .i64 c)]) hr (.v _) ?_ (by simp [go_sem]) ?_
       ·have hRl : (encL R).length = 64 := by rw [encL_len, hRok.len]
        refine LeRow.cons (.frzP rfl ?_ ?_ ?_ ?_) (.refl _ _ _ _) <;> first | exact LeRow.refl _ _ _ _ | simp [hRl, noH]
       (repeat (first|with_reducible refine wV fun _=>?_|simp [go_sem, hzl]))
       refine ALoop.start (hrec2 (d2 - 1) (by omega) (c + 1) (by omega)) ?_ (by simp)
       simp [go_sem, Wk_eq, hzs]
      ·have hcl : c = n := by omega
       subst hcl
       rw [zerosTo_all]
       (repeat (first|with_reducible refine wV fun _=>?_|simp [go_sem, namesL_len]))
       ((try simp only [encProg, encStep, encAct, encAs, encPath, encPt, encOut, encState, encPos, encOs, encSs, encPs, encIs, encGame, List.map_cons, List.map_nil, List.nil_append, List.append_nil, List.cons_append]); (repeat (first | (with_reducible exact LeRow.nil) | (with_reducible exact LeRows.nil) | (with_reducible exact LeV.refl _) | (with_reducible exact LeRow.refl _ _ _ _) | (with_reducible exact LeRows.refl _) | (with_reducible refine LeRow.cons ?_ ?_) | (with_reducible refine LeRows.cons ?_ ?_) | (with_reducible refine LeV.agg ?_) | (with_reducible refine LeV.tup ?_) | (with_reducible refine LeV.fn ?_ ?_) | (with_reducible exact LeV.nil _) | (with_reducible refine leRows_append (LeRows.refl _) ?_) | ((refine leV_frz rfl (by simp [namesL_len]) (by simp [frzO, frz1, upd, noH]) ?_); (first | (simp [go_sem, namesL_len]; done) | (simp [go_sem, namesL_len]; exact List.take_of_length_le (by simp [namesL_len])))) | ((refine LeV.frz rfl (by simp [namesL_len]) (by simp [frzO, frz1, upd, noH]) ?_); (simp only [List.drop_zero, List.take_succ_cons, List.take_zero, List.map_cons, List.map_nil])) | ((refine LeV.frzP rfl (by simp [namesL_len]) (by simp) (by simp [frzO, frz1, upd, noH]) ?_); (simp only [nth_zero, List.drop_zero])))))
     ·simp
     ·have hz0 : zerosTo R n 0 = List.replicate n 0 := by simp [zerosTo, namesL]
      simp [go_sem, Wk_eq, hz0]
     ·simp
   ·exact ⟨by simp, idL_ok, fun _ => rfl, by intro h; simp at h, by intro h; simp at h⟩
   ·simp [go_sem, Wk_eq]
    exact of_eq_true (hgb 2)
   ·simp
 ·simp
 ·simp [go_sem, Wk_eq]
  exact ⟨of_eq_true (hgb 2), LeRow.of_eq rfl⟩
 ·simp
end Go.Av
end
section
/- Contracts, the reference of layer 8: ways, extensions, paths. -/
open Go Go.Proofs
namespace Go.Av
theorem way_owns (p : PathD) (more : List ActD) (to : Int) (hp : p.acts.length ≤ 1048576) (hm : more.length ≤ 1048576) : Owns Tryz.prog 242 [.agg (encPath p), encAs more, .v (.int .i64 to)]
  (fun n => .agg [.sl (n + 2) 2 3 0 (p.acts.length + more.length), .v (.int .i64 to)]) (fun n => [(n + 2, .rows true 2 3 ((p.acts ++ more).map encAct))]) 3 := by
 refine ⟨ACallP.of_awp (by kernel_rfl) Tryz.func242 rfl rfl (Nat.le_of_ble_eq_true rfl) (by kernel_rfl) ?_, fun n => ⟨by simp [go_sem], by simp [go_sem]⟩⟩
 obtain ⟨acts, t⟩ := p
 simp only at hp
 (repeat (first|with_reducible refine wV fun _=>?_|simp [go_sem]))
 simp [go_sem, Wk_eq]
theorem way_pure (p : PathD) (more : List ActD) (to : Int) (hp : p.acts.length ≤ 1048576) (hm : more.length ≤ 1048576) : Pure Tryz.prog 242 [.agg (encPath p), encAs more, .v (.int .i64 to)] (.agg (encPath (onP p to more))) := by
 refine (way_owns p more to hp hm).pure ?_ (by simp [go_sem])
 unfold onP
 (first|done|exact leX)
theorem extend8_pure (b : BoardD) (hb : BoardOk b) (h9 : b.cells ≤ 9) (side : Int) (p : PathD) (hp : p.acts.length ≤ 1000000) (x : Int × Int) (hx : 1 ≤ x.1 ∧ x.1 ≤ 10) :
  Pure Tryz.prog 188 [.agg (encB b), .v (.int .i64 side), .agg (encPath p), .agg (encStep x)] (encPt (extP b side p x)) := by
 refine pF Tryz.func188 ?_
 have hT := R1To_pure b hb side x.2 p.to
 have hL := R1Line_pure b hb side x.2 p.to
 have hwg : ∀ to, Pure Tryz.prog 242 [.agg (encPath p), encAs [], .v (.int .i64 to)] (.agg (encPath (onP p to []))) := fun to => way_pure p [] to (by omega) (by simp)
 have hw1 : ∀ to a, Pure Tryz.prog 242 [.agg (encPath p), encAs [a], .v (.int .i64 to)] (.agg (encPath (onP p to [a]))) := fun to a => way_pure p [a] to (by omega) (by simp)
 have hbl : ∀ n, (∀ c' ∈ encB b, Bel n c') = True := fun n => by simp [go_sem]
 have hel : (encB b).length = 3 := rfl
 generalize encB b = eb at *
 obtain ⟨op, N⟩ := x
 simp only at hx hT hL
 unfold extP
 simp only
 by_cases h1 : op = 1
 ·subst h1
  rw [if_pos (.inl rfl)]
  generalize toB b side N p.to = T at *
  by_cases ht : T < 0
  ·rw [if_pos ht]
   (repeat (first|with_reducible refine wV fun _=>?_|simp [go_sem, hel]))
   refine ACallP.plain hT (by simp [go_sem, hbl]) ?_
   (repeat (first|with_reducible refine wV fun _=>?_|simp [go_sem, hel, ht]))
   (first|done|exact leX)
  ·rw [if_neg ht, if_pos rfl]
   (repeat (first|with_reducible refine wV fun _=>?_|simp [go_sem, hel]))
   refine ACallP.plain hT (by simp [go_sem, hbl]) ?_
   (repeat (first|with_reducible refine wV fun _=>?_|simp [go_sem, hel, ht]))
   refine ACallP.pureF [] (hwg T) (.cons (.refl _) (.cons (.nil _) (.refl _ _ _ _))) (by simp [go_sem]) ?_
   (repeat (first|with_reducible refine wV fun _=>?_|simp [go_sem]))
   (first|done|exact leX)
 by_cases h7 : op = 7
 ·subst h7
  rw [if_pos (.inr rfl)]
  generalize toB b side N p.to = T at *
  by_cases ht : T < 0
  ·rw [if_pos ht]
   (repeat (first|with_reducible refine wV fun _=>?_|simp [go_sem, hel]))
   refine ACallP.plain hT (by simp [go_sem, hbl]) ?_
   (repeat (first|with_reducible refine wV fun _=>?_|simp [go_sem, hel, ht]))
   (first|done|exact leX)
  ·rw [if_neg ht, if_neg (by omega)]
   (repeat (first|with_reducible refine wV fun _=>?_|simp [go_sem, hel]))
   refine ACallP.plain hT (by simp [go_sem, hbl]) ?_
   (repeat (first|with_reducible refine wV fun _=>?_|simp [go_sem, hel, ht]))
   refine ACallP.pureF [3] (hw1 p.to (7, p.to, T)) ?_ (by simp [go_sem]) ?_
   ·(first|done|exact leX)
   (repeat (first|with_reducible refine wV fun _=>?_|simp [go_sem]))
   (first|done|exact leX)
 rw [if_neg (by omega)]
 by_cases h2 : op = 2
 ·subst h2
  rw [if_pos rfl]
  have hll : (lineB b side N p.to).length ≤ 9 := by have := lineB_le hb (side := side) (d := N) (c := p.to); omega
  generalize lineB b side N p.to = line at *
  (repeat (first|with_reducible refine wV fun _=>?_|simp [go_sem, hel]))
  refine ACallP.plain hL (by simp [go_sem, hbl]) ?_
  (repeat (first|with_reducible refine wV fun _=>?_|simp [go_sem, hel]))
  refine ALoop.start (ALoop.ind (α := Nat × List ActD × List PathD) (fun a => ⟨[(6, .ref 1 0 2 0 0), (10, .sl 3 a.1 2 0 a.2.2.length), (11, .sl 4 a.1 3 0 a.2.1.length), (12, encIs line), (13, .v (.int .i64 a.1))],
    [(1, .rows true 0 2 [encPath p]), (3, .rows true a.1 2 (a.2.2.map encPath)), (4, .rows true a.1 3 (a.2.1.map encAct))], 5⟩)
   (fun d a => a.1 + d = line.length ∧ a.2.1.length = a.1 ∧ a.2.2.length = a.1 ∧ a.2.2 ++ slideP p (line.drop a.1) a.2.1 = slideP p line []) ?_ line.length (0, [], []) ?_) ?_ ?_
  ·rintro d ⟨i, passed, out⟩ ⟨i1, i2, i3, i4⟩ hrec
   simp only at i1 i2 i3 i4
   have hw := way_owns p passed (nth line i) (by omega) (by omega)
   (repeat (first|with_reducible refine wV fun _=>?_|simp [go_sem]))
   refine aIf.mkL (fun hi => ?_) (fun hi => ?_) <;> simp at hi
   ·rw [dropG_cons hi, slideP] at i4
    have hgo := hrec (d - 1) (by omega) (i + 1, passed ++ [(3, nth line i, 0)], out ++ [onP p (nth line i) passed]) ⟨by simp only; omega, by simp; omega, by simp; omega, by simp only; rw [← i4, List.append_assoc]; rfl⟩
    (repeat (first|with_reducible refine wV fun _=>?_|simp [go_sem, hi]))
    refine dCall.ownsR [4] 128 (by rfl) hw (by decide) (by simp [go_sem]) (by simp [go_sem]) ?_ (by simp [go_sem]) (by simp [go_sem]) ?_
    ·intro h₁ hh
     exact LeRow.cons (.refl _) (LeRow.cons (leV_frz ((hh 4 (by simp)).symm.trans rfl) (by simp) (by simp [noH]) (by rw [List.drop_zero, List.take_of_length_le (by simp)])) (.refl _ _ _ _))
    ((repeat (first|with_reducible (first|refine wL fun _=>?_|refine wD fun _=>?_|refine wZ ?_)|simp [go_sem, hi])); refine dEnd.mkN (by kernel_rfl) ?_)
    (repeat (first|with_reducible refine wV fun _=>?_|simp [go_sem, hi]))
    refine ALoop.start hgo ?_ (by simp)
    simp [go_sem, Wk_eq]
    unfold onP
    (first|done|exact rwX)
   ·rw [List.drop_eq_nil_of_le hi, slideP, List.append_nil] at i4
    rw [← i4]
    (repeat (first|with_reducible refine wV fun _=>?_|simp [go_sem]))
    (first|done|exact leX)
  ·exact ⟨by simp, rfl, rfl, rfl⟩
  ·simp [go_sem, Wk_eq]
  ·simp
 rw [if_neg h2]
 by_cases h8 : op = 8 ∨ op = 9 ∨ op = 10
 ·rw [if_pos h8]
  rcases h8 with rfl | rfl | rfl
  ·(repeat (first|with_reducible refine wV fun _=>?_|simp [go_sem]))
   refine ACallP.pureF [3] (hw1 p.to (8, N, 0)) ?_ (by simp [go_sem]) ?_
   ·(first|done|exact leX)
   (repeat (first|with_reducible refine wV fun _=>?_|simp [go_sem]))
   (first|done|exact leX)
  ·(repeat (first|with_reducible refine wV fun _=>?_|simp [go_sem]))
   refine ACallP.pureF [3] (hw1 p.to (9, N, 0)) ?_ (by simp [go_sem]) ?_
   ·(first|done|exact leX)
   (repeat (first|with_reducible refine wV fun _=>?_|simp [go_sem]))
   (first|done|exact leX)
  ·(repeat (first|with_reducible refine wV fun _=>?_|simp [go_sem]))
   refine ACallP.pureF [3] (hw1 p.to (10, N, 0)) ?_ (by simp [go_sem]) ?_
   ·(first|done|exact leX)
   (repeat (first|with_reducible refine wV fun _=>?_|simp [go_sem]))
   (first|done|exact leX)
 ·rw [if_neg h8]
  rcases (show op = 3 ∨ op = 4 ∨ op = 5 ∨ op = 6 by omega) with rfl | rfl | rfl | rfl
  ·(repeat (first|with_reducible refine wV fun _=>?_|simp [go_sem]))
   refine ACallP.pureF [3] (hw1 p.to (3, p.to, 0)) ?_ (by simp [go_sem]) ?_
   ·(first|done|exact leX)
   (repeat (first|with_reducible refine wV fun _=>?_|simp [go_sem]))
   (first|done|exact leX)
  ·(repeat (first|with_reducible refine wV fun _=>?_|simp [go_sem]))
   refine ACallP.pureF [3] (hw1 p.to (4, p.to, 0)) ?_ (by simp [go_sem]) ?_
   ·(first|done|exact leX)
   (repeat (first|with_reducible refine wV fun _=>?_|simp [go_sem]))
   (first|done|exact leX)
  ·(repeat (first|with_reducible refine wV fun _=>?_|simp [go_sem]))
   refine ACallP.pureF [3] (hw1 p.to (5, p.to, 0)) ?_ (by simp [go_sem]) ?_
   ·(first|done|exact leX)
   (repeat (first|with_reducible refine wV fun _=>?_|simp [go_sem]))
   (first|done|exact leX)
  ·(repeat (first|with_reducible refine wV fun _=>?_|simp [go_sem]))
   refine ACallP.pureF [3] (hw1 p.to (6, p.to, 0)) ?_ (by simp [go_sem]) ?_
   ·(first|done|exact leX)
   (repeat (first|with_reducible refine wV fun _=>?_|simp [go_sem]))
   (first|done|exact leX)
theorem Paths8_pure (b : BoardD) (hb : BoardOk b) (h1 : 1 ≤ b.cells) (h9 : b.cells ≤ 9) (side : Int) (prog : List (Int × Int)) (hp : prog.length ≤ 8) (hpo : ∀ x ∈ prog, 1 ≤ x.1 ∧ x.1 ≤ 10) (cell : Int) :
  Pure Tryz.prog 136 [.agg (encB b), .v (.int .i64 side), encProg prog, .v (.int .i64 cell)] (encPt (pathsP b side prog cell)) := by
 refine pF Tryz.func136 ?_
 have hR : pathsP b side prog cell = pathsK b side prog cell prog.length := by unfold pathsK; rw [List.take_length]
 have hl := pathsK_len hb h1 h9 side prog hp cell
 have ha := pathsK_acts hb h9 side prog cell
 have hs := fun (i : Nat) (h : i < prog.length) => pathsK_succ b side prog cell h
 have h0 : pathsK b side prog cell 0 = [⟨[], cell⟩] := rfl
 have hE : ∀ p x, p.acts.length ≤ 1000000 → (1 ≤ x.1 ∧ x.1 ≤ 10) → Pure Tryz.prog 188 [.agg (encB b), .v (.int .i64 side), .agg (encPath p), .agg (encStep x)] (encPt (extP b side p x)) := fun p x hp hx => extend8_pure b hb h9 side p hp x hx
 have hbl : ∀ n, (∀ c' ∈ encB b, Bel n c') = True := fun n => by simp [go_sem]
 have hel : (encB b).length = 3 := rfl
 rw [hR]
 generalize encB b = eb at *
 generalize pathsK b side prog cell = K at *
 generalize extP b side = X at *
 clear hR
 (repeat (first|with_reducible refine wV fun _=>?_|simp [go_sem, hel]))
 refine ALoop.start (ALoop.ind (α := Nat) (fun i => ⟨[(1, .v (.int .i64 side)), (2, encProg prog), (4, .ref 0 0 3 0 0), (9, encPt (K i)), (10, .v (.int .i64 i))], [(0, .rows true 0 3 [eb])], 1⟩)
  (fun d i => i + d = prog.length) ?_ prog.length 0 ?_) ?_ ?_
 ·rintro d i i1 hrec
  have hli := hl i
  (repeat (first|with_reducible refine wV fun _=>?_|simp [go_sem]))
  refine aIf.mkL (fun hi => ?_) (fun hi => ?_) <;> simp at hi
  ·have hai := ha i (by omega)
   have hsi := hs i hi
   have hx := hpo _ (nth_mem hi)
   have hl1 := hl (i + 1)
   have hgo := hrec (d - 1) (by omega) (i + 1) (by omega)
   rw [hsi] at hgo hl1
   generalize K i = now at *
   obtain ⟨R, hR⟩ : ∃ R, R = now.flatMap fun w => X w (nth prog i) := ⟨_, rfl⟩
   rw [← hR] at hgo hl1
   (repeat (first|with_reducible refine wV fun _=>?_|simp [go_sem]))
   refine ALoop.start (ALoop.ind (α := Nat × List PathD) (fun a => ⟨[(1, .v (.int .i64 side)), (2, encProg prog), (4, .ref 0 0 3 0 0), (9, encPt now), (10, .v (.int .i64 i)), (11, .sl 1 a.1 2 0 a.2.length), (12, .v (.int .i64 a.1))],
     [(0, .rows true 0 3 [eb]), (1, .rows true a.1 2 (a.2.map encPath))], 2⟩)
    (fun d a => a.1 + d = now.length ∧ a.2 ++ ((now.drop a.1).flatMap fun w => X w (nth prog i)) = R) ?_ now.length (0, []) ?_) ?_ ?_
   ·rintro d2 ⟨j, l⟩ ⟨j1, j2⟩ hrec2
    simp only at j1 j2
    (repeat (first|with_reducible refine wV fun _=>?_|simp [go_sem]))
    refine aIf.mkL (fun hj => ?_) (fun hj => ?_) <;> simp at hj
    ·have haj := hai _ (nth_mem hj)
     have hlR : l.length + (X (nth now j) (nth prog i)).length ≤ 43046721 := by
      rw [dropG_cons hj] at j2
      rw [← j2] at hl1
      simp only [List.flatMap_cons, List.length_append] at hl1
      omega
     rw [dropG_cons hj, List.flatMap_cons, ← List.append_assoc] at j2
     have hgo2 := hrec2 (d2 - 1) (by omega) (j + 1, l ++ X (nth now j) (nth prog i)) ⟨by simp only; omega, j2⟩
     have hEj := hE (nth now j) (nth prog i) (by omega) hx
     simp only [List.length_append] at hgo2
     (repeat (first|with_reducible refine wV fun _=>?_|simp [go_sem, hel, hi, hj]))
     refine dCall.plain hEj (by simp [go_sem, hbl]) ?_
     (repeat (first|with_reducible refine wV fun _=>?_|simp [go_sem]))
     refine ALoop.start hgo2 ?_ (by simp)
     simp [go_sem, Wk_eq, hbl]
    ·rw [List.drop_eq_nil_of_le hj, List.flatMap_nil, List.append_nil] at j2
     subst j2
     (repeat (first|with_reducible refine wV fun _=>?_|simp [go_sem]))
     refine ALoop.start hgo ?_ (by simp)
     simp [go_sem, Wk_eq]
     refine ⟨?_, of_eq_true (hbl 1)⟩
     (first|done|exact leX)
   ·exact ⟨by simp, by rw [hR]; rfl⟩
   ·simp [go_sem, Wk_eq, hbl]
   ·simp
  ·have hil : i = prog.length := by omega
   subst hil
   (repeat (first|with_reducible refine wV fun _=>?_|simp [go_sem]))
 ·simp
 ·simp [go_sem, Wk_eq, hbl, h0]
  (first|done|exact leX)
 ·simp
end Go.Av
end
section
/- Contracts, paths: counts, shapes, equality; turned programs. -/
open Go Go.Proofs
namespace Go.Av
theorem bel_Steps {n : Nat} {l : List (Int × Int)} : (∀ r ∈ l.map encStep, ∀ c ∈ r, Bel n c) = True := by
 refine eq_true ?_
 intro r hr c hc
 obtain ⟨x, _, rfl⟩ := List.mem_map.1 hr
 revert c
 simp [go_sem]
attribute [go_sem ↓] bel_Steps
theorem cntCells_drop (l : List (List PathD)) {i : Nat} (h : i < l.length) : cntCells (l.drop i) = (nth l i).length + cntCells (l.drop (i + 1)) := by
 unfold cntCells
 rw [dropG_cons h, List.map_cons, List.sum_cons]
theorem cntSide_drop (l : List (List (List PathD))) {i : Nat} (h : i < l.length) : cntSide (l.drop i) = cntCells (nth l i) + cntSide (l.drop (i + 1)) := by
 unfold cntSide
 rw [dropG_cons h, List.map_cons, List.sum_cons]
structure ShapeOk (g : GameD) (c : CodeD) : Prop where
 l1 : c.1.length = g.kinds.length
 l2 : c.2.length = g.kinds.length
 c1 : ∀ x ∈ c.1, (x.length : Int) = g.cells
 c2 : ∀ x ∈ c.2, (x.length : Int) = g.cells
theorem ShapeOk.side {g : GameD} {c : CodeD} (h : ShapeOk g c) {s : Nat} (hs : s < 2) : ∃ l, cel [encSide c.1, encSide c.2] s = encSide l ∧ l.length = g.kinds.length ∧ ∀ x ∈ l, (x.length : Int) = g.cells := by
 rcases (show s = 0 ∨ s = 1 by omega) with rfl | rfl
 ·exact ⟨_, rfl, h.l1, h.c1⟩
 ·exact ⟨_, rfl, h.l2, h.c2⟩
theorem shape_codeP {g : GameD} (hg : GOk g) : ShapeOk g (codeP g) := by
 have h : ∀ s, ∀ x ∈ sideP g s, (x.length : Int) = g.cells := by
  intro s x hx
  obtain ⟨k, _, rfl⟩ := List.mem_map.1 hx
  have : g.board.cells = g.cells := rfl
  have := hg.c1
  simp [cellsP]
  omega
 exact ⟨by simp [codeP, sideP], by simp [codeP, sideP], h 0, h 1⟩
end Go.Av
end
section
/- Contracts, the reference of layer 8: counts, codes. -/
open Go Go.Proofs
namespace Go.Av
theorem Count8_pure (c : CodeD) (hc : countC c ≤ 4611686018427387904) (h1 : c.1.length ≤ 1048576) (h2 : c.2.length ≤ 1048576) (hl : ∀ x ∈ c.1 ++ c.2, x.length ≤ 1048576) :
  Pure Tryz.prog 70 [.agg (encCode c)] (.v (.int .i64 (countC c))) := by
 refine pF Tryz.func70 ?_
 obtain ⟨a, b⟩ := c
 simp only at h1 h2 hl
 have hT : countC (a, b) = cntSide a + cntSide b := rfl
 rw [hT] at hc ⊢
 (repeat (first|with_reducible refine wV fun _=>?_|simp [go_sem]))
 refine ALoop.start (ALoop.ind (α := Nat × Nat) (fun x => ⟨[(1, .ref 0 0 2 0 0), (3, .v (.int .i64 x.2)), (4, .v (.int .i64 x.1))], [(0, .rows true 0 2 [[encSide a, encSide b]])], 1⟩)
  (fun d x => x.1 + d = 2 ∧ x.2 = (if x.1 = 0 then 0 else if x.1 = 1 then cntSide a else cntSide a + cntSide b)) ?_ 2 (0, 0) ?_) ?_ ?_
 ·rintro d ⟨s, n⟩ ⟨s1, s2⟩ hrec
  simp only at s1 s2
  rcases (show s = 2 ∨ s < 2 by omega) with rfl | hs2
  ·simp at s2
   subst s2
   (repeat (first|with_reducible refine wV fun _=>?_|simp [go_sem]))
  ·obtain ⟨l, hl0, hl1, hl2, hl3⟩ : ∃ l : List (List (List PathD)), cel [encSide a, encSide b] s = encSide l ∧ l.length ≤ 1048576 ∧ (∀ x ∈ l, x.length ≤ 1048576) ∧ (if s + 1 = 0 then 0 else if s + 1 = 1 then cntSide a else cntSide a + cntSide b) = n + cntSide l := by
    rcases (show s = 0 ∨ s = 1 by omega) with rfl | rfl
    ·simp at s2
     exact ⟨a, rfl, h1, fun x hx => hl x (by simp [hx]), by simp [s2]⟩
    ·simp at s2
     exact ⟨b, rfl, h2, fun x hx => hl x (by simp [hx]), by simp [s2]⟩
   have hcap : n + cntSide l ≤ 4611686018427387904 := by rw [← hl3]; split <;> (try split) <;> omega
   simp only [encSide, encCells, encPt] at hl0
   (repeat (first|with_reducible refine wV fun _=>?_|simp [go_sem, hl0]))
   (refine aIf.mkL (fun hT => ?_) (fun hT => by first | omega | (simp at hT; omega)); clear hT)
   (repeat (first|with_reducible refine wV fun _=>?_|simp [go_sem, hl0]))
   refine ALoop.start (ALoop.ind (α := Nat × Nat) (fun x => ⟨[(1, .ref 0 0 2 0 0), (3, .v (.int .i64 x.2)), (4, .v (.int .i64 s)), (5, .v (.int .i64 x.1))], [(0, .rows true 0 2 [[encSide a, encSide b]])], 1⟩)
    (fun d x => x.1 + d = l.length ∧ x.2 + cntSide (l.drop x.1) = n + cntSide l) ?_ l.length (0, n) ?_) ?_ ?_
   ·rintro d2 ⟨j, m⟩ ⟨j1, j2⟩ hrec2
    simp only at j1 j2
    (repeat (first|with_reducible refine wV fun _=>?_|simp [go_sem, hl0]))
    refine aIf.mkL (fun hj => ?_) (fun hj => ?_) <;> simp at hj
    ·have hll := hl2 _ (nth_mem hj)
     rw [cntSide_drop l hj] at j2
     (repeat (first|with_reducible refine wV fun _=>?_|simp [go_sem, hj, hl0]))
     refine ALoop.start (ALoop.ind (α := Nat × Nat) (fun x => ⟨[(1, .ref 0 0 2 0 0), (3, .v (.int .i64 x.2)), (4, .v (.int .i64 s)), (5, .v (.int .i64 j)), (6, .v (.int .i64 x.1))], [(0, .rows true 0 2 [[encSide a, encSide b]])], 1⟩)
      (fun d x => x.1 + d = (nth l j).length ∧ x.2 + cntCells ((nth l j).drop x.1) = m + cntCells (nth l j)) ?_ (nth l j).length (0, m) ?_) ?_ ?_
     ·rintro d3 ⟨k, q⟩ ⟨k1, k2⟩ hrec3
      simp only at k1 k2
      (repeat (first|with_reducible refine wV fun _=>?_|simp [go_sem, hl0, hj]))
      refine aIf.mkL (fun hk => ?_) (fun hk => ?_) <;> simp at hk
      ·rw [cntCells_drop _ hk] at k2
       (repeat (first|with_reducible refine wV fun _=>?_|simp [go_sem, hk, hl0, hj]))
       refine ALoop.start (hrec3 (d3 - 1) (by omega) (k + 1, q + (nth (nth l j) k).length) ⟨by simp only; omega, by simp only; omega⟩) ?_ (by simp)
       simp [go_sem, Wk_eq]
      ·rw [List.drop_eq_nil_of_le hk] at k2
       simp [cntCells] at k2
       (repeat (first|with_reducible refine wV fun _=>?_|simp [go_sem]))
       refine ALoop.start (hrec2 (d2 - 1) (by omega) (j + 1, q) ⟨by simp only; omega, by simp only [cntCells] at j2 ⊢; omega⟩) ?_ (by simp)
       simp [go_sem, Wk_eq]
     ·exact ⟨by simp, by simp⟩
     ·simp [go_sem, Wk_eq]
     ·simp
    ·rw [List.drop_eq_nil_of_le hj] at j2
     simp [cntSide] at j2
     (repeat (first|with_reducible refine wV fun _=>?_|simp [go_sem]))
     refine ALoop.start (hrec (d - 1) (by omega) (s + 1, m) ⟨by simp only; omega, ?_⟩) ?_ (by simp)
     ·simp only
      rw [hl3, j2]
      rfl
     ·simp [go_sem, Wk_eq]
   ·exact ⟨by simp, by simp⟩
   ·simp [go_sem, Wk_eq]
   ·simp
 ·exact ⟨rfl, rfl⟩
 ·simp [go_sem, Wk_eq]
 ·simp
def rowS (a : AV) (s : Nat) (x : AV) : List AV := if s = 0 then [x, .v (.slice none 0 0)] else [a, x]
theorem rowS_len (a : AV) (s : Nat) (x : AV) : (rowS a s x).length = 2 := by unfold rowS; split <;> rfl
theorem rowS_cel (a : AV) {s : Nat} (hs : s < 2) (x : AV) : cel (rowS a s x) s = x := by
 rcases (show s = 0 ∨ s = 1 by omega) with rfl | rfl <;> rfl
theorem rowS_set (a : AV) {s : Nat} (hs : s < 2) (x y : AV) : (rowS a s x).set s y = rowS a s y := by
 rcases (show s = 0 ∨ s = 1 by omega) with rfl | rfl <;> rfl
theorem rowS_le {h h' : Heap} {n : Nat} {a : AV} {s : Nat} {x y : AV} (hx : LeV h h' n x y) : LeRow h h' n (rowS a s x) (rowS a s y) := by
 unfold rowS
 split
 ·exact .cons hx (.refl _ _ _ _)
 ·exact .cons (.refl _) (.cons hx .nil)
theorem rowS_bel {n : Nat} {a : AV} {s : Nat} {x : AV} (ha : Bel n a) (hx : Bel n x) : ∀ c ∈ rowS a s x, Bel n c := by
 unfold rowS
 split <;> intro c hc <;> simp only [List.mem_cons, List.not_mem_nil, or_false] at hc <;> rcases hc with rfl | rfl
 ·exact hx
 ·exact .v _
 ·exact ha
 ·exact hx
def cellsK (b : BoardD) (s : Int) (ps : List (List (Int × Int))) (c : Nat) : List (List PathD) := (List.range c).map fun (c : Nat) => kindP b s ps c
theorem cellsK_succ (b : BoardD) (s : Int) (ps : List (List (Int × Int))) (c : Nat) : cellsK b s ps (c + 1) = cellsK b s ps c ++ [kindP b s ps c] := by simp [cellsK, List.range_succ]
theorem cellsK_len (b : BoardD) (s : Int) (ps : List (List (Int × Int))) (c : Nat) : (cellsK b s ps c).length = c := by simp [cellsK]
def rowA (a b : AV) (s : Nat) : List AV := [if s = 0 then AV.v (.slice none 0 0) else a, if s < 2 then AV.v (.slice none 0 0) else b]
theorem Compile8_pure (g : GameD) (hg : GOk g) : Pure Tryz.prog 71 [.agg (encGame g)] (.agg (encCode (codeP g))) := by
 refine pF Tryz.func71 ?_
 have hc1 := hg.c1
 have hc9 := hg.c9
 have hk6 := hg.k6
 have hP : ∀ k ∈ g.kinds, ∀ p ∈ k.progs, ∀ (side c : Int), Pure Tryz.prog 136 [.agg (encB g.board), .v (.int .i64 side), encProg p, .v (.int .i64 c)] (encPt (pathsP g.board side p c)) :=
  fun k hk p hp side c => by
   have hpo := hg.pr k hk p hp
   exact Paths8_pure g.board hg.board hg.c1 hg.c9 side p hpo.len (fun x hx => (hpo.st x hx).op) c
 have hR : encCode (codeP g) = [encSide (sideP g 0), encSide (sideP g 1)] := rfl
 rw [hR]
 clear hR
 obtain ⟨C, hC⟩ : ∃ C : Nat, g.cells = C := ⟨g.cells.toNat, by omega⟩
 have hcells : ∀ (s : Int) (j : Nat), cellsP g.board s (nth g.kinds j).progs = cellsK g.board s (nth g.kinds j).progs C := fun s j => by
  unfold cellsP cellsK
  rw [show g.board.cells.toNat = C by have : g.board.cells = g.cells := rfl; omega]
 have hbl : ∀ n, (∀ c' ∈ encGame g, Bel n c') = True := fun n => by simp [go_sem]
 have hel : (encGame g).length = 9 := rfl
 obtain ⟨eB, heB⟩ : ∃ eB, eB = encB g.board := ⟨_, rfl⟩
 have hg1 : (encGame g).take 3 = eB := by rw [heB]; rfl
 have hg2 : cel (encGame g) 3 = .lst 3 (g.kinds.map encKind) := rfl
 have hg3 : cel (encGame g) 0 = .v (.int .i64 C) := by rw [← hC]; rfl
 have heBb : ∀ n, (∀ c' ∈ eB, Bel n c') = True := fun n => by rw [heB]; simp [go_sem]
 rw [← heB] at hP
 clear heB
 generalize encGame g = eg at *
 obtain ⟨S0, hS0⟩ : ∃ S0, S0 = encSide (sideP g 0) := ⟨_, rfl⟩
 obtain ⟨S1, hS1⟩ : ∃ S1, S1 = encSide (sideP g 1) := ⟨_, rfl⟩
 have hSb0 : ∀ n, Bel n S0 = True := fun n => by rw [hS0]; simp [go_sem]
 have hSb1 : ∀ n, Bel n S1 = True := fun n => by rw [hS1]; simp [go_sem]
 rw [← hS0, ← hS1]
 (repeat (first|with_reducible refine wV fun _=>?_|simp [go_sem, hel]))
 refine ALoop.start (ALoop.ind (α := Nat) (fun s => ⟨[(1, .ref 0 0 9 0 0), (2, .ref 1 0 2 0 0), (3, .ref 2 0 2 0 0), (4, .v (.int .i64 s))],
   [(0, .rows true 0 9 [eg]), (1, .rows true 0 2 [[AV.v (.slice none 0 0), AV.v (.slice none 0 0)]]), (2, .rows true 0 2 [rowA S0 S1 s])], 3⟩)
  (fun d s => s + d = 2) ?_ 2 0 ?_) ?_ ?_
 ·rintro d0 s s1 hrec
  rcases (show s = 2 ∨ s < 2 by omega) with rfl | hs2
  ·simp only [rowA]
   (repeat (first|with_reducible refine wV fun _=>?_|simp [go_sem]))
   exact ⟨of_eq_true (hSb0 0), of_eq_true (hSb1 0)⟩
  have hAS : rowA S0 S1 s = rowS S0 s (.v (.slice none 0 0)) := by rcases (show s = 0 ∨ s = 1 by omega) with rfl | rfl <;> rfl
  rw [hAS]
  have hrl := rowS_len S0 s
  have hrc := rowS_cel S0 hs2
  have hrs := rowS_set S0 hs2
  (repeat (first|with_reducible refine wV fun _=>?_|simp [go_sem, hel]))
  (refine aIf.mkL (fun hT => ?_) (fun hT => by first | omega | (simp at hT; omega)); clear hT)
  (repeat (first|with_reducible refine wV fun _=>?_|simp [go_sem, hel]))
  refine ALoop.start (ALoop.ind (α := Nat) (fun j => ⟨[(1, .ref 0 0 9 0 0), (2, .ref 1 0 2 0 0), (3, .ref 2 0 2 0 0), (4, .v (.int .i64 s)), (5, .v (.int .i64 j))],
    [(0, .rows true 0 9 [eg]), (1, .rows true 0 2 [[AV.v (.slice none 0 0), AV.v (.slice none 0 0)]]), (2, .rows true 0 2 [rowS S0 s (.sl 3 j 1 0 j)]), (3, .rows true j 1 ((sideK g s j).map fun x => [encCells x]))], 4⟩)
   (fun d j => j + d = g.kinds.length) ?_ g.kinds.length 0 ?_) ?_ ?_
  ·rintro d j j1 hrec2
   have hlj := sideK_len g s (show j ≤ g.kinds.length by omega)
   (repeat (first|with_reducible refine wV fun _=>?_|simp [go_sem, hel, hg2]))
   refine aIf.mkL (fun hj => ?_) (fun hj => ?_) <;> simp at hj
   ·have hkm := nth_mem hj
    have hpn := hg.pn _ hkm
    have hPk := hP _ hkm
    have hsj := sideK_succ g s hj
    have hcj := hcells s j
    have hlj1 := sideK_len g s (show j + 1 ≤ g.kinds.length by omega)
    have hkl := kindP_len hg s hkm
    have hks : ∀ c : Nat, kindP g.board s (nth g.kinds j).progs c = (nth g.kinds j).progs.flatMap fun p => pathsP g.board s p c := fun c => rfl
    obtain ⟨k, hk⟩ : ∃ k, k = nth g.kinds j := ⟨_, rfl⟩
    rw [← hk] at hpn hPk hsj hcj hkl hks
    rw [hcj] at hsj
    have hcs := cellsK_succ g.board s k.progs
    have hcl := cellsK_len g.board s k.progs
    have hc0 : cellsK g.board s k.progs 0 = [] := rfl
    generalize cellsK g.board s k.progs = CK at *
    generalize kindP g.board s k.progs = KP at *
    (repeat (first|with_reducible refine wV fun _=>?_|simp [go_sem, hel, hg2]))
    refine ALoop.start (ALoop.ind (α := Nat) (fun c => ⟨[(1, .ref 0 0 9 0 0), (2, .ref 1 0 2 0 0), (3, .ref 2 0 2 0 0), (4, .v (.int .i64 s)), (5, .v (.int .i64 j)), (6, .sl 4 c 1 0 c), (7, .v (.int .i64 c))],
      [(0, .rows true 0 9 [eg]), (1, .rows true 0 2 [[AV.v (.slice none 0 0), AV.v (.slice none 0 0)]]), (2, .rows true 0 2 [rowS S0 s (.sl 3 j 1 0 j)]), (3, .rows true j 1 ((sideK g s j).map fun x => [encCells x])), (4, .rows true c 1 ((CK c).map fun x => [encPt x]))], 5⟩)
     (fun d c => c + d = C) ?_ C 0 ?_) ?_ ?_
    ·rintro d2 c c1' hrec3
     have hclc := hcl c
     (repeat (first|with_reducible refine wV fun _=>?_|simp [go_sem, hel, hg3]))
     refine aIf.mkL (fun hc => ?_) (fun hc => ?_) <;> simp at hc
     ·have hklc := hkl c
      have hcsc := hcs c
      rw [hks c] at hcsc
      have hks' : ((k.progs.flatMap fun p => pathsP g.board s p c)).length ≤ 8589934592 := by rw [← hks c]; exact hklc
      obtain ⟨R, hR⟩ : ∃ R, R = k.progs.flatMap fun p => pathsP g.board s p c := ⟨_, rfl⟩
      rw [← hR] at hcsc hks'
      (repeat (first|with_reducible refine wV fun _=>?_|simp [go_sem, hel]))
      refine ALoop.start (ALoop.ind (α := Nat × List PathD) (fun a => ⟨[(1, .ref 0 0 9 0 0), (2, .ref 1 0 2 0 0), (3, .ref 2 0 2 0 0), (4, .v (.int .i64 s)), (5, .v (.int .i64 j)), (6, .sl 4 c 1 0 c), (7, .v (.int .i64 c)), (8, .sl 5 a.1 2 0 a.2.length), (9, .v (.int .i64 a.1))],
        [(0, .rows true 0 9 [eg]), (1, .rows true 0 2 [[AV.v (.slice none 0 0), AV.v (.slice none 0 0)]]), (2, .rows true 0 2 [rowS S0 s (.sl 3 j 1 0 j)]), (3, .rows true j 1 ((sideK g s j).map fun x => [encCells x])), (4, .rows true c 1 ((CK c).map fun x => [encPt x])), (5, .rows true a.1 2 (a.2.map encPath))], 6⟩)
       (fun d a => a.1 + d = k.progs.length ∧ a.2 ++ ((k.progs.drop a.1).flatMap fun p => pathsP g.board s p c) = R) ?_ k.progs.length (0, []) ?_) ?_ ?_
      ·rintro d3 ⟨i, l⟩ ⟨i1, i2⟩ hrec4
       simp only at i1 i2
       (repeat (first|with_reducible refine wV fun _=>?_|simp [go_sem, hel, hg2, hj, ← hk]))
       refine aIf.mkL (fun hi => ?_) (fun hi => ?_) <;> simp at hi
       ·rw [dropG_cons hi, List.flatMap_cons, ← List.append_assoc] at i2
        have hlR : l.length + (pathsP g.board s (nth k.progs i) c).length ≤ 8589934592 := by
         have := hks'
         rw [← i2] at this
         simp only [List.length_append] at this
         omega
        have hPi := hPk _ (nth_mem hi) s c
        have hgo := hrec4 (d3 - 1) (by omega) (i + 1, l ++ pathsP g.board s (nth k.progs i) c) ⟨by simp only; omega, i2⟩
        simp only [List.length_append] at hgo
        generalize pathsP g.board s (nth k.progs i) c = X at *
        (repeat (first|with_reducible refine wV fun _=>?_|simp [go_sem, hel, hg1, hg2, hj, hi, ← hk]))
        refine dCall.plain hPi (by simp [go_sem, heBb]) ?_
        (repeat (first|with_reducible refine wV fun _=>?_|simp [go_sem]))
        refine ALoop.start hgo ?_ (by simp)
        simp [go_sem, Wk_eq, hbl]
        exact rowS_bel (of_eq_true (hSb0 _)) (.sl (by omega))
       ·rw [List.drop_eq_nil_of_le hi, List.flatMap_nil, List.append_nil] at i2
        subst i2
        (repeat (first|with_reducible refine wV fun _=>?_|simp [go_sem]))
        refine ALoop.start (hrec3 (d2 - 1) (by omega) (c + 1) (by omega)) ?_ (by simp)
        simp [go_sem, Wk_eq, hbl, hcsc]
        refine ⟨rowS_bel (of_eq_true (hSb0 _)) (.sl (by omega)), ?_⟩
        (first|done|exact leX)
      ·exact ⟨by simp, by rw [hR]; rfl⟩
      ·simp [go_sem, Wk_eq, hbl]
       exact rowS_bel (of_eq_true (hSb0 _)) (.sl (by omega))
      ·simp
     ·have hcC : c = C := by omega
      subst hcC
      (repeat (first|with_reducible refine wV fun _=>?_|simp [go_sem, hel, hrl, hrc, hrs, hlj]))
      refine ALoop.start (hrec2 (d - 1) (by omega) (j + 1) (by omega)) ?_ (by simp)
      simp [go_sem, Wk_eq, hbl, hsj]
      refine ⟨rowS_bel (of_eq_true (hSb0 _)) (.sl (by omega)), ?_⟩
      ((try simp only [encProg, encStep, encAct, encAs, encPath, encPt, encOut, encState, encPos, encOs, encSs, encPs, encIs, encGame, List.map_cons, List.map_nil, List.nil_append, List.append_nil, List.cons_append]); (repeat (first | (with_reducible exact LeRow.nil) | (with_reducible exact LeRows.nil) | (with_reducible exact LeV.refl _) | (with_reducible exact LeRow.refl _ _ _ _) | (with_reducible exact LeRows.refl _) | (with_reducible refine LeRow.cons ?_ ?_) | (with_reducible refine LeRows.cons ?_ ?_) | (with_reducible refine LeV.agg ?_) | (with_reducible refine LeV.tup ?_) | (with_reducible refine LeV.fn ?_ ?_) | (with_reducible exact LeV.nil _) | (with_reducible refine leRows_append (LeRows.refl _) ?_) | ((refine leV_frz rfl (by simp [hclc]) (by simp [frzO, frz1, upd, noH]) ?_); (first | (simp [go_sem, hclc]; done) | (simp [go_sem, hclc]; exact List.take_of_length_le (by simp [hclc])))) | ((refine LeV.frz rfl (by simp [hclc]) (by simp [frzO, frz1, upd, noH]) ?_); (simp only [List.drop_zero, List.take_succ_cons, List.take_zero, List.map_cons, List.map_nil])) | ((refine LeV.frzP rfl (by simp [hclc]) (by simp) (by simp [frzO, frz1, upd, noH]) ?_); (simp only [nth_zero, List.drop_zero])))))
    ·simp
    ·simp [go_sem, Wk_eq, hbl, hc0]
     exact rowS_bel (of_eq_true (hSb0 _)) (.sl (by omega))
    ·simp
   ·have hjk : j = g.kinds.length := by omega
    subst hjk
    rw [sideK_all] at *
    (repeat (first|with_reducible refine wV fun _=>?_|simp [go_sem]))
    refine ALoop.start (hrec (d0 - 1) (by omega) (s + 1) (by omega)) ?_ (by simp)
    simp [go_sem, Wk_eq, hbl]
    refine ⟨?_, ?_⟩
    ·rcases (show s = 0 ∨ s = 1 by omega) with rfl | rfl
     ·have hl0 : (sideP g 0).length = g.kinds.length := by simp [sideP]
      simp only [rowA, rowS, hS0, encSide, encCells, encPt]
      simp
      ((try simp only [encProg, encStep, encAct, encAs, encPath, encPt, encOut, encState, encPos, encOs, encSs, encPs, encIs, encGame, List.map_cons, List.map_nil, List.nil_append, List.append_nil, List.cons_append]); (repeat (first | (with_reducible exact LeRow.nil) | (with_reducible exact LeRows.nil) | (with_reducible exact LeV.refl _) | (with_reducible exact LeRow.refl _ _ _ _) | (with_reducible exact LeRows.refl _) | (with_reducible refine LeRow.cons ?_ ?_) | (with_reducible refine LeRows.cons ?_ ?_) | (with_reducible refine LeV.agg ?_) | (with_reducible refine LeV.tup ?_) | (with_reducible refine LeV.fn ?_ ?_) | (with_reducible exact LeV.nil _) | (with_reducible refine leRows_append (LeRows.refl _) ?_) | ((refine leV_frz rfl (by simp [hl0]) (by simp [frzO, frz1, upd, noH]) ?_); (first | (simp [go_sem, hl0]; done) | (simp [go_sem, hl0]; exact List.take_of_length_le (by simp [hl0])))) | ((refine LeV.frz rfl (by simp [hl0]) (by simp [frzO, frz1, upd, noH]) ?_); (simp only [List.drop_zero, List.take_succ_cons, List.take_zero, List.map_cons, List.map_nil])) | ((refine LeV.frzP rfl (by simp [hl0]) (by simp) (by simp [frzO, frz1, upd, noH]) ?_); (simp only [nth_zero, List.drop_zero])))))
     ·have hl0 : (sideP g 1).length = g.kinds.length := by simp [sideP]
      simp only [rowA, rowS, hS1, encSide, encCells, encPt]
      simp
      ((try simp only [encProg, encStep, encAct, encAs, encPath, encPt, encOut, encState, encPos, encOs, encSs, encPs, encIs, encGame, List.map_cons, List.map_nil, List.nil_append, List.append_nil, List.cons_append]); (repeat (first | (with_reducible exact LeRow.nil) | (with_reducible exact LeRows.nil) | (with_reducible exact LeV.refl _) | (with_reducible exact LeRow.refl _ _ _ _) | (with_reducible exact LeRows.refl _) | (with_reducible refine LeRow.cons ?_ ?_) | (with_reducible refine LeRows.cons ?_ ?_) | (with_reducible refine LeV.agg ?_) | (with_reducible refine LeV.tup ?_) | (with_reducible refine LeV.fn ?_ ?_) | (with_reducible exact LeV.nil _) | (with_reducible refine leRows_append (LeRows.refl _) ?_) | ((refine leV_frz rfl (by simp [hl0]) (by simp [frzO, frz1, upd, noH]) ?_); (first | (simp [go_sem, hl0]; done) | (simp [go_sem, hl0]; exact List.take_of_length_le (by simp [hl0])))) | ((refine LeV.frz rfl (by simp [hl0]) (by simp [frzO, frz1, upd, noH]) ?_); (simp only [List.drop_zero, List.take_succ_cons, List.take_zero, List.map_cons, List.map_nil])) | ((refine LeV.frzP rfl (by simp [hl0]) (by simp) (by simp [frzO, frz1, upd, noH]) ?_); (simp only [nth_zero, List.drop_zero])))))
    ·intro x hx
     unfold rowA at hx
     simp only [List.mem_cons, List.not_mem_nil, or_false] at hx
     rcases hx with rfl | rfl
     ·exact of_eq_true (hSb0 _)
     ·split
      ·exact .v _
      ·exact of_eq_true (hSb1 _)
  ·simp
  ·have h0 := sideK_zero g s
   simp [go_sem, Wk_eq, h0]
   refine ⟨of_eq_true (hbl _), rowS_le ?_, rowS_bel (of_eq_true (hSb0 _)) (.sl (by omega))⟩
   simp [go_sem]
  ·simp
 ·simp
 ·simp [go_sem, Wk_eq, hbl, rowA]
 ·simp
end Go.Av
end
section
/- Contracts, the reference of layer 22: the names of the regions of a game. -/
open Go Go.Proofs
namespace Go.Av
end Go.Av
end
section
/- Plain: parts of positions, and what is joined of parts (layer 22). -/
open Go Go.Proofs
namespace Go.Av
structure OfOk (of : List Int) : Prop where
 r : ∀ c, c < of.length → 0 ≤ nth of c ∧ nth of c ≤ c
 root : ∀ c, c < of.length → nth of (nth of c).toNat = nth of c
theorem ofOk_namesL {n : Nat} (hn : n ≤ 64) {c : CodeD} (h1 : SideR n c.1) (h2 : SideR n c.2) : OfOk (namesL (linksC c) n) := by
 refine ⟨fun x hx => ?_, fun x hx => ?_⟩ <;> rw [show (namesL (linksC c) n).length = n by simp [namesL]] at hx <;> obtain ⟨a, b, d⟩ := names_least hn h1 h2 (x := x) (by omega) (by omega) <;> rw [show ((x : Int)).toNat = x by omega] at *
 ·exact ⟨a, b⟩
 ·exact d
theorem mem_namesU {of : List Int} {c : Int} {n : Nat} : c ∈ namesU of n ↔ 0 ≤ c ∧ c < n ∧ nth of c.toNat = c := by
 unfold namesU
 rw [List.mem_map]
 constructor
 ·rintro ⟨x, hx, rfl⟩
  obtain ⟨h1, h2⟩ := List.mem_filter.1 hx
  have := List.mem_range.1 h1
  refine ⟨by omega, by omega, by simpa using h2⟩
 ·rintro ⟨h0, h1, h2⟩
  refine ⟨c.toNat, List.mem_filter.2 ⟨List.mem_range.2 (by omega), ?_⟩, by omega⟩
  rw [h2]
  simp; omega
theorem OfOk.mem {of : List Int} (h : OfOk of) {c : Nat} (hc : c < of.length) : nth of c ∈ namesU of of.length := by
 have a := h.r c hc
 exact mem_namesU.2 ⟨a.1, by omega, h.root c hc⟩
theorem OfOk.pos {of : List Int} (h : OfOk of) (hl : 1 ≤ of.length) : 1 ≤ (namesU of of.length).length := by
 have := h.mem (c := 0) (by omega)
 exact List.length_pos_of_mem this
theorem nth_rangeMap {α : Type} [Inhabited α] (f : Nat → α) {n c : Nat} (h : c < n) : nth ((List.range n).map f) c = f c := by
 have hl : c < (List.range n).length := by simpa using h
 rw [nth_map _ _ _ hl, nth_eq _ _ hl, List.getElem_range]
theorem list_ext_nth {α : Type} [Inhabited α] {a b : List α} (hl : a.length = b.length) (h : ∀ i, i < a.length → nth a i = nth b i) : a = b := by
 refine List.ext_getElem hl fun i h1 h2 => ?_
 have := h i h1
 rwa [nth_eq _ _ h1, nth_eq _ _ h2] at this
theorem partP_ok {g : GameD} {p : PosD} (hp : POk g p) (of : List Int) (name : Int) : POk g (partP of p name) := by
 refine ⟨?_, fun c hc => ?_, hp.h0, hp.h1, hp.r0, hp.r1, hp.s⟩
 ·show ((partL of p.at_ name p.at_.length).length : Int) = g.cells
  rw [partL_len]; exact hp.al
 ·obtain ⟨i, hi, rfl⟩ := List.mem_map.1 hc
  split
  ·exact hp.av _ (nth_mem (List.mem_range.1 hi))
  ·omega
def okJ (of : List Int) (l : List PosD) (k : Nat) : Bool := (List.range k).all fun i => decide ((nth l i).side = (nth l 0).side) && decide (cmpP (nth l i) (partP of (nth l i) (nth (namesU of of.length) i)) = 0)
theorem okJ_succ (of : List Int) (l : List PosD) (k : Nat) : okJ of l (k + 1) = (okJ of l k && (decide ((nth l k).side = (nth l 0).side) && decide (cmpP (nth l k) (partP of (nth l k) (nth (namesU of of.length) k)) = 0))) := by
 unfold okJ; rw [List.range_succ, List.all_append]; simp
def sumA (l : List PosD) : Nat → Nat → Int
 | 0, _ => 0
 | k + 1, c => sumA l k c + nth (nth l k).at_ c
def joinAt (l : List PosD) (n : Nat) : List Int := (List.range n).map (sumA l l.length)
def joinP (l : List PosD) (n : Nat) : PosD := { nth l 0 with at_ := joinAt l n }
def partsP (of : List Int) (p : PosD) : List PosD := (namesU of of.length).map (partP of p)
structure PartsOk (g : GameD) (of : List Int) (l : List PosD) (side : Int) : Prop where
 len : l.length = (namesU of of.length).length
 ok : ∀ p ∈ l, POk g p
 sd : ∀ p ∈ l, p.side = side
 part : ∀ i, i < l.length → nth l i = partP of (nth l i) (nth (namesU of of.length) i)
theorem PartsOk.okJ {g : GameD} {of : List Int} {l : List PosD} {side : Int} (h : PartsOk g of l side) : okJ of l l.length = true := by
 refine List.all_eq_true.2 fun i hi => ?_
 have hi' := List.mem_range.1 hi
 simp only [Bool.and_eq_true, decide_eq_true_eq]
 refine ⟨?_, cmpP_eq.2 (h.part i hi')⟩
 rw [h.sd _ (nth_mem hi'), h.sd _ (nth_mem (by omega))]
def NoHand (g : GameD) : Prop := (∀ k ∈ g.kinds, k.keep = false) ∧ g.rights = 0
theorem hand_zero {g : GameD} (hn : NoHand g) {l : List Int} (h : HandOk g l) : l = List.replicate g.kinds.length 0 := by
 refine list_ext_nth (by rw [h.len, List.length_replicate]) fun i hi => ?_
 have hv := h.v i hi
 have hk := hn.1 _ (nth_mem (show i < g.kinds.length by have := h.len; omega))
 have : nth (List.replicate g.kinds.length (0 : Int)) i = 0 := by
  rw [nth_eq _ _ (by rw [List.length_replicate]; have := h.len; omega), List.getElem_replicate]
 rw [this]
 by_cases h0 : 0 < nth l i
 ·rw [hv.2.2 h0] at hk; cases hk
 ·omega
theorem POk.zero {g : GameD} (hn : NoHand g) {p : PosD} (hp : POk g p) : p.h0 = List.replicate g.kinds.length 0 ∧ p.h1 = List.replicate g.kinds.length 0 ∧ p.rights = 0 := by
 refine ⟨hand_zero hn hp.h0, hand_zero hn hp.h1, ?_⟩
 have a := hp.r0
 have b := hp.r1
 rw [hn.2] at b
 simp at b
 omega
end Go.Av
end
section
/- Plain: the regions of a game. -/
open Go Go.Proofs
namespace Go.Av
def ofG (g : GameD) : List Int := namesL (linksC (codeP g)) g.cells.toNat
theorem ofG_len (g : GameD) : (ofG g).length = g.cells.toNat := by simp [ofG, namesL]
end Go.Av
end
section
/- Contracts: game.Man, game.Code, pos.Compare. -/
open Go Go.Proofs
namespace Go.Av
theorem gMan_pure (c : Int) : Pure Tryz.prog 138 [.v (.int .i64 c)] (.tup [.v (.int .i64 (manOf c).1), .v (.int .i64 (manOf c).2)]) := by
 refine pF Tryz.func138 ?_
 unfold manOf
 by_cases h1 : c < 1
 ·rw [if_neg (by omega)]
  (repeat (first|with_reducible refine wV fun _=>?_|simp [go_sem, h1]))
 ·by_cases h2 : 12 < c
  ·rw [if_neg (by omega)]
   (repeat (first|with_reducible refine wV fun _=>?_|simp [go_sem, h1, h2]))
  ·rw [if_pos (by omega)]
   have e1 : (c - 1).tdiv 2 = (c - 1) / 2 := Int.tdiv_eq_ediv_of_nonneg (by omega)
   have e2 : (c - 1).tmod 2 = (c - 1) % 2 := Int.tmod_eq_emod_of_nonneg (by omega)
   have b1 : 0 ≤ (c - 1).tdiv 2 ∧ (c - 1).tdiv 2 ≤ 12 := by omega
   have b2 : 0 ≤ (c - 1).tmod 2 ∧ (c - 1).tmod 2 ≤ 12 := by omega
   clear e1 e2
   (repeat (first|with_reducible refine wV fun _=>?_|simp [go_sem, h1, h2]))
theorem gCode_pure (k s : Int) : Pure Tryz.prog 122 [.v (.int .i64 k), .v (.int .i64 s)] (.v (.int .i64 (codeOf k s))) := by
 refine pF Tryz.func122 ?_
 unfold codeOf
 by_cases h1 : k < 0
 ·rw [if_neg (by omega)]
  (repeat (first|with_reducible refine wV fun _=>?_|simp [go_sem, h1]))
 by_cases h2 : 6 ≤ k
 ·rw [if_neg (by omega)]
  (repeat (first|with_reducible refine wV fun _=>?_|simp [go_sem, h1, h2]))
 by_cases h3 : s < 0
 ·rw [if_neg (by omega)]
  (repeat (first|with_reducible refine wV fun _=>?_|simp [go_sem, h1, h2, h3]))
 by_cases h4 : 1 < s
 ·rw [if_neg (by omega)]
  (repeat (first|with_reducible refine wV fun _=>?_|simp [go_sem, h1, h2, h3, h4]))
 ·rw [if_pos (by omega), show 2 * k + 1 + s = 1 + 2 * k + s by omega]
  (repeat (first|with_reducible refine wV fun _=>?_|simp [go_sem, h1, h2, h3, h4]))
theorem isNaN_pure (x : Int) : Pure Tryz.prog 155 [.v (.int .i64 x)] (.v (.bool false)) := by
 refine pF Tryz.func155 ?_
 (repeat (first|with_reducible refine wV fun _=>?_|simp [go_sem]))
theorem cCompare_pure (a b : Int) : Pure Tryz.prog 96 [.v (.int .i64 a), .v (.int .i64 b)] (.v (.int .i64 (number a b))) := by
 refine pF Tryz.func96 ?_
 (repeat (first|with_reducible refine wV fun _=>?_|simp [go_sem]))
 refine ACallP.plain (isNaN_pure a) (by simp [go_sem]) ?_
 (repeat (first|with_reducible refine wV fun _=>?_|simp [go_sem]))
 refine ACallP.plain (isNaN_pure b) (by simp [go_sem]) ?_
 unfold number
 by_cases h1 : a < b
 ·rw [if_pos h1]
  (repeat (first|with_reducible refine wV fun _=>?_|simp [go_sem, h1]))
 ·by_cases h2 : b < a
  ·rw [if_neg h1, if_pos h2]
   (repeat (first|with_reducible refine wV fun _=>?_|simp [go_sem, h1, h2]))
  ·rw [if_neg h1, if_neg h2]
   (repeat (first|with_reducible refine wV fun _=>?_|simp [go_sem, h1, h2]))
def orI : List Int → Int
 | [] => 0
 | x :: l => if x = 0 then orI l else x
theorem cOr_pure (l : List Int) (hl : Fits l) : Pure Tryz.prog 94 [encIs l] (.v (.int .i64 (orI l))) := by
 refine pF Tryz.func94 ?_
 unfold Fits at hl
 (repeat (first|with_reducible refine wV fun _=>?_|simp [go_sem]))
 refine ALoop.start (ALoop.ind (α := Nat) (fun j => ⟨[(3, .v (.int .i64 0)), (6, encIs l), (7, .v (.int .i64 l.length)), (8, .v (.int .i64 j))], [], 0⟩)
  (fun d j => j + d = l.length ∧ orI l = orI (l.drop j)) ?_ l.length 0 ?_) ?_ ?_
 ·rintro d j ⟨i1, i2⟩ hrec
  (repeat (first|with_reducible refine wV fun _=>?_|simp [go_sem]))
  refine aIf.mkL (fun hj => ?_) (fun hj => ?_) <;> simp at hj
  ·rw [drop_cons hj, orI] at i2
   (repeat (first|with_reducible refine wV fun _=>?_|simp [go_sem, hj]))
   by_cases h0 : nth l j = 0
   ·rw [if_pos h0] at i2
    (repeat (first|with_reducible refine wV fun _=>?_|simp [go_sem, h0]))
    refine ALoop.start (hrec (d - 1) (by omega) (j + 1) ⟨by omega, i2⟩) ?_ (by simp)
    simp [go_sem, Wk_eq]
   ·rw [if_neg h0] at i2
    rw [i2]
    (repeat (first|with_reducible refine wV fun _=>?_|simp [go_sem, h0]))
  ·rw [List.drop_eq_nil_of_le hj, orI] at i2
   rw [i2]
   (repeat (first|with_reducible refine wV fun _=>?_|simp [go_sem]))
 ·simp
 ·simp [go_sem, Wk_eq]
 ·simp
theorem sCompare_pure (a b : List Int) (ha : Fits a) (hb : Fits b) : Pure Tryz.prog 95 [encIs a, encIs b] (.v (.int .i64 (cmpL a b))) := by
 refine pF Tryz.func95 ?_
 unfold Fits at ha hb
 (repeat (first|with_reducible refine wV fun _=>?_|simp [go_sem]))
 refine ALoop.start (ALoop.ind (α := Nat) (fun j => ⟨[(0, encIs a), (1, encIs b), (9, encIs a), (10, .v (.int .i64 a.length)), (11, .v (.int .i64 j))], [], 0⟩)
  (fun d j => j + d = a.length ∧ j ≤ b.length ∧ cmpL a b = cmpL (a.drop j) (b.drop j)) ?_ a.length 0 ?_) ?_ ?_
 ·rintro d j ⟨i1, i2, i3⟩ hrec
  (repeat (first|with_reducible refine wV fun _=>?_|simp [go_sem]))
  refine aIf.mkL (fun hj => ?_) (fun hj => ?_) <;> simp at hj
  ·rw [drop_cons hj] at i3
   (repeat (first|with_reducible refine wV fun _=>?_|simp [go_sem, hj]))
   by_cases hk : j < b.length
   ·rw [drop_cons hk, cmpL] at i3
    have hk' : ¬ b.length ≤ j := by omega
    (repeat (first|with_reducible refine wV fun _=>?_|simp [go_sem, hj, hk, hk']))
    refine ACallP.plain (cCompare_pure _ _) (by simp [go_sem]) ?_
    by_cases he : nth a j = nth b j
    ·rw [if_pos he] at i3
     have hn : number (nth a j) (nth b j) = 0 := by simp [number, he]
     rw [hn]
     (repeat (first|with_reducible refine wV fun _=>?_|simp [go_sem]))
     refine ALoop.start (hrec (d - 1) (by omega) (j + 1) ⟨by omega, by omega, i3⟩) ?_ (by simp)
     simp [go_sem, Wk_eq]
    ·rw [if_neg he] at i3
     have hn : number (nth a j) (nth b j) ≠ 0 := by unfold number; split <;> (try split) <;> omega
     rw [i3]
     (repeat (first|with_reducible refine wV fun _=>?_|simp [go_sem, hn]))
   ·have hk' : b.length ≤ j := by omega
    rw [List.drop_eq_nil_of_le hk', cmpL_nil_right] at i3
    have : cmpL a b = 1 := by rw [i3]; unfold number; rw [if_neg (by simp only [List.length_cons]; omega), if_pos (by simp only [List.length_cons]; omega)]
    rw [this]
    (repeat (first|with_reducible refine wV fun _=>?_|simp [go_sem, hj, hk, hk']))
  ·have hja : j = a.length := by omega
   subst hja
   rw [List.drop_eq_nil_of_le (Nat.le_refl _), cmpL_nil_left] at i3
   rw [i3]
   unfold number
   by_cases hb' : a.length < b.length
   ·rw [if_pos (by simp; omega)]
    (repeat (first|with_reducible refine wV fun _=>?_|simp [go_sem, hb']))
   ·rw [if_neg (by simp; omega), if_neg (by omega)]
    (repeat (first|with_reducible refine wV fun _=>?_|simp [go_sem, hb']))
 ·simp
 ·simp [go_sem, Wk_eq]
 ·simp
theorem cmpP_or (p q : PosD) : orI [cmpL p.at_ q.at_, cmpL p.h0 q.h0, cmpL p.h1 q.h1, number p.rights q.rights, number p.side q.side] = cmpP p q := by
 unfold cmpP
 simp only [orI]
 repeat' split
 all_goals first | rfl | omega
theorem pCompare_pure (p q : PosD) (hp : FitsP p) (hq : FitsP q) : Pure Tryz.prog 42 [.agg (encPos p), .agg (encPos q)] (.v (.int .i64 (cmpP p q))) := by
 refine pF Tryz.func42 ?_
 obtain ⟨p1, p2, p3⟩ := hp
 obtain ⟨q1, q2, q3⟩ := hq
 rw [← cmpP_or]
 have c1 := sCompare_pure _ _ p1 q1
 have c2 := sCompare_pure _ _ p2 q2
 have c3 := sCompare_pure _ _ p3 q3
 have c4 := cCompare_pure p.rights q.rights
 have c5 := cCompare_pure p.side q.side
 generalize cmpL p.at_ q.at_ = x1 at *
 generalize cmpL p.h0 q.h0 = x2 at *
 generalize cmpL p.h1 q.h1 = x3 at *
 generalize number p.rights q.rights = x4 at *
 generalize number p.side q.side = x5 at *
 (repeat (first|with_reducible refine wV fun _=>?_|simp [go_sem]))
 refine dCall.plain c1 (by simp [go_sem]) ?_
 (repeat (first|with_reducible refine wV fun _=>?_|simp [go_sem]))
 refine dCall.plain c2 (by simp [go_sem]) ?_
 (repeat (first|with_reducible refine wV fun _=>?_|simp [go_sem]))
 refine dCall.plain c3 (by simp [go_sem]) ?_
 (repeat (first|with_reducible refine wV fun _=>?_|simp [go_sem]))
 refine dCall.plain c4 (by simp [go_sem]) ?_
 (repeat (first|with_reducible refine wV fun _=>?_|simp [go_sem]))
 refine dCall.plain c5 (by simp [go_sem]) ?_
 (repeat (first|with_reducible refine wV fun _=>?_|simp [go_sem]))
 refine dCall.frz [encIs [x1, x2, x3, x4, x5]] _ [31] [(31, some (.rows false 0 1 ([x1, x2, x3, x4, x5].map encI)))] (cOr_pure _ (by unfold Fits; simp)) ?_ ?_ (by simp [go_sem]) ?_
 ·intro p hp
  simp only [List.mem_singleton] at hp
  subst hp
  exact ⟨by simp, 0, 1, _, rfl, by simp [upd, go_sem]⟩
 ·intro h₁ hS
  have h7 := hS 31 (by simp)
  simp [go_sem] at h7
  exact .cons (leV_frz h7.symm (by simp) (by simp [applyW, upd]) (by simp [go_sem])) .nil
 ·(repeat (first|with_reducible refine wV fun _=>?_|simp [go_sem]))
end Go.Av
end
