/- Texts of ours, part 10: our library and contracts of functions. -/
import Derived.Test.YtkahkcakggflaaaGreatDoorB09
set_option linter.unusedSimpArgs false
set_option linter.unusedVariables false
set_option maxRecDepth 100000
set_option maxHeartbeats 40000000
section
open Go Go.Proofs
namespace Go.Av
theorem zho (p : zaZ) : ∀ (l : List Int) (passed : List zcn) (c : Int), zcd p (l ++ [c]) passed = zcd p l passed ++ [onP p c (passed ++ l.map fun c => (3, c, 0))]
 | [], passed, c => by simp [zcd, onP]
 | d :: l, passed, c => by simp [zcd, zho p l]
def zhW (l : List Int) : List zcn := l.map fun c => (3, c, 0)
theorem zou (l : List Int) (c : Int) : zhW (l ++ [c]) = zhW l ++ [(3, c, 0)] := by simp [zhW]
theorem zu1 (l : List Int) : (zhW l).length = l.length := by simp [zhW]
theorem zp7 (p : zaZ) (l : List Int) {i : Nat} (h : i < l.length) : zcd p (l.take (i + 1)) [] = zcd p (l.take i) [] ++ [onP p (nth l i) (zhW (l.take i))] ∧ zhW (l.take (i + 1)) = zhW (l.take i) ++ [(3, nth l i, 0)] := by
 rw [List.take_add_one, List.getElem?_eq_getElem h, zaJ _ _ h, Option.toList_some, zho, zou]
 exact ⟨by simp [zhW], rfl⟩
theorem zpw (b : zaL) (hb : za2 b) (h9 : b.cells ≤ 9) (side : Int) (p : zaZ) (hp : p.acts.length ≤ 1000000) (x : Int × Int) :
  zaC Tryz.prog 192 [.agg (zde b), .v (.int .i64 side), .agg (zap p), .agg [.v (.int .i64 x.1), .v (.int .i64 x.2)]] (zaU (ziS b side p x)) := by
 refine pF Tryz.func192 ?_
 obtain ⟨op, N⟩ := x
 have hT := ziP b hb side N p.to
 have hL := zlc b hb side N p.to
 have hll := ziX hb (side := side) (d := N) (c := p.to)
 have hO := fun to more (h : more.length ≤ 1048576) => zua p to more (by omega) h
 have hE : ziS b side p (op, N) = if op = 1 ∨ op = 7 then
  if toB b side N p.to < 0 then [] else if op = 1 then [onP p (toB b side N p.to) []] else [onP p p.to [(7, p.to, toB b side N p.to)]]
  else if op = 2 then zcd p (zfH b side N p.to) []
  else if op = 8 ∨ op = 9 ∨ op = 10 then [onP p p.to [(op, N, 0)]]
  else [onP p p.to [(op, p.to, 0)]] := rfl
 generalize toB b side N p.to = to at *
 generalize zfH b side N p.to = line at *
 generalize ziS b side p (op, N) = R at *
 have hbl : ∀ n, (∀ c' ∈ zde b, Bel n c') = True := fun n => by simp [go_sem]
 have hel : (zde b).length = 3 := rfl
 have hte : (zde b).take 3 = zde b := rfl
 obtain ⟨eb, heb⟩ : ∃ eb, eb = zde b := ⟨_, rfl⟩
 rw [← heb] at hbl hel hT hL hte ⊢
 repeat first|with_reducible refine wV fun _=>?_|simp [go_sem, hel, hte]
 refine zyK (fun h1 => ?_) (fun h1 => ?_) <;> simp at h1
 ·subst h1
  repeat first|with_reducible refine wV fun _=>?_|simp [go_sem, hel, hte]
  refine zyJ hT (by simp [go_sem, hbl]) ?_
  repeat first|with_reducible refine wV fun _=>?_|simp [go_sem, hel, hte]
  refine zyK (fun ht => ?_) (fun ht => ?_) <;> simp at ht
  ·rw [if_pos (by omega), if_pos ht] at hE
   rw [hE]
   repeat first|with_reducible refine wV fun _=>?_|simp [go_sem, hel, hte]
  ·rw [if_pos (by omega), if_neg (by omega), if_pos rfl] at hE
   rw [hE]
   repeat first|with_reducible refine wV fun _=>?_|simp [go_sem, hel, hte]
   refine zyY (hO to [] (by simp)) (by simp [go_sem]) (by simp [go_sem]) ?_ (by simp [go_sem]) ?_
   ·(first|done|exact leX)
   ·repeat first|with_reducible refine wV fun _=>?_|simp [go_sem, hel, hte, onP]
    (first|done|exact leX)
 ·repeat first|with_reducible refine wV fun _=>?_|simp [go_sem, hel, hte]
  refine zyK (fun h7 => ?_) (fun h7 => ?_) <;> simp at h7
  ·subst h7
   repeat first|with_reducible refine wV fun _=>?_|simp [go_sem, hel, hte]
   refine zyJ hT (by simp [go_sem, hbl]) ?_
   repeat first|with_reducible refine wV fun _=>?_|simp [go_sem, hel, hte]
   refine zyK (fun ht => ?_) (fun ht => ?_) <;> simp at ht
   ·rw [if_pos (by omega), if_pos ht] at hE
    rw [hE]
    repeat first|with_reducible refine wV fun _=>?_|simp [go_sem, hel, hte]
   ·rw [if_pos (by omega), if_neg (by omega), if_neg (by omega)] at hE
    rw [hE]
    repeat first|with_reducible refine wV fun _=>?_|simp [go_sem, hel, hte]
    refine zyY (hO p.to [(7, p.to, to)] (by simp)) (by simp [go_sem]) (by simp [go_sem]) ?_ (by simp [go_sem]) ?_
    ·(first|done|exact leX)
    ·repeat first|with_reducible refine wV fun _=>?_|simp [go_sem, hel, hte, onP]
     (first|done|exact leX)
  ·rw [if_neg (by omega)] at hE
   repeat first|with_reducible refine wV fun _=>?_|simp [go_sem, hel, hte]
   refine zyK (fun h2 => ?_) (fun h2 => ?_) <;> simp at h2
   ·subst h2
    rw [if_pos rfl] at hE
    repeat first|with_reducible refine wV fun _=>?_|simp [go_sem, hel, hte]
    refine zyJ hL (by simp [go_sem, hbl]) ?_
    repeat first|with_reducible refine wV fun _=>?_|simp [go_sem, hel, hte]
    refine zyI (zyN (α := Nat) (fun i => ⟨[(9, .fn (.func 252) [] [.ref 1 0 2 0 0]), (11, .sl 3 i 2 0 i), (12, .sl 4 i 3 0 i), (55, zas line), (56, .v (.int .i64 line.length)), (57, .v (.int .i64 i))],
      [(1, .rows true 0 2 [zap p]), (3, .rows true i 2 ((zcd p (line.take i) []).map zap)), (4, .rows true i 3 ((zhW (line.take i)).map zaE))], 5⟩)
     (fun d i => i + d = line.length) ?_ line.length 0 ?_) ?_ ?_
    ·rintro d i i1 hrec
     have hsl : (zcd p (line.take i) []).length = i := by rw [zh3]; simp; omega
     have hpl : (zhW (line.take i)).length = i := by rw [zu1]; simp; omega
     repeat first|with_reducible refine wV fun _=>?_|simp [go_sem, hel, hte]
     refine zyK (fun hi => ?_) (fun hi => ?_) <;> simp at hi
     ·obtain ⟨s1, s2⟩ := zp7 p line hi
      repeat first|with_reducible refine wV fun _=>?_|simp [go_sem, hi]
      refine zyY (hO (nth line i) (zhW (line.take i)) (by omega)) (by simp [go_sem]) (by simp [go_sem]) ?_ (by simp [go_sem]) ?_
      ·((try simp only [zar, zau, zaE, zaV, zap, zaU, zat, zal, zad, za3, zaO, zaz, zas, zab, List.map_cons, List.map_nil, List.nil_append, List.append_nil, List.cons_append]); (repeat (first | (with_reducible first|exact zai.nil|exact zae.nil|exact LeV.refl _|exact zai.refl _ _ _ _|exact zae.refl _|refine zai.cons ?_ ?_|refine zae.cons ?_ ?_|refine LeV.agg ?_|refine LeV.tup ?_|refine LeV.fn ?_ ?_|exact LeV.nil _|refine zag (zae.refl _) ?_) | ((refine zam rfl (by simp [hpl]) (by simp [zaK, zaR, upd, noH]) ?_); (first | (simp [go_sem, hpl]; done) | (simp [go_sem, hpl]; exact List.take_of_length_le (by simp [hpl])))) | ((refine LeV.frz rfl (by simp [hpl]) (by simp [zaK, zaR, upd, noH]) ?_); (simp only [List.drop_zero, List.take_succ_cons, List.take_zero, List.map_cons, List.map_nil])) | ((refine LeV.frzP rfl (by simp [hpl]) (by simp) (by simp [zaK, zaR, upd, noH]) ?_); (simp only [zaw, List.drop_zero])))))
      ·repeat first|with_reducible refine wV fun _=>?_|simp [go_sem, hi, hsl, hpl]
       refine zyI (hrec (d - 1) (by omega) (i + 1) (by omega)) ?_ (by simp)
       simp [go_sem, zah, s1, s2, onP, hpl]
       ((try simp only [zar, zau, zaE, zaV, zap, zaU, zat, zal, zad, za3, zaO, zaz, zas, zab, List.map_cons, List.map_nil, List.nil_append, List.append_nil, List.cons_append]); (repeat (first | (with_reducible first|exact zai.nil|exact zae.nil|exact LeV.refl _|exact zai.refl _ _ _ _|exact zae.refl _|refine zai.cons ?_ ?_|refine zae.cons ?_ ?_|refine LeV.agg ?_|refine LeV.tup ?_|refine LeV.fn ?_ ?_|exact LeV.nil _|refine zag (zae.refl _) ?_) | ((refine zam rfl (by simp [hpl]) (by simp [zaK, zaR, upd, noH]) ?_); (first | (simp [go_sem, hpl]; done) | (simp [go_sem, hpl]; exact List.take_of_length_le (by simp [hpl])))) | ((refine LeV.frz rfl (by simp [hpl]) (by simp [zaK, zaR, upd, noH]) ?_); (simp only [List.drop_zero, List.take_succ_cons, List.take_zero, List.map_cons, List.map_nil])) | ((refine LeV.frzP rfl (by simp [hpl]) (by simp) (by simp [zaK, zaR, upd, noH]) ?_); (simp only [zaw, List.drop_zero])))))
     ·have hil : i = line.length := by omega
      subst hil
      rw [List.take_length] at hsl ⊢
      rw [hE]
      repeat first|with_reducible refine wV fun _=>?_|simp [go_sem, hsl]
      ((try simp only [zar, zau, zaE, zaV, zap, zaU, zat, zal, zad, za3, zaO, zaz, zas, zab, List.map_cons, List.map_nil, List.nil_append, List.append_nil, List.cons_append]); (repeat (first | (with_reducible first|exact zai.nil|exact zae.nil|exact LeV.refl _|exact zai.refl _ _ _ _|exact zae.refl _|refine zai.cons ?_ ?_|refine zae.cons ?_ ?_|refine LeV.agg ?_|refine LeV.tup ?_|refine LeV.fn ?_ ?_|exact LeV.nil _|refine zag (zae.refl _) ?_) | ((refine zam rfl (by simp [hsl]) (by simp [zaK, zaR, upd, noH]) ?_); (first | (simp [go_sem, hsl]; done) | (simp [go_sem, hsl]; exact List.take_of_length_le (by simp [hsl])))) | ((refine LeV.frz rfl (by simp [hsl]) (by simp [zaK, zaR, upd, noH]) ?_); (simp only [List.drop_zero, List.take_succ_cons, List.take_zero, List.map_cons, List.map_nil])) | ((refine LeV.frzP rfl (by simp [hsl]) (by simp) (by simp [zaK, zaR, upd, noH]) ?_); (simp only [zaw, List.drop_zero])))))
    ·simp
    ·simp [go_sem, zah, zcd, zhW]
    ·simp
   ·rw [if_neg h2] at hE
    repeat first|with_reducible refine wV fun _=>?_|simp [go_sem, hel, hte]
    refine zyK (fun h8 => ?_) (fun h8 => ?_) <;> simp at h8
    ·subst h8
     rw [if_pos (by omega)] at hE
     rw [hE]
     repeat first|with_reducible refine wV fun _=>?_|simp [go_sem, hel, hte]
     refine zyY (hO p.to [(8, N, 0)] (by simp)) (by simp [go_sem]) (by simp [go_sem]) ?_ (by simp [go_sem]) ?_
     ·(first|done|exact leX)
     ·repeat first|with_reducible refine wV fun _=>?_|simp [go_sem, hel, hte, onP]
      (first|done|exact leX)
    ·repeat first|with_reducible refine wV fun _=>?_|simp [go_sem, hel, hte]
     refine zyK (fun h99 => ?_) (fun h99 => ?_) <;> simp at h99
     ·subst h99
      rw [if_pos (by omega)] at hE
      rw [hE]
      repeat first|with_reducible refine wV fun _=>?_|simp [go_sem, hel, hte]
      refine zyY (hO p.to [(9, N, 0)] (by simp)) (by simp [go_sem]) (by simp [go_sem]) ?_ (by simp [go_sem]) ?_
      ·(first|done|exact leX)
      ·repeat first|with_reducible refine wV fun _=>?_|simp [go_sem, hel, hte, onP]
       (first|done|exact leX)
     ·repeat first|with_reducible refine wV fun _=>?_|simp [go_sem, hel, hte]
      refine zyK (fun h10 => ?_) (fun h10 => ?_) <;> simp at h10
      ·subst h10
       rw [if_pos (by omega)] at hE
       rw [hE]
       repeat first|with_reducible refine wV fun _=>?_|simp [go_sem, hel, hte]
       refine zyY (hO p.to [(10, N, 0)] (by simp)) (by simp [go_sem]) (by simp [go_sem]) ?_ (by simp [go_sem]) ?_
       ·(first|done|exact leX)
       ·repeat first|with_reducible refine wV fun _=>?_|simp [go_sem, hel, hte, onP]
        (first|done|exact leX)
      ·rw [if_neg (by omega)] at hE
       rw [hE]
       repeat first|with_reducible refine wV fun _=>?_|simp [go_sem, hel, hte]
       refine zyY (hO p.to [(op, p.to, 0)] (by simp)) (by simp [go_sem]) (by simp [go_sem]) ?_ (by simp [go_sem]) ?_
       ·(first|done|exact leX)
       ·repeat first|with_reducible refine wV fun _=>?_|simp [go_sem, hel, hte, onP]
        (first|done|exact leX)
def zpy {α β : Type} (F : α → List β) (l : List α) (i : Nat) : List β := (l.take i).flatMap F
theorem znU {α β : Type} [Inhabited α] (F : α → List β) (l : List α) {i : Nat} (h : i < l.length) : zpy F l (i + 1) = zpy F l i ++ F (nth l i) := by
 unfold zpy
 rw [List.take_add_one, List.getElem?_eq_getElem h, zaJ _ _ h, Option.toList_some, List.flatMap_append]
 simp
theorem znV {α β : Type} (F : α → List β) (l : List α) : zpy F l 0 = [] := by simp [zpy]
theorem ziT {α β : Type} (F : α → List β) (l : List α) : zpy F l l.length = l.flatMap F := by simp [zpy]
theorem zmx {α β : Type} (F : α → List β) (l : List α) (i : Nat) : (zpy F l i).length ≤ (l.flatMap F).length := by
 unfold zpy
 conv => rhs; rw [← List.take_append_drop i l]
 rw [List.flatMap_append, List.length_append]
 omega
theorem zsi (l : List (List (Int × Int))) (hl : l.length ≤ 1048576) (f : FuncId) (caps : List AV) (F : List (Int × Int) → List zaZ) (hF : ∀ x ∈ l, zaC Tryz.prog f (zar x :: caps) (zaU (F x))) (hb : ∀ c ∈ caps, Bel 0 c)
  (hn : (l.flatMap F).length ≤ 8589934592) : zaC Tryz.prog 146 [.lst 1 (l.map fun p => [zar p]), .fn (.func f) [] caps] (zaU (l.flatMap F)) := by
 refine pF Tryz.func146 ?_
 rw [← ziT F l] at hn ⊢
 repeat first|with_reducible refine wV fun _=>?_|simp [go_sem]
 refine zyI (zyN (α := Nat) (fun i => ⟨[(1, .fn (.func f) [] caps), (5, .sl 0 i 2 0 (zpy F l i).length), (8, .lst 1 (l.map fun p => [zar p])), (9, .v (.int .i64 l.length)), (10, .v (.int .i64 i))], [(0, .rows true i 2 ((zpy F l i).map zap))], 1⟩)
  (fun d i => i + d = l.length) ?_ l.length 0 ?_) ?_ ?_
 ·rintro d i i1 hrec
  have hni := zmx F l i
  repeat first|with_reducible refine wV fun _=>?_|simp [go_sem]
  refine zyK (fun hi => ?_) (fun hi => ?_) <;> simp at hi
  ·have hs := znU F l hi
   have hns := zmx F l (i + 1)
   rw [hs, List.length_append] at hns
   rw [ziT] at hn
   repeat first|with_reducible refine wV fun _=>?_|simp [go_sem, hi]
   refine zyJ (hF _ (zan hi)) (by simp [go_sem]; exact hb) ?_
   repeat first|with_reducible refine wV fun _=>?_|simp [go_sem, hi]
   refine zyI (hrec (d - 1) (by omega) (i + 1) (by omega)) ?_ (by simp)
   simp [go_sem, zah, hs]
   exact fun c hc => (hb c hc).mono (Nat.zero_le _)
  ·have hil : i = l.length := by omega
   subst hil
   generalize zpy F l l.length = R at *
   repeat first|with_reducible refine wV fun _=>?_|simp [go_sem]
   (first|done|exact leX)
 ·simp
 ·simp [go_sem, zah, znV]
  exact fun c hc => (hb c hc).mono (Nat.zero_le _)
 ·simp
theorem zsh (l : List zaZ) (hl : l.length ≤ 1073741824) (f : FuncId) (caps : List AV) (F : zaZ → List zaZ) (hF : ∀ x ∈ l, zaC Tryz.prog f (.agg (zap x) :: caps) (zaU (F x))) (hb : ∀ c ∈ caps, Bel 0 c)
  (hn : (l.flatMap F).length ≤ 8589934592) : zaC Tryz.prog 190 [zaU l, .fn (.func f) [] caps] (zaU (l.flatMap F)) := by
 refine pF Tryz.func190 ?_
 rw [← ziT F l] at hn ⊢
 repeat first|with_reducible refine wV fun _=>?_|simp [go_sem]
 refine zyI (zyN (α := Nat) (fun i => ⟨[(1, .fn (.func f) [] caps), (5, .sl 0 i 2 0 (zpy F l i).length), (8, zaU l), (9, .v (.int .i64 l.length)), (10, .v (.int .i64 i))], [(0, .rows true i 2 ((zpy F l i).map zap))], 1⟩)
  (fun d i => i + d = l.length) ?_ l.length 0 ?_) ?_ ?_
 ·rintro d i i1 hrec
  have hni := zmx F l i
  repeat first|with_reducible refine wV fun _=>?_|simp [go_sem]
  refine zyK (fun hi => ?_) (fun hi => ?_) <;> simp at hi
  ·have hs := znU F l hi
   have hns := zmx F l (i + 1)
   rw [hs, List.length_append] at hns
   rw [ziT] at hn
   repeat first|with_reducible refine wV fun _=>?_|simp [go_sem, hi]
   refine zyJ (hF _ (zan hi)) (by simp [go_sem]; exact hb) ?_
   repeat first|with_reducible refine wV fun _=>?_|simp [go_sem, hi]
   refine zyI (hrec (d - 1) (by omega) (i + 1) (by omega)) ?_ (by simp)
   simp [go_sem, zah, hs]
   exact fun c hc => (hb c hc).mono (Nat.zero_le _)
  ·have hil : i = l.length := by omega
   subst hil
   generalize zpy F l l.length = R at *
   repeat first|with_reducible refine wV fun _=>?_|simp [go_sem]
   (first|done|exact leX)
 ·simp
 ·simp [go_sem, zah, znV]
  exact fun c hc => (hb c hc).mono (Nat.zero_le _)
 ·simp
theorem zpY (b : zaL) (hb : za2 b) (h9 : b.cells ≤ 9) (side : Int) (p : zaZ) (hp : p.acts.length ≤ 1000000) (x : Int × Int) :
  zaC Tryz.prog 191 [.agg (zap p), .fp (zde b), .fp [.v (.int .i64 side)], .fp [.v (.int .i64 x.1), .v (.int .i64 x.2)]] (zaU (ziS b side p x)) := by
 refine pF Tryz.func191 ?_
 have hE := zpw b hb h9 side p hp x
 generalize ziS b side p x = R at *
 repeat first|with_reducible refine wV fun _=>?_|simp [go_sem]
 refine zyJ hE (by simp [go_sem]) ?_
 repeat first|with_reducible refine wV fun _=>?_|simp [go_sem]
def zdD (b : zaL) (side : Int) (prog : List (Int × Int)) (cell : Int) (i : Nat) : List zaZ := zbB b side (prog.take i) cell
theorem zgD (b : zaL) (side : Int) (prog : List (Int × Int)) (cell : Int) {i : Nat} (h : i < prog.length) : zdD b side prog cell (i + 1) = (zdD b side prog cell i).flatMap fun w => ziS b side w (nth prog i) := by
 unfold zdD zbB
 rw [List.take_add_one, List.getElem?_eq_getElem h, zaJ _ _ h, Option.toList_some, List.foldl_append]
 rfl
theorem ze8 {b : zaL} (hb : za2 b) (h9 : b.cells ≤ 9) (side : Int) (prog : List (Int × Int)) (cell : Int) : ∀ i, i ≤ prog.length → zh6 (10 * i) (zdD b side prog cell i)
 | 0, _ => by
  intro w hw
  simp [zdD, zbB] at hw
  subst hw
  simp
 | i + 1, h => by
  rw [zgD b side prog cell (by omega)]
  exact zsW hb h9 side (ze8 hb h9 side prog cell i (by omega)) _
theorem zhX {b : zaL} (hb : za2 b) (h1 : 1 ≤ b.cells) (h9 : b.cells ≤ 9) (side : Int) (prog : List (Int × Int)) (hp : prog.length ≤ 8) (cell : Int) (i : Nat) : (zdD b side prog cell i).length ≤ 43046721 := by
 have h := zhY hb h1 side (prog.take i) cell
 have hc : zaI (prog.take i) 2 ≤ 8 := by
  unfold zaI
  have := List.countP_le_length (p := fun x : Int × Int => x.1 == 2) (l := prog.take i)
  simp at this
  omega
 have h2 : b.cells.toNat ^ zaI (prog.take i) 2 ≤ 9 ^ zaI (prog.take i) 2 := Nat.pow_le_pow_left (by omega) _
 have h3 : 9 ^ zaI (prog.take i) 2 ≤ 9 ^ 8 := Nat.pow_le_pow_right (by omega) hc
 unfold zdD
 omega
theorem zsI (b : zaL) (hb : za2 b) (h1 : 1 ≤ b.cells) (h9 : b.cells ≤ 9) (side : Int) (prog : List (Int × Int)) (hp : prog.length ≤ 8) (cell : Int) :
  zaC Tryz.prog 148 [.agg (zde b), .v (.int .i64 side), zar prog, .v (.int .i64 cell)] (zaU (zbB b side prog cell)) := by
 refine pF Tryz.func148 ?_
 have hR : zbB b side prog cell = zdD b side prog cell prog.length := by unfold zdD; rw [List.take_length]
 have hl := zhX hb h1 h9 side prog hp cell
 have ha := ze8 hb h9 side prog cell
 have hs := fun (i : Nat) (h : i < prog.length) => zgD b side prog cell h
 have h0 : zdD b side prog cell 0 = [⟨[], cell⟩] := rfl
 rw [hR]
 have hP := fun w hw x => zpY b hb h9 side w hw x
 generalize zdD b side prog cell = K at *
 generalize hXb : ziS b side = E at *
 have hbl : ∀ n, (∀ c' ∈ zde b, Bel n c') = True := fun n => by simp [go_sem]
 have hel : (zde b).length = 3 := rfl
 have hte : (zde b).take 3 = zde b := rfl
 obtain ⟨eb, heb⟩ : ∃ eb, eb = zde b := ⟨_, rfl⟩
 rw [← heb] at hbl hel hte ⊢
 have hP' : ∀ w : zaZ, w.acts.length ≤ 1000000 → ∀ x : Int × Int, zaC Tryz.prog 191 [.agg (zap w), .fp eb, .fp [.v (.int .i64 side)], .fp [.v (.int .i64 x.1), .v (.int .i64 x.2)]] (zaU (E w x)) := fun w hw x => by rw [heb]; exact hP w hw x
 clear hP
 repeat first|with_reducible refine wV fun _=>?_|simp [go_sem, hel, hte]
 refine zyI (zyN (α := Nat) (fun i => ⟨[(4, .ref 0 0 3 0 0), (5, .ref 1 0 1 0 0), (9, zaU (K i)), (15, zar prog), (16, .v (.int .i64 prog.length)), (17, .v (.int .i64 i))], [(0, .rows false 0 3 [eb]), (1, .rows false 0 1 [[.v (.int .i64 side)]])], 2⟩)
  (fun d i => i + d = prog.length) ?_ prog.length 0 ?_) ?_ ?_
 ·rintro d i i1 hrec
  have hli := hl i
  repeat first|with_reducible refine wV fun _=>?_|simp [go_sem, hel, hte]
  refine zyK (fun hi => ?_) (fun hi => ?_) <;> simp at hi
  ·have hsi := hs i hi
   have hls := hl (i + 1)
   have hai := ha i (by omega)
   repeat first|with_reducible refine wV fun _=>?_|simp [go_sem, hel, hte, hi]
   refine zyP [2] (zsh (K i) (by omega) 191 [.fp eb, .fp [.v (.int .i64 side)], .fp [.v (.int .i64 (nth prog i).1), .v (.int .i64 (nth prog i).2)]] (fun w => E w (nth prog i)) (fun w hw => hP' w (by have := hai w hw; omega) _) (by simp [go_sem, hbl]) (by rw [← hsi]; omega)) ?_ (by simp [go_sem, hbl]) ?_
   ·(first|done|exact leX)
   ·rw [← hsi]
    repeat first|with_reducible refine wV fun _=>?_|simp [go_sem, hel, hte]
    refine zyI (hrec (d - 1) (by omega) (i + 1) (by omega)) ?_ (by simp)
    simp [go_sem, zah, hbl]
  ·have hil : i = prog.length := by omega
   subst hil
   generalize K prog.length = R at *
   repeat first|with_reducible refine wV fun _=>?_|simp [go_sem]
 ·simp
 ·simp [go_sem, zah, h0, hbl]
  (first|done|exact leX)
 ·simp
theorem zmp (g : zaf) (hg : GOk g) (side : Int) (cell : Int) (prog : List (Int × Int)) (hp : prog.length ≤ 8) :
    zaC Tryz.prog 147 [zar prog, .fp (zab g), .fp [.v (.int .i64 side)], .fp [.v (.int .i64 cell)]] (zaU (zbB g.board side prog cell)) := by
  refine pF Tryz.func147 ?_
  have hP := zsI g.board hg.board hg.c1 hg.c9 side prog hp cell
  generalize zbB g.board side prog cell = R at *
  rw [show zde g.board = [.v (.int .i64 g.cells), zcr g.next, zas g.turn] from rfl] at hP
  repeat first|with_reducible refine wV fun _=>?_|simp [go_sem]
  refine zyJ hP (by simp [go_sem]) ?_
  repeat first|with_reducible refine wV fun _=>?_|simp [go_sem]
def zhL (f : Nat → List AV) (z : List AV) (n c : Nat) : List (List AV) := (List.range n).map fun i => if i < c then f i else z
theorem znR (f : Nat → List AV) (z : List AV) (n c : Nat) : (zhL f z n c).length = n := by simp [zhL]
theorem zlo (f : Nat → List AV) (z : List AV) (n : Nat) : List.replicate n z = zhL f z n 0 := by
  unfold zhL
  refine List.ext_getElem (by simp) fun i h1 h2 => ?_
  simp
theorem znS (f : Nat → List AV) (z : List AV) (n c : Nat) : (zhL f z n c).set c (f c) = zhL f z n (c + 1) := by
  unfold zhL
  refine List.ext_getElem (by simp) fun i h1 h2 => ?_
  simp only [List.getElem_set, List.getElem_map, List.getElem_range]
  by_cases h : c = i
  · subst h; simp
  · rw [if_neg h]
    by_cases hi : i < c
    · rw [if_pos hi, if_pos (by omega)]
    · rw [if_neg hi, if_neg (by omega)]
theorem znQ (f : Nat → List AV) (z : List AV) (n : Nat) : zhL f z n n = (List.range n).map f := by
  unfold zhL
  refine List.map_congr_left fun i hi => ?_
  rw [if_pos (List.mem_range.1 hi)]
theorem zg6 {f : Nat → List AV} {z : List AV} {n c m : Nat} (hf : ∀ i, ∀ x ∈ f i, Bel m x) (hz : ∀ x ∈ z, Bel m x) : ∀ r ∈ zhL f z n c, ∀ x ∈ r, Bel m x := by
  intro r hr x hx
  unfold zhL at hr
  obtain ⟨i, _, rfl⟩ := List.mem_map.1 hr
  split at hx
  · exact hf i x hx
  · exact hz x hx
theorem zqP (h : zav) (o : Nat) (x : Option zbz) : zaK (upd h o x) [o] = upd h o (zaR x) := by
  funext a
  unfold zaK upd
  by_cases e : a = o
  · subst e; simp
  · simp [e]
def zh2 (g : zaf) (side : Int) (j : Nat) : List (List (List zaZ)) := (g.kinds.take j).map fun k => zfu g.board side k.progs
theorem zlX (g : zaf) (side : Int) {j : Nat} (h : j < g.kinds.length) : zh2 g side (j + 1) = zh2 g side j ++ [zfu g.board side (nth g.kinds j).progs] := by
  unfold zh2
  rw [List.take_add_one, List.getElem?_eq_getElem h, zaJ _ _ h, Option.toList_some, List.map_append]
  rfl
theorem zoA (g : zaf) (side : Int) : zh2 g side g.kinds.length = zby g side := by unfold zh2 zby; rw [List.take_length]
theorem zlY (g : zaf) (side : Int) : zh2 g side 0 = [] := by simp [zh2]
theorem zkk (g : zaf) (side : Int) {j : Nat} (h : j ≤ g.kinds.length) : (zh2 g side j).length = j := by simp [zh2]; omega
theorem zfG {g : zaf} (hg : GOk g) (side : Int) {k : zgp} (hk : k ∈ g.kinds) (cell : Int) : (zbu g.board side k.progs cell).length ≤ 8589934592 := by
  have h := zhM (fun p => zbB g.board side p cell) 43046721 k.progs (fun p hp => by
    have := zhX hg.board hg.c1 hg.c9 side p (hg.pr k hk p hp).len cell p.length
    unfold zdD at this
    rwa [List.take_length] at this)
  have := hg.pn k hk
  have h2 : k.progs.length * 43046721 ≤ 8 * 43046721 := Nat.mul_le_mul_right _ this
  unfold zbu
  omega
theorem zhP {g : zaf} (hg : GOk g) (s : Int) {k : zgp} (hk : k ∈ g.kinds) (c : Int) : zh6 1048576 (zbu g.board s k.progs c) := by
  intro w hw
  obtain ⟨p, hp, hw⟩ := List.mem_flatMap.1 hw
  have := ze8 hg.board hg.c9 s p c p.length (Nat.le_refl _) w (by unfold zdD; rwa [List.take_length])
  have := (hg.pr k hk p hp).len
  omega
theorem zh9 (g : zaf) (hg : GOk g) : zaC Tryz.prog 80 [.agg (zab g)] (.agg (zbj (zbD g))) := by
  refine pF Tryz.func80 ?_
  have hc9 := hg.c9
  have hc1 := hg.c1
  have hk6 := hg.k6
  have hF := fun (s : Int) (c : Int) (k : zgp) (hk : k ∈ g.kinds) => zsi k.progs (by have := hg.pn k hk; omega) 147 [.fp (zab g), .fp [.v (.int .i64 s)], .fp [.v (.int .i64 c)]] (fun p => zbB g.board s p c)
    (fun p hp => zmp g hg s c p (hg.pr k hk p hp).len) (by simp [go_sem]) (zfG hg s hk c)
  have hkb : ∀ (s : Int) (k : zgp) (c : Nat), c < g.cells.toNat → True := fun _ _ _ _ => trivial
  have hR : zbj (zbD g) = [za9 (zby g 0), za9 (zby g 1)] := rfl
  rw [hR]
  clear hR
  have hsk := fun (s : Int) (j : Nat) (h : j < g.kinds.length) => zlX g s h
  have hsa := fun s => zoA g s
  have hsz := fun s => zlY g s
  have hsl := fun (s : Int) (j : Nat) (h : j ≤ g.kinds.length) => zkk g s h
  obtain ⟨C, hC⟩ : ∃ C : Nat, g.cells = C := ⟨g.cells.toNat, by omega⟩
  have hcells : ∀ (s : Int) (j : Nat), zfu g.board s (nth g.kinds j).progs = (List.range C).map fun (c : Nat) => zbu g.board s (nth g.kinds j).progs c := fun s j => by
    unfold zfu
    rw [show g.board.cells.toNat = C by have : g.board.cells = g.cells := rfl; omega]
  generalize zh2 g = K at *
  have heg : zab g = [.v (.int .i64 (C : Int)), zcr g.next, zas g.turn, .lst 3 (g.kinds.map zaY), .v (.int .i64 g.rights), .v (.bool g.must), .lst 4 (g.clauses.map za6), .v (.int .i64 g.blocked), .v (.int .i64 g.endless)] := by rw [← hC]; rfl
  rw [heg] at hF
  have hbl : ∀ n, (∀ c' ∈ zab g, Bel n c') = True := fun n => by simp [go_sem]
  have hel : (zab g).length = 9 := rfl
  repeat first|with_reducible refine wV fun _=>?_|simp [go_sem, hel]
  refine zyI (zyN (α := Nat) (fun s => ⟨[(1, .ref 0 0 9 0 0), (2, .ref 1 0 2 0 0), (3, .ref 2 0 2 0 0), (9, .v (.int .i64 s))],
      [(0, .rows false 0 9 [zab g]), (1, .rows true 0 2 [[AV.v (.slice none 0 0), AV.v (.slice none 0 0)]]), (2, .rows true 0 2 [[if s = 0 then AV.v (.slice none 0 0) else za9 (zby g 0), if s < 2 then AV.v (.slice none 0 0) else za9 (zby g 1)]])], 3⟩)
    (fun d s => s + d = 2) ?_ 2 0 ?_) ?_ ?_
  · rintro d0 s s1 hrec
    rcases (show s = 0 ∨ s = 1 ∨ s = 2 by omega) with rfl | rfl | rfl
    · have hFs := hF 0
      have hsk := hsk 0
      have hsa := hsa 0
      have hsz := hsz 0
      have hsl := hsl 0
      have hcells := hcells 0
      repeat first|with_reducible refine wV fun _=>?_|simp [go_sem, hel, hC]
      refine zyI (zyN (α := Nat) (fun j => ⟨[(1, .ref 0 0 9 0 0), (2, .ref 1 0 2 0 0), (3, .ref 2 0 2 0 0), (4, .ref 3 0 1 0 0), (9, .v (.int .i64 0)), (13, .lst 3 (g.kinds.map zaY)), (14, .v (.int .i64 g.kinds.length)), (15, .v (.int .i64 j))],
          [(0, .rows false 0 9 [zab g]), (1, .rows true 0 2 [[AV.v (.slice none 0 0), AV.v (.slice none 0 0)]]), (2, .rows true 0 2 [[.sl 4 j 1 0 j, AV.v (.slice none 0 0)]]), (3, .rows false 0 1 [[.v (.int .i64 0)]]), (4, .rows true j 1 ((K 0 j).map fun x => [zbx x]))], 5⟩)
        (fun d j => j + d = g.kinds.length) ?_ g.kinds.length 0 ?_) ?_ ?_
      · rintro d j j1 hrec2
        have hlj := hsl j (by omega)
        repeat first|with_reducible refine wV fun _=>?_|simp [go_sem, hel, hC, hlj]
        refine zyK (fun hj => ?_) (fun hj => ?_) <;> simp at hj
        · have hkm := zan hj
          have hpn := hg.pn _ hkm
          have hFk := fun (c : Nat) => hFs c _ hkm
          have hsj := hsk j hj
          have hcj := hcells j
          have hlj1 := hsl (j + 1) (by omega)
          have hkp : ∀ c : Int, (nth g.kinds j).progs.flatMap (fun p => zbB g.board 0 p c) = zbu g.board 0 (nth g.kinds j).progs c := fun c => rfl
          simp only [hkp] at hFk
          generalize zbu g.board 0 (nth g.kinds j).progs = KP at *
          repeat first|with_reducible refine wV fun _=>?_|simp [go_sem, hel, hC, hj]
          rw [zlo (fun (i : Nat) => [.lst 2 ((KP i).map zap)])]
          refine zyI (zyN (α := Nat) (fun c => ⟨[(1, .ref 0 0 9 0 0), (2, .ref 1 0 2 0 0), (3, .ref 2 0 2 0 0), (4, .ref 3 0 1 0 0), (6, .ref 5 0 3 0 0), (7, .sl 6 0 1 0 C), (9, .v (.int .i64 0)), (13, .lst 3 (g.kinds.map zaY)), (14, .v (.int .i64 g.kinds.length)), (15, .v (.int .i64 j)), (24, .v (.int .i64 C)), (25, .v (.int .i64 c))],
              [(0, .rows false 0 9 [zab g]), (1, .rows true 0 2 [[AV.v (.slice none 0 0), AV.v (.slice none 0 0)]]), (2, .rows true 0 2 [[.sl 4 j 1 0 j, AV.v (.slice none 0 0)]]), (3, .rows false 0 1 [[.v (.int .i64 0)]]), (4, .rows true j 1 ((K 0 j).map fun x => [zbx x])),
               (5, .rows true 0 3 [zaY (nth g.kinds j)]), (6, .rows true 0 1 (zhL (fun (i : Nat) => [.lst 2 ((KP i).map zap)]) [AV.v (.slice none 0 0)] C c))], 7⟩)
            (fun d c => c + d = C) ?_ C 0 ?_) ?_ ?_
          · rintro d2 c c1' hrec3
            have hfl := znR (fun (i : Nat) => [.lst 2 ((KP i).map zap)]) [AV.v (.slice none 0 0)] C c
            have hfs := znS (fun (i : Nat) => [.lst 2 ((KP i).map zap)]) [AV.v (.slice none 0 0)] C c
            repeat first|with_reducible refine wV fun _=>?_|simp [go_sem, hel, hC, hlj, hfl]
            refine zyK (fun hc => ?_) (fun hc => ?_) <;> simp at hc
            · (repeat (first|with_reducible (first|refine wL fun _=>?_|refine wD fun _=>?_|refine wE ?_)|simp [go_sem, hel, hC, hj, hfl]))
              refine zoK.frz (zaK _ [7]) (zc5 _ _) ?_
              simp only [zqP]
              repeat first|with_reducible refine wV fun _=>?_|simp [go_sem, hel, hC, hj, hfl]
              refine zay.frz [.lst 1 ((nth g.kinds j).progs.map fun p => [zar p]), _] _ [0, 3, 7] [] (hFk c) (by simp) ?_ (by simp [go_sem]) ?_
              · intro h₁ hS
                have h0 := hS 0 (by simp)
                have h3 := hS 3 (by simp)
                have h7 := hS 7 (by simp)
                simp [upd, zaK, zaR] at h0 h3 h7
                refine .cons (.refl _) (.cons (.fn .nil (.cons (.frzP h0.symm (by simp) (by simp) (by simp [zao, upd, ← h0]) (.refl _ _ _ _)) (.cons (.frzP h3.symm (by simp) (by simp) (by simp [zao, upd, ← h3]) (.refl _ _ _ _)) (.cons (.frzP h7.symm (by simp) (by simp) (by simp [zao, upd, ← h7]) (.refl _ _ _ _)) .nil)))) .nil)
              · (repeat (first|with_reducible refine wV fun _=>?_|simp [go_sem, hel, hC, hj, hfl]))
                refine zyI (hrec3 (d2 - 1) (by omega) (c + 1) (by omega)) ?_ (by simp)
                simp [go_sem, zah, hfs, hC]
                exact zg6 (fun i x hx => by simp only [List.mem_singleton] at hx; subst hx; exact of_eq_true zhB) (fun x hx => by simp only [List.mem_singleton] at hx; subst hx; exact .v _)
            · have hcC : c = C := by omega
              subst hcC
              rw [znQ]
              repeat first|with_reducible refine wV fun _=>?_|simp [go_sem, hel, hC, hj]
              refine zyI (hrec2 (d - 1) (by omega) (j + 1) (by omega)) ?_ (by simp)
              simp [go_sem, zah, hsj, hcj, hC]
              (first|done|exact leX)
          · simp
          · simp [go_sem, zah, hC]
            exact zg6 (fun i x hx => by simp only [List.mem_singleton] at hx; subst hx; exact of_eq_true zhB) (fun x hx => by simp only [List.mem_singleton] at hx; subst hx; exact .v _)
          · simp
        · have hjl : j = g.kinds.length := by omega
          subst hjl
          rw [hsa]
          repeat first|with_reducible refine wV fun _=>?_|simp [go_sem, hel, hC]
          refine zyI (hrec (d0 - 1) (by omega) (1) (by omega)) ?_ (by simp)
          have hsl' : (zby g 0).length = g.kinds.length := by simp [zby]
          simp [go_sem, zah, hC]
          ((try simp only [zar, zau, zaE, zaV, zap, zaU, zat, zal, zad, za3, zaO, zaz, zas, zab, List.map_cons, List.map_nil, List.nil_append, List.append_nil, List.cons_append]); (repeat (first | (with_reducible first|exact zai.nil|exact zae.nil|exact LeV.refl _|exact zai.refl _ _ _ _|exact zae.refl _|refine zai.cons ?_ ?_|refine zae.cons ?_ ?_|refine LeV.agg ?_|refine LeV.tup ?_|refine LeV.fn ?_ ?_|exact LeV.nil _|refine zag (zae.refl _) ?_) | ((refine zam rfl (by simp [hsl']) (by simp [zaK, zaR, upd, noH]) ?_); (first | (simp [go_sem, hsl']; done) | (simp [go_sem, hsl']; exact List.take_of_length_le (by simp [hsl'])))) | ((refine LeV.frz rfl (by simp [hsl']) (by simp [zaK, zaR, upd, noH]) ?_); (simp only [List.drop_zero, List.take_succ_cons, List.take_zero, List.map_cons, List.map_nil])) | ((refine LeV.frzP rfl (by simp [hsl']) (by simp) (by simp [zaK, zaR, upd, noH]) ?_); (simp only [zaw, List.drop_zero])))))
      · simp
      · simp [go_sem, zah, hsz, hC]
      · simp
    · have hFs := hF 1
      have hsk := hsk 1
      have hsa := hsa 1
      have hsz := hsz 1
      have hsl := hsl 1
      have hcells := hcells 1
      repeat first|with_reducible refine wV fun _=>?_|simp [go_sem, hel, hC]
      refine zyI (zyN (α := Nat) (fun j => ⟨[(1, .ref 0 0 9 0 0), (2, .ref 1 0 2 0 0), (3, .ref 2 0 2 0 0), (4, .ref 3 0 1 0 0), (9, .v (.int .i64 1)), (13, .lst 3 (g.kinds.map zaY)), (14, .v (.int .i64 g.kinds.length)), (15, .v (.int .i64 j))],
          [(0, .rows false 0 9 [zab g]), (1, .rows true 0 2 [[AV.v (.slice none 0 0), AV.v (.slice none 0 0)]]), (2, .rows true 0 2 [[za9 (zby g 0), .sl 4 j 1 0 j]]), (3, .rows false 0 1 [[.v (.int .i64 1)]]), (4, .rows true j 1 ((K 1 j).map fun x => [zbx x]))], 5⟩)
        (fun d j => j + d = g.kinds.length) ?_ g.kinds.length 0 ?_) ?_ ?_
      · rintro d j j1 hrec2
        have hlj := hsl j (by omega)
        repeat first|with_reducible refine wV fun _=>?_|simp [go_sem, hel, hC, hlj]
        refine zyK (fun hj => ?_) (fun hj => ?_) <;> simp at hj
        · have hkm := zan hj
          have hpn := hg.pn _ hkm
          have hFk := fun (c : Nat) => hFs c _ hkm
          have hsj := hsk j hj
          have hcj := hcells j
          have hlj1 := hsl (j + 1) (by omega)
          have hkp : ∀ c : Int, (nth g.kinds j).progs.flatMap (fun p => zbB g.board 1 p c) = zbu g.board 1 (nth g.kinds j).progs c := fun c => rfl
          simp only [hkp] at hFk
          generalize zbu g.board 1 (nth g.kinds j).progs = KP at *
          repeat first|with_reducible refine wV fun _=>?_|simp [go_sem, hel, hC, hj]
          rw [zlo (fun (i : Nat) => [.lst 2 ((KP i).map zap)])]
          refine zyI (zyN (α := Nat) (fun c => ⟨[(1, .ref 0 0 9 0 0), (2, .ref 1 0 2 0 0), (3, .ref 2 0 2 0 0), (4, .ref 3 0 1 0 0), (6, .ref 5 0 3 0 0), (7, .sl 6 0 1 0 C), (9, .v (.int .i64 1)), (13, .lst 3 (g.kinds.map zaY)), (14, .v (.int .i64 g.kinds.length)), (15, .v (.int .i64 j)), (24, .v (.int .i64 C)), (25, .v (.int .i64 c))],
              [(0, .rows false 0 9 [zab g]), (1, .rows true 0 2 [[AV.v (.slice none 0 0), AV.v (.slice none 0 0)]]), (2, .rows true 0 2 [[za9 (zby g 0), .sl 4 j 1 0 j]]), (3, .rows false 0 1 [[.v (.int .i64 1)]]), (4, .rows true j 1 ((K 1 j).map fun x => [zbx x])),
               (5, .rows true 0 3 [zaY (nth g.kinds j)]), (6, .rows true 0 1 (zhL (fun (i : Nat) => [.lst 2 ((KP i).map zap)]) [AV.v (.slice none 0 0)] C c))], 7⟩)
            (fun d c => c + d = C) ?_ C 0 ?_) ?_ ?_
          · rintro d2 c c1' hrec3
            have hfl := znR (fun (i : Nat) => [.lst 2 ((KP i).map zap)]) [AV.v (.slice none 0 0)] C c
            have hfs := znS (fun (i : Nat) => [.lst 2 ((KP i).map zap)]) [AV.v (.slice none 0 0)] C c
            repeat first|with_reducible refine wV fun _=>?_|simp [go_sem, hel, hC, hlj, hfl]
            refine zyK (fun hc => ?_) (fun hc => ?_) <;> simp at hc
            · (repeat (first|with_reducible (first|refine wL fun _=>?_|refine wD fun _=>?_|refine wE ?_)|simp [go_sem, hel, hC, hj, hfl]))
              refine zoK.frz (zaK _ [7]) (zc5 _ _) ?_
              simp only [zqP]
              repeat first|with_reducible refine wV fun _=>?_|simp [go_sem, hel, hC, hj, hfl]
              refine zay.frz [.lst 1 ((nth g.kinds j).progs.map fun p => [zar p]), _] _ [0, 3, 7] [] (hFk c) (by simp) ?_ (by simp [go_sem]) ?_
              · intro h₁ hS
                have h0 := hS 0 (by simp)
                have h3 := hS 3 (by simp)
                have h7 := hS 7 (by simp)
                simp [upd, zaK, zaR] at h0 h3 h7
                refine .cons (.refl _) (.cons (.fn .nil (.cons (.frzP h0.symm (by simp) (by simp) (by simp [zao, upd, ← h0]) (.refl _ _ _ _)) (.cons (.frzP h3.symm (by simp) (by simp) (by simp [zao, upd, ← h3]) (.refl _ _ _ _)) (.cons (.frzP h7.symm (by simp) (by simp) (by simp [zao, upd, ← h7]) (.refl _ _ _ _)) .nil)))) .nil)
              · (repeat (first|with_reducible refine wV fun _=>?_|simp [go_sem, hel, hC, hj, hfl]))
                refine zyI (hrec3 (d2 - 1) (by omega) (c + 1) (by omega)) ?_ (by simp)
                simp [go_sem, zah, hfs, hC]
                exact zg6 (fun i x hx => by simp only [List.mem_singleton] at hx; subst hx; exact of_eq_true zhB) (fun x hx => by simp only [List.mem_singleton] at hx; subst hx; exact .v _)
            · have hcC : c = C := by omega
              subst hcC
              rw [znQ]
              repeat first|with_reducible refine wV fun _=>?_|simp [go_sem, hel, hC, hj]
              refine zyI (hrec2 (d - 1) (by omega) (j + 1) (by omega)) ?_ (by simp)
              simp [go_sem, zah, hsj, hcj, hC]
              (first|done|exact leX)
          · simp
          · simp [go_sem, zah, hC]
            exact zg6 (fun i x hx => by simp only [List.mem_singleton] at hx; subst hx; exact of_eq_true zhB) (fun x hx => by simp only [List.mem_singleton] at hx; subst hx; exact .v _)
          · simp
        · have hjl : j = g.kinds.length := by omega
          subst hjl
          rw [hsa]
          repeat first|with_reducible refine wV fun _=>?_|simp [go_sem, hel, hC]
          refine zyI (hrec (d0 - 1) (by omega) (2) (by omega)) ?_ (by simp)
          have hsl' : (zby g 1).length = g.kinds.length := by simp [zby]
          simp [go_sem, zah, hC]
          ((try simp only [zar, zau, zaE, zaV, zap, zaU, zat, zal, zad, za3, zaO, zaz, zas, zab, List.map_cons, List.map_nil, List.nil_append, List.append_nil, List.cons_append]); (repeat (first | (with_reducible first|exact zai.nil|exact zae.nil|exact LeV.refl _|exact zai.refl _ _ _ _|exact zae.refl _|refine zai.cons ?_ ?_|refine zae.cons ?_ ?_|refine LeV.agg ?_|refine LeV.tup ?_|refine LeV.fn ?_ ?_|exact LeV.nil _|refine zag (zae.refl _) ?_) | ((refine zam rfl (by simp [hsl']) (by simp [zaK, zaR, upd, noH]) ?_); (first | (simp [go_sem, hsl']; done) | (simp [go_sem, hsl']; exact List.take_of_length_le (by simp [hsl'])))) | ((refine LeV.frz rfl (by simp [hsl']) (by simp [zaK, zaR, upd, noH]) ?_); (simp only [List.drop_zero, List.take_succ_cons, List.take_zero, List.map_cons, List.map_nil])) | ((refine LeV.frzP rfl (by simp [hsl']) (by simp) (by simp [zaK, zaR, upd, noH]) ?_); (simp only [zaw, List.drop_zero])))))
      · simp
      · simp [go_sem, zah, hsz, hC]
      · simp
    · (repeat (first|with_reducible refine wV fun _=>?_|simp [go_sem]))
  · simp
  · simp [go_sem, zah]
  · simp


structure zmb (g : zaf) (c : zl6) : Prop where
 l1 : c.1.length = g.kinds.length
 l2 : c.2.length = g.kinds.length
 c1 : ∀ x ∈ c.1, (x.length : Int) = g.cells
 c2 : ∀ x ∈ c.2, (x.length : Int) = g.cells
theorem zmb.side {g : zaf} {c : zl6} (h : zmb g c) {s : Nat} (hs : s < 2) : ∃ l, cel [za9 c.1, za9 c.2] s = za9 l ∧ l.length = g.kinds.length ∧ ∀ x ∈ l, (x.length : Int) = g.cells := by
 rcases (show s = 0 ∨ s = 1 by omega) with rfl | rfl
 ·exact ⟨_, rfl, h.l1, h.c1⟩
 ·exact ⟨_, rfl, h.l2, h.c2⟩
theorem zp5 {g : zaf} (hg : GOk g) : zmb g (zbD g) := by
 have h : ∀ s, ∀ x ∈ zby g s, (x.length : Int) = g.cells := by
  intro s x hx
  obtain ⟨k, _, rfl⟩ := List.mem_map.1 hx
  have : g.board.cells = g.cells := rfl
  have := hg.c1
  simp [zfu]
  omega
 exact ⟨by simp [zbD, zby], by simp [zbD, zby], h 0, h 1⟩
theorem zoB (g : zaf) (s : Int) {k c : Nat} (hk : k < g.kinds.length) (hc : c < g.cells.toNat) : nth (nth (zby g s) k) c = zbu g.board s (nth g.kinds k).progs c := by
 unfold zby
 rw [zbb _ _ _ hk]
 have hc' : c < (List.range g.board.cells.toNat).length := by rw [List.length_range]; exact hc
 show nth ((List.range g.board.cells.toNat).map fun (c : Nat) => zbu g.board s (nth g.kinds k).progs c) c = _
 rw [zbb _ _ _ hc', zaJ _ _ hc', List.getElem_range]
structure FitC (g : zaf) (c : zl6) : Prop where
 sh : zmb g c
 len : ∀ l ∈ c.1 ++ c.2, ∀ x ∈ l, x.length ≤ 1099511627776 ∧ zh6 1048576 x
theorem zjK {g : zaf} (hg : GOk g) : FitC g (zbD g) := by
 refine ⟨zp5 hg, ?_⟩
 have h : ∀ s, ∀ l ∈ zby g s, ∀ x ∈ l, x.length ≤ 1099511627776 ∧ zh6 1048576 x := by
  intro s l hl x hx
  obtain ⟨k, hk, rfl⟩ := List.mem_map.1 hl
  obtain ⟨c, _, rfl⟩ := List.mem_map.1 hx
  exact ⟨by have := zfG hg s hk (c : Nat); omega, zhP hg s hk _⟩
 intro l hl
 rcases List.mem_append.1 hl with hl | hl
 ·exact h 0 l hl
 ·exact h 1 l hl
theorem FitC.side {g : zaf} {c : zl6} (h : FitC g c) {s : Nat} (hs : s < 2) : ∃ l, cel [za9 c.1, za9 c.2] s = za9 l ∧ l.length = g.kinds.length ∧ (∀ x ∈ l, (x.length : Int) = g.cells) ∧ ∀ x ∈ l, ∀ y ∈ x, y.length ≤ 1099511627776 ∧ zh6 1048576 y := by
 rcases (show s = 0 ∨ s = 1 by omega) with rfl | rfl
 ·exact ⟨_, rfl, h.sh.l1, h.sh.c1, fun x hx => h.len x (by simp [hx])⟩
 ·exact ⟨_, rfl, h.sh.l2, h.sh.c2, fun x hx => h.len x (by simp [hx])⟩
theorem zsq (d e k r : Int) (i : Nat) : zaI (nth (zoL d e k r) i) 2 ≤ 1 := by
 rcases Nat.lt_or_ge i 16 with h | h
 ·have : ∀ p ∈ zoL d e k r, zaI p 2 ≤ 1 := by
   intro p hp
   simp only [zoL, List.mem_cons, List.not_mem_nil, or_false] at hp
   rcases hp with rfl | rfl | rfl | rfl | rfl | rfl | rfl | rfl | rfl | rfl | rfl | rfl | rfl | rfl | rfl | rfl <;> simp [zaI]
  exact this _ (zan h)
 ·have e : nth (zoL d e k r) i = [] := by
   unfold nth
   rw [List.getD_eq_getElem?_getD, List.getElem?_eq_none (by exact h)]; rfl
  rw [e]
  simp [zaI]
theorem zse {dirs kinds rights : Int} {p : List (Int × Int)} (h : zaI p 2 ≤ 1) : zaI (zxm dirs kinds rights p) 2 ≤ 1 := by
 unfold zxm
 split
 ·simp [zaI]
 ·exact Nat.le_trans (zfD 2 p) h
theorem zdq (x : zgr) : zbg (zfm x) := by
 intro k hk p hp
 obtain ⟨i, _, rfl⟩ := List.mem_map.1 hk
 obtain ⟨n, _, rfl⟩ := List.mem_map.1 hp
 exact zse (zsq _ _ _ _ _)
def znq (n : Nat) : AV := .fn (.func 201) [] [.ref (n + 1) 0 2 0 0, .ref (n + 3) 0 1 0 0, .ref (n + 2) 0 5 0 0, .ref n 0 9 0 0]
theorem zrZ (g : zaf) (c : zl6) (p : zaj) (hs : p.side = 0 ∨ p.side = 1) : zgf Tryz.prog 162 [.agg (zab g), .agg (zbj c), .agg (zad p)] znq (fun n => [(n, .rows true 0 9 [zab g]), (n + 1, .rows true 0 2 [zbj c]), (n + 2, .rows true 0 5 [zad p]), (n + 3, .rows true 0 1 [[.v (.int .i64 (1 - p.side))]])]) 4 := by
 refine ⟨?_, fun n => ⟨by simp [go_sem, znq], by simp [go_sem]⟩⟩
 refine zyL (by kernel_rfl) Tryz.func162 rfl rfl (Nat.le_of_ble_eq_true rfl) (by kernel_rfl) ?_
 repeat first|with_reducible refine wV fun _=>?_|simp [go_sem, znq]
 simp [go_sem, zah]

def cKd (g : zaf) (sd : Int) (p : zaj) (k : Nat) : List zaj := ((List.range g.kinds.length).drop k).flatMap (fun (k : Nat) => (List.range g.cells.toNat).flatMap fun (c : Nat) => (zbu g.board sd (nth g.kinds k).progs c).flatMap (zft g sd p k c)) ++ zgt g sd p
def cCl (g : zaf) (sd : Int) (p : zaj) (k c : Nat) : List zaj := ((List.range g.cells.toNat).drop c).flatMap (fun (c : Nat) => (zbu g.board sd (nth g.kinds k).progs c).flatMap (zft g sd p k c)) ++ cKd g sd p (k + 1)
def cPt (g : zaf) (sd : Int) (p : zaj) (k c i : Nat) : List zaj := ((zbu g.board sd (nth g.kinds k).progs c).drop i).flatMap (zft g sd p k c) ++ cCl g sd p k (c + 1)
theorem zgu {n j : Nat} (h : j < n) : (List.range n).drop j = j :: (List.range n).drop (j + 1) := by
 rw [List.drop_eq_getElem_cons (by simpa using h)]; simp
theorem zxi {g : zaf} {sd : Int} {p : zaj} {k : Nat} (h : k < g.kinds.length) : cKd g sd p k = cCl g sd p k 0 := by
 unfold cCl cKd
 rw [zgu h, List.flatMap_cons, List.append_assoc]
 rfl
theorem ztM {g : zaf} {sd : Int} {p : zaj} : cKd g sd p g.kinds.length = zgt g sd p := by
 unfold cKd
 rw [List.drop_eq_nil_of_le (by simp)]
 rfl
theorem zxh {g : zaf} {sd : Int} {p : zaj} {k c : Nat} (h : c < g.cells.toNat) : cCl g sd p k c = cPt g sd p k c 0 := by
 unfold cPt cCl
 rw [zgu h, List.flatMap_cons, List.append_assoc]
 rfl
theorem ztL {g : zaf} {sd : Int} {p : zaj} {k : Nat} : cCl g sd p k g.cells.toNat = cKd g sd p (k + 1) := by
 unfold cCl
 rw [List.drop_eq_nil_of_le (by simp)]
 rfl
theorem zxj {g : zaf} {sd : Int} {p : zaj} {k c i : Nat} (h : i < (zbu g.board sd (nth g.kinds k).progs c).length) : cPt g sd p k c i = zft g sd p k c (nth (zbu g.board sd (nth g.kinds k).progs c) i) ++ cPt g sd p k c (i + 1) := by
 unfold cPt
 rw [List.drop_eq_getElem_cons h, ← zaJ _ _ h, List.flatMap_cons, List.append_assoc]
theorem ztN {g : zaf} {sd : Int} {p : zaj} {k c : Nat} : cPt g sd p k c (zbu g.board sd (nth g.kinds k).progs c).length = cCl g sd p k (c + 1) := by
 unfold cPt
 rw [List.drop_eq_nil_of_le (Nat.le_refl _)]
 rfl
def cDr (g : zaf) (sd : Int) (p : zaj) (c : Nat) : List zaj := (((List.range p.at_.length).drop c).filter fun c => decide ((zaq (nth p.at_ c)).2 = sd) && (nth g.kinds (zaq (nth p.at_ c)).1.toNat).keep).map (ziF sd p)
theorem zv3 (g : zaf) (sd : Int) (p : zaj) : cDr g sd p 0 = zgt g sd p := rfl
theorem cDr_go {g : zaf} {sd : Int} {p : zaj} {c : Nat} (h : c < p.at_.length) : cDr g sd p c = if (zaq (nth p.at_ c)).2 = sd ∧ (nth g.kinds (zaq (nth p.at_ c)).1.toNat).keep = true then ziF sd p c :: cDr g sd p (c + 1) else cDr g sd p (c + 1) := by
 unfold cDr
 rw [zgu h, List.filter_cons]
 by_cases h1 : (zaq (nth p.at_ c)).2 = sd ∧ (nth g.kinds (zaq (nth p.at_ c)).1.toNat).keep = true
 ·rw [if_pos h1, if_pos (by simp [h1.1, h1.2])]
  rfl
 ·rw [if_neg h1, if_neg (by
   intro h2
   rw [Bool.and_eq_true, decide_eq_true_eq] at h2
   exact h1 h2)]
theorem zxU (g : zaf) (sd : Int) (p : zaj) : cDr g sd p p.at_.length = [] := by
 unfold cDr
 rw [List.drop_eq_nil_of_le (by simp)]
 rfl
theorem ztP (g : zaf) (hg : GOk g) (p : zaj) (hp : POk g p) (sd : Int) (hsd : sd = 0 ∨ sd = 1) :
  zm4 Tryz.prog 201 [.fp (zbj (zbD g)), .fp [.v (.int .i64 sd)], .fp (zad p), .fp (zab g)] 0 ((zeW g sd p ++ zgt g sd p).map zcx) := by
 refine zy3 (by kernel_rfl) Tryz.func201 rfl rfl (Nat.le_of_ble_eq_true rfl) (by kernel_rfl) (fun l => ?_) (hm2 := by decide)
 have hgh : ∀ (n : Nat) (L : List zaj), Bel n (zbh l 0 (L.map zcx)) = True := fun n (L : List zaj) => eq_true ztH
 have hf := hp.fits hg
 have hal := hp.al
 have c9 := hg.c9
 have c1 := hg.c1
 have k6 := hg.k6
 obtain ⟨cn, hcn⟩ : ∃ cn : Nat, cn = g.cells.toNat := ⟨_, rfl⟩
 have hF := zjK hg
 have hegl : (zab g).length = 9 := rfl
 have hegk : cel (zab g) 3 = .lst 3 (g.kinds.map zaY) := rfl
 have hegb : ∀ n, (∀ c ∈ zab g, Bel n c) = True := fun n => by simp [go_sem]
 have hcl : (zbj (zbD g)).length = 2 := rfl
 have hcs : cel ((zbj (zbD g)).drop sd.toNat) 0 = za9 (zby g sd) := by rcases hsd with rfl | rfl <;> rfl
 have hsl : (zby g sd).length = g.kinds.length := by
  rcases hsd with rfl | rfl
  ·exact hF.sh.l1
  ·exact hF.sh.l2
 have hz : zeW g sd p ++ zgt g sd p = cKd g sd p 0 := rfl
 rw [hz]
 have hecb : ∀ n, (∀ c ∈ zbj (zbD g), Bel n c) = True := fun n => by simp [go_sem]
 generalize zbj (zbD g) = ec at *
 obtain ⟨ck, hck⟩ : ∃ ck : Nat → List (List AV), ∀ k, ck k = (nth (zby g sd) k).map fun y => [zaU y] := ⟨_, fun _ => rfl⟩
 have hckl : ∀ k, k < g.kinds.length → (ck k).length = cn := fun k hk => by
  rw [hck, List.length_map]
  have hm : nth (zby g sd) k ∈ (zbD g).1 ++ (zbD g).2 := by
   have := zan (l := zby g sd) (i := k) (by omega)
   rcases hsd with rfl | rfl
   ·exact List.mem_append_left _ this
   ·exact List.mem_append_right _ this
  rcases List.mem_append.1 hm with h | h
  ·have := hF.sh.c1 _ h; omega
  ·have := hF.sh.c2 _ h; omega
 have hckn : ∀ k, k < g.kinds.length → ∀ c, c < cn → nth (ck k) c = [.lst 2 ((zbu g.board sd (nth g.kinds k).progs c).map zap)] := fun k hk c hc => by
  have h1 := hckl k hk
  rw [hck, List.length_map] at h1
  rw [hck, zbb _ _ _ (by omega), zoB _ _ hk (by omega)]
  rfl
 have hckb : ∀ k n, (∀ r ∈ ck k, ∀ c ∈ r, Bel n c) = True := fun k n => eq_true fun r hr c hc => by
  rw [hck] at hr
  obtain ⟨y, _, rfl⟩ := List.mem_map.1 hr
  simp only [List.mem_singleton] at hc
  subst hc
  simp [go_sem]
 have hsn : ∀ k, k < g.kinds.length → nth ((zby g sd).map fun x => [zbx x]) k = [.lst 1 (ck k)] := fun k hk => by rw [hck]; exact zbb _ _ _ (by omega)
 have hsl2 : ((zby g sd).map fun x => [zbx x]).length = g.kinds.length := by rw [List.length_map]; exact hsl
 obtain ⟨es, hes⟩ : ∃ es, es = (zby g sd).map fun x => [zbx x] := ⟨_, rfl⟩
 have hcs' : cel (ec.drop sd.toNat) 0 = .lst 1 es := by rw [hcs, hes]; rfl
 have heb : ∀ n, (∀ r ∈ es, ∀ c ∈ r, Bel n c) = True := fun n => eq_true fun r hr c hc => by
  rw [hes] at hr
  obtain ⟨y, _, rfl⟩ := List.mem_map.1 hr
  simp only [List.mem_singleton] at hc
  subst hc
  simp [go_sem]
 rw [← hes] at hsn hsl2
 clear hcs hes hck hsl hF
 have hsd0 : 0 ≤ sd := by omega
 have hsd2 : sd < 2 := by omega
 have hsd3 : sd.toNat ≤ 2 := by omega
 repeat first|with_reducible refine wV fun _=>?_|simp [go_sem, GH, hcl, hcs', hsl2]
 refine zyI (zyN (α := Nat) (fun k => ⟨[(2, .fp [.v (.int .i64 sd)]), (3, .fp (zad p)), (4, .fp (zab g)), (5, .ref 0 0 1 0 0), (24, .lst 1 es), (25, .v (.int .i64 g.kinds.length)), (26, .v (.int .i64 k)), (1000000007, zbh l 0 ((cKd g sd p k).map zcx))], [(0, .rows true 0 1 [[.fn (.yield l) [] []]])], 1⟩)
  (fun d k => k + d = g.kinds.length) ?_ g.kinds.length 0 ?_) ?_ ?_
 ·rintro d k k1 hrec
  repeat first|with_reducible refine wV fun _=>?_|simp [go_sem, GH, hsl2]
  refine zyK (fun hk => ?_) (fun hk => ?_) <;> simp at hk
  ·have hsnk := hsn k hk
   have hckl := hckl k hk
   have hckn := hckn k hk
   have hckb := hckb k
   generalize ck k = ce at *
   rw [zxi hk]
   repeat first|with_reducible refine wV fun _=>?_|simp [go_sem, GH, hsl2, hk, hsnk, hckl]
   refine zyI (zyN (α := Nat) (fun c => ⟨[(2, .fp [.v (.int .i64 sd)]), (3, .fp (zad p)), (4, .fp (zab g)), (5, .ref 0 0 1 0 0), (6, .ref 1 0 1 0 0), (24, .lst 1 es), (25, .v (.int .i64 g.kinds.length)), (26, .v (.int .i64 k)), (31, .lst 1 ce), (32, .v (.int .i64 cn)), (33, .v (.int .i64 c)), (1000000007, zbh l 0 ((cCl g sd p k c).map zcx))],
     [(0, .rows true 0 1 [[.fn (.yield l) [] []]]), (1, .rows true 0 1 [[.v (.int .i64 k)]])], 2⟩)
    (fun d c => c + d = cn) ?_ cn 0 ?_) ?_ ?_
   ·rintro d2 c c1' hrec2
    repeat first|with_reducible refine wV fun _=>?_|simp [go_sem, GH, hckl]
    refine zyK (fun hc => ?_) (fun hc => ?_) <;> simp at hc
    ·have hcn2 := hckn c hc
     have hkm := zan hk
     have hwok := zf1 hg (side := sd) hkm (cell := (c : Int)) ⟨by omega, by omega⟩
     have hlen := zfG hg sd hkm (c : Int)
     have hacl := zhP hg sd hkm (c : Int)
     have hmw : ∀ {i : Nat}, i < (zbu g.board sd (nth g.kinds k).progs c).length → nth (zbu g.board sd (nth g.kinds k).progs c) i ∈ zbu g.board sd (nth g.kinds k).progs c := fun h => zan h
     have hpg := fun i h => zxj (g := g) (sd := sd) (p := p) (k := k) (c := c) (i := i) h
     have hpe := ztN (g := g) (sd := sd) (p := p) (k := k) (c := c)
     rw [zxh (by omega)]
     generalize zbu g.board sd (nth g.kinds k).progs c = pt at *
     repeat first|with_reducible refine wV fun _=>?_|simp [go_sem, GH, hckl, hc, hcn2]
     refine zyI (zyN (α := Nat) (fun i => ⟨[(2, .fp [.v (.int .i64 sd)]), (3, .fp (zad p)), (4, .fp (zab g)), (5, .ref 0 0 1 0 0), (6, .ref 1 0 1 0 0), (8, .ref 2 0 1 0 0), (24, .lst 1 es), (25, .v (.int .i64 g.kinds.length)), (26, .v (.int .i64 k)), (31, .lst 1 ce), (32, .v (.int .i64 cn)), (33, .v (.int .i64 c)), (38, .lst 2 (pt.map zap)), (39, .v (.int .i64 pt.length)), (40, .v (.int .i64 i)), (1000000007, zbh l 0 ((cPt g sd p k c i).map zcx))],
       [(0, .rows true 0 1 [[.fn (.yield l) [] []]]), (1, .rows true 0 1 [[.v (.int .i64 k)]]), (2, .rows true 0 1 [[.v (.int .i64 c)]])], 3⟩)
      (fun d i => i + d = pt.length) ?_ pt.length 0 ?_) ?_ ?_
     ·rintro d3 i i1 hrec3
      repeat first|with_reducible refine wV fun _=>?_|simp [go_sem, GH]
      refine zyK (fun hi => ?_) (fun hi => ?_) <;> simp at hi
      ·have hw := hwok _ (zan hi)
       have hgi := zbb zap pt i hi
       have hmw := hmw hi
       have hpg := hpg i hi
       unfold zft at hpg
       generalize nth pt i = w at *
       obtain ⟨hw1, hw2, hw3, hw4, hw5⟩ := hw
       have hto : w.to.toNat < p.at_.length := by omega
       have hto0 := hw1.1
       have hMa := zfE (nth p.at_ w.to.toNat)
       have hal2 : w.acts.length ≤ 1048576 := by have := hacl w hmw; omega
       have hW := zeP p hf w.to 0 hto0 hto
       have hlf : POk g ⟨p.at_.set w.to.toNat 0, p.h0, p.h1, p.rights, sd⟩ := by
        have := hp.setAt w.to.toNat (v := 0) (by omega)
        exact ⟨this.al, this.av, this.h0, this.h1, this.r0, this.r1, hsd⟩
       generalize p.at_.set w.to.toNat 0 = A at *
       have hA : zgf Tryz.prog 203 [.agg (zab g), .agg (zad ⟨A, p.h0, p.h1, p.rights, sd⟩), zaV w.acts] (fun n => zkz n) (fun n => zkA g ⟨A, p.h0, p.h1, p.rights, sd⟩ w.acts n) 3 := ziz _ _ _
       have hS := zqd g hg w.acts.length w.acts _ rfl hal2 hlf hw2
       have hro := zhu hg hsd hlf (l := w.acts.reverse) (fun a ha => hw2 a (List.mem_reverse.1 ha))
       simp only [zkz, zkA] at hA
       simp only at hS
       repeat first|with_reducible refine wV fun _=>?_|simp [go_sem, GH, hi, hgi, hto, hto0]
       refine zyJ hMa (by simp [go_sem]) ?_
       generalize zaq (nth p.at_ w.to.toNat) = m at *
       obtain ⟨m1, m2⟩ := m
       replace hpg : cPt g sd p k c i = (if m2 = sd then _ else _) ++ _ := hpg
       repeat first|with_reducible refine wV fun _=>?_|simp [go_sem, GH]
       refine zyK (fun hne => ?_) (fun hne => ?_) <;> simp at hne
       ·rw [if_neg hne, List.nil_append] at hpg
        rw [hpg]
        repeat first|with_reducible refine wV fun _=>?_|simp [go_sem, GH]
        refine zyI (hrec3 (d3 - 1) (by omega) (i + 1) (by omega)) ?_ (by simp)
        simp [go_sem, zah, GH, hgh, heb, hckb]
       ·subst hne
        rw [if_pos rfl] at hpg
        obtain ⟨fF, hfF⟩ : ∃ fF : List zaj → List zaj, ∀ ys, fF ys = ((ys.filter fun q => decide (nth q.at_ c = 0)).map fun q => { q with at_ := q.at_.set c (zaD k m2) }) ++ cPt g m2 p k c (i + 1) := ⟨_, fun _ => rfl⟩
        rw [← hfF] at hpg
        rw [hpg]
        repeat first|with_reducible refine wV fun _=>?_|simp [go_sem, GH, hto0]
        refine zyJ hW (by simp [go_sem]) ?_
        repeat first|with_reducible refine wV fun _=>?_|simp [go_sem, GH]
        refine zyO hA (by simp [go_sem]) ?_
        repeat first|with_reducible refine wV fun _=>?_|simp [go_sem, GH]
        refine zfi.mk [.fp [zaV w.acts], .fp (zad ⟨A, p.h0, p.h1, p.rights, m2⟩), .fp (zab g)] (zaK _ [5, 6, 7]) hS (zc5 _ _) ?_ (by simp [go_sem]) (fun xs hx => by obtain ⟨y, _, rfl⟩ := List.mem_map.1 hx; rfl) ?_
        ·refine zai.cons (.frzP rfl ?_ ?_ ?_ ?_) (zai.cons (.frzP rfl ?_ ?_ ?_ ?_) (zai.cons (.frzP rfl ?_ ?_ ?_ ?_) .nil)) <;> first | exact zai.refl _ _ _ _ | (simp [zaK, zaR, upd]; done)
        generalize zcB g m2 ⟨A, p.h0, p.h1, p.rights, m2⟩ w.acts.reverse = ys at *
        clear hS
        refine Fgt.to (zy1 (α := List zaj) (fun ys => ([(2, .fp [.v (.int .i64 m2)]), (3, .fp (zad p)), (4, .fp (zab g)), (5, .ref 0 0 1 0 0), (6, .ref 1 0 1 0 0), (8, .ref 2 0 1 0 0), (24, .lst 1 es), (25, .v (.int .i64 g.kinds.length)), (26, .v (.int .i64 k)), (31, .lst 1 ce), (32, .v (.int .i64 cn)), (33, .v (.int .i64 c)), (38, .lst 2 (pt.map zap)), (39, .v (.int .i64 pt.length)), (40, .v (.int .i64 i)), (1000000007, zbh l 0 ((fF ys).map zcx))],
          [(0, .rows true 0 1 [[.fn (.yield l) [] []]]), (1, .rows true 0 1 [[.v (.int .i64 k)]]), (2, .rows true 0 1 [[.v (.int .i64 c)]])], 3))
         (fun rows ys => rows = ys.map zcx ∧ ∀ q ∈ ys, POk g q) ?_ ?_ _ ys ⟨rfl, fun q hq => (hro q hq).1⟩) ?_ ?_
        ·rintro ys ⟨i1, i2⟩
         obtain rfl : ys = [] := by
          cases ys with
          | nil => rfl
          | cons => cases i1
         refine ⟨rfl, ?_⟩
         rw [show fF [] = cPt g m2 p k c (i + 1) from by rw [hfF]; rfl]
         repeat first|with_reducible refine wV fun _=>?_|simp [go_sem, GH]
         refine zyI (hrec3 (d3 - 1) (by omega) (i + 1) (by omega)) ?_ (by simp)
         simp [go_sem, zah, GH, hgh, heb, hckb]
        ·rintro xs rs ys ⟨i1, i2⟩ hrec4
         obtain ⟨y, ys, rfl⟩ : ∃ q t, ys = q :: t := by
          cases ys with
          | nil => cases i1
          | cons q t => exact ⟨q, t, rfl⟩
         rw [List.map_cons, List.cons.injEq] at i1
         obtain ⟨rfl, rfl⟩ := i1
         have hy := i2 y (by simp)
         have hyl := hy.al
         have hcy : c < y.at_.length := by omega
         have hCo := zdO k m2
         have hWy := zeP y (hy.fits hg) c (zaD k m2) (by omega) (by rw [Int.toNat_natCast]; exact hcy)
         rw [Int.toNat_natCast] at hWy
         have hfy : fF (y :: ys) = if nth y.at_ c = 0 then { y with at_ := y.at_.set c (zaD k m2) } :: fF ys else fF ys := by
          rw [hfF, hfF, List.filter_cons]
          by_cases hz : nth y.at_ c = 0
          ·rw [if_pos hz, if_pos (by simpa using hz)]
           rfl
          ·rw [if_neg hz, if_neg (by simpa using hz)]
         obtain ⟨Y, hY⟩ : ∃ Y, Y = { y with at_ := y.at_.set c (zaD k m2) } := ⟨_, rfl⟩
         rw [← hY] at hWy hfy
         generalize zaD k m2 = cd at *
         refine zy4 (Nat.zero_le _) ?_
         by_cases hz : nth y.at_ c = 0
         ·rw [if_pos hz] at hfy
          rw [hfy]
          (repeat (first|with_reducible (first|refine wL fun _=>?_|refine wD fun _=>?_|refine wE ?_)|simp [go_sem, GH, zcx]))
          refine zoK.split 14 ?_
          repeat first|with_reducible refine wV fun _=>?_|simp [go_sem, GH, hcy, hz]
          refine zyV (.v (.int .i64 cd)) (fun _ => hCo) (by simp [go_sem]) ?_
          repeat first|with_reducible refine wV fun _=>?_|simp [go_sem, GH, hcy]
          refine zyV (.agg (zad Y)) (fun _ => hWy) (by simp [go_sem]) ?_
          repeat first|with_reducible refine wV fun _=>?_|simp [go_sem, GH]
          refine aGC.yld (more := 0) (xs := zcx Y) (rs := (fF ys).map zcx) _ (by simp [upd, GH, zcx, zad, zas]) (.refl _) (.refl _ _ _ _) (by simp [go_sem, zcx]) ?_ ?_
          ·repeat first|with_reducible refine wV fun _=>?_|simp [go_sem, GH]
           refine Fgt.to (hrec4 ys ⟨rfl, fun z hz => i2 z (by simp [hz])⟩) ?_ (by simp)
           simp [go_sem, zah, GH, hgh, heb, hckb]
          ·repeat first|with_reducible refine wV fun _=>?_|simp [go_sem, GH]
         ·rw [if_neg hz] at hfy
          rw [hfy]
          (repeat (first|with_reducible (first|refine wL fun _=>?_|refine wD fun _=>?_|refine wE ?_)|simp [go_sem, GH, zcx]))
          refine zoK.split 14 ?_
          repeat first|with_reducible refine wV fun _=>?_|simp [go_sem, GH, hcy, hz]
          refine zyV (.v (.int .i64 cd)) (fun _ => hCo) (by simp [go_sem]) ?_
          repeat first|with_reducible refine wV fun _=>?_|simp [go_sem, GH, hcy]
          refine zyV (.agg (zad Y)) (fun h => by cases h) (by simp [go_sem]) ?_
          repeat first|with_reducible refine wV fun _=>?_|simp [go_sem, GH]
          refine aGC.skip (.v (.bool true)) ?_
          repeat first|with_reducible refine wV fun _=>?_|simp [go_sem, GH]
          refine Fgt.to (hrec4 ys ⟨rfl, fun z hz => i2 z (by simp [hz])⟩) ?_ (by simp)
          simp [go_sem, zah, GH, hgh, heb, hckb]
        ·simp [go_sem, zah, GH, hgh, heb, hckb]
        ·simp
      ·obtain rfl : i = pt.length := by omega
       rw [hpe]
       repeat first|with_reducible refine wV fun _=>?_|simp [go_sem, GH]
       refine zyI (hrec2 (d2 - 1) (by omega) (c + 1) (by omega)) ?_ (by simp)
       simp [go_sem, zah, GH, hgh, heb, hckb]
     ·omega
     ·simp [go_sem, zah, GH, hgh, heb, hckb]
     ·simp
    ·obtain rfl : c = cn := by omega
     rw [hcn, ztL]
     repeat first|with_reducible refine wV fun _=>?_|simp [go_sem, GH]
     refine zyI (hrec (d - 1) (by omega) (k + 1) (by omega)) ?_ (by simp)
     simp [go_sem, zah, GH, hgh, heb]
   ·omega
   ·simp [go_sem, zah, GH, hgh, heb, hckb]
   ·simp
  ·obtain rfl : k = g.kinds.length := by omega
   rw [ztM, ← zv3]
   clear hrec heb hckb hckn hckl hsn hsl2 hcs'
   repeat first|with_reducible refine wV fun _=>?_|simp [go_sem, GH]
   refine zyI (zyN (α := Nat) (fun c => ⟨[(2, .fp [.v (.int .i64 sd)]), (3, .fp (zad p)), (4, .fp (zab g)), (5, .ref 0 0 1 0 0), (90, zas p.at_), (91, .v (.int .i64 p.at_.length)), (92, .v (.int .i64 c)), (1000000007, zbh l 0 ((cDr g sd p c).map zcx))], [(0, .rows true 0 1 [[.fn (.yield l) [] []]])], 1⟩)
    (fun d c => c + d = p.at_.length) ?_ p.at_.length 0 ?_) ?_ ?_
   ·rintro d c c1' hrec
    repeat first|with_reducible refine wV fun _=>?_|simp [go_sem, GH]
    refine zyK (fun hc => ?_) (fun hc => ?_) <;> simp at hc
    ·have hgo := cDr_go (g := g) (sd := sd) (p := p) hc
     have hv := hp.at (i := c) (by omega)
     have hman := zaS hv.1 hv.2 k6
     have hMa := zfE (nth p.at_ c)
     have hW := zeP p hf c 0 (by omega) (by rw [Int.toNat_natCast]; exact hc)
     rw [Int.toNat_natCast] at hW
     have hlp : ziF sd p c = { (({ p with at_ := p.at_.set c 0 } : zaj).withHand sd ((p.hand sd).set (zaq (nth p.at_ c)).1.toNat (nth (p.hand sd) (zaq (nth p.at_ c)).1.toNat + 1))) with side := sd } := by
      rcases hsd with rfl | rfl <;> rfl
     rw [hlp] at hgo
     clear hlp
     have hfA : zaW { p with at_ := p.at_.set c 0 } := ⟨by simpa [zeR] using hf.1, hf.2⟩
     have hCt := fun (kd : Int) h0 h1 h2 => zlj { p with at_ := p.at_.set c 0 } hfA sd kd 1 hsd h0 h1 h2
     generalize p.at_.set c 0 = A at *
     generalize zaq (nth p.at_ c) = m at *
     obtain ⟨m1, m2⟩ := m
     repeat first|with_reducible refine wV fun _=>?_|simp [go_sem, GH, hc]
     refine zyJ hMa (by simp [go_sem]) ?_
     replace hgo : cDr g sd p c = if m2 = sd ∧ (nth g.kinds m1.toNat).keep = true then _ else _ := hgo
     by_cases hms : m2 = sd
     ·subst hms
      simp only [Prod.mk.injEq] at hman
      obtain ⟨hm0, hmk⟩ : 0 ≤ m1 ∧ m1 < g.kinds.length := by omega
      have hmk' : m1.toNat < g.kinds.length := by omega
      have hgk : nth (g.kinds.map zaY) m1.toNat = zaY (nth g.kinds m1.toNat) := zbb _ _ _ hmk'
      by_cases hkp : (nth g.kinds m1.toNat).keep = true
      ·rw [if_pos ⟨rfl, hkp⟩] at hgo
       have hhl := (hp.hand m2).len
       have hhv := (hp.hand m2).v m1.toNat (by omega)
       have hCt := hCt m1 hm0 (by show m1.toNat < (p.hand m2).length; omega) (by
        show -1000 ≤ nth (p.hand m2) m1.toNat + 1 ∧ nth (p.hand m2) m1.toNat + 1 ≤ 1000
        omega)
       obtain ⟨Q, hQ⟩ : ∃ Q, Q = (⟨A, p.h0, p.h1, p.rights, p.side⟩ : zaj).withHand m2 ((p.hand m2).set m1.toNat (nth (p.hand m2) m1.toNat + 1)) := ⟨_, rfl⟩
       rw [← hQ] at hgo
       replace hCt : zaC Tryz.prog 204 [.agg (zad ⟨A, p.h0, p.h1, p.rights, p.side⟩), .v (.int .i64 m2), .v (.int .i64 m1), .v (.int .i64 1)] (.agg (zad Q)) := by rw [hQ]; exact hCt
       rw [hgo]
       repeat first|with_reducible refine wV fun _=>?_|simp [go_sem, GH, hm0, hmk', hgk, hkp]
       refine zyM hW (by simp [go_sem]) ?_
       repeat first|with_reducible refine wV fun _=>?_|simp [go_sem, GH]
       refine zyM hCt (by simp [go_sem]) ?_
       repeat first|with_reducible refine wV fun _=>?_|simp [go_sem, GH]
       refine zrD.mk (more := 0) (xs := zcx { Q with side := m2 }) (rs := (cDr g m2 p (c + 1)).map zcx) _ (by simp [upd, GH]) (.refl _) (.refl _ _ _ _) (by simp [go_sem, zcx]) ?_ ?_
       ·repeat first|with_reducible refine wV fun _=>?_|simp [go_sem, GH]
        refine zyI (hrec (d - 1) (by omega) (c + 1) (by omega)) ?_ (by simp)
        simp [go_sem, zah, GH, hgh]
       ·repeat first|with_reducible refine wV fun _=>?_|simp [go_sem, GH]
      ·rw [if_neg (fun h => hkp h.2)] at hgo
       rw [hgo]
       repeat first|with_reducible refine wV fun _=>?_|simp [go_sem, GH, hm0, hmk', hgk, hkp]
       refine zyI (hrec (d - 1) (by omega) (c + 1) (by omega)) ?_ (by simp)
       simp [go_sem, zah, GH, hgh]
     ·rw [if_neg (fun h => hms h.1)] at hgo
      rw [hgo]
      simp only [Prod.mk.injEq] at hman
      have hmk' : m1.toNat < g.kinds.length := by have := hg.k1; omega
      have hgk : nth (g.kinds.map zaY) m1.toNat = zaY (nth g.kinds m1.toNat) := zbb _ _ _ hmk'
      repeat first|with_reducible refine wV fun _=>?_|simp [go_sem, GH, hms, hgk]
      refine zyI (hrec (d - 1) (by omega) (c + 1) (by omega)) ?_ (by simp)
      simp [go_sem, zah, GH, hgh]
    ·obtain rfl : c = p.at_.length := by omega
     rw [zxU]
     repeat first|with_reducible refine wV fun _=>?_|simp [go_sem, GH]
   ·omega
   ·simp [go_sem, zah, GH, hgh]
   ·simp
 ·omega
 ·simp [go_sem, zah, GH, hgh, heb]
 ·simp
theorem zdt {α : Type} [Inhabited α] {l : List α} {i : Nat} (h : i < l.length) : l.take (i + 1) = l.take i ++ [nth l i] := by
 rw [List.take_add_one, List.getElem?_eq_getElem h, zaJ _ _ h]; rfl
theorem zkG (l : List zaj) (hl : l.length ≤ 17179869184) (f : FuncId) (caps : List AV) (C : zm4 Tryz.prog f caps 0 (l.map zcx)) (hb' : ∀ c ∈ caps, Bel 0 c) :
  zaC Tryz.prog 200 [zyQ, .fn (.func f) [] caps] (zaz l) := by
 refine pF Tryz.func200 ?_
 have hbn : ∀ n, (∀ c ∈ caps, Bel n c) = True := fun n => eq_true fun c hc => (hb' c hc).mono (Nat.zero_le n)
 obtain ⟨tk, htk⟩ : ∃ tk : Nat → List zaj, ∀ k, tk k = l.take k := ⟨_, fun _ => rfl⟩
 have htl : ∀ k, k ≤ l.length → (tk k).length = k := fun k hk => by rw [htk]; simp; omega
 have hts : ∀ k, k < l.length → tk (k + 1) = tk k ++ [nth l k] := fun k hk => by rw [htk, htk]; exact zdt hk
 have ht0 : tk 0 = [] := by rw [htk]; rfl
 have hta : tk l.length = l := by rw [htk, List.take_length]
 clear htk
 repeat first|with_reducible refine wV fun _=>?_|simp [go_sem, GH]
 refine zfi.mk caps _ C (.refl _) (.refl _ _ _ _) hb' (fun xs hx => by obtain ⟨y, _, rfl⟩ := List.mem_map.1 hx; rfl) ?_
 refine Fgt.to (zy1 (α := Nat) (fun k => ([(2, .ref 0 0 1 0 0)], [(0, .rows true 0 1 [[.sl 1 k 5 0 k]]), (1, .rows true k 5 ((tk k).map zad))], 2))
  (fun rows k => rows = (l.drop k).map zcx ∧ k ≤ l.length) ?_ ?_ _ 0 ?_) ?_ ?_
 ·rintro k ⟨i1, i2⟩
  have hk : k = l.length := by
   have := congrArg List.length i1
   simp at this
   omega
  subst hk
  refine ⟨rfl, ?_⟩
  rw [hta]
  repeat first|with_reducible refine wV fun _=>?_|simp [go_sem, GH]
  exact frX
 ·rintro xs rs k ⟨i1, i2⟩ hrec
  have hk : k < l.length := by
   have := congrArg List.length i1
   simp at this
   omega
  rw [zaM hk, List.map_cons, List.cons.injEq] at i1
  obtain ⟨rfl, rfl⟩ := i1
  have hts := hts k hk
  have hkl := htl k i2
  generalize hrs : (l.drop (k + 1)).map zcx = rs at *
  refine zy4 (Nat.zero_le _) ?_
  repeat first|with_reducible refine wV fun _=>?_|simp [go_sem, GH, zcx, hkl]
  refine Fgt.to (hrec (k + 1) ⟨hrs.symm, by omega⟩) ?_ (by simp)
  simp [go_sem, zah, GH, hts, hkl]
 ·exact ⟨by simp, by omega⟩
 ·simp [go_sem, zah, GH, ht0]
 ·simp
theorem zmY (l : List zaj) (hl : l.length ≤ 17179869184) (f : FuncId) (caps : List AV) (C : zm4 Tryz.prog f caps 0 (l.map zcx)) (hb' : ∀ c ∈ caps, Bel 0 c) :
  zaC Tryz.prog 161 [.fn (.func f) [] caps] (zaz l) := by
 refine pF Tryz.func161 ?_
 have hA := zkG l hl f caps C hb'
 have hbn : ∀ n, (∀ c ∈ caps, Bel n c) = True := fun n => eq_true fun c hc => (hb' c hc).mono (Nat.zero_le n)
 repeat first|with_reducible refine wV fun _=>?_|simp [go_sem]
 refine zyJ hA (by simp [go_sem, hbn]) ?_
 repeat first|with_reducible refine wV fun _=>?_|simp [go_sem]
theorem SzP.fits {g : zaf} (hg : GOk g) {q : zaj} (h : SzP g q) : zaW q := by
 have := hg.c9
 have := hg.k6
 obtain ⟨h1, h2, h3⟩ := h
 refine ⟨?_, ?_, ?_⟩ <;> unfold zeR <;> omega
theorem zjn (g : zaf) (hg : GOk g) (hs : zbg g) (p : zaj) (hp : POk g p) : zaC Tryz.prog 105 [.agg (zab g), .agg (zbj (zbD g)), .agg (zad p)] (.tup [zaz (zbC g p).1, .v (.int .i64 (zbC g p).2)]) := by
 refine pF Tryz.func105 ?_
 have hO : zgf Tryz.prog 162 [.agg (zab g), .agg (zbj (zbD g)), .agg (zad p)] (fun n => znq n) (fun n => [(n, .rows true 0 9 [zab g]), (n + 1, .rows true 0 2 [zbj (zbD g)]), (n + 2, .rows true 0 5 [zad p]), (n + 3, .rows true 0 1 [[.v (.int .i64 (1 - p.side))]])]) 4 := zrZ g (zbD g) p hp.s
 simp only [znq] at hO
 have hQ := ztP g hg p hp (1 - p.side) (by have := hp.s; omega)
 change zm4 _ _ _ _ ((zdh g p).map zcx) at hQ
 have hcl := zhD hg hs hp
 have hsz := (zqF hg hp).1
 have hCo := zmY (zdh g p) (by omega) _ _ hQ (by simp [go_sem])
 have hSo := zdP (zdh g p) (by omega) (fun q hq => (hsz q hq).fits hg)
 have hsl : (zbk zbw (zdh g p)).length ≤ 35831817 := Nat.le_trans (zdL _ _) hcl
 have hszS : ∀ q ∈ zbk zbw (zdh g p), zaW q := fun q hq => (hsz q (za7.1 hq)).fits hg
 have hall := zvV g p
 have hbs := fun i h => znm (g := g) (p := p) (l := zbk zbw (zdh g p)) (i := i) h
 have hb0 := znn g p (zbk zbw (zdh g p))
 have hbl := zqz g p (zbk zbw (zdh g p))
 have hV := fun q hq => zk6 g (by have := hg.k6; unfold zfo; omega) ⟨hg.r0, by have := hg.r4; omega⟩ q (hszS q hq)
 have hL := fun q (hq : zeH g q = true) => zhx g hg q (ze7.1 hq) p (hp.fits hg)
 have hBe : zbC g p = if 4000 < (zaG g p).length then ([], 2) else (zaG g p, 0) := rfl
 rw [← hall] at hBe
 rw [hBe]
 clear hall hBe hsz
 generalize zqy g p (zbk zbw (zdh g p)) = bI at *
 generalize zbk zbw (zdh g p) = S at *
 repeat first|with_reducible refine wV fun _=>?_|simp [go_sem]
 refine zyO hO (by simp [go_sem]) ?_
 repeat first|with_reducible refine wV fun _=>?_|simp [go_sem]
 refine zyP [3, 4, 5, 6] hCo ?_ (by simp [go_sem]) ?_
 ·refine zai.cons (.fn .nil (zai.cons (.frzP rfl ?_ ?_ ?_ ?_) (zai.cons (.frzP rfl ?_ ?_ ?_ ?_) (zai.cons (.frzP rfl ?_ ?_ ?_ ?_) (zai.cons (.frzP rfl ?_ ?_ ?_ ?_) .nil))))) .nil <;> first | exact zai.refl _ _ _ _ | (simp [zaK, zaR, upd]; done)
 repeat first|with_reducible refine wV fun _=>?_|simp [go_sem]
 refine zyJ hSo (by simp [go_sem]) ?_
 repeat first|with_reducible refine wV fun _=>?_|simp [go_sem]
 refine zyI (zyN (α := Nat) (fun i => ⟨[(3, .ref 0 0 9 0 0), (5, .ref 2 0 5 0 0), (8, .sl 7 (bI i).length 5 0 (bI i).length), (16, zaz S), (17, .v (.int .i64 S.length)), (18, .v (.int .i64 i))], [(0, .rows true 0 9 [zab g]), (2, .rows true 0 5 [zad p]), (7, .rows true (bI i).length 5 ((bI i).map zad))], 8⟩)
  (fun d i => i + d = S.length) ?_ S.length 0 ?_) ?_ ?_
 ·rintro d i i1 hrec
  have hbli := hbl i
  repeat first|with_reducible refine wV fun _=>?_|simp [go_sem]
  refine zyK (fun hi => ?_) (fun hi => ?_) <;> simp at hi
  ·have hVi := hV _ (zan hi)
   have hLi := hL (nth S i)
   have hbs := hbs i hi
   have hbls := hbl (i + 1)
   have hgi := zbb zad S i hi
   generalize nth S i = q at *
   generalize hok : zeH g q = ok at *
   repeat first|with_reducible refine wV fun _=>?_|simp [go_sem, hi, hgi]
   refine zyJ hVi (by simp [go_sem]) ?_
   repeat first|with_reducible refine wV fun _=>?_|simp [go_sem]
   refine zzc (.v (.bool (decide (p ∈ zaH g q)))) (fun h => hLi h) (by simp [go_sem]) ?_
   by_cases hm : p ∈ zaH g q
   ·cases ok
    ·rw [if_neg (by simp)] at hbs
     repeat first|with_reducible refine wV fun _=>?_|simp [go_sem, hm]
     refine zyI (hrec (d - 1) (by omega) (i + 1) (by omega)) ?_ (by simp)
     simp [go_sem, zah, hbs]
    ·rw [if_pos ⟨rfl, hm⟩] at hbs
     repeat first|with_reducible refine wV fun _=>?_|simp [go_sem, hm]
     refine zyI (hrec (d - 1) (by omega) (i + 1) (by omega)) ?_ (by simp)
     simp [go_sem, zah, hbs]
   ·rw [if_neg (fun h => hm h.2)] at hbs
    cases ok
    ·repeat first|with_reducible refine wV fun _=>?_|simp [go_sem, hm]
     refine zyI (hrec (d - 1) (by omega) (i + 1) (by omega)) ?_ (by simp)
     simp [go_sem, zah, hbs]
    ·repeat first|with_reducible refine wV fun _=>?_|simp [go_sem, hm]
     refine zyI (hrec (d - 1) (by omega) (i + 1) (by omega)) ?_ (by simp)
     simp [go_sem, zah, hbs]
  ·obtain rfl : i = S.length := by omega
   generalize bI S.length = bl at *
   repeat first|with_reducible refine wV fun _=>?_|simp [go_sem]
   refine zyK (fun hbig => ?_) (fun hbig => ?_) <;> simp at hbig
   ·rw [if_pos (by omega)]
    repeat first|with_reducible refine wV fun _=>?_|simp [go_sem]
   ·rw [if_neg (by omega)]
    repeat first|with_reducible refine wV fun _=>?_|simp [go_sem]
    exact frX
 ·omega
 ·simp [go_sem, zah, hb0]
 ·simp
theorem ztd (g : zaf) (hg : GOk g) (hs : zbg g) (p : zaj) (hp : POk g p) : zaC Tryz.prog 52 [.agg (zab g), .agg (zad p)] (.tup [zaz (zbC g p).1, .v (.int .i64 (zbC g p).2)]) := by
 refine pF Tryz.func52 ?_
 have hC := zh9 g hg
 have hB := zjn g hg hs p hp
 generalize zbC g p = v at *
 generalize zbD g = cd at *
 repeat first|with_reducible refine wV fun _=>?_|simp [go_sem]
 refine zyM hC (by simp [go_sem]) ?_
 repeat first|with_reducible refine wV fun _=>?_|simp [go_sem]
 refine zyM hB (by simp [go_sem]) ?_
 repeat first|with_reducible refine wV fun _=>?_|simp [go_sem]
theorem zrn (g : zaf) (hg : GOk g) (hs : zbg g) (p : zaj) (hp : POk g p) (n : Int) : zaC Tryz.prog 90 [.agg (zab g), .agg (zad p), .v (.int .i64 n)] (.tup [zaz (zcR g p n).1, .v (.int .i64 (zcR g p n).2)]) := by
 refine pF Tryz.func90 ?_
 have hC := zh9 g hg
 have hB := fun q hq => zjn g hg hs q hq
 have hBs := fun q => zqx (g := g) (p := q)
 have hBb := fun q => znl (g := g) (p := q)
 have hbo := fun q r (h : r ∈ zaG g q) => zdm hg h
 have hfit := fun r (h : POk g r) => h.fits hg
 have hcb : ∀ n, (∀ c ∈ zbj (zbD g), Bel n c) = True := fun n => by simp [go_sem]
 have hcl : (zbj (zbD g)).length = 2 := rfl
 have hgb : ∀ n, (∀ c ∈ zab g, Bel n c) = True := fun n => by simp [go_sem]
 have hgl : (zab g).length = 9 := rfl
 generalize zbj (zbD g) = ec at *
 obtain ⟨eg, heg⟩ : ∃ eg, eg = zab g := ⟨_, rfl⟩
 rw [← heg] at hC hgb hgl
 simp only [← heg] at hB
 rw [← heg]
 clear heg
 have hcv : zcR g p n = if n < 0 ∨ 6 < n then ([], 1) else zb2 g n.toNat [p] := rfl
 repeat first|with_reducible refine wV fun _=>?_|simp [go_sem, hgl]
 by_cases hn : n < 0
 ·rw [if_pos (.inl hn)] at hcv
  rw [hcv]
  have hn2 : ¬ 0 ≤ n := by omega
  repeat first|with_reducible refine wV fun _=>?_|simp [go_sem, hn]
 ·by_cases hn6 : 6 < n
  ·rw [if_pos (.inr hn6)] at hcv
   rw [hcv]
   repeat first|with_reducible refine wV fun _=>?_|simp [go_sem, hn, hn6]
  ·rw [if_neg (by omega)] at hcv
   obtain ⟨m, rfl⟩ : ∃ m : Nat, n = m := ⟨n.toNat, by omega⟩
   rw [Int.toNat_natCast] at hcv
   rw [hcv]
   obtain ⟨R, hR⟩ : ∃ R, R = zb2 g m [p] := ⟨_, rfl⟩
   rw [← hR]
   repeat first|with_reducible refine wV fun _=>?_|simp [go_sem, hn, hn6, hgl]
   refine zyM hC (by simp [go_sem, hgb]) ?_
   repeat first|with_reducible refine wV fun _=>?_|simp [go_sem, hgl, hcl]
   refine zyI (zyN (α := Nat × List zaj) (fun a => ⟨[(3, .ref 0 0 9 0 0), (8, .ref 6 0 2 0 0), (9, zaz a.2), (25, .v (.int .i64 m)), (26, .v (.int .i64 a.1))], [(0, .rows true 0 9 [eg]), (6, .rows true 0 2 [ec])], 7⟩)
    (fun d a => a.1 + d = m ∧ R = zb2 g d a.2 ∧ (∀ q ∈ a.2, POk g q) ∧ a.2.length ≤ 4000) ?_ m (0, [p]) ?_) ?_ ?_
   ·rintro d ⟨i, L⟩ ⟨i1, i2, i3, i4⟩ hrec
    simp only at i1 i2 i3 i4
    repeat first|with_reducible refine wV fun _=>?_|simp [go_sem, hgl, hcl]
    refine zyK (fun hi => ?_) (fun hi => ?_) <;> simp at hi
    ·obtain ⟨d, rfl⟩ : ∃ d', d = d' + 1 := ⟨d - 1, by omega⟩
     have hns := fun k hk => zom g (l := L) (k := k) hk
     have hn0 := zon g L
     have hna := zqW g L
     have hnl := fun k h => zqX (g := g) (l := L) (k := k) h
     have hno := fun k => zuR (k := k) hg (l := L)
     have hbad := fun q hq h => zns (g := g) (n := d) (l := L) (q := q) hq h
     have hgo := fun h => zqG (g := g) (n := d) (l := L) h
     generalize zuQ g L = nx at *
     have hb4 : L.length * 4000 ≤ 4000 * 4000 := Nat.mul_le_mul_right _ i4
     repeat first|with_reducible refine wV fun _=>?_|simp [go_sem, hgl, hcl]
     refine zyI (zyN (α := Nat) (fun k => ⟨[(3, .ref 0 0 9 0 0), (8, .ref 6 0 2 0 0), (10, .sl 7 k 5 0 (nx k).length), (25, .v (.int .i64 m)), (26, .v (.int .i64 i)), (28, zaz L), (29, .v (.int .i64 L.length)), (30, .v (.int .i64 k))], [(0, .rows true 0 9 [eg]), (6, .rows true 0 2 [ec]), (7, .rows true k 5 ((nx k).map zad))], 8⟩)
      (fun d k => k + d = L.length ∧ ∀ j, j < k → j < L.length → (zaG g (nth L j)).length ≤ 4000) ?_ L.length 0 ?_) ?_ ?_
     ·rintro d2 k ⟨k1, k2⟩ hrec2
      have hnk := hnl k k2
      repeat first|with_reducible refine wV fun _=>?_|simp [go_sem, hgl, hcl]
      refine zyK (fun hk => ?_) (fun hk => ?_) <;> simp at hk
      ·have hq := i3 _ (zan hk)
       have hBq := hB _ hq
       have hns := hns k hk
       have hgk := zbb zad L k hk
       have hmq := zan hk
       have hxs := hBs (nth L k)
       have hxb := hBb (nth L k)
       have hlk : ∀ j, j < k + 1 → j < L.length → (zaG g (nth L k)).length ≤ 4000 → (zaG g (nth L j)).length ≤ 4000 := fun j hj hj2 h => by
        rcases Nat.lt_or_ge j k with h1 | h1
        ·exact k2 j h1 hj2
        ·obtain rfl : j = k := by omega
         exact h
       generalize nth L k = q at *
       generalize hbq : zaG g q = bq at *
       by_cases hbig : 4000 < bq.length
       ·have hx := hxb hbig
        have hR2 := hbad q hmq (by rw [hbq]; exact hbig)
        rw [hx] at hBq
        rw [hR2] at i2
        repeat first|with_reducible refine wV fun _=>?_|simp [go_sem, hgl, hcl, hk, hgk]
        refine zyJ hBq (by simp [go_sem, hgb, hcb]) ?_
        repeat first|with_reducible refine wV fun _=>?_|simp [go_sem, hgl, hcl]
        rw [i2]
        repeat first|with_reducible refine wV fun _=>?_|simp [go_sem]
       ·have hx := hxs (by omega)
        rw [hx] at hBq
        repeat first|with_reducible refine wV fun _=>?_|simp [go_sem, hgl, hcl, hk, hgk]
        refine zyJ hBq (by simp [go_sem, hgb, hcb]) ?_
        repeat first|with_reducible refine wV fun _=>?_|simp [go_sem, hgl, hcl]
        refine zyI (hrec2 (d2 - 1) (by omega) (k + 1) ⟨by omega, fun j hj hj2 => hlk j hj hj2 (by omega)⟩) ?_ (by simp)
        simp [go_sem, zah, hgb, hcb, hns]
      ·obtain rfl : k = L.length := by omega
       have hR2 := hgo fun q hq => by
        obtain ⟨j, hj, rfl⟩ := ze5 hq
        exact k2 j hj hj
       rw [← hna] at hR2
       have hnok := hno L.length
       have hSo := zdP (nx L.length) (by omega) (fun q hq => hfit q (hnok q hq))
       have hsl := zdL zbw (nx L.length)
       have hsm : ∀ q ∈ zbk zbw (nx L.length), POk g q := fun q hq => hnok q (za7.1 hq)
       generalize nx L.length = nl at *
       generalize zbk zbw nl = sl at *
       rw [hR2] at i2
       repeat first|with_reducible refine wV fun _=>?_|simp [go_sem, hgl, hcl]
       refine zyP [7] hSo ?_ (by simp [go_sem]) ?_
       ·(first|done|exact agX)
       repeat first|with_reducible refine wV fun _=>?_|simp [go_sem, hgl, hcl]
       refine zyK (fun hb => ?_) (fun hb => ?_) <;> simp at hb
       ·rw [if_pos (by omega)] at i2
        rw [i2]
        repeat first|with_reducible refine wV fun _=>?_|simp [go_sem]
       ·rw [if_neg (by omega)] at i2
        repeat first|with_reducible refine wV fun _=>?_|simp [go_sem, hgl, hcl]
        refine zyI (hrec d (by omega) (i + 1, sl) ⟨by simp only; omega, i2, hsm, by simp only; omega⟩) ?_ (by simp)
        simp [go_sem, zah, hgb, hcb]
     ·exact ⟨by omega, fun j hj => by omega⟩
     ·simp [go_sem, zah, hgb, hcb, hn0]
     ·simp
    ·obtain rfl : d = 0 := by omega
     rw [show zb2 g 0 L = (L, 0) from rfl] at i2
     rw [i2]
     repeat first|with_reducible refine wV fun _=>?_|simp [go_sem]
   ·exact ⟨by omega, hR, by simpa using hp, by simp⟩
   ·simp [go_sem, zah, hgb, hcb]
    exact frX
   ·simp
def zbY (b : List zaj × Int) : AV := .agg [zaz b.1, .v (.int .i64 b.2)]
theorem zfW (a b : List zaj × Int) (ha : a.1.length ≤ 17179869184) (hb : b.1.length ≤ 17179869184) (hfa : ∀ p ∈ a.1, zaW p) (hfb : ∀ p ∈ b.1, zaW p) : zaC Tryz.prog 34 [zbY a, zbY b] (.v (.bool (decide (a = b)))) := by
 refine pF Tryz.func34 ?_
 obtain ⟨al, ae⟩ := a
 obtain ⟨bl, be⟩ := b
 have hS := zkK al bl ha hb hfa hfb
 have e : decide ((al, ae) = (bl, be)) = (decide (al = bl) && decide (ae = be)) := by
  rw [← Bool.decide_and]
  exact decide_eq_decide.2 (by simp)
 rw [e]
 generalize decide (al = bl) = t at *
 repeat first|with_reducible refine wV fun _=>?_|simp [go_sem, zbY]
 refine zyJ hS (by simp [go_sem]) ?_
 cases t
 ·repeat first|with_reducible refine wV fun _=>?_|simp [go_sem]
 ·repeat first|with_reducible refine wV fun _=>?_|simp [go_sem]
theorem zi8 (x : zgr) (hx : zjc x) (hl : x.c.length ≤ 1099511627776) (hl0 : x.k0.length ≤ 1099511627776) (hl1 : x.k1.length ≤ 1099511627776) : zaC Tryz.prog 19 [.agg (zcz x)] (.agg (zab (zfm x))) := by
 refine pF Tryz.func19 ?_
 obtain ⟨eg, heg⟩ : ∃ eg, eg = zab (zfm x) := ⟨_, rfl⟩
 rw [← heg]
 have hB := zoX x.w x.h x.cut hx.w hx.h hx.cut
 have hok := zid hx.w.1 hx.h.1 x.cut
 have hb : zeG x.w x.h x.cut = x.board := rfl
 rw [hb] at hB hok
 have r0 := Int.tmod_nonneg 3 hx.f0.1
 have r1 := Int.tmod_lt_of_pos x.f0 (show (0 : Int) < 3 by decide)
 have f0 : 0 ≤ x.f0 ∧ x.f0 ≤ 255 := hx.f0
 have f1 : 0 ≤ x.f1 ∧ x.f1 ≤ 255 := hx.f1
 have f2 : 0 ≤ x.f2 ∧ x.f2 ≤ 255 := hx.f2
 have f3 : 0 ≤ x.f3 ∧ x.f3 ≤ 255 := hx.f3
 have f4 : 0 ≤ x.f4 ∧ x.f4 ≤ 255 := hx.f4
 have m1 := Int.tmod_nonneg 4 hx.f1.1
 have m3 := Int.tmod_nonneg 4 hx.f3.1
 have m4 := Int.tmod_nonneg 4 hx.f4.1
 have qq : ∀ n : Int, U8 n → (0 ≤ n.tdiv 4 ∧ n.tdiv 4 ≤ 63) ∧ 0 ≤ (n.tdiv 4).tmod 3 ∧ (n.tdiv 4).tmod 3 < 3 := fun n hn => by
  have h : n.tdiv 4 = n / 4 := Int.tdiv_eq_ediv_of_nonneg hn.1
  have h1 := hn.1
  have h2 := hn.2
  have h3 := Int.tmod_nonneg 3 (show 0 ≤ n.tdiv 4 by omega)
  have h4 := Int.tmod_lt_of_pos (n.tdiv 4) (show (0 : Int) < 3 by decide)
  omega
 obtain ⟨q3, q3'⟩ := qq _ hx.f3
 obtain ⟨q4, q4'⟩ := qq _ hx.f4
 obtain ⟨bl, hbl⟩ : ∃ bl, bl = if x.f3.tmod 4 = 3 then 1 + (x.f3.tdiv 4).tmod 3 else 3 := ⟨_, rfl⟩
 obtain ⟨en, hen⟩ : ∃ en, en = if x.f4.tmod 4 = 3 then 1 + (x.f4.tdiv 4).tmod 3 else 2 := ⟨_, rfl⟩
 obtain ⟨R, hR⟩ : ∃ R, R = x.rights := ⟨_, rfl⟩
 have hR' : x.f0.tmod 3 = R := by rw [hR]; rfl
 obtain ⟨b, hbb⟩ : ∃ b, b = x.board := ⟨_, rfl⟩
 rw [← hbb] at hB hok
 repeat first|with_reducible refine wV fun _=>?_|simp [go_sem]
 refine zyM hB (by simp [go_sem]) ?_
 repeat first|with_reducible refine wV fun _=>?_|simp [go_sem, hR']
 have hd8 : b.next.length = 8 := by rw [hbb]; exact zlH _ _ _
 have hcell : 1 ≤ b.cells ∧ b.cells ≤ 9 := by rw [hbb]; exact zjV hx.w.1 hx.h.1 _
 obtain ⟨K, hK⟩ : ∃ K : Nat, K = zcT x := ⟨_, rfl⟩
 have hKn : zcT x = if x.k1.length = 0 then 1 else 2 := by unfold zcT; simp only [List.length_eq_zero_iff]
 have hKl : ∀ i, (x.ks i).length ≤ 1099511627776 := fun i => by unfold zgr.ks; split <;> assumption
 have hKv : ∀ i, ∀ n ∈ x.ks i, U8 n := fun i => by unfold zgr.ks; split; exact hx.k0; exact hx.k1
 refine zyK (fun hk1 => ?_) (fun hk1 => ?_) <;> simp at hk1
 ·have hK2 : zcT x = 2 := by rw [hKn, if_neg (by omega)]
  rw [hK2] at hK
  repeat first|with_reducible refine wV fun _=>?_|simp [go_sem]
  refine zyI (zyN (α := Nat) (fun a => ⟨[(1, .ref 0 0 12 0 0), (2, .ref 1 0 9 0 0), (3, .ref 20 0 9 0 0), (4, .v (.int .i64 K)), (5, .v (.int .i64 a))],
   [(0, .rows true 0 12 [zcz x]), (1, .rows true 0 9 [[.v (.int .i64 0), zyQ, zyQ, zyQ, .v (.int .i64 0), .v (.bool false), zyQ, .v (.int .i64 0), .v (.int .i64 0)]]), (20, .rows true 0 9 [[.v (.int .i64 b.cells), zcr b.next, zas b.turn, .sl 22 a 3 0 a, .v (.int .i64 R), .v (.bool (decide (x.f1.tmod 4 = 3))), zyQ, .v (.int .i64 3), .v (.int .i64 2)]]), (22, .rows true a 3 (ksR x a))], 23⟩)
   (fun d a => a + d = K) ?_ K 0 ?_) ?_ ?_
  ·rintro d0 i i1 hrec
   repeat first|with_reducible refine wV fun _=>?_|simp [go_sem]
   refine zyK (fun hi => ?_) (fun hi => ?_) <;> simp at hi
   ·have hi2 : i = 0 ∨ i = 1 := by omega
    have hkl := hKl i
    have hkv := hKv i
    have hks : zeE x i = ⟨if i = 0 then zpQ else zpR, ((x.ks i).take 4).map (fun n => zkW n b.next.length K x.rights), ztK x.f2 i⟩ := by rw [hbb, hK, ← hK2]; rfl
    rcases hi2 with rfl | rfl
    ·obtain ⟨kk, hkk⟩ : ∃ kk, kk = x.ks 0 := ⟨_, rfl⟩
     have hk0 : x.k0 = kk := hkk.symm
     rw [← hkk] at hkl hkv hks
     have hbit : ztK x.f2 0 = decide (zhA .u8 x.f2 1 = 1) := by simp [ztK]
     obtain ⟨f, hf⟩ : ∃ f, f = (fun n => zkW n b.next.length K x.rights) := ⟨_, rfl⟩
     have hfp : ∀ n, U8 n → zaC Tryz.prog 69 [.v (.int .u8 n), .v (.int .i64 b.next.length), .v (.int .i64 K), .v (.int .i64 R)] (zar (f n)) := fun n hn => by
      rw [hf, ← hR]; exact zeS n _ _ _ hn (by omega) (by omega) (by omega)
     rw [← hf, hbit] at hks
     repeat first|with_reducible refine wV fun _=>?_|simp [go_sem, hk0]
     refine zyI (zyN (α := Nat) (fun n => ⟨[(1, .ref 0 0 12 0 0), (2, .ref 1 0 9 0 0), (3, .ref 20 0 9 0 0), (4, .v (.int .i64 K)), (5, .v (.int .i64 0)), (6, .ref 35 0 3 0 0), (7, .v (.int .i64 n))],
      [(0, .rows true 0 12 [zcz x]), (1, .rows true 0 9 [[.v (.int .i64 0), zyQ, zyQ, zyQ, .v (.int .i64 0), .v (.bool false), zyQ, .v (.int .i64 0), .v (.int .i64 0)]]), (20, .rows true 0 9 [[.v (.int .i64 b.cells), zcr b.next, zas b.turn, .sl 22 0 3 0 0, .v (.int .i64 R), .v (.bool (decide (x.f1.tmod 4 = 3))), zyQ, .v (.int .i64 3), .v (.int .i64 2)]]), (22, .rows true 0 3 (ksR x 0)), (35, .rows true 0 3 [[.v (.string ⟨#[97]⟩), .sl 37 n 1 0 n, .v (.bool (decide (zhA .u8 x.f2 1 = 1)))]]), (37, .rows true n 1 (psR f kk n))], 38⟩)
      (fun d n => n + d = min kk.length 4) ?_ (min kk.length 4) 0 ?_) ?_ ?_
     ·rintro d n n1 hrec1
      repeat first|with_reducible refine wV fun _=>?_|simp [go_sem, hk0]
      refine zyK (fun hn => ?_) (fun hn => ?_) <;> simp at hn
      ·have hn1 : n < kk.length := by omega
       have hn2 := hkv _ (zan hn1)
       have hpl := zfM f kk (n := n) (by omega)
       repeat first|with_reducible refine wV fun _=>?_|simp [go_sem, hk0, hn1]
       refine zyM (hfp _ hn2) (by simp [go_sem]) ?_
       repeat first|with_reducible refine wV fun _=>?_|simp [go_sem, hk0, hn1, hpl]
       refine zyI (hrec1 (d - 1) (by omega) (n + 1) (by omega)) ?_ (by simp)
       simp [go_sem, zah, hk0, zi1 f kk hn1]
      ·have hne : n = min kk.length 4 := by omega
       repeat first|with_reducible refine wV fun _=>?_|simp [go_sem]
       refine zyI (hrec (d0 - 1) (by omega) (0 + 1) (by omega)) ?_ (by simp)
       have hkx : zvD (zeE x 0) = [.v (.string ⟨#[97]⟩), .lst 1 (psR f kk n), .v (.bool (decide (zhA .u8 x.f2 1 = 1)))] := by rw [hks, show psR f kk n = psR f kk (min kk.length 4) by rw [← hne]]; simp [zvD, zaY, psR, zpQ, zpR, zar]; omega
       have hpl := zfM f kk (n := n) (by omega)
       simp [go_sem, zah, hk0, ziV x 0, hkx]
       (try refine zag (.refl _) (.cons (.cons (.refl _) (.cons ?_ (.cons (.refl _) .nil))) .nil))
       refine LeV.frz rfl ?_ ?_ (zyT ?_) <;> simp [mkH, upd, hpl, List.take_of_length_le]
     ·omega
     ·simp [go_sem, zah, hk0]
     ·simp
    ·obtain ⟨kk, hkk⟩ : ∃ kk, kk = x.ks 1 := ⟨_, rfl⟩
     have hk0 : x.k1 = kk := hkk.symm
     rw [← hkk] at hkl hkv hks
     have hbit : ztK x.f2 1 = decide (zhA .u8 (x.f2.fdiv 2) 1 = 1) := by simp [ztK]
     obtain ⟨f, hf⟩ : ∃ f, f = (fun n => zkW n b.next.length K x.rights) := ⟨_, rfl⟩
     have hfp : ∀ n, U8 n → zaC Tryz.prog 69 [.v (.int .u8 n), .v (.int .i64 b.next.length), .v (.int .i64 K), .v (.int .i64 R)] (zar (f n)) := fun n hn => by
      rw [hf, ← hR]; exact zeS n _ _ _ hn (by omega) (by omega) (by omega)
     rw [← hf, hbit] at hks
     repeat first|with_reducible refine wV fun _=>?_|simp [go_sem, hk0]
     refine zyI (zyN (α := Nat) (fun n => ⟨[(1, .ref 0 0 12 0 0), (2, .ref 1 0 9 0 0), (3, .ref 20 0 9 0 0), (4, .v (.int .i64 K)), (5, .v (.int .i64 1)), (6, .ref 35 0 3 0 0), (7, .v (.int .i64 n))],
      [(0, .rows true 0 12 [zcz x]), (1, .rows true 0 9 [[.v (.int .i64 0), zyQ, zyQ, zyQ, .v (.int .i64 0), .v (.bool false), zyQ, .v (.int .i64 0), .v (.int .i64 0)]]), (20, .rows true 0 9 [[.v (.int .i64 b.cells), zcr b.next, zas b.turn, .sl 22 1 3 0 1, .v (.int .i64 R), .v (.bool (decide (x.f1.tmod 4 = 3))), zyQ, .v (.int .i64 3), .v (.int .i64 2)]]), (22, .rows true 1 3 (ksR x 1)), (35, .rows true 0 3 [[.v (.string ⟨#[98, 101, 101]⟩), .sl 37 n 1 0 n, .v (.bool (decide (zhA .u8 (x.f2.fdiv 2) 1 = 1)))]]), (37, .rows true n 1 (psR f kk n))], 38⟩)
      (fun d n => n + d = min kk.length 4) ?_ (min kk.length 4) 0 ?_) ?_ ?_
     ·rintro d n n1 hrec1
      repeat first|with_reducible refine wV fun _=>?_|simp [go_sem, hk0]
      refine zyK (fun hn => ?_) (fun hn => ?_) <;> simp at hn
      ·have hn1 : n < kk.length := by omega
       have hn2 := hkv _ (zan hn1)
       have hpl := zfM f kk (n := n) (by omega)
       repeat first|with_reducible refine wV fun _=>?_|simp [go_sem, hk0, hn1]
       refine zyM (hfp _ hn2) (by simp [go_sem]) ?_
       repeat first|with_reducible refine wV fun _=>?_|simp [go_sem, hk0, hn1, hpl]
       refine zyI (hrec1 (d - 1) (by omega) (n + 1) (by omega)) ?_ (by simp)
       simp [go_sem, zah, hk0, zi1 f kk hn1]
      ·have hne : n = min kk.length 4 := by omega
       repeat first|with_reducible refine wV fun _=>?_|simp [go_sem]
       refine zyI (hrec (d0 - 1) (by omega) (1 + 1) (by omega)) ?_ (by simp)
       have hkx : zvD (zeE x 1) = [.v (.string ⟨#[98, 101, 101]⟩), .lst 1 (psR f kk n), .v (.bool (decide (zhA .u8 (x.f2.fdiv 2) 1 = 1)))] := by rw [hks, show psR f kk n = psR f kk (min kk.length 4) by rw [← hne]]; simp [zvD, zaY, psR, zpQ, zpR, zar]; omega
       have hpl := zfM f kk (n := n) (by omega)
       simp [go_sem, zah, hk0, ziV x 1, hkx]
       (try refine zag (.refl _) (.cons (.cons (.refl _) (.cons ?_ (.cons (.refl _) .nil))) .nil))
       refine LeV.frz rfl ?_ ?_ (zyT ?_) <;> simp [mkH, upd, hpl, List.take_of_length_le]
     ·omega
     ·simp [go_sem, zah, hk0]
     ·simp
   ·have hiK : i = K := by omega
    subst hiK
    repeat first|with_reducible refine wV fun _=>?_|simp [go_sem]
    refine zyK (fun hb3 => ?_) (fun hb3 => ?_) <;> simp at hb3 <;> (repeat (first|with_reducible refine wV fun _=>?_|simp [go_sem]))
    all_goals refine zyK (fun hb4 => ?_) (fun hb4 => ?_) <;> simp at hb4 <;> (repeat (first|with_reducible refine wV fun _=>?_|simp [go_sem]))
    all_goals (
     refine zyI (zyN (α := Nat) (fun a => ⟨[(1, .ref 0 0 12 0 0), (2, .ref 1 0 9 0 0), (3, .ref 20 0 9 0 0), (4, .v (.int .i64 i)), (8, .v (.int .i64 a))],
      [(0, .rows true 0 12 [zcz x]), (1, .rows true 0 9 [[.v (.int .i64 0), zyQ, zyQ, zyQ, .v (.int .i64 0), .v (.bool false), zyQ, .v (.int .i64 0), .v (.int .i64 0)]]), (20, .rows true 0 9 [[.v (.int .i64 b.cells), zcr b.next, zas b.turn, .sl 22 i 3 0 i, .v (.int .i64 R), .v (.bool (decide (x.f1.tmod 4 = 3))), .sl 23 a 4 0 a, .v (.int .i64 bl), .v (.int .i64 en)]]), (22, .rows true i 3 (ksR x i)), (23, .rows true a 4 (clR b.cells i x.c a))], 24⟩)
      (fun d a => a + d = min x.c.length 3) ?_ (min x.c.length 3) 0 ?_) ?_ ?_
     ·rintro d j j1 hrec2
      repeat first|with_reducible refine wV fun _=>?_|simp [go_sem]
      refine zyK (fun hj => ?_) (fun hj => ?_) <;> simp at hj
      ·have hj1 : j < x.c.length := by omega
       have hjc := hx.c _ (zan hj1)
       have hpl := zmj b.cells i x.c (n := j) (by omega)
       have hsu := zqH b.cells i x.c hj1
       generalize hcx : nth x.c j = c at *
       obtain ⟨c0, c1, c2⟩ := c
       obtain ⟨u0, u1, u2⟩ := hjc
       obtain ⟨w0, w0'⟩ := qq _ u0
       obtain ⟨v0, v0'⟩ := u0
       obtain ⟨v1, v1'⟩ := u1
       obtain ⟨v2, v2'⟩ := u2
       simp only at v0 v0' v1 v1' v2 v2' w0 w0'
       have t0 := Int.tmod_nonneg 3 v0
       have t1 := Int.tmod_lt_of_pos c0 (show (0 : Int) < 3 by decide)
       have hip : (0 : Int) < i := by omega
       have k0 := Int.tmod_nonneg i v1
       have n0 := Int.tmod_nonneg b.cells v2
       have n1 := Int.tmod_nonneg 3 v2
       rcases (show c0.tmod 3 = 0 ∨ c0.tmod 3 = 1 ∨ c0.tmod 3 = 2 by omega) with ht | ht | ht
       ·have hr : zrX (zbl b.cells i (c0, c1, c2)) = [.v (.int .i64 1), .v (.int .i64 (c1.tmod i)), .v (.int .i64 0), .v (.int .i64 (1 + (c0.tdiv 4).tmod 3))] := by simp [zrX, zbl, za6, ht]
        repeat first|with_reducible refine wV fun _=>?_|simp [go_sem, hj1, hcx, ht, hpl]
        refine zyI (hrec2 (d - 1) (by omega) (j + 1) (by omega)) ?_ (by simp)
        simp [go_sem, zah, hsu, hr]
       ·have hr : zrX (zbl b.cells i (c0, c1, c2)) = [.v (.int .i64 2), .v (.int .i64 (c1.tmod i)), .v (.int .i64 (c2.tmod b.cells)), .v (.int .i64 (1 + (c0.tdiv 4).tmod 3))] := by simp [zrX, zbl, za6, ht]
        repeat first|with_reducible refine wV fun _=>?_|simp [go_sem, hj1, hcx, ht, hpl]
        refine zyI (hrec2 (d - 1) (by omega) (j + 1) (by omega)) ?_ (by simp)
        simp [go_sem, zah, hsu, hr]
       ·have hr : zrX (zbl b.cells i (c0, c1, c2)) = [.v (.int .i64 3), .v (.int .i64 0), .v (.int .i64 (c2.tmod 3)), .v (.int .i64 (1 + (c0.tdiv 4).tmod 3))] := by simp [zrX, zbl, za6, ht]
        repeat first|with_reducible refine wV fun _=>?_|simp [go_sem, hj1, hcx, ht, hpl]
        refine zyI (hrec2 (d - 1) (by omega) (j + 1) (by omega)) ?_ (by simp)
        simp [go_sem, zah, hsu, hr]
      ·have hki : zcT x = i := by rw [hK2, hK]
       have hjm : j = min x.c.length 3 := by omega
       have htk : x.c.take (min x.c.length 3) = x.c.take 3 := by rw [List.take_eq_take_iff]; omega
       have hpl := zmj b.cells i x.c (n := j) (by omega)
       have hkl : (ksR x i).length = i := zuq x i
       have hcl : clR b.cells i x.c j = ((x.c.take 3).map (zbl b.cells i)).map za6 := by unfold clR; rw [hjm, htk]
       have hG : zfm x = { cells := b.cells, next := b.next, turn := b.turn, kinds := (List.range i).map (zeE x), rights := R, must := decide (x.f1.tmod 4 = 3), clauses := (x.c.take 3).map (zbl b.cells i), blocked := bl, endless := en } := by
        unfold zfm; rw [hki, ← hbb, ← hR, ← hbl, ← hen]
       have hEnc : eg = [.v (.int .i64 b.cells), zcr b.next, zas b.turn, .lst 3 (ksR x i), .v (.int .i64 R), .v (.bool (decide (x.f1.tmod 4 = 3))), .lst 4 (clR b.cells i x.c j), .v (.int .i64 bl), .v (.int .i64 en)] := by
        rw [heg, hG, hcl]; rfl
       repeat first|with_reducible refine wV fun _=>?_|simp [go_sem]
       rw [hEnc]
       refine ⟨.cons (.refl _) (.cons (.refl _) (.cons (.refl _) (.cons (zam rfl (by omega) (by simp [noH]) (by rw [List.drop_zero, List.take_of_length_le (by omega)])) (.cons (.refl _) (.cons (.refl _) (.cons (zam rfl (by omega) (by simp [noH]) (by rw [List.drop_zero, List.take_of_length_le (by omega)])) (.cons (.refl _) (.cons (.refl _) .nil)))))))), ?_⟩
       intro c hc
       simp only [List.mem_cons, List.not_mem_nil, or_false] at hc
       rcases hc with rfl | rfl | rfl | rfl | rfl | rfl | rfl | rfl | rfl
       all_goals first | exact .v _ | simp [go_sem]
     ·omega
     ·simp [go_sem, zah, hbl, hen, hb3, hb4]
     ·simp)
  ·omega
  ·simp [go_sem, zah, hK]
  ·simp
 ·have hK2 : zcT x = 1 := by rw [hKn, if_pos (by simp [hk1])]
  rw [hK2] at hK
  repeat first|with_reducible refine wV fun _=>?_|simp [go_sem]
  refine zyI (zyN (α := Nat) (fun a => ⟨[(1, .ref 0 0 12 0 0), (2, .ref 1 0 9 0 0), (3, .ref 20 0 9 0 0), (4, .v (.int .i64 K)), (5, .v (.int .i64 a))],
   [(0, .rows true 0 12 [zcz x]), (1, .rows true 0 9 [[.v (.int .i64 0), zyQ, zyQ, zyQ, .v (.int .i64 0), .v (.bool false), zyQ, .v (.int .i64 0), .v (.int .i64 0)]]), (20, .rows true 0 9 [[.v (.int .i64 b.cells), zcr b.next, zas b.turn, .sl 22 a 3 0 a, .v (.int .i64 R), .v (.bool (decide (x.f1.tmod 4 = 3))), zyQ, .v (.int .i64 3), .v (.int .i64 2)]]), (22, .rows true a 3 (ksR x a))], 23⟩)
   (fun d a => a + d = K) ?_ K 0 ?_) ?_ ?_
  ·rintro d0 i i1 hrec
   repeat first|with_reducible refine wV fun _=>?_|simp [go_sem]
   refine zyK (fun hi => ?_) (fun hi => ?_) <;> simp at hi
   ·have hi2 : i = 0 ∨ i = 1 := by omega
    have hkl := hKl i
    have hkv := hKv i
    have hks : zeE x i = ⟨if i = 0 then zpQ else zpR, ((x.ks i).take 4).map (fun n => zkW n b.next.length K x.rights), ztK x.f2 i⟩ := by rw [hbb, hK, ← hK2]; rfl
    rcases hi2 with rfl | rfl
    ·obtain ⟨kk, hkk⟩ : ∃ kk, kk = x.ks 0 := ⟨_, rfl⟩
     have hk0 : x.k0 = kk := hkk.symm
     rw [← hkk] at hkl hkv hks
     have hbit : ztK x.f2 0 = decide (zhA .u8 x.f2 1 = 1) := by simp [ztK]
     obtain ⟨f, hf⟩ : ∃ f, f = (fun n => zkW n b.next.length K x.rights) := ⟨_, rfl⟩
     have hfp : ∀ n, U8 n → zaC Tryz.prog 69 [.v (.int .u8 n), .v (.int .i64 b.next.length), .v (.int .i64 K), .v (.int .i64 R)] (zar (f n)) := fun n hn => by
      rw [hf, ← hR]; exact zeS n _ _ _ hn (by omega) (by omega) (by omega)
     rw [← hf, hbit] at hks
     repeat first|with_reducible refine wV fun _=>?_|simp [go_sem, hk0]
     refine zyI (zyN (α := Nat) (fun n => ⟨[(1, .ref 0 0 12 0 0), (2, .ref 1 0 9 0 0), (3, .ref 20 0 9 0 0), (4, .v (.int .i64 K)), (5, .v (.int .i64 0)), (6, .ref 35 0 3 0 0), (7, .v (.int .i64 n))],
      [(0, .rows true 0 12 [zcz x]), (1, .rows true 0 9 [[.v (.int .i64 0), zyQ, zyQ, zyQ, .v (.int .i64 0), .v (.bool false), zyQ, .v (.int .i64 0), .v (.int .i64 0)]]), (20, .rows true 0 9 [[.v (.int .i64 b.cells), zcr b.next, zas b.turn, .sl 22 0 3 0 0, .v (.int .i64 R), .v (.bool (decide (x.f1.tmod 4 = 3))), zyQ, .v (.int .i64 3), .v (.int .i64 2)]]), (22, .rows true 0 3 (ksR x 0)), (35, .rows true 0 3 [[.v (.string ⟨#[97]⟩), .sl 37 n 1 0 n, .v (.bool (decide (zhA .u8 x.f2 1 = 1)))]]), (37, .rows true n 1 (psR f kk n))], 38⟩)
      (fun d n => n + d = min kk.length 4) ?_ (min kk.length 4) 0 ?_) ?_ ?_
     ·rintro d n n1 hrec1
      repeat first|with_reducible refine wV fun _=>?_|simp [go_sem, hk0]
      refine zyK (fun hn => ?_) (fun hn => ?_) <;> simp at hn
      ·have hn1 : n < kk.length := by omega
       have hn2 := hkv _ (zan hn1)
       have hpl := zfM f kk (n := n) (by omega)
       repeat first|with_reducible refine wV fun _=>?_|simp [go_sem, hk0, hn1]
       refine zyM (hfp _ hn2) (by simp [go_sem]) ?_
       repeat first|with_reducible refine wV fun _=>?_|simp [go_sem, hk0, hn1, hpl]
       refine zyI (hrec1 (d - 1) (by omega) (n + 1) (by omega)) ?_ (by simp)
       simp [go_sem, zah, hk0, zi1 f kk hn1]
      ·have hne : n = min kk.length 4 := by omega
       repeat first|with_reducible refine wV fun _=>?_|simp [go_sem]
       refine zyI (hrec (d0 - 1) (by omega) (0 + 1) (by omega)) ?_ (by simp)
       have hkx : zvD (zeE x 0) = [.v (.string ⟨#[97]⟩), .lst 1 (psR f kk n), .v (.bool (decide (zhA .u8 x.f2 1 = 1)))] := by rw [hks, show psR f kk n = psR f kk (min kk.length 4) by rw [← hne]]; simp [zvD, zaY, psR, zpQ, zpR, zar]; omega
       have hpl := zfM f kk (n := n) (by omega)
       simp [go_sem, zah, hk0, ziV x 0, hkx]
       (try refine zag (.refl _) (.cons (.cons (.refl _) (.cons ?_ (.cons (.refl _) .nil))) .nil))
       refine LeV.frz rfl ?_ ?_ (zyT ?_) <;> simp [mkH, upd, hpl, List.take_of_length_le]
     ·omega
     ·simp [go_sem, zah, hk0]
     ·simp
    ·obtain ⟨kk, hkk⟩ : ∃ kk, kk = x.ks 1 := ⟨_, rfl⟩
     have hk0 : x.k1 = kk := hkk.symm
     rw [← hkk] at hkl hkv hks
     have hbit : ztK x.f2 1 = decide (zhA .u8 (x.f2.fdiv 2) 1 = 1) := by simp [ztK]
     obtain ⟨f, hf⟩ : ∃ f, f = (fun n => zkW n b.next.length K x.rights) := ⟨_, rfl⟩
     have hfp : ∀ n, U8 n → zaC Tryz.prog 69 [.v (.int .u8 n), .v (.int .i64 b.next.length), .v (.int .i64 K), .v (.int .i64 R)] (zar (f n)) := fun n hn => by
      rw [hf, ← hR]; exact zeS n _ _ _ hn (by omega) (by omega) (by omega)
     rw [← hf, hbit] at hks
     repeat first|with_reducible refine wV fun _=>?_|simp [go_sem, hk0]
     refine zyI (zyN (α := Nat) (fun n => ⟨[(1, .ref 0 0 12 0 0), (2, .ref 1 0 9 0 0), (3, .ref 20 0 9 0 0), (4, .v (.int .i64 K)), (5, .v (.int .i64 1)), (6, .ref 35 0 3 0 0), (7, .v (.int .i64 n))],
      [(0, .rows true 0 12 [zcz x]), (1, .rows true 0 9 [[.v (.int .i64 0), zyQ, zyQ, zyQ, .v (.int .i64 0), .v (.bool false), zyQ, .v (.int .i64 0), .v (.int .i64 0)]]), (20, .rows true 0 9 [[.v (.int .i64 b.cells), zcr b.next, zas b.turn, .sl 22 1 3 0 1, .v (.int .i64 R), .v (.bool (decide (x.f1.tmod 4 = 3))), zyQ, .v (.int .i64 3), .v (.int .i64 2)]]), (22, .rows true 1 3 (ksR x 1)), (35, .rows true 0 3 [[.v (.string ⟨#[98, 101, 101]⟩), .sl 37 n 1 0 n, .v (.bool (decide (zhA .u8 (x.f2.fdiv 2) 1 = 1)))]]), (37, .rows true n 1 (psR f kk n))], 38⟩)
      (fun d n => n + d = min kk.length 4) ?_ (min kk.length 4) 0 ?_) ?_ ?_
     ·rintro d n n1 hrec1
      repeat first|with_reducible refine wV fun _=>?_|simp [go_sem, hk0]
      refine zyK (fun hn => ?_) (fun hn => ?_) <;> simp at hn
      ·have hn1 : n < kk.length := by omega
       have hn2 := hkv _ (zan hn1)
       have hpl := zfM f kk (n := n) (by omega)
       repeat first|with_reducible refine wV fun _=>?_|simp [go_sem, hk0, hn1]
       refine zyM (hfp _ hn2) (by simp [go_sem]) ?_
       repeat first|with_reducible refine wV fun _=>?_|simp [go_sem, hk0, hn1, hpl]
       refine zyI (hrec1 (d - 1) (by omega) (n + 1) (by omega)) ?_ (by simp)
       simp [go_sem, zah, hk0, zi1 f kk hn1]
      ·have hne : n = min kk.length 4 := by omega
       repeat first|with_reducible refine wV fun _=>?_|simp [go_sem]
       refine zyI (hrec (d0 - 1) (by omega) (1 + 1) (by omega)) ?_ (by simp)
       have hkx : zvD (zeE x 1) = [.v (.string ⟨#[98, 101, 101]⟩), .lst 1 (psR f kk n), .v (.bool (decide (zhA .u8 (x.f2.fdiv 2) 1 = 1)))] := by rw [hks, show psR f kk n = psR f kk (min kk.length 4) by rw [← hne]]; simp [zvD, zaY, psR, zpQ, zpR, zar]; omega
       have hpl := zfM f kk (n := n) (by omega)
       simp [go_sem, zah, hk0, ziV x 1, hkx]
       (try refine zag (.refl _) (.cons (.cons (.refl _) (.cons ?_ (.cons (.refl _) .nil))) .nil))
       refine LeV.frz rfl ?_ ?_ (zyT ?_) <;> simp [mkH, upd, hpl, List.take_of_length_le]
     ·omega
     ·simp [go_sem, zah, hk0]
     ·simp
   ·have hiK : i = K := by omega
    subst hiK
    repeat first|with_reducible refine wV fun _=>?_|simp [go_sem]
    refine zyK (fun hb3 => ?_) (fun hb3 => ?_) <;> simp at hb3 <;> (repeat (first|with_reducible refine wV fun _=>?_|simp [go_sem]))
    all_goals refine zyK (fun hb4 => ?_) (fun hb4 => ?_) <;> simp at hb4 <;> (repeat (first|with_reducible refine wV fun _=>?_|simp [go_sem]))
    all_goals (
     refine zyI (zyN (α := Nat) (fun a => ⟨[(1, .ref 0 0 12 0 0), (2, .ref 1 0 9 0 0), (3, .ref 20 0 9 0 0), (4, .v (.int .i64 i)), (8, .v (.int .i64 a))],
      [(0, .rows true 0 12 [zcz x]), (1, .rows true 0 9 [[.v (.int .i64 0), zyQ, zyQ, zyQ, .v (.int .i64 0), .v (.bool false), zyQ, .v (.int .i64 0), .v (.int .i64 0)]]), (20, .rows true 0 9 [[.v (.int .i64 b.cells), zcr b.next, zas b.turn, .sl 22 i 3 0 i, .v (.int .i64 R), .v (.bool (decide (x.f1.tmod 4 = 3))), .sl 23 a 4 0 a, .v (.int .i64 bl), .v (.int .i64 en)]]), (22, .rows true i 3 (ksR x i)), (23, .rows true a 4 (clR b.cells i x.c a))], 24⟩)
      (fun d a => a + d = min x.c.length 3) ?_ (min x.c.length 3) 0 ?_) ?_ ?_
     ·rintro d j j1 hrec2
      repeat first|with_reducible refine wV fun _=>?_|simp [go_sem]
      refine zyK (fun hj => ?_) (fun hj => ?_) <;> simp at hj
      ·have hj1 : j < x.c.length := by omega
       have hjc := hx.c _ (zan hj1)
       have hpl := zmj b.cells i x.c (n := j) (by omega)
       have hsu := zqH b.cells i x.c hj1
       generalize hcx : nth x.c j = c at *
       obtain ⟨c0, c1, c2⟩ := c
       obtain ⟨u0, u1, u2⟩ := hjc
       obtain ⟨w0, w0'⟩ := qq _ u0
       obtain ⟨v0, v0'⟩ := u0
       obtain ⟨v1, v1'⟩ := u1
       obtain ⟨v2, v2'⟩ := u2
       simp only at v0 v0' v1 v1' v2 v2' w0 w0'
       have t0 := Int.tmod_nonneg 3 v0
       have t1 := Int.tmod_lt_of_pos c0 (show (0 : Int) < 3 by decide)
       have hip : (0 : Int) < i := by omega
       have k0 := Int.tmod_nonneg i v1
       have n0 := Int.tmod_nonneg b.cells v2
       have n1 := Int.tmod_nonneg 3 v2
       rcases (show c0.tmod 3 = 0 ∨ c0.tmod 3 = 1 ∨ c0.tmod 3 = 2 by omega) with ht | ht | ht
       ·have hr : zrX (zbl b.cells i (c0, c1, c2)) = [.v (.int .i64 1), .v (.int .i64 (c1.tmod i)), .v (.int .i64 0), .v (.int .i64 (1 + (c0.tdiv 4).tmod 3))] := by simp [zrX, zbl, za6, ht]
        repeat first|with_reducible refine wV fun _=>?_|simp [go_sem, hj1, hcx, ht, hpl]
        refine zyI (hrec2 (d - 1) (by omega) (j + 1) (by omega)) ?_ (by simp)
        simp [go_sem, zah, hsu, hr]
       ·have hr : zrX (zbl b.cells i (c0, c1, c2)) = [.v (.int .i64 2), .v (.int .i64 (c1.tmod i)), .v (.int .i64 (c2.tmod b.cells)), .v (.int .i64 (1 + (c0.tdiv 4).tmod 3))] := by simp [zrX, zbl, za6, ht]
        repeat first|with_reducible refine wV fun _=>?_|simp [go_sem, hj1, hcx, ht, hpl]
        refine zyI (hrec2 (d - 1) (by omega) (j + 1) (by omega)) ?_ (by simp)
        simp [go_sem, zah, hsu, hr]
       ·have hr : zrX (zbl b.cells i (c0, c1, c2)) = [.v (.int .i64 3), .v (.int .i64 0), .v (.int .i64 (c2.tmod 3)), .v (.int .i64 (1 + (c0.tdiv 4).tmod 3))] := by simp [zrX, zbl, za6, ht]
        repeat first|with_reducible refine wV fun _=>?_|simp [go_sem, hj1, hcx, ht, hpl]
        refine zyI (hrec2 (d - 1) (by omega) (j + 1) (by omega)) ?_ (by simp)
        simp [go_sem, zah, hsu, hr]
      ·have hki : zcT x = i := by rw [hK2, hK]
       have hjm : j = min x.c.length 3 := by omega
       have htk : x.c.take (min x.c.length 3) = x.c.take 3 := by rw [List.take_eq_take_iff]; omega
       have hpl := zmj b.cells i x.c (n := j) (by omega)
       have hkl : (ksR x i).length = i := zuq x i
       have hcl : clR b.cells i x.c j = ((x.c.take 3).map (zbl b.cells i)).map za6 := by unfold clR; rw [hjm, htk]
       have hG : zfm x = { cells := b.cells, next := b.next, turn := b.turn, kinds := (List.range i).map (zeE x), rights := R, must := decide (x.f1.tmod 4 = 3), clauses := (x.c.take 3).map (zbl b.cells i), blocked := bl, endless := en } := by
        unfold zfm; rw [hki, ← hbb, ← hR, ← hbl, ← hen]
       have hEnc : eg = [.v (.int .i64 b.cells), zcr b.next, zas b.turn, .lst 3 (ksR x i), .v (.int .i64 R), .v (.bool (decide (x.f1.tmod 4 = 3))), .lst 4 (clR b.cells i x.c j), .v (.int .i64 bl), .v (.int .i64 en)] := by
        rw [heg, hG, hcl]; rfl
       repeat first|with_reducible refine wV fun _=>?_|simp [go_sem]
       rw [hEnc]
       refine ⟨.cons (.refl _) (.cons (.refl _) (.cons (.refl _) (.cons (zam rfl (by omega) (by simp [noH]) (by rw [List.drop_zero, List.take_of_length_le (by omega)])) (.cons (.refl _) (.cons (.refl _) (.cons (zam rfl (by omega) (by simp [noH]) (by rw [List.drop_zero, List.take_of_length_le (by omega)])) (.cons (.refl _) (.cons (.refl _) .nil)))))))), ?_⟩
       intro c hc
       simp only [List.mem_cons, List.not_mem_nil, or_false] at hc
       rcases hc with rfl | rfl | rfl | rfl | rfl | rfl | rfl | rfl | rfl
       all_goals first | exact .v _ | simp [go_sem]
     ·omega
     ·simp [go_sem, zah, hbl, hen, hb3, hb4]
     ·simp)
  ·omega
  ·simp [go_sem, zah, hK]
  ·simp
def addK (known nx : List zaj) (q : zaj) : List zaj := if q ∈ known ++ nx then nx else nx ++ [q]
def zpT (g : zaf) (known now : List zaj) : List zaj := (now.flatMap (zaH g)).foldl (addK known) []
theorem zgT (known : List zaj) : ∀ (l nx : List zaj) (q : zaj), q ∈ l.foldl (addK known) nx ↔ q ∈ nx ∨ q ∈ l ∧ q ∉ known
 | [], nx, q => by simp
 | r :: l, nx, q => by
  rw [List.foldl_cons, zgT known l]
  unfold addK
  by_cases hr : r ∈ known ++ nx
  ·rw [if_pos hr]
   rw [List.mem_append] at hr
   constructor
   ·rintro (h | ⟨h1, h2⟩)
    ·exact .inl h
    ·exact .inr ⟨List.mem_cons_of_mem _ h1, h2⟩
   ·rintro (h | ⟨h1, h2⟩)
    ·exact .inl h
    ·rcases List.mem_cons.1 h1 with rfl | h1
     ·rcases hr with hr | hr
      ·exact absurd hr h2
      ·exact .inl hr
     ·exact .inr ⟨h1, h2⟩
  ·rw [if_neg hr]
   rw [List.mem_append, not_or] at hr
   constructor
   ·rintro (h | ⟨h1, h2⟩)
    ·rcases List.mem_append.1 h with h | h
     ·exact .inl h
     ·simp only [List.mem_singleton] at h
      subst h
      exact .inr ⟨by simp, hr.1⟩
    ·exact .inr ⟨List.mem_cons_of_mem _ h1, h2⟩
   ·rintro (h | ⟨h1, h2⟩)
    ·exact .inl (List.mem_append.2 (.inl h))
    ·rcases List.mem_cons.1 h1 with rfl | h1
     ·exact .inl (by simp)
     ·exact .inr ⟨h1, h2⟩
theorem zfr (known : List zaj) : ∀ (l nx : List zaj), nx.Nodup → (l.foldl (addK known) nx).Nodup
 | [], nx, h => h
 | r :: l, nx, h => by
  rw [List.foldl_cons]
  refine zfr known l _ ?_
  unfold addK
  split
  ·exact h
  ·rename_i hr
   rw [List.mem_append, not_or] at hr
   refine List.nodup_append.2 ⟨h, by simp, ?_⟩
   intro a ha b hb e
   simp only [List.mem_singleton] at hb
   subst hb; subst e
   exact hr.2 ha
theorem zoj {g : zaf} {known now : List zaj} {q : zaj} : q ∈ zpT g known now ↔ (∃ r ∈ now, q ∈ zaH g r) ∧ q ∉ known := by
 unfold zpT
 rw [zgT, List.mem_flatMap]
 simp
theorem zpU (g : zaf) (known now : List zaj) : (zpT g known now).Nodup := zfr known _ [] (by simp)
theorem zpH {g : zaf} {known now : List zaj} (h : known.Nodup) : (known ++ zpT g known now).Nodup :=
 List.nodup_append.2 ⟨h, zpU g known now, fun a ha b hb e => (zoj.1 hb).2 (e ▸ ha)⟩
theorem zwJ {g : zaf} (hg : GOk g) {known now : List zaj} (hn : ∀ p ∈ now, POk g p) : ∀ q ∈ zpT g known now, POk g q := fun q hq => by
 obtain ⟨⟨r, hr, hm⟩, _⟩ := zoj.1 hq
 exact (zc7 hg (hn r hr) q hm).1
structure zgS (g : zaf) (known now : List zaj) : Prop where
 nd : known.Nodup
 sub : ∀ q ∈ now, q ∈ known
 inc : Inc now
 ok : ∀ q ∈ known, POk g q
theorem zzq {g : zaf} {p : zaj} (hp : POk g p) : zgS g [p] [p] :=
 ⟨by simp, fun q hq => hq, by simp [Inc], fun q hq => by simp only [List.mem_singleton] at hq; subst hq; exact hp⟩
theorem zgS.next {g : zaf} (hg : GOk g) {known now : List zaj} (h : zgS g known now) : zgS g (known ++ zpT g known now) (zbk zbw (zpT g known now)) :=
 ⟨zpH h.nd, fun q hq => List.mem_append.2 (.inr (za7.1 hq)), zhp za8 _, fun q hq => by
  rcases List.mem_append.1 hq with hq | hq
  ·exact h.ok q hq
  ·exact zwJ hg (fun r hr => h.ok r (h.sub r hr)) q hq⟩




def encD (D : List (List zaj)) : List (List AV) := D.map fun l => [zaz l]


@[go_sem] theorem encD_len (D : List (List zaj)) : (encD D).length = D.length := by simp [encD]
def backR (N : Nat) (G : List (List zaj)) (m : Nat) : List (List AV) := (List.range N).map fun j => if m ≤ j then [zaz (nth G j)] else [zyQ]
@[go_sem] theorem backR_len (N : Nat) (G : List (List zaj)) (m : Nat) : (backR N G m).length = N := by simp [backR]


end Go.Av
end
section
open Go Go.Proofs
namespace Go.Av
section Ways
variable {g : zaf} (hg : GOk g) {p : zaj} (hp : POk g p)
end Ways
end Go.Av
end
section
open Go Go.Proofs
namespace Go.Av
def zbe : zaf := ⟨3, [[1, 2, -1], [-1, 0, 1]], [1, 0], [⟨⟨⟨[97]⟩⟩, [[(1, 0), (3, 0)], [(1, 0), (4, 0), (6, 0)]], false⟩], 0, false, [], 3, 2⟩
def at9 (a b c side : Int) : zaj := ⟨[a, b, c], [0], [0], 0, side⟩
theorem zuk : zew zbe [0] := ⟨rfl, fun i hi => by
 obtain rfl : i = 0 := by simpa using hi
 exact ⟨by decide, by decide, by decide⟩⟩
theorem zla (a b c side : Int) (ha : 0 ≤ a ∧ a ≤ 2) (hb : 0 ≤ b ∧ b ≤ 2) (hc : 0 ≤ c ∧ c ≤ 2) (hs : side = 0 ∨ side = 1) : POk zbe (at9 a b c side) :=
 ⟨rfl, by
  intro x hx
  simp only [at9, List.mem_cons, List.not_mem_nil, or_false] at hx
  have : (zbe.kinds.length : Int) = 1 := rfl
  rcases hx with rfl | rfl | rfl <;> omega, zuk, zuk, by simp [at9], by simp [at9, zbe], hs⟩
theorem zcH : GOk zbe := by
 refine ⟨?_, by decide, by decide, by decide, by decide, ?_, by decide, by decide, ?_, ?_, by decide, by decide, ?_, by decide, by decide, by decide⟩
 ·refine ⟨?_, ?_, ?_, ?_, ?_, ?_, ?_⟩ <;> first | decide | skip
 ·intro d hd
  have : d = 0 ∨ d = 1 := by
   have : zbe.turn.length = 2 := rfl
   omega
  rcases this with rfl | rfl <;> decide
 ·intro k hk
  simp only [zbe, List.mem_singleton] at hk
  subst hk
  decide
 ·intro k hk q hq
  simp only [zbe, List.mem_singleton] at hk
  subst hk
  simp only [List.mem_cons, List.not_mem_nil, or_false] at hq
  rcases hq with rfl | rfl
  ·refine ⟨by decide, by decide, fun x hx => ?_, by decide, by decide, by decide⟩
   simp only [List.mem_cons, List.not_mem_nil, or_false] at hx
   rcases hx with rfl | rfl <;> exact ⟨by decide, by decide, by decide, by decide, by decide⟩
  ·refine ⟨by decide, by decide, fun x hx => ?_, by decide, by decide, by decide⟩
   simp only [List.mem_cons, List.not_mem_nil, or_false] at hx
   rcases hx with rfl | rfl | rfl <;> exact ⟨by decide, by decide, by decide, by decide, by decide⟩
 ·intro c hc
  simp [zbe] at hc
theorem zp8 : znb zbe := ⟨zcH, by decide, rfl, fun k hk => by
 simp only [zbe, List.mem_singleton] at hk
 subst hk
 rfl, by decide⟩
theorem zx8 {l m : List zaj} (hl : Inc l) (hm : Inc m) (h : ∀ q, q ∈ l ↔ q ∈ m) : l = m := by
 rw [← zl2 hl]
 exact zek za8 hm h
def zmg (p : zaj) (l : List zaj) : Bool := (zb1 zbe).all fun q => decide (p ∈ zaH zbe q) == decide (q ∈ l)
theorem zld {p : zaj} {l : List zaj} (hl : Inc l) (hok : ∀ q ∈ l, POk zbe q) (h : zmg p l = true) : zaG zbe p = l := by
 refine zx8 (zbK _ _) hl fun q => ?_
 rw [zb6 zcH]
 have key : ∀ q, POk zbe q → (p ∈ zaH zbe q ↔ q ∈ l) := fun q hq => by
  have := List.all_eq_true.1 h q ((zf2 zp8).2 hq)
  rw [beq_iff_eq] at this
  exact ⟨fun h => by rw [decide_eq_true h] at this; exact of_decide_eq_true this.symm, fun h => by rw [decide_eq_true h] at this; exact of_decide_eq_true this⟩
 exact ⟨fun ⟨h1, h2⟩ => (key q h1).1 h2, fun h => ⟨hok q h, (key q (hok q h)).2 h⟩⟩
theorem zxL : zmg (at9 0 2 0 0) [at9 0 0 2 1, at9 0 1 2 1] = true := by kernel_rfl
theorem zxM : zmg (at9 1 0 0 1) [] = true := by kernel_rfl
theorem zxJ : zbC zbe (at9 0 2 0 0) = ([at9 0 0 2 1, at9 0 1 2 1], 0) := by
 have : zaG zbe (at9 0 2 0 0) = [at9 0 0 2 1, at9 0 1 2 1] := zld (by
  refine List.Pairwise.cons (fun q hq => ?_) (List.pairwise_singleton _ _)
  simp only [List.mem_singleton] at hq
  subst hq
  decide) (fun q hq => by
  simp only [List.mem_cons, List.not_mem_nil, or_false] at hq
  rcases hq with rfl | rfl
  ·exact zla _ _ _ _ (by omega) (by omega) (by omega) (.inr rfl)
  ·exact zla _ _ _ _ (by omega) (by omega) (by omega) (.inr rfl)) zxL
 unfold zbC
 rw [this]
 rfl
theorem zxK : zbC zbe (at9 1 0 0 1) = ([], 0) := by
 have : zaG zbe (at9 1 0 0 1) = [] := zld List.Pairwise.nil (fun q hq => by cases hq) zxM
 unfold zbC
 rw [this]
 rfl
theorem zv8 : zcR zbe (at9 0 2 0 0) 0 = ([at9 0 2 0 0], 0) := zpn _ _
end Go.Av
end
