/- Contracts, paths: gen.extend. -/
import Derived.Test.YtmmboiafelbgbaaDM
section
set_option linter.unusedSimpArgs false
set_option linter.unusedVariables false
open Go Go.Proofs
set_option maxRecDepth 20000
set_option maxHeartbeats 4000000
namespace Go.Av
theorem slideP_append (p : PathD) : ∀ (l : List Int) (passed : List ActD) (c : Int), slideP p (l ++ [c]) passed = slideP p l passed ++ [onP p c (passed ++ l.map fun c => (3, c, 0))]
  | [], passed, c => by simp [slideP, onP]
  | d :: l, passed, c => by simp [slideP, slideP_append p l]
def passK (l : List Int) : List ActD := l.map fun c => (3, c, 0)
theorem passK_append (l : List Int) (c : Int) : passK (l ++ [c]) = passK l ++ [(3, c, 0)] := by simp [passK]
theorem passK_len (l : List Int) : (passK l).length = l.length := by simp [passK]
theorem slideP_succ (p : PathD) (l : List Int) {i : Nat} (h : i < l.length) : slideP p (l.take (i + 1)) [] = slideP p (l.take i) [] ++ [onP p (nth l i) (passK (l.take i))] ∧ passK (l.take (i + 1)) = passK (l.take i) ++ [(3, nth l i, 0)] := by
  rw [List.take_add_one, List.getElem?_eq_getElem h, nth_eq _ _ h, Option.toList_some, slideP_append, passK_append]
  exact ⟨by simp [passK], rfl⟩
theorem extend_pure (b : BoardD) (hb : BoardOk b) (h9 : b.cells ≤ 9) (side : Int) (p : PathD) (hp : p.acts.length ≤ 1000000) (x : Int × Int) :
    Pure Try.prog 98 [.agg (encB b), .v (.int .i64 side), .agg (encPath p), .agg [.v (.int .i64 x.1), .v (.int .i64 x.2)]] (encPt (extP b side p x)) := by
  refine Pure.of (ACallP.of_awp (by kernel_rfl) Try.func98 rfl rfl (Nat.le_of_ble_eq_true rfl) (by kernel_rfl) ?_)
  obtain ⟨op, N⟩ := x
  have hT := bTo_pure b hb side N p.to
  have hL := bLine_pure b hb side N p.to
  have hll := lineB_le hb (side := side) (d := N) (c := p.to)
  have hO := fun to more (h : more.length ≤ 1048576) => ext1_owns p to more (by omega) h
  have hE : extP b side p (op, N) = if op = 1 ∨ op = 7 then
    if toB b side N p.to < 0 then [] else if op = 1 then [onP p (toB b side N p.to) []] else [onP p p.to [(7, p.to, toB b side N p.to)]]
    else if op = 2 then slideP p (lineB b side N p.to) []
    else if op = 8 ∨ op = 9 ∨ op = 10 then [onP p p.to [(op, N, 0)]]
    else [onP p p.to [(op, p.to, 0)]] := rfl
  generalize toB b side N p.to = to at *
  generalize lineB b side N p.to = line at *
  generalize extP b side p (op, N) = R at *
  have hbl : ∀ n, (∀ c' ∈ encB b, Bel n c') = True := fun n => by simp [go_sem]
  have hel : (encB b).length = 3 := rfl
  have hte : (encB b).take 3 = encB b := rfl
  obtain ⟨eb, heb⟩ : ∃ eb, eb = encB b := ⟨_, rfl⟩
  rw [← heb] at hbl hel hT hL hte ⊢
  (repeat (first | ((with_reducible refine VC.mkL ?_ fun _ => ?_); · first | omega | exact True.intro | rfl) | ((with_reducible refine VC.mkD ?_ fun _ => ?_); · first | omega | exact True.intro | (intros; omega)) | ((with_reducible refine dEnd.mk ?_ ?_); · kernel_rfl) | (with_reducible refine adrZ.go ?_) | (simp [go_sem, hel, hte])))
  refine aIf.mkL (fun h1 => ?_) (fun h1 => ?_) <;> simp at h1
  · subst h1
    (repeat (first | ((with_reducible refine VC.mkL ?_ fun _ => ?_); · first | omega | exact True.intro | rfl) | ((with_reducible refine VC.mkD ?_ fun _ => ?_); · first | omega | exact True.intro | (intros; omega)) | ((with_reducible refine dEnd.mk ?_ ?_); · kernel_rfl) | (with_reducible refine adrZ.go ?_) | (simp [go_sem, hel, hte])))
    refine ACallP.plain hT (by simp [go_sem, hbl]) ?_
    (repeat (first | ((with_reducible refine VC.mkL ?_ fun _ => ?_); · first | omega | exact True.intro | rfl) | ((with_reducible refine VC.mkD ?_ fun _ => ?_); · first | omega | exact True.intro | (intros; omega)) | ((with_reducible refine dEnd.mk ?_ ?_); · kernel_rfl) | (with_reducible refine adrZ.go ?_) | (simp [go_sem, hel, hte])))
    refine aIf.mkL (fun ht => ?_) (fun ht => ?_) <;> simp at ht
    · rw [if_pos (by omega), if_pos ht] at hE
      rw [hE]
      (repeat (first | ((with_reducible refine VC.mkL ?_ fun _ => ?_); · first | omega | exact True.intro | rfl) | ((with_reducible refine VC.mkD ?_ fun _ => ?_); · first | omega | exact True.intro | (intros; omega)) | ((with_reducible refine dEnd.mk ?_ ?_); · kernel_rfl) | (with_reducible refine adrZ.go ?_) | (simp [go_sem, hel, hte])))
    · rw [if_pos (by omega), if_neg (by omega), if_pos rfl] at hE
      rw [hE]
      (repeat (first | ((with_reducible refine VC.mkL ?_ fun _ => ?_); · first | omega | exact True.intro | rfl) | ((with_reducible refine VC.mkD ?_ fun _ => ?_); · first | omega | exact True.intro | (intros; omega)) | ((with_reducible refine dEnd.mk ?_ ?_); · kernel_rfl) | (with_reducible refine adrZ.go ?_) | (simp [go_sem, hel, hte])))
      refine ACallP.ownsN (hO to [] (by simp)) (by simp [go_sem]) (by simp [go_sem]) ?_ (by simp [go_sem]) ?_
      · ((try simp only [encProg, encStep, encAct, encAs, encPath, encPt, encOut, encState, encPos, encOs, encSs, encPs, encIs, encGame, List.map_cons, List.map_nil, List.nil_append, List.append_nil, List.cons_append]); (repeat (first | (with_reducible exact LeRow.nil) | (with_reducible exact LeRows.nil) | (with_reducible exact LeV.refl _) | (with_reducible exact LeRow.refl _ _ _ _) | (with_reducible exact LeRows.refl _) | (with_reducible refine LeRow.cons ?_ ?_) | (with_reducible refine LeRows.cons ?_ ?_) | (with_reducible refine LeV.agg ?_) | (with_reducible refine LeV.tup ?_) | (with_reducible refine LeV.fn ?_ ?_) | (with_reducible exact LeV.nil _) | (with_reducible refine leRows_append (LeRows.refl _) ?_) | ((refine leV_frz rfl (by simp) (by simp [frzO, frz1, upd, noH]) ?_); (first | (simp [go_sem]; done) | (simp [go_sem]; exact List.take_of_length_le (by simp)))) | ((refine LeV.frz rfl (by simp) (by simp [frzO, frz1, upd, noH]) ?_); (simp only [List.drop_zero, List.take_succ_cons, List.take_zero, List.map_cons, List.map_nil])) | ((refine LeV.frzP rfl (by simp) (by simp) (by simp [frzO, frz1, upd, noH]) ?_); (simp only [nth_zero, List.drop_zero])))))
      · (repeat (first | ((with_reducible refine VC.mkL ?_ fun _ => ?_); · first | omega | exact True.intro | rfl) | ((with_reducible refine VC.mkD ?_ fun _ => ?_); · first | omega | exact True.intro | (intros; omega)) | ((with_reducible refine dEnd.mk ?_ ?_); · kernel_rfl) | (with_reducible refine adrZ.go ?_) | (simp [go_sem, hel, hte, onP])))
        ((try simp only [encProg, encStep, encAct, encAs, encPath, encPt, encOut, encState, encPos, encOs, encSs, encPs, encIs, encGame, List.map_cons, List.map_nil, List.nil_append, List.append_nil, List.cons_append]); (repeat (first | (with_reducible exact LeRow.nil) | (with_reducible exact LeRows.nil) | (with_reducible exact LeV.refl _) | (with_reducible exact LeRow.refl _ _ _ _) | (with_reducible exact LeRows.refl _) | (with_reducible refine LeRow.cons ?_ ?_) | (with_reducible refine LeRows.cons ?_ ?_) | (with_reducible refine LeV.agg ?_) | (with_reducible refine LeV.tup ?_) | (with_reducible refine LeV.fn ?_ ?_) | (with_reducible exact LeV.nil _) | (with_reducible refine leRows_append (LeRows.refl _) ?_) | ((refine leV_frz rfl (by simp) (by simp [frzO, frz1, upd, noH]) ?_); (first | (simp [go_sem]; done) | (simp [go_sem]; exact List.take_of_length_le (by simp)))) | ((refine LeV.frz rfl (by simp) (by simp [frzO, frz1, upd, noH]) ?_); (simp only [List.drop_zero, List.take_succ_cons, List.take_zero, List.map_cons, List.map_nil])) | ((refine LeV.frzP rfl (by simp) (by simp) (by simp [frzO, frz1, upd, noH]) ?_); (simp only [nth_zero, List.drop_zero])))))
  · (repeat (first | ((with_reducible refine VC.mkL ?_ fun _ => ?_); · first | omega | exact True.intro | rfl) | ((with_reducible refine VC.mkD ?_ fun _ => ?_); · first | omega | exact True.intro | (intros; omega)) | ((with_reducible refine dEnd.mk ?_ ?_); · kernel_rfl) | (with_reducible refine adrZ.go ?_) | (simp [go_sem, hel, hte])))
    refine aIf.mkL (fun h7 => ?_) (fun h7 => ?_) <;> simp at h7
    · subst h7
      (repeat (first | ((with_reducible refine VC.mkL ?_ fun _ => ?_); · first | omega | exact True.intro | rfl) | ((with_reducible refine VC.mkD ?_ fun _ => ?_); · first | omega | exact True.intro | (intros; omega)) | ((with_reducible refine dEnd.mk ?_ ?_); · kernel_rfl) | (with_reducible refine adrZ.go ?_) | (simp [go_sem, hel, hte])))
      refine ACallP.plain hT (by simp [go_sem, hbl]) ?_
      (repeat (first | ((with_reducible refine VC.mkL ?_ fun _ => ?_); · first | omega | exact True.intro | rfl) | ((with_reducible refine VC.mkD ?_ fun _ => ?_); · first | omega | exact True.intro | (intros; omega)) | ((with_reducible refine dEnd.mk ?_ ?_); · kernel_rfl) | (with_reducible refine adrZ.go ?_) | (simp [go_sem, hel, hte])))
      refine aIf.mkL (fun ht => ?_) (fun ht => ?_) <;> simp at ht
      · rw [if_pos (by omega), if_pos ht] at hE
        rw [hE]
        (repeat (first | ((with_reducible refine VC.mkL ?_ fun _ => ?_); · first | omega | exact True.intro | rfl) | ((with_reducible refine VC.mkD ?_ fun _ => ?_); · first | omega | exact True.intro | (intros; omega)) | ((with_reducible refine dEnd.mk ?_ ?_); · kernel_rfl) | (with_reducible refine adrZ.go ?_) | (simp [go_sem, hel, hte])))
      · rw [if_pos (by omega), if_neg (by omega), if_neg (by omega)] at hE
        rw [hE]
        (repeat (first | ((with_reducible refine VC.mkL ?_ fun _ => ?_); · first | omega | exact True.intro | rfl) | ((with_reducible refine VC.mkD ?_ fun _ => ?_); · first | omega | exact True.intro | (intros; omega)) | ((with_reducible refine dEnd.mk ?_ ?_); · kernel_rfl) | (with_reducible refine adrZ.go ?_) | (simp [go_sem, hel, hte])))
        refine ACallP.ownsN (hO p.to [(7, p.to, to)] (by simp)) (by simp [go_sem]) (by simp [go_sem]) ?_ (by simp [go_sem]) ?_
        · ((try simp only [encProg, encStep, encAct, encAs, encPath, encPt, encOut, encState, encPos, encOs, encSs, encPs, encIs, encGame, List.map_cons, List.map_nil, List.nil_append, List.append_nil, List.cons_append]); (repeat (first | (with_reducible exact LeRow.nil) | (with_reducible exact LeRows.nil) | (with_reducible exact LeV.refl _) | (with_reducible exact LeRow.refl _ _ _ _) | (with_reducible exact LeRows.refl _) | (with_reducible refine LeRow.cons ?_ ?_) | (with_reducible refine LeRows.cons ?_ ?_) | (with_reducible refine LeV.agg ?_) | (with_reducible refine LeV.tup ?_) | (with_reducible refine LeV.fn ?_ ?_) | (with_reducible exact LeV.nil _) | (with_reducible refine leRows_append (LeRows.refl _) ?_) | ((refine leV_frz rfl (by simp) (by simp [frzO, frz1, upd, noH]) ?_); (first | (simp [go_sem]; done) | (simp [go_sem]; exact List.take_of_length_le (by simp)))) | ((refine LeV.frz rfl (by simp) (by simp [frzO, frz1, upd, noH]) ?_); (simp only [List.drop_zero, List.take_succ_cons, List.take_zero, List.map_cons, List.map_nil])) | ((refine LeV.frzP rfl (by simp) (by simp) (by simp [frzO, frz1, upd, noH]) ?_); (simp only [nth_zero, List.drop_zero])))))
        · (repeat (first | ((with_reducible refine VC.mkL ?_ fun _ => ?_); · first | omega | exact True.intro | rfl) | ((with_reducible refine VC.mkD ?_ fun _ => ?_); · first | omega | exact True.intro | (intros; omega)) | ((with_reducible refine dEnd.mk ?_ ?_); · kernel_rfl) | (with_reducible refine adrZ.go ?_) | (simp [go_sem, hel, hte, onP])))
          ((try simp only [encProg, encStep, encAct, encAs, encPath, encPt, encOut, encState, encPos, encOs, encSs, encPs, encIs, encGame, List.map_cons, List.map_nil, List.nil_append, List.append_nil, List.cons_append]); (repeat (first | (with_reducible exact LeRow.nil) | (with_reducible exact LeRows.nil) | (with_reducible exact LeV.refl _) | (with_reducible exact LeRow.refl _ _ _ _) | (with_reducible exact LeRows.refl _) | (with_reducible refine LeRow.cons ?_ ?_) | (with_reducible refine LeRows.cons ?_ ?_) | (with_reducible refine LeV.agg ?_) | (with_reducible refine LeV.tup ?_) | (with_reducible refine LeV.fn ?_ ?_) | (with_reducible exact LeV.nil _) | (with_reducible refine leRows_append (LeRows.refl _) ?_) | ((refine leV_frz rfl (by simp) (by simp [frzO, frz1, upd, noH]) ?_); (first | (simp [go_sem]; done) | (simp [go_sem]; exact List.take_of_length_le (by simp)))) | ((refine LeV.frz rfl (by simp) (by simp [frzO, frz1, upd, noH]) ?_); (simp only [List.drop_zero, List.take_succ_cons, List.take_zero, List.map_cons, List.map_nil])) | ((refine LeV.frzP rfl (by simp) (by simp) (by simp [frzO, frz1, upd, noH]) ?_); (simp only [nth_zero, List.drop_zero])))))
    · rw [if_neg (by omega)] at hE
      (repeat (first | ((with_reducible refine VC.mkL ?_ fun _ => ?_); · first | omega | exact True.intro | rfl) | ((with_reducible refine VC.mkD ?_ fun _ => ?_); · first | omega | exact True.intro | (intros; omega)) | ((with_reducible refine dEnd.mk ?_ ?_); · kernel_rfl) | (with_reducible refine adrZ.go ?_) | (simp [go_sem, hel, hte])))
      refine aIf.mkL (fun h2 => ?_) (fun h2 => ?_) <;> simp at h2
      · subst h2
        rw [if_pos rfl] at hE
        (repeat (first | ((with_reducible refine VC.mkL ?_ fun _ => ?_); · first | omega | exact True.intro | rfl) | ((with_reducible refine VC.mkD ?_ fun _ => ?_); · first | omega | exact True.intro | (intros; omega)) | ((with_reducible refine dEnd.mk ?_ ?_); · kernel_rfl) | (with_reducible refine adrZ.go ?_) | (simp [go_sem, hel, hte])))
        refine ACallP.plain hL (by simp [go_sem, hbl]) ?_
        (repeat (first | ((with_reducible refine VC.mkL ?_ fun _ => ?_); · first | omega | exact True.intro | rfl) | ((with_reducible refine VC.mkD ?_ fun _ => ?_); · first | omega | exact True.intro | (intros; omega)) | ((with_reducible refine dEnd.mk ?_ ?_); · kernel_rfl) | (with_reducible refine adrZ.go ?_) | (simp [go_sem, hel, hte])))
        refine ALoop.start (ALoop.ind (α := Nat) (fun i => ⟨[(9, .fn (.func 120) [] [.ref 1 0 2 0 0]), (11, .sl 3 i 2 0 i), (12, .sl 4 i 3 0 i), (55, encIs line), (56, .v (.int .i64 line.length)), (57, .v (.int .i64 i))],
            [(1, .rows true 0 2 [encPath p]), (3, .rows true i 2 ((slideP p (line.take i) []).map encPath)), (4, .rows true i 3 ((passK (line.take i)).map encAct))], 5⟩)
          (fun d i => i + d = line.length) ?_ line.length 0 ?_) ?_ ?_
        · rintro d i i1 hrec
          have hsl : (slideP p (line.take i) []).length = i := by rw [slideP_len]; simp; omega
          have hpl : (passK (line.take i)).length = i := by rw [passK_len]; simp; omega
          (repeat (first | ((with_reducible refine VC.mkL ?_ fun _ => ?_); · first | omega | exact True.intro | rfl) | ((with_reducible refine VC.mkD ?_ fun _ => ?_); · first | omega | exact True.intro | (intros; omega)) | ((with_reducible refine dEnd.mk ?_ ?_); · kernel_rfl) | (with_reducible refine adrZ.go ?_) | (simp [go_sem, hel, hte])))
          refine aIf.mkL (fun hi => ?_) (fun hi => ?_) <;> simp at hi
          · obtain ⟨s1, s2⟩ := slideP_succ p line hi
            (repeat (first | ((with_reducible refine VC.mkL ?_ fun _ => ?_); · first | omega | exact True.intro | rfl) | ((with_reducible refine VC.mkD ?_ fun _ => ?_); · first | omega | exact True.intro | (intros; omega)) | ((with_reducible refine dEnd.mk ?_ ?_); · kernel_rfl) | (with_reducible refine adrZ.go ?_) | (simp [go_sem, hi])))
            refine ACallP.ownsN (hO (nth line i) (passK (line.take i)) (by omega)) (by simp [go_sem]) (by simp [go_sem]) ?_ (by simp [go_sem]) ?_
            · ((try simp only [encProg, encStep, encAct, encAs, encPath, encPt, encOut, encState, encPos, encOs, encSs, encPs, encIs, encGame, List.map_cons, List.map_nil, List.nil_append, List.append_nil, List.cons_append]); (repeat (first | (with_reducible exact LeRow.nil) | (with_reducible exact LeRows.nil) | (with_reducible exact LeV.refl _) | (with_reducible exact LeRow.refl _ _ _ _) | (with_reducible exact LeRows.refl _) | (with_reducible refine LeRow.cons ?_ ?_) | (with_reducible refine LeRows.cons ?_ ?_) | (with_reducible refine LeV.agg ?_) | (with_reducible refine LeV.tup ?_) | (with_reducible refine LeV.fn ?_ ?_) | (with_reducible exact LeV.nil _) | (with_reducible refine leRows_append (LeRows.refl _) ?_) | ((refine leV_frz rfl (by simp [hpl]) (by simp [frzO, frz1, upd, noH]) ?_); (first | (simp [go_sem, hpl]; done) | (simp [go_sem, hpl]; exact List.take_of_length_le (by simp [hpl])))) | ((refine LeV.frz rfl (by simp [hpl]) (by simp [frzO, frz1, upd, noH]) ?_); (simp only [List.drop_zero, List.take_succ_cons, List.take_zero, List.map_cons, List.map_nil])) | ((refine LeV.frzP rfl (by simp [hpl]) (by simp) (by simp [frzO, frz1, upd, noH]) ?_); (simp only [nth_zero, List.drop_zero])))))
            · (repeat (first | ((with_reducible refine VC.mkL ?_ fun _ => ?_); · first | omega | exact True.intro | rfl) | ((with_reducible refine VC.mkD ?_ fun _ => ?_); · first | omega | exact True.intro | (intros; omega)) | ((with_reducible refine dEnd.mk ?_ ?_); · kernel_rfl) | (with_reducible refine adrZ.go ?_) | (simp [go_sem, hi, hsl, hpl])))
              refine ALoop.start (hrec (d - 1) (by omega) (i + 1) (by omega)) ?_ (by simp)
              simp [go_sem, Wk_eq, s1, s2, onP, hpl]
              ((try simp only [encProg, encStep, encAct, encAs, encPath, encPt, encOut, encState, encPos, encOs, encSs, encPs, encIs, encGame, List.map_cons, List.map_nil, List.nil_append, List.append_nil, List.cons_append]); (repeat (first | (with_reducible exact LeRow.nil) | (with_reducible exact LeRows.nil) | (with_reducible exact LeV.refl _) | (with_reducible exact LeRow.refl _ _ _ _) | (with_reducible exact LeRows.refl _) | (with_reducible refine LeRow.cons ?_ ?_) | (with_reducible refine LeRows.cons ?_ ?_) | (with_reducible refine LeV.agg ?_) | (with_reducible refine LeV.tup ?_) | (with_reducible refine LeV.fn ?_ ?_) | (with_reducible exact LeV.nil _) | (with_reducible refine leRows_append (LeRows.refl _) ?_) | ((refine leV_frz rfl (by simp [hpl]) (by simp [frzO, frz1, upd, noH]) ?_); (first | (simp [go_sem, hpl]; done) | (simp [go_sem, hpl]; exact List.take_of_length_le (by simp [hpl])))) | ((refine LeV.frz rfl (by simp [hpl]) (by simp [frzO, frz1, upd, noH]) ?_); (simp only [List.drop_zero, List.take_succ_cons, List.take_zero, List.map_cons, List.map_nil])) | ((refine LeV.frzP rfl (by simp [hpl]) (by simp) (by simp [frzO, frz1, upd, noH]) ?_); (simp only [nth_zero, List.drop_zero])))))
          · have hil : i = line.length := by omega
            subst hil
            rw [List.take_length] at hsl ⊢
            rw [hE]
            (repeat (first | ((with_reducible refine VC.mkL ?_ fun _ => ?_); · first | omega | exact True.intro | rfl) | ((with_reducible refine VC.mkD ?_ fun _ => ?_); · first | omega | exact True.intro | (intros; omega)) | ((with_reducible refine dEnd.mk ?_ ?_); · kernel_rfl) | (with_reducible refine adrZ.go ?_) | (simp [go_sem, hsl])))
            ((try simp only [encProg, encStep, encAct, encAs, encPath, encPt, encOut, encState, encPos, encOs, encSs, encPs, encIs, encGame, List.map_cons, List.map_nil, List.nil_append, List.append_nil, List.cons_append]); (repeat (first | (with_reducible exact LeRow.nil) | (with_reducible exact LeRows.nil) | (with_reducible exact LeV.refl _) | (with_reducible exact LeRow.refl _ _ _ _) | (with_reducible exact LeRows.refl _) | (with_reducible refine LeRow.cons ?_ ?_) | (with_reducible refine LeRows.cons ?_ ?_) | (with_reducible refine LeV.agg ?_) | (with_reducible refine LeV.tup ?_) | (with_reducible refine LeV.fn ?_ ?_) | (with_reducible exact LeV.nil _) | (with_reducible refine leRows_append (LeRows.refl _) ?_) | ((refine leV_frz rfl (by simp [hsl]) (by simp [frzO, frz1, upd, noH]) ?_); (first | (simp [go_sem, hsl]; done) | (simp [go_sem, hsl]; exact List.take_of_length_le (by simp [hsl])))) | ((refine LeV.frz rfl (by simp [hsl]) (by simp [frzO, frz1, upd, noH]) ?_); (simp only [List.drop_zero, List.take_succ_cons, List.take_zero, List.map_cons, List.map_nil])) | ((refine LeV.frzP rfl (by simp [hsl]) (by simp) (by simp [frzO, frz1, upd, noH]) ?_); (simp only [nth_zero, List.drop_zero])))))
        · simp
        · simp [go_sem, Wk_eq, slideP, passK]
        · simp
      · rw [if_neg h2] at hE
        (repeat (first | ((with_reducible refine VC.mkL ?_ fun _ => ?_); · first | omega | exact True.intro | rfl) | ((with_reducible refine VC.mkD ?_ fun _ => ?_); · first | omega | exact True.intro | (intros; omega)) | ((with_reducible refine dEnd.mk ?_ ?_); · kernel_rfl) | (with_reducible refine adrZ.go ?_) | (simp [go_sem, hel, hte])))
        refine aIf.mkL (fun h8 => ?_) (fun h8 => ?_) <;> simp at h8
        · subst h8
          rw [if_pos (by omega)] at hE
          rw [hE]
          (repeat (first | ((with_reducible refine VC.mkL ?_ fun _ => ?_); · first | omega | exact True.intro | rfl) | ((with_reducible refine VC.mkD ?_ fun _ => ?_); · first | omega | exact True.intro | (intros; omega)) | ((with_reducible refine dEnd.mk ?_ ?_); · kernel_rfl) | (with_reducible refine adrZ.go ?_) | (simp [go_sem, hel, hte])))
          refine ACallP.ownsN (hO p.to [(8, N, 0)] (by simp)) (by simp [go_sem]) (by simp [go_sem]) ?_ (by simp [go_sem]) ?_
          · ((try simp only [encProg, encStep, encAct, encAs, encPath, encPt, encOut, encState, encPos, encOs, encSs, encPs, encIs, encGame, List.map_cons, List.map_nil, List.nil_append, List.append_nil, List.cons_append]); (repeat (first | (with_reducible exact LeRow.nil) | (with_reducible exact LeRows.nil) | (with_reducible exact LeV.refl _) | (with_reducible exact LeRow.refl _ _ _ _) | (with_reducible exact LeRows.refl _) | (with_reducible refine LeRow.cons ?_ ?_) | (with_reducible refine LeRows.cons ?_ ?_) | (with_reducible refine LeV.agg ?_) | (with_reducible refine LeV.tup ?_) | (with_reducible refine LeV.fn ?_ ?_) | (with_reducible exact LeV.nil _) | (with_reducible refine leRows_append (LeRows.refl _) ?_) | ((refine leV_frz rfl (by simp) (by simp [frzO, frz1, upd, noH]) ?_); (first | (simp [go_sem]; done) | (simp [go_sem]; exact List.take_of_length_le (by simp)))) | ((refine LeV.frz rfl (by simp) (by simp [frzO, frz1, upd, noH]) ?_); (simp only [List.drop_zero, List.take_succ_cons, List.take_zero, List.map_cons, List.map_nil])) | ((refine LeV.frzP rfl (by simp) (by simp) (by simp [frzO, frz1, upd, noH]) ?_); (simp only [nth_zero, List.drop_zero])))))
          · (repeat (first | ((with_reducible refine VC.mkL ?_ fun _ => ?_); · first | omega | exact True.intro | rfl) | ((with_reducible refine VC.mkD ?_ fun _ => ?_); · first | omega | exact True.intro | (intros; omega)) | ((with_reducible refine dEnd.mk ?_ ?_); · kernel_rfl) | (with_reducible refine adrZ.go ?_) | (simp [go_sem, hel, hte, onP])))
            ((try simp only [encProg, encStep, encAct, encAs, encPath, encPt, encOut, encState, encPos, encOs, encSs, encPs, encIs, encGame, List.map_cons, List.map_nil, List.nil_append, List.append_nil, List.cons_append]); (repeat (first | (with_reducible exact LeRow.nil) | (with_reducible exact LeRows.nil) | (with_reducible exact LeV.refl _) | (with_reducible exact LeRow.refl _ _ _ _) | (with_reducible exact LeRows.refl _) | (with_reducible refine LeRow.cons ?_ ?_) | (with_reducible refine LeRows.cons ?_ ?_) | (with_reducible refine LeV.agg ?_) | (with_reducible refine LeV.tup ?_) | (with_reducible refine LeV.fn ?_ ?_) | (with_reducible exact LeV.nil _) | (with_reducible refine leRows_append (LeRows.refl _) ?_) | ((refine leV_frz rfl (by simp) (by simp [frzO, frz1, upd, noH]) ?_); (first | (simp [go_sem]; done) | (simp [go_sem]; exact List.take_of_length_le (by simp)))) | ((refine LeV.frz rfl (by simp) (by simp [frzO, frz1, upd, noH]) ?_); (simp only [List.drop_zero, List.take_succ_cons, List.take_zero, List.map_cons, List.map_nil])) | ((refine LeV.frzP rfl (by simp) (by simp) (by simp [frzO, frz1, upd, noH]) ?_); (simp only [nth_zero, List.drop_zero])))))
        · (repeat (first | ((with_reducible refine VC.mkL ?_ fun _ => ?_); · first | omega | exact True.intro | rfl) | ((with_reducible refine VC.mkD ?_ fun _ => ?_); · first | omega | exact True.intro | (intros; omega)) | ((with_reducible refine dEnd.mk ?_ ?_); · kernel_rfl) | (with_reducible refine adrZ.go ?_) | (simp [go_sem, hel, hte])))
          refine aIf.mkL (fun h99 => ?_) (fun h99 => ?_) <;> simp at h99
          · subst h99
            rw [if_pos (by omega)] at hE
            rw [hE]
            (repeat (first | ((with_reducible refine VC.mkL ?_ fun _ => ?_); · first | omega | exact True.intro | rfl) | ((with_reducible refine VC.mkD ?_ fun _ => ?_); · first | omega | exact True.intro | (intros; omega)) | ((with_reducible refine dEnd.mk ?_ ?_); · kernel_rfl) | (with_reducible refine adrZ.go ?_) | (simp [go_sem, hel, hte])))
            refine ACallP.ownsN (hO p.to [(9, N, 0)] (by simp)) (by simp [go_sem]) (by simp [go_sem]) ?_ (by simp [go_sem]) ?_
            · ((try simp only [encProg, encStep, encAct, encAs, encPath, encPt, encOut, encState, encPos, encOs, encSs, encPs, encIs, encGame, List.map_cons, List.map_nil, List.nil_append, List.append_nil, List.cons_append]); (repeat (first | (with_reducible exact LeRow.nil) | (with_reducible exact LeRows.nil) | (with_reducible exact LeV.refl _) | (with_reducible exact LeRow.refl _ _ _ _) | (with_reducible exact LeRows.refl _) | (with_reducible refine LeRow.cons ?_ ?_) | (with_reducible refine LeRows.cons ?_ ?_) | (with_reducible refine LeV.agg ?_) | (with_reducible refine LeV.tup ?_) | (with_reducible refine LeV.fn ?_ ?_) | (with_reducible exact LeV.nil _) | (with_reducible refine leRows_append (LeRows.refl _) ?_) | ((refine leV_frz rfl (by simp) (by simp [frzO, frz1, upd, noH]) ?_); (first | (simp [go_sem]; done) | (simp [go_sem]; exact List.take_of_length_le (by simp)))) | ((refine LeV.frz rfl (by simp) (by simp [frzO, frz1, upd, noH]) ?_); (simp only [List.drop_zero, List.take_succ_cons, List.take_zero, List.map_cons, List.map_nil])) | ((refine LeV.frzP rfl (by simp) (by simp) (by simp [frzO, frz1, upd, noH]) ?_); (simp only [nth_zero, List.drop_zero])))))
            · (repeat (first | ((with_reducible refine VC.mkL ?_ fun _ => ?_); · first | omega | exact True.intro | rfl) | ((with_reducible refine VC.mkD ?_ fun _ => ?_); · first | omega | exact True.intro | (intros; omega)) | ((with_reducible refine dEnd.mk ?_ ?_); · kernel_rfl) | (with_reducible refine adrZ.go ?_) | (simp [go_sem, hel, hte, onP])))
              ((try simp only [encProg, encStep, encAct, encAs, encPath, encPt, encOut, encState, encPos, encOs, encSs, encPs, encIs, encGame, List.map_cons, List.map_nil, List.nil_append, List.append_nil, List.cons_append]); (repeat (first | (with_reducible exact LeRow.nil) | (with_reducible exact LeRows.nil) | (with_reducible exact LeV.refl _) | (with_reducible exact LeRow.refl _ _ _ _) | (with_reducible exact LeRows.refl _) | (with_reducible refine LeRow.cons ?_ ?_) | (with_reducible refine LeRows.cons ?_ ?_) | (with_reducible refine LeV.agg ?_) | (with_reducible refine LeV.tup ?_) | (with_reducible refine LeV.fn ?_ ?_) | (with_reducible exact LeV.nil _) | (with_reducible refine leRows_append (LeRows.refl _) ?_) | ((refine leV_frz rfl (by simp) (by simp [frzO, frz1, upd, noH]) ?_); (first | (simp [go_sem]; done) | (simp [go_sem]; exact List.take_of_length_le (by simp)))) | ((refine LeV.frz rfl (by simp) (by simp [frzO, frz1, upd, noH]) ?_); (simp only [List.drop_zero, List.take_succ_cons, List.take_zero, List.map_cons, List.map_nil])) | ((refine LeV.frzP rfl (by simp) (by simp) (by simp [frzO, frz1, upd, noH]) ?_); (simp only [nth_zero, List.drop_zero])))))
          · (repeat (first | ((with_reducible refine VC.mkL ?_ fun _ => ?_); · first | omega | exact True.intro | rfl) | ((with_reducible refine VC.mkD ?_ fun _ => ?_); · first | omega | exact True.intro | (intros; omega)) | ((with_reducible refine dEnd.mk ?_ ?_); · kernel_rfl) | (with_reducible refine adrZ.go ?_) | (simp [go_sem, hel, hte])))
            refine aIf.mkL (fun h10 => ?_) (fun h10 => ?_) <;> simp at h10
            · subst h10
              rw [if_pos (by omega)] at hE
              rw [hE]
              (repeat (first | ((with_reducible refine VC.mkL ?_ fun _ => ?_); · first | omega | exact True.intro | rfl) | ((with_reducible refine VC.mkD ?_ fun _ => ?_); · first | omega | exact True.intro | (intros; omega)) | ((with_reducible refine dEnd.mk ?_ ?_); · kernel_rfl) | (with_reducible refine adrZ.go ?_) | (simp [go_sem, hel, hte])))
              refine ACallP.ownsN (hO p.to [(10, N, 0)] (by simp)) (by simp [go_sem]) (by simp [go_sem]) ?_ (by simp [go_sem]) ?_
              · ((try simp only [encProg, encStep, encAct, encAs, encPath, encPt, encOut, encState, encPos, encOs, encSs, encPs, encIs, encGame, List.map_cons, List.map_nil, List.nil_append, List.append_nil, List.cons_append]); (repeat (first | (with_reducible exact LeRow.nil) | (with_reducible exact LeRows.nil) | (with_reducible exact LeV.refl _) | (with_reducible exact LeRow.refl _ _ _ _) | (with_reducible exact LeRows.refl _) | (with_reducible refine LeRow.cons ?_ ?_) | (with_reducible refine LeRows.cons ?_ ?_) | (with_reducible refine LeV.agg ?_) | (with_reducible refine LeV.tup ?_) | (with_reducible refine LeV.fn ?_ ?_) | (with_reducible exact LeV.nil _) | (with_reducible refine leRows_append (LeRows.refl _) ?_) | ((refine leV_frz rfl (by simp) (by simp [frzO, frz1, upd, noH]) ?_); (first | (simp [go_sem]; done) | (simp [go_sem]; exact List.take_of_length_le (by simp)))) | ((refine LeV.frz rfl (by simp) (by simp [frzO, frz1, upd, noH]) ?_); (simp only [List.drop_zero, List.take_succ_cons, List.take_zero, List.map_cons, List.map_nil])) | ((refine LeV.frzP rfl (by simp) (by simp) (by simp [frzO, frz1, upd, noH]) ?_); (simp only [nth_zero, List.drop_zero])))))
              · (repeat (first | ((with_reducible refine VC.mkL ?_ fun _ => ?_); · first | omega | exact True.intro | rfl) | ((with_reducible refine VC.mkD ?_ fun _ => ?_); · first | omega | exact True.intro | (intros; omega)) | ((with_reducible refine dEnd.mk ?_ ?_); · kernel_rfl) | (with_reducible refine adrZ.go ?_) | (simp [go_sem, hel, hte, onP])))
                ((try simp only [encProg, encStep, encAct, encAs, encPath, encPt, encOut, encState, encPos, encOs, encSs, encPs, encIs, encGame, List.map_cons, List.map_nil, List.nil_append, List.append_nil, List.cons_append]); (repeat (first | (with_reducible exact LeRow.nil) | (with_reducible exact LeRows.nil) | (with_reducible exact LeV.refl _) | (with_reducible exact LeRow.refl _ _ _ _) | (with_reducible exact LeRows.refl _) | (with_reducible refine LeRow.cons ?_ ?_) | (with_reducible refine LeRows.cons ?_ ?_) | (with_reducible refine LeV.agg ?_) | (with_reducible refine LeV.tup ?_) | (with_reducible refine LeV.fn ?_ ?_) | (with_reducible exact LeV.nil _) | (with_reducible refine leRows_append (LeRows.refl _) ?_) | ((refine leV_frz rfl (by simp) (by simp [frzO, frz1, upd, noH]) ?_); (first | (simp [go_sem]; done) | (simp [go_sem]; exact List.take_of_length_le (by simp)))) | ((refine LeV.frz rfl (by simp) (by simp [frzO, frz1, upd, noH]) ?_); (simp only [List.drop_zero, List.take_succ_cons, List.take_zero, List.map_cons, List.map_nil])) | ((refine LeV.frzP rfl (by simp) (by simp) (by simp [frzO, frz1, upd, noH]) ?_); (simp only [nth_zero, List.drop_zero])))))
            · rw [if_neg (by omega)] at hE
              rw [hE]
              (repeat (first | ((with_reducible refine VC.mkL ?_ fun _ => ?_); · first | omega | exact True.intro | rfl) | ((with_reducible refine VC.mkD ?_ fun _ => ?_); · first | omega | exact True.intro | (intros; omega)) | ((with_reducible refine dEnd.mk ?_ ?_); · kernel_rfl) | (with_reducible refine adrZ.go ?_) | (simp [go_sem, hel, hte])))
              refine ACallP.ownsN (hO p.to [(op, p.to, 0)] (by simp)) (by simp [go_sem]) (by simp [go_sem]) ?_ (by simp [go_sem]) ?_
              · ((try simp only [encProg, encStep, encAct, encAs, encPath, encPt, encOut, encState, encPos, encOs, encSs, encPs, encIs, encGame, List.map_cons, List.map_nil, List.nil_append, List.append_nil, List.cons_append]); (repeat (first | (with_reducible exact LeRow.nil) | (with_reducible exact LeRows.nil) | (with_reducible exact LeV.refl _) | (with_reducible exact LeRow.refl _ _ _ _) | (with_reducible exact LeRows.refl _) | (with_reducible refine LeRow.cons ?_ ?_) | (with_reducible refine LeRows.cons ?_ ?_) | (with_reducible refine LeV.agg ?_) | (with_reducible refine LeV.tup ?_) | (with_reducible refine LeV.fn ?_ ?_) | (with_reducible exact LeV.nil _) | (with_reducible refine leRows_append (LeRows.refl _) ?_) | ((refine leV_frz rfl (by simp) (by simp [frzO, frz1, upd, noH]) ?_); (first | (simp [go_sem]; done) | (simp [go_sem]; exact List.take_of_length_le (by simp)))) | ((refine LeV.frz rfl (by simp) (by simp [frzO, frz1, upd, noH]) ?_); (simp only [List.drop_zero, List.take_succ_cons, List.take_zero, List.map_cons, List.map_nil])) | ((refine LeV.frzP rfl (by simp) (by simp) (by simp [frzO, frz1, upd, noH]) ?_); (simp only [nth_zero, List.drop_zero])))))
              · (repeat (first | ((with_reducible refine VC.mkL ?_ fun _ => ?_); · first | omega | exact True.intro | rfl) | ((with_reducible refine VC.mkD ?_ fun _ => ?_); · first | omega | exact True.intro | (intros; omega)) | ((with_reducible refine dEnd.mk ?_ ?_); · kernel_rfl) | (with_reducible refine adrZ.go ?_) | (simp [go_sem, hel, hte, onP])))
                ((try simp only [encProg, encStep, encAct, encAs, encPath, encPt, encOut, encState, encPos, encOs, encSs, encPs, encIs, encGame, List.map_cons, List.map_nil, List.nil_append, List.append_nil, List.cons_append]); (repeat (first | (with_reducible exact LeRow.nil) | (with_reducible exact LeRows.nil) | (with_reducible exact LeV.refl _) | (with_reducible exact LeRow.refl _ _ _ _) | (with_reducible exact LeRows.refl _) | (with_reducible refine LeRow.cons ?_ ?_) | (with_reducible refine LeRows.cons ?_ ?_) | (with_reducible refine LeV.agg ?_) | (with_reducible refine LeV.tup ?_) | (with_reducible refine LeV.fn ?_ ?_) | (with_reducible exact LeV.nil _) | (with_reducible refine leRows_append (LeRows.refl _) ?_) | ((refine leV_frz rfl (by simp) (by simp [frzO, frz1, upd, noH]) ?_); (first | (simp [go_sem]; done) | (simp [go_sem]; exact List.take_of_length_le (by simp)))) | ((refine LeV.frz rfl (by simp) (by simp [frzO, frz1, upd, noH]) ?_); (simp only [List.drop_zero, List.take_succ_cons, List.take_zero, List.map_cons, List.map_nil])) | ((refine LeV.frzP rfl (by simp) (by simp) (by simp [frzO, frz1, upd, noH]) ?_); (simp only [nth_zero, List.drop_zero])))))
end Go.Av
end
section
set_option linter.unusedSimpArgs false
set_option linter.unusedVariables false
open Go Go.Proofs
set_option maxRecDepth 20000
set_option maxHeartbeats 4000000
namespace Go.Av
def flatK {α β : Type} (F : α → List β) (l : List α) (i : Nat) : List β := (l.take i).flatMap F
theorem flatK_succ {α β : Type} [Inhabited α] (F : α → List β) (l : List α) {i : Nat} (h : i < l.length) : flatK F l (i + 1) = flatK F l i ++ F (nth l i) := by
  unfold flatK
  rw [List.take_add_one, List.getElem?_eq_getElem h, nth_eq _ _ h, Option.toList_some, List.flatMap_append]
  simp
theorem flatK_zero {α β : Type} (F : α → List β) (l : List α) : flatK F l 0 = [] := by simp [flatK]
theorem flatK_all {α β : Type} (F : α → List β) (l : List α) : flatK F l l.length = l.flatMap F := by simp [flatK]
theorem flatK_le {α β : Type} (F : α → List β) (l : List α) (i : Nat) : (flatK F l i).length ≤ (l.flatMap F).length := by
  unfold flatK
  conv => rhs; rw [← List.take_append_drop i l]
  rw [List.flatMap_append, List.length_append]
  omega
theorem flatQ_pure (l : List (List (Int × Int))) (hl : l.length ≤ 1048576) (f : FuncId) (caps : List AV) (F : List (Int × Int) → List PathD) (hF : ∀ x ∈ l, Pure Try.prog f (encProg x :: caps) (encPt (F x))) (hb : ∀ c ∈ caps, Bel 0 c)
    (hn : (l.flatMap F).length ≤ 8589934592) : Pure Try.prog 64 [.lst 1 (l.map fun p => [encProg p]), .fn (.func f) [] caps] (encPt (l.flatMap F)) := by
  refine Pure.of (ACallP.of_awp (by kernel_rfl) Try.func64 rfl rfl (Nat.le_of_ble_eq_true rfl) (by kernel_rfl) ?_)
  rw [← flatK_all F l] at hn ⊢
  (repeat (first | ((with_reducible refine VC.mkL ?_ fun _ => ?_); · first | omega | exact True.intro | rfl) | ((with_reducible refine VC.mkD ?_ fun _ => ?_); · first | omega | exact True.intro | (intros; omega)) | ((with_reducible refine dEnd.mk ?_ ?_); · kernel_rfl) | (with_reducible refine adrZ.go ?_) | (simp [go_sem])))
  refine ALoop.start (ALoop.ind (α := Nat) (fun i => ⟨[(1, .fn (.func f) [] caps), (5, .sl 0 i 2 0 (flatK F l i).length), (8, .lst 1 (l.map fun p => [encProg p])), (9, .v (.int .i64 l.length)), (10, .v (.int .i64 i))], [(0, .rows true i 2 ((flatK F l i).map encPath))], 1⟩)
    (fun d i => i + d = l.length) ?_ l.length 0 ?_) ?_ ?_
  · rintro d i i1 hrec
    have hni := flatK_le F l i
    (repeat (first | ((with_reducible refine VC.mkL ?_ fun _ => ?_); · first | omega | exact True.intro | rfl) | ((with_reducible refine VC.mkD ?_ fun _ => ?_); · first | omega | exact True.intro | (intros; omega)) | ((with_reducible refine dEnd.mk ?_ ?_); · kernel_rfl) | (with_reducible refine adrZ.go ?_) | (simp [go_sem])))
    refine aIf.mkL (fun hi => ?_) (fun hi => ?_) <;> simp at hi
    · have hs := flatK_succ F l hi
      have hns := flatK_le F l (i + 1)
      rw [hs, List.length_append] at hns
      rw [flatK_all] at hn
      (repeat (first | ((with_reducible refine VC.mkL ?_ fun _ => ?_); · first | omega | exact True.intro | rfl) | ((with_reducible refine VC.mkD ?_ fun _ => ?_); · first | omega | exact True.intro | (intros; omega)) | ((with_reducible refine dEnd.mk ?_ ?_); · kernel_rfl) | (with_reducible refine adrZ.go ?_) | (simp [go_sem, hi])))
      refine ACallP.plain (hF _ (nth_mem hi)) (by simp [go_sem]; exact hb) ?_
      (repeat (first | ((with_reducible refine VC.mkL ?_ fun _ => ?_); · first | omega | exact True.intro | rfl) | ((with_reducible refine VC.mkD ?_ fun _ => ?_); · first | omega | exact True.intro | (intros; omega)) | ((with_reducible refine dEnd.mk ?_ ?_); · kernel_rfl) | (with_reducible refine adrZ.go ?_) | (simp [go_sem, hi])))
      refine ALoop.start (hrec (d - 1) (by omega) (i + 1) (by omega)) ?_ (by simp)
      simp [go_sem, Wk_eq, hs]
      exact fun c hc => (hb c hc).mono (Nat.zero_le _)
    · have hil : i = l.length := by omega
      subst hil
      generalize flatK F l l.length = R at *
      (repeat (first | ((with_reducible refine VC.mkL ?_ fun _ => ?_); · first | omega | exact True.intro | rfl) | ((with_reducible refine VC.mkD ?_ fun _ => ?_); · first | omega | exact True.intro | (intros; omega)) | ((with_reducible refine dEnd.mk ?_ ?_); · kernel_rfl) | (with_reducible refine adrZ.go ?_) | (simp [go_sem])))
      ((try simp only [encProg, encStep, encAct, encAs, encPath, encPt, encOut, encState, encPos, encOs, encSs, encPs, encIs, encGame, List.map_cons, List.map_nil, List.nil_append, List.append_nil, List.cons_append]); (repeat (first | (with_reducible exact LeRow.nil) | (with_reducible exact LeRows.nil) | (with_reducible exact LeV.refl _) | (with_reducible exact LeRow.refl _ _ _ _) | (with_reducible exact LeRows.refl _) | (with_reducible refine LeRow.cons ?_ ?_) | (with_reducible refine LeRows.cons ?_ ?_) | (with_reducible refine LeV.agg ?_) | (with_reducible refine LeV.tup ?_) | (with_reducible refine LeV.fn ?_ ?_) | (with_reducible exact LeV.nil _) | (with_reducible refine leRows_append (LeRows.refl _) ?_) | ((refine leV_frz rfl (by simp) (by simp [frzO, frz1, upd, noH]) ?_); (first | (simp [go_sem]; done) | (simp [go_sem]; exact List.take_of_length_le (by simp)))) | ((refine LeV.frz rfl (by simp) (by simp [frzO, frz1, upd, noH]) ?_); (simp only [List.drop_zero, List.take_succ_cons, List.take_zero, List.map_cons, List.map_nil])) | ((refine LeV.frzP rfl (by simp) (by simp) (by simp [frzO, frz1, upd, noH]) ?_); (simp only [nth_zero, List.drop_zero])))))
  · simp
  · simp [go_sem, Wk_eq, flatK_zero]
    exact fun c hc => (hb c hc).mono (Nat.zero_le _)
  · simp
theorem flatP_pure (l : List PathD) (hl : l.length ≤ 1073741824) (f : FuncId) (caps : List AV) (F : PathD → List PathD) (hF : ∀ x ∈ l, Pure Try.prog f (.agg (encPath x) :: caps) (encPt (F x))) (hb : ∀ c ∈ caps, Bel 0 c)
    (hn : (l.flatMap F).length ≤ 8589934592) : Pure Try.prog 96 [encPt l, .fn (.func f) [] caps] (encPt (l.flatMap F)) := by
  refine Pure.of (ACallP.of_awp (by kernel_rfl) Try.func96 rfl rfl (Nat.le_of_ble_eq_true rfl) (by kernel_rfl) ?_)
  rw [← flatK_all F l] at hn ⊢
  (repeat (first | ((with_reducible refine VC.mkL ?_ fun _ => ?_); · first | omega | exact True.intro | rfl) | ((with_reducible refine VC.mkD ?_ fun _ => ?_); · first | omega | exact True.intro | (intros; omega)) | ((with_reducible refine dEnd.mk ?_ ?_); · kernel_rfl) | (with_reducible refine adrZ.go ?_) | (simp [go_sem])))
  refine ALoop.start (ALoop.ind (α := Nat) (fun i => ⟨[(1, .fn (.func f) [] caps), (5, .sl 0 i 2 0 (flatK F l i).length), (8, encPt l), (9, .v (.int .i64 l.length)), (10, .v (.int .i64 i))], [(0, .rows true i 2 ((flatK F l i).map encPath))], 1⟩)
    (fun d i => i + d = l.length) ?_ l.length 0 ?_) ?_ ?_
  · rintro d i i1 hrec
    have hni := flatK_le F l i
    (repeat (first | ((with_reducible refine VC.mkL ?_ fun _ => ?_); · first | omega | exact True.intro | rfl) | ((with_reducible refine VC.mkD ?_ fun _ => ?_); · first | omega | exact True.intro | (intros; omega)) | ((with_reducible refine dEnd.mk ?_ ?_); · kernel_rfl) | (with_reducible refine adrZ.go ?_) | (simp [go_sem])))
    refine aIf.mkL (fun hi => ?_) (fun hi => ?_) <;> simp at hi
    · have hs := flatK_succ F l hi
      have hns := flatK_le F l (i + 1)
      rw [hs, List.length_append] at hns
      rw [flatK_all] at hn
      (repeat (first | ((with_reducible refine VC.mkL ?_ fun _ => ?_); · first | omega | exact True.intro | rfl) | ((with_reducible refine VC.mkD ?_ fun _ => ?_); · first | omega | exact True.intro | (intros; omega)) | ((with_reducible refine dEnd.mk ?_ ?_); · kernel_rfl) | (with_reducible refine adrZ.go ?_) | (simp [go_sem, hi])))
      refine ACallP.plain (hF _ (nth_mem hi)) (by simp [go_sem]; exact hb) ?_
      (repeat (first | ((with_reducible refine VC.mkL ?_ fun _ => ?_); · first | omega | exact True.intro | rfl) | ((with_reducible refine VC.mkD ?_ fun _ => ?_); · first | omega | exact True.intro | (intros; omega)) | ((with_reducible refine dEnd.mk ?_ ?_); · kernel_rfl) | (with_reducible refine adrZ.go ?_) | (simp [go_sem, hi])))
      refine ALoop.start (hrec (d - 1) (by omega) (i + 1) (by omega)) ?_ (by simp)
      simp [go_sem, Wk_eq, hs]
      exact fun c hc => (hb c hc).mono (Nat.zero_le _)
    · have hil : i = l.length := by omega
      subst hil
      generalize flatK F l l.length = R at *
      (repeat (first | ((with_reducible refine VC.mkL ?_ fun _ => ?_); · first | omega | exact True.intro | rfl) | ((with_reducible refine VC.mkD ?_ fun _ => ?_); · first | omega | exact True.intro | (intros; omega)) | ((with_reducible refine dEnd.mk ?_ ?_); · kernel_rfl) | (with_reducible refine adrZ.go ?_) | (simp [go_sem])))
      ((try simp only [encProg, encStep, encAct, encAs, encPath, encPt, encOut, encState, encPos, encOs, encSs, encPs, encIs, encGame, List.map_cons, List.map_nil, List.nil_append, List.append_nil, List.cons_append]); (repeat (first | (with_reducible exact LeRow.nil) | (with_reducible exact LeRows.nil) | (with_reducible exact LeV.refl _) | (with_reducible exact LeRow.refl _ _ _ _) | (with_reducible exact LeRows.refl _) | (with_reducible refine LeRow.cons ?_ ?_) | (with_reducible refine LeRows.cons ?_ ?_) | (with_reducible refine LeV.agg ?_) | (with_reducible refine LeV.tup ?_) | (with_reducible refine LeV.fn ?_ ?_) | (with_reducible exact LeV.nil _) | (with_reducible refine leRows_append (LeRows.refl _) ?_) | ((refine leV_frz rfl (by simp) (by simp [frzO, frz1, upd, noH]) ?_); (first | (simp [go_sem]; done) | (simp [go_sem]; exact List.take_of_length_le (by simp)))) | ((refine LeV.frz rfl (by simp) (by simp [frzO, frz1, upd, noH]) ?_); (simp only [List.drop_zero, List.take_succ_cons, List.take_zero, List.map_cons, List.map_nil])) | ((refine LeV.frzP rfl (by simp) (by simp) (by simp [frzO, frz1, upd, noH]) ?_); (simp only [nth_zero, List.drop_zero])))))
  · simp
  · simp [go_sem, Wk_eq, flatK_zero]
    exact fun c hc => (hb c hc).mono (Nat.zero_le _)
  · simp
theorem paths1_pure (b : BoardD) (hb : BoardOk b) (h9 : b.cells ≤ 9) (side : Int) (p : PathD) (hp : p.acts.length ≤ 1000000) (x : Int × Int) :
    Pure Try.prog 97 [.agg (encPath p), .fp (encB b), .fp [.v (.int .i64 side)], .fp [.v (.int .i64 x.1), .v (.int .i64 x.2)]] (encPt (extP b side p x)) := by
  refine Pure.of (ACallP.of_awp (by kernel_rfl) Try.func97 rfl rfl (Nat.le_of_ble_eq_true rfl) (by kernel_rfl) ?_)
  have hE := extend_pure b hb h9 side p hp x
  generalize extP b side p x = R at *
  (repeat (first | ((with_reducible refine VC.mkL ?_ fun _ => ?_); · first | omega | exact True.intro | rfl) | ((with_reducible refine VC.mkD ?_ fun _ => ?_); · first | omega | exact True.intro | (intros; omega)) | ((with_reducible refine dEnd.mk ?_ ?_); · kernel_rfl) | (with_reducible refine adrZ.go ?_) | (simp [go_sem])))
  refine ACallP.plain hE (by simp [go_sem]) ?_
  (repeat (first | ((with_reducible refine VC.mkL ?_ fun _ => ?_); · first | omega | exact True.intro | rfl) | ((with_reducible refine VC.mkD ?_ fun _ => ?_); · first | omega | exact True.intro | (intros; omega)) | ((with_reducible refine dEnd.mk ?_ ?_); · kernel_rfl) | (with_reducible refine adrZ.go ?_) | (simp [go_sem])))
def pathsK (b : BoardD) (side : Int) (prog : List (Int × Int)) (cell : Int) (i : Nat) : List PathD := pathsP b side (prog.take i) cell
theorem pathsK_succ (b : BoardD) (side : Int) (prog : List (Int × Int)) (cell : Int) {i : Nat} (h : i < prog.length) : pathsK b side prog cell (i + 1) = (pathsK b side prog cell i).flatMap fun w => extP b side w (nth prog i) := by
  unfold pathsK pathsP
  rw [List.take_add_one, List.getElem?_eq_getElem h, nth_eq _ _ h, Option.toList_some, List.foldl_append]
  rfl
theorem pathsK_acts {b : BoardD} (hb : BoardOk b) (h9 : b.cells ≤ 9) (side : Int) (prog : List (Int × Int)) (cell : Int) : ∀ i, i ≤ prog.length → ActsLe (10 * i) (pathsK b side prog cell i)
  | 0, _ => by
    intro w hw
    simp [pathsK, pathsP] at hw
    subst hw
    simp
  | i + 1, h => by
    rw [pathsK_succ b side prog cell (by omega)]
    exact stepP_acts hb h9 side (pathsK_acts hb h9 side prog cell i (by omega)) _
theorem pathsK_len {b : BoardD} (hb : BoardOk b) (h1 : 1 ≤ b.cells) (h9 : b.cells ≤ 9) (side : Int) (prog : List (Int × Int)) (hp : prog.length ≤ 8) (cell : Int) (i : Nat) : (pathsK b side prog cell i).length ≤ 43046721 := by
  have h := pathsP_len hb h1 side (prog.take i) cell
  have hc : countOp (prog.take i) 2 ≤ 8 := by
    unfold countOp
    have := List.countP_le_length (p := fun x : Int × Int => x.1 == 2) (l := prog.take i)
    simp at this
    omega
  have h2 : b.cells.toNat ^ countOp (prog.take i) 2 ≤ 9 ^ countOp (prog.take i) 2 := Nat.pow_le_pow_left (by omega) _
  have h3 : 9 ^ countOp (prog.take i) 2 ≤ 9 ^ 8 := Nat.pow_le_pow_right (by omega) hc
  unfold pathsK
  omega
theorem paths_pure (b : BoardD) (hb : BoardOk b) (h1 : 1 ≤ b.cells) (h9 : b.cells ≤ 9) (side : Int) (prog : List (Int × Int)) (hp : prog.length ≤ 8) (cell : Int) :
    Pure Try.prog 66 [.agg (encB b), .v (.int .i64 side), encProg prog, .v (.int .i64 cell)] (encPt (pathsP b side prog cell)) := by
  refine Pure.of (ACallP.of_awp (by kernel_rfl) Try.func66 rfl rfl (Nat.le_of_ble_eq_true rfl) (by kernel_rfl) ?_)
  have hR : pathsP b side prog cell = pathsK b side prog cell prog.length := by unfold pathsK; rw [List.take_length]
  have hl := pathsK_len hb h1 h9 side prog hp cell
  have ha := pathsK_acts hb h9 side prog cell
  have hs := fun (i : Nat) (h : i < prog.length) => pathsK_succ b side prog cell h
  have h0 : pathsK b side prog cell 0 = [⟨[], cell⟩] := rfl
  rw [hR]
  have hP := fun w hw x => paths1_pure b hb h9 side w hw x
  generalize pathsK b side prog cell = K at *
  generalize hXb : extP b side = E at *
  have hbl : ∀ n, (∀ c' ∈ encB b, Bel n c') = True := fun n => by simp [go_sem]
  have hel : (encB b).length = 3 := rfl
  have hte : (encB b).take 3 = encB b := rfl
  obtain ⟨eb, heb⟩ : ∃ eb, eb = encB b := ⟨_, rfl⟩
  rw [← heb] at hbl hel hte ⊢
  have hP' : ∀ w : PathD, w.acts.length ≤ 1000000 → ∀ x : Int × Int, Pure Try.prog 97 [.agg (encPath w), .fp eb, .fp [.v (.int .i64 side)], .fp [.v (.int .i64 x.1), .v (.int .i64 x.2)]] (encPt (E w x)) := fun w hw x => by rw [heb]; exact hP w hw x
  clear hP
  (repeat (first | ((with_reducible refine VC.mkL ?_ fun _ => ?_); · first | omega | exact True.intro | rfl) | ((with_reducible refine VC.mkD ?_ fun _ => ?_); · first | omega | exact True.intro | (intros; omega)) | ((with_reducible refine dEnd.mk ?_ ?_); · kernel_rfl) | (with_reducible refine adrZ.go ?_) | (simp [go_sem, hel, hte])))
  refine ALoop.start (ALoop.ind (α := Nat) (fun i => ⟨[(4, .ref 0 0 3 0 0), (5, .ref 1 0 1 0 0), (9, encPt (K i)), (15, encProg prog), (16, .v (.int .i64 prog.length)), (17, .v (.int .i64 i))], [(0, .rows false 0 3 [eb]), (1, .rows false 0 1 [[.v (.int .i64 side)]])], 2⟩)
    (fun d i => i + d = prog.length) ?_ prog.length 0 ?_) ?_ ?_
  · rintro d i i1 hrec
    have hli := hl i
    (repeat (first | ((with_reducible refine VC.mkL ?_ fun _ => ?_); · first | omega | exact True.intro | rfl) | ((with_reducible refine VC.mkD ?_ fun _ => ?_); · first | omega | exact True.intro | (intros; omega)) | ((with_reducible refine dEnd.mk ?_ ?_); · kernel_rfl) | (with_reducible refine adrZ.go ?_) | (simp [go_sem, hel, hte])))
    refine aIf.mkL (fun hi => ?_) (fun hi => ?_) <;> simp at hi
    · have hsi := hs i hi
      have hls := hl (i + 1)
      have hai := ha i (by omega)
      (repeat (first | ((with_reducible refine VC.mkL ?_ fun _ => ?_); · first | omega | exact True.intro | rfl) | ((with_reducible refine VC.mkD ?_ fun _ => ?_); · first | omega | exact True.intro | (intros; omega)) | ((with_reducible refine dEnd.mk ?_ ?_); · kernel_rfl) | (with_reducible refine adrZ.go ?_) | (simp [go_sem, hel, hte, hi])))
      refine ACallP.pureF [2] (flatP_pure (K i) (by omega) 97 [.fp eb, .fp [.v (.int .i64 side)], .fp [.v (.int .i64 (nth prog i).1), .v (.int .i64 (nth prog i).2)]] (fun w => E w (nth prog i)) (fun w hw => hP' w (by have := hai w hw; omega) _) (by simp [go_sem, hbl]) (by rw [← hsi]; omega)) ?_ (by simp [go_sem, hbl]) ?_
      · ((try simp only [encProg, encStep, encAct, encAs, encPath, encPt, encOut, encState, encPos, encOs, encSs, encPs, encIs, encGame, List.map_cons, List.map_nil, List.nil_append, List.append_nil, List.cons_append]); (repeat (first | (with_reducible exact LeRow.nil) | (with_reducible exact LeRows.nil) | (with_reducible exact LeV.refl _) | (with_reducible exact LeRow.refl _ _ _ _) | (with_reducible exact LeRows.refl _) | (with_reducible refine LeRow.cons ?_ ?_) | (with_reducible refine LeRows.cons ?_ ?_) | (with_reducible refine LeV.agg ?_) | (with_reducible refine LeV.tup ?_) | (with_reducible refine LeV.fn ?_ ?_) | (with_reducible exact LeV.nil _) | (with_reducible refine leRows_append (LeRows.refl _) ?_) | ((refine leV_frz rfl (by simp) (by simp [frzO, frz1, upd, noH]) ?_); (first | (simp [go_sem]; done) | (simp [go_sem]; exact List.take_of_length_le (by simp)))) | ((refine LeV.frz rfl (by simp) (by simp [frzO, frz1, upd, noH]) ?_); (simp only [List.drop_zero, List.take_succ_cons, List.take_zero, List.map_cons, List.map_nil])) | ((refine LeV.frzP rfl (by simp) (by simp) (by simp [frzO, frz1, upd, noH]) ?_); (simp only [nth_zero, List.drop_zero])))))
      · rw [← hsi]
        (repeat (first | ((with_reducible refine VC.mkL ?_ fun _ => ?_); · first | omega | exact True.intro | rfl) | ((with_reducible refine VC.mkD ?_ fun _ => ?_); · first | omega | exact True.intro | (intros; omega)) | ((with_reducible refine dEnd.mk ?_ ?_); · kernel_rfl) | (with_reducible refine adrZ.go ?_) | (simp [go_sem, hel, hte])))
        refine ALoop.start (hrec (d - 1) (by omega) (i + 1) (by omega)) ?_ (by simp)
        simp [go_sem, Wk_eq, hbl]
    · have hil : i = prog.length := by omega
      subst hil
      generalize K prog.length = R at *
      (repeat (first | ((with_reducible refine VC.mkL ?_ fun _ => ?_); · first | omega | exact True.intro | rfl) | ((with_reducible refine VC.mkD ?_ fun _ => ?_); · first | omega | exact True.intro | (intros; omega)) | ((with_reducible refine dEnd.mk ?_ ?_); · kernel_rfl) | (with_reducible refine adrZ.go ?_) | (simp [go_sem])))
  · simp
  · simp [go_sem, Wk_eq, h0, hbl]
    ((try simp only [encProg, encStep, encAct, encAs, encPath, encPt, encOut, encState, encPos, encOs, encSs, encPs, encIs, encGame, List.map_cons, List.map_nil, List.nil_append, List.append_nil, List.cons_append]); (repeat (first | (with_reducible exact LeRow.nil) | (with_reducible exact LeRows.nil) | (with_reducible exact LeV.refl _) | (with_reducible exact LeRow.refl _ _ _ _) | (with_reducible exact LeRows.refl _) | (with_reducible refine LeRow.cons ?_ ?_) | (with_reducible refine LeRows.cons ?_ ?_) | (with_reducible refine LeV.agg ?_) | (with_reducible refine LeV.tup ?_) | (with_reducible refine LeV.fn ?_ ?_) | (with_reducible exact LeV.nil _) | (with_reducible refine leRows_append (LeRows.refl _) ?_) | ((refine leV_frz rfl (by simp) (by simp [frzO, frz1, upd, noH]) ?_); (first | (simp [go_sem]; done) | (simp [go_sem]; exact List.take_of_length_le (by simp)))) | ((refine LeV.frz rfl (by simp) (by simp [frzO, frz1, upd, noH]) ?_); (simp only [List.drop_zero, List.take_succ_cons, List.take_zero, List.map_cons, List.map_nil])) | ((refine LeV.frzP rfl (by simp) (by simp) (by simp [frzO, frz1, upd, noH]) ?_); (simp only [nth_zero, List.drop_zero])))))
  · simp
end Go.Av
end
section
set_option linter.unusedSimpArgs false
set_option linter.unusedVariables false
open Go Go.Proofs
set_option maxRecDepth 20000
set_option maxHeartbeats 4000000
namespace Go.Av
theorem compile1_pure (g : GameD) (hg : GOk g) (side : Int) (cell : Int) (prog : List (Int × Int)) (hp : prog.length ≤ 8) :
    Pure Try.prog 65 [encProg prog, .fp (encGame g), .fp [.v (.int .i64 side)], .fp [.v (.int .i64 cell)]] (encPt (pathsP g.board side prog cell)) := by
  refine Pure.of (ACallP.of_awp (by kernel_rfl) Try.func65 rfl rfl (Nat.le_of_ble_eq_true rfl) (by kernel_rfl) ?_)
  have hP := paths_pure g.board hg.board hg.c1 hg.c9 side prog hp cell
  generalize pathsP g.board side prog cell = R at *
  rw [show encB g.board = [.v (.int .i64 g.cells), encIss g.next, encIs g.turn] from rfl] at hP
  (repeat (first | ((with_reducible refine VC.mkL ?_ fun _ => ?_); · first | omega | exact True.intro | rfl) | ((with_reducible refine VC.mkD ?_ fun _ => ?_); · first | omega | exact True.intro | (intros; omega)) | ((with_reducible refine dEnd.mk ?_ ?_); · kernel_rfl) | (with_reducible refine adrZ.go ?_) | (simp [go_sem])))
  refine ACallP.plain hP (by simp [go_sem]) ?_
  (repeat (first | ((with_reducible refine VC.mkL ?_ fun _ => ?_); · first | omega | exact True.intro | rfl) | ((with_reducible refine VC.mkD ?_ fun _ => ?_); · first | omega | exact True.intro | (intros; omega)) | ((with_reducible refine dEnd.mk ?_ ?_); · kernel_rfl) | (with_reducible refine adrZ.go ?_) | (simp [go_sem])))
/-- a list that is filled from its beginning on -/
def fillR (f : Nat → List AV) (z : List AV) (n c : Nat) : List (List AV) := (List.range n).map fun i => if i < c then f i else z
theorem fillR_len (f : Nat → List AV) (z : List AV) (n c : Nat) : (fillR f z n c).length = n := by simp [fillR]
theorem fillR_zero (f : Nat → List AV) (z : List AV) (n : Nat) : List.replicate n z = fillR f z n 0 := by
  unfold fillR
  refine List.ext_getElem (by simp) fun i h1 h2 => ?_
  simp
theorem fillR_set (f : Nat → List AV) (z : List AV) (n c : Nat) : (fillR f z n c).set c (f c) = fillR f z n (c + 1) := by
  unfold fillR
  refine List.ext_getElem (by simp) fun i h1 h2 => ?_
  simp only [List.getElem_set, List.getElem_map, List.getElem_range]
  by_cases h : c = i
  · subst h; simp
  · rw [if_neg h]
    by_cases hi : i < c
    · rw [if_pos hi, if_pos (by omega)]
    · rw [if_neg hi, if_neg (by omega)]
theorem fillR_all (f : Nat → List AV) (z : List AV) (n : Nat) : fillR f z n n = (List.range n).map f := by
  unfold fillR
  refine List.map_congr_left fun i hi => ?_
  rw [if_pos (List.mem_range.1 hi)]
theorem fillR_bel {f : Nat → List AV} {z : List AV} {n c m : Nat} (hf : ∀ i, ∀ x ∈ f i, Bel m x) (hz : ∀ x ∈ z, Bel m x) : ∀ r ∈ fillR f z n c, ∀ x ∈ r, Bel m x := by
  intro r hr x hx
  unfold fillR at hr
  obtain ⟨i, _, rfl⟩ := List.mem_map.1 hr
  split at hx
  · exact hf i x hx
  · exact hz x hx
theorem frzO_upd (h : Heap) (o : Nat) (x : Option AObj) : frzO (upd h o x) [o] = upd h o (frz1 x) := by
  funext a
  unfold frzO upd
  by_cases e : a = o
  · subst e; simp
  · simp [e]
def sideK (g : GameD) (side : Int) (j : Nat) : List (List (List PathD)) := (g.kinds.take j).map fun k => cellsP g.board side k.progs
theorem sideK_succ (g : GameD) (side : Int) {j : Nat} (h : j < g.kinds.length) : sideK g side (j + 1) = sideK g side j ++ [cellsP g.board side (nth g.kinds j).progs] := by
  unfold sideK
  rw [List.take_add_one, List.getElem?_eq_getElem h, nth_eq _ _ h, Option.toList_some, List.map_append]
  rfl
theorem sideK_all (g : GameD) (side : Int) : sideK g side g.kinds.length = sideP g side := by unfold sideK sideP; rw [List.take_length]
theorem sideK_zero (g : GameD) (side : Int) : sideK g side 0 = [] := by simp [sideK]
theorem sideK_len (g : GameD) (side : Int) {j : Nat} (h : j ≤ g.kinds.length) : (sideK g side j).length = j := by simp [sideK]; omega
theorem kindP_len {g : GameD} (hg : GOk g) (side : Int) {k : KindD} (hk : k ∈ g.kinds) (cell : Int) : (kindP g.board side k.progs cell).length ≤ 8589934592 := by
  have h := flatMap_le (fun p => pathsP g.board side p cell) 43046721 k.progs (fun p hp => by
    have := pathsK_len hg.board hg.c1 hg.c9 side p (hg.pr k hk p hp).len cell p.length
    unfold pathsK at this
    rwa [List.take_length] at this)
  have := hg.pn k hk
  have h2 : k.progs.length * 43046721 ≤ 8 * 43046721 := Nat.mul_le_mul_right _ this
  unfold kindP
  omega
theorem Compile_pure (g : GameD) (hg : GOk g) : Pure Try.prog 16 [.agg (encGame g)] (.agg (encCode (codeP g))) := by
  refine Pure.of (ACallP.of_awp (by kernel_rfl) Try.func16 rfl rfl (Nat.le_of_ble_eq_true rfl) (by kernel_rfl) ?_)
  have hc9 := hg.c9
  have hc1 := hg.c1
  have hk6 := hg.k6
  have hF := fun (s : Int) (c : Int) (k : KindD) (hk : k ∈ g.kinds) => flatQ_pure k.progs (by have := hg.pn k hk; omega) 65 [.fp (encGame g), .fp [.v (.int .i64 s)], .fp [.v (.int .i64 c)]] (fun p => pathsP g.board s p c)
    (fun p hp => compile1_pure g hg s c p (hg.pr k hk p hp).len) (by simp [go_sem]) (kindP_len hg s hk c)
  have hkb : ∀ (s : Int) (k : KindD) (c : Nat), c < g.cells.toNat → True := fun _ _ _ _ => trivial
  have hR : encCode (codeP g) = [encSide (sideP g 0), encSide (sideP g 1)] := rfl
  rw [hR]
  clear hR
  have hsk := fun (s : Int) (j : Nat) (h : j < g.kinds.length) => sideK_succ g s h
  have hsa := fun s => sideK_all g s
  have hsz := fun s => sideK_zero g s
  have hsl := fun (s : Int) (j : Nat) (h : j ≤ g.kinds.length) => sideK_len g s h
  obtain ⟨C, hC⟩ : ∃ C : Nat, g.cells = C := ⟨g.cells.toNat, by omega⟩
  have hcells : ∀ (s : Int) (j : Nat), cellsP g.board s (nth g.kinds j).progs = (List.range C).map fun (c : Nat) => kindP g.board s (nth g.kinds j).progs c := fun s j => by
    unfold cellsP
    rw [show g.board.cells.toNat = C by have : g.board.cells = g.cells := rfl; omega]
  generalize sideK g = K at *
  have heg : encGame g = [.v (.int .i64 (C : Int)), encIss g.next, encIs g.turn, .lst 3 (g.kinds.map encKind), .v (.int .i64 g.rights), .v (.bool g.must), .lst 4 (g.clauses.map encClause), .v (.int .i64 g.blocked), .v (.int .i64 g.endless)] := by rw [← hC]; rfl
  rw [heg] at hF
  have hbl : ∀ n, (∀ c' ∈ encGame g, Bel n c') = True := fun n => by simp [go_sem]
  have hel : (encGame g).length = 9 := rfl
  (repeat (first | ((with_reducible refine VC.mkL ?_ fun _ => ?_); · first | omega | exact True.intro | rfl) | ((with_reducible refine VC.mkD ?_ fun _ => ?_); · first | omega | exact True.intro | (intros; omega)) | ((with_reducible refine dEnd.mk ?_ ?_); · kernel_rfl) | (with_reducible refine adrZ.go ?_) | (simp [go_sem, hel])))
  refine ALoop.start (ALoop.ind (α := Nat) (fun s => ⟨[(1, .ref 0 0 9 0 0), (2, .ref 1 0 2 0 0), (3, .ref 2 0 2 0 0), (9, .v (.int .i64 s))],
      [(0, .rows false 0 9 [encGame g]), (1, .rows true 0 2 [[AV.v (.slice none 0 0), AV.v (.slice none 0 0)]]), (2, .rows true 0 2 [[if s = 0 then AV.v (.slice none 0 0) else encSide (sideP g 0), if s < 2 then AV.v (.slice none 0 0) else encSide (sideP g 1)]])], 3⟩)
    (fun d s => s + d = 2) ?_ 2 0 ?_) ?_ ?_
  · rintro d0 s s1 hrec
    rcases (show s = 0 ∨ s = 1 ∨ s = 2 by omega) with rfl | rfl | rfl
    · have hFs := hF 0
      have hsk := hsk 0
      have hsa := hsa 0
      have hsz := hsz 0
      have hsl := hsl 0
      have hcells := hcells 0
      (repeat (first | ((with_reducible refine VC.mkL ?_ fun _ => ?_); · first | omega | exact True.intro | rfl) | ((with_reducible refine VC.mkD ?_ fun _ => ?_); · first | omega | exact True.intro | (intros; omega)) | ((with_reducible refine dEnd.mk ?_ ?_); · kernel_rfl) | (with_reducible refine adrZ.go ?_) | (simp [go_sem, hel, hC])))
      refine ALoop.start (ALoop.ind (α := Nat) (fun j => ⟨[(1, .ref 0 0 9 0 0), (2, .ref 1 0 2 0 0), (3, .ref 2 0 2 0 0), (4, .ref 3 0 1 0 0), (9, .v (.int .i64 0)), (13, .lst 3 (g.kinds.map encKind)), (14, .v (.int .i64 g.kinds.length)), (15, .v (.int .i64 j))],
          [(0, .rows false 0 9 [encGame g]), (1, .rows true 0 2 [[AV.v (.slice none 0 0), AV.v (.slice none 0 0)]]), (2, .rows true 0 2 [[.sl 4 j 1 0 j, AV.v (.slice none 0 0)]]), (3, .rows false 0 1 [[.v (.int .i64 0)]]), (4, .rows true j 1 ((K 0 j).map fun x => [encCells x]))], 5⟩)
        (fun d j => j + d = g.kinds.length) ?_ g.kinds.length 0 ?_) ?_ ?_
      · rintro d j j1 hrec2
        have hlj := hsl j (by omega)
        (repeat (first | ((with_reducible refine VC.mkL ?_ fun _ => ?_); · first | omega | exact True.intro | rfl) | ((with_reducible refine VC.mkD ?_ fun _ => ?_); · first | omega | exact True.intro | (intros; omega)) | ((with_reducible refine dEnd.mk ?_ ?_); · kernel_rfl) | (with_reducible refine adrZ.go ?_) | (simp [go_sem, hel, hC, hlj])))
        refine aIf.mkL (fun hj => ?_) (fun hj => ?_) <;> simp at hj
        · have hkm := nth_mem hj
          have hpn := hg.pn _ hkm
          have hFk := fun (c : Nat) => hFs c _ hkm
          have hsj := hsk j hj
          have hcj := hcells j
          have hlj1 := hsl (j + 1) (by omega)
          have hkp : ∀ c : Int, (nth g.kinds j).progs.flatMap (fun p => pathsP g.board 0 p c) = kindP g.board 0 (nth g.kinds j).progs c := fun c => rfl
          simp only [hkp] at hFk
          generalize kindP g.board 0 (nth g.kinds j).progs = KP at *
          (repeat (first | ((with_reducible refine VC.mkL ?_ fun _ => ?_); · first | omega | exact True.intro | rfl) | ((with_reducible refine VC.mkD ?_ fun _ => ?_); · first | omega | exact True.intro | (intros; omega)) | ((with_reducible refine dEnd.mk ?_ ?_); · kernel_rfl) | (with_reducible refine adrZ.go ?_) | (simp [go_sem, hel, hC, hj])))
          rw [fillR_zero (fun (i : Nat) => [.lst 2 ((KP i).map encPath)])]
          refine ALoop.start (ALoop.ind (α := Nat) (fun c => ⟨[(1, .ref 0 0 9 0 0), (2, .ref 1 0 2 0 0), (3, .ref 2 0 2 0 0), (4, .ref 3 0 1 0 0), (6, .ref 5 0 3 0 0), (7, .sl 6 0 1 0 C), (9, .v (.int .i64 0)), (13, .lst 3 (g.kinds.map encKind)), (14, .v (.int .i64 g.kinds.length)), (15, .v (.int .i64 j)), (24, .v (.int .i64 C)), (25, .v (.int .i64 c))],
              [(0, .rows false 0 9 [encGame g]), (1, .rows true 0 2 [[AV.v (.slice none 0 0), AV.v (.slice none 0 0)]]), (2, .rows true 0 2 [[.sl 4 j 1 0 j, AV.v (.slice none 0 0)]]), (3, .rows false 0 1 [[.v (.int .i64 0)]]), (4, .rows true j 1 ((K 0 j).map fun x => [encCells x])),
               (5, .rows true 0 3 [encKind (nth g.kinds j)]), (6, .rows true 0 1 (fillR (fun (i : Nat) => [.lst 2 ((KP i).map encPath)]) [AV.v (.slice none 0 0)] C c))], 7⟩)
            (fun d c => c + d = C) ?_ C 0 ?_) ?_ ?_
          · rintro d2 c c1' hrec3
            have hfl := fillR_len (fun (i : Nat) => [.lst 2 ((KP i).map encPath)]) [AV.v (.slice none 0 0)] C c
            have hfs := fillR_set (fun (i : Nat) => [.lst 2 ((KP i).map encPath)]) [AV.v (.slice none 0 0)] C c
            (repeat (first | ((with_reducible refine VC.mkL ?_ fun _ => ?_); · first | omega | exact True.intro | rfl) | ((with_reducible refine VC.mkD ?_ fun _ => ?_); · first | omega | exact True.intro | (intros; omega)) | ((with_reducible refine dEnd.mk ?_ ?_); · kernel_rfl) | (with_reducible refine adrZ.go ?_) | (simp [go_sem, hel, hC, hlj, hfl])))
            refine aIf.mkL (fun hc => ?_) (fun hc => ?_) <;> simp at hc
            · (repeat (first | ((with_reducible refine VC.mkL ?_ fun _ => ?_); · first | omega | exact True.intro | rfl) | ((with_reducible refine VC.mkD ?_ fun _ => ?_); · first | omega | exact True.intro | (intros; omega)) | ((with_reducible refine dEnd.mk ?_ ?_); · kernel_rfl) | (simp [go_sem, hel, hC, hj, hfl])))
              refine adrZ.frz (frzO _ [7]) (frz_frzO _ _) ?_
              simp only [frzO_upd]
              (repeat (first | ((with_reducible refine VC.mkL ?_ fun _ => ?_); · first | omega | exact True.intro | rfl) | ((with_reducible refine VC.mkD ?_ fun _ => ?_); · first | omega | exact True.intro | (intros; omega)) | ((with_reducible refine dEnd.mk ?_ ?_); · kernel_rfl) | (with_reducible refine adrZ.go ?_) | (simp [go_sem, hel, hC, hj, hfl])))
              try ((with_reducible refine adrZ.go ?_); (try simp [go_sem]))
              refine dCall.frz [.lst 1 ((nth g.kinds j).progs.map fun p => [encProg p]), _] _ [0, 3, 7] [] (hFk c) (by simp) ?_ (by simp [go_sem]) ?_
              · intro h₁ hS
                have h0 := hS 0 (by simp)
                have h3 := hS 3 (by simp)
                have h7 := hS 7 (by simp)
                simp [upd, frzO, frz1] at h0 h3 h7
                refine .cons (.refl _) (.cons (.fn .nil (.cons (.frzP h0.symm (by simp) (by simp) (by simp [applyW, upd, ← h0]) (.refl _ _ _ _)) (.cons (.frzP h3.symm (by simp) (by simp) (by simp [applyW, upd, ← h3]) (.refl _ _ _ _)) (.cons (.frzP h7.symm (by simp) (by simp) (by simp [applyW, upd, ← h7]) (.refl _ _ _ _)) .nil)))) .nil)
              · (repeat (first | ((with_reducible refine VC.mkL ?_ fun _ => ?_); · first | omega | exact True.intro | rfl) | ((with_reducible refine VC.mkD ?_ fun _ => ?_); · first | omega | exact True.intro | (intros; omega)) | ((with_reducible refine dEnd.mk ?_ ?_); · kernel_rfl) | (with_reducible refine adrZ.go ?_) | (simp [go_sem, hel, hC, hj, hfl])))
                refine ALoop.start (hrec3 (d2 - 1) (by omega) (c + 1) (by omega)) ?_ (by simp)
                simp [go_sem, Wk_eq, hfs, hC]
                exact fillR_bel (fun i x hx => by simp only [List.mem_singleton] at hx; subst hx; exact of_eq_true bel_Pas) (fun x hx => by simp only [List.mem_singleton] at hx; subst hx; exact .v _)
            · have hcC : c = C := by omega
              subst hcC
              rw [fillR_all]
              (repeat (first | ((with_reducible refine VC.mkL ?_ fun _ => ?_); · first | omega | exact True.intro | rfl) | ((with_reducible refine VC.mkD ?_ fun _ => ?_); · first | omega | exact True.intro | (intros; omega)) | ((with_reducible refine dEnd.mk ?_ ?_); · kernel_rfl) | (with_reducible refine adrZ.go ?_) | (simp [go_sem, hel, hC, hj])))
              refine ALoop.start (hrec2 (d - 1) (by omega) (j + 1) (by omega)) ?_ (by simp)
              simp [go_sem, Wk_eq, hsj, hcj, hC]
              ((try simp only [encProg, encStep, encAct, encAs, encPath, encPt, encOut, encState, encPos, encOs, encSs, encPs, encIs, encGame, List.map_cons, List.map_nil, List.nil_append, List.append_nil, List.cons_append]); (repeat (first | (with_reducible exact LeRow.nil) | (with_reducible exact LeRows.nil) | (with_reducible exact LeV.refl _) | (with_reducible exact LeRow.refl _ _ _ _) | (with_reducible exact LeRows.refl _) | (with_reducible refine LeRow.cons ?_ ?_) | (with_reducible refine LeRows.cons ?_ ?_) | (with_reducible refine LeV.agg ?_) | (with_reducible refine LeV.tup ?_) | (with_reducible refine LeV.fn ?_ ?_) | (with_reducible exact LeV.nil _) | (with_reducible refine leRows_append (LeRows.refl _) ?_) | ((refine leV_frz rfl (by simp) (by simp [frzO, frz1, upd, noH]) ?_); (first | (simp [go_sem]; done) | (simp [go_sem]; exact List.take_of_length_le (by simp)))) | ((refine LeV.frz rfl (by simp) (by simp [frzO, frz1, upd, noH]) ?_); (simp only [List.drop_zero, List.take_succ_cons, List.take_zero, List.map_cons, List.map_nil])) | ((refine LeV.frzP rfl (by simp) (by simp) (by simp [frzO, frz1, upd, noH]) ?_); (simp only [nth_zero, List.drop_zero])))))
          · simp
          · simp [go_sem, Wk_eq, hC]
            exact fillR_bel (fun i x hx => by simp only [List.mem_singleton] at hx; subst hx; exact of_eq_true bel_Pas) (fun x hx => by simp only [List.mem_singleton] at hx; subst hx; exact .v _)
          · simp
        · have hjl : j = g.kinds.length := by omega
          subst hjl
          rw [hsa]
          (repeat (first | ((with_reducible refine VC.mkL ?_ fun _ => ?_); · first | omega | exact True.intro | rfl) | ((with_reducible refine VC.mkD ?_ fun _ => ?_); · first | omega | exact True.intro | (intros; omega)) | ((with_reducible refine dEnd.mk ?_ ?_); · kernel_rfl) | (with_reducible refine adrZ.go ?_) | (simp [go_sem, hel, hC])))
          refine ALoop.start (hrec (d0 - 1) (by omega) (1) (by omega)) ?_ (by simp)
          have hsl' : (sideP g 0).length = g.kinds.length := by simp [sideP]
          simp [go_sem, Wk_eq, hC]
          ((try simp only [encProg, encStep, encAct, encAs, encPath, encPt, encOut, encState, encPos, encOs, encSs, encPs, encIs, encGame, List.map_cons, List.map_nil, List.nil_append, List.append_nil, List.cons_append]); (repeat (first | (with_reducible exact LeRow.nil) | (with_reducible exact LeRows.nil) | (with_reducible exact LeV.refl _) | (with_reducible exact LeRow.refl _ _ _ _) | (with_reducible exact LeRows.refl _) | (with_reducible refine LeRow.cons ?_ ?_) | (with_reducible refine LeRows.cons ?_ ?_) | (with_reducible refine LeV.agg ?_) | (with_reducible refine LeV.tup ?_) | (with_reducible refine LeV.fn ?_ ?_) | (with_reducible exact LeV.nil _) | (with_reducible refine leRows_append (LeRows.refl _) ?_) | ((refine leV_frz rfl (by simp [hsl']) (by simp [frzO, frz1, upd, noH]) ?_); (first | (simp [go_sem, hsl']; done) | (simp [go_sem, hsl']; exact List.take_of_length_le (by simp [hsl'])))) | ((refine LeV.frz rfl (by simp [hsl']) (by simp [frzO, frz1, upd, noH]) ?_); (simp only [List.drop_zero, List.take_succ_cons, List.take_zero, List.map_cons, List.map_nil])) | ((refine LeV.frzP rfl (by simp [hsl']) (by simp) (by simp [frzO, frz1, upd, noH]) ?_); (simp only [nth_zero, List.drop_zero])))))
      · simp
      · simp [go_sem, Wk_eq, hsz, hC]
      · simp
    · have hFs := hF 1
      have hsk := hsk 1
      have hsa := hsa 1
      have hsz := hsz 1
      have hsl := hsl 1
      have hcells := hcells 1
      (repeat (first | ((with_reducible refine VC.mkL ?_ fun _ => ?_); · first | omega | exact True.intro | rfl) | ((with_reducible refine VC.mkD ?_ fun _ => ?_); · first | omega | exact True.intro | (intros; omega)) | ((with_reducible refine dEnd.mk ?_ ?_); · kernel_rfl) | (with_reducible refine adrZ.go ?_) | (simp [go_sem, hel, hC])))
      refine ALoop.start (ALoop.ind (α := Nat) (fun j => ⟨[(1, .ref 0 0 9 0 0), (2, .ref 1 0 2 0 0), (3, .ref 2 0 2 0 0), (4, .ref 3 0 1 0 0), (9, .v (.int .i64 1)), (13, .lst 3 (g.kinds.map encKind)), (14, .v (.int .i64 g.kinds.length)), (15, .v (.int .i64 j))],
          [(0, .rows false 0 9 [encGame g]), (1, .rows true 0 2 [[AV.v (.slice none 0 0), AV.v (.slice none 0 0)]]), (2, .rows true 0 2 [[encSide (sideP g 0), .sl 4 j 1 0 j]]), (3, .rows false 0 1 [[.v (.int .i64 1)]]), (4, .rows true j 1 ((K 1 j).map fun x => [encCells x]))], 5⟩)
        (fun d j => j + d = g.kinds.length) ?_ g.kinds.length 0 ?_) ?_ ?_
      · rintro d j j1 hrec2
        have hlj := hsl j (by omega)
        (repeat (first | ((with_reducible refine VC.mkL ?_ fun _ => ?_); · first | omega | exact True.intro | rfl) | ((with_reducible refine VC.mkD ?_ fun _ => ?_); · first | omega | exact True.intro | (intros; omega)) | ((with_reducible refine dEnd.mk ?_ ?_); · kernel_rfl) | (with_reducible refine adrZ.go ?_) | (simp [go_sem, hel, hC, hlj])))
        refine aIf.mkL (fun hj => ?_) (fun hj => ?_) <;> simp at hj
        · have hkm := nth_mem hj
          have hpn := hg.pn _ hkm
          have hFk := fun (c : Nat) => hFs c _ hkm
          have hsj := hsk j hj
          have hcj := hcells j
          have hlj1 := hsl (j + 1) (by omega)
          have hkp : ∀ c : Int, (nth g.kinds j).progs.flatMap (fun p => pathsP g.board 1 p c) = kindP g.board 1 (nth g.kinds j).progs c := fun c => rfl
          simp only [hkp] at hFk
          generalize kindP g.board 1 (nth g.kinds j).progs = KP at *
          (repeat (first | ((with_reducible refine VC.mkL ?_ fun _ => ?_); · first | omega | exact True.intro | rfl) | ((with_reducible refine VC.mkD ?_ fun _ => ?_); · first | omega | exact True.intro | (intros; omega)) | ((with_reducible refine dEnd.mk ?_ ?_); · kernel_rfl) | (with_reducible refine adrZ.go ?_) | (simp [go_sem, hel, hC, hj])))
          rw [fillR_zero (fun (i : Nat) => [.lst 2 ((KP i).map encPath)])]
          refine ALoop.start (ALoop.ind (α := Nat) (fun c => ⟨[(1, .ref 0 0 9 0 0), (2, .ref 1 0 2 0 0), (3, .ref 2 0 2 0 0), (4, .ref 3 0 1 0 0), (6, .ref 5 0 3 0 0), (7, .sl 6 0 1 0 C), (9, .v (.int .i64 1)), (13, .lst 3 (g.kinds.map encKind)), (14, .v (.int .i64 g.kinds.length)), (15, .v (.int .i64 j)), (24, .v (.int .i64 C)), (25, .v (.int .i64 c))],
              [(0, .rows false 0 9 [encGame g]), (1, .rows true 0 2 [[AV.v (.slice none 0 0), AV.v (.slice none 0 0)]]), (2, .rows true 0 2 [[encSide (sideP g 0), .sl 4 j 1 0 j]]), (3, .rows false 0 1 [[.v (.int .i64 1)]]), (4, .rows true j 1 ((K 1 j).map fun x => [encCells x])),
               (5, .rows true 0 3 [encKind (nth g.kinds j)]), (6, .rows true 0 1 (fillR (fun (i : Nat) => [.lst 2 ((KP i).map encPath)]) [AV.v (.slice none 0 0)] C c))], 7⟩)
            (fun d c => c + d = C) ?_ C 0 ?_) ?_ ?_
          · rintro d2 c c1' hrec3
            have hfl := fillR_len (fun (i : Nat) => [.lst 2 ((KP i).map encPath)]) [AV.v (.slice none 0 0)] C c
            have hfs := fillR_set (fun (i : Nat) => [.lst 2 ((KP i).map encPath)]) [AV.v (.slice none 0 0)] C c
            (repeat (first | ((with_reducible refine VC.mkL ?_ fun _ => ?_); · first | omega | exact True.intro | rfl) | ((with_reducible refine VC.mkD ?_ fun _ => ?_); · first | omega | exact True.intro | (intros; omega)) | ((with_reducible refine dEnd.mk ?_ ?_); · kernel_rfl) | (with_reducible refine adrZ.go ?_) | (simp [go_sem, hel, hC, hlj, hfl])))
            refine aIf.mkL (fun hc => ?_) (fun hc => ?_) <;> simp at hc
            · (repeat (first | ((with_reducible refine VC.mkL ?_ fun _ => ?_); · first | omega | exact True.intro | rfl) | ((with_reducible refine VC.mkD ?_ fun _ => ?_); · first | omega | exact True.intro | (intros; omega)) | ((with_reducible refine dEnd.mk ?_ ?_); · kernel_rfl) | (simp [go_sem, hel, hC, hj, hfl])))
              refine adrZ.frz (frzO _ [7]) (frz_frzO _ _) ?_
              simp only [frzO_upd]
              (repeat (first | ((with_reducible refine VC.mkL ?_ fun _ => ?_); · first | omega | exact True.intro | rfl) | ((with_reducible refine VC.mkD ?_ fun _ => ?_); · first | omega | exact True.intro | (intros; omega)) | ((with_reducible refine dEnd.mk ?_ ?_); · kernel_rfl) | (with_reducible refine adrZ.go ?_) | (simp [go_sem, hel, hC, hj, hfl])))
              try ((with_reducible refine adrZ.go ?_); (try simp [go_sem]))
              refine dCall.frz [.lst 1 ((nth g.kinds j).progs.map fun p => [encProg p]), _] _ [0, 3, 7] [] (hFk c) (by simp) ?_ (by simp [go_sem]) ?_
              · intro h₁ hS
                have h0 := hS 0 (by simp)
                have h3 := hS 3 (by simp)
                have h7 := hS 7 (by simp)
                simp [upd, frzO, frz1] at h0 h3 h7
                refine .cons (.refl _) (.cons (.fn .nil (.cons (.frzP h0.symm (by simp) (by simp) (by simp [applyW, upd, ← h0]) (.refl _ _ _ _)) (.cons (.frzP h3.symm (by simp) (by simp) (by simp [applyW, upd, ← h3]) (.refl _ _ _ _)) (.cons (.frzP h7.symm (by simp) (by simp) (by simp [applyW, upd, ← h7]) (.refl _ _ _ _)) .nil)))) .nil)
              · (repeat (first | ((with_reducible refine VC.mkL ?_ fun _ => ?_); · first | omega | exact True.intro | rfl) | ((with_reducible refine VC.mkD ?_ fun _ => ?_); · first | omega | exact True.intro | (intros; omega)) | ((with_reducible refine dEnd.mk ?_ ?_); · kernel_rfl) | (with_reducible refine adrZ.go ?_) | (simp [go_sem, hel, hC, hj, hfl])))
                refine ALoop.start (hrec3 (d2 - 1) (by omega) (c + 1) (by omega)) ?_ (by simp)
                simp [go_sem, Wk_eq, hfs, hC]
                exact fillR_bel (fun i x hx => by simp only [List.mem_singleton] at hx; subst hx; exact of_eq_true bel_Pas) (fun x hx => by simp only [List.mem_singleton] at hx; subst hx; exact .v _)
            · have hcC : c = C := by omega
              subst hcC
              rw [fillR_all]
              (repeat (first | ((with_reducible refine VC.mkL ?_ fun _ => ?_); · first | omega | exact True.intro | rfl) | ((with_reducible refine VC.mkD ?_ fun _ => ?_); · first | omega | exact True.intro | (intros; omega)) | ((with_reducible refine dEnd.mk ?_ ?_); · kernel_rfl) | (with_reducible refine adrZ.go ?_) | (simp [go_sem, hel, hC, hj])))
              refine ALoop.start (hrec2 (d - 1) (by omega) (j + 1) (by omega)) ?_ (by simp)
              simp [go_sem, Wk_eq, hsj, hcj, hC]
              ((try simp only [encProg, encStep, encAct, encAs, encPath, encPt, encOut, encState, encPos, encOs, encSs, encPs, encIs, encGame, List.map_cons, List.map_nil, List.nil_append, List.append_nil, List.cons_append]); (repeat (first | (with_reducible exact LeRow.nil) | (with_reducible exact LeRows.nil) | (with_reducible exact LeV.refl _) | (with_reducible exact LeRow.refl _ _ _ _) | (with_reducible exact LeRows.refl _) | (with_reducible refine LeRow.cons ?_ ?_) | (with_reducible refine LeRows.cons ?_ ?_) | (with_reducible refine LeV.agg ?_) | (with_reducible refine LeV.tup ?_) | (with_reducible refine LeV.fn ?_ ?_) | (with_reducible exact LeV.nil _) | (with_reducible refine leRows_append (LeRows.refl _) ?_) | ((refine leV_frz rfl (by simp) (by simp [frzO, frz1, upd, noH]) ?_); (first | (simp [go_sem]; done) | (simp [go_sem]; exact List.take_of_length_le (by simp)))) | ((refine LeV.frz rfl (by simp) (by simp [frzO, frz1, upd, noH]) ?_); (simp only [List.drop_zero, List.take_succ_cons, List.take_zero, List.map_cons, List.map_nil])) | ((refine LeV.frzP rfl (by simp) (by simp) (by simp [frzO, frz1, upd, noH]) ?_); (simp only [nth_zero, List.drop_zero])))))
          · simp
          · simp [go_sem, Wk_eq, hC]
            exact fillR_bel (fun i x hx => by simp only [List.mem_singleton] at hx; subst hx; exact of_eq_true bel_Pas) (fun x hx => by simp only [List.mem_singleton] at hx; subst hx; exact .v _)
          · simp
        · have hjl : j = g.kinds.length := by omega
          subst hjl
          rw [hsa]
          (repeat (first | ((with_reducible refine VC.mkL ?_ fun _ => ?_); · first | omega | exact True.intro | rfl) | ((with_reducible refine VC.mkD ?_ fun _ => ?_); · first | omega | exact True.intro | (intros; omega)) | ((with_reducible refine dEnd.mk ?_ ?_); · kernel_rfl) | (with_reducible refine adrZ.go ?_) | (simp [go_sem, hel, hC])))
          refine ALoop.start (hrec (d0 - 1) (by omega) (2) (by omega)) ?_ (by simp)
          have hsl' : (sideP g 1).length = g.kinds.length := by simp [sideP]
          simp [go_sem, Wk_eq, hC]
          ((try simp only [encProg, encStep, encAct, encAs, encPath, encPt, encOut, encState, encPos, encOs, encSs, encPs, encIs, encGame, List.map_cons, List.map_nil, List.nil_append, List.append_nil, List.cons_append]); (repeat (first | (with_reducible exact LeRow.nil) | (with_reducible exact LeRows.nil) | (with_reducible exact LeV.refl _) | (with_reducible exact LeRow.refl _ _ _ _) | (with_reducible exact LeRows.refl _) | (with_reducible refine LeRow.cons ?_ ?_) | (with_reducible refine LeRows.cons ?_ ?_) | (with_reducible refine LeV.agg ?_) | (with_reducible refine LeV.tup ?_) | (with_reducible refine LeV.fn ?_ ?_) | (with_reducible exact LeV.nil _) | (with_reducible refine leRows_append (LeRows.refl _) ?_) | ((refine leV_frz rfl (by simp [hsl']) (by simp [frzO, frz1, upd, noH]) ?_); (first | (simp [go_sem, hsl']; done) | (simp [go_sem, hsl']; exact List.take_of_length_le (by simp [hsl'])))) | ((refine LeV.frz rfl (by simp [hsl']) (by simp [frzO, frz1, upd, noH]) ?_); (simp only [List.drop_zero, List.take_succ_cons, List.take_zero, List.map_cons, List.map_nil])) | ((refine LeV.frzP rfl (by simp [hsl']) (by simp) (by simp [frzO, frz1, upd, noH]) ?_); (simp only [nth_zero, List.drop_zero])))))
      · simp
      · simp [go_sem, Wk_eq, hsz, hC]
      · simp
    · (repeat (first | ((with_reducible refine VC.mkL ?_ fun _ => ?_); · first | omega | exact True.intro | rfl) | ((with_reducible refine VC.mkD ?_ fun _ => ?_); · first | omega | exact True.intro | (intros; omega)) | ((with_reducible refine dEnd.mk ?_ ?_); · kernel_rfl) | (with_reducible refine adrZ.go ?_) | (simp [go_sem])))
  · simp
  · simp [go_sem, Wk_eq]
  · simp
end Go.Av
end
