/- Contracts, part 9: Blank, place; the fixed examples of chapter 14. -/
import Derived.Test.YtmmboiafelbgbaaC8
set_option linter.unusedSimpArgs false
set_option linter.unusedVariables false
open Go Go.Proofs
set_option maxRecDepth 20000
namespace Go.Av
theorem leRows_append {h h' : Heap} {n : Nat} : ∀ {xs xs' ys ys' : List (List AV)}, LeRows h h' n xs xs' → LeRows h h' n ys ys' → LeRows h h' n (xs ++ ys) (xs' ++ ys')
  | [], _, _, _, .refl _, h2 => h2
  | [], _, _, _, .nil, h2 => h2
  | x :: xs, _, _, _, .refl _, h2 => .cons (.refl _ _ _ _) (leRows_append (.refl xs) h2)
  | _ :: _, _, _, _, .cons a b, h2 => .cons a (leRows_append b h2)
theorem LeRows.of_eq {h h' : Heap} {n : Nat} {xs ys : List (List AV)} (e : xs = ys) : LeRows h h' n xs ys := e ▸ .refl _
def blankK (kinds : Int) (k : Nat) : KindD := ⟨strOf [97 + k], [], decide ((k : Int) = kinds - 1)⟩
def blankG (cells kinds : Nat) : GameD := ⟨cells, [List.replicate cells (-1)], [0], (List.range kinds).map (blankK kinds), 2, false, [], 3, 2⟩
theorem Blank_pure (cells kinds : Nat) (h1 : cells ≤ 1000) (h2 : kinds ≤ 100) : Pure Try.prog 39 [.v (.int .i64 cells), .v (.int .i64 kinds)] (.agg (encGame (blankG cells kinds))) := by
  refine Pure.of (ACallP.of_awp (by kernel_rfl) Try.func39 rfl rfl (Nat.le_of_ble_eq_true rfl) (by kernel_rfl) ?_)
  (repeat (first | ((with_reducible refine VC.mkL ?_ fun _ => ?_); · first | omega | exact True.intro | rfl) | ((with_reducible refine VC.mkD ?_ fun _ => ?_); · first | omega | exact True.intro | (intros; omega)) | ((with_reducible refine dEnd.mk ?_ ?_); · kernel_rfl) | (simp [go_sem])))
  refine ALoop.start (ALoop.ind (α := Nat) (fun j => ⟨[(0, .v (.int .i64 cells)), (1, .v (.int .i64 kinds)), (4, .ref 0 0 9 0 0), (5, .ref 4 0 9 0 0), (6, .v (.int .i64 j))],
      [(0, .rows true 0 9 [[.v (.int .i64 0), .v (.slice none 0 0), .v (.slice none 0 0), .v (.slice none 0 0), .v (.int .i64 0), .v (.bool false), .v (.slice none 0 0), .v (.int .i64 0), .v (.int .i64 0)]]), (1, .rows true 0 1 ((List.replicate j (-1) ++ List.replicate (cells - j) 0).map encI)), (2, .rows true 0 1 [[.sl 1 0 1 0 cells]]), (3, .rows true 0 1 [[.v (.int .i64 0)]]),
       (4, .rows true 0 9 [[.v (.int .i64 cells), .sl 2 0 1 0 1, .sl 3 0 1 0 1, .v (.slice none 0 0), .v (.int .i64 2), .v (.bool false), .v (.slice none 0 0), .v (.int .i64 3), .v (.int .i64 2)]])], 5⟩)
    (fun d j => j + d = cells) ?_ cells 0 ?_) ?_ ?_
  · rintro d j i1 hrec
    have hjl : (List.replicate j (-1 : Int) ++ List.replicate (cells - j) 0).length = cells := by simp; omega
    have hset : (List.replicate j (-1 : Int) ++ List.replicate (cells - j) 0).set j (-1) = List.replicate (j + 1) (-1) ++ List.replicate (cells - (j + 1)) 0 ∨ cells ≤ j := by
      rcases Nat.lt_or_ge j cells with h | h
      · refine .inl ?_
        rw [List.set_append_right _ _ (by simp)]
        simp only [List.length_replicate, Nat.sub_self]
        obtain ⟨t, ht⟩ : ∃ t, cells - j = t + 1 := ⟨cells - j - 1, by omega⟩
        rw [ht, show cells - (j + 1) = t by omega, List.replicate_succ, List.set_cons_zero, List.replicate_succ' , List.append_assoc]; rfl
      · exact .inr h
    generalize hL : (List.replicate j (-1 : Int) ++ List.replicate (cells - j) 0) = L at *
    (repeat (first | ((with_reducible refine VC.mkL ?_ fun _ => ?_); · first | omega | exact True.intro | rfl) | ((with_reducible refine VC.mkD ?_ fun _ => ?_); · first | omega | exact True.intro | (intros; omega)) | ((with_reducible refine dEnd.mk ?_ ?_); · kernel_rfl) | (simp [go_sem])))
    refine aIf.mkL (fun hj => ?_) (fun hj => ?_) <;> simp at hj
    · replace hset := hset.resolve_right (by omega)
      (repeat (first | ((with_reducible refine VC.mkL ?_ fun _ => ?_); · first | omega | exact True.intro | rfl) | ((with_reducible refine VC.mkD ?_ fun _ => ?_); · first | omega | exact True.intro | (intros; omega)) | ((with_reducible refine dEnd.mk ?_ ?_); · kernel_rfl) | (simp [go_sem, hjl])))
      refine ALoop.start (hrec (d - 1) (by omega) (j + 1) (by omega)) ?_ (by simp)
      have hrow : (L.map encI).set j [.v (.int .i64 (-1))] = ((List.replicate (j + 1) (-1 : Int) ++ List.replicate (cells - (j + 1)) 0)).map encI := by rw [← hset, List.map_set]; rfl
      generalize hL2 : (List.replicate (j + 1) (-1 : Int) ++ List.replicate (cells - (j + 1)) 0) = L2 at *
      simp [go_sem, Wk_eq, hrow]
    · have hjc : j = cells := by omega
      subst hjc
      rw [Nat.sub_self, List.replicate_zero, List.append_nil] at hL
      (repeat (first | ((with_reducible refine VC.mkL ?_ fun _ => ?_); · first | omega | exact True.intro | rfl) | ((with_reducible refine VC.mkD ?_ fun _ => ?_); · first | omega | exact True.intro | (intros; omega)) | ((with_reducible refine dEnd.mk ?_ ?_); · kernel_rfl) | (simp [go_sem])))
      refine ALoop.start (ALoop.ind (α := Nat) (fun k => ⟨[(1, .v (.int .i64 kinds)), (4, .ref 0 0 9 0 0), (5, .ref 4 0 9 0 0), (7, .v (.int .i64 k))],
          [(0, .rows true 0 9 [[.v (.int .i64 0), .v (.slice none 0 0), .v (.slice none 0 0), .v (.slice none 0 0), .v (.int .i64 0), .v (.bool false), .v (.slice none 0 0), .v (.int .i64 0), .v (.int .i64 0)]]), (1, .rows true 0 1 (L.map encI)), (2, .rows true 0 1 [[.sl 1 0 1 0 j]]), (3, .rows true 0 1 [[.v (.int .i64 0)]]),
           (4, .rows true 0 9 [[.v (.int .i64 j), .sl 2 0 1 0 1, .sl 3 0 1 0 1, .sl 5 k 3 0 k, .v (.int .i64 2), .v (.bool false), .v (.slice none 0 0), .v (.int .i64 3), .v (.int .i64 2)]]),
           (5, .rows true k 3 (((List.range k).map (blankK kinds)).map encKind))], 6⟩)
        (fun d k => k + d = kinds) ?_ kinds 0 ?_) ?_ ?_
      · rintro d k i2 hrec2
        have hkl : ((List.range k).map (blankK kinds)).length = k := by simp
        have hks : (List.range (k + 1)).map (blankK kinds) = (List.range k).map (blankK kinds) ++ [blankK kinds k] := by rw [List.range_succ, List.map_append]; rfl
        generalize hL3 : (List.range k).map (blankK kinds) = L3 at *
        (repeat (first | ((with_reducible refine VC.mkL ?_ fun _ => ?_); · first | omega | exact True.intro | rfl) | ((with_reducible refine VC.mkD ?_ fun _ => ?_); · first | omega | exact True.intro | (intros; omega)) | ((with_reducible refine dEnd.mk ?_ ?_); · kernel_rfl) | (simp [go_sem])))
        refine aIf.mkL (fun hk => ?_) (fun hk => ?_) <;> simp at hk
        · (repeat (first | ((with_reducible refine VC.mkL ?_ fun _ => ?_); · first | omega | exact True.intro | rfl) | ((with_reducible refine VC.mkD ?_ fun _ => ?_); · first | omega | exact True.intro | (intros; omega)) | ((with_reducible refine dEnd.mk ?_ ?_); · kernel_rfl) | (simp [go_sem, hkl])))
          refine ALoop.start (hrec2 (d - 1) (by omega) (k + 1) (by omega)) ?_ (by simp)
          simp [go_sem, Wk_eq, hks]
          have e1 : List.map (encKind ∘ blankK kinds) (List.range k) = L3.map encKind := by rw [← List.map_map, hL3]
          rw [e1]
          refine ⟨leRows_append (.refl _) ?_, ?_⟩
          · simp [go_sem, blankK]
          · rintro r (⟨a, _, rfl⟩ | rfl) c hc <;> simp [blankK] at hc <;> rcases hc with rfl | rfl | rfl <;> simp [go_sem]
        · (repeat (first | ((with_reducible refine VC.mkL ?_ fun _ => ?_); · first | omega | exact True.intro | rfl) | ((with_reducible refine VC.mkD ?_ fun _ => ?_); · first | omega | exact True.intro | (intros; omega)) | ((with_reducible refine dEnd.mk ?_ ?_); · kernel_rfl) | (simp [go_sem, blankG])))
          have hkk : k = kinds := by omega
          subst hkk
          refine ⟨?_, ?_, ?_⟩
          · refine LeV.frz rfl ?_ ?_ ?_
            · simp
            · simp [noH]
            · refine LeRows.cons (LeRow.cons ?_ LeRow.nil) LeRows.nil
              refine LeV.frz rfl ?_ ?_ (LeRows.of_eq ?_)
              · simp [hjl]
              · simp [noH]
              · rw [← hL]; simp [encI]
          · refine LeV.frz rfl ?_ ?_ (LeRows.of_eq ?_) <;> simp [noH]
          · refine LeV.frz rfl ?_ ?_ (LeRows.of_eq ?_)
            · simp [hkl]
            · simp [noH]
            · rw [← List.map_map, hL3, List.drop_zero, List.take_of_length_le (by simp [hkl])]
      · simp
      · simp [go_sem, Wk_eq]
      · simp
  · simp
  · simp [go_sem, Wk_eq]
  · simp
/-! ### skewerlaw14.place -/
theorem place_pure (a b c d : Int) : Pure Try.prog 68 [.v (.int .i64 a), .v (.int .i64 b), .v (.int .i64 c), .v (.int .i64 d)] (.agg (encPos ⟨[a, b, c, d], [0], [0], 0, 0⟩)) := by
  refine Pure.of (ACallP.of_awp (by kernel_rfl) Try.func68 rfl rfl (Nat.le_of_ble_eq_true rfl) (by kernel_rfl) ?_)
  (repeat (first | ((with_reducible refine VC.mkL ?_ fun _ => ?_); · first | omega | exact True.intro | rfl) | ((with_reducible refine VC.mkD ?_ fun _ => ?_); · first | omega | exact True.intro | (intros; omega)) | ((with_reducible refine dEnd.mk ?_ ?_); · kernel_rfl) | (simp [go_sem])))
  (repeat' (first | (with_reducible apply And.intro) | ((refine LeV.frz rfl ?_ ?_ (LeRows.of_eq ?_)) <;> first | (simp [noH]; done) | (rw [List.drop_zero, List.take_of_length_le (by simp)]))))
end Go.Av
