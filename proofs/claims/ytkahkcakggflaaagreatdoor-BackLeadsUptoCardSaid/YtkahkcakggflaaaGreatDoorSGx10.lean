/- Texts of ours, part 10: contracts and facts for this claim. -/
import Derived.Test.YtkahkcakggflaaaGreatDoorB10
import Derived.Test.YtkahkcakggflaaaGreatDoorSGx09
set_option linter.unusedSimpArgs false
set_option linter.unusedVariables false
set_option maxRecDepth 100000
set_option maxHeartbeats 40000000
section
open Go Go.Proofs
namespace Go.Av
theorem zml (l : List (List zaZ)) {i : Nat} (h : i < l.length) : zcJ (l.drop i) = (nth l i).length + zcJ (l.drop (i + 1)) := by
 unfold zcJ
 rw [zaM h, List.map_cons, List.sum_cons]
theorem znu (l : List (List (List zaZ))) {i : Nat} (h : i < l.length) : zbT (l.drop i) = zcJ (nth l i) + zbT (l.drop (i + 1)) := by
 unfold zbT
 rw [zaM h, List.map_cons, List.sum_cons]
theorem zrl (p : zaZ) (more : List zcn) (to : Int) (hp : p.acts.length ≤ 1048576) (hm : more.length ≤ 1048576) : zgf Tryz.prog 242 [.agg (zap p), zaV more, .v (.int .i64 to)]
  (fun n => .agg [.sl (n + 2) 2 3 0 (p.acts.length + more.length), .v (.int .i64 to)]) (fun n => [(n + 2, .rows true 2 3 ((p.acts ++ more).map zaE))]) 3 := by
 refine ⟨zyL (by kernel_rfl) Tryz.func242 rfl rfl (Nat.le_of_ble_eq_true rfl) (by kernel_rfl) ?_, fun n => ⟨by simp [go_sem], by simp [go_sem]⟩⟩
 obtain ⟨acts, t⟩ := p
 simp only at hp
 repeat first|with_reducible refine wV fun _=>?_|simp [go_sem]
 simp [go_sem, zah]
theorem zrm (p : zaZ) (more : List zcn) (to : Int) (hp : p.acts.length ≤ 1048576) (hm : more.length ≤ 1048576) : zaC Tryz.prog 242 [.agg (zap p), zaV more, .v (.int .i64 to)] (.agg (zap (onP p to more))) := by
 refine (zrl p more to hp hm).pure ?_ (by simp [go_sem])
 unfold onP
 (first|done|exact leX)
theorem znN (b : zaL) (hb : za2 b) (h9 : b.cells ≤ 9) (side : Int) (p : zaZ) (hp : p.acts.length ≤ 1000000) (x : Int × Int) (hx : 1 ≤ x.1 ∧ x.1 ≤ 10) :
  zaC Tryz.prog 188 [.agg (zde b), .v (.int .i64 side), .agg (zap p), .agg (zau x)] (zaU (ziS b side p x)) := by
 refine pF Tryz.func188 ?_
 have hT := zgR b hb side x.2 p.to
 have hL := zi7 b hb side x.2 p.to
 have hwg : ∀ to, zaC Tryz.prog 242 [.agg (zap p), zaV [], .v (.int .i64 to)] (.agg (zap (onP p to []))) := fun to => zrm p [] to (by omega) (by simp)
 have hw1 : ∀ to a, zaC Tryz.prog 242 [.agg (zap p), zaV [a], .v (.int .i64 to)] (.agg (zap (onP p to [a]))) := fun to a => zrm p [a] to (by omega) (by simp)
 have hbl : ∀ n, (∀ c' ∈ zde b, Bel n c') = True := fun n => by simp [go_sem]
 have hel : (zde b).length = 3 := rfl
 generalize zde b = eb at *
 obtain ⟨op, N⟩ := x
 simp only at hx hT hL
 unfold ziS
 simp only
 by_cases h1 : op = 1
 ·subst h1
  rw [if_pos (.inl rfl)]
  generalize toB b side N p.to = T at *
  by_cases ht : T < 0
  ·rw [if_pos ht]
   repeat first|with_reducible refine wV fun _=>?_|simp [go_sem, hel]
   refine zyJ hT (by simp [go_sem, hbl]) ?_
   repeat first|with_reducible refine wV fun _=>?_|simp [go_sem, hel, ht]
   (first|done|exact leX)
  ·rw [if_neg ht, if_pos rfl]
   repeat first|with_reducible refine wV fun _=>?_|simp [go_sem, hel]
   refine zyJ hT (by simp [go_sem, hbl]) ?_
   repeat first|with_reducible refine wV fun _=>?_|simp [go_sem, hel, ht]
   refine zyP [] (hwg T) (.cons (.refl _) (.cons (.nil _) (.refl _ _ _ _))) (by simp [go_sem]) ?_
   repeat first|with_reducible refine wV fun _=>?_|simp [go_sem]
   (first|done|exact leX)
 by_cases h7 : op = 7
 ·subst h7
  rw [if_pos (.inr rfl)]
  generalize toB b side N p.to = T at *
  by_cases ht : T < 0
  ·rw [if_pos ht]
   repeat first|with_reducible refine wV fun _=>?_|simp [go_sem, hel]
   refine zyJ hT (by simp [go_sem, hbl]) ?_
   repeat first|with_reducible refine wV fun _=>?_|simp [go_sem, hel, ht]
   (first|done|exact leX)
  ·rw [if_neg ht, if_neg (by omega)]
   repeat first|with_reducible refine wV fun _=>?_|simp [go_sem, hel]
   refine zyJ hT (by simp [go_sem, hbl]) ?_
   repeat first|with_reducible refine wV fun _=>?_|simp [go_sem, hel, ht]
   refine zyP [3] (hw1 p.to (7, p.to, T)) ?_ (by simp [go_sem]) ?_
   ·(first|done|exact leX)
   repeat first|with_reducible refine wV fun _=>?_|simp [go_sem]
   (first|done|exact leX)
 rw [if_neg (by omega)]
 by_cases h2 : op = 2
 ·subst h2
  rw [if_pos rfl]
  have hll : (zfH b side N p.to).length ≤ 9 := by have := ziX hb (side := side) (d := N) (c := p.to); omega
  generalize zfH b side N p.to = line at *
  repeat first|with_reducible refine wV fun _=>?_|simp [go_sem, hel]
  refine zyJ hL (by simp [go_sem, hbl]) ?_
  repeat first|with_reducible refine wV fun _=>?_|simp [go_sem, hel]
  refine zyI (zyN (α := Nat × List zcn × List zaZ) (fun a => ⟨[(6, .ref 1 0 2 0 0), (10, .sl 3 a.1 2 0 a.2.2.length), (11, .sl 4 a.1 3 0 a.2.1.length), (12, zas line), (13, .v (.int .i64 a.1))],
    [(1, .rows true 0 2 [zap p]), (3, .rows true a.1 2 (a.2.2.map zap)), (4, .rows true a.1 3 (a.2.1.map zaE))], 5⟩)
   (fun d a => a.1 + d = line.length ∧ a.2.1.length = a.1 ∧ a.2.2.length = a.1 ∧ a.2.2 ++ zcd p (line.drop a.1) a.2.1 = zcd p line []) ?_ line.length (0, [], []) ?_) ?_ ?_
  ·rintro d ⟨i, passed, out⟩ ⟨i1, i2, i3, i4⟩ hrec
   simp only at i1 i2 i3 i4
   have hw := zrl p passed (nth line i) (by omega) (by omega)
   repeat first|with_reducible refine wV fun _=>?_|simp [go_sem]
   refine zyK (fun hi => ?_) (fun hi => ?_) <;> simp at hi
   ·rw [zaM hi, zcd] at i4
    have hgo := hrec (d - 1) (by omega) (i + 1, passed ++ [(3, nth line i, 0)], out ++ [onP p (nth line i) passed]) ⟨by simp only; omega, by simp; omega, by simp; omega, by simp only; rw [← i4, List.append_assoc]; rfl⟩
    repeat first|with_reducible refine wV fun _=>?_|simp [go_sem, hi]
    refine zzk [4] 128 (by rfl) hw (by decide) (by simp [go_sem]) (by simp [go_sem]) ?_ (by simp [go_sem]) (by simp [go_sem]) ?_
    ·intro h₁ hh
     exact zai.cons (.refl _) (zai.cons (zam ((hh 4 (by simp)).symm.trans rfl) (by simp) (by simp [noH]) (by rw [List.drop_zero, List.take_of_length_le (by simp)])) (.refl _ _ _ _))
    ((repeat (first|with_reducible (first|refine wL fun _=>?_|refine wD fun _=>?_|refine wZ ?_)|simp [go_sem, hi])); refine zzb (by kernel_rfl) ?_)
    repeat first|with_reducible refine wV fun _=>?_|simp [go_sem, hi]
    refine zyI hgo ?_ (by simp)
    simp [go_sem, zah]
    unfold onP
    (first|done|exact rwX)
   ·rw [List.drop_eq_nil_of_le hi, zcd, List.append_nil] at i4
    rw [← i4]
    repeat first|with_reducible refine wV fun _=>?_|simp [go_sem]
    (first|done|exact leX)
  ·exact ⟨by simp, rfl, rfl, rfl⟩
  ·simp [go_sem, zah]
  ·simp
 rw [if_neg h2]
 by_cases h8 : op = 8 ∨ op = 9 ∨ op = 10
 ·rw [if_pos h8]
  rcases h8 with rfl | rfl | rfl
  ·repeat first|with_reducible refine wV fun _=>?_|simp [go_sem]
   refine zyP [3] (hw1 p.to (8, N, 0)) ?_ (by simp [go_sem]) ?_
   ·(first|done|exact leX)
   repeat first|with_reducible refine wV fun _=>?_|simp [go_sem]
   (first|done|exact leX)
  ·repeat first|with_reducible refine wV fun _=>?_|simp [go_sem]
   refine zyP [3] (hw1 p.to (9, N, 0)) ?_ (by simp [go_sem]) ?_
   ·(first|done|exact leX)
   repeat first|with_reducible refine wV fun _=>?_|simp [go_sem]
   (first|done|exact leX)
  ·repeat first|with_reducible refine wV fun _=>?_|simp [go_sem]
   refine zyP [3] (hw1 p.to (10, N, 0)) ?_ (by simp [go_sem]) ?_
   ·(first|done|exact leX)
   repeat first|with_reducible refine wV fun _=>?_|simp [go_sem]
   (first|done|exact leX)
 ·rw [if_neg h8]
  rcases (show op = 3 ∨ op = 4 ∨ op = 5 ∨ op = 6 by omega) with rfl | rfl | rfl | rfl
  ·repeat first|with_reducible refine wV fun _=>?_|simp [go_sem]
   refine zyP [3] (hw1 p.to (3, p.to, 0)) ?_ (by simp [go_sem]) ?_
   ·(first|done|exact leX)
   repeat first|with_reducible refine wV fun _=>?_|simp [go_sem]
   (first|done|exact leX)
  ·repeat first|with_reducible refine wV fun _=>?_|simp [go_sem]
   refine zyP [3] (hw1 p.to (4, p.to, 0)) ?_ (by simp [go_sem]) ?_
   ·(first|done|exact leX)
   repeat first|with_reducible refine wV fun _=>?_|simp [go_sem]
   (first|done|exact leX)
  ·repeat first|with_reducible refine wV fun _=>?_|simp [go_sem]
   refine zyP [3] (hw1 p.to (5, p.to, 0)) ?_ (by simp [go_sem]) ?_
   ·(first|done|exact leX)
   repeat first|with_reducible refine wV fun _=>?_|simp [go_sem]
   (first|done|exact leX)
  ·repeat first|with_reducible refine wV fun _=>?_|simp [go_sem]
   refine zyP [3] (hw1 p.to (6, p.to, 0)) ?_ (by simp [go_sem]) ?_
   ·(first|done|exact leX)
   repeat first|with_reducible refine wV fun _=>?_|simp [go_sem]
   (first|done|exact leX)
theorem zoS (b : zaL) (hb : za2 b) (h1 : 1 ≤ b.cells) (h9 : b.cells ≤ 9) (side : Int) (prog : List (Int × Int)) (hp : prog.length ≤ 8) (hpo : ∀ x ∈ prog, 1 ≤ x.1 ∧ x.1 ≤ 10) (cell : Int) :
  zaC Tryz.prog 136 [.agg (zde b), .v (.int .i64 side), zar prog, .v (.int .i64 cell)] (zaU (zbB b side prog cell)) := by
 refine pF Tryz.func136 ?_
 have hR : zbB b side prog cell = zdD b side prog cell prog.length := by unfold zdD; rw [List.take_length]
 have hl := zhX hb h1 h9 side prog hp cell
 have ha := ze8 hb h9 side prog cell
 have hs := fun (i : Nat) (h : i < prog.length) => zgD b side prog cell h
 have h0 : zdD b side prog cell 0 = [⟨[], cell⟩] := rfl
 have hE : ∀ p x, p.acts.length ≤ 1000000 → (1 ≤ x.1 ∧ x.1 ≤ 10) → zaC Tryz.prog 188 [.agg (zde b), .v (.int .i64 side), .agg (zap p), .agg (zau x)] (zaU (ziS b side p x)) := fun p x hp hx => znN b hb h9 side p hp x hx
 have hbl : ∀ n, (∀ c' ∈ zde b, Bel n c') = True := fun n => by simp [go_sem]
 have hel : (zde b).length = 3 := rfl
 rw [hR]
 generalize zde b = eb at *
 generalize zdD b side prog cell = K at *
 generalize ziS b side = X at *
 clear hR
 repeat first|with_reducible refine wV fun _=>?_|simp [go_sem, hel]
 refine zyI (zyN (α := Nat) (fun i => ⟨[(1, .v (.int .i64 side)), (2, zar prog), (4, .ref 0 0 3 0 0), (9, zaU (K i)), (10, .v (.int .i64 i))], [(0, .rows true 0 3 [eb])], 1⟩)
  (fun d i => i + d = prog.length) ?_ prog.length 0 ?_) ?_ ?_
 ·rintro d i i1 hrec
  have hli := hl i
  repeat first|with_reducible refine wV fun _=>?_|simp [go_sem]
  refine zyK (fun hi => ?_) (fun hi => ?_) <;> simp at hi
  ·have hai := ha i (by omega)
   have hsi := hs i hi
   have hx := hpo _ (zan hi)
   have hl1 := hl (i + 1)
   have hgo := hrec (d - 1) (by omega) (i + 1) (by omega)
   rw [hsi] at hgo hl1
   generalize K i = now at *
   obtain ⟨R, hR⟩ : ∃ R, R = now.flatMap fun w => X w (nth prog i) := ⟨_, rfl⟩
   rw [← hR] at hgo hl1
   repeat first|with_reducible refine wV fun _=>?_|simp [go_sem]
   refine zyI (zyN (α := Nat × List zaZ) (fun a => ⟨[(1, .v (.int .i64 side)), (2, zar prog), (4, .ref 0 0 3 0 0), (9, zaU now), (10, .v (.int .i64 i)), (11, .sl 1 a.1 2 0 a.2.length), (12, .v (.int .i64 a.1))],
     [(0, .rows true 0 3 [eb]), (1, .rows true a.1 2 (a.2.map zap))], 2⟩)
    (fun d a => a.1 + d = now.length ∧ a.2 ++ ((now.drop a.1).flatMap fun w => X w (nth prog i)) = R) ?_ now.length (0, []) ?_) ?_ ?_
   ·rintro d2 ⟨j, l⟩ ⟨j1, j2⟩ hrec2
    simp only at j1 j2
    repeat first|with_reducible refine wV fun _=>?_|simp [go_sem]
    refine zyK (fun hj => ?_) (fun hj => ?_) <;> simp at hj
    ·have haj := hai _ (zan hj)
     have hlR : l.length + (X (nth now j) (nth prog i)).length ≤ 43046721 := by
      rw [zaM hj] at j2
      rw [← j2] at hl1
      simp only [List.flatMap_cons, List.length_append] at hl1
      omega
     rw [zaM hj, List.flatMap_cons, ← List.append_assoc] at j2
     have hgo2 := hrec2 (d2 - 1) (by omega) (j + 1, l ++ X (nth now j) (nth prog i)) ⟨by simp only; omega, j2⟩
     have hEj := hE (nth now j) (nth prog i) (by omega) hx
     simp only [List.length_append] at hgo2
     repeat first|with_reducible refine wV fun _=>?_|simp [go_sem, hel, hi, hj]
     refine zyM hEj (by simp [go_sem, hbl]) ?_
     repeat first|with_reducible refine wV fun _=>?_|simp [go_sem]
     refine zyI hgo2 ?_ (by simp)
     simp [go_sem, zah, hbl]
    ·rw [List.drop_eq_nil_of_le hj, List.flatMap_nil, List.append_nil] at j2
     subst j2
     repeat first|with_reducible refine wV fun _=>?_|simp [go_sem]
     refine zyI hgo ?_ (by simp)
     simp [go_sem, zah]
     refine ⟨?_, of_eq_true (hbl 1)⟩
     (first|done|exact leX)
   ·exact ⟨by simp, by rw [hR]; rfl⟩
   ·simp [go_sem, zah, hbl]
   ·simp
  ·have hil : i = prog.length := by omega
   subst hil
   repeat first|with_reducible refine wV fun _=>?_|simp [go_sem]
 ·simp
 ·simp [go_sem, zah, hbl, h0]
  (first|done|exact leX)
 ·simp
theorem zoQ (c : zl6) (hc : zea c ≤ 4611686018427387904) (h1 : c.1.length ≤ 1048576) (h2 : c.2.length ≤ 1048576) (hl : ∀ x ∈ c.1 ++ c.2, x.length ≤ 1048576) :
  zaC Tryz.prog 70 [.agg (zbj c)] (.v (.int .i64 (zea c))) := by
 refine pF Tryz.func70 ?_
 obtain ⟨a, b⟩ := c
 simp only at h1 h2 hl
 have hT : zea (a, b) = zbT a + zbT b := rfl
 rw [hT] at hc ⊢
 repeat first|with_reducible refine wV fun _=>?_|simp [go_sem]
 refine zyI (zyN (α := Nat × Nat) (fun x => ⟨[(1, .ref 0 0 2 0 0), (3, .v (.int .i64 x.2)), (4, .v (.int .i64 x.1))], [(0, .rows true 0 2 [[za9 a, za9 b]])], 1⟩)
  (fun d x => x.1 + d = 2 ∧ x.2 = (if x.1 = 0 then 0 else if x.1 = 1 then zbT a else zbT a + zbT b)) ?_ 2 (0, 0) ?_) ?_ ?_
 ·rintro d ⟨s, n⟩ ⟨s1, s2⟩ hrec
  simp only at s1 s2
  rcases (show s = 2 ∨ s < 2 by omega) with rfl | hs2
  ·simp at s2
   subst s2
   repeat first|with_reducible refine wV fun _=>?_|simp [go_sem]
  ·obtain ⟨l, hl0, hl1, hl2, hl3⟩ : ∃ l : List (List (List zaZ)), cel [za9 a, za9 b] s = za9 l ∧ l.length ≤ 1048576 ∧ (∀ x ∈ l, x.length ≤ 1048576) ∧ (if s + 1 = 0 then 0 else if s + 1 = 1 then zbT a else zbT a + zbT b) = n + zbT l := by
    rcases (show s = 0 ∨ s = 1 by omega) with rfl | rfl
    ·simp at s2
     exact ⟨a, rfl, h1, fun x hx => hl x (by simp [hx]), by simp [s2]⟩
    ·simp at s2
     exact ⟨b, rfl, h2, fun x hx => hl x (by simp [hx]), by simp [s2]⟩
   have hcap : n + zbT l ≤ 4611686018427387904 := by rw [← hl3]; split <;> (try split) <;> omega
   simp only [za9, zbx, zaU] at hl0
   repeat first|with_reducible refine wV fun _=>?_|simp [go_sem, hl0]
   (refine zyK (fun hT => ?_) (fun hT => by first | omega | (simp at hT; omega)); clear hT)
   repeat first|with_reducible refine wV fun _=>?_|simp [go_sem, hl0]
   refine zyI (zyN (α := Nat × Nat) (fun x => ⟨[(1, .ref 0 0 2 0 0), (3, .v (.int .i64 x.2)), (4, .v (.int .i64 s)), (5, .v (.int .i64 x.1))], [(0, .rows true 0 2 [[za9 a, za9 b]])], 1⟩)
    (fun d x => x.1 + d = l.length ∧ x.2 + zbT (l.drop x.1) = n + zbT l) ?_ l.length (0, n) ?_) ?_ ?_
   ·rintro d2 ⟨j, m⟩ ⟨j1, j2⟩ hrec2
    simp only at j1 j2
    repeat first|with_reducible refine wV fun _=>?_|simp [go_sem, hl0]
    refine zyK (fun hj => ?_) (fun hj => ?_) <;> simp at hj
    ·have hll := hl2 _ (zan hj)
     rw [znu l hj] at j2
     repeat first|with_reducible refine wV fun _=>?_|simp [go_sem, hj, hl0]
     refine zyI (zyN (α := Nat × Nat) (fun x => ⟨[(1, .ref 0 0 2 0 0), (3, .v (.int .i64 x.2)), (4, .v (.int .i64 s)), (5, .v (.int .i64 j)), (6, .v (.int .i64 x.1))], [(0, .rows true 0 2 [[za9 a, za9 b]])], 1⟩)
      (fun d x => x.1 + d = (nth l j).length ∧ x.2 + zcJ ((nth l j).drop x.1) = m + zcJ (nth l j)) ?_ (nth l j).length (0, m) ?_) ?_ ?_
     ·rintro d3 ⟨k, q⟩ ⟨k1, k2⟩ hrec3
      simp only at k1 k2
      repeat first|with_reducible refine wV fun _=>?_|simp [go_sem, hl0, hj]
      refine zyK (fun hk => ?_) (fun hk => ?_) <;> simp at hk
      ·rw [zml _ hk] at k2
       repeat first|with_reducible refine wV fun _=>?_|simp [go_sem, hk, hl0, hj]
       refine zyI (hrec3 (d3 - 1) (by omega) (k + 1, q + (nth (nth l j) k).length) ⟨by simp only; omega, by simp only; omega⟩) ?_ (by simp)
       simp [go_sem, zah]
      ·rw [List.drop_eq_nil_of_le hk] at k2
       simp [zcJ] at k2
       repeat first|with_reducible refine wV fun _=>?_|simp [go_sem]
       refine zyI (hrec2 (d2 - 1) (by omega) (j + 1, q) ⟨by simp only; omega, by simp only [zcJ] at j2 ⊢; omega⟩) ?_ (by simp)
       simp [go_sem, zah]
     ·exact ⟨by simp, by simp⟩
     ·simp [go_sem, zah]
     ·simp
    ·rw [List.drop_eq_nil_of_le hj] at j2
     simp [zbT] at j2
     repeat first|with_reducible refine wV fun _=>?_|simp [go_sem]
     refine zyI (hrec (d - 1) (by omega) (s + 1, m) ⟨by simp only; omega, ?_⟩) ?_ (by simp)
     ·simp only
      rw [hl3, j2]
      rfl
     ·simp [go_sem, zah]
   ·exact ⟨by simp, by simp⟩
   ·simp [go_sem, zah]
   ·simp
 ·exact ⟨rfl, rfl⟩
 ·simp [go_sem, zah]
 ·simp
def zoM (a : AV) (s : Nat) (x : AV) : List AV := if s = 0 then [x, .v (.slice none 0 0)] else [a, x]
theorem zwP (a : AV) (s : Nat) (x : AV) : (zoM a s x).length = 2 := by unfold zoM; split <;> rfl
theorem zwO (a : AV) {s : Nat} (hs : s < 2) (x : AV) : cel (zoM a s x) s = x := by
 rcases (show s = 0 ∨ s = 1 by omega) with rfl | rfl <;> rfl
theorem zwQ (a : AV) {s : Nat} (hs : s < 2) (x y : AV) : (zoM a s x).set s y = zoM a s y := by
 rcases (show s = 0 ∨ s = 1 by omega) with rfl | rfl <;> rfl
theorem zyr {h h' : zav} {n : Nat} {a : AV} {s : Nat} {x y : AV} (hx : LeV h h' n x y) : zai h h' n (zoM a s x) (zoM a s y) := by
 unfold zoM
 split
 ·exact .cons hx (.refl _ _ _ _)
 ·exact .cons (.refl _) (.cons hx .nil)
theorem zf6 {n : Nat} {a : AV} {s : Nat} {x : AV} (ha : Bel n a) (hx : Bel n x) : ∀ c ∈ zoM a s x, Bel n c := by
 unfold zoM
 split <;> intro c hc <;> simp only [List.mem_cons, List.not_mem_nil, or_false] at hc <;> rcases hc with rfl | rfl
 ·exact hx
 ·exact .v _
 ·exact ha
 ·exact hx
def zgY (b : zaL) (s : Int) (ps : List (List (Int × Int))) (c : Nat) : List (List zaZ) := (List.range c).map fun (c : Nat) => zbu b s ps c
theorem zpm (b : zaL) (s : Int) (ps : List (List (Int × Int))) (c : Nat) : zgY b s ps (c + 1) = zgY b s ps c ++ [zbu b s ps c] := by simp [zgY, List.range_succ]
theorem zr0 (b : zaL) (s : Int) (ps : List (List (Int × Int))) (c : Nat) : (zgY b s ps c).length = c := by simp [zgY]
def zyq (a b : AV) (s : Nat) : List AV := [if s = 0 then AV.v (.slice none 0 0) else a, if s < 2 then AV.v (.slice none 0 0) else b]
theorem zgN (g : zaf) (hg : GOk g) : zaC Tryz.prog 71 [.agg (zab g)] (.agg (zbj (zbD g))) := by
 refine pF Tryz.func71 ?_
 have hc1 := hg.c1
 have hc9 := hg.c9
 have hk6 := hg.k6
 have hP : ∀ k ∈ g.kinds, ∀ p ∈ k.progs, ∀ (side c : Int), zaC Tryz.prog 136 [.agg (zde g.board), .v (.int .i64 side), zar p, .v (.int .i64 c)] (zaU (zbB g.board side p c)) :=
  fun k hk p hp side c => by
   have hpo := hg.pr k hk p hp
   exact zoS g.board hg.board hg.c1 hg.c9 side p hpo.len (fun x hx => (hpo.st x hx).op) c
 have hR : zbj (zbD g) = [za9 (zby g 0), za9 (zby g 1)] := rfl
 rw [hR]
 clear hR
 obtain ⟨C, hC⟩ : ∃ C : Nat, g.cells = C := ⟨g.cells.toNat, by omega⟩
 have hcells : ∀ (s : Int) (j : Nat), zfu g.board s (nth g.kinds j).progs = zgY g.board s (nth g.kinds j).progs C := fun s j => by
  unfold zfu zgY
  rw [show g.board.cells.toNat = C by have : g.board.cells = g.cells := rfl; omega]
 have hbl : ∀ n, (∀ c' ∈ zab g, Bel n c') = True := fun n => by simp [go_sem]
 have hel : (zab g).length = 9 := rfl
 obtain ⟨eB, heB⟩ : ∃ eB, eB = zde g.board := ⟨_, rfl⟩
 have hg1 : (zab g).take 3 = eB := by rw [heB]; rfl
 have hg2 : cel (zab g) 3 = .lst 3 (g.kinds.map zaY) := rfl
 have hg3 : cel (zab g) 0 = .v (.int .i64 C) := by rw [← hC]; rfl
 have heBb : ∀ n, (∀ c' ∈ eB, Bel n c') = True := fun n => by rw [heB]; simp [go_sem]
 rw [← heB] at hP
 clear heB
 generalize zab g = eg at *
 obtain ⟨S0, hS0⟩ : ∃ S0, S0 = za9 (zby g 0) := ⟨_, rfl⟩
 obtain ⟨S1, hS1⟩ : ∃ S1, S1 = za9 (zby g 1) := ⟨_, rfl⟩
 have hSb0 : ∀ n, Bel n S0 = True := fun n => by rw [hS0]; simp [go_sem]
 have hSb1 : ∀ n, Bel n S1 = True := fun n => by rw [hS1]; simp [go_sem]
 rw [← hS0, ← hS1]
 repeat first|with_reducible refine wV fun _=>?_|simp [go_sem, hel]
 refine zyI (zyN (α := Nat) (fun s => ⟨[(1, .ref 0 0 9 0 0), (2, .ref 1 0 2 0 0), (3, .ref 2 0 2 0 0), (4, .v (.int .i64 s))],
   [(0, .rows true 0 9 [eg]), (1, .rows true 0 2 [[AV.v (.slice none 0 0), AV.v (.slice none 0 0)]]), (2, .rows true 0 2 [zyq S0 S1 s])], 3⟩)
  (fun d s => s + d = 2) ?_ 2 0 ?_) ?_ ?_
 ·rintro d0 s s1 hrec
  rcases (show s = 2 ∨ s < 2 by omega) with rfl | hs2
  ·simp only [zyq]
   repeat first|with_reducible refine wV fun _=>?_|simp [go_sem]
   exact ⟨of_eq_true (hSb0 0), of_eq_true (hSb1 0)⟩
  have hAS : zyq S0 S1 s = zoM S0 s (.v (.slice none 0 0)) := by rcases (show s = 0 ∨ s = 1 by omega) with rfl | rfl <;> rfl
  rw [hAS]
  have hrl := zwP S0 s
  have hrc := zwO S0 hs2
  have hrs := zwQ S0 hs2
  repeat first|with_reducible refine wV fun _=>?_|simp [go_sem, hel]
  (refine zyK (fun hT => ?_) (fun hT => by first | omega | (simp at hT; omega)); clear hT)
  repeat first|with_reducible refine wV fun _=>?_|simp [go_sem, hel]
  refine zyI (zyN (α := Nat) (fun j => ⟨[(1, .ref 0 0 9 0 0), (2, .ref 1 0 2 0 0), (3, .ref 2 0 2 0 0), (4, .v (.int .i64 s)), (5, .v (.int .i64 j))],
    [(0, .rows true 0 9 [eg]), (1, .rows true 0 2 [[AV.v (.slice none 0 0), AV.v (.slice none 0 0)]]), (2, .rows true 0 2 [zoM S0 s (.sl 3 j 1 0 j)]), (3, .rows true j 1 ((zh2 g s j).map fun x => [zbx x]))], 4⟩)
   (fun d j => j + d = g.kinds.length) ?_ g.kinds.length 0 ?_) ?_ ?_
  ·rintro d j j1 hrec2
   have hlj := zkk g s (show j ≤ g.kinds.length by omega)
   repeat first|with_reducible refine wV fun _=>?_|simp [go_sem, hel, hg2]
   refine zyK (fun hj => ?_) (fun hj => ?_) <;> simp at hj
   ·have hkm := zan hj
    have hpn := hg.pn _ hkm
    have hPk := hP _ hkm
    have hsj := zlX g s hj
    have hcj := hcells s j
    have hlj1 := zkk g s (show j + 1 ≤ g.kinds.length by omega)
    have hkl := zfG hg s hkm
    have hks : ∀ c : Nat, zbu g.board s (nth g.kinds j).progs c = (nth g.kinds j).progs.flatMap fun p => zbB g.board s p c := fun c => rfl
    obtain ⟨k, hk⟩ : ∃ k, k = nth g.kinds j := ⟨_, rfl⟩
    rw [← hk] at hpn hPk hsj hcj hkl hks
    rw [hcj] at hsj
    have hcs := zpm g.board s k.progs
    have hcl := zr0 g.board s k.progs
    have hc0 : zgY g.board s k.progs 0 = [] := rfl
    generalize zgY g.board s k.progs = CK at *
    generalize zbu g.board s k.progs = KP at *
    repeat first|with_reducible refine wV fun _=>?_|simp [go_sem, hel, hg2]
    refine zyI (zyN (α := Nat) (fun c => ⟨[(1, .ref 0 0 9 0 0), (2, .ref 1 0 2 0 0), (3, .ref 2 0 2 0 0), (4, .v (.int .i64 s)), (5, .v (.int .i64 j)), (6, .sl 4 c 1 0 c), (7, .v (.int .i64 c))],
      [(0, .rows true 0 9 [eg]), (1, .rows true 0 2 [[AV.v (.slice none 0 0), AV.v (.slice none 0 0)]]), (2, .rows true 0 2 [zoM S0 s (.sl 3 j 1 0 j)]), (3, .rows true j 1 ((zh2 g s j).map fun x => [zbx x])), (4, .rows true c 1 ((CK c).map fun x => [zaU x]))], 5⟩)
     (fun d c => c + d = C) ?_ C 0 ?_) ?_ ?_
    ·rintro d2 c c1' hrec3
     have hclc := hcl c
     repeat first|with_reducible refine wV fun _=>?_|simp [go_sem, hel, hg3]
     refine zyK (fun hc => ?_) (fun hc => ?_) <;> simp at hc
     ·have hklc := hkl c
      have hcsc := hcs c
      rw [hks c] at hcsc
      have hks' : ((k.progs.flatMap fun p => zbB g.board s p c)).length ≤ 8589934592 := by rw [← hks c]; exact hklc
      obtain ⟨R, hR⟩ : ∃ R, R = k.progs.flatMap fun p => zbB g.board s p c := ⟨_, rfl⟩
      rw [← hR] at hcsc hks'
      repeat first|with_reducible refine wV fun _=>?_|simp [go_sem, hel]
      refine zyI (zyN (α := Nat × List zaZ) (fun a => ⟨[(1, .ref 0 0 9 0 0), (2, .ref 1 0 2 0 0), (3, .ref 2 0 2 0 0), (4, .v (.int .i64 s)), (5, .v (.int .i64 j)), (6, .sl 4 c 1 0 c), (7, .v (.int .i64 c)), (8, .sl 5 a.1 2 0 a.2.length), (9, .v (.int .i64 a.1))],
        [(0, .rows true 0 9 [eg]), (1, .rows true 0 2 [[AV.v (.slice none 0 0), AV.v (.slice none 0 0)]]), (2, .rows true 0 2 [zoM S0 s (.sl 3 j 1 0 j)]), (3, .rows true j 1 ((zh2 g s j).map fun x => [zbx x])), (4, .rows true c 1 ((CK c).map fun x => [zaU x])), (5, .rows true a.1 2 (a.2.map zap))], 6⟩)
       (fun d a => a.1 + d = k.progs.length ∧ a.2 ++ ((k.progs.drop a.1).flatMap fun p => zbB g.board s p c) = R) ?_ k.progs.length (0, []) ?_) ?_ ?_
      ·rintro d3 ⟨i, l⟩ ⟨i1, i2⟩ hrec4
       simp only at i1 i2
       repeat first|with_reducible refine wV fun _=>?_|simp [go_sem, hel, hg2, hj, ← hk]
       refine zyK (fun hi => ?_) (fun hi => ?_) <;> simp at hi
       ·rw [zaM hi, List.flatMap_cons, ← List.append_assoc] at i2
        have hlR : l.length + (zbB g.board s (nth k.progs i) c).length ≤ 8589934592 := by
         have := hks'
         rw [← i2] at this
         simp only [List.length_append] at this
         omega
        have hPi := hPk _ (zan hi) s c
        have hgo := hrec4 (d3 - 1) (by omega) (i + 1, l ++ zbB g.board s (nth k.progs i) c) ⟨by simp only; omega, i2⟩
        simp only [List.length_append] at hgo
        generalize zbB g.board s (nth k.progs i) c = X at *
        repeat first|with_reducible refine wV fun _=>?_|simp [go_sem, hel, hg1, hg2, hj, hi, ← hk]
        refine zyM hPi (by simp [go_sem, heBb]) ?_
        repeat first|with_reducible refine wV fun _=>?_|simp [go_sem]
        refine zyI hgo ?_ (by simp)
        simp [go_sem, zah, hbl]
        exact zf6 (of_eq_true (hSb0 _)) (.sl (by omega))
       ·rw [List.drop_eq_nil_of_le hi, List.flatMap_nil, List.append_nil] at i2
        subst i2
        repeat first|with_reducible refine wV fun _=>?_|simp [go_sem]
        refine zyI (hrec3 (d2 - 1) (by omega) (c + 1) (by omega)) ?_ (by simp)
        simp [go_sem, zah, hbl, hcsc]
        refine ⟨zf6 (of_eq_true (hSb0 _)) (.sl (by omega)), ?_⟩
        (first|done|exact leX)
      ·exact ⟨by simp, by rw [hR]; rfl⟩
      ·simp [go_sem, zah, hbl]
       exact zf6 (of_eq_true (hSb0 _)) (.sl (by omega))
      ·simp
     ·have hcC : c = C := by omega
      subst hcC
      repeat first|with_reducible refine wV fun _=>?_|simp [go_sem, hel, hrl, hrc, hrs, hlj]
      refine zyI (hrec2 (d - 1) (by omega) (j + 1) (by omega)) ?_ (by simp)
      simp [go_sem, zah, hbl, hsj]
      refine ⟨zf6 (of_eq_true (hSb0 _)) (.sl (by omega)), ?_⟩
      ((try simp only [zar, zau, zaE, zaV, zap, zaU, zat, zal, zad, za3, zaO, zaz, zas, zab, List.map_cons, List.map_nil, List.nil_append, List.append_nil, List.cons_append]); (repeat (first | (with_reducible first|exact zai.nil|exact zae.nil|exact LeV.refl _|exact zai.refl _ _ _ _|exact zae.refl _|refine zai.cons ?_ ?_|refine zae.cons ?_ ?_|refine LeV.agg ?_|refine LeV.tup ?_|refine LeV.fn ?_ ?_|exact LeV.nil _|refine zag (zae.refl _) ?_) | ((refine zam rfl (by simp [hclc]) (by simp [zaK, zaR, upd, noH]) ?_); (first | (simp [go_sem, hclc]; done) | (simp [go_sem, hclc]; exact List.take_of_length_le (by simp [hclc])))) | ((refine LeV.frz rfl (by simp [hclc]) (by simp [zaK, zaR, upd, noH]) ?_); (simp only [List.drop_zero, List.take_succ_cons, List.take_zero, List.map_cons, List.map_nil])) | ((refine LeV.frzP rfl (by simp [hclc]) (by simp) (by simp [zaK, zaR, upd, noH]) ?_); (simp only [zaw, List.drop_zero])))))
    ·simp
    ·simp [go_sem, zah, hbl, hc0]
     exact zf6 (of_eq_true (hSb0 _)) (.sl (by omega))
    ·simp
   ·have hjk : j = g.kinds.length := by omega
    subst hjk
    rw [zoA] at *
    repeat first|with_reducible refine wV fun _=>?_|simp [go_sem]
    refine zyI (hrec (d0 - 1) (by omega) (s + 1) (by omega)) ?_ (by simp)
    simp [go_sem, zah, hbl]
    refine ⟨?_, ?_⟩
    ·rcases (show s = 0 ∨ s = 1 by omega) with rfl | rfl
     ·have hl0 : (zby g 0).length = g.kinds.length := by simp [zby]
      simp only [zyq, zoM, hS0, za9, zbx, zaU]
      simp
      ((try simp only [zar, zau, zaE, zaV, zap, zaU, zat, zal, zad, za3, zaO, zaz, zas, zab, List.map_cons, List.map_nil, List.nil_append, List.append_nil, List.cons_append]); (repeat (first | (with_reducible first|exact zai.nil|exact zae.nil|exact LeV.refl _|exact zai.refl _ _ _ _|exact zae.refl _|refine zai.cons ?_ ?_|refine zae.cons ?_ ?_|refine LeV.agg ?_|refine LeV.tup ?_|refine LeV.fn ?_ ?_|exact LeV.nil _|refine zag (zae.refl _) ?_) | ((refine zam rfl (by simp [hl0]) (by simp [zaK, zaR, upd, noH]) ?_); (first | (simp [go_sem, hl0]; done) | (simp [go_sem, hl0]; exact List.take_of_length_le (by simp [hl0])))) | ((refine LeV.frz rfl (by simp [hl0]) (by simp [zaK, zaR, upd, noH]) ?_); (simp only [List.drop_zero, List.take_succ_cons, List.take_zero, List.map_cons, List.map_nil])) | ((refine LeV.frzP rfl (by simp [hl0]) (by simp) (by simp [zaK, zaR, upd, noH]) ?_); (simp only [zaw, List.drop_zero])))))
     ·have hl0 : (zby g 1).length = g.kinds.length := by simp [zby]
      simp only [zyq, zoM, hS1, za9, zbx, zaU]
      simp
      ((try simp only [zar, zau, zaE, zaV, zap, zaU, zat, zal, zad, za3, zaO, zaz, zas, zab, List.map_cons, List.map_nil, List.nil_append, List.append_nil, List.cons_append]); (repeat (first | (with_reducible first|exact zai.nil|exact zae.nil|exact LeV.refl _|exact zai.refl _ _ _ _|exact zae.refl _|refine zai.cons ?_ ?_|refine zae.cons ?_ ?_|refine LeV.agg ?_|refine LeV.tup ?_|refine LeV.fn ?_ ?_|exact LeV.nil _|refine zag (zae.refl _) ?_) | ((refine zam rfl (by simp [hl0]) (by simp [zaK, zaR, upd, noH]) ?_); (first | (simp [go_sem, hl0]; done) | (simp [go_sem, hl0]; exact List.take_of_length_le (by simp [hl0])))) | ((refine LeV.frz rfl (by simp [hl0]) (by simp [zaK, zaR, upd, noH]) ?_); (simp only [List.drop_zero, List.take_succ_cons, List.take_zero, List.map_cons, List.map_nil])) | ((refine LeV.frzP rfl (by simp [hl0]) (by simp) (by simp [zaK, zaR, upd, noH]) ?_); (simp only [zaw, List.drop_zero])))))
    ·intro x hx
     unfold zyq at hx
     simp only [List.mem_cons, List.not_mem_nil, or_false] at hx
     rcases hx with rfl | rfl
     ·exact of_eq_true (hSb0 _)
     ·split
      ·exact .v _
      ·exact of_eq_true (hSb1 _)
  ·simp
  ·have h0 := zlY g s
   simp [go_sem, zah, h0]
   refine ⟨of_eq_true (hbl _), zyr ?_, zf6 (of_eq_true (hSb0 _)) (.sl (by omega))⟩
   simp [go_sem]
  ·simp
 ·simp
 ·simp [go_sem, zah, hbl, zyq]
 ·simp
theorem zoY (g : zaf) (hg : GOk g) (x : zkJ) (hx : zjd x) : zaC Tryz.prog 21 [.agg (zab g), .agg (zdo x)] (.agg (zad (zer g x))) := by
 refine pF Tryz.func21 ?_
 obtain ⟨q, hq⟩ : ∃ q, q = zer g x := ⟨_, rfl⟩
 have hrow := zq9 hx
 obtain ⟨er, her⟩ : ∃ er, er = zdo x := ⟨_, rfl⟩
 rw [← hq, ← her]
 rw [← her] at hrow
 obtain ⟨rl, rc, rk, rh, rr, rs, rb⟩ := hrow
 have c1 := hg.c1
 have c9 := hg.c9
 have k1 := hg.k1
 have k6 := hg.k6
 have hr0 := hg.r0
 have hr4 := hg.r4
 obtain ⟨gc, hgc⟩ : ∃ gc : Nat, g.cells = gc := ⟨g.cells.toNat, by omega⟩
 have hpow : (1 : Int) ≤ 2 ^ g.rights.toNat ∧ (2 : Int) ^ g.rights.toNat ≤ 16 := by
  rcases (show g.rights.toNat = 0 ∨ g.rights.toNat = 1 ∨ g.rights.toNat = 2 ∨ g.rights.toNat = 3 ∨ g.rights.toNat = 4 by omega) with h | h | h | h | h <;> rw [h] <;> decide
 have hrt := hx.r
 have hsd := hx.s
 obtain ⟨rt, hrt'⟩ : ∃ rt, x.rights = rt := ⟨_, rfl⟩
 obtain ⟨pw, hpw⟩ : ∃ pw : Int, (2 : Int) ^ g.rights.toNat = pw := ⟨_, rfl⟩
 have r1 : 0 ≤ x.rights ∧ x.rights ≤ 255 := hx.r
 have s1 : 0 ≤ x.side ∧ x.side ≤ 255 := hx.s
 have s0 := Int.tmod_nonneg 2 s1.1
 have s2 := Int.tmod_lt_of_pos x.side (show (0 : Int) < 2 by decide)
 rw [hpw] at hpow
 generalize heg : zab g = eg at *
 have hel : eg.length = 9 := by rw [← heg]; rfl
 have hbl : ∀ n, (∀ c' ∈ eg, Bel n c') = True := fun n => by rw [← heg]; simp [go_sem]
 have e0 : cel eg 0 = .v (.int .i64 g.cells) := by rw [← heg]; rfl
 have e3 : cel eg 3 = .lst 3 (g.kinds.map zaY) := by rw [← heg]; rfl
 have e4 : cel eg 4 = .v (.int .i64 g.rights) := by rw [← heg]; rfl
 repeat first|with_reducible refine wV fun _=>?_|simp [go_sem, hel, e0, e3, e4, rl, rr, rs, rb, hbl, hpw]
 have hcz : g.cells.toNat = gc := by omega
 have hkne : g.kinds ≠ [] := by intro h; rw [h] at k1; simp at k1
 have hz : List.replicate gc [AV.v (.int .i64 0)] = (zd4 g x 0).map zb3 := by simp [zd4, hcz, zb3]
 refine zyI (zyN (α := Nat) (fun i => ⟨[(2, .ref 0 0 9 0 0), (3, .ref 1 0 18 0 0), (4, .ref 2 0 5 0 0), (5, .ref 19 0 5 0 0), (6, .v (.int .i64 i))], [(0, .rows true 0 9 [eg]), (1, .rows true 0 18 [er]), (2, .rows true 0 5 [[zyQ, zyQ, zyQ, .v (.int .i64 0), .v (.int .i64 0)]]), (6, .rows true 0 1 ((zd4 g x i).map zb3)), (19, .rows true 0 5 [[.sl 6 0 1 0 gc, zyQ, zyQ, .v (.int .i64 (x.rights.tmod pw)), .v (.int .i64 (x.side.tmod 2))]])], 21⟩)
  (fun d i => i + d = 6) ?_ 6 0 ?_) ?_ ?_
 ·rintro d i i1 hrec
  repeat first|with_reducible refine wV fun _=>?_|simp [go_sem]
  refine zyK (fun hi => ?_) (fun hi => ?_) <;> simp at hi
  ·have hci := hx.cv _ (zan (l := x.cell) (i := i) (by rw [hx.c6]; omega))
   have hki := hx.kv _ (zan (l := x.kind) (i := i) (by rw [hx.k6]; omega))
   have hci' : 0 ≤ nth x.cell i ∧ nth x.cell i ≤ 255 := hci
   have hki' : 0 ≤ nth x.kind i ∧ nth x.kind i ≤ 255 := hki
   have m0 := Int.tmod_nonneg (g.cells + 1) hci'.1
   have m1 := Int.tmod_nonneg (g.kinds.length : Int) hki'.1
   have m2 := Int.tmod_lt_of_pos (nth x.kind i) (show (0 : Int) < g.kinds.length by omega)
   have m3 := Int.tmod_nonneg 2 (show (0 : Int) ≤ i by omega)
   have m4 := Int.tmod_lt_of_pos (i : Int) (show (0 : Int) < 2 by decide)
   have hrc := rc i (by omega)
   have hrk := rk i (by omega)
   have hsu := zgy g x i
   have hal := zhQ g x i
   rw [hcz] at hal
   unfold zlb at hsu
   repeat first|with_reducible refine wV fun _=>?_|simp [go_sem, hel, e0, e3, e4, hrc, hrk]
   refine zyK (fun hc => ?_) (fun hc => ?_) <;> simp at hc
   ·have hc1 := hc.1
    rw [if_pos hc1] at hsu
    repeat first|with_reducible refine wV fun _=>?_|simp [go_sem, hel, e0, e3, e4, hrc, hrk, hal]
    refine zyI (hrec (d - 1) (by omega) (i + 1) (by omega)) ?_ (by simp)
    simp [go_sem, zah, hsu, rb, hbl]
   ·have hc1 : ¬ (nth x.cell i).tmod (g.cells + 1) < g.cells := fun h => hkne (hc h)
    rw [if_neg hc1] at hsu
    repeat first|with_reducible refine wV fun _=>?_|simp [go_sem, hel, e0, e3, e4, hrc, hrk]
    refine zyI (hrec (d - 1) (by omega) (i + 1) (by omega)) ?_ (by simp)
    simp [go_sem, zah, hsu, rb, hbl]
  ·obtain rfl : i = 6 := by omega
   have hal := zhQ g x 6
   rw [hcz] at hal
   have hqe : q = ⟨zd4 g x 6, zep g x 0 (min g.kinds.length 2), zep g x 1 (min g.kinds.length 2), x.rights.tmod pw, x.side.tmod 2⟩ := by rw [hq, ← hpw]; rfl
   clear hq
   have hq := hqe
   repeat first|with_reducible refine wV fun _=>?_|simp [go_sem, hel, e0, e3, e4]
   refine zyR ?_
   repeat first|with_reducible refine wV fun _=>?_|simp [go_sem, hel, e0, e3, e4]
   have hz0 := zlt g x 0
   refine zyI (zyN (α := Nat) (fun k => ⟨[(2, .ref 0 0 9 0 0), (3, .ref 1 0 18 0 0), (4, .ref 2 0 5 0 0), (5, .ref 19 0 5 0 0), (8, .v (.int .i64 0)), (9, .v (.int .i64 k))], [(0, .rows true 0 9 [eg]), (1, .rows true 0 18 [er]), (2, .rows true 0 5 [[zyQ, zyQ, zyQ, .v (.int .i64 0), .v (.int .i64 0)]]), (6, .rows true 0 1 ((zd4 g x 6).map zb3)), (19, .rows true 0 5 [[.sl 6 0 1 0 gc, .sl 21 0 1 0 g.kinds.length, zyQ, .v (.int .i64 (x.rights.tmod pw)), .v (.int .i64 (x.side.tmod 2))]]), (21, .rows true 0 1 ((zep g x 0 k).map zb3))], 22⟩)
    (fun d k => k + d = min g.kinds.length 2) ?_ (min g.kinds.length 2) 0 ?_) ?_ ?_
   ·rintro d k j1 hrec0
    repeat first|with_reducible refine wV fun _=>?_|simp [go_sem, hel, e0, e3, e4]
    refine zyK (fun hj => ?_) (fun hj => ?_) <;> simp at hj
    ·have hk2 : k < 2 := by omega
     have hkk : k < g.kinds.length := by omega
     have hhv := hx.hv _ (zan (l := x.hand) (i := 2 * 0 + k) (by rw [hx.h4]; omega))
     have hh1 : 0 ≤ nth x.hand (2 * 0 + k) ∧ nth x.hand (2 * 0 + k) ≤ 255 := hhv
     have hrh := rh (2 * 0 + k) (by omega)
     have m0 := Int.tmod_nonneg 3 hh1.1
     have hsu := zls g x 0 k
     have hsk := zlr g x 0 k
     have hhl := zdA g x 0 k
     have hV : zpB g x 0 k = if (nth g.kinds k).keep = true then (if 250 < nth x.hand (2 * 0 + k) then 8 else (nth x.hand (2 * 0 + k)).tmod 3) else 0 := rfl
     simp only [Nat.mul_zero, Nat.zero_add, Nat.mul_one] at hrh hh1 m0 hV
     repeat first|with_reducible refine wV fun _=>?_|simp [go_sem, hel, e0, e3, e4, hkk]
     refine zyK (fun hkeep => ?_) (fun hkeep => ?_)
     ·rw [if_pos hkeep] at hV
      have eI : ((k : Int)).toNat = k := by omega
      have eI2 : (k : Int) < 4 := by omega
      repeat first|with_reducible refine wV fun _=>?_|simp [go_sem, hel, e0, e3, e4, hkk, hrh, hhl, eI, eI2]
      refine zyK (fun hbig => ?_) (fun hbig => ?_) <;> simp at hbig
      ·rw [if_pos hbig] at hV
       rw [hV] at hsu
       repeat first|with_reducible refine wV fun _=>?_|simp [go_sem, hel, e0, e3, e4, hkk, hrh, hhl]
       refine zyI (hrec0 (d - 1) (by omega) (k + 1) (by omega)) ?_ (by simp)
       simp [go_sem, zah, hsu, rb, hbl]
      ·rw [if_neg (by omega)] at hV
       rw [hV] at hsu
       repeat first|with_reducible refine wV fun _=>?_|simp [go_sem, hel, e0, e3, e4, hkk, hrh, hhl]
       refine zyI (hrec0 (d - 1) (by omega) (k + 1) (by omega)) ?_ (by simp)
       simp [go_sem, zah, hsu, rb, hbl]
     ·rw [if_neg (by simpa using hkeep)] at hV
      have hsk' := hsk hV
      repeat first|with_reducible refine wV fun _=>?_|simp [go_sem, hel, e0, e3, e4]
      refine zyI (hrec0 (d - 1) (by omega) (k + 1) (by omega)) ?_ (by simp)
      simp [go_sem, zah, hsk', rb, hbl]
    ·have hkm : k = min g.kinds.length 2 := by omega
     subst hkm
     repeat first|with_reducible refine wV fun _=>?_|simp [go_sem, hel, e0, e3, e4]
     refine zyR ?_
     repeat first|with_reducible refine wV fun _=>?_|simp [go_sem, hel, e0, e3, e4]
     have hz1 := zlt g x 1
     refine zyI (zyN (α := Nat) (fun k => ⟨[(2, .ref 0 0 9 0 0), (3, .ref 1 0 18 0 0), (4, .ref 2 0 5 0 0), (5, .ref 19 0 5 0 0), (8, .v (.int .i64 1)), (9, .v (.int .i64 k))], [(0, .rows true 0 9 [eg]), (1, .rows true 0 18 [er]), (2, .rows true 0 5 [[zyQ, zyQ, zyQ, .v (.int .i64 0), .v (.int .i64 0)]]), (6, .rows true 0 1 ((zd4 g x 6).map zb3)), (19, .rows true 0 5 [[.sl 6 0 1 0 gc, .sl 21 0 1 0 g.kinds.length, .sl 22 0 1 0 g.kinds.length, .v (.int .i64 (x.rights.tmod pw)), .v (.int .i64 (x.side.tmod 2))]]), (21, .rows true 0 1 ((zep g x 0 (min g.kinds.length 2)).map zb3)), (22, .rows true 0 1 ((zep g x 1 k).map zb3))], 23⟩)
      (fun d k => k + d = min g.kinds.length 2) ?_ (min g.kinds.length 2) 0 ?_) ?_ ?_
     ·rintro d k j1 hrec1
      repeat first|with_reducible refine wV fun _=>?_|simp [go_sem, hel, e0, e3, e4]
      refine zyK (fun hj => ?_) (fun hj => ?_) <;> simp at hj
      ·have hk2 : k < 2 := by omega
       have hkk : k < g.kinds.length := by omega
       have hhv := hx.hv _ (zan (l := x.hand) (i := 2 * 1 + k) (by rw [hx.h4]; omega))
       have hh1 : 0 ≤ nth x.hand (2 * 1 + k) ∧ nth x.hand (2 * 1 + k) ≤ 255 := hhv
       have hrh := rh (2 * 1 + k) (by omega)
       have m0 := Int.tmod_nonneg 3 hh1.1
       have hsu := zls g x 1 k
       have hsk := zlr g x 1 k
       have hhl := zdA g x 1 k
       have hV : zpB g x 1 k = if (nth g.kinds k).keep = true then (if 250 < nth x.hand (2 * 1 + k) then 8 else (nth x.hand (2 * 1 + k)).tmod 3) else 0 := rfl
       simp only [Nat.mul_zero, Nat.zero_add, Nat.mul_one] at hrh hh1 m0 hV
       repeat first|with_reducible refine wV fun _=>?_|simp [go_sem, hel, e0, e3, e4, hkk]
       refine zyK (fun hkeep => ?_) (fun hkeep => ?_)
       ·rw [if_pos hkeep] at hV
        have eI : (2 + (k : Int)).toNat = 2 + k := by omega
        have eI2 : 2 + (k : Int) < 4 := by omega
        repeat first|with_reducible refine wV fun _=>?_|simp [go_sem, hel, e0, e3, e4, hkk, hrh, hhl, eI, eI2]
        refine zyK (fun hbig => ?_) (fun hbig => ?_) <;> simp at hbig
        ·rw [if_pos hbig] at hV
         rw [hV] at hsu
         repeat first|with_reducible refine wV fun _=>?_|simp [go_sem, hel, e0, e3, e4, hkk, hrh, hhl]
         refine zyI (hrec1 (d - 1) (by omega) (k + 1) (by omega)) ?_ (by simp)
         simp [go_sem, zah, hsu, rb, hbl]
        ·rw [if_neg (by omega)] at hV
         rw [hV] at hsu
         repeat first|with_reducible refine wV fun _=>?_|simp [go_sem, hel, e0, e3, e4, hkk, hrh, hhl]
         refine zyI (hrec1 (d - 1) (by omega) (k + 1) (by omega)) ?_ (by simp)
         simp [go_sem, zah, hsu, rb, hbl]
       ·rw [if_neg (by simpa using hkeep)] at hV
        have hsk' := hsk hV
        repeat first|with_reducible refine wV fun _=>?_|simp [go_sem, hel, e0, e3, e4]
        refine zyI (hrec1 (d - 1) (by omega) (k + 1) (by omega)) ?_ (by simp)
        simp [go_sem, zah, hsk', rb, hbl]
      ·have hkm : k = min g.kinds.length 2 := by omega
       subst hkm
       repeat first|with_reducible refine wV fun _=>?_|simp [go_sem, hel, e0, e3, e4]
       repeat first|with_reducible refine wV fun _=>?_|simp [go_sem, hel, e0, e3, e4]
       refine zyR ?_
       repeat first|with_reducible refine wV fun _=>?_|simp [go_sem, hel, e0, e3, e4]
       rw [hq]
       exact ⟨zam rfl (by simp [hal]) (by simp [noH]) (by simp [List.take_of_length_le, hal]), zam rfl (by simp [zdA]) (by simp [noH]) (by simp [List.take_of_length_le, zdA]), zam rfl (by simp [zdA]) (by simp [noH]) (by simp [List.take_of_length_le, zdA]), .refl _, .refl _⟩
     ·omega
     ·simp [go_sem, zah, rb, hbl, hz1]
     ·simp
   ·omega
   ·simp [go_sem, zah, rb, hbl, hz0]
   ·simp
 ·rfl
 ·simp [go_sem, zah, rb, hbl, hz, hcz]
 ·simp
theorem zo5 (g : zaf) (hg : GOk g) (p : zaj) (hp : POk g p) (picks : List Int) (hl : picks.length ≤ 4294967296) (hk : ∀ k ∈ picks, 0 ≤ k ∧ k ≤ 9223372036854775807) :
    zaC Tryz.prog 87 [.agg (zab g), .agg (zad p), zas picks] (zaz (zfS g p picks)) := by
  refine pF Tryz.func87 ?_
  generalize hR : zfS g p picks = R
  repeat first|with_reducible refine wV fun _=>?_|simp [go_sem]
  refine zyI (zyN (α := Nat × List zaj × zaj) (fun a => ⟨[(2, zas picks), (3, .ref 0 0 9 0 0), (4, .ref 1 0 5 0 0), (7, .sl 2 a.2.1.length 5 0 (a.2.1.length + 1)), (8, .v (.int .i64 a.1))], [(0, .rows true 0 9 [zab g]), (1, .rows true 0 5 [zad a.2.2]), (2, .rows true a.2.1.length 5 ((a.2.1 ++ [a.2.2]).map zad))], 3⟩)
    (fun d a => a.1 + d = picks.length ∧ a.2.1.length = a.1 ∧ POk g a.2.2 ∧ R = a.2.1 ++ zfS g a.2.2 (picks.drop a.1)) ?_ picks.length (0, [], p) ?_) ?_ ?_
  · rintro d ⟨i, pre, cur⟩ ⟨i1, i2, i3, i4⟩ hrec
    simp only at i1 i2 i3 i4
    repeat first|with_reducible refine wV fun _=>?_|simp [go_sem]
    refine zyK (fun hi => ?_) (fun hi => ?_) <;> simp at hi
    · have hM := zib g hg cur i3
      have hki := hk _ (zan hi)
      have hml := zhR hg i3
      have hmo := zc7 hg i3
      rw [zaM hi, zfS] at i4
      generalize zaH g cur = l at *
      repeat first|with_reducible refine wV fun _=>?_|simp [go_sem]
      refine zyJ hM (by simp [go_sem]) ?_
      repeat first|with_reducible refine wV fun _=>?_|simp [go_sem]
      by_cases hz : l = []
      · rw [if_pos hz] at i4
        subst hz
        repeat first|with_reducible refine wV fun _=>?_|simp [go_sem]
        rw [i4]
        exact frX
      · rw [if_neg hz] at i4
        have hlp : 0 < l.length := List.length_pos_iff.2 hz
        have e1 : (nth picks i).tmod l.length = (nth picks i).emod l.length := Int.tmod_eq_emod_of_nonneg hki.1
        have e2 : 0 ≤ (nth picks i).emod l.length := Int.emod_nonneg _ (by omega)
        have e3 : (nth picks i).emod l.length < l.length := Int.emod_lt_of_pos _ (by omega)
        generalize (nth picks i).emod l.length = j at *
        have hjl : j.toNat < l.length := by omega
        repeat first|with_reducible refine wV fun _=>?_|simp [go_sem, hi, hz, e1, hjl]
        (refine zyK (fun hF => by first | omega | (simp at hF; omega)) (fun hF => ?_); clear hF)
        repeat first|with_reducible refine wV fun _=>?_|simp [go_sem, hjl]
        refine zyI (hrec (d - 1) (by omega) (i + 1, pre ++ [cur], nth l j.toNat) ⟨by simp only; omega, by simp; omega, (hmo _ (zan hjl)).1, by simpa using i4⟩) ?_ (by simp)
        simp [go_sem, zah]
    · rw [List.drop_eq_nil_of_le hi, zfS] at i4
      repeat first|with_reducible refine wV fun _=>?_|simp [go_sem]
      rw [i4]
      exact frX
  · exact ⟨by simp, rfl, hp, by simp [hR]⟩
  · simp [go_sem, zah]
  · simp
structure zo6 where
  g : zgr
  p : zkJ
  picks : List Int
structure zfq (x : zo6) : Prop where
  g : zjc x.g
  p : zjd x.p
  k : ∀ n ∈ x.picks, U8 n
  lk : x.picks.length ≤ 1099511627776
  l0 : x.g.k0.length ≤ 1099511627776
  l1 : x.g.k1.length ≤ 1099511627776
  lc : x.g.c.length ≤ 1099511627776
def zcs (x : zo6) : List AV := zcz x.g ++ (zdo x.p ++ [zr9 x.picks])
def zc6 (x : zo6) : zaf := zfm x.g
def zqg (x : zo6) : List zaj := zfS (zc6 x) (zer (zc6 x) x.p) (x.picks.take 6)
def zwL (x : zo6) : zaj := nth (zqg x) ((zqg x).length - 1)
theorem zec {x : zo6} (hx : zfq x) : GOk (zc6 x) := zqT hx.g
theorem zkd {x : zo6} (hx : zfq x) : POk (zc6 x) (zwL x) := by
  have hne := List.length_pos_iff.2 (zrj (zc6 x) (zer (zc6 x) x.p) (x.picks.take 6))
  exact zrk (zec hx) _ (zlI (zec hx) hx.p) _ (zan (by unfold zqg; omega))
theorem zdT (x : zo6) (hx : zfq x) : zaC Tryz.prog 32 [.agg (zcs x)] (.tup [.agg (zab (zc6 x)), .agg (zad (zwL x))]) := by
  refine pF Tryz.func32 ?_
  have hg := zec hx
  have hG := zi8 x.g hx.g hx.lc hx.l0 hx.l1
  have hP := zoY (zc6 x) hg x.p hx.p
  have hlk := hx.lk
  have hW := zo5 (zc6 x) hg (zer (zc6 x) x.p) (zlI hg hx.p) (x.picks.take 6) (by simp; omega) (fun k hk => by have := hx.k k (List.mem_of_mem_take hk); have h0 := this.1; have h1 := this.2; omega)
  have hwl := zoJ (zc6 x) (x.picks.take 6) (zer (zc6 x) x.p)
  have hwp := List.length_pos_iff.2 (zrj (zc6 x) (zer (zc6 x) x.p) (x.picks.take 6))
  rw [show zfS (zc6 x) (zer (zc6 x) x.p) (x.picks.take 6) = zqg x from rfl] at hW hwl hwp
  have hq : zwL x = nth (zqg x) ((zqg x).length - 1) := rfl
  rw [show zfm x.g = zc6 x from rfl] at hG
  obtain ⟨eg, heg⟩ : ∃ eg, eg = zab (zc6 x) := ⟨_, rfl⟩
  have hegl : eg.length = 9 := by rw [heg]; rfl
  have hegb : ∀ n, (∀ c ∈ eg, Bel n c) = True := fun n => by rw [heg]; simp [go_sem]
  rw [← heg] at hG hP hW ⊢
  generalize zqg x = w at *
  generalize zwL x = q at *
  unfold zcs
  have hrow := zq9 hx.p
  obtain ⟨er, her⟩ : ∃ er, er = zdo x.p := ⟨_, rfl⟩
  rw [← her] at hrow hP ⊢
  obtain ⟨rl, _, _, _, _, _, rb⟩ := hrow
  obtain ⟨er1, her1⟩ : ∃ er1, er1 = zcz x.g := ⟨_, rfl⟩
  have er1l : er1.length = 12 := by rw [her1]; rfl
  have er1b : ∀ n, (∀ c ∈ er1, Bel n c) = True := fun n => by rw [her1]; simp [go_sem]
  rw [← her1] at hG ⊢
  have hc30 : cel (er1 ++ (er ++ [AV.lst 1 (x.picks.map znC)])) 30 = .lst 1 (x.picks.map znC) := by
    unfold cel
    rw [List.getD_eq_getElem?_getD, List.getElem?_append_right (by omega), List.getElem?_append_right (by omega)]
    simp [er1l, rl]
  have hd12 : List.take 18 (List.drop 12 (er1 ++ (er ++ [AV.lst 1 (x.picks.map znC)]))) = er := by
    rw [← er1l, List.drop_left, ← rl, List.take_left]
  repeat first|with_reducible refine wV fun _=>?_|simp [go_sem, rl, rb, er1l, er1b, hegl, hegb]
  refine zyJ hG (by simp [go_sem, er1b]) ?_
  repeat first|with_reducible refine wV fun _=>?_|simp [go_sem, rl, rb, er1l, er1b, hegl, hegb, hc30]
  obtain ⟨pk, hpk⟩ : ∃ pk : Nat → List Int, ∀ i, pk i = x.picks.take i := ⟨_, fun _ => rfl⟩
  have htl : ∀ i, i ≤ x.picks.length → (pk i).length = i := fun i hi => by rw [hpk]; simp; omega
  have hts : ∀ i, i < x.picks.length → pk (i + 1) = pk i ++ [nth x.picks i] := fun i hi => by rw [hpk, hpk, List.take_add_one, List.getElem?_eq_getElem hi, zaJ _ _ hi]; rfl
  have hp0 : pk 0 = [] := by rw [hpk]; rfl
  rw [← hpk] at hW
  refine zyI (zyN (α := Nat) (fun i => ⟨[(1, .ref 0 0 31 0 0), (2, .ref 1 0 9 0 0), (3, .ref 2 0 5 0 0), (4, .ref 3 0 9 0 0), (5, .sl 4 i 1 0 i), (6, .v (.int .i64 i))],
      [(0, .rows true 0 31 [er1 ++ (er ++ [AV.lst 1 (x.picks.map znC)])]), (1, .rows true 0 9 [[.v (.int .i64 0), zyQ, zyQ, zyQ, .v (.int .i64 0), .v (.bool false), zyQ, .v (.int .i64 0), .v (.int .i64 0)]]),
       (2, .rows true 0 5 [[zyQ, zyQ, zyQ, .v (.int .i64 0), .v (.int .i64 0)]]), (3, .rows true 0 9 [eg]), (4, .rows true i 1 ((pk i).map zb3))], 5⟩)
    (fun d i => i + d = min x.picks.length 6) ?_ (min x.picks.length 6) 0 ?_) ?_ ?_
  · rintro d i i1 hrec
    repeat first|with_reducible refine wV fun _=>?_|simp [go_sem, rl, rb, er1l, er1b, hegl, hegb, hc30]
    refine zyK (fun hi => ?_) (fun hi => ?_) <;> simp at hi
    · have hil : i < x.picks.length := by omega
      have hki := hx.k _ (zan hil)
      have hk0 := hki.1
      have hk1 := hki.2
      have e1 := htl i (by omega)
      have e2 := hts i hil
      repeat first|with_reducible refine wV fun _=>?_|simp [go_sem, rl, er1l, hc30, hil, e1]
      refine zyI (hrec (d - 1) (by omega) (i + 1) (by omega)) ?_ (by simp)
      simp [go_sem, zah, e2, rb, er1b, hegb]
    · have hil : i = min x.picks.length 6 := by omega
      have e1 := htl i (by omega)
      have e2 : pk i = pk 6 := by rw [hpk, hpk, hil, List.take_eq_take_iff]; omega
      rw [← e2] at hW
      repeat first|with_reducible refine wV fun _=>?_|simp [go_sem, rl, rb, er1l, er1b, hegl, hegb, hd12]
      refine zyM hP (by simp [go_sem, hegb, rb]) ?_
      repeat first|with_reducible refine wV fun _=>?_|simp [go_sem, rl, rb, er1l, er1b, hegl, hegb]
      refine zay.frz [.agg eg, .agg (zad (zer (zc6 x) x.p)), zas (pk i)] _ [4] [(4, some (.rows false i 1 ((pk i).map zb3)))] hW ?_ ?_ (by simp [go_sem, hegb]) ?_
      · intro p hp
        simp only [List.mem_singleton] at hp
        subst hp
        exact ⟨by simp, i, 1, _, rfl, by simp [upd]⟩
      · intro h₁ hS
        have h7 := hS 4 (by simp)
        simp [upd] at h7
        exact .cons (.refl _) (.cons (.refl _) (.cons (zam h7.symm (by simp [e1]) (by simp [zao, upd]) (by rw [List.drop_zero, List.take_of_length_le (by simp [e1])])) .nil))
      · have h6 : (x.picks.take 6).length ≤ 6 := by simp; omega
        have hw7 : w.length ≤ 7 := by omega
        have hwi : ((w.length : Int) - 1).toNat = w.length - 1 := by omega
        have hwn : w.length - 1 < w.length := by omega
        rw [hq]
        repeat first|with_reducible refine wV fun _=>?_|simp [go_sem, rl, rb, er1l, er1b, hegl, hegb, hwi, hwn]
  · omega
  · simp [go_sem, zah, rb, er1b, hegb, hp0]
  · simp
theorem zhl {x : zo6} (hx : zfq x) : (zcs x).length = 31 := by
  obtain ⟨rl, _, _, _, _, _, rb⟩ := zq9 hx.p
  simp [zcs, zcz, rl]
theorem zhk {x : zo6} (hx : zfq x) (n : Nat) : (∀ c ∈ zcs x, Bel n c) = True := by
  obtain ⟨rl, _, _, _, _, _, rb⟩ := zq9 hx.p
  refine eq_true ?_
  intro c hc
  unfold zcs at hc
  rcases List.mem_append.1 hc with h | h
  · have : (∀ c ∈ zcz x.g, Bel n c) = True := by simp [go_sem]
    exact of_eq_true this c h
  · rcases List.mem_append.1 h with h | h
    · exact of_eq_true (rb n) c h
    · simp only [List.mem_singleton] at h
      subst h
      simp [go_sem]
end Go.Av
end
