/- Texts of ours, part 9: our library and contracts of functions. -/
import Derived.Test.YtedhfmmlhfmomaaGreatDoorB08
import Derived.Shelf.SlSortCmp.NoneTotal
import Derived.Test.YtedhfmmlhfmomaaGreatDoorProg
set_option linter.unusedSimpArgs false
set_option linter.unusedVariables false
set_option maxRecDepth 100000
set_option maxHeartbeats 40000000
section
open Go Go.Proofs
namespace Go.Av
theorem ziy (a b : zb8) (ha : zaK a.pos) (hb : zaK b.pos) : zaP Tryz.prog 310 [.agg (zaF a), .agg (zaF b)] (.v (.bool (zoi a b))) := by
 refine pF Tryz.func310 ?_
 have hC := zcE _ _ ha hb
 unfold zoi
 obtain ⟨pa, ta⟩ := a
 obtain ⟨pb, tb⟩ := b
 simp only at hC ⊢
 generalize za7 pa pb = c at *
 repeat first|refine wV fun _=>?_|simp [go_sem]
 refine zAD hC (by simp [go_sem]) ?_
 by_cases c1 : c < 0
 ·repeat first|refine wV fun _=>?_|simp [go_sem, c1]
 ·by_cases c2 : c = 0
  ·subst c2
   cases ta <;> cases tb <;> (repeat (first|refine wV fun _=>?_|simp [go_sem]))
  ·cases ta <;> cases tb <;> (repeat (first|refine wV fun _=>?_|simp [go_sem, c1, c2]))
def zkw (x : zb8) (l : List zb8) (dn : Bool) : List zb8 := if dn then l else zbE x l
theorem zlU (l : List zb8) (x : zb8) (hl : l.length ≤ 17179869184) (h1 : ∀ o ∈ l, zaK o.pos) (h2 : zaK x.pos) : zaP Tryz.prog 294 [zcS l, .agg (zaF x)] (zcS (zbE x l)) := by
 refine pF Tryz.func294 ?_
 obtain ⟨R, hR⟩ : ∃ R, R = zbE x l := ⟨_, rfl⟩
 rw [← hR]
 repeat first|refine wV fun _=>?_|simp [go_sem]
 refine zAC (zAG (α := Nat × List zb8 × Bool) (fun a => ⟨[(0, zcS l), (3, .ref 0 0 6 0 0), (5, .sl 1 a.2.1.length 6 0 a.2.1.length), (6, .v (.bool a.2.2)), (7, .v (.int .i64 a.1))], [(0, .rows true 0 6 [zaF x]), (1, .rows true a.2.1.length 6 (a.2.1.map zaF))], 2⟩)
  (fun d a => a.1 + d = l.length ∧ a.2.1.length ≤ a.1 + a.2.2.toNat ∧ R = a.2.1 ++ zkw x (l.drop a.1) a.2.2) ?_ l.length (0, [], false) ?_) ?_ ?_
 ·rintro d ⟨i, out, dn⟩ ⟨i1, i2, i3⟩ hrec
  simp only at i1 i2 i3
  repeat first|refine wV fun _=>?_|simp [go_sem]
  refine zAE (fun hi => ?_) (fun hi => ?_) <;> simp at hi
  ·have f1 := h1 _ (zaj hi)
   have hL1 := ziy (nth l i) x f1 h2
   have hL2 := ziy x (nth l i) h2 f1
   rw [zaQ hi] at i3
   cases dn
   ·simp only [zkw, zbE] at i3
    simp only [Bool.toNat_false] at i2
    repeat first|refine wV fun _=>?_|simp [go_sem, hi]
    refine zAO _ (fun _ => hL1) (by simp [go_sem]) ?_
    repeat first|refine wV fun _=>?_|simp [go_sem, hi]
    by_cases l1 : zoi (nth l i) x = true
    ·rw [if_pos l1] at i3
     repeat first|refine wV fun _=>?_|simp [go_sem, hi, l1]
     refine zAC (hrec (d - 1) (by omega) (i + 1, out ++ [nth l i], false) ⟨by simp only; omega, by simp; omega, by simpa [zkw] using i3⟩) ?_ (by simp)
     simp [go_sem, zaf]
    ·rw [if_neg l1] at i3
     repeat first|refine wV fun _=>?_|simp [go_sem, hi, l1]
     refine zAF hL2 (by simp [go_sem]) ?_
     repeat first|refine wV fun _=>?_|simp [go_sem, hi]
     by_cases l2 : zoi x (nth l i) = true
     ·rw [if_pos l2] at i3
      repeat first|refine wV fun _=>?_|simp [go_sem, hi, l2]
      refine zAC (hrec (d - 1) (by omega) (i + 1, out ++ [x] ++ [nth l i], true) ⟨by simp only; omega, by simp; omega, by simpa [zkw] using i3⟩) ?_ (by simp)
      simp [go_sem, zaf]
     ·rw [if_neg l2] at i3
      repeat first|refine wV fun _=>?_|simp [go_sem, hi, l2]
      refine zAC (hrec (d - 1) (by omega) (i + 1, out ++ [nth l i], true) ⟨by simp only; omega, by simp; omega, by simpa [zkw] using i3⟩) ?_ (by simp)
      simp [go_sem, zaf]
   ·simp only [zkw, if_true] at i3
    simp only [Bool.toNat_true] at i2
    repeat first|refine wV fun _=>?_|simp [go_sem, hi]
    refine dGC.skip (.v (.bool true)) ?_
    repeat first|refine wV fun _=>?_|simp [go_sem, hi]
    refine zAC (hrec (d - 1) (by omega) (i + 1, out ++ [nth l i], true) ⟨by simp only; omega, by simp; omega, by simpa [zkw] using i3⟩) ?_ (by simp)
    simp [go_sem, zaf]
  ·rw [List.drop_eq_nil_of_le hi] at i3
   cases dn
   ·simp [zkw, zbE] at i3
    simp only [Bool.toNat_false] at i2
    repeat first|refine wV fun _=>?_|simp [go_sem]
    rw [i3]
    exact frX
   ·simp [zkw] at i3
    simp only [Bool.toNat_true] at i2
    repeat first|refine wV fun _=>?_|simp [go_sem]
    rw [i3]
    exact frX
 ·simp [zkw, hR]
 ·simp [go_sem, zaf]
 ·simp
theorem zxu (a b : zb8) : orI [za7 a.pos b.pos, za3 (if a.took then 1 else 0) (if b.took then 1 else 0)] = zhA a b := by
 unfold zhA zz9
 simp only [orI]
 repeat' split
 all_goals first | rfl | omega
theorem zgd (a b : zb8) (ha : zaK a.pos) (hb : zaK b.pos) : zaP Tryz.prog 186 [.agg (zaF a), .agg (zaF b)] (.v (.int .i64 (zhA a b))) := by
 refine pF Tryz.func186 ?_
 rw [← zxu]
 have c1 := zbz _ _ ha hb
 obtain ⟨pa, ta⟩ := a
 obtain ⟨pb, tb⟩ := b
 have c4 := zdq (if ta then 1 else 0) (if tb then 1 else 0)
 simp only at c1 c4 ⊢
 generalize hx1 : za7 pa pb = x1 at *
 generalize hx2 : za3 (if ta then 1 else 0) (if tb then 1 else 0) = x2 at *
 cases ta <;> cases tb <;> simp only [if_true, Bool.false_eq_true, if_false] at c4 <;>
 ·repeat first|refine wV fun _=>?_|simp [go_sem]
  refine zAF c1 (by simp [go_sem]) ?_
  repeat first|refine wV fun _=>?_|simp [go_sem]
  refine zAF c4 (by simp [go_sem]) ?_
  repeat first|refine wV fun _=>?_|simp [go_sem]
  refine zaw.frz [zap [x1, x2]] _ [17] [(17, some (.rows false 0 1 ([x1, x2].map zbB)))] (zqX _ (by unfold zeY; simp)) ?_ ?_ (by simp [go_sem]) ?_
  ·intro p hp
   simp only [List.mem_singleton] at hp
   subst hp
   exact ⟨by simp, 0, 1, _, rfl, by simp [upd, go_sem]⟩
  ·intro h₁ hS
   have h7 := hS 17 (by simp)
   simp [go_sem] at h7
   exact .cons (zaB h7.symm (by simp) (by simp [zai, upd]) (by simp [go_sem])) .nil
  ·repeat first|refine wV fun _=>?_|simp [go_sem]
theorem zti (a b : zb8) (ha : zaK a.pos) (hb : zaK b.pos) : zaP Tryz.prog 188 [.agg (zaF a), .agg (zaF b)] (.v (.bool (decide (a = b)))) := by
 refine pF Tryz.func188 ?_
 have c1 := zgd a b ha hb
 have e : decide (a = b) = decide (zhA a b = 0) := by rw [decide_eq_decide]; exact (zb3.eq a b).symm
 rw [e]
 generalize zhA a b = x at *
 repeat first|refine wV fun _=>?_|simp [go_sem]
 refine zAD c1 (by simp [go_sem]) ?_
 repeat first|refine wV fun _=>?_|simp [go_sem]
theorem zqp (a b : zag) (ha : zaK a) (hb : zaK b) : zaP Tryz.prog 131 [.agg (zac a), .agg (zac b)] (.v (.bool (decide (a = b)))) := by
 refine pF Tryz.func131 ?_
 have c1 := zbz a b ha hb
 have e : decide (a = b) = decide (za7 a b = 0) := by rw [decide_eq_decide]; exact (zaM.eq a b).symm
 rw [e]
 generalize za7 a b = x at *
 repeat first|refine wV fun _=>?_|simp [go_sem]
 refine zAD c1 (by simp [go_sem]) ?_
 repeat first|refine wV fun _=>?_|simp [go_sem]
structure zzb (p : List (Int × Int)) : Prop where
 len : p.length ≤ 6
 st : ∀ x ∈ p, 1 ≤ x.1 ∧ x.1 ≤ 10 ∧ 0 ≤ x.2 ∧ (x.1 = 3 ∨ x.1 = 4 ∨ x.1 = 5 ∨ x.1 = 6 → x.2 = 0)
 take : zaA p 6 ≤ 2
 push : zaA p 7 ≤ 1
 become : zaA p 8 ≤ 1
theorem zAa {d e k r : Int} (hd : 0 ≤ d) (he : 0 ≤ e) (hk : 0 ≤ k) (hr : 0 ≤ r) (i : Nat) : zzb (nth (zoQ d e k r) i) := by
 have h4 := Int.tmod_nonneg 8 (show 0 ≤ d + 4 by omega)
 rcases Nat.lt_or_ge i 16 with h | h
 ·have : ∀ p ∈ zoQ d e k r, zzb p := by
   intro p hp
   simp only [zoQ, List.mem_cons, List.not_mem_nil, or_false] at hp
   rcases hp with rfl | rfl | rfl | rfl | rfl | rfl | rfl | rfl | rfl | rfl | rfl | rfl | rfl | rfl | rfl | rfl <;>
    exact ⟨by simp, by simp <;> omega, by simp [zaA], by simp [zaA], by simp [zaA]⟩
  exact this _ (zaj h)
 ·have e : nth (zoQ d e k r) i = [] := by
   unfold nth
   rw [List.getD_eq_getElem?_getD, List.getElem?_eq_none (by exact h)]; rfl
  rw [e]
  exact ⟨by simp, by simp, by simp [zaA], by simp [zaA], by simp [zaA]⟩
theorem zsz {dirs kinds rights : Int} {x y : Int × Int} (h : zbv dirs kinds rights x = some y) : y.1 = x.1 := by
 unfold zbv at h
 split at h
 ·simp only [Option.some.injEq] at h; rw [← h]
 ·split at h
  ·simp only [Option.some.injEq] at h; rw [← h]
  ·split at h
   ·split at h
    ·cases h
    ·simp only [Option.some.injEq] at h; rw [← h]
   ·simp only [Option.some.injEq] at h; rw [← h]
theorem zfc {dirs kinds rights : Int} (op : Int) : ∀ p : List (Int × Int), zaA (p.filterMap (zbv dirs kinds rights)) op ≤ zaA p op
 | [] => by simp [zaA]
 | x :: p => by
  have ih := zfc (dirs := dirs) (kinds := kinds) (rights := rights) op p
  unfold zaA at *
  rw [List.filterMap_cons]
  cases hf : zbv dirs kinds rights x with
  | none => simp only [List.countP_cons]; omega
  | some y =>
   have := zsz hf
   simp only [List.countP_cons, this]
   omega
theorem zzZ {dirs kinds rights : Int} (hd : 1 ≤ dirs) (hk : 1 ≤ kinds) (hr : 0 ≤ rights) {p : List (Int × Int)} (hp : zzb p) : zm9 dirs kinds rights (zyU dirs kinds rights p) := by
 have h0 : zm9 dirs kinds rights [(3, 0)] := by
  refine ⟨by simp, by simp, fun x hx => ?_, by simp [zaA], by simp [zaA], by simp [zaA]⟩
  simp only [List.mem_singleton] at hx
  subst hx
  exact ⟨by simp, by simp, by simp, by simp, by simp⟩
 unfold zyU
 split
 ·exact h0
 ·rename_i hne
  have hl : (p.filterMap (zbv dirs kinds rights)).length ≤ p.length := List.length_filterMap_le _ _
  have hpos := List.length_pos_iff.2 hne
  refine ⟨by omega, by have := hp.len; omega, fun y hy => ?_, Nat.le_trans (zfc 6 p) hp.take, Nat.le_trans (zfc 7 p) hp.push, Nat.le_trans (zfc 8 p) hp.become⟩
  obtain ⟨x, hx, hf⟩ := List.mem_filterMap.1 hy
  obtain ⟨a, b, c, d⟩ := hp.st x hx
  have m1 := Int.tmod_nonneg dirs c
  have m2 := Int.tmod_lt_of_pos x.2 (show 0 < dirs by omega)
  have m3 := Int.tmod_nonneg kinds c
  have m4 := Int.tmod_lt_of_pos x.2 (show 0 < kinds by omega)
  have m5 := Int.tmod_nonneg rights c
  unfold zbv at hf
  split at hf
  ·simp only [Option.some.injEq] at hf; subst hf
   exact ⟨by simp only; omega, by simp only; omega, by simp only; omega, by simp only; omega, by simp only; omega⟩
  ·split at hf
   ·simp only [Option.some.injEq] at hf; subst hf
    exact ⟨by simp only; omega, by simp only; omega, by simp only; omega, by simp only; omega, by simp only; omega⟩
   ·split at hf
    ·split at hf
     ·cases hf
     ·rename_i hr0
      have m6 := Int.tmod_lt_of_pos x.2 (show 0 < rights by omega)
      simp only [Option.some.injEq] at hf; subst hf
      exact ⟨by simp only; omega, by simp only; omega, by simp only; omega, by simp only; omega, by simp only; omega⟩
    ·simp only [Option.some.injEq] at hf; subst hf
     exact ⟨by omega, by omega, by omega, by omega, by omega⟩
theorem zx5 {n dirs kinds rights : Int} (hn : U8 n) (hd : 1 ≤ dirs) (hk : 1 ≤ kinds) (hr : 0 ≤ rights) : zm9 dirs kinds rights (zkx n dirs kinds rights) := by
 obtain ⟨n0, n1⟩ := hn
 have q0 : 0 ≤ n.tdiv 16 := by rw [Int.tdiv_eq_ediv_of_nonneg n0]; omega
 have q1 : 0 ≤ n.tdiv 3 := by rw [Int.tdiv_eq_ediv_of_nonneg n0]; omega
 have q2 := Int.tmod_nonneg 5 n0
 exact zzZ hd hk hr (zAa (Int.tmod_nonneg _ q0) (Int.tmod_nonneg _ (by omega)) (Int.tmod_nonneg _ q1) (Int.tmod_nonneg _ n0) _)
theorem zsU (w h cut : Int) (d : Nat) (hd : d < (zeV w h cut).turn.length) : nth (zeV w h cut).turn (nth (zeV w h cut).turn d).toNat = d := by
 have ht : (zeV w h cut).turn = zbL 8 := by unfold zeV; split <;> rfl
 rw [ht] at hd ⊢
 have h8 : d < 8 := by simpa [zbL] using hd
 have : ∀ d : Fin 8, nth (zbL 8) (nth (zbL 8) d.val).toNat = (d.val : Int) := by decide
 exact this ⟨d, h8⟩
theorem zx4 {x : zhY} (hx : zrH x) : GOk (zhd x) := by
 have hb : za1 x.board := zhy hx.w.1 hx.h.1 x.cut
 have hc := zjo hx.w.1 hx.h.1 x.cut
 have hd : x.board.next.length = 8 := zlm x.w x.h x.cut
 have hK : zdg x = 1 ∨ zdg x = 2 := by unfold zdg; split <;> simp
 have hkl : (zhd x).kinds.length = zdg x := by simp [zhd]
 have r0 : 0 ≤ x.rights := Int.tmod_nonneg 3 hx.f0.1
 have r1 : x.rights < 3 := Int.tmod_lt_of_pos x.f0 (show (0 : Int) < 3 by decide)
 have t : ∀ n : Int, U8 n → 0 ≤ (n.tdiv 4).tmod 3 ∧ (n.tdiv 4).tmod 3 < 3 := fun n hn => by
  have : 0 ≤ n.tdiv 4 := by rw [Int.tdiv_eq_ediv_of_nonneg hn.1]; have := hn.1; omega
  exact ⟨Int.tmod_nonneg 3 this, Int.tmod_lt_of_pos _ (by decide)⟩
 have t3 := t _ hx.f3
 have t4 := t _ hx.f4
 have hcl : x.board.cells = (zhd x).cells := rfl
 have hc' : 1 ≤ x.board.cells ∧ x.board.cells ≤ 9 := hc
 refine ⟨hb, hc'.1, hc'.2, by show 1 ≤ x.board.next.length; omega, by show x.board.next.length ≤ 8; omega, zsU x.w x.h x.cut, by omega, by omega, fun k hk => ?_, fun k hk p hp => ?_, r0, ?_, fun c hcm => ?_, ?_, ?_, ?_⟩
 ·obtain ⟨i, _, rfl⟩ := List.mem_map.1 hk
  simp only [zeP, List.length_map, List.length_take]; omega
 ·rw [hkl]
  obtain ⟨i, _, rfl⟩ := List.mem_map.1 hk
  obtain ⟨n, hn, rfl⟩ := List.mem_map.1 hp
  have hn' := List.mem_of_mem_take hn
  have hu : U8 n := by
   unfold zhY.ks at hn'
   split at hn'
   ·exact hx.k0 n hn'
   ·exact hx.k1 n hn'
  exact zx5 hu (show (1 : Int) ≤ x.board.next.length by omega) (show (1 : Int) ≤ zdg x by omega) r0
 ·show x.rights ≤ 4; omega
 ·rw [hkl]
  obtain ⟨c0, h0, rfl⟩ := List.mem_map.1 hcm
  obtain ⟨u0, u1, u2⟩ := hx.c _ (List.mem_of_mem_take h0)
  have a0 := Int.tmod_nonneg 3 u0.1
  have a1 := Int.tmod_lt_of_pos c0.1 (show (0 : Int) < 3 by decide)
  have b0 := Int.tmod_nonneg (zdg x : Int) u1.1
  have b1 := Int.tmod_lt_of_pos c0.2.1 (show (0 : Int) < zdg x by omega)
  have d0 := Int.tmod_nonneg x.board.cells u2.1
  have d1 := Int.tmod_lt_of_pos c0.2.2 (show (0 : Int) < x.board.cells by omega)
  have e0 := Int.tmod_nonneg 3 u2.1
  have e1 := Int.tmod_lt_of_pos c0.2.2 (show (0 : Int) < 3 by decide)
  have t0 := t _ u0
  rw [← hcl]
  refine ⟨?_, ?_, ?_, ?_, ?_⟩ <;> simp only [zbe]
  ·omega
  ·split <;> omega
  ·split
   ·omega
   ·split <;> omega
  ·omega
  ·intro h; rw [if_neg (by omega)]
 ·show ((x.c.take 3).map _).length ≤ 6
  simp; omega
 ·show 1 ≤ (if x.f3.tmod 4 = 3 then 1 + (x.f3.tdiv 4).tmod 3 else 3) ∧ (if x.f3.tmod 4 = 3 then 1 + (x.f3.tdiv 4).tmod 3 else 3) ≤ 3
  split <;> omega
 ·show 1 ≤ (if x.f4.tmod 4 = 3 then 1 + (x.f4.tdiv 4).tmod 3 else 2) ∧ (if x.f4.tmod 4 = 3 then 1 + (x.f4.tdiv 4).tmod 3 else 2) ≤ 3
  split <;> omega
theorem zln {g : zad} (hg : GOk g) {x : zkd} (hx : ziB x) : POk g (zd5 g x) := by
 have c1 := hg.c1
 have k1 := hg.k1
 have hat : ∀ n, n ≤ 6 → ∀ c ∈ zdJ g x n, 0 ≤ c ∧ c ≤ 2 * g.kinds.length := by
  intro n
  induction n with
  | zero => intro _ c hc; simp [zdJ] at hc; omega
  | succ n ih =>
   intro hn c hc
   rw [zf8] at hc
   unfold zkQ at hc
   split at hc
   ·rcases List.mem_or_eq_of_mem_set hc with hc | rfl
    ·exact ih (by omega) c hc
    ·have hkv : U8 (nth x.kind n) := hx.kv _ (zaj (by rw [hx.k6]; omega))
     have a := Int.tmod_nonneg (g.kinds.length : Int) hkv.1
     have b := Int.tmod_lt_of_pos (nth x.kind n) (show (0 : Int) < g.kinds.length by omega)
     have c := Int.tmod_nonneg 2 (show (0 : Int) ≤ n by omega)
     have d := Int.tmod_lt_of_pos (n : Int) (show (0 : Int) < 2 by decide)
     omega
   ·exact ih (by omega) c hc
 have hh : ∀ s, s < 2 → zeZ g (zd3 g x s (min g.kinds.length 2)) := by
  intro s hs
  refine ⟨zdf _ _ _ _, fun i hi => ?_⟩
  rw [zdf] at hi
  have e : nth (zd3 g x s (min g.kinds.length 2)) i = if i < min g.kinds.length 2 then zp0 g x s i else 0 := by
   unfold zd3
   rw [zcC _ _ _ (by simpa using hi)]
   simp [nth, hi]
  rw [e]
  split
  ·have hv : U8 (nth x.hand (2 * s + i)) := hx.hv _ (zaj (by rw [hx.h4]; omega))
   have a := Int.tmod_nonneg 3 hv.1
   have b := Int.tmod_lt_of_pos (nth x.hand (2 * s + i)) (show (0 : Int) < 3 by decide)
   unfold zp0
   split
   ·rename_i hk
    split <;> exact ⟨by omega, by omega, fun _ => hk⟩
   ·exact ⟨by omega, by omega, fun h => by omega⟩
  ·exact ⟨by omega, by omega, fun h => by omega⟩
 have hp := zim hg.r0 hg.r4
 refine ⟨?_, hat 6 (Nat.le_refl _), hh 0 (by omega), hh 1 (by omega), Int.tmod_nonneg _ hx.r.1, Int.tmod_lt_of_pos _ (by omega), ?_⟩
 ·show ((zdJ g x 6).length : Int) = g.cells
  rw [zhc]; omega
 ·have a := Int.tmod_nonneg 2 hx.s.1
  have b := Int.tmod_lt_of_pos x.side (show (0 : Int) < 2 by decide)
  show x.side.tmod 2 = 0 ∨ x.side.tmod 2 = 1
  omega
abbrev zdk := Int × Int × Int
structure za5 where
 acts : List zdk
 to : Int
 deriving DecidableEq
instance : Inhabited za5 := ⟨⟨[], 0⟩⟩
def zbf (a : zdk) : List AV := [.v (.int .i64 a.1), .v (.int .i64 a.2.1), .v (.int .i64 a.2.2)]
def zcp (l : List zdk) : AV := .lst 3 (l.map zbf)
def zaH (p : za5) : List AV := [zcp p.acts, .v (.int .i64 p.to)]
def zcB (l : List za5) : AV := .lst 2 (l.map zaH)
def zdr (l : List (List za5)) : AV := .lst 1 (l.map fun x => [zcB x])
def zck (l : List (List (List za5))) : AV := .lst 1 (l.map fun x => [zdr x])
abbrev zoT := List (List (List za5)) × List (List (List za5))
def zcZ (c : zoT) : List AV := [zck c.1, zck c.2]
attribute [go_sem] zbf zcp zaH zcB zdr zck zcZ
theorem bel_A {n : Nat} {l : List zdk} : (∀ r ∈ l.map zbf, ∀ c ∈ r, Bel n c) = True := by
 refine eq_true ?_
 intro r hr c hc
 obtain ⟨x, _, rfl⟩ := List.mem_map.1 hr
 revert c
 simp [go_sem]
theorem zyM {n : Nat} {l : List zdk} : Bel n (.lst 3 (l.map zbf)) = True := by rw [zbR, bel_A]
theorem zyP {n : Nat} {l : List za5} : (∀ r ∈ l.map zaH, ∀ c ∈ r, Bel n c) = True := by
 refine eq_true ?_
 intro r hr c hc
 obtain ⟨x, _, rfl⟩ := List.mem_map.1 hr
 simp only [zaH, zcp, List.mem_cons, List.not_mem_nil, or_false] at hc
 rcases hc with rfl | rfl
 ·exact of_eq_true zyM
 ·exact .v _
theorem zgY {n : Nat} {l : List za5} : Bel n (.lst 2 (l.map zaH)) = True := by rw [zbR, zyP]
theorem zyO {n : Nat} {l : List (List za5)} : (∀ r ∈ l.map (fun x => [AV.lst 2 (x.map zaH)]), ∀ c ∈ r, Bel n c) = True := by
 refine eq_true ?_
 intro r hr c hc
 obtain ⟨x, _, rfl⟩ := List.mem_map.1 hr
 simp only [List.mem_cons, List.not_mem_nil, or_false] at hc
 subst hc
 exact of_eq_true zgY
theorem zuv {n : Nat} {l : List (List za5)} : Bel n (.lst 1 (l.map (fun x => [AV.lst 2 (x.map zaH)]))) = True := by rw [zbR, zyO]
theorem zyQ {n : Nat} {l : List (List (List za5))} : (∀ r ∈ l.map (fun x => [AV.lst 1 (x.map (fun x => [AV.lst 2 (x.map zaH)]))]), ∀ c ∈ r, Bel n c) = True := by
 refine eq_true ?_
 intro r hr c hc
 obtain ⟨x, _, rfl⟩ := List.mem_map.1 hr
 simp only [List.mem_cons, List.not_mem_nil, or_false] at hc
 subst hc
 exact of_eq_true zuv
theorem zzD {n : Nat} {l : List (List (List za5))} : Bel n (.lst 1 (l.map (fun x => [AV.lst 1 (x.map (fun x => [AV.lst 2 (x.map zaH)]))]))) = True := by rw [zbR, zyQ]
attribute [go_sem high] zyM zgY zuv zzD
attribute [go_sem ↓] bel_A zyP zyO zyQ
def onP (p : za5) (to : Int) (more : List zdk) : za5 := ⟨p.acts ++ more, to⟩
def zct (p : za5) : List Int → List zdk → List za5
 | [], _ => []
 | c :: l, passed => onP p c passed :: zct p l (passed ++ [(3, c, 0)])
def zk0 (b : zaJ) (side : Int) (p : za5) (x : Int × Int) : List za5 :=
 if x.1 = 1 ∨ x.1 = 7 then
  if toB b side x.2 p.to < 0 then [] else if x.1 = 1 then [onP p (toB b side x.2 p.to) []] else [onP p p.to [(7, p.to, toB b side x.2 p.to)]]
 else if x.1 = 2 then zct p (zf7 b side x.2 p.to) []
 else if x.1 = 8 ∨ x.1 = 9 ∨ x.1 = 10 then [onP p p.to [(x.1, x.2, 0)]]
 else [onP p p.to [(x.1, p.to, 0)]]
def zj0 (b : zaJ) (side : Int) (now : List za5) (x : Int × Int) : List za5 := now.flatMap fun w => zk0 b side w x
def zcX (b : zaJ) (side : Int) (prog : List (Int × Int)) (cell : Int) : List za5 := prog.foldl (zj0 b side) [⟨[], cell⟩]
def zcl (b : zaJ) (side : Int) (progs : List (List (Int × Int))) (cell : Int) : List za5 := progs.flatMap fun p => zcX b side p cell
def zkT (b : zaJ) (side : Int) (progs : List (List (Int × Int))) : List (List za5) := (List.range b.cells.toNat).map fun (c : Nat) => zcl b side progs c
def zcT (g : zad) (side : Int) : List (List (List za5)) := g.kinds.map fun k => zkT g.board side k.progs
def zeT (g : zad) : zoT := (zcT g 0, zcT g 1)
theorem zhK {b : zaJ} {side d c : Int} : ∀ (f : Nat) (x : Int) (seen : List Int), seen.Nodup → (zdI b side d c f x seen).Nodup
 | 0, x, seen, h => by simpa [zdI] using h
 | f + 1, x, seen, h => by
  rw [zdI]
  split
  ·rename_i hc
   refine zhK f _ _ (List.nodup_append.2 ⟨h, by simp, ?_⟩)
   intro y hy z hz
   simp at hz
   subst hz
   rintro rfl
   exact hc.2.2 hy
  ·exact h
theorem zmF {b : zaJ} (hb : za1 b) {side d c : Int} : (zf7 b side d c).length ≤ b.cells.toNat :=
 zfA _ _ (zhK _ _ _ (by simp)) (fun y hy => by have := zei hb y hy; have := hb.c0; omega)
theorem zhq (p : za5) : ∀ (l : List Int) (passed : List zdk), (zct p l passed).length = l.length
 | [], _ => rfl
 | c :: l, passed => by simp [zct, zhq p l]
theorem zfD {p w : za5} : ∀ {l : List Int} {passed : List zdk}, w ∈ zct p l passed → ∃ more, w.acts = p.acts ++ passed ++ more ∧ more.length ≤ l.length ∧ w.to ∈ l ∧ ∀ a ∈ more, ∃ c ∈ l, a = (3, c, 0)
 | [], _, h => by simp [zct] at h
 | c :: l, passed, h => by
  simp only [zct, List.mem_cons] at h
  rcases h with rfl | h
  ·exact ⟨[], by simp [onP], by simp, by simp [onP], by simp⟩
  ·obtain ⟨more, h1, h2, h3, h4⟩ := zfD h
   refine ⟨(3, c, 0) :: more, by rw [h1]; simp, by simp; omega, List.mem_cons_of_mem _ h3, fun a ha => ?_⟩
   rcases List.mem_cons.1 ha with rfl | ha
   ·exact ⟨c, by simp, rfl⟩
   ·obtain ⟨c', hc, e⟩ := h4 a ha
    exact ⟨c', List.mem_cons_of_mem _ hc, e⟩
theorem zxJ {b : zaJ} (hb : za1 b) (h1 : 1 ≤ b.cells) (side : Int) (p : za5) (x : Int × Int) : (zk0 b side p x).length ≤ if x.1 = 2 then b.cells.toNat else 1 := by
 unfold zk0
 by_cases h2 : x.1 = 2
 ·rw [if_neg (by omega), if_pos h2, if_pos h2, zhq]
  exact zmF hb
 ·rw [if_neg h2, if_neg h2]
  split
  ·split
   ·simp
   ·split <;> simp
  ·split <;> simp
theorem zg9 {α β : Type} (f : α → List β) (m : Nat) : ∀ (l : List α), (∀ x ∈ l, (f x).length ≤ m) → (l.flatMap f).length ≤ l.length * m
 | [], _ => by simp
 | x :: l, h => by
  have a := h x (by simp)
  have b := zg9 f m l (fun y hy => h y (by simp [hy]))
  simp only [List.flatMap_cons, List.length_append, List.length_cons, Nat.add_mul, Nat.one_mul]
  omega
theorem zwo {b : zaJ} (hb : za1 b) (h1 : 1 ≤ b.cells) (side : Int) (now : List za5) (x : Int × Int) : (zj0 b side now x).length ≤ now.length * if x.1 = 2 then b.cells.toNat else 1 :=
 zg9 _ _ _ (fun w _ => zxJ hb h1 side w x)
theorem zn4 {b : zaJ} (hb : za1 b) (h1 : 1 ≤ b.cells) (side : Int) : ∀ (prog : List (Int × Int)) (now : List za5), (prog.foldl (zj0 b side) now).length ≤ now.length * b.cells.toNat ^ zaA prog 2
 | [], now => by simp [zaA]
 | x :: prog, now => by
  have h := zn4 hb h1 side prog (zj0 b side now x)
  have k := zwo hb h1 side now x
  rw [List.foldl_cons]
  refine Nat.le_trans h ?_
  refine Nat.le_trans (Nat.mul_le_mul_right _ k) ?_
  unfold zaA at *
  rw [List.countP_cons, Nat.mul_assoc]
  refine Nat.mul_le_mul_left _ ?_
  by_cases h2 : x.1 = 2
  ·simp [h2, Nat.pow_succ, Nat.mul_comm]
  ·simp [h2]
theorem zlx {b : zaJ} (hb : za1 b) (h1 : 1 ≤ b.cells) (side : Int) (prog : List (Int × Int)) (cell : Int) : (zcX b side prog cell).length ≤ b.cells.toNat ^ zaA prog 2 := by
 have := zn4 hb h1 side prog [⟨[], cell⟩]
 simpa [zcX] using this
def zhu (n : Nat) (l : List za5) : Prop := ∀ w ∈ l, w.acts.length ≤ n
theorem zvb {b : zaJ} (hb : za1 b) (h9 : b.cells ≤ 9) (side : Int) (p : za5) (x : Int × Int) : zhu (p.acts.length + 10) (zk0 b side p x) := by
 intro w hw
 unfold zk0 at hw
 split at hw
 ·split at hw
  ·simp at hw
  ·split at hw <;> simp only [List.mem_singleton] at hw <;> subst hw <;> simp [onP]
 ·split at hw
  ·obtain ⟨more, e1, e2, _, _⟩ := zfD hw
   have := zmF hb (side := side) (d := x.2) (c := p.to)
   rw [e1]; simp; omega
  ·split at hw <;> simp only [List.mem_singleton] at hw <;> subst hw <;> simp [onP]
theorem ztw {b : zaJ} (hb : za1 b) (h9 : b.cells ≤ 9) (side : Int) {n : Nat} {now : List za5} (hn : zhu n now) (x : Int × Int) : zhu (n + 10) (zj0 b side now x) := by
 intro w hw
 obtain ⟨p, hp, hw⟩ := List.mem_flatMap.1 hw
 have := zvb hb h9 side p x w hw
 have := hn p hp
 omega
def zeX (cells kinds rights : Int) (a : zdk) : Prop :=
 (3 ≤ a.1 ∧ a.1 ≤ 6 ∧ (0 ≤ a.2.1 ∧ a.2.1 < cells) ∧ a.2.2 = 0) ∨ (a.1 = 7 ∧ (0 ≤ a.2.1 ∧ a.2.1 < cells) ∧ (0 ≤ a.2.2 ∧ a.2.2 < cells)) ∨
 (a.1 = 8 ∧ (0 ≤ a.2.1 ∧ a.2.1 < kinds) ∧ a.2.2 = 0) ∨ ((a.1 = 9 ∨ a.1 = 10) ∧ (0 ≤ a.2.1 ∧ a.2.1 < rights) ∧ a.2.2 = 0)
def zbr (l : List zdk) (op : Int) : Nat := l.countP (fun a => a.1 == op)
structure zkK (cells kinds rights : Int) (w : za5) (t p b : Nat) : Prop where
 to : 0 ≤ w.to ∧ w.to < cells
 acts : ∀ a ∈ w.acts, zeX cells kinds rights a
 take : zbr w.acts 6 ≤ t
 push : zbr w.acts 7 ≤ p
 become : zbr w.acts 8 ≤ b
theorem zby (l m : List zdk) (op : Int) : zbr (l ++ m) op = zbr l op + zbr m op := by simp [zbr]
theorem zhC {l : List Int} {m : List zdk} (h : ∀ a ∈ m, ∃ c ∈ l, a = (3, c, 0)) {op : Int} (ho : op ≠ 3) : zbr m op = 0 := by
 unfold zbr
 rw [List.countP_eq_zero]
 intro a ha
 obtain ⟨c, _, rfl⟩ := h a ha
 simpa using ho.symm
theorem zdw (a : zdk) (op : Int) : zbr [a] op = if a.1 = op then 1 else 0 := by simp [zbr, List.countP_cons]
def zsJ (x : Int × Int) (op : Int) : Nat := if x.1 = op then 1 else 0
theorem zzY {b : zaJ} (hb : za1 b) {kinds rights : Int} {side : Int} {w : za5} {t p be : Nat} (hw : zkK b.cells kinds rights w t p be) {x : Int × Int} (hx : zea b.next.length kinds rights x) :
  ∀ v ∈ zk0 b side w x, zkK b.cells kinds rights v (t + zsJ x 6) (p + zsJ x 7) (be + zsJ x 8) := by
 intro v hv
 obtain ⟨w1, w2, w3, w4, w5⟩ := hw
 obtain ⟨x1, x2, x3, x4, x5⟩ := hx
 have ht := zeQ hb side x.2 w.to
 unfold zk0 at hv
 unfold zsJ
 split at hv
 ·rename_i h17
  split at hv
  ·simp at hv
  ·split at hv
   ·simp only [List.mem_singleton] at hv
    subst hv
    refine ⟨by simp only [onP]; omega, by simpa [onP] using w2, ?_, ?_, ?_⟩ <;> simp only [onP, List.append_nil] <;> omega
   ·have e7 : x.1 = 7 := by omega
    simp only [List.mem_singleton] at hv
    subst hv
    refine ⟨w1, fun a ha => ?_, ?_, ?_, ?_⟩
    ·simp only [onP, List.mem_append, List.mem_singleton] at ha
     rcases ha with ha | rfl
     ·exact w2 a ha
     ·exact .inr (.inl ⟨rfl, w1, by simp only; omega⟩)
    all_goals simp only [onP, zby, zdw, e7]; simp only [show ((7 : Int) = 6) = False by decide, show ((7 : Int) = 8) = False by decide, if_true, if_false]; omega
 ·split at hv
  ·rename_i h2
   obtain ⟨more, e1, e2, e3, e4⟩ := zfD hv
   rw [List.append_nil] at e1
   refine ⟨zei hb _ e3, fun a ha => ?_, ?_, ?_, ?_⟩
   ·rw [e1, List.mem_append] at ha
    rcases ha with ha | ha
    ·exact w2 a ha
    ·obtain ⟨c, hc, rfl⟩ := e4 a ha
     exact .inl ⟨by simp, by simp, zei hb _ hc, rfl⟩
   all_goals rw [e1, zby, zhC e4 (by omega)]; omega
  ·split at hv
   ·rename_i h17 h2 h8
    simp only [List.mem_singleton] at hv
    subst hv
    refine ⟨w1, fun a ha => ?_, ?_, ?_, ?_⟩
    ·simp only [onP, List.mem_append, List.mem_singleton] at ha
     rcases ha with ha | rfl
     ·exact w2 a ha
     ·rcases h8 with h | h | h
      ·exact .inr (.inr (.inl ⟨h, x4 h, rfl⟩))
      ·exact .inr (.inr (.inr ⟨.inl h, x5 (.inl h), rfl⟩))
      ·exact .inr (.inr (.inr ⟨.inr h, x5 (.inr h), rfl⟩))
    all_goals simp only [onP, zby, zdw]; omega
   ·rename_i h17 h2 h8
    simp only [List.mem_singleton] at hv
    subst hv
    refine ⟨w1, fun a ha => ?_, ?_, ?_, ?_⟩
    ·simp only [onP, List.mem_append, List.mem_singleton] at ha
     rcases ha with ha | rfl
     ·exact w2 a ha
     ·exact .inl ⟨by simp only; omega, by simp only; omega, w1, rfl⟩
    all_goals simp only [onP, zby, zdw]; omega
theorem zq5 {b : zaJ} (hb : za1 b) {kinds rights : Int} {side : Int} : ∀ {prog : List (Int × Int)} {now : List za5} {t p be : Nat}, (∀ w ∈ now, zkK b.cells kinds rights w t p be) → (∀ x ∈ prog, zea b.next.length kinds rights x) →
  ∀ w ∈ prog.foldl (zj0 b side) now, zkK b.cells kinds rights w (t + zaA prog 6) (p + zaA prog 7) (be + zaA prog 8)
 | [], now, t, p, be, h, _, w, hw => by simpa [zaA] using h w hw
 | x :: prog, now, t, p, be, h, hx, w, hw => by
  rw [List.foldl_cons] at hw
  have := zq5 hb (side := side) (prog := prog) (now := zj0 b side now x) (t := t + zsJ x 6) (p := p + zsJ x 7) (be := be + zsJ x 8) (fun v hv => by
   obtain ⟨u, hu, hv⟩ := List.mem_flatMap.1 hv
   exact zzY hb (h u hu) (hx x (by simp)) v hv) (fun y hy => hx y (by simp [hy])) w hw
  have e : ∀ op, zaA (x :: prog) op = zaA prog op + zsJ x op := fun op => by simp [zaA, List.countP_cons, zsJ]
  rw [e, e, e]
  simpa [Nat.add_assoc, Nat.add_comm, Nat.add_left_comm] using this
theorem zv1 {b : zaJ} (hb : za1 b) {kinds rights side : Int} {prog : List (Int × Int)} (hp : ∀ x ∈ prog, zea b.next.length kinds rights x) {cell : Int} (hc : 0 ≤ cell ∧ cell < b.cells) :
  ∀ w ∈ zcX b side prog cell, zkK b.cells kinds rights w (zaA prog 6) (zaA prog 7) (zaA prog 8) := by
 intro w hw
 have := zq5 hb (side := side) (kinds := kinds) (rights := rights) (prog := prog) (now := [⟨[], cell⟩]) (t := 0) (p := 0) (be := 0) (fun v hv => by
  simp only [List.mem_singleton] at hv
  subst hv
  exact ⟨hc, by simp, by simp [zbr], by simp [zbr], by simp [zbr]⟩) hp w hw
 simpa using this
theorem zii {g : zad} (hg : GOk g) {side : Int} {k : zfU} (hk : k ∈ g.kinds) {cell : Int} (hc : 0 ≤ cell ∧ cell < g.cells) : ∀ w ∈ zcl g.board side k.progs cell, zkK g.cells g.kinds.length g.rights w 2 1 1 := by
 intro w hw
 obtain ⟨p, hp, hw⟩ := List.mem_flatMap.1 hw
 have ok := hg.pr k hk p hp
 obtain ⟨a, b, c, d, e⟩ := zv1 hg.board (side := side) ok.st hc w hw
 exact ⟨a, b, Nat.le_trans c ok.take, Nat.le_trans d ok.push, Nat.le_trans e ok.become⟩
theorem zlH {α : Type} (f : α → Nat) (m : Nat) : ∀ l : List α, (∀ x ∈ l, f x ≤ m) → (l.map f).sum ≤ l.length * m
 | [], _ => by simp
 | x :: l, h => by
  have := zlH f m l (fun y hy => h y (by simp [hy]))
  have := h x (by simp)
  simp [Nat.add_mul]; omega
def zfu (g : zad) : Prop := ∀ k ∈ g.kinds, ∀ p ∈ k.progs, zaA p 2 ≤ 1
structure TkD where
 p : zag
 kind : Int
 took : Bool
 deriving DecidableEq
instance : Inhabited TkD := ⟨⟨default, 0, false⟩⟩
def zj2 (g : zad) (side : Int) (t : TkD) (a : Int) : TkD × Bool :=
 let m := zak (nth t.p.at_ a.toNat)
 if m.2 ≠ 1 - side then (t, false) else
 if (nth g.kinds m.1.toNat).keep = true then
  (⟨(clr t.p a).withHand side ((t.p.hand side).set m.1.toNat (nth (t.p.hand side) m.1.toNat + 1)), t.kind, true⟩, decide (nth (t.p.hand side) m.1.toNat + 1 ≤ 8))
 else (⟨clr t.p a, t.kind, true⟩, true)
def zjI (t : TkD) (a b : Int) : TkD × Bool :=
 if nth t.p.at_ a.toNat = 0 ∨ nth t.p.at_ b.toNat ≠ 0 then (t, false)
 else (⟨{ t.p with at_ := (t.p.at_.set b.toNat (nth t.p.at_ a.toNat)).set a.toNat 0 }, t.kind, t.took⟩, true)
def doA (g : zad) (side : Int) (t : TkD) (x : zdk) : TkD × Bool :=
 if x.1 = 3 then (t, decide (nth t.p.at_ x.2.1.toNat = 0))
 else if x.1 = 4 then (t, decide ((zak (nth t.p.at_ x.2.1.toNat)).2 = 1 - side))
 else if x.1 = 5 then (t, decide ((zak (nth t.p.at_ x.2.1.toNat)).2 = side))
 else if x.1 = 6 then zj2 g side t x.2.1
 else if x.1 = 7 then zjI t x.2.1 x.2.2
 else if x.1 = 8 then (⟨t.p, x.2.1, t.took⟩, true)
 else if x.1 = 9 then (t, decide (zgi .i64 (t.p.rights.fdiv (2 ^ x.2.1.toNat)) 1 = 1))
 else if x.1 = 10 then (⟨{ t.p with rights := zbS .i64 t.p.rights (2 ^ x.2.1.toNat) }, t.kind, t.took⟩, true)
 else (t, true)
def zet (g : zad) (side : Int) : TkD → List zdk → Option TkD
 | t, [] => some t
 | t, x :: l => if (doA g side t x).2 = true then zet g side (doA g side t x).1 l else none
theorem zeA (g : zad) (side : Int) : ∀ (l m : List zdk) (t : TkD), zet g side t (l ++ m) = (zet g side t l).bind fun t => zet g side t m
 | [], m, t => rfl
 | x :: l, m, t => by
  simp only [List.cons_append, zet]
  split
  ·exact zeA g side l m _
  ·rfl
def stT (t : TkD) (c : Int) : StD := ⟨t.p, t.kind, c, t.took⟩
def stW (g : zad) (side : Int) (t : TkD) (w : za5) : Option StD := (zet g side t w.acts).map fun t => stT t w.to
theorem zmQ (g : zad) (side : Int) (t : TkD) (w : za5) (to : Int) (more : List zdk) :
  stW g side t (onP w to more) = ((zet g side t w.acts).bind fun t => zet g side t more).map fun t => stT t to := by
 unfold stW onP
 rw [zeA]
theorem zuW (g : zad) (side : Int) (t : TkD) (c : Int) : doA g side t (3, c, 0) = (t, decide (nth t.p.at_ c.toNat = 0)) := by simp [doA]
theorem zhr {g : zad} {side : Int} {t : TkD} {w : za5} : ∀ {l : List Int} {passed : List zdk}, ((zet g side t w.acts).bind fun t => zet g side t passed) = none → (zct w l passed).filterMap (stW g side t) = []
 | [], _, _ => rfl
 | c :: l, passed, h => by
  rw [zct, List.filterMap_cons, zmQ, h]
  refine zhr ?_
  cases hd : zet g side t w.acts with
  | none => rfl
  | some u =>
   rw [hd] at h
   simp only [Option.bind_some] at h ⊢
   rw [zeA, h]; rfl
theorem zlE {g : zad} {side : Int} {t u : TkD} {w : za5} (hd : zet g side t w.acts = some u) : ∀ {l : List Int} {passed : List zdk}, zet g side u passed = some u →
  (zct w l passed).filterMap (stW g side t) = zbl (stT u w.to) l
 | [], _, _ => rfl
 | c :: l, passed, h => by
  rw [zct, List.filterMap_cons, zmQ, hd, Option.bind_some, h, zbl]
  simp only [Option.map_some]
  congr 1
  have he : zet g side u (passed ++ [(3, c, 0)]) = if nth u.p.at_ c.toNat = 0 then some u else none := by
   rw [zeA, h, Option.bind_some]
   simp only [zet, zuW, decide_eq_true_eq]
  show _ = if nth u.p.at_ c.toNat = 0 then _ else _
  split
  ·rename_i h0
   rw [if_pos h0] at he
   exact zlE hd he
  ·rename_i h0
   rw [if_neg h0] at he
   refine zhr ?_
   rw [hd, Option.bind_some, he]
theorem zvd {g : zad} {side : Int} {t : TkD} {w : za5} (h : zet g side t w.acts = none) (x : Int × Int) : (zk0 g.board side w x).filterMap (stW g side t) = [] := by
 have ho : ∀ to more, stW g side t (onP w to more) = none := fun to more => by rw [zmQ, h]; rfl
 unfold zk0
 split
 ·split
  ·rfl
  ·split <;> simp [ho]
 ·split
  ·exact zhr (by rw [h]; rfl)
  ·split <;> simp [ho]
theorem znU {g : zad} (hg : GOk g) {side : Int} {t u : TkD} {w : za5} (hd : zet g side t w.acts = some u) (hs : zeS g (stT u w.to)) (hside : u.p.side = side) {x : Int × Int}
  (hx : zea g.next.length g.kinds.length g.rights x) : (zk0 g.board side w x).filterMap (stW g side t) = zbG g (stT u w.to) x := by
 have ho : ∀ to more, stW g side t (onP w to more) = (zet g side u more).map fun t => stT t to := fun to more => by rw [zmQ, hd]; rfl
 have one : ∀ to a, stW g side t (onP w to [a]) = if (doA g side u a).2 = true then some (stT (doA g side u a).1 to) else none := fun to a => by
  rw [ho]; simp only [zet]; split <;> rfl
 have hsl := hs.p.s
 have hat := hs.p.at (i := w.to.toNat) (by have := hs.c0; have := hs.c1; simp only [stT] at *; omega)
 have hm := zaR hat.1 hat.2 hg.k6
 have hto := zeQ hg.board side x.2 w.to
 have ht := hx.op
 simp only [stT] at hsl hat hm
 rw [hside] at hsl
 unfold zbG zk0
 simp only [show (stT u w.to).p = u.p from rfl, show (stT u w.to).cursor = w.to from rfl, hside]
 by_cases h1 : x.1 = 1
 ·simp only [h1, true_or, if_true]
  by_cases hn : toB g.board side x.2 w.to < 0
  ·rw [if_pos hn, show decide (0 ≤ toB g.board side x.2 w.to) = false by simpa using hn]; rfl
  ·rw [if_neg hn, show decide (0 ≤ toB g.board side x.2 w.to) = true by simpa using hn]
   simp only [List.filterMap_cons, ho, zet, Option.map_some, List.filterMap_nil, zcD, if_true, stT]
 by_cases h7 : x.1 = 7
 ·simp only [h7, or_true, if_true, show ((7 : Int) = 1) = False by decide, show ((7 : Int) = 2) = False by decide, show ((7 : Int) = 3) = False by decide, show ((7 : Int) = 4) = False by decide,
   show ((7 : Int) = 5) = False by decide, show ((7 : Int) = 6) = False by decide, if_false, zkA]
  simp only [show (stT u w.to).p = u.p from rfl, show (stT u w.to).cursor = w.to from rfl, hside]
  by_cases hn : toB g.board side x.2 w.to < 0
  ·rw [if_pos hn, if_pos (.inr (.inl hn))]; rfl
  ·rw [if_neg hn]
   simp only [List.filterMap_cons, List.filterMap_nil, one, doA, show ((7 : Int) = 3) = False by decide, show ((7 : Int) = 4) = False by decide, show ((7 : Int) = 5) = False by decide,
    show ((7 : Int) = 6) = False by decide, if_false, if_true, zjI]
   by_cases hc : nth u.p.at_ w.to.toNat = 0 ∨ nth u.p.at_ (toB g.board side x.2 w.to).toNat ≠ 0
   ·have hc' : nth u.p.at_ w.to.toNat = 0 ∨ toB g.board side x.2 w.to < 0 ∨ nth u.p.at_ (toB g.board side x.2 w.to).toNat ≠ 0 := by rcases hc with h | h; exact .inl h; exact .inr (.inr h)
    simp only [if_pos hc, if_pos hc', Bool.false_eq_true, if_false]
   ·have hc' : ¬ (nth u.p.at_ w.to.toNat = 0 ∨ toB g.board side x.2 w.to < 0 ∨ nth u.p.at_ (toB g.board side x.2 w.to).toNat ≠ 0) := by rintro (h | h | h); exact hc (.inl h); exact hn h; exact hc (.inr h)
    simp only [if_neg hc, if_neg hc', if_true, stT, hside]
 rw [if_neg (by omega)]
 by_cases h2 : x.1 = 2
 ·simp only [h2, show ((2 : Int) = 1) = False by decide, if_true, if_false, zjU]
  simp only [show (stT u w.to).p = u.p from rfl, show (stT u w.to).cursor = w.to from rfl, hside]
  exact zlE hd rfl
 rw [if_neg h2, if_neg h1, if_neg h2]
 by_cases h8 : x.1 = 8
 ·simp [h8, one, doA, stT]
 by_cases h9 : x.1 = 9
 ·simp only [h9, one, doA, zcD, show ((9 : Int) = 8) = False by decide, show ((9 : Int) = 10) = False by decide, show ((9 : Int) = 3) = False by decide, show ((9 : Int) = 4) = False by decide, show ((9 : Int) = 5) = False by decide,
   show ((9 : Int) = 6) = False by decide, show ((9 : Int) = 7) = False by decide, if_true, if_false, or_true, true_or, false_or, or_false, List.filterMap_cons, List.filterMap_nil]
  split <;> simp_all [stT]
 by_cases h10 : x.1 = 10
 ·simp [h10, one, doA, stT, hside]
 rw [if_neg (by omega)]
 simp only [one, List.filterMap_cons, List.filterMap_nil]
 by_cases h3 : x.1 = 3
 ·simp only [h3, if_true, doA, zcD]
  rcases hm with ⟨h0, e⟩ | ⟨h0, e1, e2, e3, e4⟩
  ·rw [e]; simp [h0, stT]
  ·rw [if_neg (by simpa using h0), if_neg (by simp; omega)]
 by_cases h4 : x.1 = 4
 ·simp only [h4, show ((4 : Int) = 3) = False by decide, if_true, if_false, doA, zcD]
  rcases hm with ⟨h0, e⟩ | ⟨h0, e1, e2, e3, e4⟩
  ·rw [e, if_neg (by simp; omega), if_neg (by simp)]
  ·by_cases hs' : (zak (nth u.p.at_ w.to.toNat)).2 = 1 - side
   ·rw [if_pos (by simpa using hs'), if_pos (by simp; omega)]
   ·rw [if_neg (by simpa using hs'), if_neg (by simp; omega)]
 by_cases h5 : x.1 = 5
 ·simp only [h5, show ((5 : Int) = 3) = False by decide, show ((5 : Int) = 4) = False by decide, if_true, if_false, doA, zcD]
  rcases hm with ⟨h0, e⟩ | ⟨h0, e1, e2, e3, e4⟩
  ·rw [e, if_neg (by simp; omega), if_neg (by simp)]
  ·by_cases hs' : (zak (nth u.p.at_ w.to.toNat)).2 = side
   ·rw [if_pos (by simpa using hs'), if_pos (by simp; omega)]
   ·rw [if_neg (by simpa using hs'), if_neg (by simp; omega)]
 have h6 : x.1 = 6 := by omega
 simp only [h6, show ((6 : Int) = 3) = False by decide, show ((6 : Int) = 4) = False by decide, show ((6 : Int) = 5) = False by decide, if_true, if_false, doA, zj2, zkD]
 simp only [show (stT u w.to).p = u.p from rfl, show (stT u w.to).cursor = w.to from rfl, hside]
 rcases hm with ⟨h0, e⟩ | ⟨h0, e1, e2, e3, e4⟩
 ·have hne : (-1 : Int) ≠ 1 - side := by omega
  rw [e]
  simp [hne]
 ·by_cases hs' : (zak (nth u.p.at_ w.to.toNat)).2 = 1 - side
  ·rw [if_neg (not_not_intro hs'), if_neg (show ¬ ((zak (nth u.p.at_ w.to.toNat)).1 < 0 ∨ (zak (nth u.p.at_ w.to.toNat)).2 = side) by omega)]
   by_cases hk : (nth g.kinds (zak (nth u.p.at_ w.to.toNat)).1.toNat).keep = true
   ·rw [if_pos hk, if_pos hk]
    by_cases h9 : nth (u.p.hand side) (zak (nth u.p.at_ w.to.toNat)).1.toNat + 1 ≤ 8
    ·have h9' : ¬ 8 < nth (u.p.hand side) (zak (nth u.p.at_ w.to.toNat)).1.toNat + 1 := by omega
     simp only [h9, h9', decide_true, if_true, if_false, stT]
    ·have h9' : 8 < nth (u.p.hand side) (zak (nth u.p.at_ w.to.toNat)).1.toNat + 1 := by omega
     simp only [h9, h9', decide_false, if_true, Bool.false_eq_true, if_false]
   ·rw [if_neg hk, if_neg hk]; simp [stT]
  ·rw [if_pos hs', if_pos (show (zak (nth u.p.at_ w.to.toNat)).1 < 0 ∨ (zak (nth u.p.at_ w.to.toNat)).2 = side by omega)]; simp
theorem zqM : ∀ {more l : List StD} {s : StD}, s ∈ zd9 l more ↔ s ∈ l ∨ s ∈ more
 | [], l, s => by simp [zd9]
 | m :: more, l, s => by
  show s ∈ zd9 (if m ∈ l then l else l ++ [m]) more ↔ _
  rw [zqM]
  split
  ·rename_i h
   simp only [List.mem_cons]
   exact ⟨fun h => by rcases h with h | h <;> simp [h], fun h => by rcases h with h | rfl | h; exact .inl h; exact .inl ‹_›; exact .inr h⟩
  ·simp only [List.mem_append, List.mem_cons, List.mem_singleton, List.not_mem_nil, or_false]
   exact or_assoc
theorem zlt (g : zad) (x : Int × Int) : ∀ (now acc : List StD) (s : StD), s ∈ now.foldl (fun next s => zd9 next (zbG g s x)) acc ↔ s ∈ acc ∨ ∃ r ∈ now, s ∈ zbG g r x
 | [], acc, s => by simp
 | r :: now, acc, s => by
  rw [List.foldl_cons, zlt g x now, zqM]
  simp only [List.mem_cons, exists_eq_or_imp]
  exact or_assoc
theorem zos (g : zad) (x : Int × Int) (now : List StD) (s : StD) : s ∈ zga g now x ↔ ∃ r ∈ now, s ∈ zbG g r x := by
 unfold zga
 rw [zlt]; simp
theorem zrg {g : zad} (hg : GOk g) {side : Int} {t : TkD} : ∀ (prog : List (Int × Int)) (nowP : List za5) (nowS : List StD), (∀ x ∈ prog, zea g.next.length g.kinds.length g.rights x) →
  (∀ s, s ∈ nowP.filterMap (stW g side t) ↔ s ∈ nowS) → (∀ s ∈ nowS, zeS g s ∧ s.p.side = side) →
  ∀ s, s ∈ (prog.foldl (zj0 g.board side) nowP).filterMap (stW g side t) ↔ s ∈ prog.foldl (zga g) nowS
 | [], nowP, nowS, _, h, _, s => h s
 | x :: prog, nowP, nowS, hp, h, hk, s => by
  rw [List.foldl_cons, List.foldl_cons]
  have hx := hp x (by simp)
  refine zrg hg prog _ _ (fun y hy => hp y (by simp [hy])) (fun s => ?_) (fun s hs => ?_) s
  ·rw [zos]
   unfold zj0
   rw [List.filterMap_flatMap, List.mem_flatMap]
   constructor
   ·rintro ⟨w, hw, hs⟩
    cases hd : zet g side t w.acts with
    | none => rw [zvd hd] at hs; simp at hs
    | some u =>
     have hu : stT u w.to ∈ nowS := (h _).1 (List.mem_filterMap.2 ⟨w, hw, by simp [stW, hd]⟩)
     rw [znU hg hd (hk _ hu).1 (hk _ hu).2 hx] at hs
     exact ⟨_, hu, hs⟩
   ·rintro ⟨r, hr, hs⟩
    obtain ⟨w, hw, e⟩ := List.mem_filterMap.1 ((h r).2 hr)
    unfold stW at e
    cases hd : zet g side t w.acts with
    | none => rw [hd] at e; simp at e
    | some u =>
     rw [hd] at e
     simp only [Option.map_some, Option.some.injEq] at e
     subst e
     exact ⟨w, hw, by rw [znU hg hd (hk _ hr).1 (hk _ hr).2 hx]; exact hs⟩
  ·obtain ⟨r, hr, hs⟩ := (zos g x nowS s).1 hs
   obtain ⟨k1, k2⟩ := zgQ hg (hk r hr).1 hx s hs
   exact ⟨k1, k2.trans (hk r hr).2⟩
def zdN (p : zag) (cell : Int) : TkD := ⟨clr p cell, (zak (nth p.at_ cell.toNat)).1, false⟩
def ztJ (g : zad) (side : Int) (t : TkD) (w : za5) : Option zb8 := (stW g side t w).bind (zfQ side)
def zqo (g : zad) (p : zag) (cell : Int) : List za5 :=
 zcl g.board (zak (nth p.at_ cell.toNat)).2 (nth g.kinds (zak (nth p.at_ cell.toNat)).1.toNat).progs cell
def zyi (g : zad) (p : zag) (cell : Int) : List zb8 := (zqo g p cell).filterMap (ztJ g (zak (nth p.at_ cell.toNat)).2 (zdN p cell))
def runO (g : zad) (p : zag) (cell : Int) : List zb8 := if nth p.at_ cell.toNat = 0 then [] else zaU zhA (zyi g p cell)
def zbA (p : zag) (s : Int) : zag := { p with side := s }
def zrh (g : zad) (p : zag) (cell : Int) : List zb8 :=
 if (zak (nth p.at_ cell.toNat)).1 < 0 then [] else
 zaU zhA ((List.range (nth g.kinds (zak (nth p.at_ cell.toNat)).1.toNat).progs.length).flatMap fun (i : Nat) => zc5 g (zbA p (zak (nth p.at_ cell.toNat)).2) cell i)
def TkD.sd (t : TkD) (s : Int) : TkD := { t with p := zbA t.p s }
theorem zz0 (p : zag) (s side : Int) : (zbA p s).hand side = p.hand side := rfl
theorem zqF (p : zag) (s side : Int) (l : List Int) : (zbA p s).withHand side l = zbA (p.withHand side l) s := by unfold zag.withHand; split <;> rfl
theorem doA_sd (g : zad) (side : Int) (t : TkD) (s : Int) (x : zdk) : doA g side (t.sd s) x = ((doA g side t x).1.sd s, (doA g side t x).2) := by
 unfold doA zj2 zjI
 simp only [TkD.sd, show (zbA t.p s).at_ = t.p.at_ from rfl, show (zbA t.p s).rights = t.p.rights from rfl, zz0]
 have hc : clr (zbA t.p s) x.2.1 = zbA (clr t.p x.2.1) s := rfl
 rw [hc, zqF]
 split; · rfl
 split; · rfl
 split; · rfl
 split
 ·split; · rfl
  split <;> rfl
 split
 ·split <;> rfl
 split; · rfl
 split; · rfl
 split <;> rfl
theorem zuY (g : zad) (side : Int) (s : Int) : ∀ (l : List zdk) (t : TkD), zet g side (t.sd s) l = (zet g side t l).map fun t => t.sd s
 | [], t => rfl
 | x :: l, t => by
  simp only [zet, doA_sd]
  split
  ·exact zuY g side s l _
  ·rfl
theorem zAo (g : zad) (side : Int) (t : TkD) (s : Int) (w : za5) : ztJ g side (t.sd s) w = ztJ g side t w := by
 unfold ztJ stW
 rw [zuY]
 cases zet g side t w.acts with
 | none => rfl
 | some u => rfl
theorem zoE {g : zad} (hg : GOk g) {p : zag} (hp : POk g p) {cell : Int} (h0 : 0 ≤ cell) (h1 : cell < g.cells) : runO g p cell = zrh g p cell := by
 have hat := hp.at (i := cell.toNat) (by omega)
 unfold runO zrh
 rcases zaR hat.1 hat.2 hg.k6 with ⟨hz, e⟩ | ⟨hz, e1, e2, e3, e4⟩
 ·rw [if_pos hz, e, if_pos (by decide)]
 rw [if_neg hz, if_neg (by omega)]
 generalize hs : (zak (nth p.at_ cell.toNat)).2 = side at e3 e4
 refine zjW zb3 fun o => ?_
 have hq : POk g (zbA p side) := hp.side e3
 have hst : zdN p cell = zdN p cell := rfl
 have hout : ∀ w, ztJ g side (zdN p cell) w = ztJ g side ((zdN p cell).sd side) w := fun w => (zAo g side _ side w).symm
 obtain ⟨progs, hpg⟩ : ∃ l, l = (nth g.kinds (zak (nth p.at_ cell.toNat)).1.toNat).progs := ⟨_, rfl⟩
 have hkm : nth g.kinds (zak (nth p.at_ cell.toNat)).1.toNat ∈ g.kinds := zaj (by omega)
 have key : ∀ prog ∈ progs, ∀ o, o ∈ (zcX g.board side prog cell).filterMap (ztJ g side (zdN p cell)) ↔ o ∈ (zd4 g (zbA p side) cell prog).filterMap (zfQ side) := by
  intro prog hm o
  have hok := hg.pr _ hkm prog (hpg ▸ hm)
  have hs0 := zjY hg hq h0 h1 (show 0 ≤ (zak (nth (zbA p side).at_ cell.toNat)).1 from e1)
  have hmem := zrg hg (side := side) (t := (zdN p cell).sd side) prog [⟨[], cell⟩] [zep (zbA p side) cell] hok.st (fun s => by simp [stW, zet, zdN, stT, zep, TkD.sd, zbA, clr])
   (fun s hs => by rw [List.mem_singleton] at hs; subst hs; exact ⟨hs0.1, hs0.2⟩)
  rw [show ztJ g side (zdN p cell) = ztJ g side ((zdN p cell).sd side) from funext hout]
  simp only [List.mem_filterMap, ztJ, Option.bind_eq_some_iff]
  constructor
  ·rintro ⟨w, hw, s, h3, h4⟩
   exact ⟨s, (hmem s).1 (List.mem_filterMap.2 ⟨w, hw, h3⟩), h4⟩
  ·rintro ⟨s, h3, h4⟩
   obtain ⟨w, hw, h5⟩ := List.mem_filterMap.1 ((hmem s).2 h3)
   exact ⟨w, hw, s, h5, h4⟩
 have e5 : zyi g p cell = progs.flatMap fun prog => (zcX g.board side prog cell).filterMap (ztJ g side (zdN p cell)) := by
  unfold zyi zqo zcl
  rw [hs, ← hpg, List.filterMap_flatMap]
 have hr : ∀ i, i < progs.length → zc5 g (zbA p side) cell (i : Int) = zaU zhA ((zd4 g (zbA p side) cell (nth progs i)).filterMap (zfQ side)) := fun i _ => by
  unfold zc5 za0
  rw [show nth (zbA p side).at_ cell.toNat = nth p.at_ cell.toNat from rfl, ← hpg]
  rfl
 rw [e5, List.mem_flatMap, List.mem_flatMap]
 rw [← hpg]
 constructor
 ·rintro ⟨prog, hm, h⟩
  obtain ⟨i, hi, rfl⟩ := List.mem_iff_getElem.1 hm
  refine ⟨i, List.mem_range.2 hi, ?_⟩
  rw [hr i hi, zaS, zau _ _ hi]
  exact (key _ hm o).1 h
 ·rintro ⟨i, hi, h⟩
  have hi' := List.mem_range.1 hi
  rw [hr i hi', zaS, zau _ _ hi'] at h
  exact ⟨_, List.getElem_mem hi', (key _ (List.getElem_mem hi') o).2 h⟩
def zmW : List AV := [.v (.slice none 0 0), .v (.slice none 0 0), .v (.slice none 0 0), .v (.int .i64 0), .v (.int .i64 0), .v (.bool false)]
theorem ziX {α : Type} [DecidableEq α] {l : List α} (h : l.length < 2) : zbp l = l := by
 match l, h with
 | [], _ => rfl
 | [a], _ => rfl
 | a :: b :: l, h => simp only [List.length_cons] at h; omega
end Go.Av
end
section
namespace Go.Av
open Go Go.Sort Go.Shelf Go.Proofs
structure El (w : World) (M : Nat → Prop) {α : Type} (en : α → List AV) (Q : α → Prop) where
 x : α
 vs : List Value
 q : Q x
 rel : zaE noP w M (en x) vs
 cells : ∀ v ∈ vs, zb2 v = true
theorem zsr {w : World} {M : Nat → Prop} {α : Type} {en : α → List AV} {Q : α → Prop} : ∀ {l : List α} {W : List Value}, (∀ x ∈ l, Q x) → zaE noP w M (l.map en).flatten W → (∀ v ∈ W, zb2 v = true) →
  ∃ ls : List (El w M en Q), ls.map (·.x) = l ∧ (ls.map (·.vs)).flatten = W
 | [], W, _, h, _ => by cases h; exact ⟨[], rfl, rfl⟩
 | x :: l, W, hq, h, hc => by
  rw [List.map_cons, List.flatten_cons] at h
  obtain ⟨us, ts, rfl, h1, h2⟩ := h.split
  obtain ⟨ls, e1, e2⟩ := zsr (fun y hy => hq y (by simp [hy])) h2 (fun v hv => hc v (by simp [hv]))
  exact ⟨⟨x, us, hq x (by simp), h1, fun v hv => hc v (by simp [hv])⟩ :: ls, by simp [e1], by simp [e2]⟩
theorem zq3 {k : Nat} (hk : 0 < k) : ∀ (ls : List (List Value)) (t : Nat), (∀ r ∈ ls, r.length = k) → t < ls.length * k → ls.flatten[t]? = (ls[t / k]?).bind (·[t % k]?)
 | [], t, _, h => by simp at h
 | r :: ls, t, hr, h => by
  have hl : r.length = k := hr r (by simp)
  rw [List.flatten_cons]
  by_cases ht : t < k
  ·rw [List.getElem?_append_left (by omega), Nat.div_eq_of_lt ht, Nat.mod_eq_of_lt ht]; rfl
  ·obtain ⟨s, rfl⟩ : ∃ s, t = s + k := ⟨t - k, by omega⟩
   have hs : s < ls.length * k := by simp only [List.length_cons, Nat.add_mul, Nat.one_mul] at h; omega
   rw [List.getElem?_append_right (by omega), hl, Nat.add_sub_cancel, zq3 hk ls s (fun r hr' => hr r (by simp [hr'])) hs, Nat.add_div_right _ hk, Nat.add_mod_right, List.getElem?_cons_succ]
theorem zsA {β : Type} [Inhabited β] (enc : β → List Value) {k : Nat} (hk0 : 0 < k) (hk : ∀ x, (enc x).length = k) (d : Array β) : (flatK enc k d).toList = (d.toList.map enc).flatten := by
 refine List.ext_getElem? fun t => ?_
 have hr : ∀ r ∈ d.toList.map enc, r.length = k := fun r hr => by obtain ⟨x, _, rfl⟩ := List.mem_map.1 hr; exact hk x
 have hlen : ((d.toList.map enc).flatten).length = d.size * k := by
  have : ∀ ls : List (List Value), (∀ r ∈ ls, r.length = k) → ls.flatten.length = ls.length * k := by
   intro ls
   induction ls with
   | nil => intro _; simp
   | cons r ls ih => intro h; rw [List.flatten_cons, List.length_append, ih (fun r hr => h r (by simp [hr])), h r (by simp), List.length_cons, Nat.add_mul]; omega
  rw [this _ hr]; simp
 by_cases ht : t < d.size * k
 ·have h1 := get_flatK enc k d t ht
  have hq : t / k < d.size := Nat.div_lt_of_lt_mul (by rw [Nat.mul_comm]; exact ht)
  have hm : t % k < k := Nat.mod_lt _ hk0
  have hs : t < (flatK enc k d).size := by rw [size_flatK]; exact ht
  rw [zq3 hk0 _ t hr (by simpa using ht), Array.getElem?_toList, Array.getElem?_eq_getElem hs, ← getElem!_pos (flatK enc k d) t hs, h1, List.getElem?_map, Array.getElem?_toList, Array.getElem?_eq_getElem hq,
   getElem!_pos d (t / k) hq]
  simp only [Option.map_some, Option.bind_some]
  rw [List.getElem?_eq_getElem (by rw [hk]; exact hm), getElem!_pos _ _ (by rw [hk]; exact hm)]
 ·rw [List.getElem?_eq_none (by rw [Array.length_toList, size_flatK]; omega), List.getElem?_eq_none (by omega)]
theorem ztv {w : World} {blk off : Nat} {C : Array Value} {T : TypeId} (hb : w.heap[blk]? = some (.cells C T (0, 0))) {F : Array Value} (hF : off + F.size ≤ C.size) (n : Nat) (os : Array Obj) :
  ∃ C', (grow (putRow id (Sort.ahead w n) blk off F) os).heap[blk]? = some (.cells C' T (0, 0)) ∧ C'.size = C.size ∧ (C'.toList.drop off).take F.size = F.toList ∧
   (∀ j, j ≠ blk → j < w.heap.size → (grow (putRow id (Sort.ahead w n) blk off F) os).heap[j]? = w.heap[j]?) ∧ w.heap.size ≤ (grow (putRow id (Sort.ahead w n) blk off F) os).heap.size := by
 have hlt : blk < w.heap.size := (Array.getElem?_eq_some_iff.1 hb).1
 have hsz : (putRow id (Sort.ahead w n) blk off F).heap.size = w.heap.size := by rw [Sort.size_putRow]; rfl
 have hold : ∀ j, j < w.heap.size → (grow (putRow id (Sort.ahead w n) blk off F) os).heap[j]? = (w.heap.modify blk (onCells (putCells id off F)))[j]? := by
  intro j hj
  show (_ ++ os)[j]? = _
  rw [Array.getElem?_append_left (by rw [hsz]; exact hj)]
  rfl
 refine ⟨putCells id off F C, ?_, by simp [putCells], ?_, fun j hj hjl => ?_, ?_⟩
 ·rw [hold blk hlt, Array.getElem?_modify]
  simp [hb, onCells]
 ·refine List.ext_getElem? fun j => ?_
  by_cases hj : j < F.size
  ·rw [List.getElem?_take, if_pos hj, List.getElem?_drop, Array.getElem?_toList, Array.getElem?_toList]
   simp only [putCells, Array.getElem?_mapIdx]
   rw [Array.getElem?_eq_getElem (show off + j < C.size by omega), Array.getElem?_eq_getElem hj]
   simp only [Option.map_some]
   rw [if_pos ⟨by omega, by omega⟩, show off + j - off = j by omega, getElem!_pos F j hj]
   rfl
  ·rw [List.getElem?_eq_none (by simp; omega), List.getElem?_eq_none (by simpa using hj)]
 ·rw [hold j hjl, Array.getElem?_modify, if_neg (Ne.symm hj)]
 ·rw [size_grow, hsz]; omega
theorem zjX {w : World} {blk off : Nat} {C : Array Value} {T : TypeId} (hb : w.heap[blk]? = some (.cells C T (0, 0))) {β : Type} [Inhabited β] (enc : β → List Value) (k : Nat) (d : Array β) (hF : off + d.size * k ≤ C.size) (n : Nat) (os : Array Obj) :
  ∃ C', (sortWorldK enc k w blk off n d os).heap[blk]? = some (.cells C' T (0, 0)) ∧ C'.size = C.size ∧ (C'.toList.drop off).take (d.size * k) = (flatK enc k d).toList ∧
   (∀ j, j ≠ blk → j < w.heap.size → (sortWorldK enc k w blk off n d os).heap[j]? = w.heap[j]?) ∧ w.heap.size ≤ (sortWorldK enc k w blk off n d os).heap.size ∧
   (sortWorldK enc k w blk off n d os).os = w.os ∧ (sortWorldK enc k w blk off n d os).tape = w.tape ∧ (sortWorldK enc k w blk off n d os).output = w.output ∧ w.drawn ≤ (sortWorldK enc k w blk off n d os).drawn := by
 obtain ⟨C', h1, h2, h3, h4, h5⟩ := ztv hb (F := flatK enc k d) (by rw [size_flatK]; exact hF) n os
 unfold sortWorldK putRowK
 rw [size_flatK] at h3
 exact ⟨C', h1, h2, h3, h4, h5, rfl, rfl, rfl, Nat.le_add_right _ _⟩
theorem zyz {α β : Type} {lt : α → α → Bool} (h : SWO lt) (f : β → α) : SWO (fun a b => lt (f a) (f b)) := ⟨fun _ => h.irrefl _, fun _ _ _ => h.trans _ _ _, fun _ _ _ => h.ntrans _ _ _⟩
theorem zA0 {P : Program} {ρ : Ren} (L : SlLaysF0.n6 P ρ) {α : Type} {k : Nat} (hk0 : 0 < k) (aE : ∀ w, (isAgg (ρ.t 24)).run P w = .ok true w) (zE : ∀ w, (Go.sizeOf (ρ.t 24)).run P w = .ok k w)
  (en : α → List AV) (henl : ∀ x, (en x).length = k) (henb : ∀ x, ∀ c ∈ en x, Bel 0 c) (Q : α → Prop) (cf : α → α → Int) (hO : SWO (fun a b : α => decide (cf a b < 0))) (g : FuncId)
  (hC : ∀ x y, Q x → Q y → zaP P g [.agg (en x), .agg (en y)] (.v (.int .i64 (cf x y)))) (hg : zdO P g) (l : List α) (hQ : ∀ x ∈ l, Q x) (hl : l.length < 4611686018427387904) {h : zao} {n o gn : Nat}
  (ho : h o = some (.rows true gn k (l.map en))) {K : zcy} (hK : ∀ l' : List α, l'.Perm l → l'.Pairwise (fun a b => ¬ cf b a < 0) → K (.tup []) (upd h o (some (.rows true gn k (l'.map en)))) n) :
  zaa P (ρ.f 6) [.sl o gn k 0 l.length, .fn (.func g) [] []] h n K := by
 have e6 : zdO P (ρ.f 6) := L.f6.enters rfl
 refine ⟨e6, fun M0 φ w vs hH hargs => ?_⟩
 cases hargs with
 | cons hs ht =>
 cases ht with
 | cons hf ht =>
 cases ht
 cases hf with
 | @fn _ _ _ fs cs q1 q2 =>
 cases q1; cases q2
 have hal : zcn h o gn k := by simp [zcn, ho]
 obtain ⟨A, cap, rfl, hcap, hA⟩ := hH.sl_alive hal hs
 have hnone : l = [] → Calls P (ρ.f 6) ⟨[.slice A l.length cap, .func (.func g) ⟨[]⟩ ⟨[]⟩]⟩ w fun e w' => ∃ v φ' r h' n', e = .returned v ∧ K r h' n' ∧ zgk φ' n' w' M0 h' ∧ Rel φ' w' (Or M0 (Mut φ' h')) r v ∧ zcK φ w M0 h φ' w' h' := by
  intro he
  subst he
  refine (AnyF.slices_SortFunc_none L A cap _ w).mono ?_
  rintro e w' ⟨rfl, rfl⟩
  have := hK [] (.refl _) .nil
  rw [← ho, zdZ] at this
  exact ⟨_, φ, .tup [], h, n, rfl, this, hH, .tup (vs := []) .nil, .refl _ _ _ _⟩
 by_cases he : l = []
 ·exact hnone he
 have hlp : 0 < l.length := List.length_pos_iff.2 he
 rcases hA with ⟨rfl, _, h0, _⟩ | ⟨h0, rfl, _⟩ | ⟨a, bs, hp, hsp, rfl, hcb⟩
 ·omega
 ·omega
 obtain ⟨A0, hA0, hobj⟩ := hH.obj _ _ _ _ _ ho
 rw [hp] at hA0
 simp only [Option.some.injEq, Prod.mk.injEq, true_and] at hA0
 subst hA0
 rcases hobj with ⟨hobj, _⟩ | ⟨a₁, bs₁, e1, h0, hd⟩
 ·cases hobj
 simp only [Option.some.injEq, Prod.mk.injEq] at e1
 obtain ⟨rfl, rfl⟩ := e1
 obtain ⟨C, T, hb, hCs, hr, hle, hv, hrel⟩ := hd.cells hsp
 rw [List.length_map] at hle hv hrel
 have hrel0 : zaE noP w (Or M0 (Mut φ h)) (l.map en).flatten ((C.toList.drop a.off).take (l.length * k)) := zge (fun _ hk => hk) (fun c hc => by
  obtain ⟨r, hr, hc⟩ := List.mem_flatten.1 hc
  obtain ⟨x, _, rfl⟩ := List.mem_map.1 hr
  exact henb x c hc) hrel
 obtain ⟨ls, hlx, hlv⟩ := zsr (Q := Q) hQ hrel0 hv
 have hlen : ls.length = l.length := by rw [← hlx, List.length_map]
 obtain ⟨d, hd⟩ : ∃ d : Array (El w (Or M0 (Mut φ h)) en Q), d = ls.toArray := ⟨_, rfl⟩
 have hds : d.size = l.length := by rw [hd]; simpa using hlen
 haveI : Inhabited (El w (Or M0 (Mut φ h)) en Q) := ⟨ls[0]'(by omega)⟩
 have hkE : ∀ x : El w (Or M0 (Mut φ h)) en Q, x.vs.length = k := fun x => by rw [← x.rel.length, henl]
 have hMb : Or M0 (Mut φ h) a.block := .inr ⟨o, gn, k, _, gn, a, bs, ho, hp, rfl⟩
 have hblk : a.block < w.heap.size := (Array.getElem?_eq_some_iff.1 hb).1
 have hfl : ∀ d' : Array (El w (Or M0 (Mut φ h)) en Q), (flatK (fun x => x.vs) k d').toList = (d'.toList.map fun x => x.vs).flatten := fun d' => zsA _ hk0 hkE d'
 have hCal : Calls P (ρ.f 6) ⟨[.slice (some ⟨a.block, a.off + 0 * k, none⟩) l.length cap, .func (.func g) ⟨[]⟩ ⟨[]⟩]⟩ w fun e w' =>
   e = .returned (.tuple #[]) ∧ ∃ d' n os, PermIn 0 d.size d d' ∧ SortedIn (ltOf fun x y : El w (Or M0 (Mut φ h)) en Q => cf x.x y.x) 0 d.size d' ∧ w' = sortWorldK (fun x => x.vs) k w a.block a.off n d' os := by
  rw [Nat.zero_mul, Nat.add_zero, ← hds]
  refine AnyQ.slices_SortFunc L k aE zE (fun x : El w (Or M0 (Mut φ h)) en Q => x.vs) hkE (fun x => x.cells) (fun x y => cf x.x y.x) (zyz hO fun x : El w (Or M0 (Mut φ h)) en Q => x.x) g #[] a.block a.off cap d w hg ?_ ?_ hblk (by omega)
  ·intro m os dk hdk x y
   obtain ⟨hx1, hx2⟩ := hC x.x y.x x.q y.q
   obtain ⟨C', k1, k2, k3, k4, k5, k6, k7, k8, k9⟩ := zjX (off := a.off) hb (fun x : El w (Or M0 (Mut φ h)) en Q => x.vs) k dk (by rw [hdk, hds]; omega) m os
   generalize sortWorldK (fun x : El w (Or M0 (Mut φ h)) en Q => x.vs) k w a.block a.off m dk os = X at *
   have hkeep : ∀ z : El w (Or M0 (Mut φ h)) en Q, zaE noP X (Or M0 (Mut φ h)) (en z.x) z.vs := fun z =>
    z.rel.keep noP.le_refl (fun j hj hjl => k4 j (fun e => hj (e ▸ hMb)) hjl) (fun j hj => .inl hj)
   have hag : ∀ z : El w (Or M0 (Mut φ h)) en Q, Rel noP X (Or M0 (Mut φ h)) (.agg (en z.x)) (.agg z.vs.toArray) := fun z => .agg z.cells (hkeep z)
   refine (hx2 (Or M0 (Mut φ h)) X [.agg x.vs.toArray, .agg y.vs.toArray] (fun j hj => Nat.lt_of_lt_of_le (hH.blk hj) k5) (hH.glob.keep (fun j hj hjl => k4 j (fun e => hj (e ▸ hMb)) hjl) (fun j hj => .inl hj)) (.cons (hag x) (.cons (hag y) .nil))).mono ?_
   rintro e w' ⟨v, rfl, hrv, hfr⟩
   cases hrv
   refine ⟨rfl, w'.drawn - X.drawn, w'.heap.extract X.heap.size w'.heap.size, ?_⟩
   have hheap : X.heap ++ w'.heap.extract X.heap.size w'.heap.size = w'.heap := by
    refine Array.ext_getElem? fun j => ?_
    by_cases hj : j < X.heap.size
    ·rw [Array.getElem?_append_left hj, hfr.block j hj (fun h => h)]
    ·rw [Array.getElem?_append_right (by omega), Array.getElem?_extract]
     have := hfr.size
     split
     ·congr 1; omega
     ·rw [Array.getElem?_eq_none (by omega)]
   have hdr : X.drawn + (w'.drawn - X.drawn) = w'.drawn := by have := hfr.drawn; omega
   cases w' with
   | mk hp tp dr os' out =>
    have e1 := hfr.os; have e2 := hfr.tape; have e3 := hfr.output
    simp only at e1 e2 e3 hheap hdr
    subst e1 e2 e3
    simp only [grow, World.drewN, hheap, hdr]
  ·intro j hj
   have hjl : j < ((C.toList.drop a.off).take (l.length * k)).length := by
    rw [← hlv, ← show (d.toList.map fun x => x.vs) = ls.map (·.vs) by rw [hd], ← hfl, Array.length_toList]; exact hj
   have hget : (flatK (fun x : El w (Or M0 (Mut φ h)) en Q => x.vs) k d)[j]! = C[a.off + j]! := by
    have e1 : (flatK (fun x : El w (Or M0 (Mut φ h)) en Q => x.vs) k d).toList = (C.toList.drop a.off).take (l.length * k) := by rw [hfl, hd]; exact hlv
    have hjC : a.off + j < C.size := by simp at hjl; omega
    rw [getElem!_pos _ j hj, getElem!_pos C _ hjC, ← Array.getElem_toList, ← Array.getElem_toList (xs := C)]
    simp only [e1, List.getElem_take, List.getElem_drop]
   have hjC : a.off + j < C.size := by simp at hjl; omega
   refine ⟨?_, ?_⟩
   ·simp only [World.cell?, hb]
    rw [hget]
    simp [hjC]
   ·simp [World.frozen?, hb]
 refine hCal.mono ?_
 rintro e w' ⟨rfl, d', n', os, hperm, hsort, rfl⟩
 obtain ⟨hps, _, hpp⟩ := hperm
 obtain ⟨C', k1, k2, k3, k4, k5, k6, k7, k8, k9⟩ := zjX (off := a.off) hb (fun x : El w (Or M0 (Mut φ h)) en Q => x.vs) k d' (by rw [hps, hds]; omega) n' os
 generalize sortWorldK (fun x : El w (Or M0 (Mut φ h)) en Q => x.vs) k w a.block a.off n' d' os = X at *
 obtain ⟨l', hl'⟩ : ∃ l' : List α, l' = d'.toList.map fun x => x.x := ⟨_, rfl⟩
 have hl'l : l'.length = l.length := by rw [hl', List.length_map, Array.length_toList, hps, hds]
 have hpl : l'.Perm l := by
  have h1 : (d'.extract 0 d.size).toList = d'.toList := by rw [← hps]; simp
  have h2 : (d.extract 0 d.size).toList = d.toList := by simp
  rw [h1, h2] at hpp
  have := hpp.map fun x => x.x
  rw [hl', ← hlx]
  simpa [hd] using this
 have hpw : l'.Pairwise (fun x y => ¬ cf y x < 0) := by
  rw [hl', List.pairwise_map, List.pairwise_iff_getElem]
  intro i j hi hj hij
  have hi' : i < d'.size := by simpa using hi
  have hj' : j < d'.size := by simpa using hj
  have := hsort i j (Nat.zero_le _) hij (by omega)
  rw [getElem!_pos d' i hi', getElem!_pos d' j hj'] at this
  simpa [ltOf] using this
 have hwin : (C'.toList.drop a.off).take (l'.length * k) = (d'.toList.map fun x => x.vs).flatten := by
  rw [hps, hds, hfl] at k3
  rw [hl'l]; exact k3
 have hrel' : zaE φ w (Or M0 (Mut φ h)) (l'.map en).flatten ((C'.toList.drop a.off).take (l'.length * k)) := by
  rw [hwin, hl']
  generalize d'.toList = ds
  induction ds with
  | nil => exact .nil
  | cons z ds ih =>
   simp only [List.map_cons, List.flatten_cons]
   exact (z.rel.keep (fun o x ho => by cases ho) (fun _ _ _ => rfl) (fun k hk => .inl hk)).append ih
 have hle0 : φ.le (upd φ o (some (gn, some (a, bs)))) := by rw [← hp, zdZ]; exact φ.le_refl
 have hol : ¬ n ≤ o := fun hle => by rw [hH.fresh o hle] at hp; cases hp
 obtain ⟨g1, g2, g3⟩ := hH.set (w' := X) (F' := fun o => n ≤ o) (o := o) (mt := true) (g := gn) (sz := k) (rs := l'.map en) (A := some (a, bs))
  (fun _ h => h) hol k5 hle0 (fun j hj hjl => k4 j (fun e => hj (e ▸ hMb)) hjl)
  (fun o' mt' g' sz' rs' a₁ b₁ hne ho' hp' => by
   have := hH.inj _ _ _ _ _ _ _ _ _ _ _ _ _ _ ho ho' (Ne.symm hne) (.inl rfl) hp hp'
   have hlt : a₁.block < w.heap.size := by
    obtain ⟨A1, hA1, hc1⟩ := hH.obj _ _ _ _ _ ho'
    rw [hp'] at hA1
    simp only [Option.some.injEq, Prod.mk.injEq, true_and] at hA1
    subst hA1
    rcases hc1 with ⟨hc1, _⟩ | ⟨a2, b2, e2, _, hb2⟩
    ·cases hc1
    ·simp only [Option.some.injEq, Prod.mk.injEq] at e2
     obtain ⟨rfl, rfl⟩ := e2
     exact hb2.blk
   refine ⟨k4 _ (Ne.symm this) hlt, fun a₂ b₂ e => ?_⟩
   simp only [Option.some.injEq, Prod.mk.injEq] at e
   obtain ⟨rfl, rfl⟩ := e
   exact this)
  (fun a₁ b₁ e => by
   simp only [Option.some.injEq, Prod.mk.injEq] at e
   obtain ⟨rfl, rfl⟩ := e
   exact .inl hMb)
  (.inr ⟨a, bs, C', T, rfl, hsp, h0, k1, by rw [k2]; exact hCs, fun r hr => by
    obtain ⟨x, _, rfl⟩ := List.mem_map.1 hr
    exact henl x, by rw [List.length_map, hl'l]; exact hle, fun c hm => by
    rw [List.length_map, hwin] at hm
    obtain ⟨r, hr, hm⟩ := List.mem_flatten.1 hm
    obtain ⟨z, _, rfl⟩ := List.mem_map.1 hr
    exact z.cells c hm, by rw [List.length_map]; exact hrel'⟩)
 refine ⟨_, _, .tup [], _, n, rfl, hK l' hpl hpw, g1, .tup (vs := []) .nil, ⟨hle0, g2, ⟨k6, k7, k8, k9, k5, fun j hj hu => k4 j (fun e => hu ⟨o, gn, k, _, gn, a, bs, ho, hp, e.symm⟩) hj⟩, fun j hj => ?_⟩⟩
 rcases g3 j hj with h | ⟨a₁, b₁, e, rfl⟩
 ·exact .inl h
 ·simp only [Option.some.injEq, Prod.mk.injEq] at e
  obtain ⟨rfl, rfl⟩ := e
  exact .inl ⟨o, gn, k, _, gn, a, bs, ho, hp, rfl⟩
end Go.Av
end
section
namespace Go.Proofs
open Go.Shelf
def zwG : Go.Shelf.Ren := ⟨fun | 6 => 185 | 15 => 190 | 14 => 230 | 28 => 239 | 29 => 240 | 20 => 276 | 21 => 277 | 22 => 278 | 23 => 279 | 24 => 280 | 25 => 281 | 26 => 282 | 27 => 283 | 46 => 302 | 47 => 285 | 48 => 286 | 49 => 303 | 50 => 304 | 57 => 313 | n => n, fun | 22 => 202 | 24 => 135 | 25 => 259 | 3 => 3 | 39 => 224 | 0 => 0 | 53 => 310 | 55 => 312 | 4 => 4 | 46 => 304 | 45 => 303 | 50 => 62 | 5 => 5 | 9 => 9 | 66 => 337 | 70 => 341 | 76 => 362 | 77 => 200 | n => n, fun n => n⟩
theorem zsort : Go.Proofs.SlLaysF0.n6 Tryz.prog zwG := {
 mixed := by kernel_rfl
 f6 := ⟨Tryz.f185.name, by decide, Tryz.func185.trans (congrArg some (by kernel_rfl))⟩
 f14 := ⟨Tryz.f230.name, by decide, Tryz.func230.trans (congrArg some (by kernel_rfl))⟩
 f15 := Tryz.func190.trans (congrArg some (by kernel_rfl))
 f20 := ⟨Tryz.f276.name, by decide, Tryz.func276.trans (congrArg some (by kernel_rfl))⟩
 f21 := ⟨Tryz.f277.name, by decide, Tryz.func277.trans (congrArg some (by kernel_rfl))⟩
 f22 := ⟨Tryz.f278.name, by decide, Tryz.func278.trans (congrArg some (by kernel_rfl))⟩
 f23 := ⟨Tryz.f279.name, by decide, Tryz.func279.trans (congrArg some (by kernel_rfl))⟩
 f24 := ⟨Tryz.f280.name, by decide, Tryz.func280.trans (congrArg some (by kernel_rfl))⟩
 f25 := ⟨Tryz.f281.name, by decide, Tryz.func281.trans (congrArg some (by kernel_rfl))⟩
 f26 := ⟨Tryz.f282.name, by decide, Tryz.func282.trans (congrArg some (by kernel_rfl))⟩
 f27 := ⟨Tryz.f283.name, by decide, Tryz.func283.trans (congrArg some (by kernel_rfl))⟩
 f28 := Tryz.func239.trans (congrArg some (by kernel_rfl))
 f29 := Tryz.func240.trans (congrArg some (by kernel_rfl))
 f46 := ⟨Tryz.f302.name, by decide, Tryz.func302.trans (congrArg some (by kernel_rfl))⟩
 f47 := Tryz.func285.trans (congrArg some (by kernel_rfl))
 f48 := Tryz.func286.trans (congrArg some (by kernel_rfl))
 f49 := ⟨Tryz.f303.name, by decide, Tryz.func303.trans (congrArg some (by kernel_rfl))⟩
 f50 := ⟨Tryz.f304.name, by decide, Tryz.func304.trans (congrArg some (by kernel_rfl))⟩
 f57 := ⟨Tryz.f313.name, by decide, Tryz.func313.trans (congrArg some (by kernel_rfl))⟩
 t0 := Tryz.underlying0
 a0 := Tryz.isAgg0
 z0 := Tryz.sizeOf0
 v0 := Tryz.zeroValue0
 t3 := Tryz.underlying3
 a3 := Tryz.isAgg3
 z3 := Tryz.sizeOf3
 v3 := Tryz.zeroValue3
 t4 := Tryz.underlying4
 a4 := Tryz.isAgg4
 z4 := Tryz.sizeOf4
 v4 := Tryz.zeroValue4
 t5 := Tryz.underlying5
 a5 := Tryz.isAgg5
 z5 := Tryz.sizeOf5
 v5 := Tryz.zeroValue5
 t9 := Tryz.underlying9
 a9 := Tryz.isAgg9
 z9 := Tryz.sizeOf9
 v9 := Tryz.zeroValue9
 t22 := Tryz.underlying202
 a22 := Tryz.isAgg202
 z22 := Tryz.sizeOf202
 v22 := Tryz.zeroValue202
 t25 := Tryz.underlying259
 a25 := Tryz.isAgg259
 z25 := Tryz.sizeOf259
 v25 := Tryz.zeroValue259
 t39 := Tryz.underlying224
 a39 := Tryz.isAgg224
 z39 := Tryz.sizeOf224
 v39 := Tryz.zeroValue224
 t45 := Tryz.underlying303
 a45 := Tryz.isAgg303
 z45 := Tryz.sizeOf303
 v45 := Tryz.zeroValue303
 t46 := Tryz.underlying304
 a46 := Tryz.isAgg304
 z46 := Tryz.sizeOf304
 v46 := Tryz.zeroValue304
 t50 := Tryz.underlying62
 a50 := Tryz.isAgg62
 z50 := Tryz.sizeOf62
 v50 := Tryz.zeroValue62
 t53 := Tryz.underlying310
 a53 := Tryz.isAgg310
 z53 := Tryz.sizeOf310
 v53 := Tryz.zeroValue310
 t55 := Tryz.underlying312
 a55 := Tryz.isAgg312
 z55 := Tryz.sizeOf312
 v55 := Tryz.zeroValue312
 t66 := Tryz.underlying337
 a66 := Tryz.isAgg337
 z66 := Tryz.sizeOf337
 v66 := Tryz.zeroValue337
 t70 := Tryz.underlying341
 a70 := Tryz.isAgg341
 z70 := Tryz.sizeOf341
 v70 := Tryz.zeroValue341
 t76 := Tryz.underlying362
 a76 := Tryz.isAgg362
 z76 := Tryz.sizeOf362
 v76 := Tryz.zeroValue362
 t77 := Tryz.underlying200
 a77 := Tryz.isAgg200
 z77 := Tryz.sizeOf200
 v77 := Tryz.zeroValue200 }
end Go.Proofs
end
section
open Go Go.Proofs
namespace Go.Av
theorem zlN (l : List zb8) (gn : Nat) (hl : l.length ≤ 17179869184) (hf : ∀ o ∈ l, zaK o.pos) :
  zhW Tryz.prog 187 [.sl 0 gn 6 0 l.length, .fn (.func 188) [] []] [(0, .rows true gn 6 (l.map zaF))] 1
   (.sl 0 gn 6 0 (zbp l).length) [(0, .rows true gn 6 ((zbp l).map zaF ++ List.replicate (l.length - (zbp l).length) zmW))] 1 := by
 unfold zhW
 by_cases h2 : l.length < 2
 ·rw [ziX h2]
  refine zAJ (by kernel_rfl) Tryz.func187 rfl rfl (Nat.le_of_ble_eq_true rfl) (by kernel_rfl) ?_
  repeat first|refine wV fun _=>?_|simp [go_sem]
  (refine zAE (fun hT => ?_) (fun hT => by first | omega | (simp at hT; omega)); clear hT)
  repeat first|refine wV fun _=>?_|simp [go_sem]
  simp [go_sem, zaf]
 obtain ⟨D, hD⟩ : ∃ D, D = zbp l := ⟨_, rfl⟩
 rw [← hD]
 have hE : ∀ i j, i < l.length → j < l.length → zaP Tryz.prog 188 [.agg (zaF (nth l i)), .agg (zaF (nth l j))] (.v (.bool (decide (nth l i = nth l j)))) :=
  fun i j hi hj => zti _ _ (hf _ (zaj hi)) (hf _ (zaj hj))
 refine zAJ (by kernel_rfl) Tryz.func187 rfl rfl (Nat.le_of_ble_eq_true rfl) (by kernel_rfl) ?_
 repeat first|refine wV fun _=>?_|simp [go_sem]
 (refine zAE (fun hF => by first | omega | (simp at hF; omega)) (fun hF => ?_); clear hF)
 repeat first|refine wV fun _=>?_|simp [go_sem]
 refine zAC (zAG (α := Nat) (fun j => ⟨[(0, .sl 0 gn 6 0 l.length), (1, .fn (.func 188) [] []), (5, .v (.int .i64 j))], [(0, .rows true gn 6 (l.map zaF))], 1⟩)
  (fun d j => 1 ≤ j ∧ j + d = l.length ∧ D = l.take j ++ zbc (nth l (j - 1)) (l.drop j)) ?_ (l.length - 1) 1 ?_) ?_ ?_
 ·rintro d j ⟨i1, i2, i3⟩ hrec
  have e1 : ((j : Int) - 1).toNat = j - 1 := by omega
  repeat first|refine wV fun _=>?_|simp [go_sem]
  refine zAE (fun hj => ?_) (fun hj => ?_) <;> simp at hj
  ·have hj' : j - 1 < l.length := by omega
   rw [zaQ hj, zbc] at i3
   repeat first|refine wV fun _=>?_|simp [go_sem, hj, hj', e1]
   refine zAF (hE j (j - 1) hj hj') (by simp [go_sem]) ?_
   repeat first|refine wV fun _=>?_|simp [go_sem, hj, hj', e1]
   by_cases he : nth l j = nth l (j - 1)
   ·rw [if_pos he] at i3
    repeat first|refine wV fun _=>?_|simp [go_sem, he, hj, hj', e1]
    refine zAC (zAG (α := Nat × List zb8 × Nat) (fun a => ⟨[(0, .sl 0 gn 6 0 l.length), (1, .fn (.func 188) [] []), (5, .v (.int .i64 a.2.2)), (6, .sl 0 gn 6 j (l.length - j)), (7, .v (.int .i64 a.1))], [(0, .rows true gn 6 (a.2.1.map zaF))], 1⟩)
     (fun d a => 1 ≤ a.1 ∧ j + a.1 + d = l.length ∧ a.2.1.length = l.length ∧ a.2.2 ≤ j + a.1 - 1 ∧ a.2.1.drop (j + a.1 - 1) = l.drop (j + a.1 - 1) ∧ D = a.2.1.take a.2.2 ++ zbc (nth l (j + a.1 - 1)) (l.drop (j + a.1))) ?_ (l.length - j - 1) (1, l, j) ?_) ?_ ?_
    ·rintro d2 ⟨k2, R, k⟩ ⟨j1, j2, j3, j4, j5, j6⟩ hrec2
     simp only at j1 j2 j3 j4 j5 j6
     have e2 : ((k2 : Int) - 1).toNat = k2 - 1 := by omega
     have e3 : j + (k2 - 1) = j + k2 - 1 := by omega
     have hRn : ∀ m, j + k2 - 1 ≤ m → m < l.length → nth R m = nth l m := fun m h1 h2 => by
      have h3 : (R.drop (j + k2 - 1))[m - (j + k2 - 1)]? = (l.drop (j + k2 - 1))[m - (j + k2 - 1)]? := by rw [j5]
      rw [List.getElem?_drop, List.getElem?_drop, show j + k2 - 1 + (m - (j + k2 - 1)) = m by omega, List.getElem?_eq_getElem (by omega), List.getElem?_eq_getElem h2] at h3
      rw [zau _ _ (by omega), zau _ _ h2]
      exact Option.some.inj h3
     repeat first|refine wV fun _=>?_|simp [go_sem, j3]
     refine zAE (fun hk => ?_) (fun hk => ?_) <;> simp at hk
     ·have hk1 : j + k2 < l.length := by omega
      have hk0 : j + k2 - 1 < l.length := by omega
      have hr1 := hRn (j + k2) (by omega) hk1
      have hr0 := hRn (j + k2 - 1) (by omega) hk0
      rw [zaQ hk1, zbc] at j6
      have hk2 : k2 - 1 < l.length - j := by omega
      have hk3 : k < l.length := by omega
      repeat first|refine wV fun _=>?_|simp [go_sem, j3, hk, hk1, hk0, hr1, hr0, e2, e3, hk2]
      refine zAF (hE (j + k2) (j + k2 - 1) hk1 hk0) (by simp [go_sem]) ?_
      repeat first|refine wV fun _=>?_|simp [go_sem, j3, hk, hk1, hk0, hr1, hr0, e2, e3, hk2]
      by_cases hc : nth l (j + k2) = nth l (j + k2 - 1)
      ·rw [if_pos hc] at j6
       repeat first|refine wV fun _=>?_|simp [go_sem, hc]
       refine zAC (hrec2 (d2 - 1) (by omega) (k2 + 1, R, k) ⟨by simp only; omega, by simp only; omega, j3, by simp only; omega, ?_, ?_⟩) ?_ (by simp)
       ·have := congrArg (List.drop 1) j5
        rw [List.drop_drop, List.drop_drop] at this
        rw [show j + (k2 + 1) - 1 = j + k2 - 1 + 1 by omega]
        exact this
       ·simp only
        rw [show j + (k2 + 1) - 1 = j + k2 by omega, hc]
        exact j6
       ·simp [go_sem, zaf]
      ·rw [if_neg hc] at j6
       repeat first|refine wV fun _=>?_|simp [go_sem, hc, j3, hk, hk1, hk0, hr1, hr0, e2, e3, hk2, hk3]
       refine zAC (hrec2 (d2 - 1) (by omega) (k2 + 1, R.set k (nth l (j + k2)), k + 1) ⟨by simp only; omega, by simp only; omega, by simpa using j3, by simp only; omega, ?_, ?_⟩) ?_ (by simp)
       ·have := congrArg (List.drop 1) j5
        rw [List.drop_drop, List.drop_drop] at this
        simp only
        rw [show j + (k2 + 1) - 1 = j + k2 - 1 + 1 by omega, List.drop_set, if_pos (by omega)]
        exact this
       ·simp only
        rw [show j + (k2 + 1) - 1 = j + k2 by omega, List.take_add_one, List.take_set_of_le (by omega), List.getElem?_set_self (by omega), Option.toList_some, List.append_assoc]
        exact j6
       ·have hb : ∀ n, ∀ r ∈ ((R.set k (nth l (j + k2))).map zaF), ∀ c ∈ r, Bel n c := fun n => of_eq_true zqU
        rw [List.map_set] at hb
        simp [go_sem, zaf, List.map_set]
        exact hb 1
     ·rw [List.drop_eq_nil_of_le (by omega), zbc, List.append_nil] at j6
      have hDl : D.length = k := by rw [j6, List.length_take]; omega
      have hd0 : List.drop (k + (l.length - k)) (R.map zaF) = [] := List.drop_eq_nil_of_le (by simp; omega)
      have hDm : D.map zaF = List.take k (R.map zaF) := by rw [j6, List.map_take]
      repeat first|refine wV fun _=>?_|simp [go_sem]
      simp [go_sem, zaf, hd0, hDl, hDm, zmW]
      exact fun x hx => of_eq_true (zqU (n := 1) (l := R)) x (List.mem_of_mem_take hx)
    ·refine ⟨Nat.le_refl _, by simp only; omega, rfl, by simp only; omega, rfl, ?_⟩
     simp only
     rw [Nat.add_sub_cancel, he]
     exact i3
    ·simp [go_sem, zaf]
    ·simp
   ·rw [if_neg he] at i3
    repeat first|refine wV fun _=>?_|simp [go_sem, he, hj, hj', e1]
    refine zAC (hrec (d - 1) (by omega) (j + 1) ⟨by omega, by omega, ?_⟩) ?_ (by simp)
    ·rw [i3, Nat.add_sub_cancel, List.take_add_one, List.getElem?_eq_getElem hj, zau _ _ hj, Option.toList_some, List.append_assoc]; rfl
    ·simp [go_sem, zaf]
  ·rw [List.drop_eq_nil_of_le hj, List.take_of_length_le hj, zbc, List.append_nil] at i3
   rw [i3]
   repeat first|refine wV fun _=>?_|simp [go_sem]
   simp [go_sem, zaf]
 ·refine ⟨Nat.le_refl _, by omega, ?_⟩
  cases l with
  | nil => simp at h2
  | cons a l => rw [hD]; rfl
 ·simp [go_sem, zaf]
 ·simp
theorem zmk (l : List zb8) (gn : Nat) (hl : l.length ≤ 17179869184) (hf : ∀ o ∈ l, zaK o.pos) {h : zao} {n o : Nat} (ho : h o = some (.rows true gn 6 (l.map zaF))) (hon : o < n) {K : zcy}
  (hK : K (.sl o gn 6 0 (zbp l).length) (upd h o (some (.rows true gn 6 ((zbp l).map zaF ++ List.replicate (l.length - (zbp l).length) zmW)))) n) :
  zaa Tryz.prog 187 [.sl o gn 6 0 l.length, .fn (.func 188) [] []] h n K := by
 have hz : ∀ m, ∀ r ∈ (zbp l).map zaF ++ List.replicate (l.length - (zbp l).length) zmW, ∀ c ∈ r, Bel m c := by
  intro m r hr c hc
  rcases List.mem_append.1 hr with hr | hr
  ·exact zcA _ r hr c hc
  ·rw [List.eq_of_mem_replicate hr] at hc
   simp only [zmW, List.mem_cons, List.not_mem_nil, or_false] at hc
   rcases hc with rfl | rfl | rfl | rfl | rfl | rfl <;> exact .v _
 refine zAX (args' := [.sl o gn 6 0 l.length, .fn (.func 188) [] []]) (HH := [(o, .rows true gn 6 ((zbp l).map zaF ++ List.replicate (l.length - (zbp l).length) zmW))])
  [o] h (zlN l gn hl hf) (by simp) (by simpa using hon) rfl (Nat.le_refl _) (.refl _) ?_ ?_ (.refl _ _ _ _) ?_ ?_ ?_ (.sl rfl) ?_ ?_
 ·intro j hj
  obtain rfl : j = 0 := by omega
  exact ⟨_, _, rfl, ho, .rows (.same (zcA _))⟩
 ·intro p hp
  simp only [List.mem_singleton] at hp
  subst hp
  exact ⟨Nat.le_of_ble_eq_true rfl, zcA _⟩
 ·intro y hy
  simp only [List.mem_cons, List.not_mem_nil, or_false] at hy
  rcases hy with rfl | rfl
  ·exact .sl hon
  ·simp [go_sem]
 ·exact .cons (.sl rfl) (.cons (.same (by simp [go_sem])) .nil)
 ·intro y hy
  simp only [List.mem_cons, List.not_mem_nil, or_false] at hy
  rcases hy with rfl | rfl
  ·exact .sl (by decide)
  ·simp [go_sem]
 ·exact .cons rfl (.rows (.same (hz 0))) .nil
 ·have e : zdV [(o, .rows true gn 6 ((zbp l).map zaF ++ List.replicate (l.length - (zbp l).length) zmW))] (zlA [o] h) = upd h o (some (.rows true gn 6 ((zbp l).map zaF ++ List.replicate (l.length - (zbp l).length) zmW))) := by
   funext j
   simp only [zdV, zlA, upd]
   by_cases j1 : j = o
   ·simp [j1]
   ·simp [j1]
  rw [e, Nat.sub_self, Nat.add_zero]
  exact hK
theorem zks (l : List zb8) (gn m : Nat) (hm : l.length = m) (hl : m ≤ 17179869184) (hf : ∀ o ∈ l, zaK o.pos) {h : zao} {n o : Nat} (ho : h o = some (.rows true gn 6 (l.map zaF))) (hon : o < n) {K : zcy}
  (hK : K (.sl o gn 6 0 (zbp l).length) (upd h o (some (.rows true gn 6 ((zbp l).map zaF ++ List.replicate (l.length - (zbp l).length) zmW)))) n) :
  zaa Tryz.prog 187 [.sl o gn 6 0 m, .fn (.func 188) [] []] h n K := by
 subst hm
 exact zmk l gn hl hf ho hon hK
theorem zyy : Go.Sort.SWO (fun a b : zb8 => decide (zhA a b < 0)) := by
 refine ⟨fun x => ?_, fun x y z h1 h2 => ?_, fun x y z h1 h2 => ?_⟩
 ·have := zb3.swap x x
  simp; omega
 ·simp only [decide_eq_true_eq] at h1 h2 ⊢
  have t := zb3.tr x y z (by omega) (by omega)
  rcases Int.lt_or_eq_of_le t with h | h
  ·exact h
  ·have e := (zb3.eq _ _).1 h
   subst e
   have := zb3.swap x y
   omega
 ·simp only [decide_eq_false_iff_not] at h1 h2 ⊢
  have s1 := zb3.swap x y
  have s2 := zb3.swap y z
  have s3 := zb3.swap x z
  have t := zb3.tr z y x (by omega) (by omega)
  omega
theorem ztt (l : List zb8) (hf : ∀ o ∈ l, zaK o.pos) (hl : l.length < 4611686018427387904) {h : zao} {n o gn : Nat} (ho : h o = some (.rows true gn 6 (l.map zaF))) {K : zcy}
  (hK : K (.tup []) (upd h o (some (.rows true gn 6 ((zcu zhA l).map zaF)))) n) :
  zaa Tryz.prog 185 [.sl o gn 6 0 l.length, .fn (.func 186) [] []] h n K := by
 refine zA0 zsort (k := 6) (by omega) Tryz.isAgg135 Tryz.sizeOf135 zaF (fun _ => rfl) ?_ (fun o => zaK o.pos) zhA zyy _ (fun x y hx hy => zgd x y hx hy) ?_ l hf hl ho ?_
 ·intro x
  simp [go_sem]
 ·exact (zgd default default (by unfold zaK zeY; decide) (by unfold zaK zeY; decide)).1
 ·intro l' hp hs
  have : zcu zhA l = l' := zfn zb3 hp (hs.imp fun {a b} hab => by
   have := zb3.swap a b
   simp only [leC, decide_eq_true_eq]
   omega)
  rw [← this]
  exact hK
end Go.Av
end
section
namespace Go.Proofs
open Go.Shelf
def ztE : Go.Shelf.Ren := ⟨fun | 6 => 129 | 15 => 190 | 14 => 189 | 28 => 239 | 29 => 240 | 20 => 231 | 21 => 232 | 22 => 233 | 23 => 234 | 24 => 235 | 25 => 236 | 26 => 237 | 27 => 238 | 46 => 284 | 47 => 285 | 48 => 286 | 49 => 287 | 50 => 288 | 57 => 305 | n => n, fun | 22 => 47 | 24 => 45 | 25 => 78 | 3 => 3 | 39 => 224 | 0 => 0 | 53 => 310 | 55 => 312 | 4 => 4 | 46 => 304 | 45 => 303 | 50 => 62 | 5 => 5 | 9 => 9 | 66 => 337 | 70 => 341 | 76 => 362 | 77 => 200 | n => n, fun n => n⟩
theorem zsortP : Go.Proofs.SlLaysF0.n6 Tryz.prog ztE := {
 mixed := by kernel_rfl
 f6 := ⟨Tryz.f129.name, by decide, Tryz.func129.trans (congrArg some (by kernel_rfl))⟩
 f14 := ⟨Tryz.f189.name, by decide, Tryz.func189.trans (congrArg some (by kernel_rfl))⟩
 f15 := Tryz.func190.trans (congrArg some (by kernel_rfl))
 f20 := ⟨Tryz.f231.name, by decide, Tryz.func231.trans (congrArg some (by kernel_rfl))⟩
 f21 := ⟨Tryz.f232.name, by decide, Tryz.func232.trans (congrArg some (by kernel_rfl))⟩
 f22 := ⟨Tryz.f233.name, by decide, Tryz.func233.trans (congrArg some (by kernel_rfl))⟩
 f23 := ⟨Tryz.f234.name, by decide, Tryz.func234.trans (congrArg some (by kernel_rfl))⟩
 f24 := ⟨Tryz.f235.name, by decide, Tryz.func235.trans (congrArg some (by kernel_rfl))⟩
 f25 := ⟨Tryz.f236.name, by decide, Tryz.func236.trans (congrArg some (by kernel_rfl))⟩
 f26 := ⟨Tryz.f237.name, by decide, Tryz.func237.trans (congrArg some (by kernel_rfl))⟩
 f27 := ⟨Tryz.f238.name, by decide, Tryz.func238.trans (congrArg some (by kernel_rfl))⟩
 f28 := Tryz.func239.trans (congrArg some (by kernel_rfl))
 f29 := Tryz.func240.trans (congrArg some (by kernel_rfl))
 f46 := ⟨Tryz.f284.name, by decide, Tryz.func284.trans (congrArg some (by kernel_rfl))⟩
 f47 := Tryz.func285.trans (congrArg some (by kernel_rfl))
 f48 := Tryz.func286.trans (congrArg some (by kernel_rfl))
 f49 := ⟨Tryz.f287.name, by decide, Tryz.func287.trans (congrArg some (by kernel_rfl))⟩
 f50 := ⟨Tryz.f288.name, by decide, Tryz.func288.trans (congrArg some (by kernel_rfl))⟩
 f57 := ⟨Tryz.f305.name, by decide, Tryz.func305.trans (congrArg some (by kernel_rfl))⟩
 t0 := Tryz.underlying0
 a0 := Tryz.isAgg0
 z0 := Tryz.sizeOf0
 v0 := Tryz.zeroValue0
 t3 := Tryz.underlying3
 a3 := Tryz.isAgg3
 z3 := Tryz.sizeOf3
 v3 := Tryz.zeroValue3
 t4 := Tryz.underlying4
 a4 := Tryz.isAgg4
 z4 := Tryz.sizeOf4
 v4 := Tryz.zeroValue4
 t5 := Tryz.underlying5
 a5 := Tryz.isAgg5
 z5 := Tryz.sizeOf5
 v5 := Tryz.zeroValue5
 t9 := Tryz.underlying9
 a9 := Tryz.isAgg9
 z9 := Tryz.sizeOf9
 v9 := Tryz.zeroValue9
 t22 := Tryz.underlying47
 a22 := Tryz.isAgg47
 z22 := Tryz.sizeOf47
 v22 := Tryz.zeroValue47
 t25 := Tryz.underlying78
 a25 := Tryz.isAgg78
 z25 := Tryz.sizeOf78
 v25 := Tryz.zeroValue78
 t39 := Tryz.underlying224
 a39 := Tryz.isAgg224
 z39 := Tryz.sizeOf224
 v39 := Tryz.zeroValue224
 t45 := Tryz.underlying303
 a45 := Tryz.isAgg303
 z45 := Tryz.sizeOf303
 v45 := Tryz.zeroValue303
 t46 := Tryz.underlying304
 a46 := Tryz.isAgg304
 z46 := Tryz.sizeOf304
 v46 := Tryz.zeroValue304
 t50 := Tryz.underlying62
 a50 := Tryz.isAgg62
 z50 := Tryz.sizeOf62
 v50 := Tryz.zeroValue62
 t53 := Tryz.underlying310
 a53 := Tryz.isAgg310
 z53 := Tryz.sizeOf310
 v53 := Tryz.zeroValue310
 t55 := Tryz.underlying312
 a55 := Tryz.isAgg312
 z55 := Tryz.sizeOf312
 v55 := Tryz.zeroValue312
 t66 := Tryz.underlying337
 a66 := Tryz.isAgg337
 z66 := Tryz.sizeOf337
 v66 := Tryz.zeroValue337
 t70 := Tryz.underlying341
 a70 := Tryz.isAgg341
 z70 := Tryz.sizeOf341
 v70 := Tryz.zeroValue341
 t76 := Tryz.underlying362
 a76 := Tryz.isAgg362
 z76 := Tryz.sizeOf362
 v76 := Tryz.zeroValue362
 t77 := Tryz.underlying200
 a77 := Tryz.isAgg200
 z77 := Tryz.sizeOf200
 v77 := Tryz.zeroValue200 }
end Go.Proofs
end
section
open Go Go.Proofs
namespace Go.Av
def zmX : List AV := [.v (.slice none 0 0), .v (.slice none 0 0), .v (.slice none 0 0), .v (.int .i64 0), .v (.int .i64 0)]
theorem zlM (l : List zag) (gn : Nat) (hl : l.length ≤ 17179869184) (hf : ∀ o ∈ l, zaK o) :
  zhW Tryz.prog 130 [.sl 0 gn 5 0 l.length, .fn (.func 131) [] []] [(0, .rows true gn 5 (l.map zac))] 1
   (.sl 0 gn 5 0 (zbp l).length) [(0, .rows true gn 5 ((zbp l).map zac ++ List.replicate (l.length - (zbp l).length) zmX))] 1 := by
 unfold zhW
 by_cases h2 : l.length < 2
 ·rw [ziX h2]
  refine zAJ (by kernel_rfl) Tryz.func130 rfl rfl (Nat.le_of_ble_eq_true rfl) (by kernel_rfl) ?_
  repeat first|refine wV fun _=>?_|simp [go_sem]
  (refine zAE (fun hT => ?_) (fun hT => by first | omega | (simp at hT; omega)); clear hT)
  repeat first|refine wV fun _=>?_|simp [go_sem]
  simp [go_sem, zaf]
 obtain ⟨D, hD⟩ : ∃ D, D = zbp l := ⟨_, rfl⟩
 rw [← hD]
 have hE : ∀ i j, i < l.length → j < l.length → zaP Tryz.prog 131 [.agg (zac (nth l i)), .agg (zac (nth l j))] (.v (.bool (decide (nth l i = nth l j)))) :=
  fun i j hi hj => zqp _ _ (hf _ (zaj hi)) (hf _ (zaj hj))
 refine zAJ (by kernel_rfl) Tryz.func130 rfl rfl (Nat.le_of_ble_eq_true rfl) (by kernel_rfl) ?_
 repeat first|refine wV fun _=>?_|simp [go_sem]
 (refine zAE (fun hF => by first | omega | (simp at hF; omega)) (fun hF => ?_); clear hF)
 repeat first|refine wV fun _=>?_|simp [go_sem]
 refine zAC (zAG (α := Nat) (fun j => ⟨[(0, .sl 0 gn 5 0 l.length), (1, .fn (.func 131) [] []), (5, .v (.int .i64 j))], [(0, .rows true gn 5 (l.map zac))], 1⟩)
  (fun d j => 1 ≤ j ∧ j + d = l.length ∧ D = l.take j ++ zbc (nth l (j - 1)) (l.drop j)) ?_ (l.length - 1) 1 ?_) ?_ ?_
 ·rintro d j ⟨i1, i2, i3⟩ hrec
  have e1 : ((j : Int) - 1).toNat = j - 1 := by omega
  repeat first|refine wV fun _=>?_|simp [go_sem]
  refine zAE (fun hj => ?_) (fun hj => ?_) <;> simp at hj
  ·have hj' : j - 1 < l.length := by omega
   rw [zaQ hj, zbc] at i3
   repeat first|refine wV fun _=>?_|simp [go_sem, hj, hj', e1]
   refine zAF (hE j (j - 1) hj hj') (by simp [go_sem]) ?_
   repeat first|refine wV fun _=>?_|simp [go_sem, hj, hj', e1]
   by_cases he : nth l j = nth l (j - 1)
   ·rw [if_pos he] at i3
    repeat first|refine wV fun _=>?_|simp [go_sem, he, hj, hj', e1]
    refine zAC (zAG (α := Nat × List zag × Nat) (fun a => ⟨[(0, .sl 0 gn 5 0 l.length), (1, .fn (.func 131) [] []), (5, .v (.int .i64 a.2.2)), (6, .sl 0 gn 5 j (l.length - j)), (7, .v (.int .i64 a.1))], [(0, .rows true gn 5 (a.2.1.map zac))], 1⟩)
     (fun d a => 1 ≤ a.1 ∧ j + a.1 + d = l.length ∧ a.2.1.length = l.length ∧ a.2.2 ≤ j + a.1 - 1 ∧ a.2.1.drop (j + a.1 - 1) = l.drop (j + a.1 - 1) ∧ D = a.2.1.take a.2.2 ++ zbc (nth l (j + a.1 - 1)) (l.drop (j + a.1))) ?_ (l.length - j - 1) (1, l, j) ?_) ?_ ?_
    ·rintro d2 ⟨k2, R, k⟩ ⟨j1, j2, j3, j4, j5, j6⟩ hrec2
     simp only at j1 j2 j3 j4 j5 j6
     have e2 : ((k2 : Int) - 1).toNat = k2 - 1 := by omega
     have e3 : j + (k2 - 1) = j + k2 - 1 := by omega
     have hRn : ∀ m, j + k2 - 1 ≤ m → m < l.length → nth R m = nth l m := fun m h1 h2 => by
      have h3 : (R.drop (j + k2 - 1))[m - (j + k2 - 1)]? = (l.drop (j + k2 - 1))[m - (j + k2 - 1)]? := by rw [j5]
      rw [List.getElem?_drop, List.getElem?_drop, show j + k2 - 1 + (m - (j + k2 - 1)) = m by omega, List.getElem?_eq_getElem (by omega), List.getElem?_eq_getElem h2] at h3
      rw [zau _ _ (by omega), zau _ _ h2]
      exact Option.some.inj h3
     repeat first|refine wV fun _=>?_|simp [go_sem, j3]
     refine zAE (fun hk => ?_) (fun hk => ?_) <;> simp at hk
     ·have hk1 : j + k2 < l.length := by omega
      have hk0 : j + k2 - 1 < l.length := by omega
      have hr1 := hRn (j + k2) (by omega) hk1
      have hr0 := hRn (j + k2 - 1) (by omega) hk0
      rw [zaQ hk1, zbc] at j6
      have hk2 : k2 - 1 < l.length - j := by omega
      have hk3 : k < l.length := by omega
      repeat first|refine wV fun _=>?_|simp [go_sem, j3, hk, hk1, hk0, hr1, hr0, e2, e3, hk2]
      refine zAF (hE (j + k2) (j + k2 - 1) hk1 hk0) (by simp [go_sem]) ?_
      repeat first|refine wV fun _=>?_|simp [go_sem, j3, hk, hk1, hk0, hr1, hr0, e2, e3, hk2]
      by_cases hc : nth l (j + k2) = nth l (j + k2 - 1)
      ·rw [if_pos hc] at j6
       repeat first|refine wV fun _=>?_|simp [go_sem, hc]
       refine zAC (hrec2 (d2 - 1) (by omega) (k2 + 1, R, k) ⟨by simp only; omega, by simp only; omega, j3, by simp only; omega, ?_, ?_⟩) ?_ (by simp)
       ·have := congrArg (List.drop 1) j5
        rw [List.drop_drop, List.drop_drop] at this
        rw [show j + (k2 + 1) - 1 = j + k2 - 1 + 1 by omega]
        exact this
       ·simp only
        rw [show j + (k2 + 1) - 1 = j + k2 by omega, hc]
        exact j6
       ·simp [go_sem, zaf]
      ·rw [if_neg hc] at j6
       repeat first|refine wV fun _=>?_|simp [go_sem, hc, j3, hk, hk1, hk0, hr1, hr0, e2, e3, hk2, hk3]
       refine zAC (hrec2 (d2 - 1) (by omega) (k2 + 1, R.set k (nth l (j + k2)), k + 1) ⟨by simp only; omega, by simp only; omega, by simpa using j3, by simp only; omega, ?_, ?_⟩) ?_ (by simp)
       ·have := congrArg (List.drop 1) j5
        rw [List.drop_drop, List.drop_drop] at this
        simp only
        rw [show j + (k2 + 1) - 1 = j + k2 - 1 + 1 by omega, List.drop_set, if_pos (by omega)]
        exact this
       ·simp only
        rw [show j + (k2 + 1) - 1 = j + k2 by omega, List.take_add_one, List.take_set_of_le (by omega), List.getElem?_set_self (by omega), Option.toList_some, List.append_assoc]
        exact j6
       ·have hb : ∀ n, ∀ r ∈ ((R.set k (nth l (j + k2))).map zac), ∀ c ∈ r, Bel n c := fun n => of_eq_true zsf
        rw [List.map_set] at hb
        simp [go_sem, zaf, List.map_set]
        exact hb 1
     ·rw [List.drop_eq_nil_of_le (by omega), zbc, List.append_nil] at j6
      have hDl : D.length = k := by rw [j6, List.length_take]; omega
      have hd0 : List.drop (k + (l.length - k)) (R.map zac) = [] := List.drop_eq_nil_of_le (by simp; omega)
      have hDm : D.map zac = List.take k (R.map zac) := by rw [j6, List.map_take]
      repeat first|refine wV fun _=>?_|simp [go_sem]
      simp [go_sem, zaf, hd0, hDl, hDm, zmX]
      exact fun x hx => of_eq_true (zsf (n := 1) (l := R)) x (List.mem_of_mem_take hx)
    ·refine ⟨Nat.le_refl _, by simp only; omega, rfl, by simp only; omega, rfl, ?_⟩
     simp only
     rw [Nat.add_sub_cancel, he]
     exact i3
    ·simp [go_sem, zaf]
    ·simp
   ·rw [if_neg he] at i3
    repeat first|refine wV fun _=>?_|simp [go_sem, he, hj, hj', e1]
    refine zAC (hrec (d - 1) (by omega) (j + 1) ⟨by omega, by omega, ?_⟩) ?_ (by simp)
    ·rw [i3, Nat.add_sub_cancel, List.take_add_one, List.getElem?_eq_getElem hj, zau _ _ hj, Option.toList_some, List.append_assoc]; rfl
    ·simp [go_sem, zaf]
  ·rw [List.drop_eq_nil_of_le hj, List.take_of_length_le hj, zbc, List.append_nil] at i3
   rw [i3]
   repeat first|refine wV fun _=>?_|simp [go_sem]
   simp [go_sem, zaf]
 ·refine ⟨Nat.le_refl _, by omega, ?_⟩
  cases l with
  | nil => simp at h2
  | cons a l => rw [hD]; rfl
 ·simp [go_sem, zaf]
 ·simp
theorem zfZ {n : Nat} (l : List zag) : ∀ r ∈ l.map zac, ∀ c ∈ r, Bel n c := of_eq_true zsf
theorem zmj (l : List zag) (gn : Nat) (hl : l.length ≤ 17179869184) (hf : ∀ o ∈ l, zaK o) {h : zao} {n o : Nat} (ho : h o = some (.rows true gn 5 (l.map zac))) (hon : o < n) {K : zcy}
  (hK : K (.sl o gn 5 0 (zbp l).length) (upd h o (some (.rows true gn 5 ((zbp l).map zac ++ List.replicate (l.length - (zbp l).length) zmX)))) n) :
  zaa Tryz.prog 130 [.sl o gn 5 0 l.length, .fn (.func 131) [] []] h n K := by
 have hz : ∀ m, ∀ r ∈ (zbp l).map zac ++ List.replicate (l.length - (zbp l).length) zmX, ∀ c ∈ r, Bel m c := by
  intro m r hr c hc
  rcases List.mem_append.1 hr with hr | hr
  ·exact zfZ _ r hr c hc
  ·rw [List.eq_of_mem_replicate hr] at hc
   simp only [zmX, List.mem_cons, List.not_mem_nil, or_false] at hc
   rcases hc with rfl | rfl | rfl | rfl | rfl <;> exact .v _
 refine zAX (args' := [.sl o gn 5 0 l.length, .fn (.func 131) [] []]) (HH := [(o, .rows true gn 5 ((zbp l).map zac ++ List.replicate (l.length - (zbp l).length) zmX))])
  [o] h (zlM l gn hl hf) (by simp) (by simpa using hon) rfl (Nat.le_refl _) (.refl _) ?_ ?_ (.refl _ _ _ _) ?_ ?_ ?_ (.sl rfl) ?_ ?_
 ·intro j hj
  obtain rfl : j = 0 := by omega
  exact ⟨_, _, rfl, ho, .rows (.same (zfZ _))⟩
 ·intro p hp
  simp only [List.mem_singleton] at hp
  subst hp
  exact ⟨Nat.le_of_ble_eq_true rfl, zfZ _⟩
 ·intro y hy
  simp only [List.mem_cons, List.not_mem_nil, or_false] at hy
  rcases hy with rfl | rfl
  ·exact .sl hon
  ·simp [go_sem]
 ·exact .cons (.sl rfl) (.cons (.same (by simp [go_sem])) .nil)
 ·intro y hy
  simp only [List.mem_cons, List.not_mem_nil, or_false] at hy
  rcases hy with rfl | rfl
  ·exact .sl (by decide)
  ·simp [go_sem]
 ·exact .cons rfl (.rows (.same (hz 0))) .nil
 ·have e : zdV [(o, .rows true gn 5 ((zbp l).map zac ++ List.replicate (l.length - (zbp l).length) zmX))] (zlA [o] h) = upd h o (some (.rows true gn 5 ((zbp l).map zac ++ List.replicate (l.length - (zbp l).length) zmX))) := by
   funext j
   simp only [zdV, zlA, upd]
   by_cases j1 : j = o
   ·simp [j1]
   ·simp [j1]
  rw [e, Nat.sub_self, Nat.add_zero]
  exact hK
theorem zkr (l : List zag) (gn m : Nat) (hm : l.length = m) (hl : m ≤ 17179869184) (hf : ∀ o ∈ l, zaK o) {h : zao} {n o : Nat} (ho : h o = some (.rows true gn 5 (l.map zac))) (hon : o < n) {K : zcy}
  (hK : K (.sl o gn 5 0 (zbp l).length) (upd h o (some (.rows true gn 5 ((zbp l).map zac ++ List.replicate (l.length - (zbp l).length) zmX)))) n) :
  zaa Tryz.prog 130 [.sl o gn 5 0 m, .fn (.func 131) [] []] h n K := by
 subst hm
 exact zmj l gn hl hf ho hon hK
theorem zAq : Go.Sort.SWO (fun a b : zag => decide (za7 a b < 0)) := by
 refine ⟨fun x => ?_, fun x y z h1 h2 => ?_, fun x y z h1 h2 => ?_⟩
 ·have := zaM.swap x x
  simp; omega
 ·simp only [decide_eq_true_eq] at h1 h2 ⊢
  have t := zaM.tr x y z (by omega) (by omega)
  rcases Int.lt_or_eq_of_le t with h | h
  ·exact h
  ·have e := (zaM.eq _ _).1 h
   subst e
   have := zaM.swap x y
   omega
 ·simp only [decide_eq_false_iff_not] at h1 h2 ⊢
  have s1 := zaM.swap x y
  have s2 := zaM.swap y z
  have s3 := zaM.swap x z
  have t := zaM.tr z y x (by omega) (by omega)
  omega
theorem zts (l : List zag) (hf : ∀ o ∈ l, zaK o) (hl : l.length < 4611686018427387904) {h : zao} {n o gn : Nat} (ho : h o = some (.rows true gn 5 (l.map zac))) {K : zcy}
  (hK : K (.tup []) (upd h o (some (.rows true gn 5 ((zcu za7 l).map zac)))) n) :
  zaa Tryz.prog 129 [.sl o gn 5 0 l.length, .fn (.func 37) [] []] h n K := by
 refine zA0 zsortP (k := 5) (by omega) Tryz.isAgg45 Tryz.sizeOf45 zac (fun _ => rfl) ?_ (fun o => zaK o) za7 zAq _ (fun x y hx hy => zbz x y hx hy) ?_ l hf hl ho ?_
 ·intro x
  simp [go_sem]
 ·exact (zbz default default (by unfold zaK zeY; decide) (by unfold zaK zeY; decide)).1
 ·intro l' hp hs
  have : zcu za7 l = l' := zfn zaM hp (hs.imp fun {a b} hab => by
   have := zaM.swap a b
   simp only [leC, decide_eq_true_eq]
   omega)
  rw [← this]
  exact hK
theorem zix (a b : zag) (ha : zaK a) (hb : zaK b) : zaP Tryz.prog 62 [.agg (zac a), .agg (zac b)] (.v (.bool (decide (za7 a b = 0)))) := by
 refine pF Tryz.func62 ?_
 repeat first|refine wV fun _=>?_|simp [go_sem]
 refine zAD (zcE a b ha hb) (by simp [go_sem]) ?_
 repeat first|refine wV fun _=>?_|simp [go_sem]
attribute [go_sem ↓] zsf zxi List.forall_mem_append
theorem zqS {x : AV} (h : Bel 0 x) : ∀ c ∈ [x], Bel 0 c := by simpa using h
theorem zbi {n : Nat} (l : List zag) : Bel n (zaI l) := of_eq_true zuy
theorem zvm : ∀ (f : Nat) (l : List zag), l.length ≤ f + 1 → l.length ≤ 68719476736 → (∀ p ∈ l, zaK p) → zaP Tryz.prog 75 [zaI l] (zaI (zcu za7 l)) := by
 intro f
 induction f with
 | zero =>
  intro l h1 h2 h3
  rw [zjV (by omega)]
  refine pF Tryz.func75 ?_
  repeat first|refine wV fun _=>?_|simp [go_sem]
  (refine zAE (fun hT => ?_) (fun hT => by first | omega | (simp at hT; omega)); clear hT)
  repeat first|refine wV fun _=>?_|simp [go_sem]
 | succ f ih =>
  intro l h1 h2 h3
  by_cases hs : l.length < 2
  ·rw [zjV hs]
   refine pF Tryz.func75 ?_
   repeat first|refine wV fun _=>?_|simp [go_sem]
   (refine zAE (fun hT => ?_) (fun hT => by first | omega | (simp at hT; omega)); clear hT)
   repeat first|refine wV fun _=>?_|simp [go_sem]
  ·have hm := zqy zaM (l.take (l.length / 2)) (l.drop (l.length / 2))
   rw [List.take_append_drop] at hm
   have hA := ih (l.take (l.length / 2)) (by simp; omega) (by simp; omega) (fun p hp => h3 p (List.mem_of_mem_take hp))
   have hB := ih (l.drop (l.length / 2)) (by simp; omega) (by simp; omega) (fun p hp => h3 p (List.mem_of_mem_drop hp))
   have fA : ∀ p ∈ zcu za7 (l.take (l.length / 2)), zaK p := fun p hp => h3 p (List.mem_of_mem_take (zeo.1 hp))
   have fB : ∀ p ∈ zcu za7 (l.drop (l.length / 2)), zaK p := fun p hp => h3 p (List.mem_of_mem_drop (zeo.1 hp))
   have lA : (zcu za7 (l.take (l.length / 2))).length = l.length / 2 := by rw [zen]; simp; omega
   have lB : (zcu za7 (l.drop (l.length / 2))).length = l.length - l.length / 2 := by rw [zen]; simp
   rw [← hm]
   generalize zcu za7 (l.take (l.length / 2)) = xs at *
   generalize zcu za7 (l.drop (l.length / 2)) = ys at *
   have hq : ((l.length : Int) / 2).toNat = l.length / 2 := by omega
   have eA : AV.lst 5 (List.take (l.length / 2) (l.map zac)) = zaI (l.take (l.length / 2)) := by simp [zaI, List.map_take]
   have eB : AV.lst 5 (List.take (l.length - l.length / 2) (List.drop (l.length / 2) (l.map zac))) = zaI (l.drop (l.length / 2)) := by rw [List.take_of_length_le (by simp)]; simp [zaI, List.map_drop]
   generalize hR : List.merge xs ys (leC za7) = R
   refine pF Tryz.func75 ?_
   repeat first|refine wV fun _=>?_|simp [go_sem]
   (refine zAE (fun hF => by first | omega | (simp at hF; omega)) (fun hF => ?_); clear hF)
   repeat first|refine wV fun _=>?_|simp [go_sem, hq]
   rw [eA]
   refine zAD hA (zqS (zbi _)) ?_
   repeat first|refine wV fun _=>?_|simp [go_sem, hq]
   rw [eB]
   refine zAD hB (zqS (zbi _)) ?_
   repeat first|refine wV fun _=>?_|simp [go_sem, hq]
   refine zAC (zAG (α := Nat × Nat × List zag) (fun a => ⟨[(3, zaI xs), (4, zaI ys), (5, .sl 0 a.2.2.length 5 0 a.2.2.length), (6, .v (.int .i64 a.1)), (7, .v (.int .i64 a.2.1))], [(0, .rows true a.2.2.length 5 (a.2.2.map zac))], 1⟩)
    (fun d a => a.1 + a.2.1 + d = xs.length + ys.length ∧ a.1 ≤ xs.length ∧ a.2.1 ≤ ys.length ∧ a.2.2.length = a.1 + a.2.1 ∧ R = a.2.2 ++ List.merge (xs.drop a.1) (ys.drop a.2.1) (leC za7)) ?_ (xs.length + ys.length) (0, 0, []) ?_) ?_ ?_
   ·rintro d ⟨i, k, out⟩ ⟨i1, i2, i3, i4, i5⟩ hrec
    simp only at i1 i2 i3 i4 i5
    repeat first|refine wV fun _=>?_|simp [go_sem]
    refine zAE (fun hj => ?_) (fun hj => ?_) <;> simp at hj
    ·by_cases hk : k < ys.length
     ·by_cases hi : i < xs.length
      ·have fa := fA _ (zaj hi)
       have fb := fB _ (zaj hk)
       rw [zaQ hi, zaQ hk, List.cons_merge_cons, ← zaQ hi, ← zaQ hk] at i5
       have hk' := Nat.not_le.2 hk
       repeat first|refine wV fun _=>?_|simp [go_sem, hk, hk', hi]
       refine zAO _ (fun _ => zcE _ _ fa fb) (by simp [go_sem]) ?_
       repeat first|refine wV fun _=>?_|simp [go_sem, hk, hk', hi]
       refine zAE (fun hc => ?_) (fun hc => ?_) <;> simp at hc
       ·rw [if_pos (by simpa [leC] using hc)] at i5
        repeat first|refine wV fun _=>?_|simp [go_sem, hk, hi]
        refine zAC (hrec (d - 1) (by omega) (i + 1, k, out ++ [nth xs i]) ⟨by simp only; omega, by simp only; omega, i3, by simp; omega, by simpa using i5⟩) ?_ (by simp)
        simp [go_sem, zaf]
       ·rw [if_neg (by simpa [leC] using hc)] at i5
        repeat first|refine wV fun _=>?_|simp [go_sem, hk, hi]
        refine zAC (hrec (d - 1) (by omega) (i, k + 1, out ++ [nth ys k]) ⟨by simp only; omega, i2, by simp only; omega, by simp; omega, by simpa using i5⟩) ?_ (by simp)
        simp [go_sem, zaf]
      ·rw [List.drop_eq_nil_of_le (show xs.length ≤ i by omega), List.nil_merge, zaQ hk] at i5
       have hk' := Nat.not_le.2 hk
       repeat first|refine wV fun _=>?_|simp [go_sem, hk, hk', hi]
       refine dGC.skip (.v (.int .i64 0)) ?_
       repeat first|refine wV fun _=>?_|simp [go_sem, hk, hk', hi]
       refine zAC (hrec (d - 1) (by omega) (i, k + 1, out ++ [nth ys k]) ⟨by simp only; omega, i2, by simp only; omega, by simp; omega, by simp [List.drop_eq_nil_of_le (show xs.length ≤ i by omega), i5]⟩) ?_ (by simp)
       simp [go_sem, zaf]
     ·have hi : i < xs.length := by omega
      rw [List.drop_eq_nil_of_le (show ys.length ≤ k by omega), List.merge_right, zaQ hi] at i5
      have hk' := Nat.not_lt.1 hk
      repeat first|refine wV fun _=>?_|simp [go_sem, hk, hk', hi]
      refine dGC.skip (.v (.int .i64 0)) ?_
      repeat first|refine wV fun _=>?_|simp [go_sem, hk, hk', hi]
      refine zAC (hrec (d - 1) (by omega) (i + 1, k, out ++ [nth xs i]) ⟨by simp only; omega, by simp only; omega, i3, by simp; omega, by simp [List.drop_eq_nil_of_le (show ys.length ≤ k by omega), i5]⟩) ?_ (by simp)
      simp [go_sem, zaf]
    ·rw [List.drop_eq_nil_of_le (show xs.length ≤ i by omega), List.drop_eq_nil_of_le (show ys.length ≤ k by omega)] at i5
     repeat first|refine wV fun _=>?_|simp [go_sem]
     rw [i5]
     exact frX
   ·simp [hR]
   ·simp [go_sem, zaf]
   ·simp
def zwJ (all : List zag) (i : Nat) : List zag := if i = 0 then zbp all else zbc (nth all (i - 1)) (all.drop i)
theorem zuU (all : List zag) : zwJ all 0 = zbp all := rfl
theorem zxA {all : List zag} {i : Nat} (h : all.length ≤ i) : zwJ all i = [] := by
 unfold zwJ
 split
 ·cases all with
  | nil => rfl
  | cons a l => simp at h; omega
 ·rw [List.drop_eq_nil_of_le h]; rfl
theorem znH {all : List zag} {i : Nat} (h : i < all.length) (hk : i = 0 ∨ nth all i ≠ nth all (i - 1)) : zwJ all i = nth all i :: zwJ all (i + 1) := by
 unfold zwJ
 rw [if_neg (show ¬ i + 1 = 0 by omega), Nat.add_sub_cancel]
 split
 ·rename_i h0
  subst h0
  cases all with
  | nil => simp at h
  | cons a l => rfl
 ·rw [zaQ h, zbc, if_neg (by rcases hk with h | h; omega; exact h)]
theorem zuT {all : List zag} {i : Nat} (h : i < all.length) (hi : i ≠ 0) (hk : nth all i = nth all (i - 1)) : zwJ all i = zwJ all (i + 1) := by
 unfold zwJ
 rw [if_neg (show ¬ i + 1 = 0 by omega), Nat.add_sub_cancel, if_neg hi, zaQ h, zbc, if_pos hk, hk]
theorem zew (l : List zag) (hl : l.length ≤ 68719476736) (hf : ∀ p ∈ l, zaK p) : zaP Tryz.prog 23 [zaI l] (zaI (zaU za7 l)) := by
 have hH := zvm l.length l (by omega) hl hf
 unfold zaU
 have fA : ∀ p ∈ zcu za7 l, zaK p := fun p hp => hf p (zeo.1 hp)
 have lA : (zcu za7 l).length = l.length := zen l
 generalize zcu za7 l = all at *
 generalize hR : zbp all = R
 refine pF Tryz.func23 ?_
 repeat first|refine wV fun _=>?_|simp [go_sem]
 refine zAD hH (zqS (zbi _)) ?_
 repeat first|refine wV fun _=>?_|simp [go_sem]
 refine zAC (zAG (α := Nat × List zag) (fun a => ⟨[(3, zaI all), (4, .sl 0 a.2.length 5 0 a.2.length), (5, .v (.int .i64 a.1))], [(0, .rows true a.2.length 5 (a.2.map zac))], 1⟩)
  (fun d a => a.1 + d = all.length ∧ a.2.length ≤ a.1 ∧ R = a.2 ++ zwJ all a.1) ?_ all.length (0, []) ?_) ?_ ?_
 ·rintro d ⟨i, out⟩ ⟨i1, i2, i3⟩ hrec
  simp only at i1 i2 i3
  repeat first|refine wV fun _=>?_|simp [go_sem]
  refine zAE (fun hi => ?_) (fun hi => ?_) <;> simp at hi
  ·by_cases h0 : i = 0
   ·rw [znH hi (.inl h0)] at i3
    subst h0
    repeat first|refine wV fun _=>?_|simp [go_sem, hi]
    refine dGC.skip (.v (.bool true)) ?_
    repeat first|refine wV fun _=>?_|simp [go_sem, hi]
    refine zAC (hrec (d - 1) (by omega) (0 + 1, out ++ [nth all 0]) ⟨by simp only; omega, by simp only [List.length_append, List.length_singleton]; omega, by simpa using i3⟩) ?_ (by simp)
    simp [go_sem, zaf]
   ·have fa := fA _ (zaj hi)
    have hi' : i - 1 < all.length := by omega
    have e1 : ((i : Int) - 1).toNat = i - 1 := by omega
    have fb := fA _ (zaj hi')
    repeat first|refine wV fun _=>?_|simp [go_sem, hi, h0, e1, hi']
    refine zAO _ (fun _ => zix _ _ fa fb) (by simp [go_sem]) ?_
    repeat first|refine wV fun _=>?_|simp [go_sem, hi, h0]
    refine zAE (fun hc => ?_) (fun hc => ?_) <;> simp at hc
    ·rw [zpO] at hc
     rw [znH hi (.inr hc)] at i3
     repeat first|refine wV fun _=>?_|simp [go_sem, hi]
     refine zAC (hrec (d - 1) (by omega) (i + 1, out ++ [nth all i]) ⟨by simp only; omega, by simp; omega, by simpa using i3⟩) ?_ (by simp)
     simp [go_sem, zaf]
    ·rw [zpO] at hc
     rw [zuT hi h0 hc] at i3
     repeat first|refine wV fun _=>?_|simp [go_sem, hi]
     refine zAC (hrec (d - 1) (by omega) (i + 1, out) ⟨by simp only; omega, by simp only; omega, i3⟩) ?_ (by simp)
     simp [go_sem, zaf]
  ·rw [zxA hi] at i3
   repeat first|refine wV fun _=>?_|simp [go_sem]
   rw [i3]
   exact frX
 ·simp [hR, zuU]
 ·simp [go_sem, zaf]
 ·simp
def zgI (side : Int) (l : List StD) (n : Nat) : List zb8 := ((l.take n).filterMap (zfQ side)).foldl (fun a x => zbE x a) []
@[go_sem] theorem zAB (side : Int) (l : List StD) : zgI side l 0 = [] := rfl
theorem zhj (side : Int) (l : List StD) {n : Nat} (h : n < l.length) : zgI side l (n + 1) = match zfQ side (nth l n) with | some o => zbE o (zgI side l n) | none => zgI side l n := by
 unfold zgI
 rw [zvh _ _ _ h, List.foldl_append]
 cases zfQ side (nth l n) <;> rfl
theorem zla (x : zb8) : ∀ l : List zb8, (zbE x l).length ≤ l.length + 1
 | [] => by simp [zbE]
 | y :: l => by
  rw [zbE]
  split
  ·have := zla x l; simp; omega
  ·split <;> simp
theorem zvV (side : Int) (l : List StD) : ∀ n, n ≤ l.length → (zgI side l n).length ≤ n := by
 intro n
 induction n with
 | zero => intro _; simp [zgI]
 | succ n ih =>
  intro h
  have := ih (by omega)
  rw [zhj side l (by omega)]
  split
  ·rename_i o _
   have := zla o (zgI side l n)
   omega
  ·omega
theorem zoz {g : zad} (hg : GOk g) {s : StD} (hs : zeS g s) {side : Int} {o : zb8} (h : zfQ side s = some o) : zaK o.pos := by
 have hf := hs.p.fits hg
 unfold zfQ at h
 split at h
 ·simp only [Option.some.injEq] at h
  subst h
  obtain ⟨a, b, c⟩ := hf
  exact ⟨by unfold zeY at *; simpa using a, b, c⟩
 ·cases h
theorem zs3 {g : zad} (hg : GOk g) {side : Int} {l : List StD} (hl : ∀ s ∈ l, zeS g s) : ∀ n, n ≤ l.length → ∀ o ∈ zgI side l n, zaK o.pos := by
 intro n
 induction n with
 | zero => intro _ o ho; simp [zgI] at ho
 | succ n ih =>
  intro h o ho
  rw [zhj side l (by omega)] at ho
  cases hp : zfQ side (nth l n) with
  | none => rw [hp] at ho; exact ih (by omega) o ho
  | some q =>
   rw [hp] at ho
   rcases zeE.1 ho with rfl | ho
   ·exact zoz hg (hl _ (zaj (by omega))) hp
   ·exact ih (by omega) o ho
theorem zvU (g : zad) (p : zag) (cell i : Int) : zgI p.side (zd4 g p cell (za0 g p cell i)) (zd4 g p cell (za0 g p cell i)).length = zc5 g p cell i := by
 unfold zgI zc5
 rw [List.take_length, zp4]
theorem zpa (g : zad) (hg : GOk g) (p : zag) (hp : POk g p) (cell i : Int) (hc : zb4 g p cell i) :
  zaP Tryz.prog 246 [.agg (zae g), .agg (zac p), .v (.int .i64 cell), .v (.int .i64 i)] (.tup [zcS (zc5 g p cell i), .v (.int .i64 0)]) := by
 refine pF Tryz.func246 ?_
 have hRun := zrE g hg p hp cell i hc
 have hal := hp.al
 have hat := hp.at (i := cell.toNat) (by have := hc.c0; have := hc.c1; omega)
 have hkl : (zak (nth p.at_ cell.toNat)).1.toNat < g.kinds.length := by
  have cm := hc.man
  rcases zaR hat.1 hat.2 hg.k6 with ⟨_, e⟩ | ⟨_, a, b, _⟩
  ·rw [e] at cm; simp at cm
  ·omega
 have hil : i.toNat < (nth g.kinds (zak (nth p.at_ cell.toNat)).1.toNat).progs.length := by have := hc.i0; have := hc.i1; omega
 have hpg := hg.pr _ (zaj hkl) _ (zaj hil)
 have hpe : za0 g p cell i = nth (nth g.kinds (zak (nth p.at_ cell.toNat)).1.toNat).progs i.toNat := rfl
 rw [← hpe] at hpg
 have hst := zgP hg hp hc.c0 hc.c1 hc.man hpg.st _ (Nat.le_refl _)
 have hlen := Nat.le_trans hst.2 (zil hpg.len)
 have hstR := zqz g p cell (za0 g p cell i) ((za0 g p cell i).length + 1)
 have hnS := zAf g p cell (za0 g p cell i) (n := (za0 g p cell i).length + 1) (j := (za0 g p cell i).length) (by omega)
 have hal' := zvU g p cell i
 rw [zgf] at hnS hlen hst
 have hps := hp.s
 obtain ⟨m, hm⟩ : ∃ m, m = (za0 g p cell i).length := ⟨_, rfl⟩
 have hm8 := hpg.len
 rw [← hm] at hRun hstR hnS hm8
 generalize stR g p cell (za0 g p cell i) (m + 1) = sr at *
 generalize zd4 g p cell (za0 g p cell i) = last at *
 obtain ⟨R, hR⟩ : ∃ R, R = zc5 g p cell i := ⟨_, rfl⟩
 rw [← hR] at hal' ⊢
 repeat first|refine wV fun _=>?_|simp [go_sem]
 refine zAD hRun (by simp [go_sem]) ?_
 repeat first|refine wV fun _=>?_|simp [go_sem, hstR, hnS]
 refine zAC (zAG (α := Nat) (fun k => ⟨[(5, .ref 1 0 5 0 0), (11, zcS (zgI p.side last k)), (12, zbb last), (13, .v (.int .i64 k))], [(1, .rows true 0 5 [zac p])], 2⟩)
  (fun d k => k + d = last.length) ?_ last.length 0 ?_) ?_ ?_
 ·rintro d k k1 hrec
  repeat first|refine wV fun _=>?_|simp [go_sem]
  refine zAE (fun hk => ?_) (fun hk => ?_) <;> simp at hk
  ·have hsk := hst.1 _ (zaj hk)
   have hsu := zhj p.side last hk
   have hol := zvV p.side last k (by omega)
   have hof := zs3 hg (fun s hs => (hst.1 s hs).1) (side := p.side) k (by omega)
   have hpf := fun o => zoz hg hsk.1 (side := p.side) (o := o)
   have hps' : zfQ p.side (nth last k) = if nth (nth last k).p.at_ (nth last k).cursor.toNat = 0 then some ⟨{ (nth last k).p with at_ := (nth last k).p.at_.set (nth last k).cursor.toNat (zaL (nth last k).kind p.side), side := 1 - p.side }, (nth last k).took⟩ else none := rfl
   have hcp := zdB (nth last k).p (hsk.1.p.fits hg)
   have hal2 := hsk.1.p.al
   have hc0 := hsk.1.c0
   have hc1 := hsk.1.c1
   have hcc := zev (nth last k).kind p.side
   have hcur : (nth last k).cursor.toNat < (nth last k).p.at_.length := by omega
   by_cases hz : nth (nth last k).p.at_ (nth last k).cursor.toNat = 0
   ·rw [if_pos hz] at hps'
    simp only [hps'] at hsu
    have hfo := hpf _ hps'
    have hIns := zlU (zgI p.side last k) _ (by omega) hof hfo
    repeat first|refine wV fun _=>?_|simp [go_sem, hk, hcur, hz]
    refine zAH hcp (by simp [go_sem]) ?_
    repeat first|refine wV fun _=>?_|simp [go_sem, hcur]
    refine zAF hcc (by simp [go_sem]) ?_
    repeat first|refine wV fun _=>?_|simp [go_sem, hcur]
    refine zAL [5, 6, 11] hIns ?_ (by simp [go_sem]) ?_
    ·(first|done|exact agX)
    ·rw [← hsu]
     repeat first|refine wV fun _=>?_|simp [go_sem]
     refine zAC (hrec (d - 1) (by omega) (k + 1) (by omega)) ?_ (by simp)
     simp [go_sem, zaf, zbt, zbV, upd]
   ·rw [if_neg hz] at hps'
    simp only [hps'] at hsu
    repeat first|refine wV fun _=>?_|simp [go_sem, hk, hcur, hz]
    refine zAC (hrec (d - 1) (by omega) (k + 1) (by omega)) ?_ (by simp)
    simp [go_sem, zaf, hsu]
  ·have hkl : k = last.length := by omega
   subst hkl
   rw [hal']
   repeat first|refine wV fun _=>?_|simp [go_sem]
 ·omega
 ·simp [go_sem, zaf]
  exact frX
 ·simp
def zbu (g : zad) (p : zag) (k : Nat) : List zag := (List.range k).flatMap fun k => (List.range p.at_.length).filterMap fun c => zfI g p k c
def zco (g : zad) (p : zag) (k c : Nat) : List zag := zbu g p k ++ (List.range c).filterMap fun c => zfI g p k c
theorem zg4 (g : zad) (p : zag) (k : Nat) : zco g p k p.at_.length = zbu g p (k + 1) := by simp [zco, zbu, List.range_succ, List.flatMap_append]
theorem zf3 (g : zad) (p : zag) (k : Nat) : zco g p k 0 = zbu g p k := by simp [zco]
theorem zca (g : zad) (p : zag) (k c : Nat) : zco g p k (c + 1) = zco g p k c ++ (zfI g p k c).toList := by
 simp only [zco, List.range_succ, List.filterMap_append, List.append_assoc]
 cases h : zfI g p k c <;> simp [h]
theorem zfx (g : zad) (p : zag) : zbu g p g.kinds.length = zu1 g p := rfl
theorem zef {α : Type} (f : Nat → List α) (m : Nat) (hf : ∀ k, (f k).length ≤ m) : ∀ n, ((List.range n).flatMap f).length ≤ n * m
 | 0 => by simp
 | n + 1 => by
  have := zef f m hf n
  have := hf n
  simp only [List.range_succ, List.flatMap_append, List.length_append, List.flatMap_cons, List.flatMap_nil, List.append_nil, Nat.add_mul, Nat.one_mul]
  omega
theorem zed (g : zad) (p : zag) (k : Nat) : (zbu g p k).length ≤ k * p.at_.length :=
 zef _ _ (fun k => Nat.le_trans (List.length_filterMap_le _ _) (by simp)) k
theorem zfw (g : zad) (p : zag) (k c : Nat) : (zco g p k c).length ≤ k * p.at_.length + c := by
 have h1 := zed g p k
 have h2 : ((List.range c).filterMap fun c => zfI g p k c).length ≤ c := Nat.le_trans (List.length_filterMap_le _ _) (by simp)
 simp only [zco, List.length_append]
 omega
theorem zie {g : zad} (hg : GOk g) {p : zag} (hp : POk g p) {k c : Nat} (hk : k < g.kinds.length) {q : zag} (h : zfI g p k c = some q) : POk g q ∧ q.side = 1 - p.side := by
 unfold zfI at h
 split at h
 ·cases h
 ·rename_i hc
  simp only [Option.some.injEq] at h
  subst h
  have k6 := hg.k6
  have hcode : zaL k p.side = 1 + 2 * k + p.side := znF (K := g.kinds.length) ⟨by omega, by omega⟩ k6 hp.s
  have hs := hp.s
  have hh := hp.hand p.side
  have hl := hh.len
  have hv := hh.v k (by omega)
  refine ⟨POk.side (POk.withHand (hp.setAt c (by rw [hcode]; omega)) _ (hh.set k ?_ ?_)) (by omega), rfl⟩
  ·simp only [not_or] at hc; omega
  ·intro _; exact hv.2.2 (by simp only [not_or] at hc; omega)
theorem znc (g : zad) (hg : GOk g) (p : zag) (hp : POk g p) : zaP Tryz.prog 197 [.agg (zae g), .agg (zac p)] (zaI (zcF g p)) := by
 refine pF Tryz.func197 ?_
 have hal := hp.al
 have c9 := hg.c9
 have k6 := hg.k6
 have hcp := zdB p (hp.fits hg)
 obtain ⟨gk, hgk⟩ : ∃ gk, gk = g.kinds.length := ⟨_, rfl⟩
 have hl0 := hp.h0.len
 have hl1 := hp.h1.len
 repeat first|refine wV fun _=>?_|simp [go_sem]
 refine zAC (zAG (α := Nat) (fun k => ⟨[(2, .ref 0 0 9 0 0), (3, .ref 1 0 5 0 0), (5, .sl 2 (zbu g p k).length 5 0 (zbu g p k).length), (6, .v (.int .i64 k))], [(0, .rows true 0 9 [zae g]), (1, .rows true 0 5 [zac p]), (2, .rows true (zbu g p k).length 5 ((zbu g p k).map zac))], 3⟩)
  (fun d k => k + d = g.kinds.length) ?_ g.kinds.length 0 ?_) ?_ ?_
 ·rintro d k k1 hrec
  repeat first|refine wV fun _=>?_|simp [go_sem]
  refine zAE (fun hk => ?_) (fun hk => ?_) <;> simp at hk
  ·have hz := zf3 g p k
   have ha := zg4 g p k
   repeat first|refine wV fun _=>?_|simp [go_sem]
   refine zAC (zAG (α := Nat) (fun c => ⟨[(2, .ref 0 0 9 0 0), (3, .ref 1 0 5 0 0), (5, .sl 2 (zco g p k c).length 5 0 (zco g p k c).length), (6, .v (.int .i64 k)), (7, .v (.int .i64 c))], [(0, .rows true 0 9 [zae g]), (1, .rows true 0 5 [zac p]), (2, .rows true (zco g p k c).length 5 ((zco g p k c).map zac))], 3⟩)
    (fun d c => c + d = p.at_.length) ?_ p.at_.length 0 ?_) ?_ ?_
   ·rintro d2 c c1 hrec2
    repeat first|refine wV fun _=>?_|simp [go_sem]
    refine zAE (fun hci => ?_) (fun hci => ?_) <;> simp at hci
    ·have hD : zfI g p k c = if nth (p.hand p.side) k = 0 ∨ nth p.at_ c ≠ 0 then none
      else some { ({ p with at_ := p.at_.set c (zaL k p.side) }.withHand p.side ((p.hand p.side).set k (nth (p.hand p.side) k - 1))) with side := 1 - p.side } := rfl
     rcases hp.s with hsd | hsd
     ·have hsn : p.side.toNat = 0 := by omega
      have hkh : k < p.h0.length := by omega
      have hhv := hp.h0.v k hkh
      have hD' : zfI g p k c = if nth p.h0 k = 0 ∨ nth p.at_ c ≠ 0 then none else some { p with at_ := p.at_.set c (zaL k p.side), h0 := p.h0.set k (nth p.h0 k - 1), side := 1 - p.side } := by
       rw [hD]; simp [zag.hand, zag.withHand, hsd]
      repeat first|refine wV fun _=>?_|simp [go_sem, hsn, hkh, hci]
      refine zAE (fun hcc => ?_) (fun hcc => ?_) <;> simp at hcc
      ·rw [if_pos (by omega)] at hD'
       have hsu := zca g p k c
       rw [hD'] at hsu
       simp only [Option.toList_none, List.append_nil] at hsu
       repeat first|refine wV fun _=>?_|simp [go_sem]
       refine zAC (hrec2 (d2 - 1) (by omega) (c + 1) (by omega)) ?_ (by simp)
       simp [go_sem, zaf, hsu]
      ·rw [if_neg (by omega)] at hD'
       have hsu := zca g p k c
       rw [hD'] at hsu
       simp only [Option.toList_some] at hsu
       have hcl := zfw g p k c
       have hkm : k * p.at_.length ≤ 6 * 9 := Nat.mul_le_mul (by omega) (by omega)
       repeat first|refine wV fun _=>?_|simp [go_sem, hci]
       refine zAH hcp (by simp [go_sem]) ?_
       repeat first|refine wV fun _=>?_|simp [go_sem, hci]
       refine zAF (zev (k : Int) p.side) (by simp [go_sem]) ?_
       repeat first|refine wV fun _=>?_|simp [go_sem, hsn, hci, hkh]
       refine zAC (hrec2 (d2 - 1) (by omega) (c + 1) (by omega)) ?_ (by simp)
       simp [go_sem, zaf, hsu]
       (first|done|exact rwX)
     ·have hsn : p.side.toNat = 1 := by omega
      have hkh : k < p.h1.length := by omega
      have hhv := hp.h1.v k hkh
      have hD' : zfI g p k c = if nth p.h1 k = 0 ∨ nth p.at_ c ≠ 0 then none else some { p with at_ := p.at_.set c (zaL k p.side), h1 := p.h1.set k (nth p.h1 k - 1), side := 1 - p.side } := by
       rw [hD]; simp [zag.hand, zag.withHand, hsd]
      repeat first|refine wV fun _=>?_|simp [go_sem, hsn, hkh, hci]
      refine zAE (fun hcc => ?_) (fun hcc => ?_) <;> simp at hcc
      ·rw [if_pos (by omega)] at hD'
       have hsu := zca g p k c
       rw [hD'] at hsu
       simp only [Option.toList_none, List.append_nil] at hsu
       repeat first|refine wV fun _=>?_|simp [go_sem]
       refine zAC (hrec2 (d2 - 1) (by omega) (c + 1) (by omega)) ?_ (by simp)
       simp [go_sem, zaf, hsu]
      ·rw [if_neg (by omega)] at hD'
       have hsu := zca g p k c
       rw [hD'] at hsu
       simp only [Option.toList_some] at hsu
       have hcl := zfw g p k c
       have hkm : k * p.at_.length ≤ 6 * 9 := Nat.mul_le_mul (by omega) (by omega)
       repeat first|refine wV fun _=>?_|simp [go_sem, hci]
       refine zAH hcp (by simp [go_sem]) ?_
       repeat first|refine wV fun _=>?_|simp [go_sem, hci]
       refine zAF (zev (k : Int) p.side) (by simp [go_sem]) ?_
       repeat first|refine wV fun _=>?_|simp [go_sem, hsn, hci, hkh]
       refine zAC (hrec2 (d2 - 1) (by omega) (c + 1) (by omega)) ?_ (by simp)
       simp [go_sem, zaf, hsu]
       (first|done|exact rwX)
    ·have hcl : c = p.at_.length := by omega
     subst hcl
     rw [ha]
     repeat first|refine wV fun _=>?_|simp [go_sem]
     refine zAC (hrec (d - 1) (by omega) (k + 1) (by omega)) ?_ (by simp)
     simp [go_sem, zaf]
   ·omega
   ·simp [go_sem, zaf, hz]
   ·simp
  ·have hkl : k = g.kinds.length := by omega
   subst hkl
   have hdl := zed g p g.kinds.length
   have hkm : g.kinds.length * p.at_.length ≤ 6 * 9 := Nat.mul_le_mul k6 (by omega)
   have hS := zew (zbu g p g.kinds.length) (by omega) (fun q hq => by
    rw [zfx] at hq
    obtain ⟨k, hk, hq⟩ := List.mem_flatMap.1 hq
    obtain ⟨c, hc, hq⟩ := List.mem_filterMap.1 hq
    exact (zie hg hp (by simpa using hk) hq).1.fits hg)
   rw [show zaU za7 (zbu g p g.kinds.length) = zcF g p from rfl] at hS
   generalize zbu g p g.kinds.length = l at *
   generalize zcF g p = r at *
   repeat first|refine wV fun _=>?_|simp [go_sem]
   refine zAL [2] hS ?_ (zqS (zbi _)) ?_
   ·(first|done|exact agX)
   ·repeat first|refine wV fun _=>?_|simp [go_sem]
 ·omega
 ·simp [go_sem, zaf, show zbu g p 0 = [] from rfl]
 ·simp
end Go.Av
end
