/- Contracts, games: Made of the reference. -/
import Derived.Test.YtbcnlnpgkonjpaaGreatMA
import Derived.Test.YtbcnlnpgkonjpaaGreatDJ
import Derived.Test.YtbcnlnpgkonjpaaGreatD8
import Derived.Test.YtbcnlnpgkonjpaaGreatMB
section
set_option linter.unusedSimpArgs false
set_option linter.unusedVariables false
open Go Go.Proofs
set_option maxRecDepth 20000
set_option maxHeartbeats 4000000
namespace Go.Av
theorem R3Made_pure (x : RawG) (hx : RawOk x) (hl : x.c.length ≤ 1099511627776) (hl0 : x.k0.length ≤ 1099511627776) (hl1 : x.k1.length ≤ 1099511627776) : Pure Tryz.prog 19 [.agg (encRaw x)] (.agg (encGame (madeG x))) := by
  refine Pure.of (ACallP.of_awp (by kernel_rfl) Tryz.func19 rfl rfl (Nat.le_of_ble_eq_true rfl) (by kernel_rfl) ?_)
  obtain ⟨eg, heg⟩ : ∃ eg, eg = encGame (madeG x) := ⟨_, rfl⟩
  rw [← heg]
  have hB := R1Made_pure x.w x.h x.cut hx.w hx.h hx.cut
  have hok := boardOk_made hx.w.1 hx.h.1 x.cut
  have hb : madeB x.w x.h x.cut = x.board := rfl
  rw [hb] at hB hok
  have r0 := Int.tmod_nonneg 3 hx.f0.1
  have r1 := Int.tmod_lt_of_pos x.f0 (show (0 : Int) < 3 by decide)
  have f0 : 0 ≤ x.f0 ∧ x.f0 ≤ 255 := hx.f0
  have f1 : 0 ≤ x.f1 ∧ x.f1 ≤ 255 := hx.f1
  have f2 : 0 ≤ x.f2 ∧ x.f2 ≤ 255 := hx.f2
  have f3 : 0 ≤ x.f3 ∧ x.f3 ≤ 255 := hx.f3
  have f4 : 0 ≤ x.f4 ∧ x.f4 ≤ 255 := hx.f4
  have m1 := Int.tmod_nonneg 4 hx.f1.1
  have m3 := Int.tmod_nonneg 4 hx.f3.1
  have m4 := Int.tmod_nonneg 4 hx.f4.1
  have qq : ∀ n : Int, U8 n → (0 ≤ n.tdiv 4 ∧ n.tdiv 4 ≤ 63) ∧ 0 ≤ (n.tdiv 4).tmod 3 ∧ (n.tdiv 4).tmod 3 < 3 := fun n hn => by
    have h : n.tdiv 4 = n / 4 := Int.tdiv_eq_ediv_of_nonneg hn.1
    have h1 := hn.1
    have h2 := hn.2
    have h3 := Int.tmod_nonneg 3 (show 0 ≤ n.tdiv 4 by omega)
    have h4 := Int.tmod_lt_of_pos (n.tdiv 4) (show (0 : Int) < 3 by decide)
    omega
  obtain ⟨q3, q3'⟩ := qq _ hx.f3
  obtain ⟨q4, q4'⟩ := qq _ hx.f4
  obtain ⟨bl, hbl⟩ : ∃ bl, bl = if x.f3.tmod 4 = 3 then 1 + (x.f3.tdiv 4).tmod 3 else 3 := ⟨_, rfl⟩
  obtain ⟨en, hen⟩ : ∃ en, en = if x.f4.tmod 4 = 3 then 1 + (x.f4.tdiv 4).tmod 3 else 2 := ⟨_, rfl⟩
  obtain ⟨R, hR⟩ : ∃ R, R = x.rights := ⟨_, rfl⟩
  have hR' : x.f0.tmod 3 = R := by rw [hR]; rfl
  obtain ⟨b, hbb⟩ : ∃ b, b = x.board := ⟨_, rfl⟩
  rw [← hbb] at hB hok
  (repeat (first | with_reducible (first | refine wL fun _ => ?_ | refine wD fun _ => ?_ | refine wE ?_ | refine adrZ.go ?_) | simp [go_sem]))
  try ((with_reducible refine adrZ.go ?_); (try simp [go_sem]))
  refine dCall.plain hB (by simp [go_sem]) ?_
  (repeat (first | with_reducible (first | refine wL fun _ => ?_ | refine wD fun _ => ?_ | refine wE ?_ | refine adrZ.go ?_) | simp [go_sem, hR']))
  have hd8 : b.next.length = 8 := by rw [hbb]; exact madeB_dirs _ _ _
  have hcell : 1 ≤ b.cells ∧ b.cells ≤ 9 := by rw [hbb]; exact madeB_cells hx.w.1 hx.h.1 _
  obtain ⟨K, hK⟩ : ∃ K : Nat, K = kindsN x := ⟨_, rfl⟩
  have hKn : kindsN x = if x.k1.length = 0 then 1 else 2 := by unfold kindsN; simp only [List.length_eq_zero_iff]
  have hKl : ∀ i, (x.ks i).length ≤ 1099511627776 := fun i => by unfold RawG.ks; split <;> assumption
  have hKv : ∀ i, ∀ n ∈ x.ks i, U8 n := fun i => by unfold RawG.ks; split; exact hx.k0; exact hx.k1
  refine aIf.mkL (fun hk1 => ?_) (fun hk1 => ?_) <;> simp at hk1
  · have hK2 : kindsN x = 2 := by rw [hKn, if_neg (by omega)]
    rw [hK2] at hK
    (repeat (first | with_reducible (first | refine wL fun _ => ?_ | refine wD fun _ => ?_ | refine wE ?_ | refine adrZ.go ?_) | simp [go_sem]))
    refine ALoop.start (ALoop.ind (α := Nat) (fun a => ⟨[(1, .ref 0 0 12 0 0), (2, .ref 1 0 9 0 0), (3, .ref 20 0 9 0 0), (4, .v (.int .i64 K)), (5, .v (.int .i64 a))],
      [(0, .rows true 0 12 [encRaw x]), (1, .rows true 0 9 [[.v (.int .i64 0), AV.nils, AV.nils, AV.nils, .v (.int .i64 0), .v (.bool false), AV.nils, .v (.int .i64 0), .v (.int .i64 0)]]), (20, .rows true 0 9 [[.v (.int .i64 b.cells), encIss b.next, encIs b.turn, .sl 22 a 3 0 a, .v (.int .i64 R), .v (.bool (decide (x.f1.tmod 4 = 3))), AV.nils, .v (.int .i64 3), .v (.int .i64 2)]]), (22, .rows true a 3 (ksR x a))], 23⟩)
      (fun d a => a + d = K) ?_ K 0 ?_) ?_ ?_
    · rintro d0 i i1 hrec
      (repeat (first | with_reducible (first | refine wL fun _ => ?_ | refine wD fun _ => ?_ | refine wE ?_ | refine adrZ.go ?_) | simp [go_sem]))
      refine aIf.mkL (fun hi => ?_) (fun hi => ?_) <;> simp at hi
      · have hi2 : i = 0 ∨ i = 1 := by omega
        have hkl := hKl i
        have hkv := hKv i
        have hks : kindOf x i = ⟨if i = 0 then nameA else nameB, ((x.ks i).take 4).map (fun n => madeP n b.next.length K x.rights), bitU x.f2 i⟩ := by rw [hbb, hK, ← hK2]; rfl
        rcases hi2 with rfl | rfl
        · obtain ⟨kk, hkk⟩ : ∃ kk, kk = x.ks 0 := ⟨_, rfl⟩
          have hk0 : x.k0 = kk := hkk.symm
          rw [← hkk] at hkl hkv hks
          have hbit : bitU x.f2 0 = decide (andN .u8 x.f2 1 = 1) := by simp [bitU]
          obtain ⟨f, hf⟩ : ∃ f, f = (fun n => madeP n b.next.length K x.rights) := ⟨_, rfl⟩
          have hfp : ∀ n, U8 n → Pure Tryz.prog 39 [.v (.int .u8 n), .v (.int .i64 b.next.length), .v (.int .i64 K), .v (.int .i64 R)] (encProg (f n)) := fun n hn => by
            rw [hf, ← hR]; exact R2Made_pure n _ _ _ hn (by omega) (by omega) (by omega)
          rw [← hf, hbit] at hks
          (repeat (first | with_reducible (first | refine wL fun _ => ?_ | refine wD fun _ => ?_ | refine wE ?_ | refine adrZ.go ?_) | simp [go_sem, hk0]))
          refine ALoop.start (ALoop.ind (α := Nat) (fun n => ⟨[(1, .ref 0 0 12 0 0), (2, .ref 1 0 9 0 0), (3, .ref 20 0 9 0 0), (4, .v (.int .i64 K)), (5, .v (.int .i64 0)), (6, .ref 35 0 3 0 0), (7, .v (.int .i64 n))],
            [(0, .rows true 0 12 [encRaw x]), (1, .rows true 0 9 [[.v (.int .i64 0), AV.nils, AV.nils, AV.nils, .v (.int .i64 0), .v (.bool false), AV.nils, .v (.int .i64 0), .v (.int .i64 0)]]), (20, .rows true 0 9 [[.v (.int .i64 b.cells), encIss b.next, encIs b.turn, .sl 22 0 3 0 0, .v (.int .i64 R), .v (.bool (decide (x.f1.tmod 4 = 3))), AV.nils, .v (.int .i64 3), .v (.int .i64 2)]]), (22, .rows true 0 3 (ksR x 0)), (35, .rows true 0 3 [[.v (.string ⟨#[97]⟩), .sl 37 n 1 0 n, .v (.bool (decide (andN .u8 x.f2 1 = 1)))]]), (37, .rows true n 1 (psR f kk n))], 38⟩)
            (fun d n => n + d = min kk.length 4) ?_ (min kk.length 4) 0 ?_) ?_ ?_
          · rintro d n n1 hrec1
            (repeat (first | with_reducible (first | refine wL fun _ => ?_ | refine wD fun _ => ?_ | refine wE ?_ | refine adrZ.go ?_) | simp [go_sem, hk0]))
            refine aIf.mkL (fun hn => ?_) (fun hn => ?_) <;> simp at hn
            · have hn1 : n < kk.length := by omega
              have hn2 := hkv _ (nth_mem hn1)
              have hpl := psR_len f kk (n := n) (by omega)
              (repeat (first | with_reducible (first | refine wL fun _ => ?_ | refine wD fun _ => ?_ | refine wE ?_ | refine adrZ.go ?_) | simp [go_sem, hk0, hn1]))
              try ((with_reducible refine adrZ.go ?_); (try simp [go_sem]))
              refine dCall.plain (hfp _ hn2) (by simp [go_sem]) ?_
              (repeat (first | with_reducible (first | refine wL fun _ => ?_ | refine wD fun _ => ?_ | refine wE ?_ | refine adrZ.go ?_) | simp [go_sem, hk0, hn1, hpl]))
              refine ALoop.start (hrec1 (d - 1) (by omega) (n + 1) (by omega)) ?_ (by simp)
              simp [go_sem, Wk_eq, hk0, psR_succ f kk hn1]
            · have hne : n = min kk.length 4 := by omega
              (repeat (first | with_reducible (first | refine wL fun _ => ?_ | refine wD fun _ => ?_ | refine wE ?_ | refine adrZ.go ?_) | simp [go_sem]))
              refine ALoop.start (hrec (d0 - 1) (by omega) (0 + 1) (by omega)) ?_ (by simp)
              have hkx : kRow (kindOf x 0) = [.v (.string ⟨#[97]⟩), .lst 1 (psR f kk n), .v (.bool (decide (andN .u8 x.f2 1 = 1)))] := by rw [hks, show psR f kk n = psR f kk (min kk.length 4) by rw [← hne]]; simp [kRow, encKind, psR, nameA, nameB, encProg]; omega
              have hpl := psR_len f kk (n := n) (by omega)
              simp [go_sem, Wk_eq, hk0, ksR_succ x 0, hkx]
              (try refine leRows_append (.refl _) (.cons (.cons (.refl _) (.cons ?_ (.cons (.refl _) .nil))) .nil))
              refine LeV.frz rfl ?_ ?_ (LeRows.of_eq ?_) <;> simp [mkH, upd, hpl, List.take_of_length_le]
          · omega
          · simp [go_sem, Wk_eq, hk0]
          · simp
        · obtain ⟨kk, hkk⟩ : ∃ kk, kk = x.ks 1 := ⟨_, rfl⟩
          have hk0 : x.k1 = kk := hkk.symm
          rw [← hkk] at hkl hkv hks
          have hbit : bitU x.f2 1 = decide (andN .u8 (x.f2.fdiv 2) 1 = 1) := by simp [bitU]
          obtain ⟨f, hf⟩ : ∃ f, f = (fun n => madeP n b.next.length K x.rights) := ⟨_, rfl⟩
          have hfp : ∀ n, U8 n → Pure Tryz.prog 39 [.v (.int .u8 n), .v (.int .i64 b.next.length), .v (.int .i64 K), .v (.int .i64 R)] (encProg (f n)) := fun n hn => by
            rw [hf, ← hR]; exact R2Made_pure n _ _ _ hn (by omega) (by omega) (by omega)
          rw [← hf, hbit] at hks
          (repeat (first | with_reducible (first | refine wL fun _ => ?_ | refine wD fun _ => ?_ | refine wE ?_ | refine adrZ.go ?_) | simp [go_sem, hk0]))
          refine ALoop.start (ALoop.ind (α := Nat) (fun n => ⟨[(1, .ref 0 0 12 0 0), (2, .ref 1 0 9 0 0), (3, .ref 20 0 9 0 0), (4, .v (.int .i64 K)), (5, .v (.int .i64 1)), (6, .ref 35 0 3 0 0), (7, .v (.int .i64 n))],
            [(0, .rows true 0 12 [encRaw x]), (1, .rows true 0 9 [[.v (.int .i64 0), AV.nils, AV.nils, AV.nils, .v (.int .i64 0), .v (.bool false), AV.nils, .v (.int .i64 0), .v (.int .i64 0)]]), (20, .rows true 0 9 [[.v (.int .i64 b.cells), encIss b.next, encIs b.turn, .sl 22 1 3 0 1, .v (.int .i64 R), .v (.bool (decide (x.f1.tmod 4 = 3))), AV.nils, .v (.int .i64 3), .v (.int .i64 2)]]), (22, .rows true 1 3 (ksR x 1)), (35, .rows true 0 3 [[.v (.string ⟨#[98, 101, 101]⟩), .sl 37 n 1 0 n, .v (.bool (decide (andN .u8 (x.f2.fdiv 2) 1 = 1)))]]), (37, .rows true n 1 (psR f kk n))], 38⟩)
            (fun d n => n + d = min kk.length 4) ?_ (min kk.length 4) 0 ?_) ?_ ?_
          · rintro d n n1 hrec1
            (repeat (first | with_reducible (first | refine wL fun _ => ?_ | refine wD fun _ => ?_ | refine wE ?_ | refine adrZ.go ?_) | simp [go_sem, hk0]))
            refine aIf.mkL (fun hn => ?_) (fun hn => ?_) <;> simp at hn
            · have hn1 : n < kk.length := by omega
              have hn2 := hkv _ (nth_mem hn1)
              have hpl := psR_len f kk (n := n) (by omega)
              (repeat (first | with_reducible (first | refine wL fun _ => ?_ | refine wD fun _ => ?_ | refine wE ?_ | refine adrZ.go ?_) | simp [go_sem, hk0, hn1]))
              try ((with_reducible refine adrZ.go ?_); (try simp [go_sem]))
              refine dCall.plain (hfp _ hn2) (by simp [go_sem]) ?_
              (repeat (first | with_reducible (first | refine wL fun _ => ?_ | refine wD fun _ => ?_ | refine wE ?_ | refine adrZ.go ?_) | simp [go_sem, hk0, hn1, hpl]))
              refine ALoop.start (hrec1 (d - 1) (by omega) (n + 1) (by omega)) ?_ (by simp)
              simp [go_sem, Wk_eq, hk0, psR_succ f kk hn1]
            · have hne : n = min kk.length 4 := by omega
              (repeat (first | with_reducible (first | refine wL fun _ => ?_ | refine wD fun _ => ?_ | refine wE ?_ | refine adrZ.go ?_) | simp [go_sem]))
              refine ALoop.start (hrec (d0 - 1) (by omega) (1 + 1) (by omega)) ?_ (by simp)
              have hkx : kRow (kindOf x 1) = [.v (.string ⟨#[98, 101, 101]⟩), .lst 1 (psR f kk n), .v (.bool (decide (andN .u8 (x.f2.fdiv 2) 1 = 1)))] := by rw [hks, show psR f kk n = psR f kk (min kk.length 4) by rw [← hne]]; simp [kRow, encKind, psR, nameA, nameB, encProg]; omega
              have hpl := psR_len f kk (n := n) (by omega)
              simp [go_sem, Wk_eq, hk0, ksR_succ x 1, hkx]
              (try refine leRows_append (.refl _) (.cons (.cons (.refl _) (.cons ?_ (.cons (.refl _) .nil))) .nil))
              refine LeV.frz rfl ?_ ?_ (LeRows.of_eq ?_) <;> simp [mkH, upd, hpl, List.take_of_length_le]
          · omega
          · simp [go_sem, Wk_eq, hk0]
          · simp
      · have hiK : i = K := by omega
        subst hiK
        (repeat (first | with_reducible (first | refine wL fun _ => ?_ | refine wD fun _ => ?_ | refine wE ?_ | refine adrZ.go ?_) | simp [go_sem]))
        refine aIf.mkL (fun hb3 => ?_) (fun hb3 => ?_) <;> simp at hb3 <;> (repeat (first | with_reducible (first | refine wL fun _ => ?_ | refine wD fun _ => ?_ | refine wE ?_ | refine adrZ.go ?_) | simp [go_sem]))
        all_goals refine aIf.mkL (fun hb4 => ?_) (fun hb4 => ?_) <;> simp at hb4 <;> (repeat (first | with_reducible (first | refine wL fun _ => ?_ | refine wD fun _ => ?_ | refine wE ?_ | refine adrZ.go ?_) | simp [go_sem]))
        all_goals (
          refine ALoop.start (ALoop.ind (α := Nat) (fun a => ⟨[(1, .ref 0 0 12 0 0), (2, .ref 1 0 9 0 0), (3, .ref 20 0 9 0 0), (4, .v (.int .i64 i)), (8, .v (.int .i64 a))],
            [(0, .rows true 0 12 [encRaw x]), (1, .rows true 0 9 [[.v (.int .i64 0), AV.nils, AV.nils, AV.nils, .v (.int .i64 0), .v (.bool false), AV.nils, .v (.int .i64 0), .v (.int .i64 0)]]), (20, .rows true 0 9 [[.v (.int .i64 b.cells), encIss b.next, encIs b.turn, .sl 22 i 3 0 i, .v (.int .i64 R), .v (.bool (decide (x.f1.tmod 4 = 3))), .sl 23 a 4 0 a, .v (.int .i64 bl), .v (.int .i64 en)]]), (22, .rows true i 3 (ksR x i)), (23, .rows true a 4 (clR b.cells i x.c a))], 24⟩)
            (fun d a => a + d = min x.c.length 3) ?_ (min x.c.length 3) 0 ?_) ?_ ?_
          · rintro d j j1 hrec2
            (repeat (first | with_reducible (first | refine wL fun _ => ?_ | refine wD fun _ => ?_ | refine wE ?_ | refine adrZ.go ?_) | simp [go_sem]))
            refine aIf.mkL (fun hj => ?_) (fun hj => ?_) <;> simp at hj
            · have hj1 : j < x.c.length := by omega
              have hjc := hx.c _ (nth_mem hj1)
              have hpl := clR_len b.cells i x.c (n := j) (by omega)
              have hsu := clR_succ b.cells i x.c hj1
              generalize hcx : nth x.c j = c at *
              obtain ⟨c0, c1, c2⟩ := c
              obtain ⟨u0, u1, u2⟩ := hjc
              obtain ⟨w0, w0'⟩ := qq _ u0
              obtain ⟨v0, v0'⟩ := u0
              obtain ⟨v1, v1'⟩ := u1
              obtain ⟨v2, v2'⟩ := u2
              simp only at v0 v0' v1 v1' v2 v2' w0 w0'
              have t0 := Int.tmod_nonneg 3 v0
              have t1 := Int.tmod_lt_of_pos c0 (show (0 : Int) < 3 by decide)
              have hip : (0 : Int) < i := by omega
              have k0 := Int.tmod_nonneg i v1
              have n0 := Int.tmod_nonneg b.cells v2
              have n1 := Int.tmod_nonneg 3 v2
              rcases (show c0.tmod 3 = 0 ∨ c0.tmod 3 = 1 ∨ c0.tmod 3 = 2 by omega) with ht | ht | ht
              · have hr : cRow (clauseOf b.cells i (c0, c1, c2)) = [.v (.int .i64 1), .v (.int .i64 (c1.tmod i)), .v (.int .i64 0), .v (.int .i64 (1 + (c0.tdiv 4).tmod 3))] := by simp [cRow, clauseOf, encClause, ht]
                (repeat (first | with_reducible (first | refine wL fun _ => ?_ | refine wD fun _ => ?_ | refine wE ?_ | refine adrZ.go ?_) | simp [go_sem, hj1, hcx, ht, hpl]))
                refine ALoop.start (hrec2 (d - 1) (by omega) (j + 1) (by omega)) ?_ (by simp)
                simp [go_sem, Wk_eq, hsu, hr]
              · have hr : cRow (clauseOf b.cells i (c0, c1, c2)) = [.v (.int .i64 2), .v (.int .i64 (c1.tmod i)), .v (.int .i64 (c2.tmod b.cells)), .v (.int .i64 (1 + (c0.tdiv 4).tmod 3))] := by simp [cRow, clauseOf, encClause, ht]
                (repeat (first | with_reducible (first | refine wL fun _ => ?_ | refine wD fun _ => ?_ | refine wE ?_ | refine adrZ.go ?_) | simp [go_sem, hj1, hcx, ht, hpl]))
                refine ALoop.start (hrec2 (d - 1) (by omega) (j + 1) (by omega)) ?_ (by simp)
                simp [go_sem, Wk_eq, hsu, hr]
              · have hr : cRow (clauseOf b.cells i (c0, c1, c2)) = [.v (.int .i64 3), .v (.int .i64 0), .v (.int .i64 (c2.tmod 3)), .v (.int .i64 (1 + (c0.tdiv 4).tmod 3))] := by simp [cRow, clauseOf, encClause, ht]
                (repeat (first | with_reducible (first | refine wL fun _ => ?_ | refine wD fun _ => ?_ | refine wE ?_ | refine adrZ.go ?_) | simp [go_sem, hj1, hcx, ht, hpl]))
                refine ALoop.start (hrec2 (d - 1) (by omega) (j + 1) (by omega)) ?_ (by simp)
                simp [go_sem, Wk_eq, hsu, hr]
            · have hki : kindsN x = i := by rw [hK2, hK]
              have hjm : j = min x.c.length 3 := by omega
              have htk : x.c.take (min x.c.length 3) = x.c.take 3 := by rw [List.take_eq_take_iff]; omega
              have hpl := clR_len b.cells i x.c (n := j) (by omega)
              have hkl : (ksR x i).length = i := ksR_len x i
              have hcl : clR b.cells i x.c j = ((x.c.take 3).map (clauseOf b.cells i)).map encClause := by unfold clR; rw [hjm, htk]
              have hG : madeG x = { cells := b.cells, next := b.next, turn := b.turn, kinds := (List.range i).map (kindOf x), rights := R, must := decide (x.f1.tmod 4 = 3), clauses := (x.c.take 3).map (clauseOf b.cells i), blocked := bl, endless := en } := by
                unfold madeG; rw [hki, ← hbb, ← hR, ← hbl, ← hen]
              have hEnc : eg = [.v (.int .i64 b.cells), encIss b.next, encIs b.turn, .lst 3 (ksR x i), .v (.int .i64 R), .v (.bool (decide (x.f1.tmod 4 = 3))), .lst 4 (clR b.cells i x.c j), .v (.int .i64 bl), .v (.int .i64 en)] := by
                rw [heg, hG, hcl]; rfl
              (repeat (first | with_reducible (first | refine wL fun _ => ?_ | refine wD fun _ => ?_ | refine wE ?_ | refine adrZ.go ?_) | simp [go_sem]))
              rw [hEnc]
              refine ⟨.cons (.refl _) (.cons (.refl _) (.cons (.refl _) (.cons (leV_frz rfl (by omega) (by simp [noH]) (by rw [List.drop_zero, List.take_of_length_le (by omega)])) (.cons (.refl _) (.cons (.refl _) (.cons (leV_frz rfl (by omega) (by simp [noH]) (by rw [List.drop_zero, List.take_of_length_le (by omega)])) (.cons (.refl _) (.cons (.refl _) .nil)))))))), ?_⟩
              intro c hc
              simp only [List.mem_cons, List.not_mem_nil, or_false] at hc
              rcases hc with rfl | rfl | rfl | rfl | rfl | rfl | rfl | rfl | rfl
              all_goals first | exact .v _ | simp [go_sem]
          · omega
          · simp [go_sem, Wk_eq, hbl, hen, hb3, hb4]
          · simp)
    · omega
    · simp [go_sem, Wk_eq, hK]
    · simp
  · have hK2 : kindsN x = 1 := by rw [hKn, if_pos (by simp [hk1])]
    rw [hK2] at hK
    (repeat (first | with_reducible (first | refine wL fun _ => ?_ | refine wD fun _ => ?_ | refine wE ?_ | refine adrZ.go ?_) | simp [go_sem]))
    refine ALoop.start (ALoop.ind (α := Nat) (fun a => ⟨[(1, .ref 0 0 12 0 0), (2, .ref 1 0 9 0 0), (3, .ref 20 0 9 0 0), (4, .v (.int .i64 K)), (5, .v (.int .i64 a))],
      [(0, .rows true 0 12 [encRaw x]), (1, .rows true 0 9 [[.v (.int .i64 0), AV.nils, AV.nils, AV.nils, .v (.int .i64 0), .v (.bool false), AV.nils, .v (.int .i64 0), .v (.int .i64 0)]]), (20, .rows true 0 9 [[.v (.int .i64 b.cells), encIss b.next, encIs b.turn, .sl 22 a 3 0 a, .v (.int .i64 R), .v (.bool (decide (x.f1.tmod 4 = 3))), AV.nils, .v (.int .i64 3), .v (.int .i64 2)]]), (22, .rows true a 3 (ksR x a))], 23⟩)
      (fun d a => a + d = K) ?_ K 0 ?_) ?_ ?_
    · rintro d0 i i1 hrec
      (repeat (first | with_reducible (first | refine wL fun _ => ?_ | refine wD fun _ => ?_ | refine wE ?_ | refine adrZ.go ?_) | simp [go_sem]))
      refine aIf.mkL (fun hi => ?_) (fun hi => ?_) <;> simp at hi
      · have hi2 : i = 0 ∨ i = 1 := by omega
        have hkl := hKl i
        have hkv := hKv i
        have hks : kindOf x i = ⟨if i = 0 then nameA else nameB, ((x.ks i).take 4).map (fun n => madeP n b.next.length K x.rights), bitU x.f2 i⟩ := by rw [hbb, hK, ← hK2]; rfl
        rcases hi2 with rfl | rfl
        · obtain ⟨kk, hkk⟩ : ∃ kk, kk = x.ks 0 := ⟨_, rfl⟩
          have hk0 : x.k0 = kk := hkk.symm
          rw [← hkk] at hkl hkv hks
          have hbit : bitU x.f2 0 = decide (andN .u8 x.f2 1 = 1) := by simp [bitU]
          obtain ⟨f, hf⟩ : ∃ f, f = (fun n => madeP n b.next.length K x.rights) := ⟨_, rfl⟩
          have hfp : ∀ n, U8 n → Pure Tryz.prog 39 [.v (.int .u8 n), .v (.int .i64 b.next.length), .v (.int .i64 K), .v (.int .i64 R)] (encProg (f n)) := fun n hn => by
            rw [hf, ← hR]; exact R2Made_pure n _ _ _ hn (by omega) (by omega) (by omega)
          rw [← hf, hbit] at hks
          (repeat (first | with_reducible (first | refine wL fun _ => ?_ | refine wD fun _ => ?_ | refine wE ?_ | refine adrZ.go ?_) | simp [go_sem, hk0]))
          refine ALoop.start (ALoop.ind (α := Nat) (fun n => ⟨[(1, .ref 0 0 12 0 0), (2, .ref 1 0 9 0 0), (3, .ref 20 0 9 0 0), (4, .v (.int .i64 K)), (5, .v (.int .i64 0)), (6, .ref 35 0 3 0 0), (7, .v (.int .i64 n))],
            [(0, .rows true 0 12 [encRaw x]), (1, .rows true 0 9 [[.v (.int .i64 0), AV.nils, AV.nils, AV.nils, .v (.int .i64 0), .v (.bool false), AV.nils, .v (.int .i64 0), .v (.int .i64 0)]]), (20, .rows true 0 9 [[.v (.int .i64 b.cells), encIss b.next, encIs b.turn, .sl 22 0 3 0 0, .v (.int .i64 R), .v (.bool (decide (x.f1.tmod 4 = 3))), AV.nils, .v (.int .i64 3), .v (.int .i64 2)]]), (22, .rows true 0 3 (ksR x 0)), (35, .rows true 0 3 [[.v (.string ⟨#[97]⟩), .sl 37 n 1 0 n, .v (.bool (decide (andN .u8 x.f2 1 = 1)))]]), (37, .rows true n 1 (psR f kk n))], 38⟩)
            (fun d n => n + d = min kk.length 4) ?_ (min kk.length 4) 0 ?_) ?_ ?_
          · rintro d n n1 hrec1
            (repeat (first | with_reducible (first | refine wL fun _ => ?_ | refine wD fun _ => ?_ | refine wE ?_ | refine adrZ.go ?_) | simp [go_sem, hk0]))
            refine aIf.mkL (fun hn => ?_) (fun hn => ?_) <;> simp at hn
            · have hn1 : n < kk.length := by omega
              have hn2 := hkv _ (nth_mem hn1)
              have hpl := psR_len f kk (n := n) (by omega)
              (repeat (first | with_reducible (first | refine wL fun _ => ?_ | refine wD fun _ => ?_ | refine wE ?_ | refine adrZ.go ?_) | simp [go_sem, hk0, hn1]))
              try ((with_reducible refine adrZ.go ?_); (try simp [go_sem]))
              refine dCall.plain (hfp _ hn2) (by simp [go_sem]) ?_
              (repeat (first | with_reducible (first | refine wL fun _ => ?_ | refine wD fun _ => ?_ | refine wE ?_ | refine adrZ.go ?_) | simp [go_sem, hk0, hn1, hpl]))
              refine ALoop.start (hrec1 (d - 1) (by omega) (n + 1) (by omega)) ?_ (by simp)
              simp [go_sem, Wk_eq, hk0, psR_succ f kk hn1]
            · have hne : n = min kk.length 4 := by omega
              (repeat (first | with_reducible (first | refine wL fun _ => ?_ | refine wD fun _ => ?_ | refine wE ?_ | refine adrZ.go ?_) | simp [go_sem]))
              refine ALoop.start (hrec (d0 - 1) (by omega) (0 + 1) (by omega)) ?_ (by simp)
              have hkx : kRow (kindOf x 0) = [.v (.string ⟨#[97]⟩), .lst 1 (psR f kk n), .v (.bool (decide (andN .u8 x.f2 1 = 1)))] := by rw [hks, show psR f kk n = psR f kk (min kk.length 4) by rw [← hne]]; simp [kRow, encKind, psR, nameA, nameB, encProg]; omega
              have hpl := psR_len f kk (n := n) (by omega)
              simp [go_sem, Wk_eq, hk0, ksR_succ x 0, hkx]
              (try refine leRows_append (.refl _) (.cons (.cons (.refl _) (.cons ?_ (.cons (.refl _) .nil))) .nil))
              refine LeV.frz rfl ?_ ?_ (LeRows.of_eq ?_) <;> simp [mkH, upd, hpl, List.take_of_length_le]
          · omega
          · simp [go_sem, Wk_eq, hk0]
          · simp
        · obtain ⟨kk, hkk⟩ : ∃ kk, kk = x.ks 1 := ⟨_, rfl⟩
          have hk0 : x.k1 = kk := hkk.symm
          rw [← hkk] at hkl hkv hks
          have hbit : bitU x.f2 1 = decide (andN .u8 (x.f2.fdiv 2) 1 = 1) := by simp [bitU]
          obtain ⟨f, hf⟩ : ∃ f, f = (fun n => madeP n b.next.length K x.rights) := ⟨_, rfl⟩
          have hfp : ∀ n, U8 n → Pure Tryz.prog 39 [.v (.int .u8 n), .v (.int .i64 b.next.length), .v (.int .i64 K), .v (.int .i64 R)] (encProg (f n)) := fun n hn => by
            rw [hf, ← hR]; exact R2Made_pure n _ _ _ hn (by omega) (by omega) (by omega)
          rw [← hf, hbit] at hks
          (repeat (first | with_reducible (first | refine wL fun _ => ?_ | refine wD fun _ => ?_ | refine wE ?_ | refine adrZ.go ?_) | simp [go_sem, hk0]))
          refine ALoop.start (ALoop.ind (α := Nat) (fun n => ⟨[(1, .ref 0 0 12 0 0), (2, .ref 1 0 9 0 0), (3, .ref 20 0 9 0 0), (4, .v (.int .i64 K)), (5, .v (.int .i64 1)), (6, .ref 35 0 3 0 0), (7, .v (.int .i64 n))],
            [(0, .rows true 0 12 [encRaw x]), (1, .rows true 0 9 [[.v (.int .i64 0), AV.nils, AV.nils, AV.nils, .v (.int .i64 0), .v (.bool false), AV.nils, .v (.int .i64 0), .v (.int .i64 0)]]), (20, .rows true 0 9 [[.v (.int .i64 b.cells), encIss b.next, encIs b.turn, .sl 22 1 3 0 1, .v (.int .i64 R), .v (.bool (decide (x.f1.tmod 4 = 3))), AV.nils, .v (.int .i64 3), .v (.int .i64 2)]]), (22, .rows true 1 3 (ksR x 1)), (35, .rows true 0 3 [[.v (.string ⟨#[98, 101, 101]⟩), .sl 37 n 1 0 n, .v (.bool (decide (andN .u8 (x.f2.fdiv 2) 1 = 1)))]]), (37, .rows true n 1 (psR f kk n))], 38⟩)
            (fun d n => n + d = min kk.length 4) ?_ (min kk.length 4) 0 ?_) ?_ ?_
          · rintro d n n1 hrec1
            (repeat (first | with_reducible (first | refine wL fun _ => ?_ | refine wD fun _ => ?_ | refine wE ?_ | refine adrZ.go ?_) | simp [go_sem, hk0]))
            refine aIf.mkL (fun hn => ?_) (fun hn => ?_) <;> simp at hn
            · have hn1 : n < kk.length := by omega
              have hn2 := hkv _ (nth_mem hn1)
              have hpl := psR_len f kk (n := n) (by omega)
              (repeat (first | with_reducible (first | refine wL fun _ => ?_ | refine wD fun _ => ?_ | refine wE ?_ | refine adrZ.go ?_) | simp [go_sem, hk0, hn1]))
              try ((with_reducible refine adrZ.go ?_); (try simp [go_sem]))
              refine dCall.plain (hfp _ hn2) (by simp [go_sem]) ?_
              (repeat (first | with_reducible (first | refine wL fun _ => ?_ | refine wD fun _ => ?_ | refine wE ?_ | refine adrZ.go ?_) | simp [go_sem, hk0, hn1, hpl]))
              refine ALoop.start (hrec1 (d - 1) (by omega) (n + 1) (by omega)) ?_ (by simp)
              simp [go_sem, Wk_eq, hk0, psR_succ f kk hn1]
            · have hne : n = min kk.length 4 := by omega
              (repeat (first | with_reducible (first | refine wL fun _ => ?_ | refine wD fun _ => ?_ | refine wE ?_ | refine adrZ.go ?_) | simp [go_sem]))
              refine ALoop.start (hrec (d0 - 1) (by omega) (1 + 1) (by omega)) ?_ (by simp)
              have hkx : kRow (kindOf x 1) = [.v (.string ⟨#[98, 101, 101]⟩), .lst 1 (psR f kk n), .v (.bool (decide (andN .u8 (x.f2.fdiv 2) 1 = 1)))] := by rw [hks, show psR f kk n = psR f kk (min kk.length 4) by rw [← hne]]; simp [kRow, encKind, psR, nameA, nameB, encProg]; omega
              have hpl := psR_len f kk (n := n) (by omega)
              simp [go_sem, Wk_eq, hk0, ksR_succ x 1, hkx]
              (try refine leRows_append (.refl _) (.cons (.cons (.refl _) (.cons ?_ (.cons (.refl _) .nil))) .nil))
              refine LeV.frz rfl ?_ ?_ (LeRows.of_eq ?_) <;> simp [mkH, upd, hpl, List.take_of_length_le]
          · omega
          · simp [go_sem, Wk_eq, hk0]
          · simp
      · have hiK : i = K := by omega
        subst hiK
        (repeat (first | with_reducible (first | refine wL fun _ => ?_ | refine wD fun _ => ?_ | refine wE ?_ | refine adrZ.go ?_) | simp [go_sem]))
        refine aIf.mkL (fun hb3 => ?_) (fun hb3 => ?_) <;> simp at hb3 <;> (repeat (first | with_reducible (first | refine wL fun _ => ?_ | refine wD fun _ => ?_ | refine wE ?_ | refine adrZ.go ?_) | simp [go_sem]))
        all_goals refine aIf.mkL (fun hb4 => ?_) (fun hb4 => ?_) <;> simp at hb4 <;> (repeat (first | with_reducible (first | refine wL fun _ => ?_ | refine wD fun _ => ?_ | refine wE ?_ | refine adrZ.go ?_) | simp [go_sem]))
        all_goals (
          refine ALoop.start (ALoop.ind (α := Nat) (fun a => ⟨[(1, .ref 0 0 12 0 0), (2, .ref 1 0 9 0 0), (3, .ref 20 0 9 0 0), (4, .v (.int .i64 i)), (8, .v (.int .i64 a))],
            [(0, .rows true 0 12 [encRaw x]), (1, .rows true 0 9 [[.v (.int .i64 0), AV.nils, AV.nils, AV.nils, .v (.int .i64 0), .v (.bool false), AV.nils, .v (.int .i64 0), .v (.int .i64 0)]]), (20, .rows true 0 9 [[.v (.int .i64 b.cells), encIss b.next, encIs b.turn, .sl 22 i 3 0 i, .v (.int .i64 R), .v (.bool (decide (x.f1.tmod 4 = 3))), .sl 23 a 4 0 a, .v (.int .i64 bl), .v (.int .i64 en)]]), (22, .rows true i 3 (ksR x i)), (23, .rows true a 4 (clR b.cells i x.c a))], 24⟩)
            (fun d a => a + d = min x.c.length 3) ?_ (min x.c.length 3) 0 ?_) ?_ ?_
          · rintro d j j1 hrec2
            (repeat (first | with_reducible (first | refine wL fun _ => ?_ | refine wD fun _ => ?_ | refine wE ?_ | refine adrZ.go ?_) | simp [go_sem]))
            refine aIf.mkL (fun hj => ?_) (fun hj => ?_) <;> simp at hj
            · have hj1 : j < x.c.length := by omega
              have hjc := hx.c _ (nth_mem hj1)
              have hpl := clR_len b.cells i x.c (n := j) (by omega)
              have hsu := clR_succ b.cells i x.c hj1
              generalize hcx : nth x.c j = c at *
              obtain ⟨c0, c1, c2⟩ := c
              obtain ⟨u0, u1, u2⟩ := hjc
              obtain ⟨w0, w0'⟩ := qq _ u0
              obtain ⟨v0, v0'⟩ := u0
              obtain ⟨v1, v1'⟩ := u1
              obtain ⟨v2, v2'⟩ := u2
              simp only at v0 v0' v1 v1' v2 v2' w0 w0'
              have t0 := Int.tmod_nonneg 3 v0
              have t1 := Int.tmod_lt_of_pos c0 (show (0 : Int) < 3 by decide)
              have hip : (0 : Int) < i := by omega
              have k0 := Int.tmod_nonneg i v1
              have n0 := Int.tmod_nonneg b.cells v2
              have n1 := Int.tmod_nonneg 3 v2
              rcases (show c0.tmod 3 = 0 ∨ c0.tmod 3 = 1 ∨ c0.tmod 3 = 2 by omega) with ht | ht | ht
              · have hr : cRow (clauseOf b.cells i (c0, c1, c2)) = [.v (.int .i64 1), .v (.int .i64 (c1.tmod i)), .v (.int .i64 0), .v (.int .i64 (1 + (c0.tdiv 4).tmod 3))] := by simp [cRow, clauseOf, encClause, ht]
                (repeat (first | with_reducible (first | refine wL fun _ => ?_ | refine wD fun _ => ?_ | refine wE ?_ | refine adrZ.go ?_) | simp [go_sem, hj1, hcx, ht, hpl]))
                refine ALoop.start (hrec2 (d - 1) (by omega) (j + 1) (by omega)) ?_ (by simp)
                simp [go_sem, Wk_eq, hsu, hr]
              · have hr : cRow (clauseOf b.cells i (c0, c1, c2)) = [.v (.int .i64 2), .v (.int .i64 (c1.tmod i)), .v (.int .i64 (c2.tmod b.cells)), .v (.int .i64 (1 + (c0.tdiv 4).tmod 3))] := by simp [cRow, clauseOf, encClause, ht]
                (repeat (first | with_reducible (first | refine wL fun _ => ?_ | refine wD fun _ => ?_ | refine wE ?_ | refine adrZ.go ?_) | simp [go_sem, hj1, hcx, ht, hpl]))
                refine ALoop.start (hrec2 (d - 1) (by omega) (j + 1) (by omega)) ?_ (by simp)
                simp [go_sem, Wk_eq, hsu, hr]
              · have hr : cRow (clauseOf b.cells i (c0, c1, c2)) = [.v (.int .i64 3), .v (.int .i64 0), .v (.int .i64 (c2.tmod 3)), .v (.int .i64 (1 + (c0.tdiv 4).tmod 3))] := by simp [cRow, clauseOf, encClause, ht]
                (repeat (first | with_reducible (first | refine wL fun _ => ?_ | refine wD fun _ => ?_ | refine wE ?_ | refine adrZ.go ?_) | simp [go_sem, hj1, hcx, ht, hpl]))
                refine ALoop.start (hrec2 (d - 1) (by omega) (j + 1) (by omega)) ?_ (by simp)
                simp [go_sem, Wk_eq, hsu, hr]
            · have hki : kindsN x = i := by rw [hK2, hK]
              have hjm : j = min x.c.length 3 := by omega
              have htk : x.c.take (min x.c.length 3) = x.c.take 3 := by rw [List.take_eq_take_iff]; omega
              have hpl := clR_len b.cells i x.c (n := j) (by omega)
              have hkl : (ksR x i).length = i := ksR_len x i
              have hcl : clR b.cells i x.c j = ((x.c.take 3).map (clauseOf b.cells i)).map encClause := by unfold clR; rw [hjm, htk]
              have hG : madeG x = { cells := b.cells, next := b.next, turn := b.turn, kinds := (List.range i).map (kindOf x), rights := R, must := decide (x.f1.tmod 4 = 3), clauses := (x.c.take 3).map (clauseOf b.cells i), blocked := bl, endless := en } := by
                unfold madeG; rw [hki, ← hbb, ← hR, ← hbl, ← hen]
              have hEnc : eg = [.v (.int .i64 b.cells), encIss b.next, encIs b.turn, .lst 3 (ksR x i), .v (.int .i64 R), .v (.bool (decide (x.f1.tmod 4 = 3))), .lst 4 (clR b.cells i x.c j), .v (.int .i64 bl), .v (.int .i64 en)] := by
                rw [heg, hG, hcl]; rfl
              (repeat (first | with_reducible (first | refine wL fun _ => ?_ | refine wD fun _ => ?_ | refine wE ?_ | refine adrZ.go ?_) | simp [go_sem]))
              rw [hEnc]
              refine ⟨.cons (.refl _) (.cons (.refl _) (.cons (.refl _) (.cons (leV_frz rfl (by omega) (by simp [noH]) (by rw [List.drop_zero, List.take_of_length_le (by omega)])) (.cons (.refl _) (.cons (.refl _) (.cons (leV_frz rfl (by omega) (by simp [noH]) (by rw [List.drop_zero, List.take_of_length_le (by omega)])) (.cons (.refl _) (.cons (.refl _) .nil)))))))), ?_⟩
              intro c hc
              simp only [List.mem_cons, List.not_mem_nil, or_false] at hc
              rcases hc with rfl | rfl | rfl | rfl | rfl | rfl | rfl | rfl | rfl
              all_goals first | exact .v _ | simp [go_sem]
          · omega
          · simp [go_sem, Wk_eq, hbl, hen, hb3, hb4]
          · simp)
    · omega
    · simp [go_sem, Wk_eq, hK]
    · simp
end Go.Av
end
section
set_option linter.unusedSimpArgs false
set_option linter.unusedVariables false
open Go Go.Proofs
set_option maxRecDepth 20000
set_option maxHeartbeats 4000000
namespace Go.Av
theorem R4Made_pure (g : GameD) (hg : GOk g) (x : RawP) (hx : RawPOk x) : Pure Tryz.prog 21 [.agg (encGame g), .agg (encRawP x)] (.agg (encPos (madePos g x))) := by
  refine Pure.of (ACallP.of_awp (by kernel_rfl) Tryz.func21 rfl rfl (Nat.le_of_ble_eq_true rfl) (by kernel_rfl) ?_)
  obtain ⟨q, hq⟩ : ∃ q, q = madePos g x := ⟨_, rfl⟩
  have hrow := rawRow hx
  obtain ⟨er, her⟩ : ∃ er, er = encRawP x := ⟨_, rfl⟩
  rw [← hq, ← her]
  rw [← her] at hrow
  obtain ⟨rl, rc, rk, rh, rr, rs, rb⟩ := hrow
  have c1 := hg.c1
  have c9 := hg.c9
  have k1 := hg.k1
  have k6 := hg.k6
  have hr0 := hg.r0
  have hr4 := hg.r4
  obtain ⟨gc, hgc⟩ : ∃ gc : Nat, g.cells = gc := ⟨g.cells.toNat, by omega⟩
  have hpow : (1 : Int) ≤ 2 ^ g.rights.toNat ∧ (2 : Int) ^ g.rights.toNat ≤ 16 := by
    rcases (show g.rights.toNat = 0 ∨ g.rights.toNat = 1 ∨ g.rights.toNat = 2 ∨ g.rights.toNat = 3 ∨ g.rights.toNat = 4 by omega) with h | h | h | h | h <;> rw [h] <;> decide
  have hrt := hx.r
  have hsd := hx.s
  obtain ⟨rt, hrt'⟩ : ∃ rt, x.rights = rt := ⟨_, rfl⟩
  obtain ⟨pw, hpw⟩ : ∃ pw : Int, (2 : Int) ^ g.rights.toNat = pw := ⟨_, rfl⟩
  have r1 : 0 ≤ x.rights ∧ x.rights ≤ 255 := hx.r
  have s1 : 0 ≤ x.side ∧ x.side ≤ 255 := hx.s
  have s0 := Int.tmod_nonneg 2 s1.1
  have s2 := Int.tmod_lt_of_pos x.side (show (0 : Int) < 2 by decide)
  rw [hpw] at hpow
  generalize heg : encGame g = eg at *
  have hel : eg.length = 9 := by rw [← heg]; rfl
  have hbl : ∀ n, (∀ c' ∈ eg, Bel n c') = True := fun n => by rw [← heg]; simp [go_sem]
  have e0 : cel eg 0 = .v (.int .i64 g.cells) := by rw [← heg]; rfl
  have e3 : cel eg 3 = .lst 3 (g.kinds.map encKind) := by rw [← heg]; rfl
  have e4 : cel eg 4 = .v (.int .i64 g.rights) := by rw [← heg]; rfl
  (repeat (first | with_reducible (first | refine wL fun _ => ?_ | refine wD fun _ => ?_ | refine wE ?_ | refine adrZ.go ?_) | simp [go_sem, hel, e0, e3, e4, rl, rr, rs, rb, hbl, hpw]))
  have hcz : g.cells.toNat = gc := by omega
  have hkne : g.kinds ≠ [] := by intro h; rw [h] at k1; simp at k1
  have hz : List.replicate gc [AV.v (.int .i64 0)] = (madeAt g x 0).map encI := by simp [madeAt, hcz, encI]
  refine ALoop.start (ALoop.ind (α := Nat) (fun i => ⟨[(2, .ref 0 0 9 0 0), (3, .ref 1 0 18 0 0), (4, .ref 2 0 5 0 0), (5, .ref 19 0 5 0 0), (6, .v (.int .i64 i))], [(0, .rows true 0 9 [eg]), (1, .rows true 0 18 [er]), (2, .rows true 0 5 [[AV.nils, AV.nils, AV.nils, .v (.int .i64 0), .v (.int .i64 0)]]), (6, .rows true 0 1 ((madeAt g x i).map encI)), (19, .rows true 0 5 [[.sl 6 0 1 0 gc, AV.nils, AV.nils, .v (.int .i64 (x.rights.tmod pw)), .v (.int .i64 (x.side.tmod 2))]])], 21⟩)
    (fun d i => i + d = 6) ?_ 6 0 ?_) ?_ ?_
  · rintro d i i1 hrec
    (repeat (first | with_reducible (first | refine wL fun _ => ?_ | refine wD fun _ => ?_ | refine wE ?_ | refine adrZ.go ?_) | simp [go_sem]))
    refine aIf.mkL (fun hi => ?_) (fun hi => ?_) <;> simp at hi
    · have hci := hx.cv _ (nth_mem (l := x.cell) (i := i) (by rw [hx.c6]; omega))
      have hki := hx.kv _ (nth_mem (l := x.kind) (i := i) (by rw [hx.k6]; omega))
      have hci' : 0 ≤ nth x.cell i ∧ nth x.cell i ≤ 255 := hci
      have hki' : 0 ≤ nth x.kind i ∧ nth x.kind i ≤ 255 := hki
      have m0 := Int.tmod_nonneg (g.cells + 1) hci'.1
      have m1 := Int.tmod_nonneg (g.kinds.length : Int) hki'.1
      have m2 := Int.tmod_lt_of_pos (nth x.kind i) (show (0 : Int) < g.kinds.length by omega)
      have m3 := Int.tmod_nonneg 2 (show (0 : Int) ≤ i by omega)
      have m4 := Int.tmod_lt_of_pos (i : Int) (show (0 : Int) < 2 by decide)
      have hrc := rc i (by omega)
      have hrk := rk i (by omega)
      have hsu := madeAt_succ g x i
      have hal := madeAt_len g x i
      rw [hcz] at hal
      unfold atStep at hsu
      (repeat (first | with_reducible (first | refine wL fun _ => ?_ | refine wD fun _ => ?_ | refine wE ?_ | refine adrZ.go ?_) | simp [go_sem, hel, e0, e3, e4, hrc, hrk]))
      refine aIf.mkL (fun hc => ?_) (fun hc => ?_) <;> simp at hc
      · have hc1 := hc.1
        rw [if_pos hc1] at hsu
        (repeat (first | with_reducible (first | refine wL fun _ => ?_ | refine wD fun _ => ?_ | refine wE ?_ | refine adrZ.go ?_) | simp [go_sem, hel, e0, e3, e4, hrc, hrk, hal]))
        refine ALoop.start (hrec (d - 1) (by omega) (i + 1) (by omega)) ?_ (by simp)
        simp [go_sem, Wk_eq, hsu, rb, hbl]
      · have hc1 : ¬ (nth x.cell i).tmod (g.cells + 1) < g.cells := fun h => hkne (hc h)
        rw [if_neg hc1] at hsu
        (repeat (first | with_reducible (first | refine wL fun _ => ?_ | refine wD fun _ => ?_ | refine wE ?_ | refine adrZ.go ?_) | simp [go_sem, hel, e0, e3, e4, hrc, hrk]))
        refine ALoop.start (hrec (d - 1) (by omega) (i + 1) (by omega)) ?_ (by simp)
        simp [go_sem, Wk_eq, hsu, rb, hbl]
    · obtain rfl : i = 6 := by omega
      have hal := madeAt_len g x 6
      rw [hcz] at hal
      have hqe : q = ⟨madeAt g x 6, handL g x 0 (min g.kinds.length 2), handL g x 1 (min g.kinds.length 2), x.rights.tmod pw, x.side.tmod 2⟩ := by rw [hq, ← hpw]; rfl
      clear hq
      have hq := hqe
      (repeat (first | with_reducible (first | refine wL fun _ => ?_ | refine wD fun _ => ?_ | refine wE ?_ | refine adrZ.go ?_) | simp [go_sem, hel, e0, e3, e4]))
      refine ALoop.unroll ?_
      (repeat (first | with_reducible (first | refine wL fun _ => ?_ | refine wD fun _ => ?_ | refine wE ?_ | refine adrZ.go ?_) | simp [go_sem, hel, e0, e3, e4]))
      have hz0 := handL_zero g x 0
      refine ALoop.start (ALoop.ind (α := Nat) (fun k => ⟨[(2, .ref 0 0 9 0 0), (3, .ref 1 0 18 0 0), (4, .ref 2 0 5 0 0), (5, .ref 19 0 5 0 0), (8, .v (.int .i64 0)), (9, .v (.int .i64 k))], [(0, .rows true 0 9 [eg]), (1, .rows true 0 18 [er]), (2, .rows true 0 5 [[AV.nils, AV.nils, AV.nils, .v (.int .i64 0), .v (.int .i64 0)]]), (6, .rows true 0 1 ((madeAt g x 6).map encI)), (19, .rows true 0 5 [[.sl 6 0 1 0 gc, .sl 21 0 1 0 g.kinds.length, AV.nils, .v (.int .i64 (x.rights.tmod pw)), .v (.int .i64 (x.side.tmod 2))]]), (21, .rows true 0 1 ((handL g x 0 k).map encI))], 22⟩)
        (fun d k => k + d = min g.kinds.length 2) ?_ (min g.kinds.length 2) 0 ?_) ?_ ?_
      · rintro d k j1 hrec0
        (repeat (first | with_reducible (first | refine wL fun _ => ?_ | refine wD fun _ => ?_ | refine wE ?_ | refine adrZ.go ?_) | simp [go_sem, hel, e0, e3, e4]))
        refine aIf.mkL (fun hj => ?_) (fun hj => ?_) <;> simp at hj
        · have hk2 : k < 2 := by omega
          have hkk : k < g.kinds.length := by omega
          have hhv := hx.hv _ (nth_mem (l := x.hand) (i := 2 * 0 + k) (by rw [hx.h4]; omega))
          have hh1 : 0 ≤ nth x.hand (2 * 0 + k) ∧ nth x.hand (2 * 0 + k) ≤ 255 := hhv
          have hrh := rh (2 * 0 + k) (by omega)
          have m0 := Int.tmod_nonneg 3 hh1.1
          have hsu := handL_succ g x 0 k
          have hsk := handL_skip g x 0 k
          have hhl := handL_len g x 0 k
          have hV : handV g x 0 k = if (nth g.kinds k).keep = true then (if 250 < nth x.hand (2 * 0 + k) then 8 else (nth x.hand (2 * 0 + k)).tmod 3) else 0 := rfl
          simp only [Nat.mul_zero, Nat.zero_add, Nat.mul_one] at hrh hh1 m0 hV
          (repeat (first | with_reducible (first | refine wL fun _ => ?_ | refine wD fun _ => ?_ | refine wE ?_ | refine adrZ.go ?_) | simp [go_sem, hel, e0, e3, e4, hkk]))
          refine aIf.mkL (fun hkeep => ?_) (fun hkeep => ?_)
          · rw [if_pos hkeep] at hV
            have eI : ((k : Int)).toNat = k := by omega
            have eI2 : (k : Int) < 4 := by omega
            (repeat (first | with_reducible (first | refine wL fun _ => ?_ | refine wD fun _ => ?_ | refine wE ?_ | refine adrZ.go ?_) | simp [go_sem, hel, e0, e3, e4, hkk, hrh, hhl, eI, eI2]))
            refine aIf.mkL (fun hbig => ?_) (fun hbig => ?_) <;> simp at hbig
            · rw [if_pos hbig] at hV
              rw [hV] at hsu
              (repeat (first | with_reducible (first | refine wL fun _ => ?_ | refine wD fun _ => ?_ | refine wE ?_ | refine adrZ.go ?_) | simp [go_sem, hel, e0, e3, e4, hkk, hrh, hhl]))
              refine ALoop.start (hrec0 (d - 1) (by omega) (k + 1) (by omega)) ?_ (by simp)
              simp [go_sem, Wk_eq, hsu, rb, hbl]
            · rw [if_neg (by omega)] at hV
              rw [hV] at hsu
              (repeat (first | with_reducible (first | refine wL fun _ => ?_ | refine wD fun _ => ?_ | refine wE ?_ | refine adrZ.go ?_) | simp [go_sem, hel, e0, e3, e4, hkk, hrh, hhl]))
              refine ALoop.start (hrec0 (d - 1) (by omega) (k + 1) (by omega)) ?_ (by simp)
              simp [go_sem, Wk_eq, hsu, rb, hbl]
          · rw [if_neg (by simpa using hkeep)] at hV
            have hsk' := hsk hV
            (repeat (first | with_reducible (first | refine wL fun _ => ?_ | refine wD fun _ => ?_ | refine wE ?_ | refine adrZ.go ?_) | simp [go_sem, hel, e0, e3, e4]))
            refine ALoop.start (hrec0 (d - 1) (by omega) (k + 1) (by omega)) ?_ (by simp)
            simp [go_sem, Wk_eq, hsk', rb, hbl]
        · have hkm : k = min g.kinds.length 2 := by omega
          subst hkm
          (repeat (first | with_reducible (first | refine wL fun _ => ?_ | refine wD fun _ => ?_ | refine wE ?_ | refine adrZ.go ?_) | simp [go_sem, hel, e0, e3, e4]))
          refine ALoop.unroll ?_
          (repeat (first | with_reducible (first | refine wL fun _ => ?_ | refine wD fun _ => ?_ | refine wE ?_ | refine adrZ.go ?_) | simp [go_sem, hel, e0, e3, e4]))
          have hz1 := handL_zero g x 1
          refine ALoop.start (ALoop.ind (α := Nat) (fun k => ⟨[(2, .ref 0 0 9 0 0), (3, .ref 1 0 18 0 0), (4, .ref 2 0 5 0 0), (5, .ref 19 0 5 0 0), (8, .v (.int .i64 1)), (9, .v (.int .i64 k))], [(0, .rows true 0 9 [eg]), (1, .rows true 0 18 [er]), (2, .rows true 0 5 [[AV.nils, AV.nils, AV.nils, .v (.int .i64 0), .v (.int .i64 0)]]), (6, .rows true 0 1 ((madeAt g x 6).map encI)), (19, .rows true 0 5 [[.sl 6 0 1 0 gc, .sl 21 0 1 0 g.kinds.length, .sl 22 0 1 0 g.kinds.length, .v (.int .i64 (x.rights.tmod pw)), .v (.int .i64 (x.side.tmod 2))]]), (21, .rows true 0 1 ((handL g x 0 (min g.kinds.length 2)).map encI)), (22, .rows true 0 1 ((handL g x 1 k).map encI))], 23⟩)
            (fun d k => k + d = min g.kinds.length 2) ?_ (min g.kinds.length 2) 0 ?_) ?_ ?_
          · rintro d k j1 hrec1
            (repeat (first | with_reducible (first | refine wL fun _ => ?_ | refine wD fun _ => ?_ | refine wE ?_ | refine adrZ.go ?_) | simp [go_sem, hel, e0, e3, e4]))
            refine aIf.mkL (fun hj => ?_) (fun hj => ?_) <;> simp at hj
            · have hk2 : k < 2 := by omega
              have hkk : k < g.kinds.length := by omega
              have hhv := hx.hv _ (nth_mem (l := x.hand) (i := 2 * 1 + k) (by rw [hx.h4]; omega))
              have hh1 : 0 ≤ nth x.hand (2 * 1 + k) ∧ nth x.hand (2 * 1 + k) ≤ 255 := hhv
              have hrh := rh (2 * 1 + k) (by omega)
              have m0 := Int.tmod_nonneg 3 hh1.1
              have hsu := handL_succ g x 1 k
              have hsk := handL_skip g x 1 k
              have hhl := handL_len g x 1 k
              have hV : handV g x 1 k = if (nth g.kinds k).keep = true then (if 250 < nth x.hand (2 * 1 + k) then 8 else (nth x.hand (2 * 1 + k)).tmod 3) else 0 := rfl
              simp only [Nat.mul_zero, Nat.zero_add, Nat.mul_one] at hrh hh1 m0 hV
              (repeat (first | with_reducible (first | refine wL fun _ => ?_ | refine wD fun _ => ?_ | refine wE ?_ | refine adrZ.go ?_) | simp [go_sem, hel, e0, e3, e4, hkk]))
              refine aIf.mkL (fun hkeep => ?_) (fun hkeep => ?_)
              · rw [if_pos hkeep] at hV
                have eI : (2 + (k : Int)).toNat = 2 + k := by omega
                have eI2 : 2 + (k : Int) < 4 := by omega
                (repeat (first | with_reducible (first | refine wL fun _ => ?_ | refine wD fun _ => ?_ | refine wE ?_ | refine adrZ.go ?_) | simp [go_sem, hel, e0, e3, e4, hkk, hrh, hhl, eI, eI2]))
                refine aIf.mkL (fun hbig => ?_) (fun hbig => ?_) <;> simp at hbig
                · rw [if_pos hbig] at hV
                  rw [hV] at hsu
                  (repeat (first | with_reducible (first | refine wL fun _ => ?_ | refine wD fun _ => ?_ | refine wE ?_ | refine adrZ.go ?_) | simp [go_sem, hel, e0, e3, e4, hkk, hrh, hhl]))
                  refine ALoop.start (hrec1 (d - 1) (by omega) (k + 1) (by omega)) ?_ (by simp)
                  simp [go_sem, Wk_eq, hsu, rb, hbl]
                · rw [if_neg (by omega)] at hV
                  rw [hV] at hsu
                  (repeat (first | with_reducible (first | refine wL fun _ => ?_ | refine wD fun _ => ?_ | refine wE ?_ | refine adrZ.go ?_) | simp [go_sem, hel, e0, e3, e4, hkk, hrh, hhl]))
                  refine ALoop.start (hrec1 (d - 1) (by omega) (k + 1) (by omega)) ?_ (by simp)
                  simp [go_sem, Wk_eq, hsu, rb, hbl]
              · rw [if_neg (by simpa using hkeep)] at hV
                have hsk' := hsk hV
                (repeat (first | with_reducible (first | refine wL fun _ => ?_ | refine wD fun _ => ?_ | refine wE ?_ | refine adrZ.go ?_) | simp [go_sem, hel, e0, e3, e4]))
                refine ALoop.start (hrec1 (d - 1) (by omega) (k + 1) (by omega)) ?_ (by simp)
                simp [go_sem, Wk_eq, hsk', rb, hbl]
            · have hkm : k = min g.kinds.length 2 := by omega
              subst hkm
              (repeat (first | with_reducible (first | refine wL fun _ => ?_ | refine wD fun _ => ?_ | refine wE ?_ | refine adrZ.go ?_) | simp [go_sem, hel, e0, e3, e4]))
              (repeat (first | with_reducible (first | refine wL fun _ => ?_ | refine wD fun _ => ?_ | refine wE ?_ | refine adrZ.go ?_) | simp [go_sem, hel, e0, e3, e4]))
              refine ALoop.unroll ?_
              (repeat (first | with_reducible (first | refine wL fun _ => ?_ | refine wD fun _ => ?_ | refine wE ?_ | refine adrZ.go ?_) | simp [go_sem, hel, e0, e3, e4]))
              rw [hq]
              exact ⟨leV_frz rfl (by simp [hal]) (by simp [noH]) (by simp [List.take_of_length_le, hal]), leV_frz rfl (by simp [handL_len]) (by simp [noH]) (by simp [List.take_of_length_le, handL_len]), leV_frz rfl (by simp [handL_len]) (by simp [noH]) (by simp [List.take_of_length_le, handL_len]), .refl _, .refl _⟩
          · omega
          · simp [go_sem, Wk_eq, rb, hbl, hz1]
          · simp
      · omega
      · simp [go_sem, Wk_eq, rb, hbl, hz0]
      · simp
  · rfl
  · simp [go_sem, Wk_eq, rb, hbl, hz, hcz]
  · simp
end Go.Av
end
section
set_option linter.unusedSimpArgs false
set_option linter.unusedVariables false
open Go Go.Proofs
set_option maxRecDepth 20000
set_option maxHeartbeats 4000000
namespace Go.Av
theorem R6Walk_pure (g : GameD) (hg : GOk g) (p : PosD) (hp : POk g p) (picks : List Int) (hl : picks.length ≤ 4294967296) (hk : ∀ k ∈ picks, 0 ≤ k ∧ k ≤ 9223372036854775807) :
    Pure Tryz.prog 20 [.agg (encGame g), .agg (encPos p), encIs picks] (encPs (walkP g p picks)) := by
  refine Pure.of (ACallP.of_awp (by kernel_rfl) Tryz.func20 rfl rfl (Nat.le_of_ble_eq_true rfl) (by kernel_rfl) ?_)
  generalize hR : walkP g p picks = R
  (repeat (first | with_reducible (first | refine wL fun _ => ?_ | refine wD fun _ => ?_ | refine wE ?_ | refine adrZ.go ?_) | simp [go_sem]))
  refine ALoop.start (ALoop.ind (α := Nat × List PosD × PosD) (fun a => ⟨[(2, encIs picks), (3, .ref 0 0 9 0 0), (4, .ref 1 0 5 0 0), (7, .sl 2 a.2.1.length 5 0 (a.2.1.length + 1)), (8, .v (.int .i64 a.1))], [(0, .rows true 0 9 [encGame g]), (1, .rows true 0 5 [encPos a.2.2]), (2, .rows true a.2.1.length 5 ((a.2.1 ++ [a.2.2]).map encPos))], 3⟩)
    (fun d a => a.1 + d = picks.length ∧ a.2.1.length = a.1 ∧ POk g a.2.2 ∧ R = a.2.1 ++ walkP g a.2.2 (picks.drop a.1)) ?_ picks.length (0, [], p) ?_) ?_ ?_
  · rintro d ⟨i, pre, cur⟩ ⟨i1, i2, i3, i4⟩ hrec
    simp only at i1 i2 i3 i4
    (repeat (first | with_reducible (first | refine wL fun _ => ?_ | refine wD fun _ => ?_ | refine wE ?_ | refine adrZ.go ?_) | simp [go_sem]))
    refine aIf.mkL (fun hi => ?_) (fun hi => ?_) <;> simp at hi
    · have hM := R6Moves_pure g hg cur i3
      have hki := hk _ (nth_mem hi)
      have hml := movesP_len hg i3
      have hmo := movesP_ok hg i3
      rw [dropG_cons hi, walkP] at i4
      generalize movesP g cur = l at *
      (repeat (first | with_reducible (first | refine wL fun _ => ?_ | refine wD fun _ => ?_ | refine wE ?_ | refine adrZ.go ?_) | simp [go_sem]))
      refine ACallP.plain hM (by simp [go_sem]) ?_
      (repeat (first | with_reducible (first | refine wL fun _ => ?_ | refine wD fun _ => ?_ | refine wE ?_ | refine adrZ.go ?_) | simp [go_sem]))
      by_cases hz : l = []
      · rw [if_pos hz] at i4
        subst hz
        (repeat (first | with_reducible (first | refine wL fun _ => ?_ | refine wD fun _ => ?_ | refine wE ?_ | refine adrZ.go ?_) | simp [go_sem]))
        rw [i4]
        (refine leV_frz rfl (by simp) (by simp [noH, upd]) ?_; first | (simp [go_sem]; done) | (simp [go_sem]; exact List.take_of_length_le (by simp)))
      · rw [if_neg hz] at i4
        have hlp : 0 < l.length := List.length_pos_iff.2 hz
        have e1 : (nth picks i).tmod l.length = (nth picks i).emod l.length := Int.tmod_eq_emod_of_nonneg hki.1
        have e2 : 0 ≤ (nth picks i).emod l.length := Int.emod_nonneg _ (by omega)
        have e3 : (nth picks i).emod l.length < l.length := Int.emod_lt_of_pos _ (by omega)
        generalize (nth picks i).emod l.length = j at *
        have hjl : j.toNat < l.length := by omega
        (repeat (first | with_reducible (first | refine wL fun _ => ?_ | refine wD fun _ => ?_ | refine wE ?_ | refine adrZ.go ?_) | simp [go_sem, hi, hz, e1, hjl]))
        (refine aIf.mkL (fun hF => by first | omega | (simp at hF; omega)) (fun hF => ?_); clear hF)
        (repeat (first | with_reducible (first | refine wL fun _ => ?_ | refine wD fun _ => ?_ | refine wE ?_ | refine adrZ.go ?_) | simp [go_sem, hjl]))
        refine ALoop.start (hrec (d - 1) (by omega) (i + 1, pre ++ [cur], nth l j.toNat) ⟨by simp only; omega, by simp; omega, (hmo _ (nth_mem hjl)).1, by simpa using i4⟩) ?_ (by simp)
        simp [go_sem, Wk_eq]
    · rw [List.drop_eq_nil_of_le hi, walkP] at i4
      (repeat (first | with_reducible (first | refine wL fun _ => ?_ | refine wD fun _ => ?_ | refine wE ?_ | refine adrZ.go ?_) | simp [go_sem]))
      rw [i4]
      (refine leV_frz rfl (by simp) (by simp [noH, upd]) ?_; first | (simp [go_sem]; done) | (simp [go_sem]; exact List.take_of_length_le (by simp)))
  · exact ⟨by simp, rfl, hp, by simp [hR]⟩
  · simp [go_sem, Wk_eq]
  · simp
structure Raw6 where
  g : RawG
  p : RawP
  picks : List Int
structure Raw6Ok (x : Raw6) : Prop where
  g : RawOk x.g
  p : RawPOk x.p
  k : ∀ n ∈ x.picks, U8 n
  lk : x.picks.length ≤ 1099511627776
  l0 : x.g.k0.length ≤ 1099511627776
  l1 : x.g.k1.length ≤ 1099511627776
  lc : x.g.c.length ≤ 1099511627776
def encRaw6 (x : Raw6) : List AV := encRaw x.g ++ (encRawP x.p ++ [encUs x.picks])
def game6 (x : Raw6) : GameD := madeG x.g
def walk6 (x : Raw6) : List PosD := walkP (game6 x) (madePos (game6 x) x.p) (x.picks.take 6)
def pos6 (x : Raw6) : PosD := nth (walk6 x) ((walk6 x).length - 1)
theorem game6_ok {x : Raw6} (hx : Raw6Ok x) : GOk (game6 x) := madeG_ok hx.g
theorem pos6_ok {x : Raw6} (hx : Raw6Ok x) : POk (game6 x) (pos6 x) := by
  have hne := List.length_pos_iff.2 (walkP_ne (game6 x) (madePos (game6 x) x.p) (x.picks.take 6))
  exact walkP_ok (game6_ok hx) _ (madePos_ok (game6_ok hx) hx.p) _ (nth_mem (by unfold walk6; omega))
theorem R6Made_pure (x : Raw6) (hx : Raw6Ok x) : Pure Tryz.prog 6 [.agg (encRaw6 x)] (.tup [.agg (encGame (game6 x)), .agg (encPos (pos6 x))]) := by
  refine Pure.of (ACallP.of_awp (by kernel_rfl) Tryz.func6 rfl rfl (Nat.le_of_ble_eq_true rfl) (by kernel_rfl) ?_)
  have hg := game6_ok hx
  have hG := R3Made_pure x.g hx.g hx.lc hx.l0 hx.l1
  have hP := R4Made_pure (game6 x) hg x.p hx.p
  have hlk := hx.lk
  have hW := R6Walk_pure (game6 x) hg (madePos (game6 x) x.p) (madePos_ok hg hx.p) (x.picks.take 6) (by simp; omega) (fun k hk => by have := hx.k k (List.mem_of_mem_take hk); have h0 := this.1; have h1 := this.2; omega)
  have hwl := walkP_len (game6 x) (x.picks.take 6) (madePos (game6 x) x.p)
  have hwp := List.length_pos_iff.2 (walkP_ne (game6 x) (madePos (game6 x) x.p) (x.picks.take 6))
  rw [show walkP (game6 x) (madePos (game6 x) x.p) (x.picks.take 6) = walk6 x from rfl] at hW hwl hwp
  have hq : pos6 x = nth (walk6 x) ((walk6 x).length - 1) := rfl
  rw [show madeG x.g = game6 x from rfl] at hG
  obtain ⟨eg, heg⟩ : ∃ eg, eg = encGame (game6 x) := ⟨_, rfl⟩
  have hegl : eg.length = 9 := by rw [heg]; rfl
  have hegb : ∀ n, (∀ c ∈ eg, Bel n c) = True := fun n => by rw [heg]; simp [go_sem]
  rw [← heg] at hG hP hW ⊢
  generalize walk6 x = w at *
  generalize pos6 x = q at *
  unfold encRaw6
  have hrow := rawRow hx.p
  obtain ⟨er, her⟩ : ∃ er, er = encRawP x.p := ⟨_, rfl⟩
  rw [← her] at hrow hP ⊢
  obtain ⟨rl, _, _, _, _, _, rb⟩ := hrow
  obtain ⟨er1, her1⟩ : ∃ er1, er1 = encRaw x.g := ⟨_, rfl⟩
  have er1l : er1.length = 12 := by rw [her1]; rfl
  have er1b : ∀ n, (∀ c ∈ er1, Bel n c) = True := fun n => by rw [her1]; simp [go_sem]
  rw [← her1] at hG ⊢
  have hc30 : cel (er1 ++ (er ++ [AV.lst 1 (x.picks.map encU)])) 30 = .lst 1 (x.picks.map encU) := by
    unfold cel
    rw [List.getD_eq_getElem?_getD, List.getElem?_append_right (by omega), List.getElem?_append_right (by omega)]
    simp [er1l, rl]
  have hd12 : List.take 18 (List.drop 12 (er1 ++ (er ++ [AV.lst 1 (x.picks.map encU)]))) = er := by
    rw [← er1l, List.drop_left, ← rl, List.take_left]
  (repeat (first | with_reducible (first | refine wL fun _ => ?_ | refine wD fun _ => ?_ | refine wE ?_ | refine adrZ.go ?_) | simp [go_sem, rl, rb, er1l, er1b, hegl, hegb]))
  refine ACallP.plain hG (by simp [go_sem, er1b]) ?_
  (repeat (first | with_reducible (first | refine wL fun _ => ?_ | refine wD fun _ => ?_ | refine wE ?_ | refine adrZ.go ?_) | simp [go_sem, rl, rb, er1l, er1b, hegl, hegb, hc30]))
  obtain ⟨pk, hpk⟩ : ∃ pk : Nat → List Int, ∀ i, pk i = x.picks.take i := ⟨_, fun _ => rfl⟩
  have htl : ∀ i, i ≤ x.picks.length → (pk i).length = i := fun i hi => by rw [hpk]; simp; omega
  have hts : ∀ i, i < x.picks.length → pk (i + 1) = pk i ++ [nth x.picks i] := fun i hi => by rw [hpk, hpk, List.take_add_one, List.getElem?_eq_getElem hi, nth_eq _ _ hi]; rfl
  have hp0 : pk 0 = [] := by rw [hpk]; rfl
  rw [← hpk] at hW
  refine ALoop.start (ALoop.ind (α := Nat) (fun i => ⟨[(1, .ref 0 0 31 0 0), (2, .ref 1 0 9 0 0), (3, .ref 2 0 5 0 0), (4, .ref 3 0 9 0 0), (5, .sl 4 i 1 0 i), (6, .v (.int .i64 i))],
      [(0, .rows true 0 31 [er1 ++ (er ++ [AV.lst 1 (x.picks.map encU)])]), (1, .rows true 0 9 [[.v (.int .i64 0), AV.nils, AV.nils, AV.nils, .v (.int .i64 0), .v (.bool false), AV.nils, .v (.int .i64 0), .v (.int .i64 0)]]),
       (2, .rows true 0 5 [[AV.nils, AV.nils, AV.nils, .v (.int .i64 0), .v (.int .i64 0)]]), (3, .rows true 0 9 [eg]), (4, .rows true i 1 ((pk i).map encI))], 5⟩)
    (fun d i => i + d = min x.picks.length 6) ?_ (min x.picks.length 6) 0 ?_) ?_ ?_
  · rintro d i i1 hrec
    (repeat (first | with_reducible (first | refine wL fun _ => ?_ | refine wD fun _ => ?_ | refine wE ?_ | refine adrZ.go ?_) | simp [go_sem, rl, rb, er1l, er1b, hegl, hegb, hc30]))
    refine aIf.mkL (fun hi => ?_) (fun hi => ?_) <;> simp at hi
    · have hil : i < x.picks.length := by omega
      have hki := hx.k _ (nth_mem hil)
      have hk0 := hki.1
      have hk1 := hki.2
      have e1 := htl i (by omega)
      have e2 := hts i hil
      (repeat (first | with_reducible (first | refine wL fun _ => ?_ | refine wD fun _ => ?_ | refine wE ?_ | refine adrZ.go ?_) | simp [go_sem, rl, er1l, hc30, hil, e1]))
      refine ALoop.start (hrec (d - 1) (by omega) (i + 1) (by omega)) ?_ (by simp)
      simp [go_sem, Wk_eq, e2, rb, er1b, hegb]
    · have hil : i = min x.picks.length 6 := by omega
      have e1 := htl i (by omega)
      have e2 : pk i = pk 6 := by rw [hpk, hpk, hil, List.take_eq_take_iff]; omega
      rw [← e2] at hW
      (repeat (first | with_reducible (first | refine wL fun _ => ?_ | refine wD fun _ => ?_ | refine wE ?_ | refine adrZ.go ?_) | simp [go_sem, rl, rb, er1l, er1b, hegl, hegb, hd12]))
      try ((with_reducible refine adrZ.go ?_); (try simp [go_sem]))
      refine dCall.plain hP (by simp [go_sem, hegb, rb]) ?_
      (repeat (first | with_reducible (first | refine wL fun _ => ?_ | refine wD fun _ => ?_ | refine wE ?_ | refine adrZ.go ?_) | simp [go_sem, rl, rb, er1l, er1b, hegl, hegb]))
      try ((with_reducible refine adrZ.go ?_); (try simp [go_sem]))
      refine dCall.frz [.agg eg, .agg (encPos (madePos (game6 x) x.p)), encIs (pk i)] _ [4] [(4, some (.rows false i 1 ((pk i).map encI)))] hW ?_ ?_ (by simp [go_sem, hegb]) ?_
      · intro p hp
        simp only [List.mem_singleton] at hp
        subst hp
        exact ⟨by simp, i, 1, _, rfl, by simp [upd]⟩
      · intro h₁ hS
        have h7 := hS 4 (by simp)
        simp [upd] at h7
        exact .cons (.refl _) (.cons (.refl _) (.cons (leV_frz h7.symm (by simp [e1]) (by simp [applyW, upd]) (by rw [List.drop_zero, List.take_of_length_le (by simp [e1])])) .nil))
      · have h6 : (x.picks.take 6).length ≤ 6 := by simp; omega
        have hw7 : w.length ≤ 7 := by omega
        have hwi : ((w.length : Int) - 1).toNat = w.length - 1 := by omega
        have hwn : w.length - 1 < w.length := by omega
        rw [hq]
        (repeat (first | with_reducible (first | refine wL fun _ => ?_ | refine wD fun _ => ?_ | refine wE ?_ | refine adrZ.go ?_) | simp [go_sem, rl, rb, er1l, er1b, hegl, hegb, hwi, hwn]))
  · omega
  · simp [go_sem, Wk_eq, rb, er1b, hegb, hp0]
  · simp
end Go.Av
end
section
set_option linter.unusedSimpArgs false
set_option linter.unusedVariables false
open Go Go.Proofs
set_option maxRecDepth 20000
set_option maxHeartbeats 4000000
namespace Go.Av
/-- what the lists of a code are -/
theorem sideP_nth (g : GameD) (s : Int) {k c : Nat} (hk : k < g.kinds.length) (hc : c < g.cells.toNat) : nth (nth (sideP g s) k) c = kindP g.board s (nth g.kinds k).progs c := by
  unfold sideP
  rw [nth_map _ _ _ hk]
  have hc' : c < (List.range g.board.cells.toNat).length := by rw [List.length_range]; exact hc
  show nth ((List.range g.board.cells.toNat).map fun (c : Nat) => kindP g.board s (nth g.kinds k).progs c) c = _
  rw [nth_map _ _ _ hc', nth_eq _ _ hc', List.getElem_range]
theorem sideP_nth' (g : GameD) (s : Int) {k c : Nat} (hk : k < g.kinds.length) (hc : c < g.cells.toNat) : nth (nth (sideP g s) k) c = kindP g.board s (nth g.kinds k).progs c := sideP_nth g s hk hc
/-
  rw [nth_map _ _ _ (by simpa [GameD.board] using hc), nth_eq _ _ (by simpa [GameD.board] using hc), List.getElem_range]
-/
theorem kindP_acts {g : GameD} (hg : GOk g) (s : Int) {k : KindD} (hk : k ∈ g.kinds) (c : Int) : ActsLe 1048576 (kindP g.board s k.progs c) := by
  intro w hw
  obtain ⟨p, hp, hw⟩ := List.mem_flatMap.1 hw
  have := pathsK_acts hg.board hg.c9 s p c p.length (Nat.le_refl _) w (by unfold pathsK; rwa [List.take_length])
  have := (hg.pr k hk p hp).len
  omega
/-- a code whose lists fit -/
structure FitC (g : GameD) (c : CodeD) : Prop where
  sh : ShapeOk g c
  len : ∀ l ∈ c.1 ++ c.2, ∀ x ∈ l, x.length ≤ 1099511627776 ∧ ActsLe 1048576 x
theorem fit_codeP {g : GameD} (hg : GOk g) : FitC g (codeP g) := by
  refine ⟨shape_codeP hg, ?_⟩
  have h : ∀ s, ∀ l ∈ sideP g s, ∀ x ∈ l, x.length ≤ 1099511627776 ∧ ActsLe 1048576 x := by
    intro s l hl x hx
    obtain ⟨k, hk, rfl⟩ := List.mem_map.1 hl
    obtain ⟨c, _, rfl⟩ := List.mem_map.1 hx
    exact ⟨by have := kindP_len hg s hk (c : Nat); omega, kindP_acts hg s hk _⟩
  intro l hl
  rcases List.mem_append.1 hl with hl | hl
  · exact h 0 l hl
  · exact h 1 l hl
theorem FitC.side {g : GameD} {c : CodeD} (h : FitC g c) {s : Nat} (hs : s < 2) : ∃ l, cel [encSide c.1, encSide c.2] s = encSide l ∧ l.length = g.kinds.length ∧ (∀ x ∈ l, (x.length : Int) = g.cells) ∧ ∀ x ∈ l, ∀ y ∈ x, y.length ≤ 1099511627776 ∧ ActsLe 1048576 y := by
  rcases (show s = 0 ∨ s = 1 by omega) with rfl | rfl
  · exact ⟨_, rfl, h.sh.l1, h.sh.c1, fun x hx => h.len x (by simp [hx])⟩
  · exact ⟨_, rfl, h.sh.l2, h.sh.c2, fun x hx => h.len x (by simp [hx])⟩
/-! ### GenPaths -/
theorem libL_slide (d e k r : Int) (i : Nat) : countOp (nth (libL d e k r) i) 2 ≤ 1 := by
  rcases Nat.lt_or_ge i 16 with h | h
  · have : ∀ p ∈ libL d e k r, countOp p 2 ≤ 1 := by
      intro p hp
      simp only [libL, List.mem_cons, List.not_mem_nil, or_false] at hp
      rcases hp with rfl | rfl | rfl | rfl | rfl | rfl | rfl | rfl | rfl | rfl | rfl | rfl | rfl | rfl | rfl | rfl <;> simp [countOp]
    exact this _ (nth_mem h)
  · have e : nth (libL d e k r) i = [] := by
      unfold nth
      rw [List.getD_eq_getElem?_getD, List.getElem?_eq_none (by exact h)]; rfl
    rw [e]
    simp [countOp]
theorem fitP_slide {dirs kinds rights : Int} {p : List (Int × Int)} (h : countOp p 2 ≤ 1) : countOp (fitP dirs kinds rights p) 2 ≤ 1 := by
  unfold fitP
  split
  · simp [countOp]
  · exact Nat.le_trans (fit_count 2 p) h
theorem madeG_slide (x : RawG) : OneSlide (madeG x) := by
  intro k hk p hp
  obtain ⟨i, _, rfl⟩ := List.mem_map.1 hk
  obtain ⟨n, _, rfl⟩ := List.mem_map.1 hp
  exact fitP_slide (libL_slide _ _ _ _ _)
theorem raw6_len {x : Raw6} (hx : Raw6Ok x) : (encRaw6 x).length = 31 := by
  obtain ⟨rl, _, _, _, _, _, rb⟩ := rawRow hx.p
  simp [encRaw6, encRaw, rl]
theorem raw6_bel {x : Raw6} (hx : Raw6Ok x) (n : Nat) : (∀ c ∈ encRaw6 x, Bel n c) = True := by
  obtain ⟨rl, _, _, _, _, _, rb⟩ := rawRow hx.p
  refine eq_true ?_
  intro c hc
  unfold encRaw6 at hc
  rcases List.mem_append.1 hc with h | h
  · have : (∀ c ∈ encRaw x.g, Bel n c) = True := by simp [go_sem]
    exact of_eq_true this c h
  · rcases List.mem_append.1 h with h | h
    · exact of_eq_true (rb n) c h
    · simp only [List.mem_singleton] at h
      subst h
      simp [go_sem]
end Go.Av
end
section
set_option linter.unusedSimpArgs false
set_option linter.unusedVariables false
set_option maxRecDepth 8000
open Go Go.Proofs
namespace Go.Av
theorem doA_ok {g : GameD} (hg : GOk g) {side : Int} (hs : side = 0 ∨ side = 1) {t : TkD} (ht : POk g t.p) {x : ActD} (hx : ActOk g.cells g.kinds.length g.rights x) (h : (doA g side t x).2 = true) : POk g (doA g side t x).1.p := by
  obtain ⟨op, a, b⟩ := x
  unfold ActOk at hx
  simp only at hx
  rcases (show op = 3 ∨ op = 4 ∨ op = 5 ∨ op = 6 ∨ op = 7 ∨ op = 8 ∨ op = 9 ∨ op = 10 by omega) with rfl | rfl | rfl | rfl | rfl | rfl | rfl | rfl
  · exact ht
  · exact ht
  · exact ht
  · have hat := ht.at (i := a.toNat) (by omega)
    have hman := manOf_cases hat.1 hat.2 hg.k6
    have hdo : doA g side t (6, a, b) = takeA g side t a := rfl
    rw [hdo] at h ⊢
    unfold takeA at h ⊢
    simp only at h ⊢
    split
    · exact ht
    · rename_i hm
      rw [if_neg hm] at h
      split
      · rename_i hk
        rw [if_pos hk] at h
        simp only [decide_eq_true_eq] at h
        have hk1 : (manOf (nth t.p.at_ a.toNat)).1.toNat < g.kinds.length := by
          rcases hman with ⟨_, e⟩ | ⟨_, e1, e2, _⟩
          · rw [e] at hm
            simp at hm
            omega
          · omega
        have hh := ht.hand side
        have hv := hh.v _ (show (manOf (nth t.p.at_ a.toNat)).1.toNat < (t.p.hand side).length by rw [hh.len]; exact hk1)
        exact (ht.clr a).withHand side (hh.set _ ⟨by omega, h⟩ (fun _ => hk))
      · exact ht.clr a
  · have hdo : doA g side t (7, a, b) = pushA t a b := rfl
    rw [hdo]
    unfold pushA
    split
    · exact ht
    · have hat := ht.at (i := a.toNat) (by omega)
      exact (ht.setAt b.toNat hat).setAt a.toNat ⟨by omega, by omega⟩
  · exact ht
  · exact ht
  · have h0 := ht.r0
    have h1 := ht.r1
    have hr : (2 : Int) ^ g.rights.toNat ≤ 16 := by
      have r0 := hg.r0
      have r4 := hg.r4
      rcases (show g.rights.toNat = 0 ∨ g.rights.toNat = 1 ∨ g.rights.toNat = 2 ∨ g.rights.toNat = 3 ∨ g.rights.toNat = 4 by omega) with e | e | e | e | e <;> rw [e] <;> decide
    have r4 := hg.r4
    have hn := andNot_le h0 (show t.p.rights < 16 by omega) (show a.toNat < 4 by omega)
    exact ⟨ht.al, ht.av, ht.h0, ht.h1, hn.1, by simp only [doA]; exact Int.lt_of_le_of_lt hn.2 h1, ht.s⟩
theorem doAs_snoc (g : GameD) (side : Int) (t : TkD) (l : List ActD) (x : ActD) : doAs g side t (l ++ [x]) = (doAs g side t l).bind fun t => if (doA g side t x).2 = true then some (doA g side t x).1 else none := by
  rw [doAs_append]
  rfl
theorem doAs_none {g : GameD} {side : Int} {t : TkD} {l : List ActD} {i : Nat} (h : doAs g side t (l.take i) = none) : doAs g side t l = none := by
  conv => lhs; rw [← List.take_append_drop i l]
  rw [doAs_append, h]; rfl
theorem doAs_ok {g : GameD} (hg : GOk g) {side : Int} (hs : side = 0 ∨ side = 1) : ∀ {l : List ActD} {t u : TkD}, POk g t.p → (∀ a ∈ l, ActOk g.cells g.kinds.length g.rights a) → doAs g side t l = some u → POk g u.p
  | [], t, u, ht, _, h => by simp only [doAs, Option.some.injEq] at h; subst h; exact ht
  | x :: l, t, u, ht, hl, h => by
    simp only [doAs] at h
    split at h
    · rename_i hd
      exact doAs_ok hg hs (doA_ok hg hs ht (hl x (by simp)) hd) (fun a ha => hl a (by simp [ha])) h
    · cases h
theorem outW_fits {g : GameD} (hg : GOk g) {side : Int} (hs : side = 0 ∨ side = 1) {t : TkD} (ht : POk g t.p) {w : PathD} (hw : ∀ a ∈ w.acts, ActOk g.cells g.kinds.length g.rights a) {o : OutD} (h : outW g side t w = some o) : FitsP o.pos := by
  unfold outW at h
  obtain ⟨s, h1, h2⟩ := Option.bind_eq_some_iff.1 h
  unfold stW at h1
  obtain ⟨u, h3, h4⟩ := Option.map_eq_some_iff.1 h1
  have hu := (doAs_ok hg hs ht hw h3).fits hg
  subst h4
  unfold putS at h2
  split at h2
  · simp only [Option.some.injEq] at h2
    subst h2
    obtain ⟨a, b, c⟩ := hu
    exact ⟨by unfold Fits at a ⊢; simpa [stT] using a, b, c⟩
  · cases h2
end Go.Av
end
