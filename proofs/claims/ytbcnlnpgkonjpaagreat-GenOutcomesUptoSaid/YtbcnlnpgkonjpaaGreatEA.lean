/- Contracts, positions: Made of the reference. -/
import Derived.Test.YtbcnlnpgkonjpaaGreatM4
import Derived.Test.YtbcnlnpgkonjpaaGreatD9
import Derived.Test.YtbcnlnpgkonjpaaGreatDB
import Derived.Test.YtbcnlnpgkonjpaaGreatM7
import Derived.Test.YtbcnlnpgkonjpaaGreatDD
import Derived.Test.YtbcnlnpgkonjpaaGreatAvK
import Derived.Test.YtbcnlnpgkonjpaaGreatDN
section
set_option linter.unusedSimpArgs false
set_option linter.unusedVariables false
open Go Go.Proofs
set_option maxRecDepth 20000
set_option maxHeartbeats 4000000
namespace Go.Av
theorem R4Made_pure (g : GameD) (hg : GOk g) (x : RawP) (hx : RawPOk x) : Pure Tryz.prog 21 [.agg (encGame g), .agg (encRawP x)] (.agg (encPos (madePos g x))) := by
  refine Pure.of (ACallP.of_awp (by kernel_rfl) Tryz.func21 rfl rfl (Nat.le_of_ble_eq_true rfl) (by kernel_rfl) ?_)
  obtain ⟨q, hq⟩ : ∃ q, q = madePos g x := ⟨_, rfl⟩
  have hrow := rawRow hx
  obtain ⟨er, her⟩ : ∃ er, er = encRawP x := ⟨_, rfl⟩
  rw [← hq, ← her]
  rw [← her] at hrow
  obtain ⟨rl, rc, rk, rh, rr, rs, rb⟩ := hrow
  have c1 := hg.c1
  have c9 := hg.c9
  have k1 := hg.k1
  have k6 := hg.k6
  have hr0 := hg.r0
  have hr4 := hg.r4
  obtain ⟨gc, hgc⟩ : ∃ gc : Nat, g.cells = gc := ⟨g.cells.toNat, by omega⟩
  have hpow : (1 : Int) ≤ 2 ^ g.rights.toNat ∧ (2 : Int) ^ g.rights.toNat ≤ 16 := by
    rcases (show g.rights.toNat = 0 ∨ g.rights.toNat = 1 ∨ g.rights.toNat = 2 ∨ g.rights.toNat = 3 ∨ g.rights.toNat = 4 by omega) with h | h | h | h | h <;> rw [h] <;> decide
  have hrt := hx.r
  have hsd := hx.s
  obtain ⟨rt, hrt'⟩ : ∃ rt, x.rights = rt := ⟨_, rfl⟩
  obtain ⟨pw, hpw⟩ : ∃ pw : Int, (2 : Int) ^ g.rights.toNat = pw := ⟨_, rfl⟩
  have r1 : 0 ≤ x.rights ∧ x.rights ≤ 255 := hx.r
  have s1 : 0 ≤ x.side ∧ x.side ≤ 255 := hx.s
  have s0 := Int.tmod_nonneg 2 s1.1
  have s2 := Int.tmod_lt_of_pos x.side (show (0 : Int) < 2 by decide)
  rw [hpw] at hpow
  generalize heg : encGame g = eg at *
  have hel : eg.length = 9 := by rw [← heg]; rfl
  have hbl : ∀ n, (∀ c' ∈ eg, Bel n c') = True := fun n => by rw [← heg]; simp [go_sem]
  have e0 : cel eg 0 = .v (.int .i64 g.cells) := by rw [← heg]; rfl
  have e3 : cel eg 3 = .lst 3 (g.kinds.map encKind) := by rw [← heg]; rfl
  have e4 : cel eg 4 = .v (.int .i64 g.rights) := by rw [← heg]; rfl
  (repeat (first | ((with_reducible refine VC.mkL ?_ fun _ => ?_); · first | omega | exact True.intro | rfl) | ((with_reducible refine VC.mkD ?_ fun _ => ?_); · first | omega | exact True.intro | (intros; omega)) | ((with_reducible refine dEnd.mk ?_ ?_); · kernel_rfl) | (with_reducible refine adrZ.go ?_) | (simp [go_sem, hel, e0, e3, e4, rl, rr, rs, rb, hbl, hpw])))
  have hcz : g.cells.toNat = gc := by omega
  have hkne : g.kinds ≠ [] := by intro h; rw [h] at k1; simp at k1
  have hz : List.replicate gc [AV.v (.int .i64 0)] = (madeAt g x 0).map encI := by simp [madeAt, hcz, encI]
  refine ALoop.start (ALoop.ind (α := Nat) (fun i => ⟨[(2, .ref 0 0 9 0 0), (3, .ref 1 0 18 0 0), (4, .ref 2 0 5 0 0), (5, .ref 19 0 5 0 0), (6, .v (.int .i64 i))], [(0, .rows true 0 9 [eg]), (1, .rows true 0 18 [er]), (2, .rows true 0 5 [[AV.nils, AV.nils, AV.nils, .v (.int .i64 0), .v (.int .i64 0)]]), (6, .rows true 0 1 ((madeAt g x i).map encI)), (19, .rows true 0 5 [[.sl 6 0 1 0 gc, AV.nils, AV.nils, .v (.int .i64 (x.rights.tmod pw)), .v (.int .i64 (x.side.tmod 2))]])], 21⟩)
    (fun d i => i + d = 6) ?_ 6 0 ?_) ?_ ?_
  · rintro d i i1 hrec
    (repeat (first | ((with_reducible refine VC.mkL ?_ fun _ => ?_); · first | omega | exact True.intro | rfl) | ((with_reducible refine VC.mkD ?_ fun _ => ?_); · first | omega | exact True.intro | (intros; omega)) | ((with_reducible refine dEnd.mk ?_ ?_); · kernel_rfl) | (with_reducible refine adrZ.go ?_) | (simp [go_sem])))
    refine aIf.mkL (fun hi => ?_) (fun hi => ?_) <;> simp at hi
    · have hci := hx.cv _ (nth_mem (l := x.cell) (i := i) (by rw [hx.c6]; omega))
      have hki := hx.kv _ (nth_mem (l := x.kind) (i := i) (by rw [hx.k6]; omega))
      have hci' : 0 ≤ nth x.cell i ∧ nth x.cell i ≤ 255 := hci
      have hki' : 0 ≤ nth x.kind i ∧ nth x.kind i ≤ 255 := hki
      have m0 := Int.tmod_nonneg (g.cells + 1) hci'.1
      have m1 := Int.tmod_nonneg (g.kinds.length : Int) hki'.1
      have m2 := Int.tmod_lt_of_pos (nth x.kind i) (show (0 : Int) < g.kinds.length by omega)
      have m3 := Int.tmod_nonneg 2 (show (0 : Int) ≤ i by omega)
      have m4 := Int.tmod_lt_of_pos (i : Int) (show (0 : Int) < 2 by decide)
      have hrc := rc i (by omega)
      have hrk := rk i (by omega)
      have hsu := madeAt_succ g x i
      have hal := madeAt_len g x i
      rw [hcz] at hal
      unfold atStep at hsu
      (repeat (first | ((with_reducible refine VC.mkL ?_ fun _ => ?_); · first | omega | exact True.intro | rfl) | ((with_reducible refine VC.mkD ?_ fun _ => ?_); · first | omega | exact True.intro | (intros; omega)) | ((with_reducible refine dEnd.mk ?_ ?_); · kernel_rfl) | (with_reducible refine adrZ.go ?_) | (simp [go_sem, hel, e0, e3, e4, hrc, hrk])))
      refine aIf.mkL (fun hc => ?_) (fun hc => ?_) <;> simp at hc
      · have hc1 := hc.1
        rw [if_pos hc1] at hsu
        (repeat (first | ((with_reducible refine VC.mkL ?_ fun _ => ?_); · first | omega | exact True.intro | rfl) | ((with_reducible refine VC.mkD ?_ fun _ => ?_); · first | omega | exact True.intro | (intros; omega)) | ((with_reducible refine dEnd.mk ?_ ?_); · kernel_rfl) | (with_reducible refine adrZ.go ?_) | (simp [go_sem, hel, e0, e3, e4, hrc, hrk, hal])))
        refine ALoop.start (hrec (d - 1) (by omega) (i + 1) (by omega)) ?_ (by simp)
        simp [go_sem, Wk_eq, hsu, rb, hbl]
      · have hc1 : ¬ (nth x.cell i).tmod (g.cells + 1) < g.cells := fun h => hkne (hc h)
        rw [if_neg hc1] at hsu
        (repeat (first | ((with_reducible refine VC.mkL ?_ fun _ => ?_); · first | omega | exact True.intro | rfl) | ((with_reducible refine VC.mkD ?_ fun _ => ?_); · first | omega | exact True.intro | (intros; omega)) | ((with_reducible refine dEnd.mk ?_ ?_); · kernel_rfl) | (with_reducible refine adrZ.go ?_) | (simp [go_sem, hel, e0, e3, e4, hrc, hrk])))
        refine ALoop.start (hrec (d - 1) (by omega) (i + 1) (by omega)) ?_ (by simp)
        simp [go_sem, Wk_eq, hsu, rb, hbl]
    · obtain rfl : i = 6 := by omega
      have hal := madeAt_len g x 6
      rw [hcz] at hal
      have hqe : q = ⟨madeAt g x 6, handL g x 0 (min g.kinds.length 2), handL g x 1 (min g.kinds.length 2), x.rights.tmod pw, x.side.tmod 2⟩ := by rw [hq, ← hpw]; rfl
      clear hq
      have hq := hqe
      (repeat (first | ((with_reducible refine VC.mkL ?_ fun _ => ?_); · first | omega | exact True.intro | rfl) | ((with_reducible refine VC.mkD ?_ fun _ => ?_); · first | omega | exact True.intro | (intros; omega)) | ((with_reducible refine dEnd.mk ?_ ?_); · kernel_rfl) | (with_reducible refine adrZ.go ?_) | (simp [go_sem, hel, e0, e3, e4])))
      refine ALoop.unroll ?_
      (repeat (first | ((with_reducible refine VC.mkL ?_ fun _ => ?_); · first | omega | exact True.intro | rfl) | ((with_reducible refine VC.mkD ?_ fun _ => ?_); · first | omega | exact True.intro | (intros; omega)) | ((with_reducible refine dEnd.mk ?_ ?_); · kernel_rfl) | (with_reducible refine adrZ.go ?_) | (simp [go_sem, hel, e0, e3, e4])))
      have hz0 := handL_zero g x 0
      refine ALoop.start (ALoop.ind (α := Nat) (fun k => ⟨[(2, .ref 0 0 9 0 0), (3, .ref 1 0 18 0 0), (4, .ref 2 0 5 0 0), (5, .ref 19 0 5 0 0), (8, .v (.int .i64 0)), (9, .v (.int .i64 k))], [(0, .rows true 0 9 [eg]), (1, .rows true 0 18 [er]), (2, .rows true 0 5 [[AV.nils, AV.nils, AV.nils, .v (.int .i64 0), .v (.int .i64 0)]]), (6, .rows true 0 1 ((madeAt g x 6).map encI)), (19, .rows true 0 5 [[.sl 6 0 1 0 gc, .sl 21 0 1 0 g.kinds.length, AV.nils, .v (.int .i64 (x.rights.tmod pw)), .v (.int .i64 (x.side.tmod 2))]]), (21, .rows true 0 1 ((handL g x 0 k).map encI))], 22⟩)
        (fun d k => k + d = min g.kinds.length 2) ?_ (min g.kinds.length 2) 0 ?_) ?_ ?_
      · rintro d k j1 hrec0
        (repeat (first | ((with_reducible refine VC.mkL ?_ fun _ => ?_); · first | omega | exact True.intro | rfl) | ((with_reducible refine VC.mkD ?_ fun _ => ?_); · first | omega | exact True.intro | (intros; omega)) | ((with_reducible refine dEnd.mk ?_ ?_); · kernel_rfl) | (with_reducible refine adrZ.go ?_) | (simp [go_sem, hel, e0, e3, e4])))
        refine aIf.mkL (fun hj => ?_) (fun hj => ?_) <;> simp at hj
        · have hk2 : k < 2 := by omega
          have hkk : k < g.kinds.length := by omega
          have hhv := hx.hv _ (nth_mem (l := x.hand) (i := 2 * 0 + k) (by rw [hx.h4]; omega))
          have hh1 : 0 ≤ nth x.hand (2 * 0 + k) ∧ nth x.hand (2 * 0 + k) ≤ 255 := hhv
          have hrh := rh (2 * 0 + k) (by omega)
          have m0 := Int.tmod_nonneg 3 hh1.1
          have hsu := handL_succ g x 0 k
          have hsk := handL_skip g x 0 k
          have hhl := handL_len g x 0 k
          have hV : handV g x 0 k = if (nth g.kinds k).keep = true then (if 250 < nth x.hand (2 * 0 + k) then 8 else (nth x.hand (2 * 0 + k)).tmod 3) else 0 := rfl
          simp only [Nat.mul_zero, Nat.zero_add, Nat.mul_one] at hrh hh1 m0 hV
          (repeat (first | ((with_reducible refine VC.mkL ?_ fun _ => ?_); · first | omega | exact True.intro | rfl) | ((with_reducible refine VC.mkD ?_ fun _ => ?_); · first | omega | exact True.intro | (intros; omega)) | ((with_reducible refine dEnd.mk ?_ ?_); · kernel_rfl) | (with_reducible refine adrZ.go ?_) | (simp [go_sem, hel, e0, e3, e4, hkk])))
          refine aIf.mkL (fun hkeep => ?_) (fun hkeep => ?_)
          · rw [if_pos hkeep] at hV
            have eI : ((k : Int)).toNat = k := by omega
            have eI2 : (k : Int) < 4 := by omega
            (repeat (first | ((with_reducible refine VC.mkL ?_ fun _ => ?_); · first | omega | exact True.intro | rfl) | ((with_reducible refine VC.mkD ?_ fun _ => ?_); · first | omega | exact True.intro | (intros; omega)) | ((with_reducible refine dEnd.mk ?_ ?_); · kernel_rfl) | (with_reducible refine adrZ.go ?_) | (simp [go_sem, hel, e0, e3, e4, hkk, hrh, hhl, eI, eI2])))
            refine aIf.mkL (fun hbig => ?_) (fun hbig => ?_) <;> simp at hbig
            · rw [if_pos hbig] at hV
              rw [hV] at hsu
              (repeat (first | ((with_reducible refine VC.mkL ?_ fun _ => ?_); · first | omega | exact True.intro | rfl) | ((with_reducible refine VC.mkD ?_ fun _ => ?_); · first | omega | exact True.intro | (intros; omega)) | ((with_reducible refine dEnd.mk ?_ ?_); · kernel_rfl) | (with_reducible refine adrZ.go ?_) | (simp [go_sem, hel, e0, e3, e4, hkk, hrh, hhl])))
              refine ALoop.start (hrec0 (d - 1) (by omega) (k + 1) (by omega)) ?_ (by simp)
              simp [go_sem, Wk_eq, hsu, rb, hbl]
            · rw [if_neg (by omega)] at hV
              rw [hV] at hsu
              (repeat (first | ((with_reducible refine VC.mkL ?_ fun _ => ?_); · first | omega | exact True.intro | rfl) | ((with_reducible refine VC.mkD ?_ fun _ => ?_); · first | omega | exact True.intro | (intros; omega)) | ((with_reducible refine dEnd.mk ?_ ?_); · kernel_rfl) | (with_reducible refine adrZ.go ?_) | (simp [go_sem, hel, e0, e3, e4, hkk, hrh, hhl])))
              refine ALoop.start (hrec0 (d - 1) (by omega) (k + 1) (by omega)) ?_ (by simp)
              simp [go_sem, Wk_eq, hsu, rb, hbl]
          · rw [if_neg (by simpa using hkeep)] at hV
            have hsk' := hsk hV
            (repeat (first | ((with_reducible refine VC.mkL ?_ fun _ => ?_); · first | omega | exact True.intro | rfl) | ((with_reducible refine VC.mkD ?_ fun _ => ?_); · first | omega | exact True.intro | (intros; omega)) | ((with_reducible refine dEnd.mk ?_ ?_); · kernel_rfl) | (with_reducible refine adrZ.go ?_) | (simp [go_sem, hel, e0, e3, e4])))
            refine ALoop.start (hrec0 (d - 1) (by omega) (k + 1) (by omega)) ?_ (by simp)
            simp [go_sem, Wk_eq, hsk', rb, hbl]
        · have hkm : k = min g.kinds.length 2 := by omega
          subst hkm
          (repeat (first | ((with_reducible refine VC.mkL ?_ fun _ => ?_); · first | omega | exact True.intro | rfl) | ((with_reducible refine VC.mkD ?_ fun _ => ?_); · first | omega | exact True.intro | (intros; omega)) | ((with_reducible refine dEnd.mk ?_ ?_); · kernel_rfl) | (with_reducible refine adrZ.go ?_) | (simp [go_sem, hel, e0, e3, e4])))
          refine ALoop.unroll ?_
          (repeat (first | ((with_reducible refine VC.mkL ?_ fun _ => ?_); · first | omega | exact True.intro | rfl) | ((with_reducible refine VC.mkD ?_ fun _ => ?_); · first | omega | exact True.intro | (intros; omega)) | ((with_reducible refine dEnd.mk ?_ ?_); · kernel_rfl) | (with_reducible refine adrZ.go ?_) | (simp [go_sem, hel, e0, e3, e4])))
          have hz1 := handL_zero g x 1
          refine ALoop.start (ALoop.ind (α := Nat) (fun k => ⟨[(2, .ref 0 0 9 0 0), (3, .ref 1 0 18 0 0), (4, .ref 2 0 5 0 0), (5, .ref 19 0 5 0 0), (8, .v (.int .i64 1)), (9, .v (.int .i64 k))], [(0, .rows true 0 9 [eg]), (1, .rows true 0 18 [er]), (2, .rows true 0 5 [[AV.nils, AV.nils, AV.nils, .v (.int .i64 0), .v (.int .i64 0)]]), (6, .rows true 0 1 ((madeAt g x 6).map encI)), (19, .rows true 0 5 [[.sl 6 0 1 0 gc, .sl 21 0 1 0 g.kinds.length, .sl 22 0 1 0 g.kinds.length, .v (.int .i64 (x.rights.tmod pw)), .v (.int .i64 (x.side.tmod 2))]]), (21, .rows true 0 1 ((handL g x 0 (min g.kinds.length 2)).map encI)), (22, .rows true 0 1 ((handL g x 1 k).map encI))], 23⟩)
            (fun d k => k + d = min g.kinds.length 2) ?_ (min g.kinds.length 2) 0 ?_) ?_ ?_
          · rintro d k j1 hrec1
            (repeat (first | ((with_reducible refine VC.mkL ?_ fun _ => ?_); · first | omega | exact True.intro | rfl) | ((with_reducible refine VC.mkD ?_ fun _ => ?_); · first | omega | exact True.intro | (intros; omega)) | ((with_reducible refine dEnd.mk ?_ ?_); · kernel_rfl) | (with_reducible refine adrZ.go ?_) | (simp [go_sem, hel, e0, e3, e4])))
            refine aIf.mkL (fun hj => ?_) (fun hj => ?_) <;> simp at hj
            · have hk2 : k < 2 := by omega
              have hkk : k < g.kinds.length := by omega
              have hhv := hx.hv _ (nth_mem (l := x.hand) (i := 2 * 1 + k) (by rw [hx.h4]; omega))
              have hh1 : 0 ≤ nth x.hand (2 * 1 + k) ∧ nth x.hand (2 * 1 + k) ≤ 255 := hhv
              have hrh := rh (2 * 1 + k) (by omega)
              have m0 := Int.tmod_nonneg 3 hh1.1
              have hsu := handL_succ g x 1 k
              have hsk := handL_skip g x 1 k
              have hhl := handL_len g x 1 k
              have hV : handV g x 1 k = if (nth g.kinds k).keep = true then (if 250 < nth x.hand (2 * 1 + k) then 8 else (nth x.hand (2 * 1 + k)).tmod 3) else 0 := rfl
              simp only [Nat.mul_zero, Nat.zero_add, Nat.mul_one] at hrh hh1 m0 hV
              (repeat (first | ((with_reducible refine VC.mkL ?_ fun _ => ?_); · first | omega | exact True.intro | rfl) | ((with_reducible refine VC.mkD ?_ fun _ => ?_); · first | omega | exact True.intro | (intros; omega)) | ((with_reducible refine dEnd.mk ?_ ?_); · kernel_rfl) | (with_reducible refine adrZ.go ?_) | (simp [go_sem, hel, e0, e3, e4, hkk])))
              refine aIf.mkL (fun hkeep => ?_) (fun hkeep => ?_)
              · rw [if_pos hkeep] at hV
                have eI : (2 + (k : Int)).toNat = 2 + k := by omega
                have eI2 : 2 + (k : Int) < 4 := by omega
                (repeat (first | ((with_reducible refine VC.mkL ?_ fun _ => ?_); · first | omega | exact True.intro | rfl) | ((with_reducible refine VC.mkD ?_ fun _ => ?_); · first | omega | exact True.intro | (intros; omega)) | ((with_reducible refine dEnd.mk ?_ ?_); · kernel_rfl) | (with_reducible refine adrZ.go ?_) | (simp [go_sem, hel, e0, e3, e4, hkk, hrh, hhl, eI, eI2])))
                refine aIf.mkL (fun hbig => ?_) (fun hbig => ?_) <;> simp at hbig
                · rw [if_pos hbig] at hV
                  rw [hV] at hsu
                  (repeat (first | ((with_reducible refine VC.mkL ?_ fun _ => ?_); · first | omega | exact True.intro | rfl) | ((with_reducible refine VC.mkD ?_ fun _ => ?_); · first | omega | exact True.intro | (intros; omega)) | ((with_reducible refine dEnd.mk ?_ ?_); · kernel_rfl) | (with_reducible refine adrZ.go ?_) | (simp [go_sem, hel, e0, e3, e4, hkk, hrh, hhl])))
                  refine ALoop.start (hrec1 (d - 1) (by omega) (k + 1) (by omega)) ?_ (by simp)
                  simp [go_sem, Wk_eq, hsu, rb, hbl]
                · rw [if_neg (by omega)] at hV
                  rw [hV] at hsu
                  (repeat (first | ((with_reducible refine VC.mkL ?_ fun _ => ?_); · first | omega | exact True.intro | rfl) | ((with_reducible refine VC.mkD ?_ fun _ => ?_); · first | omega | exact True.intro | (intros; omega)) | ((with_reducible refine dEnd.mk ?_ ?_); · kernel_rfl) | (with_reducible refine adrZ.go ?_) | (simp [go_sem, hel, e0, e3, e4, hkk, hrh, hhl])))
                  refine ALoop.start (hrec1 (d - 1) (by omega) (k + 1) (by omega)) ?_ (by simp)
                  simp [go_sem, Wk_eq, hsu, rb, hbl]
              · rw [if_neg (by simpa using hkeep)] at hV
                have hsk' := hsk hV
                (repeat (first | ((with_reducible refine VC.mkL ?_ fun _ => ?_); · first | omega | exact True.intro | rfl) | ((with_reducible refine VC.mkD ?_ fun _ => ?_); · first | omega | exact True.intro | (intros; omega)) | ((with_reducible refine dEnd.mk ?_ ?_); · kernel_rfl) | (with_reducible refine adrZ.go ?_) | (simp [go_sem, hel, e0, e3, e4])))
                refine ALoop.start (hrec1 (d - 1) (by omega) (k + 1) (by omega)) ?_ (by simp)
                simp [go_sem, Wk_eq, hsk', rb, hbl]
            · have hkm : k = min g.kinds.length 2 := by omega
              subst hkm
              (repeat (first | ((with_reducible refine VC.mkL ?_ fun _ => ?_); · first | omega | exact True.intro | rfl) | ((with_reducible refine VC.mkD ?_ fun _ => ?_); · first | omega | exact True.intro | (intros; omega)) | ((with_reducible refine dEnd.mk ?_ ?_); · kernel_rfl) | (with_reducible refine adrZ.go ?_) | (simp [go_sem, hel, e0, e3, e4])))
              (repeat (first | ((with_reducible refine VC.mkL ?_ fun _ => ?_); · first | omega | exact True.intro | rfl) | ((with_reducible refine VC.mkD ?_ fun _ => ?_); · first | omega | exact True.intro | (intros; omega)) | ((with_reducible refine dEnd.mk ?_ ?_); · kernel_rfl) | (with_reducible refine adrZ.go ?_) | (simp [go_sem, hel, e0, e3, e4])))
              refine ALoop.unroll ?_
              (repeat (first | ((with_reducible refine VC.mkL ?_ fun _ => ?_); · first | omega | exact True.intro | rfl) | ((with_reducible refine VC.mkD ?_ fun _ => ?_); · first | omega | exact True.intro | (intros; omega)) | ((with_reducible refine dEnd.mk ?_ ?_); · kernel_rfl) | (with_reducible refine adrZ.go ?_) | (simp [go_sem, hel, e0, e3, e4])))
              rw [hq]
              exact ⟨leV_frz rfl (by simp [hal]) (by simp [noH]) (by simp [List.take_of_length_le, hal]), leV_frz rfl (by simp [handL_len]) (by simp [noH]) (by simp [List.take_of_length_le, handL_len]), leV_frz rfl (by simp [handL_len]) (by simp [noH]) (by simp [List.take_of_length_le, handL_len]), .refl _, .refl _⟩
          · omega
          · simp [go_sem, Wk_eq, rb, hbl, hz1]
          · simp
      · omega
      · simp [go_sem, Wk_eq, rb, hbl, hz0]
      · simp
  · rfl
  · simp [go_sem, Wk_eq, rb, hbl, hz, hcz]
  · simp
end Go.Av
end
section
set_option linter.unusedSimpArgs false
set_option linter.unusedVariables false
open Go Go.Proofs
set_option maxRecDepth 20000
set_option maxHeartbeats 4000000
namespace Go.Av
theorem R6Walk_pure (g : GameD) (hg : GOk g) (p : PosD) (hp : POk g p) (picks : List Int) (hl : picks.length ≤ 4294967296) (hk : ∀ k ∈ picks, 0 ≤ k ∧ k ≤ 9223372036854775807) :
    Pure Tryz.prog 20 [.agg (encGame g), .agg (encPos p), encIs picks] (encPs (walkP g p picks)) := by
  refine Pure.of (ACallP.of_awp (by kernel_rfl) Tryz.func20 rfl rfl (Nat.le_of_ble_eq_true rfl) (by kernel_rfl) ?_)
  generalize hR : walkP g p picks = R
  (repeat (first | ((with_reducible refine VC.mkL ?_ fun _ => ?_); · first | omega | exact True.intro | rfl) | ((with_reducible refine VC.mkD ?_ fun _ => ?_); · first | omega | exact True.intro | (intros; omega)) | ((with_reducible refine dEnd.mk ?_ ?_); · kernel_rfl) | (with_reducible refine adrZ.go ?_) | (simp [go_sem])))
  refine ALoop.start (ALoop.ind (α := Nat × List PosD × PosD) (fun a => ⟨[(2, encIs picks), (3, .ref 0 0 9 0 0), (4, .ref 1 0 5 0 0), (7, .sl 2 a.2.1.length 5 0 (a.2.1.length + 1)), (8, .v (.int .i64 a.1))], [(0, .rows true 0 9 [encGame g]), (1, .rows true 0 5 [encPos a.2.2]), (2, .rows true a.2.1.length 5 ((a.2.1 ++ [a.2.2]).map encPos))], 3⟩)
    (fun d a => a.1 + d = picks.length ∧ a.2.1.length = a.1 ∧ POk g a.2.2 ∧ R = a.2.1 ++ walkP g a.2.2 (picks.drop a.1)) ?_ picks.length (0, [], p) ?_) ?_ ?_
  · rintro d ⟨i, pre, cur⟩ ⟨i1, i2, i3, i4⟩ hrec
    simp only at i1 i2 i3 i4
    (repeat (first | ((with_reducible refine VC.mkL ?_ fun _ => ?_); · first | omega | exact True.intro | rfl) | ((with_reducible refine VC.mkD ?_ fun _ => ?_); · first | omega | exact True.intro | (intros; omega)) | ((with_reducible refine dEnd.mk ?_ ?_); · kernel_rfl) | (with_reducible refine adrZ.go ?_) | (simp [go_sem])))
    refine aIf.mkL (fun hi => ?_) (fun hi => ?_) <;> simp at hi
    · have hM := R6Moves_pure g hg cur i3
      have hki := hk _ (nth_mem hi)
      have hml := movesP_len hg i3
      have hmo := movesP_ok hg i3
      rw [dropG_cons hi, walkP] at i4
      generalize movesP g cur = l at *
      (repeat (first | ((with_reducible refine VC.mkL ?_ fun _ => ?_); · first | omega | exact True.intro | rfl) | ((with_reducible refine VC.mkD ?_ fun _ => ?_); · first | omega | exact True.intro | (intros; omega)) | ((with_reducible refine dEnd.mk ?_ ?_); · kernel_rfl) | (with_reducible refine adrZ.go ?_) | (simp [go_sem])))
      refine ACallP.plain hM (by simp [go_sem]) ?_
      (repeat (first | ((with_reducible refine VC.mkL ?_ fun _ => ?_); · first | omega | exact True.intro | rfl) | ((with_reducible refine VC.mkD ?_ fun _ => ?_); · first | omega | exact True.intro | (intros; omega)) | ((with_reducible refine dEnd.mk ?_ ?_); · kernel_rfl) | (with_reducible refine adrZ.go ?_) | (simp [go_sem])))
      by_cases hz : l = []
      · rw [if_pos hz] at i4
        subst hz
        (repeat (first | ((with_reducible refine VC.mkL ?_ fun _ => ?_); · first | omega | exact True.intro | rfl) | ((with_reducible refine VC.mkD ?_ fun _ => ?_); · first | omega | exact True.intro | (intros; omega)) | ((with_reducible refine dEnd.mk ?_ ?_); · kernel_rfl) | (with_reducible refine adrZ.go ?_) | (simp [go_sem])))
        rw [i4]
        (refine leV_frz rfl (by simp) (by simp [noH, upd]) ?_; first | (simp [go_sem]; done) | (simp [go_sem]; exact List.take_of_length_le (by simp)))
      · rw [if_neg hz] at i4
        have hlp : 0 < l.length := List.length_pos_iff.2 hz
        have e1 : (nth picks i).tmod l.length = (nth picks i).emod l.length := Int.tmod_eq_emod_of_nonneg hki.1
        have e2 : 0 ≤ (nth picks i).emod l.length := Int.emod_nonneg _ (by omega)
        have e3 : (nth picks i).emod l.length < l.length := Int.emod_lt_of_pos _ (by omega)
        generalize (nth picks i).emod l.length = j at *
        have hjl : j.toNat < l.length := by omega
        (repeat (first | ((with_reducible refine VC.mkL ?_ fun _ => ?_); · first | omega | exact True.intro | rfl) | ((with_reducible refine VC.mkD ?_ fun _ => ?_); · first | omega | exact True.intro | (intros; omega)) | ((with_reducible refine dEnd.mk ?_ ?_); · kernel_rfl) | (with_reducible refine adrZ.go ?_) | (simp [go_sem, hi, hz, e1, hjl])))
        (refine aIf.mkL (fun hF => by first | omega | (simp at hF; omega)) (fun hF => ?_); clear hF)
        (repeat (first | ((with_reducible refine VC.mkL ?_ fun _ => ?_); · first | omega | exact True.intro | rfl) | ((with_reducible refine VC.mkD ?_ fun _ => ?_); · first | omega | exact True.intro | (intros; omega)) | ((with_reducible refine dEnd.mk ?_ ?_); · kernel_rfl) | (with_reducible refine adrZ.go ?_) | (simp [go_sem, hjl])))
        refine ALoop.start (hrec (d - 1) (by omega) (i + 1, pre ++ [cur], nth l j.toNat) ⟨by simp only; omega, by simp; omega, (hmo _ (nth_mem hjl)).1, by simpa using i4⟩) ?_ (by simp)
        simp [go_sem, Wk_eq]
    · rw [List.drop_eq_nil_of_le hi, walkP] at i4
      (repeat (first | ((with_reducible refine VC.mkL ?_ fun _ => ?_); · first | omega | exact True.intro | rfl) | ((with_reducible refine VC.mkD ?_ fun _ => ?_); · first | omega | exact True.intro | (intros; omega)) | ((with_reducible refine dEnd.mk ?_ ?_); · kernel_rfl) | (with_reducible refine adrZ.go ?_) | (simp [go_sem])))
      rw [i4]
      (refine leV_frz rfl (by simp) (by simp [noH, upd]) ?_; first | (simp [go_sem]; done) | (simp [go_sem]; exact List.take_of_length_le (by simp)))
  · exact ⟨by simp, rfl, hp, by simp [hR]⟩
  · simp [go_sem, Wk_eq]
  · simp
structure Raw6 where
  g : RawG
  p : RawP
  picks : List Int
structure Raw6Ok (x : Raw6) : Prop where
  g : RawOk x.g
  p : RawPOk x.p
  k : ∀ n ∈ x.picks, U8 n
  lk : x.picks.length ≤ 1099511627776
  l0 : x.g.k0.length ≤ 1099511627776
  l1 : x.g.k1.length ≤ 1099511627776
  lc : x.g.c.length ≤ 1099511627776
def encRaw6 (x : Raw6) : List AV := encRaw x.g ++ (encRawP x.p ++ [encUs x.picks])
def game6 (x : Raw6) : GameD := madeG x.g
def walk6 (x : Raw6) : List PosD := walkP (game6 x) (madePos (game6 x) x.p) (x.picks.take 6)
def pos6 (x : Raw6) : PosD := nth (walk6 x) ((walk6 x).length - 1)
theorem game6_ok {x : Raw6} (hx : Raw6Ok x) : GOk (game6 x) := madeG_ok hx.g
theorem pos6_ok {x : Raw6} (hx : Raw6Ok x) : POk (game6 x) (pos6 x) := by
  have hne := List.length_pos_iff.2 (walkP_ne (game6 x) (madePos (game6 x) x.p) (x.picks.take 6))
  exact walkP_ok (game6_ok hx) _ (madePos_ok (game6_ok hx) hx.p) _ (nth_mem (by unfold walk6; omega))
theorem R6Made_pure (x : Raw6) (hx : Raw6Ok x) : Pure Tryz.prog 6 [.agg (encRaw6 x)] (.tup [.agg (encGame (game6 x)), .agg (encPos (pos6 x))]) := by
  refine Pure.of (ACallP.of_awp (by kernel_rfl) Tryz.func6 rfl rfl (Nat.le_of_ble_eq_true rfl) (by kernel_rfl) ?_)
  have hg := game6_ok hx
  have hG := R3Made_pure x.g hx.g hx.lc hx.l0 hx.l1
  have hP := R4Made_pure (game6 x) hg x.p hx.p
  have hlk := hx.lk
  have hW := R6Walk_pure (game6 x) hg (madePos (game6 x) x.p) (madePos_ok hg hx.p) (x.picks.take 6) (by simp; omega) (fun k hk => by have := hx.k k (List.mem_of_mem_take hk); have h0 := this.1; have h1 := this.2; omega)
  have hwl := walkP_len (game6 x) (x.picks.take 6) (madePos (game6 x) x.p)
  have hwp := List.length_pos_iff.2 (walkP_ne (game6 x) (madePos (game6 x) x.p) (x.picks.take 6))
  rw [show walkP (game6 x) (madePos (game6 x) x.p) (x.picks.take 6) = walk6 x from rfl] at hW hwl hwp
  have hq : pos6 x = nth (walk6 x) ((walk6 x).length - 1) := rfl
  rw [show madeG x.g = game6 x from rfl] at hG
  obtain ⟨eg, heg⟩ : ∃ eg, eg = encGame (game6 x) := ⟨_, rfl⟩
  have hegl : eg.length = 9 := by rw [heg]; rfl
  have hegb : ∀ n, (∀ c ∈ eg, Bel n c) = True := fun n => by rw [heg]; simp [go_sem]
  rw [← heg] at hG hP hW ⊢
  generalize walk6 x = w at *
  generalize pos6 x = q at *
  unfold encRaw6
  have hrow := rawRow hx.p
  obtain ⟨er, her⟩ : ∃ er, er = encRawP x.p := ⟨_, rfl⟩
  rw [← her] at hrow hP ⊢
  obtain ⟨rl, _, _, _, _, _, rb⟩ := hrow
  obtain ⟨er1, her1⟩ : ∃ er1, er1 = encRaw x.g := ⟨_, rfl⟩
  have er1l : er1.length = 12 := by rw [her1]; rfl
  have er1b : ∀ n, (∀ c ∈ er1, Bel n c) = True := fun n => by rw [her1]; simp [go_sem]
  rw [← her1] at hG ⊢
  have hc30 : cel (er1 ++ (er ++ [AV.lst 1 (x.picks.map encU)])) 30 = .lst 1 (x.picks.map encU) := by
    unfold cel
    rw [List.getD_eq_getElem?_getD, List.getElem?_append_right (by omega), List.getElem?_append_right (by omega)]
    simp [er1l, rl]
  have hd12 : List.take 18 (List.drop 12 (er1 ++ (er ++ [AV.lst 1 (x.picks.map encU)]))) = er := by
    rw [← er1l, List.drop_left, ← rl, List.take_left]
  (repeat (first | ((with_reducible refine VC.mkL ?_ fun _ => ?_); · first | omega | exact True.intro | rfl) | ((with_reducible refine VC.mkD ?_ fun _ => ?_); · first | omega | exact True.intro | (intros; omega)) | ((with_reducible refine dEnd.mk ?_ ?_); · kernel_rfl) | (with_reducible refine adrZ.go ?_) | (simp [go_sem, rl, rb, er1l, er1b, hegl, hegb])))
  refine ACallP.plain hG (by simp [go_sem, er1b]) ?_
  (repeat (first | ((with_reducible refine VC.mkL ?_ fun _ => ?_); · first | omega | exact True.intro | rfl) | ((with_reducible refine VC.mkD ?_ fun _ => ?_); · first | omega | exact True.intro | (intros; omega)) | ((with_reducible refine dEnd.mk ?_ ?_); · kernel_rfl) | (with_reducible refine adrZ.go ?_) | (simp [go_sem, rl, rb, er1l, er1b, hegl, hegb, hc30])))
  obtain ⟨pk, hpk⟩ : ∃ pk : Nat → List Int, ∀ i, pk i = x.picks.take i := ⟨_, fun _ => rfl⟩
  have htl : ∀ i, i ≤ x.picks.length → (pk i).length = i := fun i hi => by rw [hpk]; simp; omega
  have hts : ∀ i, i < x.picks.length → pk (i + 1) = pk i ++ [nth x.picks i] := fun i hi => by rw [hpk, hpk, List.take_add_one, List.getElem?_eq_getElem hi, nth_eq _ _ hi]; rfl
  have hp0 : pk 0 = [] := by rw [hpk]; rfl
  rw [← hpk] at hW
  refine ALoop.start (ALoop.ind (α := Nat) (fun i => ⟨[(1, .ref 0 0 31 0 0), (2, .ref 1 0 9 0 0), (3, .ref 2 0 5 0 0), (4, .ref 3 0 9 0 0), (5, .sl 4 i 1 0 i), (6, .v (.int .i64 i))],
      [(0, .rows true 0 31 [er1 ++ (er ++ [AV.lst 1 (x.picks.map encU)])]), (1, .rows true 0 9 [[.v (.int .i64 0), AV.nils, AV.nils, AV.nils, .v (.int .i64 0), .v (.bool false), AV.nils, .v (.int .i64 0), .v (.int .i64 0)]]),
       (2, .rows true 0 5 [[AV.nils, AV.nils, AV.nils, .v (.int .i64 0), .v (.int .i64 0)]]), (3, .rows true 0 9 [eg]), (4, .rows true i 1 ((pk i).map encI))], 5⟩)
    (fun d i => i + d = min x.picks.length 6) ?_ (min x.picks.length 6) 0 ?_) ?_ ?_
  · rintro d i i1 hrec
    (repeat (first | ((with_reducible refine VC.mkL ?_ fun _ => ?_); · first | omega | exact True.intro | rfl) | ((with_reducible refine VC.mkD ?_ fun _ => ?_); · first | omega | exact True.intro | (intros; omega)) | ((with_reducible refine dEnd.mk ?_ ?_); · kernel_rfl) | (with_reducible refine adrZ.go ?_) | (simp [go_sem, rl, rb, er1l, er1b, hegl, hegb, hc30])))
    refine aIf.mkL (fun hi => ?_) (fun hi => ?_) <;> simp at hi
    · have hil : i < x.picks.length := by omega
      have hki := hx.k _ (nth_mem hil)
      have hk0 := hki.1
      have hk1 := hki.2
      have e1 := htl i (by omega)
      have e2 := hts i hil
      (repeat (first | ((with_reducible refine VC.mkL ?_ fun _ => ?_); · first | omega | exact True.intro | rfl) | ((with_reducible refine VC.mkD ?_ fun _ => ?_); · first | omega | exact True.intro | (intros; omega)) | ((with_reducible refine dEnd.mk ?_ ?_); · kernel_rfl) | (with_reducible refine adrZ.go ?_) | (simp [go_sem, rl, er1l, hc30, hil, e1])))
      refine ALoop.start (hrec (d - 1) (by omega) (i + 1) (by omega)) ?_ (by simp)
      simp [go_sem, Wk_eq, e2, rb, er1b, hegb]
    · have hil : i = min x.picks.length 6 := by omega
      have e1 := htl i (by omega)
      have e2 : pk i = pk 6 := by rw [hpk, hpk, hil, List.take_eq_take_iff]; omega
      rw [← e2] at hW
      (repeat (first | ((with_reducible refine VC.mkL ?_ fun _ => ?_); · first | omega | exact True.intro | rfl) | ((with_reducible refine VC.mkD ?_ fun _ => ?_); · first | omega | exact True.intro | (intros; omega)) | ((with_reducible refine dEnd.mk ?_ ?_); · kernel_rfl) | (with_reducible refine adrZ.go ?_) | (simp [go_sem, rl, rb, er1l, er1b, hegl, hegb, hd12])))
      try ((with_reducible refine adrZ.go ?_); (try simp [go_sem]))
      refine dCall.plain hP (by simp [go_sem, hegb, rb]) ?_
      (repeat (first | ((with_reducible refine VC.mkL ?_ fun _ => ?_); · first | omega | exact True.intro | rfl) | ((with_reducible refine VC.mkD ?_ fun _ => ?_); · first | omega | exact True.intro | (intros; omega)) | ((with_reducible refine dEnd.mk ?_ ?_); · kernel_rfl) | (with_reducible refine adrZ.go ?_) | (simp [go_sem, rl, rb, er1l, er1b, hegl, hegb])))
      try ((with_reducible refine adrZ.go ?_); (try simp [go_sem]))
      refine dCall.frz [.agg eg, .agg (encPos (madePos (game6 x) x.p)), encIs (pk i)] _ [4] [(4, some (.rows false i 1 ((pk i).map encI)))] hW ?_ ?_ (by simp [go_sem, hegb]) ?_
      · intro p hp
        simp only [List.mem_singleton] at hp
        subst hp
        exact ⟨by simp, i, 1, _, rfl, by simp [upd]⟩
      · intro h₁ hS
        have h7 := hS 4 (by simp)
        simp [upd] at h7
        exact .cons (.refl _) (.cons (.refl _) (.cons (leV_frz h7.symm (by simp [e1]) (by simp [applyW, upd]) (by rw [List.drop_zero, List.take_of_length_le (by simp [e1])])) .nil))
      · have h6 : (x.picks.take 6).length ≤ 6 := by simp; omega
        have hw7 : w.length ≤ 7 := by omega
        have hwi : ((w.length : Int) - 1).toNat = w.length - 1 := by omega
        have hwn : w.length - 1 < w.length := by omega
        rw [hq]
        (repeat (first | ((with_reducible refine VC.mkL ?_ fun _ => ?_); · first | omega | exact True.intro | rfl) | ((with_reducible refine VC.mkD ?_ fun _ => ?_); · first | omega | exact True.intro | (intros; omega)) | ((with_reducible refine dEnd.mk ?_ ?_); · kernel_rfl) | (with_reducible refine adrZ.go ?_) | (simp [go_sem, rl, rb, er1l, er1b, hegl, hegb, hwi, hwn])))
  · omega
  · simp [go_sem, Wk_eq, rb, er1b, hegb, hp0]
  · simp
end Go.Av
end
section
set_option linter.unusedSimpArgs false
set_option linter.unusedVariables false
open Go Go.Proofs
set_option maxRecDepth 20000
set_option maxHeartbeats 4000000
namespace Go.Av
/-- what the lists of a code are -/
theorem sideP_nth (g : GameD) (s : Int) {k c : Nat} (hk : k < g.kinds.length) (hc : c < g.cells.toNat) : nth (nth (sideP g s) k) c = kindP g.board s (nth g.kinds k).progs c := by
  unfold sideP
  rw [nth_map _ _ _ hk]
  have hc' : c < (List.range g.board.cells.toNat).length := by rw [List.length_range]; exact hc
  show nth ((List.range g.board.cells.toNat).map fun (c : Nat) => kindP g.board s (nth g.kinds k).progs c) c = _
  rw [nth_map _ _ _ hc', nth_eq _ _ hc', List.getElem_range]
theorem sideP_nth' (g : GameD) (s : Int) {k c : Nat} (hk : k < g.kinds.length) (hc : c < g.cells.toNat) : nth (nth (sideP g s) k) c = kindP g.board s (nth g.kinds k).progs c := sideP_nth g s hk hc
/-
  rw [nth_map _ _ _ (by simpa [GameD.board] using hc), nth_eq _ _ (by simpa [GameD.board] using hc), List.getElem_range]
-/
theorem kindP_acts {g : GameD} (hg : GOk g) (s : Int) {k : KindD} (hk : k ∈ g.kinds) (c : Int) : ActsLe 1048576 (kindP g.board s k.progs c) := by
  intro w hw
  obtain ⟨p, hp, hw⟩ := List.mem_flatMap.1 hw
  have := pathsK_acts hg.board hg.c9 s p c p.length (Nat.le_refl _) w (by unfold pathsK; rwa [List.take_length])
  have := (hg.pr k hk p hp).len
  omega
/-- a code whose lists fit -/
structure FitC (g : GameD) (c : CodeD) : Prop where
  sh : ShapeOk g c
  len : ∀ l ∈ c.1 ++ c.2, ∀ x ∈ l, x.length ≤ 1099511627776 ∧ ActsLe 1048576 x
theorem fit_codeP {g : GameD} (hg : GOk g) : FitC g (codeP g) := by
  refine ⟨shape_codeP hg, ?_⟩
  have h : ∀ s, ∀ l ∈ sideP g s, ∀ x ∈ l, x.length ≤ 1099511627776 ∧ ActsLe 1048576 x := by
    intro s l hl x hx
    obtain ⟨k, hk, rfl⟩ := List.mem_map.1 hl
    obtain ⟨c, _, rfl⟩ := List.mem_map.1 hx
    exact ⟨by have := kindP_len hg s hk (c : Nat); omega, kindP_acts hg s hk _⟩
  intro l hl
  rcases List.mem_append.1 hl with hl | hl
  · exact h 0 l hl
  · exact h 1 l hl
theorem FitC.side {g : GameD} {c : CodeD} (h : FitC g c) {s : Nat} (hs : s < 2) : ∃ l, cel [encSide c.1, encSide c.2] s = encSide l ∧ l.length = g.kinds.length ∧ (∀ x ∈ l, (x.length : Int) = g.cells) ∧ ∀ x ∈ l, ∀ y ∈ x, y.length ≤ 1099511627776 ∧ ActsLe 1048576 y := by
  rcases (show s = 0 ∨ s = 1 by omega) with rfl | rfl
  · exact ⟨_, rfl, h.sh.l1, h.sh.c1, fun x hx => h.len x (by simp [hx])⟩
  · exact ⟨_, rfl, h.sh.l2, h.sh.c2, fun x hx => h.len x (by simp [hx])⟩
/-! ### GenPaths -/
theorem libL_slide (d e k r : Int) (i : Nat) : countOp (nth (libL d e k r) i) 2 ≤ 1 := by
  rcases Nat.lt_or_ge i 16 with h | h
  · have : ∀ p ∈ libL d e k r, countOp p 2 ≤ 1 := by
      intro p hp
      simp only [libL, List.mem_cons, List.not_mem_nil, or_false] at hp
      rcases hp with rfl | rfl | rfl | rfl | rfl | rfl | rfl | rfl | rfl | rfl | rfl | rfl | rfl | rfl | rfl | rfl <;> simp [countOp]
    exact this _ (nth_mem h)
  · have e : nth (libL d e k r) i = [] := by
      unfold nth
      rw [List.getD_eq_getElem?_getD, List.getElem?_eq_none (by exact h)]; rfl
    rw [e]
    simp [countOp]
theorem fitP_slide {dirs kinds rights : Int} {p : List (Int × Int)} (h : countOp p 2 ≤ 1) : countOp (fitP dirs kinds rights p) 2 ≤ 1 := by
  unfold fitP
  split
  · simp [countOp]
  · exact Nat.le_trans (fit_count 2 p) h
theorem madeG_slide (x : RawG) : OneSlide (madeG x) := by
  intro k hk p hp
  obtain ⟨i, _, rfl⟩ := List.mem_map.1 hk
  obtain ⟨n, _, rfl⟩ := List.mem_map.1 hp
  exact fitP_slide (libL_slide _ _ _ _ _)
theorem raw6_len {x : Raw6} (hx : Raw6Ok x) : (encRaw6 x).length = 31 := by
  obtain ⟨rl, _, _, _, _, _, rb⟩ := rawRow hx.p
  simp [encRaw6, encRaw, rl]
theorem raw6_bel {x : Raw6} (hx : Raw6Ok x) (n : Nat) : (∀ c ∈ encRaw6 x, Bel n c) = True := by
  obtain ⟨rl, _, _, _, _, _, rb⟩ := rawRow hx.p
  refine eq_true ?_
  intro c hc
  unfold encRaw6 at hc
  rcases List.mem_append.1 hc with h | h
  · have : (∀ c ∈ encRaw x.g, Bel n c) = True := by simp [go_sem]
    exact of_eq_true this c h
  · rcases List.mem_append.1 h with h | h
    · exact of_eq_true (rb n) c h
    · simp only [List.mem_singleton] at h
      subst h
      simp [go_sem]
end Go.Av
end
section
set_option linter.unusedSimpArgs false
set_option linter.unusedVariables false
set_option maxRecDepth 8000
open Go Go.Proofs
namespace Go.Av
theorem doA_ok {g : GameD} (hg : GOk g) {side : Int} (hs : side = 0 ∨ side = 1) {t : TkD} (ht : POk g t.p) {x : ActD} (hx : ActOk g.cells g.kinds.length g.rights x) (h : (doA g side t x).2 = true) : POk g (doA g side t x).1.p := by
  obtain ⟨op, a, b⟩ := x
  unfold ActOk at hx
  simp only at hx
  rcases (show op = 3 ∨ op = 4 ∨ op = 5 ∨ op = 6 ∨ op = 7 ∨ op = 8 ∨ op = 9 ∨ op = 10 by omega) with rfl | rfl | rfl | rfl | rfl | rfl | rfl | rfl
  · exact ht
  · exact ht
  · exact ht
  · have hat := ht.at (i := a.toNat) (by omega)
    have hman := manOf_cases hat.1 hat.2 hg.k6
    have hdo : doA g side t (6, a, b) = takeA g side t a := rfl
    rw [hdo] at h ⊢
    unfold takeA at h ⊢
    simp only at h ⊢
    split
    · exact ht
    · rename_i hm
      rw [if_neg hm] at h
      split
      · rename_i hk
        rw [if_pos hk] at h
        simp only [decide_eq_true_eq] at h
        have hk1 : (manOf (nth t.p.at_ a.toNat)).1.toNat < g.kinds.length := by
          rcases hman with ⟨_, e⟩ | ⟨_, e1, e2, _⟩
          · rw [e] at hm
            simp at hm
            omega
          · omega
        have hh := ht.hand side
        have hv := hh.v _ (show (manOf (nth t.p.at_ a.toNat)).1.toNat < (t.p.hand side).length by rw [hh.len]; exact hk1)
        exact (ht.clr a).withHand side (hh.set _ ⟨by omega, h⟩ (fun _ => hk))
      · exact ht.clr a
  · have hdo : doA g side t (7, a, b) = pushA t a b := rfl
    rw [hdo]
    unfold pushA
    split
    · exact ht
    · have hat := ht.at (i := a.toNat) (by omega)
      exact (ht.setAt b.toNat hat).setAt a.toNat ⟨by omega, by omega⟩
  · exact ht
  · exact ht
  · have h0 := ht.r0
    have h1 := ht.r1
    have hr : (2 : Int) ^ g.rights.toNat ≤ 16 := by
      have r0 := hg.r0
      have r4 := hg.r4
      rcases (show g.rights.toNat = 0 ∨ g.rights.toNat = 1 ∨ g.rights.toNat = 2 ∨ g.rights.toNat = 3 ∨ g.rights.toNat = 4 by omega) with e | e | e | e | e <;> rw [e] <;> decide
    have r4 := hg.r4
    have hn := andNot_le h0 (show t.p.rights < 16 by omega) (show a.toNat < 4 by omega)
    exact ⟨ht.al, ht.av, ht.h0, ht.h1, hn.1, by simp only [doA]; exact Int.lt_of_le_of_lt hn.2 h1, ht.s⟩
theorem doAs_snoc (g : GameD) (side : Int) (t : TkD) (l : List ActD) (x : ActD) : doAs g side t (l ++ [x]) = (doAs g side t l).bind fun t => if (doA g side t x).2 = true then some (doA g side t x).1 else none := by
  rw [doAs_append]
  rfl
theorem doAs_none {g : GameD} {side : Int} {t : TkD} {l : List ActD} {i : Nat} (h : doAs g side t (l.take i) = none) : doAs g side t l = none := by
  conv => lhs; rw [← List.take_append_drop i l]
  rw [doAs_append, h]; rfl
theorem doAs_ok {g : GameD} (hg : GOk g) {side : Int} (hs : side = 0 ∨ side = 1) : ∀ {l : List ActD} {t u : TkD}, POk g t.p → (∀ a ∈ l, ActOk g.cells g.kinds.length g.rights a) → doAs g side t l = some u → POk g u.p
  | [], t, u, ht, _, h => by simp only [doAs, Option.some.injEq] at h; subst h; exact ht
  | x :: l, t, u, ht, hl, h => by
    simp only [doAs] at h
    split at h
    · rename_i hd
      exact doAs_ok hg hs (doA_ok hg hs ht (hl x (by simp)) hd) (fun a ha => hl a (by simp [ha])) h
    · cases h
theorem outW_fits {g : GameD} (hg : GOk g) {side : Int} (hs : side = 0 ∨ side = 1) {t : TkD} (ht : POk g t.p) {w : PathD} (hw : ∀ a ∈ w.acts, ActOk g.cells g.kinds.length g.rights a) {o : OutD} (h : outW g side t w = some o) : FitsP o.pos := by
  unfold outW at h
  obtain ⟨s, h1, h2⟩ := Option.bind_eq_some_iff.1 h
  unfold stW at h1
  obtain ⟨u, h3, h4⟩ := Option.map_eq_some_iff.1 h1
  have hu := (doAs_ok hg hs ht hw h3).fits hg
  subst h4
  unfold putS at h2
  split at h2
  · simp only [Option.some.injEq] at h2
    subst h2
    obtain ⟨a, b, c⟩ := hu
    exact ⟨by unfold Fits at a ⊢; simpa [stT] using a, b, c⟩
  · cases h2
end Go.Av
end
section
set_option linter.unusedSimpArgs false
set_option linter.unusedVariables false
open Go Go.Proofs
set_option maxRecDepth 20000
set_option maxHeartbeats 4000000
namespace Go.Av
/-- the paths of a code -/
def pathsC (c : CodeD) (side : Int) (k cell : Nat) : List PathD := nth (nth (if side = 0 then c.1 else c.2) k) cell
structure CodeOk (g : GameD) (c : CodeD) : Prop where
  l0 : c.1.length = g.kinds.length
  l1 : c.2.length = g.kinds.length
  k0 : ∀ k ∈ c.1, (k.length : Int) = g.cells
  k1 : ∀ k ∈ c.2, (k.length : Int) = g.cells
  p0 : ∀ k ∈ c.1, ∀ l ∈ k, l.length ≤ 1000000000 ∧ ∀ w ∈ l, (0 ≤ w.to ∧ w.to < g.cells) ∧ w.acts.length ≤ 1048576 ∧ ∀ a ∈ w.acts, ActOk g.cells g.kinds.length g.rights a
  p1 : ∀ k ∈ c.2, ∀ l ∈ k, l.length ≤ 1000000000 ∧ ∀ w ∈ l, (0 ≤ w.to ∧ w.to < g.cells) ∧ w.acts.length ≤ 1048576 ∧ ∀ a ∈ w.acts, ActOk g.cells g.kinds.length g.rights a
def runC (g : GameD) (c : CodeD) (p : PosD) (cell : Int) : List OutD :=
  if 0 ≤ cell ∧ cell < g.cells ∧ nth p.at_ cell.toNat ≠ 0 then
    sortU cmpO ((pathsC c (manOf (nth p.at_ cell.toNat)).2 (manOf (nth p.at_ cell.toNat)).1.toNat cell.toNat).filterMap (outW g (manOf (nth p.at_ cell.toNat)).2 (startT p cell)))
  else []
theorem gRun_pure (g : GameD) (hg : GOk g) (c : CodeD) (hc : CodeOk g c) (p : PosD) (hp : POk g p) (cell : Int) (c0 : 0 ≤ cell) (c1 : cell < g.cells) :
    Pure Tryz.prog 10 [.agg (encGame g), .agg (encCode c), .agg (encPos p), .v (.int .i64 cell)] (encOs (runC g c p cell)) := by
  refine Pure.of (ACallP.of_awp (by kernel_rfl) Tryz.func10 rfl rfl (Nat.le_of_ble_eq_true rfl) (by kernel_rfl) ?_)
  have hal := hp.al
  obtain ⟨R, hR⟩ : ∃ R, R = runC g c p cell := ⟨_, rfl⟩
  have hR' := hR
  unfold runC at hR'
  rw [← hR]
  have hle := hg.c9
  have h0 : ¬ cell < 0 := by omega
  have h1 : ¬ (p.at_.length : Int) ≤ cell := by omega
  have hcl : cell.toNat < p.at_.length := by omega
  by_cases h2 : nth p.at_ cell.toNat = 0
  · rw [if_neg (by rintro ⟨_, _, h⟩; exact h h2)] at hR'
    rw [hR']
    (repeat (first | ((with_reducible refine VC.mkL ?_ fun _ => ?_); · first | omega | exact True.intro | rfl) | ((with_reducible refine VC.mkD ?_ fun _ => ?_); · first | omega | exact True.intro | (intros; omega)) | ((with_reducible refine dEnd.mk ?_ ?_); · kernel_rfl) | (with_reducible refine adrZ.go ?_) | (simp [go_sem, h0, h1, hcl, h2])))
    ((try simp only [encProg, encStep, encAct, encAs, encPath, encPt, encOut, encState, encPos, encOs, encSs, encPs, encIs, encGame, List.map_cons, List.map_nil, List.nil_append, List.append_nil, List.cons_append]); (repeat (first | (with_reducible exact LeRow.nil) | (with_reducible exact LeRows.nil) | (with_reducible exact LeV.refl _) | (with_reducible exact LeRow.refl _ _ _ _) | (with_reducible exact LeRows.refl _) | (with_reducible refine LeRow.cons ?_ ?_) | (with_reducible refine LeRows.cons ?_ ?_) | (with_reducible refine LeV.agg ?_) | (with_reducible refine LeV.tup ?_) | (with_reducible refine LeV.fn ?_ ?_) | (with_reducible exact LeV.nil _) | (with_reducible refine leRows_append (LeRows.refl _) ?_) | ((refine leV_frz rfl (by simp) (by simp [frzO, frz1, upd, noH]) ?_); (first | (simp [go_sem]; done) | (simp [go_sem]; exact List.take_of_length_le (by simp)))) | ((refine LeV.frz rfl (by simp) (by simp [frzO, frz1, upd, noH]) ?_); (simp only [List.drop_zero, List.take_succ_cons, List.take_zero, List.map_cons, List.map_nil])) | ((refine LeV.frzP rfl (by simp) (by simp) (by simp [frzO, frz1, upd, noH]) ?_); (simp only [nth_zero, List.drop_zero])))))
  rw [if_pos ⟨by omega, by omega, h2⟩] at hR'
  have hM := gMan_pure (nth p.at_ cell.toNat)
  have hat := hp.at (i := cell.toNat) (by omega)
  have hman := manOf_cases hat.1 hat.2 hg.k6
  generalize hm : manOf (nth p.at_ cell.toNat) = m at *
  obtain ⟨mk, ms⟩ := m
  simp only [Prod.mk.injEq] at hman hR' hM
  have hmk : mk.toNat < g.kinds.length := by omega
  have hmk' : 0 ≤ mk := by omega
  have hms : ms = 0 ∨ ms = 1 := by omega
  rcases hms with rfl | rfl
  · have hcp0 := Clone_owns p.at_ (hp.fits hg).1
    have hcp1 := Clone_owns p.h0 (hp.fits hg).2.1
    have hcp2 := Clone_owns p.h1 (hp.fits hg).2.2
    have hmc : mk.toNat < c.1.length := by rw [hc.l0]; exact hmk
    have hcc : cell.toNat < (nth c.1 mk.toNat).length := by have := hc.k0 _ (nth_mem hmc); omega
    (repeat (first | ((with_reducible refine VC.mkL ?_ fun _ => ?_); · first | omega | exact True.intro | rfl) | ((with_reducible refine VC.mkD ?_ fun _ => ?_); · first | omega | exact True.intro | (intros; omega)) | ((with_reducible refine dEnd.mk ?_ ?_); · kernel_rfl) | (with_reducible refine adrZ.go ?_) | (simp [go_sem, h0, h1, hcl, h2])))
    refine ACallP.plain hM (by simp [go_sem]) ?_
    (repeat (first | ((with_reducible refine VC.mkL ?_ fun _ => ?_); · first | omega | exact True.intro | rfl) | ((with_reducible refine VC.mkD ?_ fun _ => ?_); · first | omega | exact True.intro | (intros; omega)) | ((with_reducible refine dEnd.mk ?_ ?_); · kernel_rfl) | (with_reducible refine adrZ.go ?_) | (simp [go_sem, hcl, hmc, hcc])))
    obtain ⟨pl, hpl⟩ : ∃ pl, pl = nth (nth c.1 mk.toNat) cell.toNat := ⟨_, rfl⟩
    have hpo := hc.p0 _ (nth_mem hmc) _ (nth_mem hcc)
    rw [show pathsC c 0 mk.toNat cell.toNat = pl from by rw [hpl]; rfl] at hR'
    rw [← hpl] at hpo ⊢
    obtain ⟨out, hout⟩ : ∃ out : Nat → List OutD, out = fun i => (pl.take i).filterMap (outW g 0 (startT p cell)) := ⟨_, rfl⟩
    refine ALoop.start (ALoop.ind (α := Nat) (fun i => ⟨[(3, .v (.int .i64 cell)), (4, .ref 0 0 9 0 0), (6, .ref 2 0 5 0 0), (9, .v (.int .i64 mk)), (10, .v (.int .i64 0)), (11, .sl 3 (out i).length 6 0 (out i).length), (52, encPt pl), (53, .v (.int .i64 pl.length)), (54, .v (.int .i64 i))],
      [(0, .rows true 0 9 [encGame g]), (2, .rows true 0 5 [encPos p]), (3, .rows true (out i).length 6 ((out i).map encOut))], 4⟩)
      (fun d i => i + d = pl.length) ?_ pl.length 0 ?_) ?_ ?_
    · rintro d i i1 hrec
      (repeat (first | ((with_reducible refine VC.mkL ?_ fun _ => ?_); · first | omega | exact True.intro | rfl) | ((with_reducible refine VC.mkD ?_ fun _ => ?_); · first | omega | exact True.intro | (intros; omega)) | ((with_reducible refine dEnd.mk ?_ ?_); · kernel_rfl) | (with_reducible refine adrZ.go ?_) | (simp [go_sem])))
      refine aIf.mkL (fun hi => ?_) (fun hi => ?_) <;> simp at hi
      · (repeat (first | ((with_reducible refine VC.mkL ?_ fun _ => ?_); · first | omega | exact True.intro | rfl) | ((with_reducible refine VC.mkD ?_ fun _ => ?_); · first | omega | exact True.intro | (intros; omega)) | ((with_reducible refine dEnd.mk ?_ ?_); · kernel_rfl) | (with_reducible refine adrZ.go ?_) | (simp [go_sem, hi])))
        refine ACallP.ownsPlain hcp0 (by simp [go_sem]) ?_
        (repeat (first | ((with_reducible refine VC.mkL ?_ fun _ => ?_); · first | omega | exact True.intro | rfl) | ((with_reducible refine VC.mkD ?_ fun _ => ?_); · first | omega | exact True.intro | (intros; omega)) | ((with_reducible refine dEnd.mk ?_ ?_); · kernel_rfl) | (with_reducible refine adrZ.go ?_) | (simp [go_sem])))
        refine dCall.owns 67 (by rfl) (hcp1) (by decide) (by simp [go_sem]) (by simp [go_sem]) (fun _ => LeRow.refl _ _ _ _) (by simp [go_sem]) (by simp [go_sem]) ?_
        (repeat (first | ((with_reducible refine VC.mkL ?_ fun _ => ?_); · first | omega | exact True.intro | rfl) | ((with_reducible refine VC.mkD ?_ fun _ => ?_); · first | omega | exact True.intro | (intros; omega)) | ((with_reducible refine dEnd.mk ?_ ?_); · kernel_rfl) | (with_reducible refine adrZ.go ?_) | (simp [go_sem])))
        refine dCall.owns 131 (by rfl) (hcp2) (by decide) (by simp [go_sem]) (by simp [go_sem]) (fun _ => LeRow.refl _ _ _ _) (by simp [go_sem]) (by simp [go_sem]) ?_
        ((repeat (first | ((with_reducible refine VC.mkL ?_ fun _ => ?_); · first | omega | exact True.intro | rfl) | ((with_reducible refine VC.mkD ?_ fun _ => ?_); · first | omega | exact True.intro | (intros; omega)) | (with_reducible refine adrZ.go ?_) | (simp [go_sem]))); refine dEnd.mkN (by kernel_rfl) ?_)
        (repeat (first | ((with_reducible refine VC.mkL ?_ fun _ => ?_); · first | omega | exact True.intro | rfl) | ((with_reducible refine VC.mkD ?_ fun _ => ?_); · first | omega | exact True.intro | (intros; omega)) | ((with_reducible refine dEnd.mk ?_ ?_); · kernel_rfl) | (with_reducible refine adrZ.go ?_) | (simp [go_sem, hcl])))
        obtain ⟨w, hw⟩ : ∃ w, w = nth pl i := ⟨_, rfl⟩
        obtain ⟨⟨w1, w2⟩, w3, w4⟩ := hpo.2 _ (nth_mem hi)
        have hsu : out (i + 1) = out i ++ (outW g 0 (startT p cell) w).toList := by
          rw [hout, hw]
          simp only
          rw [List.take_add_one, List.getElem?_eq_getElem hi, nth_eq _ _ hi, List.filterMap_append]
          simp only [Option.toList_some, List.filterMap_cons, List.filterMap_nil]
          cases outW g 0 (startT p cell) pl[i] <;> rfl
        rw [← hw] at w1 w2 w3 w4 ⊢
        obtain ⟨t0, ht0⟩ : ∃ t0, t0 = startT p cell := ⟨_, rfl⟩
        have hst : POk g t0.p := by rw [ht0]; exact hp.clr _
        have hrow : tkAt 6 67 131 t0 = [.sl 6 1 1 0 p.at_.length, .sl 67 1 1 0 p.h0.length, .sl 131 1 1 0 p.h1.length, .v (.int .i64 p.rights), .v (.int .i64 p.side), .v (.int .i64 mk), .v (.bool false)] := by
          rw [ht0]; simp [tkAt, startT, clr, hm]
        have hat0 : t0.p.at_.map encI = (p.at_.map encI).set cell.toNat [.v (.int .i64 0)] := by rw [ht0]; simp [startT, clr, List.map_set, encI]
        have hh0 : t0.p.h0 = p.h0 := by rw [ht0]; rfl
        have hh1 : t0.p.h1 = p.h1 := by rw [ht0]; rfl
        rw [← ht0] at hsu
        have hlo : (out i).length ≤ 1000000000 := by
          have h1 : (out i).length ≤ (pl.take i).length := by rw [hout]; exact List.length_filterMap_le _ _
          have h2 := List.length_take_le i pl
          have := hpo.1
          have h3 : (pl.take i).length ≤ pl.length := by rw [List.length_take]; omega
          omega
        refine ALoop.start (ALoop.ind (α := Nat × TkD) (fun a => ⟨[(3, .v (.int .i64 cell)), (4, .ref 0 0 9 0 0), (6, .ref 2 0 5 0 0), (9, .v (.int .i64 mk)), (10, .v (.int .i64 0)), (11, .sl 3 (out i).length 6 0 (out i).length), (13, .ref 4 0 2 0 0), (14, .ref 5 0 7 0 0),
            (52, encPt pl), (53, .v (.int .i64 pl.length)), (54, .v (.int .i64 i)), (83, encAs w.acts), (84, .v (.int .i64 w.acts.length)), (85, .v (.int .i64 a.1))],
          [(0, .rows true 0 9 [encGame g]), (2, .rows true 0 5 [encPos p]), (3, .rows true (out i).length 6 ((out i).map encOut)), (4, .rows true 0 2 [encPath w]), (5, .rows true 0 7 [tkAt 6 67 131 a.2]), (6, .rows true 1 1 (a.2.p.at_.map encI)), (67, .rows true 1 1 (a.2.p.h0.map encI)), (131, .rows true 1 1 (a.2.p.h1.map encI))], 211⟩)
          (fun d a => a.1 + d = w.acts.length ∧ doAs g 0 t0 (w.acts.take a.1) = some a.2 ∧ POk g a.2.p) ?_ w.acts.length (0, t0) ?_) ?_ ?_
        · rintro d2 ⟨j, t⟩ ⟨j1, j2, j3⟩ hrec2
          simp only at j1 j2 j3
          (repeat (first | ((with_reducible refine VC.mkL ?_ fun _ => ?_); · first | omega | exact True.intro | rfl) | ((with_reducible refine VC.mkD ?_ fun _ => ?_); · first | omega | exact True.intro | (intros; omega)) | ((with_reducible refine dEnd.mk ?_ ?_); · kernel_rfl) | (with_reducible refine adrZ.go ?_) | (simp [go_sem])))
          refine aIf.mkL (fun hj => ?_) (fun hj => ?_) <;> simp at hj
          · have hx := w4 _ (nth_mem hj)
            have hts : doAs g 0 t0 (w.acts.take (j + 1)) = if (doA g 0 t (nth w.acts j)).2 = true then some (doA g 0 t (nth w.acts j)).1 else none := by
              rw [List.take_add_one, List.getElem?_eq_getElem hj, nth_eq _ _ hj, Option.toList_some, doAs_snoc, j2]; rfl
            have hok := doA_ok hg (.inl rfl) j3 hx
            obtain ⟨x, hxe⟩ : ∃ x, x = nth w.acts j := ⟨_, rfl⟩
            rw [← hxe] at hx hts hok
            (repeat (first | ((with_reducible refine VC.mkL ?_ fun _ => ?_); · first | omega | exact True.intro | rfl) | ((with_reducible refine VC.mkD ?_ fun _ => ?_); · first | omega | exact True.intro | (intros; omega)) | ((with_reducible refine dEnd.mk ?_ ?_); · kernel_rfl) | (with_reducible refine adrZ.go ?_) | (simp [go_sem, hj])))
            rw [← hxe]
            refine do_call g hg 0 (.inl rfl) t j3 x hx (o := 5) (a := 6) (b := 67) (c := 131) (by decide) (by simp) (by simp [upd]) (by simp [upd]) (by simp [upd]) (by simp [upd]) ?_
            unfold tkUp
            obtain ⟨t', ht'⟩ : ∃ t', t' = (doA g 0 t x).1 := ⟨_, rfl⟩
            rw [← ht'] at hts hok ⊢
            by_cases hd : (doA g 0 t x).2 = true
            · rw [if_pos hd] at hts
              (repeat (first | ((with_reducible refine VC.mkL ?_ fun _ => ?_); · first | omega | exact True.intro | rfl) | ((with_reducible refine VC.mkD ?_ fun _ => ?_); · first | omega | exact True.intro | (intros; omega)) | ((with_reducible refine dEnd.mk ?_ ?_); · kernel_rfl) | (with_reducible refine adrZ.go ?_) | (simp [go_sem, hd])))
              refine ALoop.start (hrec2 (d2 - 1) (by omega) (j + 1, t') ⟨by simp only; omega, hts, hok hd⟩) ?_ (by simp)
              simp [go_sem, Wk_eq]
              simp [tkAt, go_sem]
            · rw [if_neg hd] at hts
              have hW : outW g 0 t0 w = none := by unfold outW stW; rw [doAs_none hts]; rfl
              rw [hW, Option.toList_none, List.append_nil] at hsu
              simp only [Bool.not_eq_true] at hd
              (repeat (first | ((with_reducible refine VC.mkL ?_ fun _ => ?_); · first | omega | exact True.intro | rfl) | ((with_reducible refine VC.mkD ?_ fun _ => ?_); · first | omega | exact True.intro | (intros; omega)) | ((with_reducible refine dEnd.mk ?_ ?_); · kernel_rfl) | (with_reducible refine adrZ.go ?_) | (simp [go_sem, hd])))
              refine ALoop.start (hrec (d - 1) (by omega) (i + 1) (by omega)) ?_ (by simp)
              simp [go_sem, Wk_eq, hsu]
          · have hjl : j = w.acts.length := by omega
            subst hjl
            rw [List.take_length] at j2
            have hwl : w.to.toNat < t.p.at_.length := by have := j3.al; omega
            have hW : outW g 0 t0 w = putS 0 (stT t w.to) := by unfold outW stW; rw [j2]; rfl
            rw [hW] at hsu
            have hcode := gCode_pure t.kind 0
            by_cases hto : nth t.p.at_ w.to.toNat = 0
            · have hP : putS 0 (stT t w.to) = some ⟨{ t.p with at_ := t.p.at_.set w.to.toNat (codeOf t.kind 0), side := 1 - 0 }, t.took⟩ := by unfold putS; exact if_pos hto
              rw [hP, Option.toList_some] at hsu
              (repeat (first | ((with_reducible refine VC.mkL ?_ fun _ => ?_); · first | omega | exact True.intro | rfl) | ((with_reducible refine VC.mkD ?_ fun _ => ?_); · first | omega | exact True.intro | (intros; omega)) | ((with_reducible refine dEnd.mk ?_ ?_); · kernel_rfl) | (with_reducible refine adrZ.go ?_) | (simp [go_sem, hwl, hto, tkAt])))
              try ((with_reducible refine adrZ.go ?_); (try simp [go_sem]))
              refine dCall.plain hcode (by simp [go_sem]) ?_
              (repeat (first | ((with_reducible refine VC.mkL ?_ fun _ => ?_); · first | omega | exact True.intro | rfl) | ((with_reducible refine VC.mkD ?_ fun _ => ?_); · first | omega | exact True.intro | (intros; omega)) | ((with_reducible refine dEnd.mk ?_ ?_); · kernel_rfl) | (with_reducible refine adrZ.go ?_) | (simp [go_sem, hwl, hto, tkAt])))
              refine ALoop.start (hrec (d - 1) (by omega) (i + 1) (by omega)) ?_ (by simp)
              simp [go_sem, Wk_eq, hsu]
              ((refine leRows_append (.refl _) ?_); (repeat (first | (with_reducible exact LeRows.nil) | (with_reducible refine LeRows.cons ?_ ?_) | (with_reducible exact LeRow.nil) | (with_reducible refine LeRow.cons ?_ ?_) | (with_reducible exact LeV.refl _) | (refine leV_frz rfl (by simp) (by simp [noH, upd]) ?_; first | (simp [go_sem]; done) | (simp [go_sem]; exact List.take_of_length_le (by simp))))))
            · have hP : putS 0 (stT t w.to) = none := by unfold putS; exact if_neg hto
              rw [hP, Option.toList_none, List.append_nil] at hsu
              (repeat (first | ((with_reducible refine VC.mkL ?_ fun _ => ?_); · first | omega | exact True.intro | rfl) | ((with_reducible refine VC.mkD ?_ fun _ => ?_); · first | omega | exact True.intro | (intros; omega)) | ((with_reducible refine dEnd.mk ?_ ?_); · kernel_rfl) | (with_reducible refine adrZ.go ?_) | (simp [go_sem, hwl, hto, tkAt])))
              refine ALoop.start (hrec (d - 1) (by omega) (i + 1) (by omega)) ?_ (by simp)
              simp [go_sem, Wk_eq, hsu]
        · exact ⟨by simp, rfl, hst⟩
        · simp [go_sem, Wk_eq, hrow, hat0, hh0, hh1]
        · simp
      · have hil : i = pl.length := by omega
        subst hil
        have hall : out pl.length = pl.filterMap (outW g 0 (startT p cell)) := by rw [hout]; simp only [List.take_length]
        have hlo : (out pl.length).length ≤ 1000000000 := by
          rw [hall]
          exact Nat.le_trans (List.length_filterMap_le _ _) hpo.1
        have hfo : ∀ o ∈ out pl.length, FitsP o.pos := fun o ho => by
          rw [hall] at ho
          obtain ⟨w, hw, h⟩ := List.mem_filterMap.1 ho
          exact outW_fits hg (.inl rfl) (hp.clr _) (hpo.2 w hw).2.2 h
        rw [← hall] at hR'
        unfold sortU at hR'
        obtain ⟨o, ho⟩ : ∃ o, o = out pl.length := ⟨_, rfl⟩
        rw [← ho] at hlo hfo hR' ⊢
        (repeat (first | ((with_reducible refine VC.mkL ?_ fun _ => ?_); · first | omega | exact True.intro | rfl) | ((with_reducible refine VC.mkD ?_ fun _ => ?_); · first | omega | exact True.intro | (intros; omega)) | ((with_reducible refine dEnd.mk ?_ ?_); · kernel_rfl) | (with_reducible refine adrZ.go ?_) | (simp [go_sem])))
        refine sortO_call o hfo (by omega) (by simp [upd]) ?_
        have hsl : (sortC cmpO o).length = o.length := sortC_len o
        have hfs : ∀ x ∈ sortC cmpO o, FitsP x.pos := fun x hx => hfo x (sortC_mem.1 hx)
        generalize sortC cmpO o = so at *
        (repeat (first | ((with_reducible refine VC.mkL ?_ fun _ => ?_); · first | omega | exact True.intro | rfl) | ((with_reducible refine VC.mkD ?_ fun _ => ?_); · first | omega | exact True.intro | (intros; omega)) | ((with_reducible refine dEnd.mk ?_ ?_); · kernel_rfl) | (with_reducible refine adrZ.go ?_) | (simp [go_sem])))
        refine compact_call2 so _ _ hsl (by omega) hfs (by simp [upd]) (by omega) ?_
        rw [hR']
        (repeat (first | ((with_reducible refine VC.mkL ?_ fun _ => ?_); · first | omega | exact True.intro | rfl) | ((with_reducible refine VC.mkD ?_ fun _ => ?_); · first | omega | exact True.intro | (intros; omega)) | ((with_reducible refine dEnd.mk ?_ ?_); · kernel_rfl) | (with_reducible refine adrZ.go ?_) | (simp [go_sem])))
        refine leV_frz rfl (by simp) (by simp [noH, upd]) ?_
        simp
    · simp
    · simp [go_sem, Wk_eq, hout]
    · simp
  · have hcp0 := Clone_owns p.at_ (hp.fits hg).1
    have hcp1 := Clone_owns p.h0 (hp.fits hg).2.1
    have hcp2 := Clone_owns p.h1 (hp.fits hg).2.2
    have hmc : mk.toNat < c.2.length := by rw [hc.l1]; exact hmk
    have hcc : cell.toNat < (nth c.2 mk.toNat).length := by have := hc.k1 _ (nth_mem hmc); omega
    (repeat (first | ((with_reducible refine VC.mkL ?_ fun _ => ?_); · first | omega | exact True.intro | rfl) | ((with_reducible refine VC.mkD ?_ fun _ => ?_); · first | omega | exact True.intro | (intros; omega)) | ((with_reducible refine dEnd.mk ?_ ?_); · kernel_rfl) | (with_reducible refine adrZ.go ?_) | (simp [go_sem, h0, h1, hcl, h2])))
    refine ACallP.plain hM (by simp [go_sem]) ?_
    (repeat (first | ((with_reducible refine VC.mkL ?_ fun _ => ?_); · first | omega | exact True.intro | rfl) | ((with_reducible refine VC.mkD ?_ fun _ => ?_); · first | omega | exact True.intro | (intros; omega)) | ((with_reducible refine dEnd.mk ?_ ?_); · kernel_rfl) | (with_reducible refine adrZ.go ?_) | (simp [go_sem, hcl, hmc, hcc])))
    obtain ⟨pl, hpl⟩ : ∃ pl, pl = nth (nth c.2 mk.toNat) cell.toNat := ⟨_, rfl⟩
    have hpo := hc.p1 _ (nth_mem hmc) _ (nth_mem hcc)
    rw [show pathsC c 1 mk.toNat cell.toNat = pl from by rw [hpl]; rfl] at hR'
    rw [← hpl] at hpo ⊢
    obtain ⟨out, hout⟩ : ∃ out : Nat → List OutD, out = fun i => (pl.take i).filterMap (outW g 1 (startT p cell)) := ⟨_, rfl⟩
    refine ALoop.start (ALoop.ind (α := Nat) (fun i => ⟨[(3, .v (.int .i64 cell)), (4, .ref 0 0 9 0 0), (6, .ref 2 0 5 0 0), (9, .v (.int .i64 mk)), (10, .v (.int .i64 1)), (11, .sl 3 (out i).length 6 0 (out i).length), (52, encPt pl), (53, .v (.int .i64 pl.length)), (54, .v (.int .i64 i))],
      [(0, .rows true 0 9 [encGame g]), (2, .rows true 0 5 [encPos p]), (3, .rows true (out i).length 6 ((out i).map encOut))], 4⟩)
      (fun d i => i + d = pl.length) ?_ pl.length 0 ?_) ?_ ?_
    · rintro d i i1 hrec
      (repeat (first | ((with_reducible refine VC.mkL ?_ fun _ => ?_); · first | omega | exact True.intro | rfl) | ((with_reducible refine VC.mkD ?_ fun _ => ?_); · first | omega | exact True.intro | (intros; omega)) | ((with_reducible refine dEnd.mk ?_ ?_); · kernel_rfl) | (with_reducible refine adrZ.go ?_) | (simp [go_sem])))
      refine aIf.mkL (fun hi => ?_) (fun hi => ?_) <;> simp at hi
      · (repeat (first | ((with_reducible refine VC.mkL ?_ fun _ => ?_); · first | omega | exact True.intro | rfl) | ((with_reducible refine VC.mkD ?_ fun _ => ?_); · first | omega | exact True.intro | (intros; omega)) | ((with_reducible refine dEnd.mk ?_ ?_); · kernel_rfl) | (with_reducible refine adrZ.go ?_) | (simp [go_sem, hi])))
        refine ACallP.ownsPlain hcp0 (by simp [go_sem]) ?_
        (repeat (first | ((with_reducible refine VC.mkL ?_ fun _ => ?_); · first | omega | exact True.intro | rfl) | ((with_reducible refine VC.mkD ?_ fun _ => ?_); · first | omega | exact True.intro | (intros; omega)) | ((with_reducible refine dEnd.mk ?_ ?_); · kernel_rfl) | (with_reducible refine adrZ.go ?_) | (simp [go_sem])))
        refine dCall.owns 67 (by rfl) (hcp1) (by decide) (by simp [go_sem]) (by simp [go_sem]) (fun _ => LeRow.refl _ _ _ _) (by simp [go_sem]) (by simp [go_sem]) ?_
        (repeat (first | ((with_reducible refine VC.mkL ?_ fun _ => ?_); · first | omega | exact True.intro | rfl) | ((with_reducible refine VC.mkD ?_ fun _ => ?_); · first | omega | exact True.intro | (intros; omega)) | ((with_reducible refine dEnd.mk ?_ ?_); · kernel_rfl) | (with_reducible refine adrZ.go ?_) | (simp [go_sem])))
        refine dCall.owns 131 (by rfl) (hcp2) (by decide) (by simp [go_sem]) (by simp [go_sem]) (fun _ => LeRow.refl _ _ _ _) (by simp [go_sem]) (by simp [go_sem]) ?_
        ((repeat (first | ((with_reducible refine VC.mkL ?_ fun _ => ?_); · first | omega | exact True.intro | rfl) | ((with_reducible refine VC.mkD ?_ fun _ => ?_); · first | omega | exact True.intro | (intros; omega)) | (with_reducible refine adrZ.go ?_) | (simp [go_sem]))); refine dEnd.mkN (by kernel_rfl) ?_)
        (repeat (first | ((with_reducible refine VC.mkL ?_ fun _ => ?_); · first | omega | exact True.intro | rfl) | ((with_reducible refine VC.mkD ?_ fun _ => ?_); · first | omega | exact True.intro | (intros; omega)) | ((with_reducible refine dEnd.mk ?_ ?_); · kernel_rfl) | (with_reducible refine adrZ.go ?_) | (simp [go_sem, hcl])))
        obtain ⟨w, hw⟩ : ∃ w, w = nth pl i := ⟨_, rfl⟩
        obtain ⟨⟨w1, w2⟩, w3, w4⟩ := hpo.2 _ (nth_mem hi)
        have hsu : out (i + 1) = out i ++ (outW g 1 (startT p cell) w).toList := by
          rw [hout, hw]
          simp only
          rw [List.take_add_one, List.getElem?_eq_getElem hi, nth_eq _ _ hi, List.filterMap_append]
          simp only [Option.toList_some, List.filterMap_cons, List.filterMap_nil]
          cases outW g 1 (startT p cell) pl[i] <;> rfl
        rw [← hw] at w1 w2 w3 w4 ⊢
        obtain ⟨t0, ht0⟩ : ∃ t0, t0 = startT p cell := ⟨_, rfl⟩
        have hst : POk g t0.p := by rw [ht0]; exact hp.clr _
        have hrow : tkAt 6 67 131 t0 = [.sl 6 1 1 0 p.at_.length, .sl 67 1 1 0 p.h0.length, .sl 131 1 1 0 p.h1.length, .v (.int .i64 p.rights), .v (.int .i64 p.side), .v (.int .i64 mk), .v (.bool false)] := by
          rw [ht0]; simp [tkAt, startT, clr, hm]
        have hat0 : t0.p.at_.map encI = (p.at_.map encI).set cell.toNat [.v (.int .i64 0)] := by rw [ht0]; simp [startT, clr, List.map_set, encI]
        have hh0 : t0.p.h0 = p.h0 := by rw [ht0]; rfl
        have hh1 : t0.p.h1 = p.h1 := by rw [ht0]; rfl
        rw [← ht0] at hsu
        have hlo : (out i).length ≤ 1000000000 := by
          have h1 : (out i).length ≤ (pl.take i).length := by rw [hout]; exact List.length_filterMap_le _ _
          have h2 := List.length_take_le i pl
          have := hpo.1
          have h3 : (pl.take i).length ≤ pl.length := by rw [List.length_take]; omega
          omega
        refine ALoop.start (ALoop.ind (α := Nat × TkD) (fun a => ⟨[(3, .v (.int .i64 cell)), (4, .ref 0 0 9 0 0), (6, .ref 2 0 5 0 0), (9, .v (.int .i64 mk)), (10, .v (.int .i64 1)), (11, .sl 3 (out i).length 6 0 (out i).length), (13, .ref 4 0 2 0 0), (14, .ref 5 0 7 0 0),
            (52, encPt pl), (53, .v (.int .i64 pl.length)), (54, .v (.int .i64 i)), (83, encAs w.acts), (84, .v (.int .i64 w.acts.length)), (85, .v (.int .i64 a.1))],
          [(0, .rows true 0 9 [encGame g]), (2, .rows true 0 5 [encPos p]), (3, .rows true (out i).length 6 ((out i).map encOut)), (4, .rows true 0 2 [encPath w]), (5, .rows true 0 7 [tkAt 6 67 131 a.2]), (6, .rows true 1 1 (a.2.p.at_.map encI)), (67, .rows true 1 1 (a.2.p.h0.map encI)), (131, .rows true 1 1 (a.2.p.h1.map encI))], 211⟩)
          (fun d a => a.1 + d = w.acts.length ∧ doAs g 1 t0 (w.acts.take a.1) = some a.2 ∧ POk g a.2.p) ?_ w.acts.length (0, t0) ?_) ?_ ?_
        · rintro d2 ⟨j, t⟩ ⟨j1, j2, j3⟩ hrec2
          simp only at j1 j2 j3
          (repeat (first | ((with_reducible refine VC.mkL ?_ fun _ => ?_); · first | omega | exact True.intro | rfl) | ((with_reducible refine VC.mkD ?_ fun _ => ?_); · first | omega | exact True.intro | (intros; omega)) | ((with_reducible refine dEnd.mk ?_ ?_); · kernel_rfl) | (with_reducible refine adrZ.go ?_) | (simp [go_sem])))
          refine aIf.mkL (fun hj => ?_) (fun hj => ?_) <;> simp at hj
          · have hx := w4 _ (nth_mem hj)
            have hts : doAs g 1 t0 (w.acts.take (j + 1)) = if (doA g 1 t (nth w.acts j)).2 = true then some (doA g 1 t (nth w.acts j)).1 else none := by
              rw [List.take_add_one, List.getElem?_eq_getElem hj, nth_eq _ _ hj, Option.toList_some, doAs_snoc, j2]; rfl
            have hok := doA_ok hg (.inr rfl) j3 hx
            obtain ⟨x, hxe⟩ : ∃ x, x = nth w.acts j := ⟨_, rfl⟩
            rw [← hxe] at hx hts hok
            (repeat (first | ((with_reducible refine VC.mkL ?_ fun _ => ?_); · first | omega | exact True.intro | rfl) | ((with_reducible refine VC.mkD ?_ fun _ => ?_); · first | omega | exact True.intro | (intros; omega)) | ((with_reducible refine dEnd.mk ?_ ?_); · kernel_rfl) | (with_reducible refine adrZ.go ?_) | (simp [go_sem, hj])))
            rw [← hxe]
            refine do_call g hg 1 (.inr rfl) t j3 x hx (o := 5) (a := 6) (b := 67) (c := 131) (by decide) (by simp) (by simp [upd]) (by simp [upd]) (by simp [upd]) (by simp [upd]) ?_
            unfold tkUp
            obtain ⟨t', ht'⟩ : ∃ t', t' = (doA g 1 t x).1 := ⟨_, rfl⟩
            rw [← ht'] at hts hok ⊢
            by_cases hd : (doA g 1 t x).2 = true
            · rw [if_pos hd] at hts
              (repeat (first | ((with_reducible refine VC.mkL ?_ fun _ => ?_); · first | omega | exact True.intro | rfl) | ((with_reducible refine VC.mkD ?_ fun _ => ?_); · first | omega | exact True.intro | (intros; omega)) | ((with_reducible refine dEnd.mk ?_ ?_); · kernel_rfl) | (with_reducible refine adrZ.go ?_) | (simp [go_sem, hd])))
              refine ALoop.start (hrec2 (d2 - 1) (by omega) (j + 1, t') ⟨by simp only; omega, hts, hok hd⟩) ?_ (by simp)
              simp [go_sem, Wk_eq]
              simp [tkAt, go_sem]
            · rw [if_neg hd] at hts
              have hW : outW g 1 t0 w = none := by unfold outW stW; rw [doAs_none hts]; rfl
              rw [hW, Option.toList_none, List.append_nil] at hsu
              simp only [Bool.not_eq_true] at hd
              (repeat (first | ((with_reducible refine VC.mkL ?_ fun _ => ?_); · first | omega | exact True.intro | rfl) | ((with_reducible refine VC.mkD ?_ fun _ => ?_); · first | omega | exact True.intro | (intros; omega)) | ((with_reducible refine dEnd.mk ?_ ?_); · kernel_rfl) | (with_reducible refine adrZ.go ?_) | (simp [go_sem, hd])))
              refine ALoop.start (hrec (d - 1) (by omega) (i + 1) (by omega)) ?_ (by simp)
              simp [go_sem, Wk_eq, hsu]
          · have hjl : j = w.acts.length := by omega
            subst hjl
            rw [List.take_length] at j2
            have hwl : w.to.toNat < t.p.at_.length := by have := j3.al; omega
            have hW : outW g 1 t0 w = putS 1 (stT t w.to) := by unfold outW stW; rw [j2]; rfl
            rw [hW] at hsu
            have hcode := gCode_pure t.kind 1
            by_cases hto : nth t.p.at_ w.to.toNat = 0
            · have hP : putS 1 (stT t w.to) = some ⟨{ t.p with at_ := t.p.at_.set w.to.toNat (codeOf t.kind 1), side := 1 - 1 }, t.took⟩ := by unfold putS; exact if_pos hto
              rw [hP, Option.toList_some] at hsu
              (repeat (first | ((with_reducible refine VC.mkL ?_ fun _ => ?_); · first | omega | exact True.intro | rfl) | ((with_reducible refine VC.mkD ?_ fun _ => ?_); · first | omega | exact True.intro | (intros; omega)) | ((with_reducible refine dEnd.mk ?_ ?_); · kernel_rfl) | (with_reducible refine adrZ.go ?_) | (simp [go_sem, hwl, hto, tkAt])))
              try ((with_reducible refine adrZ.go ?_); (try simp [go_sem]))
              refine dCall.plain hcode (by simp [go_sem]) ?_
              (repeat (first | ((with_reducible refine VC.mkL ?_ fun _ => ?_); · first | omega | exact True.intro | rfl) | ((with_reducible refine VC.mkD ?_ fun _ => ?_); · first | omega | exact True.intro | (intros; omega)) | ((with_reducible refine dEnd.mk ?_ ?_); · kernel_rfl) | (with_reducible refine adrZ.go ?_) | (simp [go_sem, hwl, hto, tkAt])))
              refine ALoop.start (hrec (d - 1) (by omega) (i + 1) (by omega)) ?_ (by simp)
              simp [go_sem, Wk_eq, hsu]
              ((refine leRows_append (.refl _) ?_); (repeat (first | (with_reducible exact LeRows.nil) | (with_reducible refine LeRows.cons ?_ ?_) | (with_reducible exact LeRow.nil) | (with_reducible refine LeRow.cons ?_ ?_) | (with_reducible exact LeV.refl _) | (refine leV_frz rfl (by simp) (by simp [noH, upd]) ?_; first | (simp [go_sem]; done) | (simp [go_sem]; exact List.take_of_length_le (by simp))))))
            · have hP : putS 1 (stT t w.to) = none := by unfold putS; exact if_neg hto
              rw [hP, Option.toList_none, List.append_nil] at hsu
              (repeat (first | ((with_reducible refine VC.mkL ?_ fun _ => ?_); · first | omega | exact True.intro | rfl) | ((with_reducible refine VC.mkD ?_ fun _ => ?_); · first | omega | exact True.intro | (intros; omega)) | ((with_reducible refine dEnd.mk ?_ ?_); · kernel_rfl) | (with_reducible refine adrZ.go ?_) | (simp [go_sem, hwl, hto, tkAt])))
              refine ALoop.start (hrec (d - 1) (by omega) (i + 1) (by omega)) ?_ (by simp)
              simp [go_sem, Wk_eq, hsu]
        · exact ⟨by simp, rfl, hst⟩
        · simp [go_sem, Wk_eq, hrow, hat0, hh0, hh1]
        · simp
      · have hil : i = pl.length := by omega
        subst hil
        have hall : out pl.length = pl.filterMap (outW g 1 (startT p cell)) := by rw [hout]; simp only [List.take_length]
        have hlo : (out pl.length).length ≤ 1000000000 := by
          rw [hall]
          exact Nat.le_trans (List.length_filterMap_le _ _) hpo.1
        have hfo : ∀ o ∈ out pl.length, FitsP o.pos := fun o ho => by
          rw [hall] at ho
          obtain ⟨w, hw, h⟩ := List.mem_filterMap.1 ho
          exact outW_fits hg (.inr rfl) (hp.clr _) (hpo.2 w hw).2.2 h
        rw [← hall] at hR'
        unfold sortU at hR'
        obtain ⟨o, ho⟩ : ∃ o, o = out pl.length := ⟨_, rfl⟩
        rw [← ho] at hlo hfo hR' ⊢
        (repeat (first | ((with_reducible refine VC.mkL ?_ fun _ => ?_); · first | omega | exact True.intro | rfl) | ((with_reducible refine VC.mkD ?_ fun _ => ?_); · first | omega | exact True.intro | (intros; omega)) | ((with_reducible refine dEnd.mk ?_ ?_); · kernel_rfl) | (with_reducible refine adrZ.go ?_) | (simp [go_sem])))
        refine sortO_call o hfo (by omega) (by simp [upd]) ?_
        have hsl : (sortC cmpO o).length = o.length := sortC_len o
        have hfs : ∀ x ∈ sortC cmpO o, FitsP x.pos := fun x hx => hfo x (sortC_mem.1 hx)
        generalize sortC cmpO o = so at *
        (repeat (first | ((with_reducible refine VC.mkL ?_ fun _ => ?_); · first | omega | exact True.intro | rfl) | ((with_reducible refine VC.mkD ?_ fun _ => ?_); · first | omega | exact True.intro | (intros; omega)) | ((with_reducible refine dEnd.mk ?_ ?_); · kernel_rfl) | (with_reducible refine adrZ.go ?_) | (simp [go_sem])))
        refine compact_call2 so _ _ hsl (by omega) hfs (by simp [upd]) (by omega) ?_
        rw [hR']
        (repeat (first | ((with_reducible refine VC.mkL ?_ fun _ => ?_); · first | omega | exact True.intro | rfl) | ((with_reducible refine VC.mkD ?_ fun _ => ?_); · first | omega | exact True.intro | (intros; omega)) | ((with_reducible refine dEnd.mk ?_ ?_); · kernel_rfl) | (with_reducible refine adrZ.go ?_) | (simp [go_sem])))
        refine leV_frz rfl (by simp) (by simp [noH, upd]) ?_
        simp
    · simp
    · simp [go_sem, Wk_eq, hout]
    · simp
end Go.Av
end
