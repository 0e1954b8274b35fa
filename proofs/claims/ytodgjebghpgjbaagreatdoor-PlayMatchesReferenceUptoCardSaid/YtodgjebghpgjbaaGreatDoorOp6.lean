/- Contracts, moves: Walk, Made of the reference. -/
import Derived.Test.YtodgjebghpgjbaaGreatDoorDJ
import Derived.Test.YtodgjebghpgjbaaGreatDoorDA
import Derived.Test.YtodgjebghpgjbaaGreatDoorSP
import GoSem.ClaimJoined
import Derived.Test.YtodgjebghpgjbaaGreatDoorAvC
import Derived.OpenShut
import Derived.Test.YtodgjebghpgjbaaGreatDoorRows
import Derived.Test.YtodgjebghpgjbaaGreatDoorDB
section
set_option linter.unusedSimpArgs false
set_option linter.unusedVariables false
open Go Go.Proofs
set_option maxRecDepth 20000
set_option maxHeartbeats 4000000
namespace Go.Av
theorem R6Walk_pure (g : GameD) (hg : GOk g) (p : PosD) (hp : POk g p) (picks : List Int) (hl : picks.length ≤ 4294967296) (hk : ∀ k ∈ picks, 0 ≤ k ∧ k ≤ 9223372036854775807) :
    Pure Tryz.prog 27 [.agg (encGame g), .agg (encPos p), encIs picks] (encPs (walkP g p picks)) := by
  refine Pure.of (ACallP.of_awp (by kernel_rfl) Tryz.func27 rfl rfl (Nat.le_of_ble_eq_true rfl) (by kernel_rfl) ?_)
  generalize hR : walkP g p picks = R
  (repeat (first | with_reducible (first | refine wL fun _ => ?_ | refine wD fun _ => ?_ | refine wE ?_ | refine adrZ.go ?_) | simp [go_sem]))
  refine ALoop.start (ALoop.ind (α := Nat × List PosD × PosD) (fun a => ⟨[(2, encIs picks), (3, .ref 0 0 9 0 0), (4, .ref 1 0 5 0 0), (7, .sl 2 a.2.1.length 5 0 (a.2.1.length + 1)), (8, .v (.int .i64 a.1))], [(0, .rows true 0 9 [encGame g]), (1, .rows true 0 5 [encPos a.2.2]), (2, .rows true a.2.1.length 5 ((a.2.1 ++ [a.2.2]).map encPos))], 3⟩)
    (fun d a => a.1 + d = picks.length ∧ a.2.1.length = a.1 ∧ POk g a.2.2 ∧ R = a.2.1 ++ walkP g a.2.2 (picks.drop a.1)) ?_ picks.length (0, [], p) ?_) ?_ ?_
  · rintro d ⟨i, pre, cur⟩ ⟨i1, i2, i3, i4⟩ hrec
    simp only at i1 i2 i3 i4
    (repeat (first | with_reducible (first | refine wL fun _ => ?_ | refine wD fun _ => ?_ | refine wE ?_ | refine adrZ.go ?_) | simp [go_sem]))
    refine aIf.mkL (fun hi => ?_) (fun hi => ?_) <;> simp at hi
    · have hM := R6Moves_pure g hg cur i3
      have hki := hk _ (nth_mem hi)
      have hml := movesP_len hg i3
      have hmo := movesP_ok hg i3
      rw [dropG_cons hi, walkP] at i4
      generalize movesP g cur = l at *
      (repeat (first | with_reducible (first | refine wL fun _ => ?_ | refine wD fun _ => ?_ | refine wE ?_ | refine adrZ.go ?_) | simp [go_sem]))
      refine ACallP.plain hM (by simp [go_sem]) ?_
      (repeat (first | with_reducible (first | refine wL fun _ => ?_ | refine wD fun _ => ?_ | refine wE ?_ | refine adrZ.go ?_) | simp [go_sem]))
      by_cases hz : l = []
      · rw [if_pos hz] at i4
        subst hz
        (repeat (first | with_reducible (first | refine wL fun _ => ?_ | refine wD fun _ => ?_ | refine wE ?_ | refine adrZ.go ?_) | simp [go_sem]))
        rw [i4]
        (refine leV_frz rfl (by simp) (by simp [noH, upd]) ?_; first | (simp [go_sem]; done) | (simp [go_sem]; exact List.take_of_length_le (by simp)))
      · rw [if_neg hz] at i4
        have hlp : 0 < l.length := List.length_pos_iff.2 hz
        have e1 : (nth picks i).tmod l.length = (nth picks i).emod l.length := Int.tmod_eq_emod_of_nonneg hki.1
        have e2 : 0 ≤ (nth picks i).emod l.length := Int.emod_nonneg _ (by omega)
        have e3 : (nth picks i).emod l.length < l.length := Int.emod_lt_of_pos _ (by omega)
        generalize (nth picks i).emod l.length = j at *
        have hjl : j.toNat < l.length := by omega
        (repeat (first | with_reducible (first | refine wL fun _ => ?_ | refine wD fun _ => ?_ | refine wE ?_ | refine adrZ.go ?_) | simp [go_sem, hi, hz, e1, hjl]))
        (refine aIf.mkL (fun hF => by first | omega | (simp at hF; omega)) (fun hF => ?_); clear hF)
        (repeat (first | with_reducible (first | refine wL fun _ => ?_ | refine wD fun _ => ?_ | refine wE ?_ | refine adrZ.go ?_) | simp [go_sem, hjl]))
        refine ALoop.start (hrec (d - 1) (by omega) (i + 1, pre ++ [cur], nth l j.toNat) ⟨by simp only; omega, by simp; omega, (hmo _ (nth_mem hjl)).1, by simpa using i4⟩) ?_ (by simp)
        simp [go_sem, Wk_eq]
    · rw [List.drop_eq_nil_of_le hi, walkP] at i4
      (repeat (first | with_reducible (first | refine wL fun _ => ?_ | refine wD fun _ => ?_ | refine wE ?_ | refine adrZ.go ?_) | simp [go_sem]))
      rw [i4]
      (refine leV_frz rfl (by simp) (by simp [noH, upd]) ?_; first | (simp [go_sem]; done) | (simp [go_sem]; exact List.take_of_length_le (by simp)))
  · exact ⟨by simp, rfl, hp, by simp [hR]⟩
  · simp [go_sem, Wk_eq]
  · simp
structure Raw6 where
  g : RawG
  p : RawP
  picks : List Int
structure Raw6Ok (x : Raw6) : Prop where
  g : RawOk x.g
  p : RawPOk x.p
  k : ∀ n ∈ x.picks, U8 n
  lk : x.picks.length ≤ 1099511627776
  l0 : x.g.k0.length ≤ 1099511627776
  l1 : x.g.k1.length ≤ 1099511627776
  lc : x.g.c.length ≤ 1099511627776
def encRaw6 (x : Raw6) : List AV := encRaw x.g ++ (encRawP x.p ++ [encUs x.picks])
def game6 (x : Raw6) : GameD := madeG x.g
def walk6 (x : Raw6) : List PosD := walkP (game6 x) (madePos (game6 x) x.p) (x.picks.take 6)
def pos6 (x : Raw6) : PosD := nth (walk6 x) ((walk6 x).length - 1)
theorem game6_ok {x : Raw6} (hx : Raw6Ok x) : GOk (game6 x) := madeG_ok hx.g
theorem pos6_ok {x : Raw6} (hx : Raw6Ok x) : POk (game6 x) (pos6 x) := by
  have hne := List.length_pos_iff.2 (walkP_ne (game6 x) (madePos (game6 x) x.p) (x.picks.take 6))
  exact walkP_ok (game6_ok hx) _ (madePos_ok (game6_ok hx) hx.p) _ (nth_mem (by unfold walk6; omega))
theorem R6Made_pure (x : Raw6) (hx : Raw6Ok x) : Pure Tryz.prog 17 [.agg (encRaw6 x)] (.tup [.agg (encGame (game6 x)), .agg (encPos (pos6 x))]) := by
  refine Pure.of (ACallP.of_awp (by kernel_rfl) Tryz.func17 rfl rfl (Nat.le_of_ble_eq_true rfl) (by kernel_rfl) ?_)
  have hg := game6_ok hx
  have hG := R3Made_pure x.g hx.g hx.lc hx.l0 hx.l1
  have hP := R4Made_pure (game6 x) hg x.p hx.p
  have hlk := hx.lk
  have hW := R6Walk_pure (game6 x) hg (madePos (game6 x) x.p) (madePos_ok hg hx.p) (x.picks.take 6) (by simp; omega) (fun k hk => by have := hx.k k (List.mem_of_mem_take hk); have h0 := this.1; have h1 := this.2; omega)
  have hwl := walkP_len (game6 x) (x.picks.take 6) (madePos (game6 x) x.p)
  have hwp := List.length_pos_iff.2 (walkP_ne (game6 x) (madePos (game6 x) x.p) (x.picks.take 6))
  rw [show walkP (game6 x) (madePos (game6 x) x.p) (x.picks.take 6) = walk6 x from rfl] at hW hwl hwp
  have hq : pos6 x = nth (walk6 x) ((walk6 x).length - 1) := rfl
  rw [show madeG x.g = game6 x from rfl] at hG
  obtain ⟨eg, heg⟩ : ∃ eg, eg = encGame (game6 x) := ⟨_, rfl⟩
  have hegl : eg.length = 9 := by rw [heg]; rfl
  have hegb : ∀ n, (∀ c ∈ eg, Bel n c) = True := fun n => by rw [heg]; simp [go_sem]
  rw [← heg] at hG hP hW ⊢
  generalize walk6 x = w at *
  generalize pos6 x = q at *
  unfold encRaw6
  have hrow := rawRow hx.p
  obtain ⟨er, her⟩ : ∃ er, er = encRawP x.p := ⟨_, rfl⟩
  rw [← her] at hrow hP ⊢
  obtain ⟨rl, _, _, _, _, _, rb⟩ := hrow
  obtain ⟨er1, her1⟩ : ∃ er1, er1 = encRaw x.g := ⟨_, rfl⟩
  have er1l : er1.length = 12 := by rw [her1]; rfl
  have er1b : ∀ n, (∀ c ∈ er1, Bel n c) = True := fun n => by rw [her1]; simp [go_sem]
  rw [← her1] at hG ⊢
  have hc30 : cel (er1 ++ (er ++ [AV.lst 1 (x.picks.map encU)])) 30 = .lst 1 (x.picks.map encU) := by
    unfold cel
    rw [List.getD_eq_getElem?_getD, List.getElem?_append_right (by omega), List.getElem?_append_right (by omega)]
    simp [er1l, rl]
  have hd12 : List.take 18 (List.drop 12 (er1 ++ (er ++ [AV.lst 1 (x.picks.map encU)]))) = er := by
    rw [← er1l, List.drop_left, ← rl, List.take_left]
  (repeat (first | with_reducible (first | refine wL fun _ => ?_ | refine wD fun _ => ?_ | refine wE ?_ | refine adrZ.go ?_) | simp [go_sem, rl, rb, er1l, er1b, hegl, hegb]))
  refine ACallP.plain hG (by simp [go_sem, er1b]) ?_
  (repeat (first | with_reducible (first | refine wL fun _ => ?_ | refine wD fun _ => ?_ | refine wE ?_ | refine adrZ.go ?_) | simp [go_sem, rl, rb, er1l, er1b, hegl, hegb, hc30]))
  obtain ⟨pk, hpk⟩ : ∃ pk : Nat → List Int, ∀ i, pk i = x.picks.take i := ⟨_, fun _ => rfl⟩
  have htl : ∀ i, i ≤ x.picks.length → (pk i).length = i := fun i hi => by rw [hpk]; simp; omega
  have hts : ∀ i, i < x.picks.length → pk (i + 1) = pk i ++ [nth x.picks i] := fun i hi => by rw [hpk, hpk, List.take_add_one, List.getElem?_eq_getElem hi, nth_eq _ _ hi]; rfl
  have hp0 : pk 0 = [] := by rw [hpk]; rfl
  rw [← hpk] at hW
  refine ALoop.start (ALoop.ind (α := Nat) (fun i => ⟨[(1, .ref 0 0 31 0 0), (2, .ref 1 0 9 0 0), (3, .ref 2 0 5 0 0), (4, .ref 3 0 9 0 0), (5, .sl 4 i 1 0 i), (6, .v (.int .i64 i))],
      [(0, .rows true 0 31 [er1 ++ (er ++ [AV.lst 1 (x.picks.map encU)])]), (1, .rows true 0 9 [[.v (.int .i64 0), AV.nils, AV.nils, AV.nils, .v (.int .i64 0), .v (.bool false), AV.nils, .v (.int .i64 0), .v (.int .i64 0)]]),
       (2, .rows true 0 5 [[AV.nils, AV.nils, AV.nils, .v (.int .i64 0), .v (.int .i64 0)]]), (3, .rows true 0 9 [eg]), (4, .rows true i 1 ((pk i).map encI))], 5⟩)
    (fun d i => i + d = min x.picks.length 6) ?_ (min x.picks.length 6) 0 ?_) ?_ ?_
  · rintro d i i1 hrec
    (repeat (first | with_reducible (first | refine wL fun _ => ?_ | refine wD fun _ => ?_ | refine wE ?_ | refine adrZ.go ?_) | simp [go_sem, rl, rb, er1l, er1b, hegl, hegb, hc30]))
    refine aIf.mkL (fun hi => ?_) (fun hi => ?_) <;> simp at hi
    · have hil : i < x.picks.length := by omega
      have hki := hx.k _ (nth_mem hil)
      have hk0 := hki.1
      have hk1 := hki.2
      have e1 := htl i (by omega)
      have e2 := hts i hil
      (repeat (first | with_reducible (first | refine wL fun _ => ?_ | refine wD fun _ => ?_ | refine wE ?_ | refine adrZ.go ?_) | simp [go_sem, rl, er1l, hc30, hil, e1]))
      refine ALoop.start (hrec (d - 1) (by omega) (i + 1) (by omega)) ?_ (by simp)
      simp [go_sem, Wk_eq, e2, rb, er1b, hegb]
    · have hil : i = min x.picks.length 6 := by omega
      have e1 := htl i (by omega)
      have e2 : pk i = pk 6 := by rw [hpk, hpk, hil, List.take_eq_take_iff]; omega
      rw [← e2] at hW
      (repeat (first | with_reducible (first | refine wL fun _ => ?_ | refine wD fun _ => ?_ | refine wE ?_ | refine adrZ.go ?_) | simp [go_sem, rl, rb, er1l, er1b, hegl, hegb, hd12]))
      try ((with_reducible refine adrZ.go ?_); (try simp [go_sem]))
      refine dCall.plain hP (by simp [go_sem, hegb, rb]) ?_
      (repeat (first | with_reducible (first | refine wL fun _ => ?_ | refine wD fun _ => ?_ | refine wE ?_ | refine adrZ.go ?_) | simp [go_sem, rl, rb, er1l, er1b, hegl, hegb]))
      try ((with_reducible refine adrZ.go ?_); (try simp [go_sem]))
      refine dCall.frz [.agg eg, .agg (encPos (madePos (game6 x) x.p)), encIs (pk i)] _ [4] [(4, some (.rows false i 1 ((pk i).map encI)))] hW ?_ ?_ (by simp [go_sem, hegb]) ?_
      · intro p hp
        simp only [List.mem_singleton] at hp
        subst hp
        exact ⟨by simp, i, 1, _, rfl, by simp [upd]⟩
      · intro h₁ hS
        have h7 := hS 4 (by simp)
        simp [upd] at h7
        exact .cons (.refl _) (.cons (.refl _) (.cons (leV_frz h7.symm (by simp [e1]) (by simp [applyW, upd]) (by rw [List.drop_zero, List.take_of_length_le (by simp [e1])])) .nil))
      · have h6 : (x.picks.take 6).length ≤ 6 := by simp; omega
        have hw7 : w.length ≤ 7 := by omega
        have hwi : ((w.length : Int) - 1).toNat = w.length - 1 := by omega
        have hwn : w.length - 1 < w.length := by omega
        rw [hq]
        (repeat (first | with_reducible (first | refine wL fun _ => ?_ | refine wD fun _ => ?_ | refine wE ?_ | refine adrZ.go ?_) | simp [go_sem, rl, rb, er1l, er1b, hegl, hegb, hwi, hwn]))
  · omega
  · simp [go_sem, Wk_eq, rb, er1b, hegb, hp0]
  · simp
theorem raw6_len {x : Raw6} (hx : Raw6Ok x) : (encRaw6 x).length = 31 := by
  obtain ⟨rl, _, _, _, _, _, rb⟩ := rawRow hx.p
  simp [encRaw6, encRaw, rl]
theorem raw6_bel {x : Raw6} (hx : Raw6Ok x) (n : Nat) : (∀ c ∈ encRaw6 x, Bel n c) = True := by
  obtain ⟨rl, _, _, _, _, _, rb⟩ := rawRow hx.p
  refine eq_true ?_
  intro c hc
  unfold encRaw6 at hc
  rcases List.mem_append.1 hc with h | h
  · have : (∀ c ∈ encRaw x.g, Bel n c) = True := by simp [go_sem]
    exact of_eq_true this c h
  · rcases List.mem_append.1 h with h | h
    · exact of_eq_true (rb n) c h
    · simp only [List.mem_singleton] at h
      subst h
      simp [go_sem]
end Go.Av
end
section
set_option linter.unusedSimpArgs false
set_option linter.unusedVariables false
open Go Go.Proofs
set_option maxRecDepth 20000
set_option maxHeartbeats 4000000
namespace Go.Av
theorem PlayMatchesReference_pure (x : Raw6) (hx : Raw6Ok x) (y : RawP) (hy : RawPOk y) (picks : List Int) (hl : picks.length ≤ 1048576) (hb : ∀ k ∈ picks, -9223372036854775808 ≤ k ∧ k ≤ 9223372036854775807) :
    Pure Tryz.prog 3 [.agg (encRaw6 x), .agg (encRawP y), encIs picks] (.v (.bool true)) := by
  refine Pure.of (ACallP.of_awp (by kernel_rfl) Tryz.func3 rfl rfl (Nat.le_of_ble_eq_true rfl) (by kernel_rfl) ?_)
  have hM := R6Made_pure x hx
  have hg := game6_ok hx
  have hp := pos6_ok hx
  obtain ⟨er, her⟩ : ∃ er, er = encRaw6 x := ⟨_, rfl⟩
  have herl : er.length = 31 := by rw [her]; exact raw6_len hx
  have herb : ∀ n, (∀ c ∈ er, Bel n c) = True := fun n => by rw [her]; exact raw6_bel hx n
  rw [← her] at hM ⊢
  generalize game6 x = g at *
  generalize pos6 x = p at *
  have hY := R4Made_pure g hg y hy
  have hqo := madePos_ok hg hy
  have hqf := hqo.fits hg
  obtain ⟨q, hq⟩ : ∃ q, q = madePos g y := ⟨_, rfl⟩
  rw [← hq] at hY hqo hqf
  obtain ⟨yl, _, _, _, _, _, yb⟩ := rawRow hy
  obtain ⟨ey, hey⟩ : ∃ ey, ey = encRawP y := ⟨_, rfl⟩
  rw [← hey] at hY yl yb ⊢
  have hS := sanity6_pure
  have hR := R6Moves_pure g hg p hp
  have hPM := Moves_pure g hg p hp
  have hml := movesP_len hg hp
  have hmf := fun m hm => ((movesP_ok hg hp) m hm).1.fits hg
  have hLm := fun m hm => Legal_pure g hg p hp m (hmf m hm)
  have hLq := Legal_pure g hg p hp q hqf
  have hLr := R6Legal_pure g hg p hp q hqf
  have hSt := lawStatus_pure g hg p hp
  have hSr := R6Status_pure g hg p hp
  have hSL := SameLists_pure (movesP g p) (movesP g p) (by omega) (by omega) hmf hmf
  rw [decide_eq_true rfl] at hSL
  have hW := Walk_pure g hg p hp picks hl
  have hWr := R6WalkA_pure g hg p hp picks (by omega)
  have hwl := walkP_len g picks p
  have hwf := fun m hm => (walkP_ok hg picks hp m hm).fits hg
  have hSW := SameLists_pure (walkP g p picks) (walkP g p picks) (by omega) (by omega) hwf hwf
  rw [decide_eq_true rfl] at hSW
  generalize walkP g p picks = w at *
  generalize statusV g p = st at *
  generalize hdq : decide (q ∈ movesP g p) = bq at *
  have hdm : ∀ m ∈ movesP g p, decide (m ∈ movesP g p) = true := fun m hm => decide_eq_true hm
  generalize movesP g p = l at *
  have hegl : (encGame g).length = 9 := rfl
  have hegb : ∀ n, (∀ c ∈ encGame g, Bel n c) = True := fun n => by simp [go_sem]
  generalize encGame g = eg at *
  (repeat (first | with_reducible (first | refine wL fun _ => ?_ | refine wD fun _ => ?_ | refine wE ?_ | refine adrZ.go ?_) | simp [go_sem, herl, yl]))
  refine ACallP.plain hS (by simp [go_sem]) ?_
  (repeat (first | with_reducible (first | refine wL fun _ => ?_ | refine wD fun _ => ?_ | refine wE ?_ | refine adrZ.go ?_) | simp [go_sem, herl, yl]))
  refine aIf.mkL (fun h6 => ?_) (fun h6 => ?_) <;> simp at h6
  · (repeat (first | with_reducible (first | refine wL fun _ => ?_ | refine wD fun _ => ?_ | refine wE ?_ | refine adrZ.go ?_) | simp [go_sem]))
  · (repeat (first | with_reducible (first | refine wL fun _ => ?_ | refine wD fun _ => ?_ | refine wE ?_ | refine adrZ.go ?_) | simp [go_sem, herl, yl]))
    refine ACallP.plain hM (by simp [go_sem, herb]) ?_
    (repeat (first | with_reducible (first | refine wL fun _ => ?_ | refine wD fun _ => ?_ | refine wE ?_ | refine adrZ.go ?_) | simp [go_sem, herl, yl, hegl]))
    refine ACallP.plain hY (by simp [go_sem, hegb, yb]) ?_
    (repeat (first | with_reducible (first | refine wL fun _ => ?_ | refine wD fun _ => ?_ | refine wE ?_ | refine adrZ.go ?_) | simp [go_sem, herl, yl, hegl]))
    refine ACallP.plain hR (by simp [go_sem, hegb]) ?_
    (repeat (first | with_reducible (first | refine wL fun _ => ?_ | refine wD fun _ => ?_ | refine wE ?_ | refine adrZ.go ?_) | simp [go_sem, herl, yl, hegl]))
    refine ALoop.start (ALoop.ind (α := Nat) (fun i => ⟨[(2, encIs picks), (7, .v (.bool true)), (8, .ref 2 0 9 0 0), (9, .ref 3 0 5 0 0), (10, .ref 4 0 5 0 0), (11, encPs l), (12, .v (.int .i64 i))], [(2, .rows true 0 9 [eg]), (3, .rows true 0 5 [encPos p]), (4, .rows true 0 5 [encPos q])], 5⟩)
      (fun d i => i + d = l.length) ?_ l.length 0 ?_) ?_ ?_
    · rintro d i i1 hrec
      (repeat (first | with_reducible (first | refine wL fun _ => ?_ | refine wD fun _ => ?_ | refine wE ?_ | refine adrZ.go ?_) | simp [go_sem, hegl]))
      refine aIf.mkL (fun hi => ?_) (fun hi => ?_) <;> simp at hi
      · have hm := nth_mem hi
        have hC := hLm _ hm
        rw [hdm _ hm] at hC
        (repeat (first | with_reducible (first | refine wL fun _ => ?_ | refine wD fun _ => ?_ | refine wE ?_ | refine adrZ.go ?_) | simp [go_sem, hegl, hi]))
        try ((with_reducible refine adrZ.go ?_); (try simp [go_sem]))
        refine dCall.plain hC (by simp [go_sem, hegb]) ?_
        (repeat (first | with_reducible (first | refine wL fun _ => ?_ | refine wD fun _ => ?_ | refine wE ?_ | refine adrZ.go ?_) | simp [go_sem, hegl, hi]))
        refine ALoop.start (hrec (d - 1) (by omega) (i + 1) (by omega)) ?_ (by simp)
        simp [go_sem, Wk_eq, hegb]
      · (repeat (first | with_reducible (first | refine wL fun _ => ?_ | refine wD fun _ => ?_ | refine wE ?_ | refine adrZ.go ?_) | simp [go_sem, hegl]))
        try ((with_reducible refine adrZ.go ?_); (try simp [go_sem]))
        refine dCall.plain hPM (by simp [go_sem, hegb]) ?_
        (repeat (first | with_reducible (first | refine wL fun _ => ?_ | refine wD fun _ => ?_ | refine wE ?_ | refine adrZ.go ?_) | simp [go_sem, hegl]))
        try ((with_reducible refine adrZ.go ?_); (try simp [go_sem]))
        refine dCall.plain hSL (by simp [go_sem]) ?_
        (repeat (first | with_reducible (first | refine wL fun _ => ?_ | refine wD fun _ => ?_ | refine wE ?_ | refine adrZ.go ?_) | simp [go_sem, hegl]))
        try ((with_reducible refine adrZ.go ?_); (try simp [go_sem]))
        refine dGC.plain _ (fun _ => hSt) (by simp [go_sem, hegb]) ?_
        (repeat (first | with_reducible (first | refine wL fun _ => ?_ | refine wD fun _ => ?_ | refine wE ?_ | refine adrZ.go ?_) | simp [go_sem, hegl]))
        try ((with_reducible refine adrZ.go ?_); (try simp [go_sem]))
        refine dGC.plain _ (fun _ => hSr) (by simp [go_sem, hegb]) ?_
        (repeat (first | with_reducible (first | refine wL fun _ => ?_ | refine wD fun _ => ?_ | refine wE ?_ | refine adrZ.go ?_) | simp [go_sem, hegl, encOver]))
        try ((with_reducible refine adrZ.go ?_); (try simp [go_sem]))
        refine dGC.plain _ (fun _ => hLq) (by simp [go_sem, hegb]) ?_
        (repeat (first | with_reducible (first | refine wL fun _ => ?_ | refine wD fun _ => ?_ | refine wE ?_ | refine adrZ.go ?_) | simp [go_sem, hegl]))
        try ((with_reducible refine adrZ.go ?_); (try simp [go_sem]))
        refine dGC.plain _ (fun _ => hLr) (by simp [go_sem, hegb]) ?_
        (repeat (first | with_reducible (first | refine wL fun _ => ?_ | refine wD fun _ => ?_ | refine wE ?_ | refine adrZ.go ?_) | simp [go_sem, hegl]))
        try ((with_reducible refine adrZ.go ?_); (try simp [go_sem]))
        refine dGC.plain _ (fun _ => hW) (by simp [go_sem, hegb]) ?_
        (repeat (first | with_reducible (first | refine wL fun _ => ?_ | refine wD fun _ => ?_ | refine wE ?_ | refine adrZ.go ?_) | simp [go_sem, hegl]))
        try ((with_reducible refine adrZ.go ?_); (try simp [go_sem]))
        refine dGC.plain _ (fun _ => hWr) (by simp [go_sem, hegb]) ?_
        (repeat (first | with_reducible (first | refine wL fun _ => ?_ | refine wD fun _ => ?_ | refine wE ?_ | refine adrZ.go ?_) | simp [go_sem, hegl]))
        try ((with_reducible refine adrZ.go ?_); (try simp [go_sem]))
        refine dGC.plain _ (fun _ => hSW) (by simp [go_sem]) ?_
        (repeat (first | with_reducible (first | refine wL fun _ => ?_ | refine wD fun _ => ?_ | refine wE ?_ | refine adrZ.go ?_) | simp [go_sem, hegl]))
    · simp
    · simp [go_sem, Wk_eq, hegb]
    · simp
end Go.Av
end
section
set_option linter.unusedSimpArgs false
set_option linter.unusedVariables false
open Go Go.Proofs
set_option maxRecDepth 100000
set_option maxHeartbeats 4000000
namespace Go.Av
theorem tok_func {P : Program} {t : TypeId} {fn : Fn} {first caps : Array Value} {l : List UInt8} (hl : l ≠ []) (h : funcToken P (t, .func fn first caps) = l) :
    ∃ f F, fn = .func f ∧ first = #[] ∧ caps = #[] ∧ P.funcs[f]? = some F ∧ P.funcNamed F.name = some f ∧ F.name.toUTF8.data.toList = l := by
  unfold funcToken at h
  cases fn with
  | func f =>
    simp only at h
    split at h
    · rename_i hc
      simp only [Bool.and_eq_true, Array.isEmpty_iff] at hc
      split at h
      · rename_i F hF
        split at h
        · rename_i hn
          exact ⟨f, F, rfl, hc.1, hc.2, hF, by simpa using hn, h⟩
        · exact absurd h.symm hl
      · exact absurd h.symm hl
    · exact absurd h.symm hl
  | _ => exact absurd h.symm hl
theorem trod_fn {P : Program} {w : World} {sp : Nat → Bool} {fuel : Nat} {e : TypeId} {d : TypeDesc} {v : Value} {l : List UInt8} {q : List MemPlace} (hd : P.underlying e = some d) (hf : ∃ a b c, d = .func a b c) (h : DataW.trod (funcToken P) P w 0 sp true fuel e [v] = some (.held l, q)) :
    ∃ fn first caps, v = .func fn first caps ∧ funcToken P (e, .func fn first caps) = l := by
  obtain ⟨a, b, c, rfl⟩ := hf
  cases fuel with
  | zero => simp [DataW.trod] at h
  | succ fuel =>
    simp only [DataW.trod, hd] at h
    cases v <;> simp at h
    exact ⟨_, _, _, rfl, h.1⟩
theorem trod_nilf {P : Program} {w : World} {sp : Nat → Bool} {fuel : Nat} {e : TypeId} {d : TypeDesc} {v : Value} {q : List MemPlace} (hd : P.underlying e = some d) (hf : ∃ a b c, d = .func a b c) (h : DataW.trod (funcToken P) P w 0 sp true fuel e [v] = some (.nil, q)) : v = .nilFunc := by
  obtain ⟨a, b, c, rfl⟩ := hf
  cases fuel with
  | zero => simp [DataW.trod] at h
  | succ fuel =>
    simp only [DataW.trod, hd] at h
    cases v <;> simp at h
    rfl
theorem bytes_name {a b : String} (h : a.toUTF8.data.toList = b.toUTF8.data.toList) : a = b := by
  have h1 : a.toUTF8 = b.toUTF8 := ByteArray.ext (Array.toList_inj.1 h)
  exact String.toByteArray_inj.1 h1
theorem fn_named {n : String} {k : FuncId} {l : List UInt8} {t : TypeId} {fn : Fn} {first caps : Array Value} (hk : Tryz.prog.funcNamed n = some k) (hl : n.toUTF8.data.toList = l) (hne : l ≠ []) (h : funcToken Tryz.prog (t, .func fn first caps) = l) : fn = .func k ∧ first = #[] ∧ caps = #[] := by
  obtain ⟨f, F, h1, h2, h3, h4, h5, h6⟩ := tok_func hne h
  have e : F.name = n := bytes_name (h6.trans hl.symm)
  rw [e, hk] at h5
  cases h5
  exact ⟨h1, h2, h3⟩
def condsD : DataW Unit := .agg [.nil, .iface "func" (.lit (.string [115, 107, 101, 119, 101, 114, 47, 112, 108, 97, 121, 46, 99, 111, 110, 100, 105, 116, 105, 111, 110, 115, 36, 49])), .iface "func" (.lit (.string [115, 107, 101, 119, 101, 114, 47, 112, 108, 97, 121, 46, 99, 111, 110, 100, 105, 116, 105, 111, 110, 115, 36, 50])), .iface "func" (.lit (.string [115, 107, 101, 119, 101, 114, 47, 112, 108, 97, 121, 46, 99, 111, 110, 100, 105, 116, 105, 111, 110, 115, 36, 51]))]
theorem conds_cells {W : World} (h : funcsAt Tryz.prog W "skewer/play.conditions" condsD) :
    ∃ cs T fz, W.heap[0]? = some (.cells cs T fz) ∧ cs.toList = [.nilFunc, .func (.func 218) #[] #[], .func (.func 219) #[] #[], .func (.func 220) #[] #[]] := by
  obtain ⟨g, t, cs, fuel, p, hg, ht, hcs, htr⟩ := h
  obtain rfl : g = 0 := (Option.some.inj ((show Tryz.prog.globalNamed "skewer/play.conditions" = some 0 by kernel_rfl).symm.trans hg)).symm
  obtain rfl : t = 146 := (Option.some.inj ((show (Tryz.prog.globals[0]?).map (·.type) = some 146 by kernel_rfl).symm.trans ht)).symm
  have hu : Tryz.prog.underlying 146 = some (.array 4 145) := by kernel_rfl
  have hc1 : Tryz.prog.cellsOf 145 = 1 := by kernel_rfl
  have hc4 : Tryz.prog.cellsOf 146 = 4 := by kernel_rfl
  have hheap : ∃ T fz, W.heap[0]? = some (.cells cs T fz) := by
    unfold World.var? at hcs
    rw [show Tryz.prog.globalNamed "skewer/play.conditions" = some 0 by kernel_rfl] at hcs
    simp only [Option.bind_some] at hcs
    split at hcs
    · rename_i c T fz hb
      cases hcs
      exact ⟨T, fz, hb⟩
    · cases hcs
  obtain ⟨T, fz, hb⟩ := hheap
  refine ⟨cs, T, fz, hb, ?_⟩
  cases fuel with
  | zero => simp [DataW.trod] at htr
  | succ fuel =>
    simp only [DataW.trod, hu, hc1, hc4, Nat.mul_one] at htr
    split at htr
    · rename_i hl
      match hcl : cs.toList, hl with
      | [a, b, c, d], _ =>
        rw [hcl] at htr
        obtain ⟨xs, hm, hx⟩ := Option.map_eq_some_iff.1 htr
        simp only [show List.range 4 = [0, 1, 2, 3] from rfl, List.mapM_cons, List.mapM_nil, List.drop_zero, List.drop_succ_cons, List.take_succ_cons, List.take_zero, Option.bind_eq_bind, Option.bind_eq_some_iff, Option.pure_def, Option.some.injEq] at hm
        obtain ⟨⟨y0, q0⟩, h0, l1, ⟨⟨y1, q1⟩, h1, l2, ⟨⟨y2, q2⟩, h2, l3, ⟨⟨y3, q3⟩, h3, l4, rfl, rfl⟩, rfl⟩, rfl⟩, rfl⟩ := hm
        have hx1 := congrArg Prod.fst hx
        simp only [condsD, DataW.funcsOut, DataW.funcsOutAll, List.map_cons, List.map_nil, DataW.agg.injEq, List.cons.injEq, and_true] at hx1
        simp at hx1
        obtain ⟨rfl, rfl, rfl, rfl⟩ := hx1
        have hd : Tryz.prog.underlying 145 = some (.func #[41, 44, 59] #[4] false) := by kernel_rfl
        have hf : ∃ a b c, TypeDesc.func #[41, 44, 59] #[4] false = .func a b c := ⟨_, _, _, rfl⟩
        obtain rfl := trod_nilf hd hf h0
        obtain ⟨f1, i1, c1, rfl, t1⟩ := trod_fn hd hf h1
        obtain ⟨f2, i2, c2, rfl, t2⟩ := trod_fn hd hf h2
        obtain ⟨f3, i3, c3, rfl, t3⟩ := trod_fn hd hf h3
        obtain ⟨rfl, rfl, rfl⟩ := fn_named (n := "skewer/play.conditions$1") (k := 218) (by kernel_rfl) (by decide +kernel) (by simp) t1
        obtain ⟨rfl, rfl, rfl⟩ := fn_named (n := "skewer/play.conditions$2") (k := 219) (by kernel_rfl) (by decide +kernel) (by simp) t2
        obtain ⟨rfl, rfl, rfl⟩ := fn_named (n := "skewer/play.conditions$3") (k := 220) (by kernel_rfl) (by decide +kernel) (by simp) t3
        rfl
    · cases htr
theorem glb_of_conds {W : World} (h : funcsAt Tryz.prog W "skewer/play.conditions" condsD) : GlbOk W (fun _ => False) := by
  obtain ⟨cs, T, fz, hb, hcs⟩ := conds_cells h
  have hsz : cs.size = 4 := by rw [← Array.length_toList, hcs]; rfl
  intro q hq
  have e : q = (0, [AV.v .nilFunc, .fn (.func 218) [] [], .fn (.func 219) [] [], .fn (.func 220) [] []]) := by simpa [glbs] using hq
  subst e
  refine Rel.fp (C := cs) (T := T) (fz := fz) rfl (fun h => h) hb (by simp [hsz]) ?_ ?_
  · intro u hu
    simp only [hcs, List.drop_zero] at hu
    simp at hu
    rcases hu with rfl | rfl | rfl | rfl <;> rfl
  · simp only [hcs, List.drop_zero]
    exact .cons (.v _) (.cons (.fn .nil .nil) (.cons (.fn .nil .nil) (.cons (.fn .nil .nil) .nil)))
end Go.Av
end
section
set_option linter.unusedSimpArgs false
set_option linter.unusedVariables false
namespace Go.Av
open Go

/-- no block -/
abbrev NoM : Nat → Prop := fun _ => False

/-- what is said of a datum's size -/
structure Bulk (B : Nat) (bk : ∀ {H : Type}, DataW H → Nat) : Prop where
  len : ∀ {H : Type} (l r : List (DataW H)), bk (.slice l r) ≤ B → l.length ≤ maxLen → l.length ≤ B
  elem : ∀ {H : Type} (l r : List (DataW H)) d, d ∈ l → bk (.slice l r) ≤ B → bk d ≤ B
  part : ∀ {H : Type} (l : List (DataW H)) d, d ∈ l → bk (.agg l) ≤ B → bk d ≤ B
  str : ∀ {H : Type} (l : List UInt8), bk (DataW.lit (H := H) (.string l)) ≤ B → l.length ≤ maxLen → l.length ≤ B

/-- no bound but that of the reading itself -/
theorem Bulk.any : Bulk maxLen (fun _ => 0) := ⟨fun _ _ _ h => h, fun _ _ _ _ _ => Nat.zero_le _, fun _ _ _ _ => Nat.zero_le _, fun _ _ h => h⟩

/-- A VALUE OF THE TYPE t, READ AS DATA, IS LAID AS 'en x' FOR AN x WITH Q. -/
def Opn (P : Program) (B : Nat) (bk : ∀ {H : Type}, DataW H → Nat) {α : Type} (t : TypeId) (en : α → List AV) (Q : α → Prop) : Prop :=
  ∀ {H : Type} (enc : TypeId × Value → H) (w : World) (fuel : Nat) (cs : List Value) (d : DataW H) (ps : List MemPlace),
    DataW.trod enc P w 0 (fun _ => true) true fuel t cs = some (d, ps) → bk d ≤ B → ∃ x, RelL noP w NoM (en x) cs ∧ (∀ c ∈ cs, cellV c = true) ∧ cs.length = P.cellsOf t ∧ Q x

section
variable {P : Program} {B : Nat} {bk : ∀ {H : Type}, DataW H → Nat}
theorem Opn.int {t : TypeId} {k : IntKind} (ht : P.underlying t = some (.int k)) (hc : P.cellsOf t = 1) : Opn P B bk t (fun n : Int => [.v (.int k n)]) (fun n => (Lit.int k n).wf = true) := by
  intro H enc w fuel cs d ps h _
  obtain ⟨n, rfl, _, hw⟩ := DataW.trod_int ht h
  exact ⟨n, .cons (.v _) .nil, by simp [cellV, Value.oneCell'], by simp [hc], hw⟩
theorem Opn.bool {t : TypeId} (ht : P.underlying t = some .bool) (hc : P.cellsOf t = 1) : Opn P B bk t (fun b : Bool => [.v (.bool b)]) (fun _ => True) := by
  intro H enc w fuel cs d ps h _
  obtain ⟨n, rfl, _⟩ := DataW.trod_bool ht h
  exact ⟨n, .cons (.v _) .nil, by simp [cellV, Value.oneCell'], by simp [hc], trivial⟩
theorem Opn.string {t : TypeId} (hB : Bulk B bk) (ht : P.underlying t = some .string) (hc : P.cellsOf t = 1) : Opn P B bk t (fun s : ByteArray => [.v (.string s)]) (fun s => s.size ≤ B) := by
  intro H enc w fuel cs d ps h hb
  obtain ⟨n, rfl, hx, hm⟩ := DataW.trod_string ht h
  simp only [Prod.mk.injEq] at hx
  obtain ⟨rfl, _⟩ := hx
  refine ⟨n, .cons (.v _) .nil, by simp [cellV, Value.oneCell'], by simp [hc], ?_⟩
  have := hB.str _ hb (by simpa using hm)
  simpa using this
theorem Opn.imp {α : Type} {t : TypeId} {en : α → List AV} {Q Q' : α → Prop} (h : Opn P B bk t en Q) (hq : ∀ x, Q x → Q' x) : Opn P B bk t en Q' := by
  intro H enc w fuel cs d ps h1 h2
  obtain ⟨x, a, b, c, e⟩ := h enc w fuel cs d ps h1 h2
  exact ⟨x, a, b, c, hq x e⟩
theorem Opn.map {α β : Type} {t : TypeId} {en : α → List AV} {en' : β → List AV} {Q : α → Prop} {Q' : β → Prop} (h : Opn P B bk t en Q) (f : α → β) (hq : ∀ x, Q x → Q' (f x)) (he : ∀ x, Q x → en' (f x) = en x) : Opn P B bk t en' Q' := by
  intro H enc w fuel cs d ps h1 h2
  obtain ⟨x, a, b, c, e⟩ := h enc w fuel cs d ps h1 h2
  exact ⟨f x, by rw [he x e]; exact a, b, c, hq x e⟩
theorem cells?_get {w : World} {a : Addr} {n : Nat} {cs : List Value} (h : w.cells? 0 a n = some cs) : cs.length = n ∧ ∀ i, i < n → w.cell? (a.add i) = cs[i]? := by
  unfold World.cells? at h
  rw [if_pos (Nat.zero_le _)] at h
  exact ⟨by simpa using mapM_some_length h, fun i hi => mapM_some_get h i i (by simp [hi])⟩
theorem cell?_block {w : World} {a : Addr} {v : Value} (h : w.cell? a = some v) : ∃ C T fz, w.heap[a.block]? = some (.cells C T fz) ∧ a.spot = none ∧ C[a.off]? = some v := by
  unfold World.cell? at h
  split at h
  · rename_i C T fz hb
    split at h
    · cases h
    · rename_i hs
      refine ⟨C, T, fz, hb, ?_, h⟩
      cases hsp : a.spot with
      | none => rfl
      | some x => simp [hsp] at hs
  · cases h
theorem add_block (a : Addr) (n : Nat) : (a.add n).block = a.block := by unfold Addr.add; split <;> rfl
theorem add_off (a : Addr) (n : Nat) : (a.add n).off = a.off + n := by
  unfold Addr.add
  split
  · rename_i h; subst h; rfl
  · rfl
/-- a slice's cells, element by element -/
theorem relL_flatten {φ : Place} {w : World} {M : Nat → Prop} {rows : List (List AV)} {L : List Value} {sz : Nat} (hl : L.length = rows.length * sz)
    (h : ∀ i (hi : i < rows.length), RelL φ w M rows[i] ((L.drop (i * sz)).take sz)) : RelL φ w M rows.flatten L := by
  induction rows generalizing L with
  | nil => simp at hl; subst hl; exact .nil
  | cons r rows ih =>
    have h0 := h 0 (by simp)
    simp only [List.getElem_cons_zero, Nat.zero_mul, List.drop_zero] at h0
    rw [List.flatten_cons, ← List.take_append_drop sz L]
    refine RelL.append h0 (ih (by simp at hl ⊢; rw [hl, Nat.add_mul]; omega) fun i hi => ?_)
    have := h (i + 1) (by simpa using hi)
    simp only [List.getElem_cons_succ] at this
    rw [List.drop_drop, show sz + i * sz = (i + 1) * sz by rw [Nat.add_mul]; omega]
    exact this
theorem exists_list {α : Type} (n : Nat) (p : Nat → α → Prop) (h : ∀ i, i < n → ∃ x, p i x) : ∃ l : List α, l.length = n ∧ ∀ i (hi : i < l.length), p i l[i] := by
  induction n with
  | zero => exact ⟨[], rfl, fun i hi => by simp at hi⟩
  | succ n ih =>
    obtain ⟨l, hl, hp⟩ := ih fun i hi => h i (by omega)
    obtain ⟨x, hx⟩ := h n (by omega)
    refine ⟨l ++ [x], by simp [hl], fun i hi => ?_⟩
    rcases Nat.lt_or_ge i l.length with h1 | h1
    · rw [List.getElem_append_left h1]; exact hp i h1
    · have : i = n := by simp at hi; omega
      subst this
      simp [List.getElem_append_right, hl, hx]
theorem Opn.slice {α : Type} {t e : TypeId} {en : α → List AV} {Q : α → Prop} {sz : Nat} (hB : Bulk B bk) (ht : P.underlying t = some (.slice e)) (hc : P.cellsOf t = 1) (hz : P.cellsOf e = sz) (hp : 0 < sz)
    (he : Opn P B bk e en Q) : Opn P B bk t (fun l : List α => [.lst sz (l.map en)]) (fun l => l.length ≤ B ∧ ∀ x ∈ l, Q x) := by
  intro H enc w fuel cs d ps h hb
  rcases DataW.trod_slice ht h with ⟨rfl, _⟩ | ⟨a, len, cap, elems, rest, n, rfl, rfl, hx, _, hlen, hmax, hel, hget, _, _⟩
  · exact ⟨[], .cons (.nil _ _ _) .nil, by simp [cellV, Value.oneCell'], by simp [hc], by simp, by simp⟩
  · simp only [Prod.mk.injEq] at hx
    obtain ⟨rfl, _⟩ := hx
    rw [hz] at hget
    -- each element
    have key : ∀ i (hi : i < len), ∃ x ci, w.cells? 0 (a.add (i * sz)) sz = some ci ∧ RelL noP w NoM (en x) ci ∧ (∀ c ∈ ci, cellV c = true) ∧ Q x := by
      intro i hi
      have h1 := hget i hi
      rw [List.getElem?_eq_getElem (by omega), Option.bind_eq_some_iff] at h1
      obtain ⟨ci, h2, h3⟩ := h1
      obtain ⟨x, a1, a2, _, a4⟩ := he enc w n ci elems[i].1 elems[i].2 h3 (hB.elem _ _ _ (List.mem_map.2 ⟨elems[i], List.getElem_mem _, rfl⟩) hb)
      exact ⟨x, ci, h2, a1, a2, a4⟩
    have hlb : len ≤ B := by have := hB.len _ _ hb (by simp; omega); simp at this; omega
    obtain ⟨l, hl, hx⟩ := exists_list len _ key
    refine ⟨l, ?_, by simp [cellV, Value.oneCell'], by simp [hc], by omega, fun x hxm => ?_⟩
    · rcases Nat.eq_zero_or_pos len with h0 | h0
      · have : l = [] := List.eq_nil_of_length_eq_zero (by omega)
        subst this
        rw [h0]
        exact .cons (.nil _ _ _) .nil
      · have cellI : ∀ i, i < len → ∀ j, j < sz → ∃ v, w.cell? (a.add (i * sz + j)) = some v ∧ cellV v = true := by
          intro i hi j hj
          obtain ⟨x, ci, h2, a1, a2, a3⟩ := key i hi
          obtain ⟨hcl, hcg⟩ := cells?_get h2
          refine ⟨ci[j], ?_, a2 _ (List.getElem_mem (by omega))⟩
          have := hcg j hj
          rw [List.getElem?_eq_getElem (by omega)] at this
          rw [← this]
          simp only [World.cell?, add_block, add_off, Nat.add_assoc]
          by_cases hj0 : j = 0
          · subst hj0; simp [Addr.add]
          · simp [Addr.add, hj0]
        obtain ⟨v0, hv0, _⟩ := cellI 0 h0 0 hp
        obtain ⟨C, T, fz, hC, hs, _⟩ := cell?_block hv0
        simp only [Nat.zero_mul, Nat.zero_add, Addr.add, if_true] at hC hs
        have cellC : ∀ k, k < len * sz → ∃ v, C[a.off + k]? = some v ∧ w.cell? (a.add k) = some v ∧ cellV v = true := by
          intro k hk
          have hi : k / sz < len := Nat.div_lt_of_lt_mul (by rw [Nat.mul_comm]; exact hk)
          have hj : k % sz < sz := Nat.mod_lt _ hp
          obtain ⟨v, h1, h2⟩ := cellI _ hi _ hj
          rw [show k / sz * sz + k % sz = k by rw [Nat.mul_comm]; exact Nat.div_add_mod k sz] at h1
          obtain ⟨C', T', fz', hC', hs', hv'⟩ := cell?_block h1
          rw [add_block, hC] at hC'
          simp only [Option.some.injEq, Obj.cells.injEq] at hC'
          obtain ⟨rfl, _, _⟩ := hC'
          rw [add_off] at hv'
          exact ⟨v, hv', h1, h2⟩
        have hsz : a.off + len * sz ≤ C.size := by
          have hpos : 0 < len * sz := Nat.mul_pos h0 hp
          obtain ⟨v, h1, _⟩ := cellC (len * sz - 1) (by omega)
          have := (Array.getElem?_eq_some_iff.1 h1).1
          omega
        have hL : ((C.toList.drop a.off).take (len * sz)).length = len * sz := by simp; omega
        have hget : ∀ k, k < len * sz → ((C.toList.drop a.off).take (len * sz))[k]? = C[a.off + k]? := by
          intro k hk
          rw [List.getElem?_take, if_pos hk, List.getElem?_drop]; simp
        have hrl : ∀ i (hi : i < l.length), ∃ ci, w.cells? 0 (a.add (i * sz)) sz = some ci ∧ RelL noP w NoM (en l[i]) ci := fun i hi => by
          obtain ⟨ci, h2, a1, _⟩ := hx i hi
          exact ⟨ci, h2, a1⟩
        refine .cons (.lst (C := C) (T := T) (fz := fz) hs (fun h => h) hC (fun r hr => ?_) (by simp; omega) (by rw [List.length_map, hl]; exact hsz) (by omega) (fun u hu => ?_) ?_) .nil
        · obtain ⟨x, hxm, rfl⟩ := List.mem_map.1 hr
          obtain ⟨i, hi, rfl⟩ := List.getElem_of_mem hxm
          obtain ⟨ci, h2, a1⟩ := hrl i hi
          rw [a1.length, (cells?_get h2).1]
        · rw [List.length_map, hl] at hu
          obtain ⟨k, hk, rfl⟩ := List.getElem_of_mem hu
          rw [hL] at hk
          obtain ⟨v, h1, _, h3⟩ := cellC k hk
          have := hget k hk
          rw [List.getElem?_eq_getElem (by omega), h1] at this
          simp only [Option.some.injEq] at this
          rw [this]; exact h3
        · rw [List.length_map, hl]
          refine relL_flatten (sz := sz) (by rw [hL, List.length_map, hl]) fun i hi => ?_
          rw [List.length_map] at hi
          obtain ⟨ci, h2, a1⟩ := hrl i hi
          rw [List.getElem_map]
          obtain ⟨hcl, hcg⟩ := cells?_get h2
          have hle : (i + 1) * sz ≤ len * sz := Nat.mul_le_mul_right _ (by omega)
          rw [Nat.add_mul] at hle
          have : ci = (((C.toList.drop a.off).take (len * sz)).drop (i * sz)).take sz := by
            refine List.ext_getElem? fun j => ?_
            rcases Nat.lt_or_ge j sz with hj | hj
            · rw [← hcg j hj, List.getElem?_take, if_pos hj, List.getElem?_drop, hget _ (by omega)]
              obtain ⟨v, h1, h3, _⟩ := cellC (i * sz + j) (by omega)
              rw [h1, ← h3]
              simp only [World.cell?, add_block, add_off, Nat.add_assoc]
              by_cases hj0 : j = 0
              · subst hj0; simp [Addr.add]
              · simp [Addr.add, hj0]
            · rw [List.getElem?_eq_none (by omega), List.getElem?_eq_none (by simp; omega)]
          rw [← this]; exact a1
    · obtain ⟨i, hi, rfl⟩ := List.getElem_of_mem hxm
      obtain ⟨ci, _, _, _, a4⟩ := hx i hi
      exact a4
theorem Opn.array {α : Type} {t e : TypeId} {en : α → List AV} {Q : α → Prop} {n sz : Nat} (hB : Bulk B bk) (ht : P.underlying t = some (.array n e)) (hz : P.cellsOf e = sz) (hc : P.cellsOf t = n * sz)
    (he : Opn P B bk e en Q) : Opn P B bk t (fun l : List α => (l.map en).flatten) (fun l => l.length = n ∧ ∀ x ∈ l, Q x) := by
  intro H enc w fuel cs d ps h hb
  obtain ⟨xs, m, _, hx, hl, hxl, hget⟩ := DataW.trod_array ht h
  simp only [Prod.mk.injEq] at hx
  obtain ⟨rfl, _⟩ := hx
  rw [hz] at hget
  have key : ∀ i, i < n → ∃ x, RelL noP w NoM (en x) ((cs.drop (i * sz)).take sz) ∧ (∀ c ∈ (cs.drop (i * sz)).take sz, cellV c = true) ∧ Q x := by
    intro i hi
    have h1 := hget i hi
    rw [List.getElem?_eq_getElem (by omega)] at h1
    obtain ⟨x, a1, a2, _, a4⟩ := he enc w m _ xs[i].1 xs[i].2 h1 (hB.part _ _ (List.mem_map.2 ⟨xs[i], List.getElem_mem _, rfl⟩) hb)
    exact ⟨x, a1, a2, a4⟩
  obtain ⟨l, hll, hx⟩ := exists_list n _ key
  rw [hc] at hl
  refine ⟨l, relL_flatten (sz := sz) (by rw [List.length_map, hll]; exact hl) (fun i hi => ?_), fun c hcm => ?_, by rw [hc]; exact hl, hll, fun x hxm => ?_⟩
  · rw [List.length_map] at hi
    rw [List.getElem_map]; exact (hx i hi).1
  · obtain ⟨k, hk, rfl⟩ := List.getElem_of_mem hcm
    have hp : 0 < sz := Nat.pos_of_ne_zero fun h0 => by subst h0; simp at hl; subst hl; simp at hk
    have hi : k / sz < n := Nat.div_lt_of_lt_mul (by rw [Nat.mul_comm, ← hl]; exact hk)
    have hj : k % sz < sz := Nat.mod_lt _ hp
    have e : k / sz * sz + k % sz = k := by rw [Nat.mul_comm]; exact Nat.div_add_mod k sz
    refine (hx (k / sz) (by omega)).2.1 _ (List.mem_iff_getElem?.2 ⟨k % sz, ?_⟩)
    rw [List.getElem?_take, if_pos hj, List.getElem?_drop, e]
    exact List.getElem?_eq_getElem hk
  · obtain ⟨i, hi, rfl⟩ := List.getElem_of_mem hxm
    exact (hx i hi).2.2
/-- fields one behind the other -/
def OpnF (P : Program) (B : Nat) (bk : ∀ {H : Type}, DataW H → Nat) {α : Type} (ts : List TypeId) (en : α → List AV) (Q : α → Prop) : Prop :=
  ∀ {H : Type} (enc : TypeId × Value → H) (w : World) (fuel : Nat) (cs : List Value), cs.length = (ts.map P.cellsOf).sum →
    (∀ i (hi : i < ts.length), ∃ d ps, DataW.trod enc P w 0 (fun _ => true) true fuel ts[i] ((cs.drop ((ts.take i).map P.cellsOf).sum).take (P.cellsOf ts[i])) = some (d, ps) ∧ bk d ≤ B) →
    ∃ x, RelL noP w NoM (en x) cs ∧ (∀ c ∈ cs, cellV c = true) ∧ Q x
theorem OpnF.nil : OpnF P B bk [] (fun _ : Unit => []) (fun _ => True) := by
  intro H enc w fuel cs hl _
  have : cs = [] := List.eq_nil_of_length_eq_zero (by simpa using hl)
  subst this
  exact ⟨(), .nil, by simp, trivial⟩
theorem OpnF.cons {α β : Type} {t : TypeId} {ts : List TypeId} {en : α → List AV} {Q : α → Prop} {en' : β → List AV} {Q' : β → Prop} (h : Opn P B bk t en Q) (h' : OpnF P B bk ts en' Q') :
    OpnF P B bk (t :: ts) (fun x : α × β => en x.1 ++ en' x.2) (fun x => Q x.1 ∧ Q' x.2) := by
  intro H enc w fuel cs hl hd
  obtain ⟨d, ps, h1, h2⟩ := hd 0 (by simp)
  simp only [List.getElem_cons_zero, List.take_zero, List.map_nil, List.sum_nil, List.drop_zero] at h1
  obtain ⟨x, a1, a2, a3, a4⟩ := h enc w fuel _ d ps h1 h2
  obtain ⟨y, b1, b2, b3⟩ := h' enc w fuel (cs.drop (P.cellsOf t)) (by simp at hl ⊢; omega) (fun i hi => by
    obtain ⟨d, ps, k1, k2⟩ := hd (i + 1) (by simpa using hi)
    simp only [List.getElem_cons_succ, List.take_succ_cons, List.map_cons, List.sum_cons] at k1
    exact ⟨d, ps, by rw [List.drop_drop]; exact k1, k2⟩)
  refine ⟨(x, y), ?_, fun c hc => ?_, a4, b3⟩
  · rw [← List.take_append_drop (P.cellsOf t) cs]
    exact RelL.append a1 b1
  · rw [← List.take_append_drop (P.cellsOf t) cs] at hc
    rcases List.mem_append.1 hc with hc | hc
    · exact a2 c hc
    · exact b2 c hc
/-- fields lie one behind the other -/
def fieldsOk (P : Program) (t : TypeId) (ts : List TypeId) : Bool := match P.underlying t with
  | some (.struct fs) => decide (fs.toList.map (·.type) = ts) && decide (fs.toList.map (·.offset) = (List.range ts.length).map fun i => ((ts.take i).map P.cellsOf).sum) && decide (P.cellsOf t = (ts.map P.cellsOf).sum)
  | _ => false
theorem Opn.struct {α : Type} {t : TypeId} {ts : List TypeId} {en : α → List AV} {Q : α → Prop} (hB : Bulk B bk) (ht : fieldsOk P t ts = true) (h : OpnF P B bk ts en Q) : Opn P B bk t en Q := by
  unfold fieldsOk at ht
  split at ht
  · rename_i fs hfs
    simp only [Bool.and_eq_true, decide_eq_true_eq] at ht
    obtain ⟨⟨h1, h2⟩, h3⟩ := ht
    intro H enc w fuel cs d ps hd hb
    obtain ⟨xs, n, _, hx, hl, hxl, hget⟩ := DataW.trod_struct hfs hd
    simp only [Prod.mk.injEq] at hx
    obtain ⟨rfl, _⟩ := hx
    have hlen : fs.size = ts.length := by rw [← h1]; simp
    obtain ⟨x, a1, a2, a3⟩ := h enc w n cs (by rw [hl, h3]) (fun i hi => by
      have hi' : i < fs.size := by omega
      have e1 : fs[i].type = ts[i] := by
        have := congrArg (fun l => l[i]?) h1
        simp [hi', List.getElem?_eq_getElem hi] at this
        exact this
      have e2 : fs[i].offset = ((ts.take i).map P.cellsOf).sum := by
        have := congrArg (fun l => l[i]?) h2
        simp [hi', hi] at this
        rw [this, List.map_take]
      have := hget i fs[i] (Array.getElem?_eq_getElem hi')
      rw [e1, e2, List.getElem?_eq_getElem (by omega)] at this
      exact ⟨xs[i].1, xs[i].2, this, hB.part _ _ (List.mem_map.2 ⟨xs[i], List.getElem_mem _, rfl⟩) hb⟩)
    exact ⟨x, a1, a2, hl, a3⟩
  · cases ht
/-! ### the arguments, and the call -/
/-- the outer form of a value of the type -/
def outer (P : Program) (t : TypeId) : Bool := match P.underlying t with
  | some (.struct _) | some (.array _ _) => true
  | _ => false
def wrapAV (agg : Bool) (cs : List AV) : AV := if agg then .agg cs else cel cs 0
theorem Opn.arg {α : Type} {t : TypeId} {en : α → List AV} {Q : α → Prop} (h : Opn P B bk t en Q) {ag : Bool} (ho : outer P t = ag) (h1 : ag = false → P.cellsOf t = 1) {H : Type} {enc : TypeId × Value → H} {W : World} {base : Nat} {r : Reach} {v : Value} {d : DataW H} {ps : List MemPlace}
    (hval : Value.okWide P W r base t v) (hd : DataW.Trod enc P W 0 (fun _ => true) true t v d ps) (hb : bk d ≤ B) : ∃ x, Rel noP W NoM (wrapAV ag (en x)) v ∧ Q x := by
  obtain ⟨fuel, hd⟩ := hd
  obtain ⟨x, a1, a2, a3, a4⟩ := h enc W fuel _ d ps hd hb
  refine ⟨x, ?_, a4⟩
  unfold outer at ho
  unfold Value.okWide at hval
  split at ho
  · rename_i hu
    subst ho
    rw [hu] at hval
    obtain ⟨cs, rfl, _, _⟩ := hval
    exact .agg (vs := cs.toList) a2 a1
  · rename_i hu
    subst ho
    rw [hu] at hval
    obtain ⟨cs, rfl, _, _⟩ := hval
    exact .agg (vs := cs.toList) a2 a1
  · subst ho
    rw [h1 rfl] at a3
    have hv : v.cells.toList = [v] := by
      unfold Value.cells at a3 a2 ⊢
      split
      · rename_i cs
        exfalso
        split at hval
        · simp_all
        · simp_all
        · unfold Cell.okWide at hval
          split at hval <;> simp_all [Cell.ok]
      · rfl
    rw [hv] at a1
    cases he : en x with
    | nil => rw [he] at a1; cases a1
    | cons y ys =>
      rw [he] at a1
      cases a1 with
      | cons a1 _ => exact a1

/-- THE CLOSING OF A LAW: its arguments are values of the abstract domain, and it gives true. -/
theorem post_of_fr {f : Func} {s : ChangeSpec} {apart fresh handsOn again : Bool} {H : Type} {enc : TypeId × Value → H} {W W' : World} {args : Array Value} {v : Value} {ds gs : List (DataW H)} {before : List MemPlace}
    (hlo : laidOutB P = true) (hts : f.params.toList.all (fun t => P.readableRec t && decide (t < P.types.size)) = true) (hv : s.vars = [])
    (hW : DataW.Whole enc P f.params.toList s.vars apart W args.toList ds gs before)
    (hres : ∀ (b : Nat) (sp : Nat → Bool) (hd : Bool), DataW.TrodAll enc P W' b sp hd f.resultTypes.toList (v.resultList f.resultTypes.size) (s.fn H (ds ++ gs)).results [])
    (hargs : (s.fn H (ds ++ gs)).args = ds) (hvars : (s.fn H (ds ++ gs)).vars = [])
    (hfr : Fr W (fun _ => False) W')
    (hok : ∀ (j : Nat) (t : TypeId) (r : Value), f.resultTypes[j]? = some t → (v.resultList f.resultTypes.size)[j]? = some r → Value.okWide P W' .any 0 t r) :
    s.post enc P f apart fresh handsOn again W args v W' := by
  have hlt : ∀ p ∈ before, p.block < W.heap.size := fun p hp => hW.lt p hp
  have hsame : ∀ p : MemPlace, p.block < W.heap.size → W.sameAt W' p := fun p hp => (Go.RowKit.Below.same ⟨hfr.os, hfr.tape, hfr.output, hfr.size, fun k hk => hfr.block k hk (fun h => h)⟩ hp)
  obtain ⟨p, q, hA, hV, hpq, hz, hn⟩ := id hW
  rw [hv] at hV
  have hq : q = [] ∧ gs = [] := by
    cases gs with
    | nil => exact ⟨hV, rfl⟩
    | cons g gs => exact hV.elim
  obtain ⟨rfl, rfl⟩ := hq
  rw [List.append_nil] at hpq
  subst hpq
  have key : ∀ (sp : Nat → Bool) (ts : List TypeId) (vs : List Value) (ds : List (DataW H)) (ps : List MemPlace), ts.all (fun t => P.readableRec t && decide (t < P.types.size)) = true → (∀ x ∈ ps, x.block < W.heap.size) → (∀ x ∈ ps, sp x.block = true) →
      DataW.TrodAll enc P W 0 (fun _ => true) true ts vs ds ps → DataW.TrodAll enc P W' 0 sp true ts vs ds ps := by
    intro sp ts
    induction ts with
    | nil =>
      intro vs ds ps _ _ _ h
      cases vs <;> cases ds <;> simp [DataW.TrodAll] at h ⊢
      exact h
    | cons t ts ih =>
      intro vs ds ps ht hlt hsp h
      obtain ⟨v, vs', d, ds', a, b, rfl, rfl, rfl, h1, h2⟩ := ChangeShapes.trodAll_cons h
      simp only [List.all_cons, Bool.and_eq_true, decide_eq_true_eq] at ht
      obtain ⟨⟨hr, hs⟩, hts⟩ := ht
      exact ⟨a, b, WideElems.Trod_stays hlo hr hs h1 (fun x hx => hsame x (hlt x (List.mem_append_left _ hx))) (fun x hx => hsp x (List.mem_append_left _ hx)),
        ih _ _ _ (by simpa using hts) (fun x hx => hlt x (List.mem_append_right _ hx)) (fun x hx => hsp x (List.mem_append_right _ hx)) h2, rfl⟩
  have key' : ∀ sp : Nat → Bool, (∀ x ∈ before, sp x.block = true) → DataW.TrodAll enc P W' 0 sp true f.params.toList args.toList (s.fn H (ds ++ [])).args before := fun sp hsp => by
    rw [hargs]; exact key sp _ _ _ _ hts hlt hsp hA
  have kv : ∀ sp : Nat → Bool, DataW.TrodVars enc P W' sp s.vars (s.fn H (ds ++ [])).vars [] := fun sp => by rw [hv, hvars]; rfl
  refine ⟨ds, [], before, [], before, [], hW, hres _ _ _, key' _ (fun x hx => by simpa using hlt x hx), kv _, ?_, fun _ => ⟨hok, _, _, ([] ++ before) ++ [], ⟨[] ++ before, [], ChangeShapes.trodAll_append (key' _ fun _ _ => rfl) (hres _ _ _), kv _, rfl, ?_, ?_⟩, ?_⟩⟩
  · refine ⟨hfr.os, hfr.output, fun i hi => ?_⟩
    rw [hfr.block i hi (fun h => h)]
    cases h : W.heap[i]? with
    | none => simp
    | some o => cases o <;> simp
  · intro b off hp
    have hp' : MemPlace.cell b off ∈ before := by simpa using hp
    have hb := hlt _ hp'
    have := hz b off hp'
    unfold World.frozen? at this ⊢
    simp only [MemPlace.block] at hb
    rw [show W'.heap[b]? = W.heap[b]? from hfr.block b hb (fun h => h)]
    exact this
  · intro ha
    simpa using hn ha
  · intro x hx _
    simpa using hx
/-- its results: true -/
theorem contract_of_pure {f : FuncId} {fn : Func} {tb : TypeId} {s : ChangeSpec} {apart fresh handsOn again : Bool} {H : Type} {enc : TypeId × Value → H} {W : World} {args : Array Value} {ds gs : List (DataW H)} {before : List MemPlace}
    (hlo : laidOutB P = true) (hts : fn.params.toList.all (fun t => P.readableRec t && decide (t < P.types.size)) = true) (hv : s.vars = []) (hrt : fn.resultTypes = #[tb]) (hb : P.underlying tb = some .bool)
    (hW : DataW.Whole enc P fn.params.toList s.vars apart W args.toList ds gs before)
    (hfn : gs = [] → s.fn H (ds ++ gs) = { results := [.lit (.bool true)], args := ds }) {avs : List AV} (hp : Pure P f avs (.v (.bool true))) (hr : RelL noP W NoM avs args.toList) (hg : GlbOk W NoM := by intro p hp; simp [glbs] at hp) :
    Calls P f args W fun e W' => ∃ v, e = .returned v ∧ s.post enc P fn apart fresh handsOn again W args v W' := by
  have hgs : gs = [] := by
    obtain ⟨p, q, hA, hV, _⟩ := hW
    rw [hv] at hV
    cases gs with
    | nil => rfl
    | cons g gs => exact hV.elim
  have := hp.2 NoM W args.toList (fun k hk => hk.elim) hg hr
  rw [show (⟨args.toList⟩ : Array Value) = args from rfl] at this
  refine this.mono ?_
  rintro e W' ⟨v, rfl, hv', hfr⟩
  cases hv'
  refine ⟨_, rfl, post_of_fr hlo hts hv hW (fun b sp hd => ?_) (by rw [hfn hgs]) (by rw [hfn hgs]) hfr ?_⟩
  · rw [hfn hgs, hrt]
    exact trodAll_cons_mk (RowKit.shut_bool hb _) ChangeShapes.trodAll_mk0
  · exact RowKit.ok_one hrt rfl (RowKit.okWide_bool_mk hb true)
end
end Go.Av
end
section
set_option linter.unusedSimpArgs false
set_option linter.unusedVariables false
open Go Go.Proofs
namespace Go.Av
open Go.Proofs.YtodgjebghpgjbaaGreatDoor
theorem upto_one {H : Type} (d : DataW H) : 1 ≤ Rows.uptoBulk d := by
  cases d with
  | lit l => cases l <;> simp [Rows.uptoBulk]
  | _ => simp [Rows.uptoBulk]
theorem upto_part {H : Type} {d : DataW H} {l : List (DataW H)} (h : d ∈ l) : Rows.uptoBulk d ≤ Rows.uptoBulkAll l := by
  induction l with
  | nil => cases h
  | cons x r ih =>
    simp only [Rows.uptoBulkAll]
    rcases List.mem_cons.1 h with e | e
    · subst e; omega
    · have := ih e; omega
theorem upto_length {H : Type} (l : List (DataW H)) : l.length ≤ Rows.uptoBulkAll l := by
  induction l with
  | nil => simp [Rows.uptoBulkAll]
  | cons x r ih => have := upto_one x; simp only [Rows.uptoBulkAll, List.length_cons]; omega
theorem Bulk.upto {B : Nat} : Bulk B (fun d => Rows.uptoBulk d) where
  len := fun l r h _ => by
    have := upto_length l
    simp only [Rows.uptoBulk] at h; omega
  elem := fun l r d hd h => by
    have := upto_part hd
    simp only [Rows.uptoBulk] at h; omega
  part := fun l d hd h => by
    have := upto_part hd
    simp only [Rows.uptoBulk] at h; omega
  str := fun l h _ => by
    simp only [Rows.uptoBulk] at h; omega
theorem upto_bound {H : Type} {l : List (DataW H)} (hk : Rows.uptoSmall H l = true) {d : DataW H} (hd : d ∈ l) : Rows.uptoBulk d ≤ 1048576 := by
  have := upto_part hd
  have h := of_decide_eq_true hk
  omega
end Go.Av
end
section
set_option linter.unusedSimpArgs false
set_option linter.unusedVariables false
open Go Go.Proofs Go.Av
set_option maxRecDepth 100000
namespace Go.Av
open Go.Proofs.YtodgjebghpgjbaaGreatDoor
abbrev UpB : {H : Type} → DataW H → Nat := fun d => Rows.uptoBulk d
abbrev G3T := Int × Int × Int × List (List Int) × List (List Int) × List Int × Unit
def encG3T (x : G3T) : List AV := [.v (.int .u8 x.1)] ++ ([.v (.int .u8 x.2.1)] ++ ([.v (.int .u8 x.2.2.1)] ++ ((x.2.2.2.1.map fun l => [AV.lst 1 (l.map fun n => [.v (.int .u8 n)])]).flatten ++
  ([AV.lst 3 (x.2.2.2.2.1.map fun l => (l.map fun n => [AV.v (.int .u8 n)]).flatten)] ++ ((x.2.2.2.2.2.1.map fun n => [AV.v (.int .u8 n)]).flatten ++ [])))))
abbrev P4T := List Int × List Int × List Int × Int × Int × Unit
def encP4T (x : P4T) : List AV := (x.1.map fun n => [AV.v (.int .u8 n)]).flatten ++ ((x.2.1.map fun n => [AV.v (.int .u8 n)]).flatten ++ ((x.2.2.1.map fun n => [AV.v (.int .u8 n)]).flatten ++ ([.v (.int .u8 x.2.2.2.1)] ++ ([.v (.int .u8 x.2.2.2.2.1)] ++ []))))
abbrev U8W (n : Int) : Prop := (Lit.int .u8 n).wf = true
theorem opn_u8 : Opn Tryz.prog 1048576 UpB 5 (fun n : Int => [.v (.int .u8 n)]) U8W := Opn.int Tryz.underlying5 (by kernel_rfl)
theorem opn_u8s : Opn Tryz.prog 1048576 UpB 22 (fun l : List Int => [.lst 1 (l.map fun n => [.v (.int .u8 n)])]) (fun l => l.length ≤ 1048576 ∧ ∀ x ∈ l, U8W x) :=
  Opn.slice (sz := 1) Bulk.upto Tryz.underlying22 (by kernel_rfl) (by kernel_rfl) Nat.one_pos opn_u8
abbrev I64W (n : Int) : Prop := (Lit.int .i64 n).wf = true
theorem opn_ints : Opn Tryz.prog 1048576 UpB 33 (fun l : List Int => [.lst 1 (l.map fun n => [.v (.int .i64 n)])]) (fun l => l.length ≤ 1048576 ∧ ∀ x ∈ l, I64W x) :=
  Opn.slice (sz := 1) Bulk.upto Tryz.underlying33 (by kernel_rfl) (by kernel_rfl) Nat.one_pos (Opn.int Tryz.underlying3 (by kernel_rfl))
theorem opn_g3 : Opn Tryz.prog 1048576 UpB 27 encRaw (fun x => RawOk x ∧ x.k0.length ≤ 1048576 ∧ x.k1.length ≤ 1048576 ∧ x.c.length ≤ 1048576) := by
  have hK : Opn Tryz.prog 1048576 UpB 23 (fun l : List (List Int) => (l.map fun l => [AV.lst 1 (l.map fun n => [.v (.int .u8 n)])]).flatten) (fun l => l.length = 2 ∧ ∀ x ∈ l, x.length ≤ 1048576 ∧ ∀ y ∈ x, U8W y) :=
    Opn.array (sz := 1) (n := 2) Bulk.upto Tryz.underlying23 (by kernel_rfl) (by kernel_rfl) opn_u8s
  have h3 : Opn Tryz.prog 1048576 UpB 61 (fun l : List Int => (l.map fun n => [AV.v (.int .u8 n)]).flatten) (fun l => l.length = 3 ∧ ∀ x ∈ l, U8W x) :=
    Opn.array (sz := 1) (n := 3) Bulk.upto Tryz.underlying61 (by kernel_rfl) (by kernel_rfl) opn_u8
  have hC : Opn Tryz.prog 1048576 UpB 24 (fun l : List (List Int) => [.lst 3 (l.map fun l => (l.map fun n => [AV.v (.int .u8 n)]).flatten)]) (fun l => l.length ≤ 1048576 ∧ ∀ x ∈ l, x.length = 3 ∧ ∀ y ∈ x, U8W y) :=
    Opn.slice (sz := 3) Bulk.upto Tryz.underlying24 (by kernel_rfl) (by kernel_rfl) (by decide) h3
  have hFF : Opn Tryz.prog 1048576 UpB 25 (fun l : List Int => (l.map fun n => [AV.v (.int .u8 n)]).flatten) (fun l => l.length = 6 ∧ ∀ x ∈ l, U8W x) :=
    Opn.array (sz := 1) (n := 6) Bulk.upto Tryz.underlying25 (by kernel_rfl) (by kernel_rfl) opn_u8
  have hF : OpnF Tryz.prog 1048576 UpB [5, 5, 5, 23, 24, 25] encG3T (fun x => U8W x.1 ∧ U8W x.2.1 ∧ U8W x.2.2.1 ∧ (x.2.2.2.1.length = 2 ∧ ∀ z ∈ x.2.2.2.1, z.length ≤ 1048576 ∧ ∀ y ∈ z, U8W y) ∧
      (x.2.2.2.2.1.length ≤ 1048576 ∧ ∀ z ∈ x.2.2.2.2.1, z.length = 3 ∧ ∀ y ∈ z, U8W y) ∧ (x.2.2.2.2.2.1.length = 6 ∧ ∀ y ∈ x.2.2.2.2.2.1, U8W y) ∧ True) :=
    OpnF.cons opn_u8 (OpnF.cons opn_u8 (OpnF.cons opn_u8 (OpnF.cons hK (OpnF.cons hC (OpnF.cons hFF OpnF.nil)))))
  have hT : Opn Tryz.prog 1048576 UpB 27 encG3T (fun x => U8W x.1 ∧ U8W x.2.1 ∧ U8W x.2.2.1 ∧ (x.2.2.2.1.length = 2 ∧ ∀ z ∈ x.2.2.2.1, z.length ≤ 1048576 ∧ ∀ y ∈ z, U8W y) ∧
      (x.2.2.2.2.1.length ≤ 1048576 ∧ ∀ z ∈ x.2.2.2.2.1, z.length = 3 ∧ ∀ y ∈ z, U8W y) ∧ (x.2.2.2.2.2.1.length = 6 ∧ ∀ y ∈ x.2.2.2.2.2.1, U8W y) ∧ True) := Opn.struct Bulk.upto (by kernel_rfl) hF
  intro H enc w fuel cs d ps k1 k2
  obtain ⟨x, r1, r2, r3, hx⟩ := hT enc w fuel cs d ps k1 k2
  obtain ⟨W, Hh, cut, K, C, F, ⟨⟩⟩ := x
  obtain ⟨h1, h2, h3', ⟨h4, h4'⟩, ⟨h5, h5'⟩, ⟨h6, h6'⟩, _⟩ := hx
  simp only at h1 h2 h3' h4 h4' h5 h5' h6 h6'
  match K, h4 with
  | [ka, kb], _ =>
    match F, h6 with
    | [f0, f1, f2, f3, f4, f5], _ =>
      have hCl : ∀ (C : List (List Int)), (∀ z ∈ C, z.length = 3) → (C.map fun l => (nth l 0, nth l 1, nth l 2)).map encC3 = C.map fun l => (l.map fun n => [AV.v (.int .u8 n)]).flatten := by
        intro C hC
        rw [List.map_map]
        refine List.map_congr_left fun l hl => ?_
        have := hC l hl
        match l, this with
        | [a, b, c], _ => rfl
      refine ⟨⟨W, Hh, cut, ka, kb, C.map fun l => (nth l 0, nth l 1, nth l 2), f0, f1, f2, f3, f4, f5⟩, ?_, r2, r3, ⟨bounds_u8 h1, bounds_u8 h2, bounds_u8 h3', fun n hn => bounds_u8 ((h4' ka (by simp)).2 n hn), fun n hn => bounds_u8 ((h4' kb (by simp)).2 n hn), ?_,
        bounds_u8 (h6' f0 (by simp)), bounds_u8 (h6' f1 (by simp)), bounds_u8 (h6' f2 (by simp)), bounds_u8 (h6' f3 (by simp)), bounds_u8 (h6' f4 (by simp)), bounds_u8 (h6' f5 (by simp))⟩, (h4' ka (by simp)).1, (h4' kb (by simp)).1, by simpa using h5⟩
      · unfold encRaw
        simp only
        rw [hCl C (fun z hz => (h5' z hz).1)]
        exact r1
      · intro t ht
        obtain ⟨z, hz, rfl⟩ := List.mem_map.1 ht
        obtain ⟨q1, q2⟩ := h5' z hz
        match z, q1 with
        | [a, b, c], _ => exact ⟨bounds_u8 (q2 a (by simp)), bounds_u8 (q2 b (by simp)), bounds_u8 (q2 c (by simp))⟩
theorem opn_p4 : Opn Tryz.prog 1048576 UpB 30 encRawP RawPOk := by
  have hFF : Opn Tryz.prog 1048576 UpB 25 (fun l : List Int => (l.map fun n => [AV.v (.int .u8 n)]).flatten) (fun l => l.length = 6 ∧ ∀ x ∈ l, U8W x) :=
    Opn.array (sz := 1) (n := 6) Bulk.upto Tryz.underlying25 (by kernel_rfl) (by kernel_rfl) opn_u8
  have h4 : Opn Tryz.prog 1048576 UpB 28 (fun l : List Int => (l.map fun n => [AV.v (.int .u8 n)]).flatten) (fun l => l.length = 4 ∧ ∀ x ∈ l, U8W x) :=
    Opn.array (sz := 1) (n := 4) Bulk.upto Tryz.underlying28 (by kernel_rfl) (by kernel_rfl) opn_u8
  have hF : OpnF Tryz.prog 1048576 UpB [25, 25, 28, 5, 5] encP4T (fun x => (x.1.length = 6 ∧ ∀ y ∈ x.1, U8W y) ∧ (x.2.1.length = 6 ∧ ∀ y ∈ x.2.1, U8W y) ∧ (x.2.2.1.length = 4 ∧ ∀ y ∈ x.2.2.1, U8W y) ∧ U8W x.2.2.2.1 ∧ U8W x.2.2.2.2.1 ∧ True) :=
    OpnF.cons hFF (OpnF.cons hFF (OpnF.cons h4 (OpnF.cons opn_u8 (OpnF.cons opn_u8 OpnF.nil))))
  have hT : Opn Tryz.prog 1048576 UpB 30 encP4T (fun x => (x.1.length = 6 ∧ ∀ y ∈ x.1, U8W y) ∧ (x.2.1.length = 6 ∧ ∀ y ∈ x.2.1, U8W y) ∧ (x.2.2.1.length = 4 ∧ ∀ y ∈ x.2.2.1, U8W y) ∧ U8W x.2.2.2.1 ∧ U8W x.2.2.2.2.1 ∧ True) := Opn.struct Bulk.upto (by kernel_rfl) hF
  intro H enc w fuel cs d ps k1 k2
  obtain ⟨x, r1, r2, r3, hx⟩ := hT enc w fuel cs d ps k1 k2
  obtain ⟨c, k, h, r, s, ⟨⟩⟩ := x
  obtain ⟨⟨a1, a2⟩, ⟨b1, b2⟩, ⟨c1, c2⟩, d1, e1, _⟩ := hx
  simp only at a1 a2 b1 b2 c1 c2 d1 e1
  have hfl : ∀ l : List Int, (l.map fun n => [AV.v (.int .u8 n)]).flatten = l.map fun n => AV.v (.int .u8 n) := fun l => by
    induction l with
    | nil => rfl
    | cons x l ih => simp only [List.map_cons, List.flatten_cons, ih]; rfl
  refine ⟨⟨c, k, h, r, s⟩, ?_, r2, r3, ⟨a1, b1, c1, fun n hn => bounds_u8 (a2 n hn), fun n hn => bounds_u8 (b2 n hn), fun n hn => bounds_u8 (c2 n hn), bounds_u8 d1, bounds_u8 e1⟩⟩
  unfold encP4T at r1
  rw [hfl, hfl, hfl] at r1
  exact r1
end Go.Av
end
section
set_option linter.unusedSimpArgs false
set_option linter.unusedVariables false
open Go Go.Proofs Go.Av
set_option maxRecDepth 100000
namespace Go.Av
open Go.Proofs.YtodgjebghpgjbaaGreatDoor
theorem opn_raw6 : Opn Tryz.prog 1048576 UpB 32 encRaw6 Raw6Ok := by
  have hF : OpnF Tryz.prog 1048576 UpB [27, 30, 22] (fun x : RawG × RawP × List Int × Unit => encRaw x.1 ++ (encRawP x.2.1 ++ ([.lst 1 (x.2.2.1.map fun n => [.v (.int .u8 n)])] ++ [])))
      (fun x => (RawOk x.1 ∧ x.1.k0.length ≤ 1048576 ∧ x.1.k1.length ≤ 1048576 ∧ x.1.c.length ≤ 1048576) ∧ RawPOk x.2.1 ∧ (x.2.2.1.length ≤ 1048576 ∧ ∀ y ∈ x.2.2.1, U8W y) ∧ True) := OpnF.cons opn_g3 (OpnF.cons opn_p4 (OpnF.cons opn_u8s OpnF.nil))
  have hT : Opn Tryz.prog 1048576 UpB 32 (fun x : RawG × RawP × List Int × Unit => encRaw x.1 ++ (encRawP x.2.1 ++ ([.lst 1 (x.2.2.1.map fun n => [.v (.int .u8 n)])] ++ [])))
      (fun x => (RawOk x.1 ∧ x.1.k0.length ≤ 1048576 ∧ x.1.k1.length ≤ 1048576 ∧ x.1.c.length ≤ 1048576) ∧ RawPOk x.2.1 ∧ (x.2.2.1.length ≤ 1048576 ∧ ∀ y ∈ x.2.2.1, U8W y) ∧ True) := Opn.struct Bulk.upto (by kernel_rfl) hF
  intro H enc w fuel cs d ps k1 k2
  obtain ⟨x, r1, r2, r3, hx⟩ := hT enc w fuel cs d ps k1 k2
  obtain ⟨g, p, k, ⟨⟩⟩ := x
  obtain ⟨⟨a1, a2, a3, a4⟩, b1, ⟨c1, c2⟩, _⟩ := hx
  simp only at a1 a2 a3 a4 b1 c1 c2
  exact ⟨⟨g, p, k⟩, r1, r2, r3, ⟨a1, b1, fun n hn => bounds_u8 (c2 n hn), by simp only; omega, by simp only; omega, by simp only; omega, by simp only; omega⟩⟩
end Go.Av
end
