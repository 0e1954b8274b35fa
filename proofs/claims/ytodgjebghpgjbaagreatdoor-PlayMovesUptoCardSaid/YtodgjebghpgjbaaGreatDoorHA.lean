/- The law PlayMoves: its call gives true. -/
import Derived.Test.YtodgjebghpgjbaaGreatDoorRk
import Derived.Test.YtodgjebghpgjbaaGreatDoorGY
section
set_option linter.unusedSimpArgs false
set_option linter.unusedVariables false
open Go Go.Proofs
set_option maxRecDepth 20000
set_option maxHeartbeats 4000000
namespace Go.Av
theorem hasA_iff {l : List OutD} {q : PosD} : hasA l q l.length = true ↔ ∃ o ∈ l, o.pos = q := by
 unfold hasA
 rw [List.take_length, List.any_eq_true]
 simp
theorem hasB_iff {l : List OutD} {q : PosD} : hasB l q l.length = true ↔ ∃ o ∈ l, o.pos = q ∧ o.took = true := by
 unfold hasB
 rw [List.take_length, List.any_eq_true]
 simp
def mustO (g : GameD) (l : List OutD) (n : Nat) : Bool := (l.take n).any fun o => g.must && o.took
theorem mustO_all (g : GameD) (p : PosD) : mustO g (outsP g p) (outsP g p).length = mustP g p := by
 unfold mustO mustP
 rw [List.take_length]
 cases g.must <;> simp
theorem PlayMoves_pure (x : Raw6) (hx : Raw6Ok x) : Pure Tryz.prog 9 [.agg (encRaw6 x)] (.v (.bool true)) := by
 refine Pure.of (ACallP.of_awp (by kernel_rfl) Tryz.func9 rfl rfl (Nat.le_of_ble_eq_true rfl) (by kernel_rfl) ?_)
 have hM := R6Made_pure x hx
 have hg := game6_ok hx
 have hp := pos6_ok hx
 obtain ⟨er, her⟩ : ∃ er, er = encRaw6 x := ⟨_, rfl⟩
 have herl : er.length = 31 := by rw [her]; exact raw6_len hx
 have herb : ∀ n, (∀ c ∈ er, Bel n c) = True := fun n => by rw [her]; exact raw6_bel hx n
 rw [← her] at hM ⊢
 generalize game6 x = g at *
 generalize pos6 x = p at *
 have hS := sanity6_pure
 have hPM := Moves_pure g hg p hp
 have hPO := outs6_pure g hg p hp
 have hPD := rDrops_pure g hg p hp
 have hE := R6Ended_pure g hg p hp
 have hml := movesP_len hg hp
 have hol := outsP_len hg hp
 have hdl := dropsP_len hg hp
 have hmo := movesP_ok hg hp
 have hmf := fun m hm => ((movesP_ok hg hp) m hm).1.fits hg
 have hof := fun o ho => ((outsP_ok hg hp) o ho).1.fits hg
 have hdf := fun o ho => ((dropsP_ok hg hp) o ho).1.fits hg
 have hV : ∀ m ∈ movesP g p, Pure Tryz.prog 36 [.agg (encGame g), .agg (encPos m)] (.v (.bool true)) := fun m hm => by
  have := Valid_pure g (by have := hg.k6; unfold FitsG; omega) ⟨hg.r0, by have := hg.r4; omega⟩ m (hmf m hm)
  rwa [pOk_iff.2 (hmo m hm).1] at this
 have hHas := fun m hm => has6_pure (outsP g p) (by omega) hof m (hmf m hm)
 have hFd := fun m hm => pFind_pure (dropsP g p) (dropsP_inc g p) (by omega) hdf m (hmf m hm)
 have hC := fun a b ha hb => pCompare_pure a b (hmf a ha) (hmf b hb)
 have hL := fun q hq => Legal_pure g hg p hp q hq
 have hinc := movesP_inc g p
 have hmem := fun q => mem_movesP (g := g) (p := p) (q := q)
 have hmk := mustO_all g p
 have hmk0 : mustO g (outsP g p) 0 = false := rfl
 have hmks : ∀ i, i < (outsP g p).length → mustO g (outsP g p) (i + 1) = (mustO g (outsP g p) i || (g.must && (nth (outsP g p) i).took)) := fun i hi => any_succ _ hi
 have hsd : ∀ m ∈ movesP g p, m.side = 1 - p.side := fun m hm => (hmo m hm).2
 have hfacts : ∀ m ∈ movesP g p, (hasA (outsP g p) m (outsP g p).length = false → mustP g p = false ∧ 0 ≤ fndP (dropsP g p) m) ∧ (mustP g p = true → hasB (outsP g p) m (outsP g p).length = true) := fun m hm => by
  obtain ⟨_, h⟩ := (hmem m).1 hm
  refine ⟨fun hA => ?_, fun hmu => ?_⟩
  ·rcases h with ⟨o, ho, _, he⟩ | ⟨h1, h2⟩
   ·have := hasA_iff.2 ⟨o, ho, he⟩
    rw [hA] at this
    cases this
   ·exact ⟨h1, (fndP_mem (dropsP_inc g p)).2 h2⟩
  ·rcases h with ⟨o, ho, h1, he⟩ | ⟨h1, h2⟩
   ·exact hasB_iff.2 ⟨o, ho, he, h1 hmu⟩
   ·rw [hmu] at h1; cases h1
 have hnil : 0 ≤ endedP g p → movesP g p = [] := movesP_nil_of_ended
 have hOL : endedP g p < 0 → ∀ o ∈ outsP g p, (mustP g p = true → o.took = true) → decide (o.pos ∈ movesP g p) = true := fun he o ho h => decide_eq_true ((hmem _).2 ⟨he, .inl ⟨o, ho, h, rfl⟩⟩)
 have hDL : endedP g p < 0 → mustP g p = false → ∀ q ∈ dropsP g p, decide (q ∈ movesP g p) = true := fun he hmu q hq => decide_eq_true ((hmem _).2 ⟨he, .inr ⟨hmu, hq⟩⟩)
 clear hmem hmo
 have hegl : (encGame g).length = 9 := rfl
 have hegb : ∀ n, (∀ c ∈ encGame g, Bel n c) = True := fun n => by simp [go_sem]
 have hegm : cel (encGame g) 5 = .v (.bool g.must) := rfl
 generalize g.must = gm at *
 generalize hmu : mustP g p = mu at *
 generalize movesP g p = l at *
 generalize outsP g p = os at *
 generalize dropsP g p = ds at *
 generalize endedP g p = ep at *
 generalize mustO g os = mk at *
 generalize encGame g = eg at *
 (repeat (first | with_reducible (first | refine wL fun _ => ?_ | refine wD fun _ => ?_ | refine wE ?_ | refine adrZ.go ?_) | simp [go_sem, herl]))
 refine ACallP.plain hS (by simp [go_sem]) ?_
 (repeat (first | with_reducible (first | refine wL fun _ => ?_ | refine wD fun _ => ?_ | refine wE ?_ | refine adrZ.go ?_) | simp [go_sem, herl]))
 refine ACallP.plain hM (by simp [go_sem, herb]) ?_
 (repeat (first | with_reducible (first | refine wL fun _ => ?_ | refine wD fun _ => ?_ | refine wE ?_ | refine adrZ.go ?_) | simp [go_sem, herl, hegl]))
 try ((with_reducible refine adrZ.go ?_); (try simp [go_sem]))
 refine dCall.plain hPM (by simp [go_sem, hegb]) ?_
 (repeat (first | with_reducible (first | refine wL fun _ => ?_ | refine wD fun _ => ?_ | refine wE ?_ | refine adrZ.go ?_) | simp [go_sem, herl, hegl]))
 try ((with_reducible refine adrZ.go ?_); (try simp [go_sem]))
 refine dCall.plain hPO (by simp [go_sem, hegb]) ?_
 (repeat (first | with_reducible (first | refine wL fun _ => ?_ | refine wD fun _ => ?_ | refine wE ?_ | refine adrZ.go ?_) | simp [go_sem, herl, hegl]))
 try ((with_reducible refine adrZ.go ?_); (try simp [go_sem]))
 refine dCall.plain hPD (by simp [go_sem, hegb]) ?_
 (repeat (first | with_reducible (first | refine wL fun _ => ?_ | refine wD fun _ => ?_ | refine wE ?_ | refine adrZ.go ?_) | simp [go_sem, herl, hegl]))
 refine ALoop.start (ALoop.ind (α := Nat) (fun i => ⟨[(3, .v (.bool true)), (4, .ref 1 0 9 0 0), (5, .ref 2 0 5 0 0), (6, encPs l), (7, encOs os), (8, encPs ds), (9, .v (.bool (mk i))), (10, .v (.int .i64 i))], [(1, .rows true 0 9 [eg]), (2, .rows true 0 5 [encPos p])], 3⟩)
  (fun d i => i + d = os.length) ?_ os.length 0 ?_) ?_ ?_
 ·rintro d i i1 hrec
  (repeat (first | with_reducible (first | refine wL fun _ => ?_ | refine wD fun _ => ?_ | refine wE ?_ | refine adrZ.go ?_) | simp [go_sem, hegl]))
  refine aIf.mkL (fun hi => ?_) (fun hi => ?_) <;> simp at hi
  ·have hmks := hmks i hi
   generalize hmi : mk i = a at *
   generalize htk : (nth os i).took = tk at *
   cases a <;> cases gm <;> cases tk
   all_goals
    simp only [Bool.or_true, Bool.or_false, Bool.true_or, Bool.false_or, Bool.true_and, Bool.false_and, Bool.and_true, Bool.and_false] at hmks
    (repeat (first | with_reducible (first | refine wL fun _ => ?_ | refine wD fun _ => ?_ | refine wE ?_ | refine adrZ.go ?_) | simp [go_sem, hegl, hi, hegm, htk]))
    refine ALoop.start (hrec (d - 1) (by omega) (i + 1) (by omega)) ?_ (by simp)
    simp [go_sem, Wk_eq, hegb, hmks]
  ·obtain rfl : i = os.length := by omega
   rw [hmk]
   (repeat (first | with_reducible (first | refine wL fun _ => ?_ | refine wD fun _ => ?_ | refine wE ?_ | refine adrZ.go ?_) | simp [go_sem, hegl]))
   refine ALoop.start (ALoop.ind (α := Nat) (fun i => ⟨[(3, .v (.bool true)), (4, .ref 1 0 9 0 0), (5, .ref 2 0 5 0 0), (6, encPs l), (7, encOs os), (8, encPs ds), (9, .v (.bool mu)), (11, .v (.int .i64 i))], [(1, .rows true 0 9 [eg]), (2, .rows true 0 5 [encPos p])], 3⟩)
    (fun d i => i + d = l.length) ?_ l.length 0 ?_) ?_ ?_
   ·rintro d i i1 hrec
    (repeat (first | with_reducible (first | refine wL fun _ => ?_ | refine wD fun _ => ?_ | refine wE ?_ | refine adrZ.go ?_) | simp [go_sem, hegl]))
    refine aIf.mkL (fun hi => ?_) (fun hi => ?_) <;> simp at hi
    ·have hm := nth_mem hi
     have h1 := hHas _ hm
     have h2 := hV _ hm
     have h3 := hFd _ hm
     have hs := hsd _ hm
     have hps := hp.s
     obtain ⟨f1, f2⟩ := hfacts _ hm
     generalize hasA os (nth l i) os.length = fa at *
     generalize hasB os (nth l i) os.length = tb at *
     generalize fndP ds (nth l i) = fi at *
     have hse : ((nth l i).side = 1 - p.side) = True := eq_true hs
     have hcomb : (fa = true ∧ mu = false) ∨ (fa = true ∧ mu = true ∧ tb = true) ∨ (fa = false ∧ mu = false ∧ 0 ≤ fi) := by
      cases fa
      ·have := f1 rfl
       exact .inr (.inr ⟨rfl, this⟩)
      ·cases mu
       ·exact .inl ⟨rfl, rfl⟩
       ·exact .inr (.inl ⟨rfl, rfl, f2 rfl⟩)
     have hcmp : i ≠ 0 → (i : Int) - 1 = ((i - 1 : Nat) : Int) ∧ i - 1 < l.length ∧ cmpP (nth l (i - 1)) (nth l i) < 0 := fun h => ⟨by omega, by omega, hinc.lt (by omega) hi⟩
     (repeat (first | with_reducible (first | refine wL fun _ => ?_ | refine wD fun _ => ?_ | refine wE ?_ | refine adrZ.go ?_) | simp [go_sem, hegl, hi]))
     refine ACallP.plain h1 (by simp [go_sem]) ?_
     (repeat (first | with_reducible (first | refine wL fun _ => ?_ | refine wD fun _ => ?_ | refine wE ?_ | refine adrZ.go ?_) | simp [go_sem, hegl, hi]))
     try ((with_reducible refine adrZ.go ?_); (try simp [go_sem]))
     refine dCall.plain h2 (by simp [go_sem, hegb]) ?_
     have e4 : ((i : Int) - 1).toNat = i - 1 := by omega
     have he2 : i - 1 < l.length := by omega
     have hCm := hC (nth l (i - 1)) (nth l i) (nth_mem he2) hm
     have hcmp := fun h : 0 < i => (hcmp (by omega)).2.2
     generalize cmpP (nth l (i - 1)) (nth l i) = cc at *
     (repeat (first | with_reducible (first | refine wL fun _ => ?_ | refine wD fun _ => ?_ | refine wE ?_ | refine adrZ.go ?_) | simp [go_sem, hegl, hi, hse, he2]))
     try ((with_reducible refine adrZ.go ?_); (try simp [go_sem]))
     refine dGC.plain _ (fun _ => hCm) (by simp [go_sem]) ?_
     (repeat (first | with_reducible (first | refine wL fun _ => ?_ | refine wD fun _ => ?_ | refine wE ?_ | refine adrZ.go ?_) | simp [go_sem, hegl, hi, he2]))
     try ((with_reducible refine adrZ.go ?_); (try simp [go_sem]))
     refine dGC.plain _ (fun _ => h3) (by simp [go_sem]) ?_
     (repeat (first | with_reducible (first | refine wL fun _ => ?_ | refine wD fun _ => ?_ | refine wE ?_ | refine adrZ.go ?_) | simp [go_sem, hegl, hi, he2] | (refine VC.mkD (by (cases fa <;> cases mu <;> cases tb <;> (first | (simp; done) | (simp; omega) | (simp; intros; omega)))) fun _ => ?_) | (refine VC.mkL (by (cases fa <;> cases mu <;> cases tb <;> (first | (simp; done) | (simp; omega) | (simp; intros; omega)))) fun _ => ?_)))
     refine aIf.mkL (fun hF => ?_) (fun _ => ?_)
     ·exfalso
      rcases hcomb with ⟨rfl, rfl⟩ | ⟨rfl, rfl, rfl⟩ | ⟨rfl, rfl, hfi⟩ <;> simp at hF <;> (first | omega | (have := hcmp; omega))
     ·(repeat (first | with_reducible (first | refine wL fun _ => ?_ | refine wD fun _ => ?_ | refine wE ?_ | refine adrZ.go ?_) | simp [go_sem, hegl]))
      refine ALoop.start (hrec (d - 1) (by omega) (i + 1) (by omega)) ?_ (by simp)
      simp [go_sem, Wk_eq, hegb]
    ·(repeat (first | with_reducible (first | refine wL fun _ => ?_ | refine wD fun _ => ?_ | refine wE ?_ | refine adrZ.go ?_) | simp [go_sem, hegl]))
     refine ACallP.plain hE (by simp [go_sem, hegb]) ?_
     (repeat (first | with_reducible (first | refine wL fun _ => ?_ | refine wD fun _ => ?_ | refine wE ?_ | refine adrZ.go ?_) | simp [go_sem, hegl]))
     refine aIf.mkL (fun he => ?_) (fun he => ?_) <;> simp at he
     ·have hn := hnil he
      subst hn
      (repeat (first | with_reducible (first | refine wL fun _ => ?_ | refine wD fun _ => ?_ | refine wE ?_ | refine adrZ.go ?_) | simp [go_sem, hegl]))
     ·have he' : ep < 0 := by omega
      have hOL := hOL he'
      have hDL := hDL he'
      (repeat (first | with_reducible (first | refine wL fun _ => ?_ | refine wD fun _ => ?_ | refine wE ?_ | refine adrZ.go ?_) | simp [go_sem, hegl]))
      refine ALoop.start (ALoop.ind (α := Nat) (fun i => ⟨[(3, .v (.bool true)), (4, .ref 1 0 9 0 0), (5, .ref 2 0 5 0 0), (7, encOs os), (8, encPs ds), (9, .v (.bool mu)), (14, .v (.int .i64 i))], [(1, .rows true 0 9 [eg]), (2, .rows true 0 5 [encPos p])], 3⟩)
       (fun d i => i + d = os.length) ?_ os.length 0 ?_) ?_ ?_
      ·rintro d i i1 hrec
       (repeat (first | with_reducible (first | refine wL fun _ => ?_ | refine wD fun _ => ?_ | refine wE ?_ | refine adrZ.go ?_) | simp [go_sem, hegl]))
       refine aIf.mkL (fun hi => ?_) (fun hi => ?_) <;> simp at hi
       ·have hm := nth_mem hi
        have h1 := hL (nth os i).pos (hof _ hm)
        have h2 := hOL _ hm
        generalize decide ((nth os i).pos ∈ l) = lg at *
        generalize hpo : (nth os i).pos = po at *
        (repeat (first | with_reducible (first | refine wL fun _ => ?_ | refine wD fun _ => ?_ | refine wE ?_ | refine adrZ.go ?_) | simp [go_sem, hegl, hi, hpo]))
        try ((with_reducible refine adrZ.go ?_); (try simp [go_sem]))
        refine dGC.plain _ (fun _ => h1) (by simp [go_sem, hegb]) ?_
        (repeat (first | with_reducible (first | refine wL fun _ => ?_ | refine wD fun _ => ?_ | refine wE ?_ | refine adrZ.go ?_) | simp [go_sem, hegl, hi]))
        refine aIf.mkL (fun hF => ?_) (fun _ => ?_)
        ·exfalso
         cases mu <;> cases lg <;> simp_all
        ·(repeat (first | with_reducible (first | refine wL fun _ => ?_ | refine wD fun _ => ?_ | refine wE ?_ | refine adrZ.go ?_) | simp [go_sem, hegl]))
         refine ALoop.start (hrec (d - 1) (by omega) (i + 1) (by omega)) ?_ (by simp)
         simp [go_sem, Wk_eq, hegb]
       ·(repeat (first | with_reducible (first | refine wL fun _ => ?_ | refine wD fun _ => ?_ | refine wE ?_ | refine adrZ.go ?_) | simp [go_sem, hegl]))
        refine ALoop.start (ALoop.ind (α := Nat) (fun i => ⟨[(3, .v (.bool true)), (4, .ref 1 0 9 0 0), (5, .ref 2 0 5 0 0), (8, encPs ds), (9, .v (.bool mu)), (15, .v (.int .i64 i))], [(1, .rows true 0 9 [eg]), (2, .rows true 0 5 [encPos p])], 3⟩)
         (fun d i => i + d = ds.length) ?_ ds.length 0 ?_) ?_ ?_
        ·rintro d i i1 hrec
         (repeat (first | with_reducible (first | refine wL fun _ => ?_ | refine wD fun _ => ?_ | refine wE ?_ | refine adrZ.go ?_) | simp [go_sem, hegl]))
         refine aIf.mkL (fun hi => ?_) (fun hi => ?_) <;> simp at hi
         ·have hm := nth_mem hi
          have h1 := hL (nth ds i) (hdf _ hm)
          have h2 := fun h => hDL h _ hm
          generalize decide (nth ds i ∈ l) = lg at *
          (repeat (first | with_reducible (first | refine wL fun _ => ?_ | refine wD fun _ => ?_ | refine wE ?_ | refine adrZ.go ?_) | simp [go_sem, hegl, hi]))
          try ((with_reducible refine adrZ.go ?_); (try simp [go_sem]))
          refine dGC.plain _ (fun _ => h1) (by simp [go_sem, hegb]) ?_
          (repeat (first | with_reducible (first | refine wL fun _ => ?_ | refine wD fun _ => ?_ | refine wE ?_ | refine adrZ.go ?_) | simp [go_sem, hegl, hi]))
          refine aIf.mkL (fun hF => ?_) (fun _ => ?_)
          ·exfalso
           cases mu <;> cases lg <;> simp_all
          ·(repeat (first | with_reducible (first | refine wL fun _ => ?_ | refine wD fun _ => ?_ | refine wE ?_ | refine adrZ.go ?_) | simp [go_sem, hegl]))
           refine ALoop.start (hrec (d - 1) (by omega) (i + 1) (by omega)) ?_ (by simp)
           simp [go_sem, Wk_eq, hegb]
         ·(repeat (first | with_reducible (first | refine wL fun _ => ?_ | refine wD fun _ => ?_ | refine wE ?_ | refine adrZ.go ?_) | simp [go_sem, hegl]))
        ·simp
        ·simp [go_sem, Wk_eq, hegb]
        ·simp
      ·simp
      ·simp [go_sem, Wk_eq, hegb]
      ·simp
   ·simp
   ·simp [go_sem, Wk_eq, hegb]
   ·simp
 ·simp
 ·simp [go_sem, Wk_eq, hegb, hmk0]
 ·simp
end Go.Av
end
