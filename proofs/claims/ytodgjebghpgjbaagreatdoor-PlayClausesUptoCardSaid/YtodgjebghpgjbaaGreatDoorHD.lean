/- The law PlayEnds: its call gives true. -/
import Derived.Test.YtodgjebghpgjbaaGreatDoorRk
import Derived.Test.YtodgjebghpgjbaaGreatDoorMN
section
set_option linter.unusedSimpArgs false
set_option linter.unusedVariables false
open Go Go.Proofs
set_option maxRecDepth 20000
set_option maxHeartbeats 4000000
namespace Go.Av
theorem endedP_at {g : GameD} {p : PosD} {i : Nat} (hi : i < g.clauses.length) (h : ∀ j, j < i → condP (nth g.clauses j) p = false) (hc : condP (nth g.clauses i) p = true) : endedP g p = i := by
 have : g.clauses.findIdx? (fun c => condP c p) = some i := by
  rw [List.findIdx?_eq_some_iff_getElem]
  refine ⟨hi, by rw [← nth_eq _ _ hi]; exact hc, fun j hj => ?_⟩
  have := h j hj
  rw [nth_eq _ _ (by omega)] at this
  simp [this]
 unfold endedP
 rw [this]
theorem endedP_no {g : GameD} {p : PosD} (h : ∀ j, j < g.clauses.length → condP (nth g.clauses j) p = false) : endedP g p = -1 := by
 have : g.clauses.findIdx? (fun c => condP c p) = none := by
  rw [List.findIdx?_eq_none_iff]
  intro x hx
  obtain ⟨j, hj, rfl⟩ := List.getElem_of_mem hx
  rw [← nth_eq _ _ hj]
  exact h j hj
 unfold endedP
 rw [this]
theorem statusV_eq (g : GameD) (p : PosD) : statusV g p = if 0 ≤ endedP g p then ((nth g.clauses (endedP g p).toNat).2.2.2, true) else if movesP g p = [] then (g.blocked, true) else (0, false) := by
 unfold statusV endedV
 split <;> rfl
theorem statusV_2 (g : GameD) (p : PosD) : (statusV g p).2 = decide (movesP g p = []) := by
 rw [statusV_eq]
 split
 ·rename_i h
  have e : movesP g p = [] := if_pos h
  simp [e]
 ·split <;> simp [*]
theorem PlayEnds_pure (x : Raw6) (hx : Raw6Ok x) : Pure Tryz.prog 4 [.agg (encRaw6 x)] (.v (.bool true)) := by
 refine Pure.of (ACallP.of_awp (by kernel_rfl) Tryz.func4 rfl rfl (Nat.le_of_ble_eq_true rfl) (by kernel_rfl) ?_)
 have hM := R6Made_pure x hx
 have hg := game6_ok hx
 have hp := pos6_ok hx
 obtain ⟨er, her⟩ : ∃ er, er = encRaw6 x := ⟨_, rfl⟩
 have herl : er.length = 31 := by rw [her]; exact raw6_len hx
 have herb : ∀ n, (∀ c ∈ er, Bel n c) = True := fun n => by rw [her]; exact raw6_bel hx n
 rw [← her] at hM ⊢
 generalize game6 x = g at *
 generalize pos6 x = p at *
 have hS := sanity6_pure
 have hSt := lawStatus_pure g hg p hp
 have hPM := Moves_pure g hg p hp
 have hml := movesP_len hg hp
 have hcn := hg.cn
 have hC := fun c hc => R6Condition_pure g hg p hp c (hg.cl c hc)
 have h2 := statusV_2 g p
 have h3 : (statusV g p).2 = false → (statusV g p).1 = 0 := fun h => by
  rw [statusV_eq] at h ⊢
  split at h
  ·simp at h
  ·rename_i h0
   rw [if_neg h0]
   split at h
   ·simp at h
   ·rename_i h1
    rw [if_neg h1]
 have hAt : ∀ i, i < g.clauses.length → (∀ j, j < i → condP (nth g.clauses j) p = false) → condP (nth g.clauses i) p = true → statusV g p = ((nth g.clauses i).2.2.2, true) := fun i hi h hc => by
  rw [statusV_eq, endedP_at hi h hc, if_pos (by omega), Int.toNat_natCast]
 have hNo : (∀ j, j < g.clauses.length → condP (nth g.clauses j) p = false) → (statusV g p).2 = true → (statusV g p).1 = g.blocked := fun h hb => by
  rw [statusV_eq, endedP_no h, if_neg (by omega)] at hb ⊢
  split at hb
  ·rename_i h1
   rw [if_pos h1]
  ·simp at hb
 generalize statusV g p = st at *
 obtain ⟨so, sb⟩ := st
 simp only [Prod.mk.injEq] at h2 h3 hNo hAt
 have hegl : (encGame g).length = 9 := rfl
 have hegb : ∀ n, (∀ c ∈ encGame g, Bel n c) = True := fun n => by simp [go_sem]
 have hegc : cel (encGame g) 6 = .lst 4 (g.clauses.map encClause) := rfl
 have hegk : cel (encGame g) 7 = .v (.int .i64 g.blocked) := rfl
 generalize g.clauses = cls at *
 generalize g.blocked = bl at *
 generalize movesP g p = l at *
 generalize encGame g = eg at *
 (repeat (first | with_reducible (first | refine wL fun _ => ?_ | refine wD fun _ => ?_ | refine wE ?_ | refine adrZ.go ?_) | simp [go_sem, herl]))
 refine ACallP.plain hS (by simp [go_sem]) ?_
 (repeat (first | with_reducible (first | refine wL fun _ => ?_ | refine wD fun _ => ?_ | refine wE ?_ | refine adrZ.go ?_) | simp [go_sem, herl]))
 refine ACallP.plain hM (by simp [go_sem, herb]) ?_
 (repeat (first | with_reducible (first | refine wL fun _ => ?_ | refine wD fun _ => ?_ | refine wE ?_ | refine adrZ.go ?_) | simp [go_sem, herl, hegl]))
 refine ACallP.plain hSt (by simp [go_sem, hegb]) ?_
 (repeat (first | with_reducible (first | refine wL fun _ => ?_ | refine wD fun _ => ?_ | refine wE ?_ | refine adrZ.go ?_) | simp [go_sem, herl, hegl, encOver]))
 try ((with_reducible refine adrZ.go ?_); (try simp [go_sem]))
 refine dCall.plain hPM (by simp [go_sem, hegb]) ?_
 have hsb : sb = true ∨ sb = false ∧ so = 0 := by
  cases sb
  ·exact .inr ⟨rfl, h3 rfl⟩
  ·exact .inl rfl
 have hl0 : decide ((l.length : Int) = 0) = sb := by
  rw [h2, decide_eq_decide]
  exact ⟨fun h => List.eq_nil_of_length_eq_zero (by omega), fun h => by rw [h]; rfl⟩
 have hl1 : ((l.length : Int) = 0) = (sb = true) := by
  rw [← hl0]
  simp
 have hl2 : (l = []) = (sb = true) := by
  rw [h2]
  simp
 clear h2 h3 hl0
 rcases hsb with rfl | ⟨rfl, rfl⟩
 ·(repeat (first | with_reducible (first | refine wL fun _ => ?_ | refine wD fun _ => ?_ | refine wE ?_ | refine adrZ.go ?_) | simp [go_sem, hegl, hl1, hl2]))
  refine ALoop.start (ALoop.ind (α := Nat) (fun i => ⟨[(3, .v (.bool true)), (4, .ref 1 0 9 0 0), (5, .ref 2 0 5 0 0), (6, .ref 3 0 2 0 0), (7, .v (.int .i64 i))], [(1, .rows true 0 9 [eg]), (2, .rows true 0 5 [encPos p]), (3, .rows true 0 2 [[.v (.int .i64 so), .v (.bool true)]])], 4⟩)
   (fun d i => i + d = cls.length ∧ ∀ j, j < i → condP (nth cls j) p = false) ?_ cls.length 0 ?_) ?_ ?_
  ·rintro d i ⟨i1, i2⟩ hrec
   (repeat (first | with_reducible (first | refine wL fun _ => ?_ | refine wD fun _ => ?_ | refine wE ?_ | refine adrZ.go ?_) | simp [go_sem, hegl, hegc]))
   refine aIf.mkL (fun hi => ?_) (fun hi => ?_) <;> simp at hi
   ·have hCi := hC _ (nth_mem hi)
    have hAt := hAt i hi i2
    generalize hcb : condP (nth cls i) p = cb at *
    generalize hni : nth cls i = ci at *
    (repeat (first | with_reducible (first | refine wL fun _ => ?_ | refine wD fun _ => ?_ | refine wE ?_ | refine adrZ.go ?_) | simp [go_sem, hegl, hegc, hi, hni]))
    try ((with_reducible refine adrZ.go ?_); (try simp [go_sem]))
    refine dCall.plain hCi (by simp [go_sem]) ?_
    cases cb
    ·(repeat (first | with_reducible (first | refine wL fun _ => ?_ | refine wD fun _ => ?_ | refine wE ?_ | refine adrZ.go ?_) | simp [go_sem, hegl, hegc]))
     refine ALoop.start (hrec (d - 1) (by omega) (i + 1) ⟨by omega, fun j hj => ?_⟩) ?_ (by simp)
     ·rcases Nat.lt_or_ge j i with h' | h'
      ·exact i2 j h'
      ·obtain rfl : j = i := by omega
       rw [hni]; exact hcb
     ·simp [go_sem, Wk_eq, hegb]
    ·obtain ⟨e1, e2⟩ := hAt rfl
     subst e1
     (repeat (first | with_reducible (first | refine wL fun _ => ?_ | refine wD fun _ => ?_ | refine wE ?_ | refine adrZ.go ?_) | simp [go_sem, hegl, hegc, hi, hni]))
   ·have hb := hNo (fun j hj => i2 j (by omega))
    (repeat (first | with_reducible (first | refine wL fun _ => ?_ | refine wD fun _ => ?_ | refine wE ?_ | refine adrZ.go ?_) | simp [go_sem, hegl, hegk, hb rfl]))
  ·exact ⟨by simp, fun j hj => by omega⟩
  ·simp [go_sem, Wk_eq, hegb]
  ·simp
 ·(repeat (first | with_reducible (first | refine wL fun _ => ?_ | refine wD fun _ => ?_ | refine wE ?_ | refine adrZ.go ?_) | simp [go_sem, hegl, hl1, hl2]))
  refine ALoop.start (ALoop.ind (α := Nat) (fun i => ⟨[(3, .v (.bool true)), (4, .ref 1 0 9 0 0), (5, .ref 2 0 5 0 0), (6, .ref 3 0 2 0 0), (7, .v (.int .i64 i))], [(1, .rows true 0 9 [eg]), (2, .rows true 0 5 [encPos p]), (3, .rows true 0 2 [[.v (.int .i64 0), .v (.bool false)]])], 4⟩)
   (fun d i => i + d = cls.length ∧ ∀ j, j < i → condP (nth cls j) p = false) ?_ cls.length 0 ?_) ?_ ?_
  ·rintro d i ⟨i1, i2⟩ hrec
   (repeat (first | with_reducible (first | refine wL fun _ => ?_ | refine wD fun _ => ?_ | refine wE ?_ | refine adrZ.go ?_) | simp [go_sem, hegl, hegc]))
   refine aIf.mkL (fun hi => ?_) (fun hi => ?_) <;> simp at hi
   ·have hCi := hC _ (nth_mem hi)
    have hAt := hAt i hi i2
    generalize hcb : condP (nth cls i) p = cb at *
    generalize hni : nth cls i = ci at *
    (repeat (first | with_reducible (first | refine wL fun _ => ?_ | refine wD fun _ => ?_ | refine wE ?_ | refine adrZ.go ?_) | simp [go_sem, hegl, hegc, hi, hni]))
    try ((with_reducible refine adrZ.go ?_); (try simp [go_sem]))
    refine dCall.plain hCi (by simp [go_sem]) ?_
    cases cb
    ·(repeat (first | with_reducible (first | refine wL fun _ => ?_ | refine wD fun _ => ?_ | refine wE ?_ | refine adrZ.go ?_) | simp [go_sem, hegl, hegc]))
     refine ALoop.start (hrec (d - 1) (by omega) (i + 1) ⟨by omega, fun j hj => ?_⟩) ?_ (by simp)
     ·rcases Nat.lt_or_ge j i with h' | h'
      ·exact i2 j h'
      ·obtain rfl : j = i := by omega
       rw [hni]; exact hcb
     ·simp [go_sem, Wk_eq, hegb]
    ·obtain ⟨e1, e2⟩ := hAt rfl
     exact absurd e2 (by simp)
   ·have hb := hNo (fun j hj => i2 j (by omega))
    (repeat (first | with_reducible (first | refine wL fun _ => ?_ | refine wD fun _ => ?_ | refine wE ?_ | refine adrZ.go ?_) | simp [go_sem, hegl, hegk]))
  ·exact ⟨by simp, fun j hj => by omega⟩
  ·simp [go_sem, Wk_eq, hegb]
  ·simp
end Go.Av
end
section
set_option linter.unusedSimpArgs false
set_option linter.unusedVariables false
open Go Go.Proofs
set_option maxRecDepth 20000
set_option maxHeartbeats 4000000
namespace Go.Av
def withCl (g : GameD) (l : List (Int × Int × Int × Int)) : GameD := { g with clauses := l }
theorem withCl_ok {g : GameD} (hg : GOk g) {l : List (Int × Int × Int × Int)} (hl : l.length ≤ 6) (hc : ∀ c ∈ l, ClauseOk g.cells g.kinds.length c) : GOk (withCl g l) := by
 obtain ⟨a1, a2, a3, a4, a5, a6, a7, a8, a9, a10, a11, a12, a13, a14, a15, a16⟩ := hg
 exact ⟨a1, a2, a3, a4, a5, a6, a7, a8, a9, a10, a11, a12, hc, hl, a15, a16⟩
theorem withCl_pos {g : GameD} {p : PosD} (h : POk g p) (l : List (Int × Int × Int × Int)) : POk (withCl g l) p := ⟨h.al, h.av, ⟨h.h0.len, h.h0.v⟩, ⟨h.h1.len, h.h1.v⟩, h.r0, h.r1, h.s⟩
theorem withCl_outs (g : GameD) (l : List (Int × Int × Int × Int)) (p : PosD) : outsP (withCl g l) p = outsP g p := rfl
theorem withCl_drops (g : GameD) (l : List (Int × Int × Int × Int)) (p : PosD) : dropsP (withCl g l) p = dropsP g p := rfl
theorem withCl_moves (g : GameD) (l : List (Int × Int × Int × Int)) (p : PosD) (h : endedP (withCl g l) p < 0) : movesP (withCl g l) p = sortU cmpP (movesL g p) := if_neg (by omega)
theorem sortU_nil {α : Type} [DecidableEq α] {c : α → α → Int} {l : List α} : sortU c l = [] ↔ l = [] := by
 constructor
 ·intro h
  cases l with
  | nil => rfl
  | cons a l =>
   have : a ∈ sortU c (a :: l) := sortU_mem.2 (by simp)
   rw [h] at this
   simp at this
 ·rintro rfl
  exact List.eq_nil_of_length_eq_zero (by have := sortU_le c ([] : List α); simpa using this)
theorem movesL_nil {g : GameD} {p : PosD} : movesL g p = [] ↔ outsP g p = [] ∧ dropsP g p = [] := by
 constructor
 ·intro h
  have h' : ∀ q, q ∉ movesL g p := fun q hq => by rw [h] at hq; simp at hq
  have hm : mustP g p = false := by
   cases hm : mustP g p with
   | false => rfl
   | true =>
    exfalso
    unfold mustP at hm
    simp only [Bool.and_eq_true, List.any_eq_true] at hm
    obtain ⟨_, o, ho, ht⟩ := hm
    exact h' o.pos (List.mem_append.2 (.inl (List.mem_map.2 ⟨o, List.mem_filter.2 ⟨ho, by simp [ht]⟩, rfl⟩)))
  constructor
  ·refine List.eq_nil_iff_forall_not_mem.2 fun o ho => h' o.pos (List.mem_append.2 (.inl (List.mem_map.2 ⟨o, List.mem_filter.2 ⟨ho, by simp [hm]⟩, rfl⟩)))
  ·refine List.eq_nil_iff_forall_not_mem.2 fun q hq => h' q (List.mem_append.2 (.inr ?_))
   rw [hm]
   exact hq
 ·rintro ⟨h1, h2⟩
  unfold movesL
  rw [h1, h2]
  simp
theorem bare_status (g : GameD) (p : PosD) : statusV (withCl g []) p = if outsP g p = [] ∧ dropsP g p = [] then (g.blocked, true) else (0, false) := by
 have he : endedP (withCl g []) p = -1 := rfl
 rw [statusV_eq, he, if_neg (by omega), withCl_moves _ _ _ (by rw [he]; omega)]
 by_cases h : outsP g p = [] ∧ dropsP g p = []
 ·rw [if_pos h, if_pos (sortU_nil.2 (movesL_nil.2 h))]
  rfl
 ·rw [if_neg h, if_neg (fun h' => h (movesL_nil.1 (sortU_nil.1 h')))]
theorem all_ended (g : GameD) {p : PosD} (hp : p.at_.length ≤ 9) (t : Int) : endedP (withCl g [(3, 0, 64, t)]) p = 0 := by
 have h : condP (3, 0, 64, t) p = true := by
  unfold condP
  simp only
  rw [if_neg (by decide), if_neg (by decide), decide_eq_true_eq]
  have : menP p p.side (-1) ≤ p.at_.length := List.countP_le_length
  omega
 exact endedP_at (g := withCl g [(3, 0, 64, t)]) (i := 0) (by simp [withCl]) (fun j hj => by omega) h
theorem more_before {g : GameD} {p : PosD} (c : Int × Int × Int × Int) (h : 0 ≤ endedP g p) : statusV (withCl g (g.clauses ++ [c])) p = statusV g p ∧ 0 ≤ endedP (withCl g (g.clauses ++ [c])) p := by
 unfold endedP at h
 cases he : g.clauses.findIdx? (fun c => condP c p) with
 | none => rw [he] at h; simp at h
 | some i =>
  obtain ⟨hi, h1, h2⟩ := List.findIdx?_eq_some_iff_getElem.1 he
  have e1 : endedP g p = i := by unfold endedP; rw [he]
  have hn : ∀ j, j < g.clauses.length → nth (withCl g (g.clauses ++ [c])).clauses j = nth g.clauses j := fun j hj => by
   show nth (g.clauses ++ [c]) j = nth g.clauses j
   rw [nth_eq _ _ (by simp; omega), nth_eq _ _ hj, List.getElem_append_left hj]
  have e2 : endedP (withCl g (g.clauses ++ [c])) p = i := endedP_at (by show i < (g.clauses ++ [c]).length; simp; omega) (fun j hj => by
    rw [hn j (by omega), nth_eq _ _ (by omega)]
    simpa using h2 j hj) (by rw [hn i hi, nth_eq _ _ hi]; exact h1)
  rw [statusV_eq, statusV_eq, e1, e2, if_pos (by omega), if_pos (by omega), Int.toNat_natCast, hn i hi]
  exact ⟨rfl, by omega⟩
theorem more_is {g : GameD} {p : PosD} (c : Int × Int × Int × Int) (h : (statusV g p).2 = true) : (statusV (withCl g (g.clauses ++ [c])) p).2 = true := by
 by_cases he : 0 ≤ endedP g p
 ·rw [(more_before c he).1]; exact h
 ·rw [statusV_2, decide_eq_true_eq] at h ⊢
  by_cases he2 : 0 ≤ endedP (withCl g (g.clauses ++ [c])) p
  ·exact if_pos he2
  ·rw [withCl_moves _ _ _ (by omega)]
   unfold movesP at h
   rwa [if_neg he] at h
theorem game6_cl (x : Raw6) : (game6 x).clauses.length ≤ 3 := by
 show ((x.g.c.take 3).map _).length ≤ 3
 simp
 omega
theorem PlayClauses_pure (x : Raw6) (hx : Raw6Ok x) (w0 w1 w2 : Int) (hw0 : U8 w0) (hw1 : U8 w1) (hw2 : U8 w2) :
  Pure Tryz.prog 5 [.agg (encRaw6 x), .agg [.v (.int .u8 w0), .v (.int .u8 w1), .v (.int .u8 w2)]] (.v (.bool true)) := by
 refine Pure.of (ACallP.of_awp (by kernel_rfl) Tryz.func5 rfl rfl (Nat.le_of_ble_eq_true rfl) (by kernel_rfl) ?_)
 have hM := R6Made_pure x hx
 have hg := game6_ok hx
 have hp := pos6_ok hx
 have hcl := game6_cl x
 obtain ⟨er, her⟩ : ∃ er, er = encRaw6 x := ⟨_, rfl⟩
 have herl : er.length = 31 := by rw [her]; exact raw6_len hx
 have herb : ∀ n, (∀ c ∈ er, Bel n c) = True := fun n => by rw [her]; exact raw6_bel hx n
 rw [← her] at hM ⊢
 generalize game6 x = g at *
 generalize pos6 x = p at *
 have hS := sanity6_pure
 have m4 := Int.tmod_nonneg 4 hw0.1
 have m4' := Int.tmod_lt_of_pos w0 (show (0 : Int) < 4 by decide)
 have m3 := Int.tmod_nonneg 3 hw1.1
 have m3' := Int.tmod_lt_of_pos w1 (show (0 : Int) < 3 by decide)
 obtain ⟨cn, hcn⟩ : ∃ cn, cn = w0.tmod 4 := ⟨_, rfl⟩
 obtain ⟨ct, hct⟩ : ∃ ct, ct = 1 + w1.tmod 3 := ⟨_, rfl⟩
 have k1 := hg.k1
 have hc : ∀ n : Int, 0 ≤ n ∧ n ≤ 64 → ClauseOk g.cells g.kinds.length (3, 0, n, ct) := fun n hn => ⟨.inr (.inr rfl), by simp only; omega, by simp only; omega, by simp only; omega, fun _ => rfl⟩
 have gM := withCl_ok hg (l := g.clauses ++ [(3, 0, cn, ct)]) (by simp; omega) (fun c h => by
  rcases List.mem_append.1 h with h | h
  ·exact hg.cl c h
  ·simp only [List.mem_singleton] at h
   subst h
   exact hc cn (by omega))
 have gN := withCl_ok hg (l := []) (by simp) (by simp)
 have gA := withCl_ok hg (l := [(3, 0, 64, ct)]) (by simp) (fun c h => by
  simp only [List.mem_singleton] at h
  subst h
  exact hc 64 (by omega))
 have sB := lawStatus_pure g hg p hp
 have sM := lawStatus_pure _ gM p (withCl_pos hp _)
 have sN := lawStatus_pure _ gN p (withCl_pos hp _)
 have sA := lawStatus_pure _ gA p (withCl_pos hp _)
 have oN := outs6_pure _ gN p (withCl_pos hp _)
 have dN := rDrops_pure _ gN p (withCl_pos hp _)
 have mA := Moves_pure _ gA p (withCl_pos hp _)
 have hE := R6Ended_pure g hg p hp
 have eA := all_ended g (p := p) (by have := hp.al; have := hg.c9; omega) ct
 have eA2 : statusV (withCl g [(3, 0, 64, ct)]) p = (ct, true) := by rw [statusV_eq, eA]; rfl
 have eA3 : movesP (withCl g [(3, 0, 64, ct)]) p = [] := if_pos (by rw [eA]; omega)
 rw [eA2] at sA
 rw [eA3] at mA
 rw [bare_status] at sN
 rw [withCl_outs] at oN
 rw [withCl_drops] at dN
 have f1 := fun h => (more_before (g := g) (p := p) (3, 0, cn, ct) h).1
 have f2 := more_is (g := g) (p := p) (3, 0, cn, ct)
 have hol := outsP_len2 hg hp
 have hdl := dropsP_len hg hp
 generalize statusV (withCl g (g.clauses ++ [(3, 0, cn, ct)])) p = stM at *
 generalize statusV g p = stB at *
 obtain ⟨mo, mb⟩ := stM
 obtain ⟨bo, bb⟩ := stB
 simp only [Prod.mk.injEq] at f1 f2
 have hfree : ((0 : Int) < (outsP g p).length + (dropsP g p).length) = ¬ (outsP g p = [] ∧ dropsP g p = []) := by
  rw [← List.length_eq_zero_iff, ← List.length_eq_zero_iff]
  apply propext
  omega
 generalize outsP g p = os at *
 generalize dropsP g p = ds at *
 generalize endedP g p = ep at *
 have E : ∀ l, encGame (withCl g l) = [.v (.int .i64 g.cells), .lst 1 (g.next.map fun l => [.lst 1 (l.map encI)]), .lst 1 (g.turn.map encI), .lst 3 (g.kinds.map encKind), .v (.int .i64 g.rights), .v (.bool g.must), .lst 4 (l.map encClause), .v (.int .i64 g.blocked), .v (.int .i64 g.endless)] := fun l => rfl
 rw [E] at sM sN sA oN dN mA
 clear hc gM gN gA eA eA2 eA3 E
 (repeat (first | with_reducible (first | refine wL fun _ => ?_ | refine wD fun _ => ?_ | refine wE ?_ | refine adrZ.go ?_) | simp [go_sem, herl]))
 refine ACallP.plain hS (by simp [go_sem]) ?_
 (repeat (first | with_reducible (first | refine wL fun _ => ?_ | refine wD fun _ => ?_ | refine wE ?_ | refine adrZ.go ?_) | simp [go_sem, herl]))
 refine ACallP.plain hM (by simp [go_sem, herb]) ?_
 have u0 := hw0.1
 have u0' := hw0.2
 have u1 := hw1.1
 have u1' := hw1.2
 (repeat (first | with_reducible (first | refine wL fun _ => ?_ | refine wD fun _ => ?_ | refine wE ?_ | refine adrZ.go ?_) | simp [go_sem, herl, ← hcn, ← hct]))
 have flV : ∀ v, Flat (encOver v) := fun v => .agg (by simp [encOver]; exact ⟨.v _, .v _⟩)
 try ((with_reducible refine adrZ.go ?_); (try simp [go_sem]))
 refine dCall.plain sB (by simp [go_sem]) ?_
 (repeat (first | with_reducible (first | refine wL fun _ => ?_ | refine wD fun _ => ?_ | refine wE ?_ | refine adrZ.go ?_) | simp [go_sem, encOver]))
 try ((with_reducible refine adrZ.go ?_); (try simp [go_sem]))
 refine dCall.flat [_, .agg (encPos p)] _ [14] sM (flV _) ?_ (by simp [go_sem]) ?_
 ·intro h₁ hS
  have h7 := hS 14 (by simp)
  simp [upd] at h7
  exact .cons (.agg (.cons (.refl _) (.cons (.refl _) (.cons (.refl _) (.cons (.refl _) (.cons (.refl _) (.cons (.refl _) (.cons (leV_frz h7.symm (by simp) (by simp [noH]) (by simp [go_sem]; exact List.take_of_length_le (by simp))) (.cons (.refl _) (.cons (.refl _) .nil)))))))))) (.cons (.refl _) .nil)
 (repeat (first | with_reducible (first | refine wL fun _ => ?_ | refine wD fun _ => ?_ | refine wE ?_ | refine adrZ.go ?_) | simp [go_sem, encOver]))
 refine aGC.plain _ (fun _ => hE) (by simp [go_sem]) ?_
 (repeat (first | with_reducible (first | refine wL fun _ => ?_ | refine wD fun _ => ?_ | refine wE ?_ | refine adrZ.go ?_) | simp [go_sem, encOver] | (refine VC.mkD (by (cases bb <;> cases mb <;> (first | (simp; done) | (simp; omega) | (simp; intros; omega)))) fun _ => ?_) | (refine VC.mkL (by (cases bb <;> cases mb <;> (first | (simp; done) | (simp; omega) | (simp; intros; omega)))) fun _ => ?_)))
 refine aIf.mkL (fun hF => ?_) (fun _ => ?_)
 ·exfalso
  simp at hF
  cases bb <;> cases mb <;> simp_all <;> omega
 ·(repeat (first | with_reducible (first | refine wL fun _ => ?_ | refine wD fun _ => ?_ | refine wE ?_ | refine adrZ.go ?_) | simp [go_sem, encOver]))
  refine ACallP.flat sN (flV _) (.cons (.agg (.cons (.refl _) (.cons (.refl _) (.cons (.refl _) (.cons (.refl _) (.cons (.refl _) (.cons (.refl _) (.cons (.nil _) (.cons (.refl _) (.cons (.refl _) .nil)))))))))) (.cons (.refl _) .nil)) (by simp [go_sem]) ?_
  (repeat (first | with_reducible (first | refine wL fun _ => ?_ | refine wD fun _ => ?_ | refine wE ?_ | refine adrZ.go ?_) | simp [go_sem, encOver]))
  try ((with_reducible refine adrZ.go ?_); (try simp [go_sem]))
  refine dCall.frz [_, .agg (encPos p)] _ [] [] oN (by simp) (fun h₁ hS => .cons (.agg (.cons (.refl _) (.cons (.refl _) (.cons (.refl _) (.cons (.refl _) (.cons (.refl _) (.cons (.refl _) (.cons (.nil _) (.cons (.refl _) (.cons (.refl _) .nil)))))))))) (.cons (.refl _) .nil)) (by simp [go_sem]) ?_
  (repeat (first | with_reducible (first | refine wL fun _ => ?_ | refine wD fun _ => ?_ | refine wE ?_ | refine adrZ.go ?_) | simp [go_sem, encOver]))
  try ((with_reducible refine adrZ.go ?_); (try simp [go_sem]))
  refine dCall.frz [_, .agg (encPos p)] _ [] [] dN (by simp) (fun h₁ hS => .cons (.agg (.cons (.refl _) (.cons (.refl _) (.cons (.refl _) (.cons (.refl _) (.cons (.refl _) (.cons (.refl _) (.cons (.nil _) (.cons (.refl _) (.cons (.refl _) .nil)))))))))) (.cons (.refl _) .nil)) (by simp [go_sem]) ?_
  by_cases hfr : os = [] ∧ ds = []
  ·rw [if_pos hfr] at *
   obtain ⟨rfl, rfl⟩ := hfr
   (repeat (first | with_reducible (first | refine wL fun _ => ?_ | refine wD fun _ => ?_ | refine wE ?_ | refine adrZ.go ?_) | simp [go_sem, encOver]))
   try ((with_reducible refine adrZ.go ?_); (try simp [go_sem]))
   refine dGC.flat [_, .agg (encPos p)] _ [16] (fun _ => sA) (flV _) ?_ (by simp [go_sem]) ?_
   ·intro h₁ hS
    have h7 := hS 16 (by simp)
    simp [upd] at h7
    exact .cons (.agg (.cons (.refl _) (.cons (.refl _) (.cons (.refl _) (.cons (.refl _) (.cons (.refl _) (.cons (.refl _) (.cons (leV_frz h7.symm (by simp) (by simp [noH]) (by simp [go_sem])) (.cons (.refl _) (.cons (.refl _) .nil)))))))))) (.cons (.refl _) .nil)
   (repeat (first | with_reducible (first | refine wL fun _ => ?_ | refine wD fun _ => ?_ | refine wE ?_ | refine adrZ.go ?_) | simp [go_sem, encOver]))
   try ((with_reducible refine adrZ.go ?_); (try simp [go_sem]))
   refine dGC.frz [_, .agg (encPos p)] _ [16] [(16, some (.rows false 0 4 [encClause (3, 0, 64, ct)]))] mA ?_ ?_ (by simp [go_sem]) ?_
   ·intro p hp
    simp only [List.mem_singleton] at hp
    subst hp
    exact ⟨by simp, 0, 4, _, rfl, by simp [upd, encClause]⟩
   ·intro h₁ hS
    have h7 := hS 16 (by simp)
    simp [upd] at h7
    exact .cons (.agg (.cons (.refl _) (.cons (.refl _) (.cons (.refl _) (.cons (.refl _) (.cons (.refl _) (.cons (.refl _) (.cons (leV_frz h7.symm (by simp) (by simp [applyW, upd]) (by simp [go_sem])) (.cons (.refl _) (.cons (.refl _) .nil)))))))))) (.cons (.refl _) .nil)
   (repeat (first | with_reducible (first | refine wL fun _ => ?_ | refine wD fun _ => ?_ | refine wE ?_ | refine adrZ.go ?_) | simp [go_sem, encOver]))
  ·rw [if_neg hfr] at *
   have hfree : (0 : Int) < os.length + ds.length := by rw [hfree]; exact hfr
   (repeat (first | with_reducible (first | refine wL fun _ => ?_ | refine wD fun _ => ?_ | refine wE ?_ | refine adrZ.go ?_) | simp [go_sem, encOver, hfree]))
   try ((with_reducible refine adrZ.go ?_); (try simp [go_sem]))
   refine dGC.flat [_, .agg (encPos p)] _ [16] (fun _ => sA) (flV _) ?_ (by simp [go_sem]) ?_
   ·intro h₁ hS
    have h7 := hS 16 (by simp)
    simp [upd] at h7
    exact .cons (.agg (.cons (.refl _) (.cons (.refl _) (.cons (.refl _) (.cons (.refl _) (.cons (.refl _) (.cons (.refl _) (.cons (leV_frz h7.symm (by simp) (by simp [noH]) (by simp [go_sem])) (.cons (.refl _) (.cons (.refl _) .nil)))))))))) (.cons (.refl _) .nil)
   (repeat (first | with_reducible (first | refine wL fun _ => ?_ | refine wD fun _ => ?_ | refine wE ?_ | refine adrZ.go ?_) | simp [go_sem, encOver]))
   try ((with_reducible refine adrZ.go ?_); (try simp [go_sem]))
   refine dGC.frz [_, .agg (encPos p)] _ [16] [(16, some (.rows false 0 4 [encClause (3, 0, 64, ct)]))] mA ?_ ?_ (by simp [go_sem]) ?_
   ·intro p hp
    simp only [List.mem_singleton] at hp
    subst hp
    exact ⟨by simp, 0, 4, _, rfl, by simp [upd, encClause]⟩
   ·intro h₁ hS
    have h7 := hS 16 (by simp)
    simp [upd] at h7
    exact .cons (.agg (.cons (.refl _) (.cons (.refl _) (.cons (.refl _) (.cons (.refl _) (.cons (.refl _) (.cons (.refl _) (.cons (leV_frz h7.symm (by simp) (by simp [applyW, upd]) (by simp [go_sem])) (.cons (.refl _) (.cons (.refl _) .nil)))))))))) (.cons (.refl _) .nil)
   (repeat (first | with_reducible (first | refine wL fun _ => ?_ | refine wD fun _ => ?_ | refine wE ?_ | refine adrZ.go ?_) | simp [go_sem, encOver]))
end Go.Av
end
