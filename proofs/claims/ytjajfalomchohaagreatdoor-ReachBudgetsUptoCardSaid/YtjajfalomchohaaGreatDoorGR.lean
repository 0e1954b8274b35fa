/- Contracts: play.Status, play.Legal, play.Walk. -/
import Derived.Test.YtjajfalomchohaaGreatDoorGO
import Derived.Test.YtjajfalomchohaaGreatDoorDX
set_option linter.unusedSimpArgs false
set_option linter.unusedVariables false
section
open Go Go.Proofs
set_option maxRecDepth 20000
set_option maxHeartbeats 4000000
namespace Go.Av
def idxOfP (p : PosD → Bool) (l : List PosD) : Int := match l.findIdx? p with | some i => (i : Int) | none => -1
theorem idxOfP_at {p : PosD → Bool} {l : List PosD} {j : Nat} (hj : j < l.length) (h : ∀ i, i < j → p (nth l i) = false) (hp : p (nth l j) = true) : idxOfP p l = j := by
 have : l.findIdx? p = some j := by
  rw [List.findIdx?_eq_some_iff_getElem]
  refine ⟨hj, by rw [← nth_eq _ _ hj]; exact hp, fun i hi => ?_⟩
  have := h i hi
  rw [nth_eq _ _ (by omega)] at this
  simp [this]
 simp [idxOfP, this]
theorem idxOfP_none {p : PosD → Bool} {l : List PosD} (h : ∀ i, i < l.length → p (nth l i) = false) : idxOfP p l = -1 := by
 have : l.findIdx? p = none := by
  rw [List.findIdx?_eq_none_iff]
  intro x hx
  obtain ⟨i, hi, rfl⟩ := List.getElem_of_mem hx
  have := h i hi
  rw [nth_eq _ _ hi] at this
  exact this
 simp [idxOfP, this]
theorem idxOfP_any {p : PosD → Bool} {l : List PosD} : decide (0 ≤ idxOfP p l) = l.any p := by
 unfold idxOfP
 cases h : l.findIdx? p with
 | none =>
  rw [List.findIdx?_eq_none_iff] at h
  simp
  simpa using h
 | some i =>
  have := List.findIdx?_isSome (xs := l) (p := p)
  rw [h] at this
  simp at this ⊢
  exact this
theorem IndexFuncP_pure (l : List PosD) (hl : l.length ≤ 17179869184) (f : FuncId) (first caps : List AV) (p : PosD → Bool) (hp : ∀ x ∈ l, Pure Tryz.prog f (first ++ .agg (encPos x) :: caps) (.v (.bool (p x)))) (hb : ∀ c ∈ first, Bel 0 c) (hb' : ∀ c ∈ caps, Bel 0 c) :
  Pure Tryz.prog 148 [encPs l, .fn (.func f) first caps] (.v (.int .i64 (idxOfP p l))) := by
 refine pF Tryz.func148 ?_
 simp [go_sem]
 refine ALoop.start (ALoop.ind (α := Nat) (fun j => ⟨[(0, encPs l), (1, .fn (.func f) first caps), (7, .v (.int .i64 l.length)), (8, .v (.int .i64 j))], [], 0⟩)
  (fun d j => j + d = l.length ∧ (∀ i < j, p (nth l i) = false)) ?_ l.length 0 ?_) ?_ ?_
 ·rintro d j ⟨i1, i2⟩ hrec
  simp [go_sem]
  refine aIf.mkL (fun hj => ?_) (fun hj => ?_)
  ·simp at hj
   simp [go_sem]
   refine VC.mkL hj fun _ => ?_
   simp [go_sem, hj]
   refine ACallP.plain (hp _ (nth_mem hj)) (fun c hc => by
    rcases List.mem_append.1 hc with h | h
    ·exact hb c h
    ·rcases List.mem_cons.1 h with rfl | h
     ·exact of_eq_true (by simp [go_sem])
     ·exact hb' c h) ?_
   simp [go_sem]
   refine aIf.mkL (fun h => ?_) (fun h => ?_)
   ·simp [go_sem, idxOfP_at hj i2 h]
   ·simp [go_sem]
    refine VC.mkL (by omega) fun _ => ?_
    simp [go_sem]
    refine ALoop.start (hrec (d - 1) (by omega) (j + 1) ⟨by omega, fun i hi => ?_⟩) ?_ (by simp)
    ·rcases Nat.lt_or_ge i j with h' | h'
     ·exact i2 i h'
     ·obtain rfl : i = j := by omega
      exact h
    ·simp [go_sem, Wk_eq]
     exact ⟨hb, hb'⟩
  ·simp at hj
   simp [go_sem, idxOfP_none fun i hi => i2 i (by omega)]
 ·simp
 ·simp [go_sem, Wk_eq]
  exact ⟨hb, hb'⟩
 ·simp
theorem ContainsFuncP_pure (l : List PosD) (hl : l.length ≤ 17179869184) (f : FuncId) (first caps : List AV) (p : PosD → Bool) (hp : ∀ x ∈ l, Pure Tryz.prog f (first ++ .agg (encPos x) :: caps) (.v (.bool (p x)))) (hb : ∀ c ∈ first, Bel 0 c) (hb' : ∀ c ∈ caps, Bel 0 c) :
  Pure Tryz.prog 80 [encPs l, .fn (.func f) first caps] (.v (.bool (l.any p))) := by
 refine pF Tryz.func80 ?_
 simp [go_sem]
 refine ACallP.plain (IndexFuncP_pure l hl f first caps p hp hb hb') (by simp [go_sem]; exact ⟨hb, hb'⟩) ?_
 simp [go_sem, idxOfP_any]
theorem legal1_pure (m q : PosD) (hm : FitsP m) (hq : FitsP q) : Pure Tryz.prog 81 [.agg (encPos m), .fp (encPos q)] (.v (.bool (decide (m = q)))) := by
 refine pF Tryz.func81 ?_
 have c1 := pCompare_pure m q hm hq
 have e : decide (m = q) = decide (cmpP m q = 0) := by rw [decide_eq_decide]; exact (cmp_pos.eq m q).symm
 rw [e]
 generalize cmpP m q = x at *
 (repeat (first|with_reducible (first|refine wL fun _=>?_|refine wD fun _=>?_|refine wE ?_|refine wZ ?_)|simp [go_sem]))
 refine ACallP.plain c1 (by simp [go_sem]) ?_
 (repeat (first|with_reducible (first|refine wL fun _=>?_|refine wD fun _=>?_|refine wE ?_|refine wZ ?_)|simp [go_sem]))
theorem Legal_pure (g : GameD) (hg : GOk g) (p : PosD) (hp : POk g p) (q : PosD) (hq : FitsP q) : Pure Tryz.prog 33 [.agg (encGame g), .agg (encPos p), .agg (encPos q)] (.v (.bool (decide (q ∈ movesP g p)))) := by
 refine pF Tryz.func33 ?_
 have hM := Moves_pure g hg p hp
 have hml := movesP_len hg hp
 have hmf := fun m hm => ((movesP_ok hg hp) m hm).1.fits hg
 generalize movesP g p = l at *
 have hC := ContainsFuncP_pure l (by omega) 81 [] [.fp (encPos q)] (fun m => decide (m = q)) (fun m hm => legal1_pure m q (hmf m hm) hq) (by simp) (by simp [go_sem])
 have e : l.any (fun m => decide (m = q)) = decide (q ∈ l) := by
  rw [Bool.eq_iff_iff]
  simp
 rw [e] at hC
 (repeat (first|with_reducible (first|refine wL fun _=>?_|refine wD fun _=>?_|refine wE ?_|refine wZ ?_)|simp [go_sem]))
 refine ACallP.plain hM (by simp [go_sem]) ?_
 (repeat (first|with_reducible (first|refine wL fun _=>?_|refine wD fun _=>?_|refine wE ?_|refine wZ ?_)|simp [go_sem]))
 refine ACallP.pureF [2] hC ?_ (by simp [go_sem]) ?_
 ·((try simp only [encProg, encStep, encAct, encAs, encPath, encPt, encOut, encState, encPos, encOs, encSs, encPs, encIs, encGame, List.map_cons, List.map_nil, List.nil_append, List.append_nil, List.cons_append]); (repeat (first | (with_reducible exact LeRow.nil) | (with_reducible exact LeRows.nil) | (with_reducible exact LeV.refl _) | (with_reducible exact LeRow.refl _ _ _ _) | (with_reducible exact LeRows.refl _) | (with_reducible refine LeRow.cons ?_ ?_) | (with_reducible refine LeRows.cons ?_ ?_) | (with_reducible refine LeV.agg ?_) | (with_reducible refine LeV.tup ?_) | (with_reducible refine LeV.fn ?_ ?_) | (with_reducible exact LeV.nil _) | (with_reducible refine leRows_append (LeRows.refl _) ?_) | ((refine leV_frz rfl (by simp) (by simp [frzO, frz1, upd, noH]) ?_); (first | (simp [go_sem]; done) | (simp [go_sem]; exact List.take_of_length_le (by simp)))) | ((refine LeV.frz rfl (by simp) (by simp [frzO, frz1, upd, noH]) ?_); (simp only [List.drop_zero, List.take_succ_cons, List.take_zero, List.map_cons, List.map_nil])) | ((refine LeV.frzP rfl (by simp) (by simp) (by simp [frzO, frz1, upd, noH]) ?_); (simp only [nth_zero, List.drop_zero])))))
 ·(repeat (first|with_reducible (first|refine wL fun _=>?_|refine wD fun _=>?_|refine wE ?_|refine wZ ?_)|simp [go_sem]))
theorem rem_twice (k : Int) {n : Int} (hn : 0 < n) : (k.tmod n + n).tmod n = k.emod n := by
 have h1 := Int.emod_nonneg k (show n ≠ 0 by omega)
 have h2 := Int.emod_lt_of_pos k hn
 have h3 : k.tmod n = k % n ∨ k.tmod n = k % n - n := by
  rw [Int.tmod_eq_emod]
  split
  ·left; omega
  ·right; omega
 show _ = k % n
 rcases h3 with h3 | h3
 ·rw [h3, Int.tmod_eq_emod_of_nonneg (by omega), Int.add_emod_right, Int.emod_emod_of_dvd _ (Int.dvd_refl n)]
 ·rw [h3, Int.sub_add_cancel, Int.tmod_eq_emod_of_nonneg h1, Int.emod_emod_of_dvd _ (Int.dvd_refl n)]
theorem tmod_in (k : Int) {n : Int} (hn : 0 < n) : -n ≤ k.tmod n ∧ k.tmod n ≤ n := by
 have h1 := Int.emod_nonneg k (show n ≠ 0 by omega)
 have h2 := Int.emod_lt_of_pos k hn
 have h3 : k.tmod n = k % n ∨ k.tmod n = k % n - n := by
  rw [Int.tmod_eq_emod]
  split
  ·left; omega
  ·right; omega
 omega
theorem Walk_pure (g : GameD) (hg : GOk g) (p : PosD) (hp : POk g p) (picks : List Int) (hl : picks.length ≤ 1048576) : Pure Tryz.prog 34 [.agg (encGame g), .agg (encPos p), encIs picks] (encPs (walkP g p picks)) := by
 refine pF Tryz.func34 ?_
 generalize hW : walkP g p picks = W
 (repeat (first|with_reducible (first|refine wL fun _=>?_|refine wD fun _=>?_|refine wE ?_|refine wZ ?_)|simp [go_sem]))
 refine ALoop.start (ALoop.ind (α := Nat × PosD × List PosD) (fun a => ⟨[(3, .ref 0 0 9 0 0), (4, .ref 1 0 5 0 0), (7, .sl 2 a.1 5 0 (a.1 + 1)), (13, encIs picks), (14, .v (.int .i64 picks.length)), (15, .v (.int .i64 a.1))], [(0, .rows true 0 9 [encGame g]), (1, .rows true 0 5 [encPos a.2.1]), (2, .rows true a.1 5 ((a.2.2 ++ [a.2.1]).map encPos))], 3⟩)
  (fun d a => a.1 + d = picks.length ∧ a.2.2.length = a.1 ∧ POk g a.2.1 ∧ W = a.2.2 ++ walkP g a.2.1 (picks.drop a.1)) ?_ picks.length (0, p, []) ?_) ?_ ?_
 ·rintro d ⟨i, q, pre⟩ ⟨i1, i2, i3, i4⟩ hrec
  simp only at i1 i2 i3 i4
  have hM := Moves_pure g hg q i3
  have hmo := fun m hm => ((movesP_ok hg i3) m hm).1
  have hml := movesP_len hg i3
  (repeat (first|with_reducible (first|refine wL fun _=>?_|refine wD fun _=>?_|refine wE ?_|refine wZ ?_)|simp [go_sem]))
  refine aIf.mkL (fun hi => ?_) (fun hi => ?_) <;> simp at hi
  ·rw [dropG_cons hi, walkP] at i4
   have hrt := rem_twice (nth picks i) (n := (movesP g q).length)
   generalize movesP g q = l at *
   obtain ⟨k, hk⟩ : ∃ k, k = nth picks i := ⟨_, rfl⟩
   rw [← hk] at i4 hrt
   (repeat (first|with_reducible (first|refine wL fun _=>?_|refine wD fun _=>?_|refine wE ?_|refine wZ ?_)|simp [go_sem, hi, ← hk]))
   refine ACallP.plain hM (by simp [go_sem]) ?_
   (repeat (first|with_reducible (first|refine wL fun _=>?_|refine wD fun _=>?_|refine wE ?_|refine wZ ?_)|simp [go_sem]))
   by_cases hz : l = []
   ·subst hz
    rw [if_pos rfl] at i4
    rw [i4]
    (repeat (first|with_reducible (first|refine wL fun _=>?_|refine wD fun _=>?_|refine wE ?_|refine wZ ?_)|simp [go_sem]))
    exact leV_frz rfl (by simp; omega) (by simp [noH, upd]) (by rw [List.drop_zero]; exact List.take_of_length_le (by simp; omega))
   ·rw [if_neg hz] at i4
    have hl0 := List.length_pos_iff.2 hz
    have hln : ¬ (l.length : Int) = 0 := by omega
    have hrt := hrt (by omega)
    have hemn := Int.emod_nonneg k hln
    have heml := Int.emod_lt_of_pos k (show (0 : Int) < l.length by omega)
    have hix : (k.emod l.length).toNat < l.length := by
     have : k.emod l.length = k % l.length := rfl
     omega
    have htm := tmod_in k (show (0 : Int) < l.length by omega)
    have hle : (l.length : Int) ≤ 7200000054 := by omega
    have hem0 : 0 ≤ k.emod l.length := hemn
    have heml' : k.emod l.length < l.length := heml
    (repeat (first|with_reducible (first|refine wL fun _=>?_|refine wD fun _=>?_|refine wE ?_|refine wZ ?_)|simp [go_sem, hz, hln, hrt, hix]))
    refine ALoop.start (hrec (d - 1) (by omega) (i + 1, nth l (k.emod l.length).toNat, pre ++ [q]) ⟨by simp only; omega, by simp; omega, hmo _ (nth_mem hix), by simpa using i4⟩) ?_ (by simp)
    simp [go_sem, Wk_eq]
  ·rw [List.drop_eq_nil_of_le hi, walkP] at i4
   rw [i4]
   (repeat (first|with_reducible (first|refine wL fun _=>?_|refine wD fun _=>?_|refine wE ?_|refine wZ ?_)|simp [go_sem]))
   exact leV_frz rfl (by simp; omega) (by simp [noH, upd]) (by rw [List.drop_zero]; exact List.take_of_length_le (by simp; omega))
 ·exact ⟨by simp, rfl, hp, by simp [hW]⟩
 ·simp [go_sem, Wk_eq]
 ·simp
end Go.Av
end
section
open Go Go.Proofs
namespace Go.Av
theorem len_sub {α : Type} [DecidableEq α] : ∀ {l r : List α}, l.Nodup → (∀ x ∈ l, x ∈ r) → l.length ≤ r.length
 | [], r, _, _ => by simp
 | x :: l, r, hn, hs => by
  rw [List.nodup_cons] at hn
  have hx := hs x (by simp)
  have := len_sub (l := l) (r := r.erase x) hn.2 (fun y hy => by
   have hne : y ≠ x := fun h => hn.1 (h ▸ hy)
   exact (List.mem_erase_of_ne hne).2 (hs y (by simp [hy])))
  rw [List.length_erase_of_mem hx] at this
  have := List.length_pos_of_mem hx
  simp only [List.length_cons]
  omega
theorem addS_memK : ∀ {more l : List StD} {s : StD}, s ∈ addS l more ↔ s ∈ l ∨ s ∈ more
 | [], l, s => by simp [addS]
 | x :: more, l, s => by
  show s ∈ addS (if x ∈ l then l else l ++ [x]) more ↔ _
  rw [addS_memK]
  split
  ·rename_i h
   simp only [List.mem_cons]
   exact ⟨fun h => by rcases h with h | h <;> simp [h], fun h' => by rcases h' with h' | rfl | h' <;> simp [*]⟩
  ·simp [or_assoc]
theorem addS_nodup : ∀ {more l : List StD}, l.Nodup → (addS l more).Nodup
 | [], l, h => h
 | x :: more, l, h => by
  show (addS (if x ∈ l then l else l ++ [x]) more).Nodup
  split
  ·exact addS_nodup h
  ·rename_i hx
   refine addS_nodup (List.nodup_append.2 ⟨h, by simp, ?_⟩)
   intro a ha b hb e
   simp only [List.mem_singleton] at hb
   subst hb; subst e
   exact hx ha
theorem nextS_foldK (g : GameD) (x : Int × Int) : ∀ (now acc : List StD) (s : StD), s ∈ now.foldl (fun next s => addS next (stepS g s x)) acc ↔ s ∈ acc ∨ ∃ r ∈ now, s ∈ stepS g r x
 | [], acc, s => by simp
 | r :: now, acc, s => by
  rw [List.foldl_cons, nextS_foldK g x now, addS_memK]
  simp [or_assoc]
theorem nextS_memK {g : GameD} {x : Int × Int} {now : List StD} {s : StD} : s ∈ nextS g now x ↔ ∃ r ∈ now, s ∈ stepS g r x := by
 unfold nextS
 rw [nextS_foldK]
 simp
theorem nextS_nodupK (g : GameD) (x : Int × Int) : ∀ (now acc : List StD), acc.Nodup → (now.foldl (fun next s => addS next (stepS g s x)) acc).Nodup
 | [], acc, h => h
 | r :: now, acc, h => nextS_nodupK g x now _ (addS_nodup h)
theorem nextS_nodup (g : GameD) (now : List StD) (x : Int × Int) : (nextS g now x).Nodup := nextS_nodupK g x now [] (by simp)
theorem fold_nodup (g : GameD) : ∀ (prog : List (Int × Int)) (now : List StD), now.Nodup → (prog.foldl (nextS g) now).Nodup
 | [], now, h => h
 | x :: prog, now, _ => fold_nodup g prog _ (nextS_nodup g now x)
def curS (s : StD) (c : Int) : StD := { s with cursor := c }
def FewS (n : Nat) (l : List StD) : Prop := ∃ B : List StD, B.length ≤ n ∧ ∀ s ∈ l, ∃ t ∈ B, s = curS t s.cursor
theorem slideGo_cur {s : StD} : ∀ {l : List Int}, ∀ t ∈ slideGo s l, t = curS s t.cursor
 | [], t, h => by simp [slideGo] at h
 | c :: l, t, h => by
  rw [slideGo, List.mem_cons] at h
  rcases h with rfl | h
  ·rfl
  ·split at h
   ·exact slideGo_cur t h
   ·simp at h
def moveOp (x : Int × Int) : Bool := x.1 == 6 || x.1 == 7
theorem onlyS_mem {s t : StD} {b : Bool} (h : t ∈ onlyS s b) : t = s := by
 unfold onlyS at h
 split at h <;> simp at h
 exact h
theorem stepS_base (g : GameD) (x : Int × Int) (hx : moveOp x = false) : ∃ f : StD → StD, ∀ t c, ∀ u ∈ stepS g (curS t c) x, u = curS (f t) u.cursor := by
 simp only [moveOp, Bool.or_eq_false_iff, beq_eq_false_iff_ne] at hx
 by_cases h8 : x.1 = 8
 ·refine ⟨fun t => { t with kind := x.2 }, fun t c u hu => ?_⟩
  simp [stepS, h8] at hu
  subst hu; rfl
 by_cases h10 : x.1 = 10
 ·refine ⟨fun t => { t with p := { t.p with rights := andNotN .i64 t.p.rights (2 ^ x.2.toNat) } }, fun t c u hu => ?_⟩
  simp [stepS, h10] at hu
  subst hu; rfl
 refine ⟨id, fun t c u hu => ?_⟩
 unfold stepS at hu
 simp only [h8, h10, hx.1, hx.2, if_false] at hu
 repeat' split at hu
 ·have := onlyS_mem hu; subst this; rfl
 ·have := slideGo_cur u hu
  rw [this]; rfl
 ·have := onlyS_mem hu; subst this; rfl
 ·have := onlyS_mem hu; subst this; rfl
 ·have := onlyS_mem hu; subst this; rfl
 ·have := onlyS_mem hu; subst this; rfl
 ·simp at hu; subst hu; rfl
theorem stepS_one (g : GameD) (s : StD) (x : Int × Int) (hx : moveOp x = true) : (stepS g s x).length ≤ 1 := by
 simp only [moveOp, Bool.or_eq_true, beq_iff_eq] at hx
 unfold stepS
 rcases hx with h | h
 ·simp only [h]
  rw [if_neg (by decide), if_neg (by decide), if_neg (by decide), if_neg (by decide), if_neg (by decide), if_pos trivial]
  unfold takeS
  simp only
  split
  ·simp
  ·split
   ·split <;> simp
   ·simp
 ·simp only [h]
  rw [if_neg (by decide), if_neg (by decide), if_neg (by decide), if_neg (by decide), if_neg (by decide), if_neg (by decide), if_pos trivial]
  unfold pushS
  simp only
  split <;> simp
theorem flatMap_leK {α β : Type} (f : α → List β) (m : Nat) : ∀ (l : List α), (∀ x ∈ l, (f x).length ≤ m) → (l.flatMap f).length ≤ l.length * m
 | [], _ => by simp
 | x :: l, h => by
  have := flatMap_leK f m l (fun y hy => h y (by simp [hy]))
  have := h x (by simp)
  rw [List.flatMap_cons, List.length_append, List.length_cons, Nat.succ_mul]
  omega
theorem fewS_next {g : GameD} {now : List StD} {x : Int × Int} {n : Nat} (hc : ∀ s ∈ now, 0 ≤ s.cursor ∧ s.cursor < 9) (h : FewS n now) : FewS (n * (if moveOp x then 9 else 1)) (nextS g now x) := by
 obtain ⟨B, hB, hs⟩ := h
 by_cases hx : moveOp x = true
 ·refine ⟨B.flatMap fun t => (List.range 9).flatMap fun (c : Nat) => stepS g (curS t c) x, ?_, fun u hu => ?_⟩
  ·have h1 := flatMap_leK (fun t : StD => (List.range 9).flatMap fun (c : Nat) => stepS g (curS t c) x) 9 B (fun t _ => by
    have := flatMap_leK (fun (c : Nat) => stepS g (curS t c) x) 1 (List.range 9) (fun c _ => stepS_one g _ x hx)
    simpa using this)
   rw [if_pos hx]
   exact Nat.le_trans h1 (Nat.mul_le_mul_right 9 hB)
  ·obtain ⟨r, hr, hu⟩ := nextS_memK.1 hu
   obtain ⟨t, ht, e⟩ := hs r hr
   have := hc r hr
   refine ⟨u, List.mem_flatMap.2 ⟨t, ht, List.mem_flatMap.2 ⟨r.cursor.toNat, by simp; omega, ?_⟩⟩, rfl⟩
   rw [show ((r.cursor.toNat : Nat) : Int) = r.cursor by omega, ← e]
   exact hu
 ·simp only [Bool.not_eq_true] at hx
  obtain ⟨f, hf⟩ := stepS_base g x hx
  refine ⟨B.map f, by simp [hx]; exact hB, fun u hu => ?_⟩
  obtain ⟨r, hr, hu⟩ := nextS_memK.1 hu
  obtain ⟨t, ht, e⟩ := hs r hr
  rw [e] at hu
  exact ⟨f t, List.mem_map_of_mem ht, hf t _ u hu⟩
theorem next_ok {g : GameD} (hg : GOk g) {now : List StD} {x : Int × Int} (hx : StepOk g.next.length g.kinds.length g.rights x) (hn : ∀ s ∈ now, StOk g s) : ∀ s ∈ nextS g now x, StOk g s := by
 intro s hs
 obtain ⟨r, hr, hs⟩ := nextS_memK.1 hs
 exact (stepS_ok hg (hn r hr) hx s hs).1
theorem fewS_fold {g : GameD} (hg : GOk g) : ∀ (prog : List (Int × Int)) (now : List StD) (n : Nat), (∀ x ∈ prog, StepOk g.next.length g.kinds.length g.rights x) → (∀ s ∈ now, StOk g s) → FewS n now →
  FewS (n * 9 ^ prog.countP moveOp) (prog.foldl (nextS g) now)
 | [], now, n, _, _, h => by simpa using h
 | x :: prog, now, n, hp, hn, h => by
  have h9 := hg.c9
  have h1 := fewS_next (g := g) (x := x) (fun s hs => ⟨(hn s hs).c0, by have := (hn s hs).c1; omega⟩) h
  have h2 := fewS_fold hg prog _ _ (fun y hy => hp y (by simp [hy])) (next_ok hg (hp x (by simp)) hn) h1
  rw [List.foldl_cons, List.countP_cons]
  have e : n * (if moveOp x = true then 9 else 1) * 9 ^ prog.countP moveOp = n * 9 ^ (prog.countP moveOp + if moveOp x = true then 1 else 0) := by
   by_cases hx : moveOp x = true
   ·rw [if_pos hx, if_pos hx, Nat.pow_succ, Nat.mul_assoc, Nat.mul_comm 9]
   ·rw [if_neg hx, if_neg hx, Nat.mul_one, Nat.add_zero]
  rw [← e]
  exact h2
theorem fewS_len {l : List StD} {n : Nat} (hn : l.Nodup) (hc : ∀ s ∈ l, 0 ≤ s.cursor ∧ s.cursor < 9) (h : FewS n l) : l.length ≤ n * 9 := by
 obtain ⟨B, hB, hs⟩ := h
 have h1 := len_sub (r := B.flatMap fun t => (List.range 9).map fun (c : Nat) => curS t c) hn (fun s h => by
  obtain ⟨t, ht, e⟩ := hs s h
  have := hc s h
  refine List.mem_flatMap.2 ⟨t, ht, List.mem_map.2 ⟨s.cursor.toNat, by simp; omega, ?_⟩⟩
  rw [show ((s.cursor.toNat : Nat) : Int) = s.cursor by omega, ← e])
 have h2 := flatMap_leK (fun t : StD => (List.range 9).map fun (c : Nat) => curS t c) 9 B (fun t _ => by simp)
 exact Nat.le_trans h1 (Nat.le_trans h2 (Nat.mul_le_mul_right 9 hB))
theorem countP_move (prog : List (Int × Int)) : prog.countP moveOp ≤ countOp prog 6 + countOp prog 7 := by
 unfold countOp
 induction prog with
 | nil => simp
 | cons x l ih =>
  simp only [List.countP_cons, moveOp]
  by_cases h6 : x.1 = 6
  ·simp [h6]; omega
  ·by_cases h7 : x.1 = 7
   ·simp [h7]; omega
   ·simp [h6, h7]; omega
theorem lastS_len {g : GameD} (hg : GOk g) {p : PosD} (hp : POk g p) {cell i : Int} (hc : ChoiceOk g p cell i) : (lastS g p cell (progOf g p cell i)).length ≤ 6561 := by
 have hpg := prog_ok hg hp hc
 have hst := (startS_ok hg hp hc.c0 hc.c1 hc.man).1
 have h1 := fewS_fold hg (progOf g p cell i) [startS p cell] 1 hpg.st (fun s hs => by simp at hs; subst hs; exact hst) ⟨[startS p cell], by simp, fun s hs => ⟨s, hs, rfl⟩⟩
 have h9 := hg.c9
 have h2 := fewS_len (fold_nodup g (progOf g p cell i) [startS p cell] (by simp)) (fun s hs => by
  have := ((lastS_ok hg hp hc).1 s hs).1
  exact ⟨this.c0, by have := this.c1; omega⟩) h1
 have h3 : (progOf g p cell i).countP moveOp ≤ 3 := by
  have := countP_move (progOf g p cell i)
  have := hpg.take
  have := hpg.push
  omega
 have h4 : 9 ^ (progOf g p cell i).countP moveOp ≤ 9 ^ 3 := Nat.pow_le_pow_right (by omega) h3
 have h5 : (lastS g p cell (progOf g p cell i)).length ≤ 1 * 9 ^ (progOf g p cell i).countP moveOp * 9 := h2
 omega
theorem runsP_len2 {g : GameD} (hg : GOk g) {p : PosD} (hp : POk g p) {cell i : Int} (hc : ChoiceOk g p cell i) : (runsP g p cell i).length ≤ 6561 := by
 unfold runsP
 have h1 := sortU_le cmpO ((lastS g p cell (progOf g p cell i)).filterMap (putS p.side))
 have h2 : ((lastS g p cell (progOf g p cell i)).filterMap (putS p.side)).length ≤ (lastS g p cell (progOf g p cell i)).length := List.length_filterMap_le _ _
 have h3 := lastS_len hg hp hc
 omega
theorem outsAt_len2 {g : GameD} (hg : GOk g) {p : PosD} (hp : POk g p) {c : Nat} (hc : c < p.at_.length) : (outsAt g p c).length ≤ 52488 := by
 unfold outsAt
 split
 ·rename_i hm
  have hal := hp.al
  have hk := kind_lt hg hp (cell := c) (by omega) (by omega) (by simpa using hm.1)
  have hpn := hg.pn _ (nth_mem (by simpa using hk))
  have := flatMap_range_le (fun (i : Nat) => runsP g p c i) 6561 (nth g.kinds (manOf (nth p.at_ c)).1.toNat).progs.length (fun i hi => runsP_len2 hg hp (choice_of hp hc hm hi))
  omega
 ·simp
theorem outsK_len2 {g : GameD} (hg : GOk g) {p : PosD} (hp : POk g p) {k : Nat} (hk : k ≤ p.at_.length) : ((List.range k).flatMap (outsAt g p)).length ≤ 472392 := by
 have := flatMap_range_le (outsAt g p) 52488 k (fun c hc => outsAt_len2 hg hp (by omega))
 have h9 := hg.c9
 have hal := hp.al
 omega
theorem outsP_len2 {g : GameD} (hg : GOk g) {p : PosD} (hp : POk g p) : (outsP g p).length ≤ 472392 := outsK_len2 hg hp (Nat.le_refl _)
theorem movesL_len2 {g : GameD} (hg : GOk g) {p : PosD} (hp : POk g p) : (movesL g p).length ≤ 472446 := by
 unfold movesL
 have h1 := outsP_len2 hg hp
 have h2 := dropsP_len hg hp
 have h3 : ((outsP g p).filter fun o => !mustP g p || o.took).length ≤ (outsP g p).length := List.length_filter_le _ _
 rw [List.length_append, List.length_map]
 split <;> simp <;> omega
theorem movesP_len2 {g : GameD} (hg : GOk g) {p : PosD} (hp : POk g p) : (movesP g p).length ≤ 472446 := by
 unfold movesP
 split
 ·simp
 ·exact Nat.le_trans (sortU_le cmpP _) (movesL_len2 hg hp)
end Go.Av
end
section
open Go Go.Proofs
namespace Go.Av
abbrev Inc (l : List PosD) : Prop := l.Pairwise (fun a b => cmpP a b < 0)
theorem Inc.lt {l : List PosD} (h : Inc l) {i j : Nat} (hij : i < j) (hj : j < l.length) : cmpP (nth l i) (nth l j) < 0 := by
 rw [nth_eq _ _ (by omega), nth_eq _ _ hj]
 exact List.pairwise_iff_getElem.1 h _ _ _ _ hij
theorem Inc.sign {l : List PosD} (h : Inc l) {i j : Nat} (hi : i < l.length) (hj : j < l.length) : (cmpP (nth l i) (nth l j) = 0 ↔ i = j) ∧ (cmpP (nth l i) (nth l j) < 0 ↔ i < j) := by
 have hs := cmp_pos.swap (nth l i) (nth l j)
 rcases Nat.lt_trichotomy i j with h' | h' | h'
 ·have := h.lt h' hj
  exact ⟨⟨by omega, by omega⟩, ⟨by omega, by omega⟩⟩
 ·subst h'
  have := (cmp_pos.eq (nth l i) (nth l i)).2 rfl
  exact ⟨⟨by omega, by omega⟩, ⟨by omega, by omega⟩⟩
 ·have := h.lt h' hi
  exact ⟨⟨by omega, by omega⟩, ⟨by omega, by omega⟩⟩
theorem Inc.inj {l : List PosD} (h : Inc l) {i j : Nat} (hi : i < l.length) (hj : j < l.length) (e : nth l i = nth l j) : i = j :=
 (h.sign hi hj).1.1 ((cmp_pos.eq _ _).2 e)
def fndP (l : List PosD) (p : PosD) : Int := match l.findIdx? (fun q => decide (q = p)) with | some i => (i : Int) | none => -1
theorem fndP_at {l : List PosD} (h : Inc l) {j : Nat} (hj : j < l.length) : fndP l (nth l j) = j := by
 have : l.findIdx? (fun q => decide (q = nth l j)) = some j := by
  rw [List.findIdx?_eq_some_iff_getElem]
  refine ⟨hj, by rw [← nth_eq _ _ hj]; simp, fun i hi => ?_⟩
  rw [← nth_eq _ _ (by omega)]
  simp only [decide_eq_true_eq]
  intro e
  have := h.inj (by omega) hj e
  omega
 unfold fndP
 rw [this]
theorem fndP_none {l : List PosD} {p : PosD} (h : p ∉ l) : fndP l p = -1 := by
 have : l.findIdx? (fun q => decide (q = p)) = none := by
  rw [List.findIdx?_eq_none_iff]
  intro x hx
  simp only [decide_eq_false_iff_not]
  intro e
  exact h (e ▸ hx)
 unfold fndP
 rw [this]
theorem mem_nth {α : Type} [Inhabited α] {l : List α} {x : α} (h : x ∈ l) : ∃ j, j < l.length ∧ nth l j = x := by
 obtain ⟨j, hj, rfl⟩ := List.getElem_of_mem h
 exact ⟨j, hj, nth_eq _ _ hj⟩
theorem fndP_mem {l : List PosD} (h : Inc l) {p : PosD} : 0 ≤ fndP l p ↔ p ∈ l := by
 by_cases hp : p ∈ l
 ·obtain ⟨j, hj, rfl⟩ := mem_nth hp
  rw [fndP_at h hj]
  exact ⟨fun _ => hp, fun _ => by omega⟩
 ·rw [fndP_none hp]
  exact ⟨fun h => by omega, fun h => absurd h hp⟩
theorem findGo_eq {l : List PosD} {p : PosD} {r : Nat} (hc : ∀ i, i < l.length → (cmpP p (nth l i) = 0 ↔ r = i) ∧ (cmpP p (nth l i) < 0 ↔ r < i)) : ∀ f lo hi, hi ≤ l.length → lo ≤ r → r < hi → hi - lo < f → findGo l p f lo hi = r
 | 0, lo, hi, _, _, _, h => by omega
 | f + 1, lo, hi, h1, h2, h3, h4 => by
  rw [findGo, if_pos (by omega)]
  have hm := hc ((lo + hi) / 2) (by omega)
  split
  ·rename_i hz
   have := hm.1.1 hz
   omega
  ·rename_i hz
   split
   ·rename_i hn
    exact findGo_eq hc f lo ((lo + hi) / 2) (by omega) h2 (hm.2.1 hn) (by omega)
   ·rename_i hn
    refine findGo_eq hc f ((lo + hi) / 2 + 1) hi h1 ?_ h3 (by omega)
    have a1 : r ≠ (lo + hi) / 2 := fun h => hz (hm.1.2 h)
    have a2 : ¬ r < (lo + hi) / 2 := fun h => hn (hm.2.2 h)
    omega
theorem findGo_none {l : List PosD} {p : PosD} (h : p ∉ l) : ∀ f lo hi, hi ≤ l.length → findGo l p f lo hi = -1
 | 0, lo, hi, _ => rfl
 | f + 1, lo, hi, h1 => by
  rw [findGo]
  split
  ·rename_i hlt
   have hm : (lo + hi) / 2 < l.length := by omega
   have hne : ¬ cmpP p (nth l ((lo + hi) / 2)) = 0 := fun e => h ((cmp_pos.eq _ _).1 e ▸ nth_mem hm)
   rw [if_neg hne]
   split
   ·exact findGo_none h f lo _ (by omega)
   ·exact findGo_none h f _ hi h1
  ·rfl
theorem findP_fnd {l : List PosD} (h : Inc l) (p : PosD) : findP l p = fndP l p := by
 unfold findP
 by_cases hp : p ∈ l
 ·obtain ⟨j, hj, rfl⟩ := mem_nth hp
  rw [fndP_at h hj]
  exact findGo_eq (fun i hi => by
   have := h.sign hj hi
   exact this) _ _ _ (Nat.le_refl _) (Nat.zero_le _) hj (by omega)
 ·rw [fndP_none hp, findGo_none hp _ _ _ (Nat.le_refl _)]
def lowP : List PosD → PosD → Nat
 | [], _ => 0
 | q :: l, p => if cmpP q p < 0 then lowP l p + 1 else 0
theorem lowP_le : ∀ (l : List PosD) (p : PosD), lowP l p ≤ l.length
 | [], p => by simp [lowP]
 | q :: l, p => by
  have := lowP_le l p
  rw [lowP, List.length_cons]
  split <;> omega
theorem lowP_lt {p : PosD} : ∀ {l : List PosD} {h : Nat}, h < lowP l p → cmpP (nth l h) p < 0
 | [], h, hl => by simp [lowP] at hl
 | q :: l, h, hl => by
  rw [lowP] at hl
  split at hl
  ·cases h with
   | zero => rw [nth_zero]; assumption
   | succ h => rw [nth_succ]; exact lowP_lt (by omega)
  ·omega
theorem lowP_ge {p : PosD} : ∀ {l : List PosD}, Inc l → ∀ {h : Nat}, lowP l p ≤ h → h < l.length → ¬ cmpP (nth l h) p < 0
 | [], _, h, _, hl => by simp at hl
 | q :: l, hi, h, hl, hn => by
  have hi := List.pairwise_cons.1 hi
  rw [lowP] at hl
  split at hl
  ·cases h with
   | zero => omega
   | succ h => rw [nth_succ]; exact lowP_ge hi.2 (by omega) (by simpa using hn)
  ·rename_i hq
   cases h with
   | zero => rw [nth_zero]; exact hq
   | succ h =>
    rw [nth_succ]
    intro hr
    have hm : nth l h ∈ l := nth_mem (by simpa using hn)
    have h1 := hi.1 _ hm
    have h2 := cmp_pos.tr q (nth l h) p (by omega) (by omega)
    have e := (cmp_pos.eq q p).1 (by omega)
    subst e
    have := cmp_pos.swap q (nth l h)
    omega
theorem lowP_iff {l : List PosD} (hi : Inc l) (p : PosD) {h : Nat} (hn : h < l.length) : cmpP (nth l h) p < 0 ↔ h < lowP l p := by
 constructor
 ·intro hc
  rcases Nat.lt_or_ge h (lowP l p) with h' | h'
  ·exact h'
  ·exact absurd hc (lowP_ge hi h' hn)
 ·exact lowP_lt
theorem lowP_mem {l : List PosD} (hi : Inc l) (p : PosD) : p ∈ l ↔ lowP l p < l.length ∧ nth l (lowP l p) = p := by
 constructor
 ·intro hp
  obtain ⟨j, hj, rfl⟩ := mem_nth hp
  have h0 := (cmp_pos.eq (nth l j) (nth l j)).2 rfl
  have h1 : ¬ j < lowP l (nth l j) := fun h => by
   have := lowP_lt h
   omega
  rcases Nat.lt_or_ge (lowP l (nth l j)) j with h' | h'
  ·have h2 := hi.lt h' hj
   have h3 := (lowP_iff hi (nth l j) (by omega)).1 h2
   omega
  ·have e : lowP l (nth l j) = j := by omega
   rw [e]
   exact ⟨hj, rfl⟩
 ·rintro ⟨h1, h2⟩
  rw [← h2]
  exact nth_mem h1
theorem fndP_low {l : List PosD} (hi : Inc l) (p : PosD) : fndP l p = if p ∈ l then (lowP l p : Int) else -1 := by
 split
 ·rename_i hp
  obtain ⟨h1, h2⟩ := (lowP_mem hi p).1 hp
  have := fndP_at hi h1
  rwa [h2] at this
 ·rename_i hp
  exact fndP_none hp
theorem movesP_inc (g : GameD) (p : PosD) : Inc (movesP g p) := by
 unfold movesP
 split
 ·exact .nil
 ·exact sortU_pw cmp_pos _
end Go.Av
end
section
open Go Go.Proofs
namespace Go.Av
def addK (known nx : List PosD) (q : PosD) : List PosD := if q ∈ known ++ nx then nx else nx ++ [q]
def nextP (g : GameD) (known now : List PosD) : List PosD := (now.flatMap (movesP g)).foldl (addK known) []
def layersP (g : GameD) (b : Int) : Nat → List PosD → List PosD → List (List PosD × Bool)
 | 0, _, _ => []
 | f + 1, known, now => if b < known.length then [(now, false)] else if nextP g known now = [] then [(now, true)] else (now, false) :: layersP g b f (known ++ nextP g known now) (sortU cmpP (nextP g known now))
def budP (n : Int) : Int := if n < 0 then 0 else if 4000 < n then 4000 else n
def searchP (g : GameD) (p : PosD) (n : Int) : List (List PosD × Bool) := layersP g (budP n) ((budP n).toNat + 2) [p] [p]
theorem budP_range (n : Int) : 0 ≤ budP n ∧ budP n ≤ 4000 := by
 unfold budP
 split <;> (try split) <;> omega
theorem addK_fold_mem (known : List PosD) : ∀ (l nx : List PosD) (q : PosD), q ∈ l.foldl (addK known) nx ↔ q ∈ nx ∨ q ∈ l ∧ q ∉ known
 | [], nx, q => by simp
 | r :: l, nx, q => by
  rw [List.foldl_cons, addK_fold_mem known l]
  unfold addK
  by_cases hr : r ∈ known ++ nx
  ·rw [if_pos hr]
   rw [List.mem_append] at hr
   constructor
   ·rintro (h | ⟨h1, h2⟩)
    ·exact .inl h
    ·exact .inr ⟨List.mem_cons_of_mem _ h1, h2⟩
   ·rintro (h | ⟨h1, h2⟩)
    ·exact .inl h
    ·rcases List.mem_cons.1 h1 with rfl | h1
     ·rcases hr with hr | hr
      ·exact absurd hr h2
      ·exact .inl hr
     ·exact .inr ⟨h1, h2⟩
  ·rw [if_neg hr]
   rw [List.mem_append, not_or] at hr
   constructor
   ·rintro (h | ⟨h1, h2⟩)
    ·rcases List.mem_append.1 h with h | h
     ·exact .inl h
     ·simp only [List.mem_singleton] at h
      subst h
      exact .inr ⟨by simp, hr.1⟩
    ·exact .inr ⟨List.mem_cons_of_mem _ h1, h2⟩
   ·rintro (h | ⟨h1, h2⟩)
    ·exact .inl (List.mem_append.2 (.inl h))
    ·rcases List.mem_cons.1 h1 with rfl | h1
     ·exact .inl (by simp)
     ·exact .inr ⟨h1, h2⟩
theorem addK_fold_nodup (known : List PosD) : ∀ (l nx : List PosD), nx.Nodup → (l.foldl (addK known) nx).Nodup
 | [], nx, h => h
 | r :: l, nx, h => by
  rw [List.foldl_cons]
  refine addK_fold_nodup known l _ ?_
  unfold addK
  split
  ·exact h
  ·rename_i hr
   rw [List.mem_append, not_or] at hr
   refine List.nodup_append.2 ⟨h, by simp, ?_⟩
   intro a ha b hb e
   simp only [List.mem_singleton] at hb
   subst hb; subst e
   exact hr.2 ha
theorem addK_fold_len (known : List PosD) : ∀ (l nx : List PosD), (l.foldl (addK known) nx).length ≤ nx.length + l.length
 | [], nx => by simp
 | r :: l, nx => by
  rw [List.foldl_cons]
  have := addK_fold_len known l (addK known nx r)
  have h2 : (addK known nx r).length ≤ nx.length + 1 := by unfold addK; split <;> simp
  simp only [List.length_cons]
  omega
theorem nextP_mem {g : GameD} {known now : List PosD} {q : PosD} : q ∈ nextP g known now ↔ (∃ r ∈ now, q ∈ movesP g r) ∧ q ∉ known := by
 unfold nextP
 rw [addK_fold_mem, List.mem_flatMap]
 simp
theorem nextP_nodup (g : GameD) (known now : List PosD) : (nextP g known now).Nodup := addK_fold_nodup known _ [] (by simp)
theorem known_nodup {g : GameD} {known now : List PosD} (h : known.Nodup) : (known ++ nextP g known now).Nodup :=
 List.nodup_append.2 ⟨h, nextP_nodup g known now, fun a ha b hb e => (nextP_mem.1 hb).2 (e ▸ ha)⟩
theorem nextP_ok {g : GameD} (hg : GOk g) {known now : List PosD} (hn : ∀ p ∈ now, POk g p) : ∀ q ∈ nextP g known now, POk g q := fun q hq => by
 obtain ⟨⟨r, hr, hm⟩, _⟩ := nextP_mem.1 hq
 exact (movesP_ok hg (hn r hr) q hm).1
theorem flatMap_moves_len {g : GameD} (hg : GOk g) : ∀ {now : List PosD}, (∀ p ∈ now, POk g p) → (now.flatMap (movesP g)).length ≤ now.length * 472446
 | [], _ => by simp
 | p :: now, h => by
  have h1 := flatMap_moves_len hg (now := now) fun q hq => h q (by simp [hq])
  have h2 := movesP_len2 hg (h p (by simp))
  rw [List.flatMap_cons, List.length_append, List.length_cons, Nat.succ_mul]
  omega
theorem nextP_len {g : GameD} (hg : GOk g) {known now : List PosD} (hn : ∀ p ∈ now, POk g p) : (nextP g known now).length ≤ now.length * 472446 := by
 have h1 := addK_fold_len known (now.flatMap (movesP g)) []
 have h2 := flatMap_moves_len hg hn
 unfold nextP
 simp only [List.length_nil] at h1
 omega
theorem sortU_nodup_len {l : List PosD} (h : l.Nodup) : (sortU cmpP l).length = l.length := by
 refine Nat.le_antisymm (sortU_le _ _) (len_sub h fun x hx => sortU_mem.2 hx)
structure SearchOk (g : GameD) (known now : List PosD) : Prop where
 nd : known.Nodup
 sub : ∀ q ∈ now, q ∈ known
 inc : Inc now
 ok : ∀ q ∈ known, POk g q
theorem SearchOk.start {g : GameD} {p : PosD} (hp : POk g p) : SearchOk g [p] [p] :=
 ⟨by simp, fun q hq => hq, by simp [Inc], fun q hq => by simp only [List.mem_singleton] at hq; subst hq; exact hp⟩
theorem SearchOk.next {g : GameD} (hg : GOk g) {known now : List PosD} (h : SearchOk g known now) : SearchOk g (known ++ nextP g known now) (sortU cmpP (nextP g known now)) :=
 ⟨known_nodup h.nd, fun q hq => List.mem_append.2 (.inr (sortU_mem.1 hq)), sortU_pw cmp_pos _, fun q hq => by
  rcases List.mem_append.1 hq with hq | hq
  ·exact h.ok q hq
  ·exact nextP_ok hg (fun r hr => h.ok r (h.sub r hr)) q hq⟩
theorem SearchOk.now_len {g : GameD} {known now : List PosD} (h : SearchOk g known now) : now.length ≤ known.length := len_sub (by
  refine List.Pairwise.imp ?_ h.inc
  intro a b hab e
  have := (cmp_pos.eq a b).2 e
  omega) h.sub
theorem SearchOk.now_ok {g : GameD} {known now : List PosD} (h : SearchOk g known now) : ∀ q ∈ now, POk g q := fun q hq => h.ok q (h.sub q hq)
end Go.Av
end
section
set_option maxRecDepth 20000
open Go Go.Proofs
namespace Go.Av
def fullP : List (List PosD × Bool) → Bool
 | [] => false
 | [x] => x.2
 | _ :: l => fullP l
theorem fullP_nth : ∀ {L : List (List PosD × Bool)}, L ≠ [] → fullP L = (nth L (L.length - 1)).2
 | [], h => absurd rfl h
 | [x], _ => rfl
 | x :: y :: l, _ => by
  have := fullP_nth (L := y :: l) (by simp)
  rw [fullP, this]
  ·simp only [List.length_cons, Nat.add_sub_cancel]
   rw [nth_succ]
  ·simp
theorem layersP_ne (g : GameD) (b : Int) (f : Nat) (known now : List PosD) : layersP g b (f + 1) known now ≠ [] := by
 rw [layersP]
 split
 ·simp
 ·split <;> simp
theorem layersP_ok {g : GameD} (hg : GOk g) (b : Int) : ∀ (f : Nat) {known now : List PosD}, SearchOk g known now → ∀ x ∈ layersP g b f known now, Inc x.1 ∧ ∀ q ∈ x.1, POk g q
 | 0, known, now, h, x, hx => by simp [layersP] at hx
 | f + 1, known, now, h, x, hx => by
  rw [layersP] at hx
  split at hx
  ·simp only [List.mem_singleton] at hx
   subst hx
   exact ⟨h.inc, h.now_ok⟩
  ·split at hx
   ·simp only [List.mem_singleton] at hx
    subst hx
    exact ⟨h.inc, h.now_ok⟩
   ·rcases List.mem_cons.1 hx with rfl | hx
    ·exact ⟨h.inc, h.now_ok⟩
    ·exact layersP_ok hg b f (h.next hg) x hx
def allOf (L : List (List PosD × Bool)) : List PosD := L.flatMap (·.1)
theorem layersP_all {g : GameD} (hg : GOk g) {b : Int} (hb : b ≤ 4000) : ∀ (f : Nat) {known now : List PosD}, SearchOk g known now →
  (allOf (layersP g b f known now)).length ≤ now.length + (if known.length ≤ b.toNat then 1889784000 + (b.toNat - known.length) else 0)
 | 0, known, now, h => by simp [layersP, allOf]
 | f + 1, known, now, h => by
  rw [layersP]
  split
  ·simp [allOf]
  ·rename_i hk
   split
   ·simp [allOf]
   ·have ih := layersP_all hg hb f (h.next hg)
    have e : allOf ((now, false) :: layersP g b f (known ++ nextP g known now) (sortU cmpP (nextP g known now))) = now ++ allOf (layersP g b f (known ++ nextP g known now) (sortU cmpP (nextP g known now))) := rfl
    rw [e, List.length_append]
    have hs := sortU_nodup_len (nextP_nodup g known now)
    have hl : (known ++ nextP g known now).length = known.length + (nextP g known now).length := List.length_append
    have hn := nextP_len hg (known := known) h.now_ok
    have hnl := h.now_len
    have h4 : now.length * 472446 ≤ 1889784000 := by omega
    rw [hs, hl] at ih
    rw [if_pos (by omega)]
    split at ih <;> omega
theorem searchP_len {g : GameD} (hg : GOk g) {p : PosD} (hp : POk g p) (n : Int) : (allOf (searchP g p n)).length ≤ 1889788001 := by
 have hb := budP_range n
 have := layersP_all hg hb.2 ((budP n).toNat + 2) (SearchOk.start hp)
 unfold searchP
 generalize layersP g (budP n) ((budP n).toNat + 2) [p] [p] = L at *
 simp only [List.length_singleton] at this
 split at this <;> omega
theorem searchP_ok {g : GameD} (hg : GOk g) {p : PosD} (hp : POk g p) (n : Int) : ∀ x ∈ searchP g p n, Inc x.1 ∧ ∀ q ∈ x.1, POk g q := layersP_ok hg _ _ (SearchOk.start hp)
theorem searchP_ne (g : GameD) (p : PosD) (n : Int) : searchP g p n ≠ [] := layersP_ne g _ _ _ _
theorem allOf_ok {g : GameD} (hg : GOk g) {p : PosD} (hp : POk g p) (n : Int) : ∀ q ∈ allOf (searchP g p n), POk g q := fun q hq => by
 obtain ⟨x, hx, hq⟩ := List.mem_flatMap.1 hq
 exact (searchP_ok hg hp n x hx).2 q hq
def seenP (g : GameD) (p : PosD) (n : Int) : List PosD := sortU cmpP (allOf (searchP g p n))
theorem layersP_count (g : GameD) (b : Int) : ∀ (f : Nat) (known now : List PosD), (layersP g b f known now).length ≤ f
 | 0, known, now => by simp [layersP]
 | f + 1, known, now => by
  rw [layersP]
  split
  ·simp
  ·split
   ·simp
   ·have := layersP_count g b f (known ++ nextP g known now) (sortU cmpP (nextP g known now))
    simp only [List.length_cons]
    omega
theorem searchP_count (g : GameD) (p : PosD) (n : Int) : (searchP g p n).length ≤ 4002 := by
 have := layersP_count g (budP n) ((budP n).toNat + 2) [p] [p]
 have := budP_range n
 unfold searchP
 omega
end Go.Av
end
section
open Go Go.Proofs
set_option maxRecDepth 20000
namespace Go.Av
def frstP (g : GameD) (p : PosD) (l : List PosD) : Int := idxOfP (fun q => decide (q ∈ movesP g p)) l
theorem frstP_some {g : GameD} {p : PosD} {l : List PosD} (h : 0 ≤ frstP g p l) : (frstP g p l).toNat < l.length ∧ nth l (frstP g p l).toNat ∈ movesP g p ∧ ∀ j, j < (frstP g p l).toNat → nth l j ∉ movesP g p := by
 unfold frstP idxOfP at *
 cases hf : l.findIdx? (fun q => decide (q ∈ movesP g p)) with
 | none => rw [hf] at h; simp at h
 | some i =>
  obtain ⟨hi, h1, h2⟩ := List.findIdx?_eq_some_iff_getElem.1 hf
  simp only [Int.toNat_natCast]
  refine ⟨hi, by rw [nth_eq _ _ hi]; simpa using h1, fun j hj => ?_⟩
  rw [nth_eq _ _ (by omega)]
  simpa using h2 j hj
theorem frstP_iff {g : GameD} {p : PosD} {l : List PosD} : 0 ≤ frstP g p l ↔ ∃ q ∈ l, q ∈ movesP g p := by
 have := idxOfP_any (p := fun q => decide (q ∈ movesP g p)) (l := l)
 unfold frstP
 constructor
 ·intro h
  rw [decide_eq_true h] at this
  obtain ⟨q, h1, h2⟩ := List.any_eq_true.1 this.symm
  exact ⟨q, h1, by simpa using h2⟩
 ·rintro ⟨q, h1, h2⟩
  have h3 : (l.any fun q => decide (q ∈ movesP g p)) = true := List.any_eq_true.2 ⟨q, h1, by simpa using h2⟩
  rw [h3] at this
  simpa using this
def goodP (g : GameD) : List (List PosD) → PosD → List (List PosD)
 | [], _ => []
 | [_], goal => [[goal]]
 | l :: m :: ls, goal => (l.filter fun p => decide (0 ≤ frstP g p (nth (goodP g (m :: ls) goal) 0))) :: goodP g (m :: ls) goal
theorem goodP_last (g : GameD) (goal : PosD) : ∀ past : List (List PosD), past ≠ [] → nth (goodP g past goal) (past.length - 1) = [goal]
 | [], h => absurd rfl h
 | [_], _ => rfl
 | l :: m :: ls, _ => by
  have := goodP_last g goal (m :: ls) (by simp)
  rw [goodP]
  ·rw [show (l :: m :: ls).length - 1 = ((m :: ls).length - 1) + 1 by simp, nth_succ]
   exact this
theorem goodP_at (g : GameD) (goal : PosD) : ∀ (past : List (List PosD)) (i : Nat), i + 1 < past.length → nth (goodP g past goal) i = (nth past i).filter fun p => decide (0 ≤ frstP g p (nth (goodP g past goal) (i + 1)))
 | [], i, h => by simp at h
 | [_], i, h => by simp at h
 | l :: m :: ls, i, h => by
  rw [goodP]
  ·cases i with
   | zero => rfl
   | succ i =>
    rw [nth_succ, nth_succ, nth_succ]
    exact goodP_at g goal (m :: ls) i (by simpa using h)
structure ChainOk (g : GameD) (past : List (List PosD)) : Prop where
 ne : past ≠ []
 one : ∃ s, nth past 0 = [s]
 back : ∀ i, i + 1 < past.length → ∀ q ∈ nth past (i + 1), ∃ r ∈ nth past i, q ∈ movesP g r
theorem goodP_sub {g : GameD} {goal : PosD} {past : List (List PosD)} {i : Nat} (hi : i < past.length) (hg : goal ∈ nth past (past.length - 1)) : ∀ q ∈ nth (goodP g past goal) i, q ∈ nth past i := by
 intro q hq
 by_cases h : i + 1 < past.length
 ·rw [goodP_at g goal past i h] at hq
  exact (List.mem_filter.1 hq).1
 ·obtain rfl : i = past.length - 1 := by omega
  rw [goodP_last g goal past (by intro h; rw [h] at hi; simp at hi)] at hq
  simp only [List.mem_singleton] at hq
  subst hq
  exact hg
theorem goodP_ne {g : GameD} {goal : PosD} {past : List (List PosD)} (hc : ChainOk g past) (hg : goal ∈ nth past (past.length - 1)) : ∀ d i, i + d + 1 = past.length → ∃ q, q ∈ nth (goodP g past goal) i
 | 0, i, hi => by
  obtain rfl : i = past.length - 1 := by omega
  rw [goodP_last g goal past hc.ne]
  exact ⟨goal, by simp⟩
 | d + 1, i, hi => by
  obtain ⟨q, hq⟩ := goodP_ne hc hg d (i + 1) (by omega)
  obtain ⟨r, hr, hm⟩ := hc.back i (by omega) q (goodP_sub (by omega) hg q hq)
  refine ⟨r, ?_⟩
  rw [goodP_at g goal past i (by omega)]
  exact List.mem_filter.2 ⟨hr, by simpa using frstP_iff.2 ⟨q, hq, hm⟩⟩
theorem goodP_first {g : GameD} {goal : PosD} {past : List (List PosD)} (hc : ChainOk g past) (hg : goal ∈ nth past (past.length - 1)) : nth (nth past 0) 0 ∈ nth (goodP g past goal) 0 := by
 have hl := List.length_pos_iff.2 hc.ne
 obtain ⟨q, hq⟩ := goodP_ne hc hg (past.length - 1) 0 (by omega)
 have := goodP_sub (by omega) hg q hq
 obtain ⟨s, hs⟩ := hc.one
 rw [hs] at this ⊢
 simp only [List.mem_singleton] at this
 subst this
 exact hq
theorem goodP_step {g : GameD} {goal : PosD} {past : List (List PosD)} {i : Nat} (hi : i + 1 < past.length) {p : PosD} (hp : p ∈ nth (goodP g past goal) i) : 0 ≤ frstP g p (nth (goodP g past goal) (i + 1)) := by
 rw [goodP_at g goal past i hi] at hp
 simpa using (List.mem_filter.1 hp).2
def wayP (g : GameD) (past : List (List PosD)) (goal : PosD) : Nat → PosD
 | 0 => nth (nth past 0) 0
 | i + 1 => nth (nth (goodP g past goal) (i + 1)) (frstP g (wayP g past goal i) (nth (goodP g past goal) (i + 1))).toNat
def traceP (g : GameD) (past : List (List PosD)) (goal : PosD) : List PosD := (List.range past.length).map (wayP g past goal)
theorem wayP_mem {g : GameD} {goal : PosD} {past : List (List PosD)} (hc : ChainOk g past) (hg : goal ∈ nth past (past.length - 1)) : ∀ i, i < past.length → wayP g past goal i ∈ nth (goodP g past goal) i
 | 0, _ => goodP_first hc hg
 | i + 1, hi => by
  have h1 := wayP_mem hc hg i (by omega)
  exact nth_mem (frstP_some (goodP_step hi h1)).1
theorem wayP_first {g : GameD} {goal : PosD} {past : List (List PosD)} (hc : ChainOk g past) (hg : goal ∈ nth past (past.length - 1)) {i : Nat} (hi : i + 1 < past.length) :
  0 ≤ frstP g (wayP g past goal i) (nth (goodP g past goal) (i + 1)) := goodP_step hi (wayP_mem hc hg i (by omega))
def gameP (g : GameD) (p goal : PosD) (n : Int) : List PosD × Int :=
 match (searchP g p n).findIdx? (fun x => decide (goal ∈ x.1)) with
 | some d => (traceP g (((searchP g p n).take (d + 1)).map (·.1)) goal, 0)
 | none => ([], if fullP (searchP g p n) then 270 else 2)
theorem layersP_chain (g : GameD) (b : Int) : ∀ (f : Nat) (known now : List PosD) (i : Nat), i + 1 < (layersP g b f known now).length → ∀ q ∈ (nth (layersP g b f known now) (i + 1)).1, ∃ r ∈ (nth (layersP g b f known now) i).1, q ∈ movesP g r
 | 0, known, now, i, h => by simp [layersP] at h
 | f + 1, known, now, i, h => by
  rw [layersP] at h ⊢
  split at h
  ·simp at h
  ·rename_i hk
   rw [if_neg hk]
   split at h
   ·simp at h
   ·rename_i hz
    rw [if_neg hz]
    cases i with
    | succ i =>
     rw [nth_succ, nth_succ]
     exact layersP_chain g b f _ _ i (by simpa using h)
    | zero =>
     rw [nth_succ, nth_zero]
     intro q hq
     have hq2 : q ∈ sortU cmpP (nextP g known now) := by
      cases f with
      | zero => simp [layersP] at h
      | succ f =>
       rw [layersP] at hq
       split at hq
       ·exact hq
       ·split at hq
        ·exact hq
        ·exact hq
     exact (nextP_mem.1 (sortU_mem.1 hq2)).1
theorem layersP_zero (g : GameD) (b : Int) (f : Nat) (known now : List PosD) : (nth (layersP g b (f + 1) known now) 0).1 = now := by
 rw [layersP]
 split
 ·rfl
 ·split <;> rfl
theorem searchP_chain (g : GameD) (p : PosD) (n : Int) (d : Nat) : ChainOk g (((searchP g p n).take (d + 1)).map (·.1)) := by
 have hne := searchP_ne g p n
 have hz : (nth (searchP g p n) 0).1 = [p] := layersP_zero g _ _ _ _
 have hch : ∀ i, i + 1 < (searchP g p n).length → _ := layersP_chain g (budP n) ((budP n).toNat + 2) [p] [p]
 rw [show layersP g (budP n) ((budP n).toNat + 2) [p] [p] = searchP g p n from rfl] at hch
 generalize searchP g p n = L at *
 have hl := List.length_pos_iff.2 hne
 have hnth : ∀ i, i < (L.take (d + 1)).length → nth ((L.take (d + 1)).map (·.1)) i = (nth L i).1 := fun i hi => by
  rw [nth_map _ _ _ hi, nth_eq _ _ hi, nth_eq _ _ (by simp at hi; omega)]
  simp
 refine ⟨?_, ⟨p, ?_⟩, fun i hi q hq => ?_⟩
 ·intro h
  have := congrArg List.length h
  simp at this
  exact hne this
 ·rw [hnth 0 (by simp; omega), hz]
 ·rw [List.length_map] at hi
  rw [hnth (i + 1) hi] at hq
  rw [hnth i (by omega)]
  exact hch i (by simp at hi; omega) q hq
end Go.Av
end
section
open Go Go.Proofs
set_option maxRecDepth 20000
set_option maxHeartbeats 4000000
namespace Go.Av
theorem BSearch_pure (l : List PosD) (hi : Inc l) (hl : l.length ≤ 17179869184) (hf : ∀ q ∈ l, FitsP q) (p : PosD) (hp : FitsP p) :
  Pure Tryz.prog 187 [encPs l, .agg (encPos p), .fn (.func 35) [] []] (.tup [.v (.int .i64 (lowP l p)), .v (.bool (decide (p ∈ l)))]) := by
 refine pF Tryz.func187 ?_
 have hle := lowP_le l p
 have hmem := lowP_mem hi p
 have hiff := fun h hn => lowP_iff hi p (h := h) hn
 generalize lowP l p = w at *
 (repeat (first|with_reducible (first|refine wL fun _=>?_|refine wD fun _=>?_|refine wE ?_|refine wZ ?_)|simp [go_sem]))
 refine ALoop.start (ALoop.ind (α := Nat × Nat) (fun a => ⟨[(0, encPs l), (2, .fn (.func 35) [] []), (4, .ref 0 0 5 0 0), (8, .v (.int .i64 l.length)), (9, .v (.int .i64 a.1)), (10, .v (.int .i64 a.2))], [(0, .rows true 0 5 [encPos p])], 1⟩)
  (fun d a => a.2 - a.1 ≤ d ∧ a.1 ≤ w ∧ w ≤ a.2 ∧ a.2 ≤ l.length) ?_ l.length (0, l.length) ?_) ?_ ?_
 ·rintro d ⟨i, j⟩ ⟨i1, i2, i3, i4⟩ hrec
  simp only at i1 i2 i3 i4
  have hdiv : ((i : Int) + j).fdiv 2 = ((i + j) / 2 : Nat) := by rw [Int.fdiv_eq_ediv_of_nonneg _ (by omega)]; omega
  (repeat (first|with_reducible (first|refine wL fun _=>?_|refine wD fun _=>?_|refine wE ?_|refine wZ ?_)|simp [go_sem]))
  refine aIf.mkL (fun hlt => ?_) (fun hlt => ?_) <;> simp at hlt
  ·have hm : (i + j) / 2 < l.length := by omega
   have hm2 : i ≤ (i + j) / 2 ∧ (i + j) / 2 < j := by omega
   generalize hmid : (i + j) / 2 = mid at *
   (repeat (first|with_reducible (first|refine wL fun _=>?_|refine wD fun _=>?_|refine wE ?_|refine wZ ?_)|simp [go_sem, hdiv, hm]))
   refine dCall.plain (pCompare_pure (nth l mid) p (hf _ (nth_mem hm)) hp) (by simp [go_sem]) ?_
   have hi2 := hiff mid hm
   generalize cmpP (nth l mid) p = c at *
   (repeat (first|with_reducible (first|refine wL fun _=>?_|refine wD fun _=>?_|refine wE ?_|refine wZ ?_)|simp [go_sem]))
   refine aIf.mkL (fun hc => ?_) (fun hc => ?_) <;> simp at hc
   ·have := hi2.1 hc
    (repeat (first|with_reducible (first|refine wL fun _=>?_|refine wD fun _=>?_|refine wE ?_|refine wZ ?_)|simp [go_sem]))
    refine ALoop.start (hrec (d - 1) (by omega) (mid + 1, j) ⟨by simp only; omega, by simp only; omega, by simp only; omega, by simp only; omega⟩) ?_ (by simp)
    simp [go_sem, Wk_eq]
   ·have : ¬ mid < w := fun h => by have := hi2.2 h; omega
    (repeat (first|with_reducible (first|refine wL fun _=>?_|refine wD fun _=>?_|refine wE ?_|refine wZ ?_)|simp [go_sem]))
    refine ALoop.start (hrec (d - 1) (by omega) (i, mid) ⟨by simp only; omega, by simp only; omega, by simp only; omega, by simp only; omega⟩) ?_ (by simp)
    simp [go_sem, Wk_eq]
  ·obtain rfl : i = w := by omega
   by_cases hw : i < l.length
   ·have hC := pCompare_pure (nth l i) p (hf _ (nth_mem hw)) hp
    have e : decide (p ∈ l) = decide (cmpP (nth l i) p = 0) := by
     rw [decide_eq_decide, hmem, cmp_pos.eq]
     exact ⟨fun h => h.2, fun h => ⟨hw, h⟩⟩
    rw [e]
    generalize cmpP (nth l i) p = c at *
    (repeat (first|with_reducible (first|refine wL fun _=>?_|refine wD fun _=>?_|refine wE ?_|refine wZ ?_)|simp [go_sem, hw]))
    refine dGC.plain _ (fun _ => hC) (by simp [go_sem]) ?_
    (repeat (first|with_reducible (first|refine wL fun _=>?_|refine wD fun _=>?_|refine wE ?_|refine wZ ?_)|simp [go_sem, hw]))
   ·have e : decide (p ∈ l) = false := decide_eq_false fun h => hw (hmem.1 h).1
    rw [e]
    (repeat (first|with_reducible (first|refine wL fun _=>?_|refine wD fun _=>?_|refine wE ?_|refine wZ ?_)|simp [go_sem, hw]))
    refine dGC.skip (.v (.int .i64 0)) ?_
    (repeat (first|with_reducible (first|refine wL fun _=>?_|refine wD fun _=>?_|refine wE ?_|refine wZ ?_)|simp [go_sem, hw]))
 ·exact ⟨by simp, by simp, hle, by simp⟩
 ·simp [go_sem, Wk_eq]
 ·simp
theorem pFind_pure (l : List PosD) (hi : Inc l) (hl : l.length ≤ 17179869184) (hf : ∀ q ∈ l, FitsP q) (p : PosD) (hp : FitsP p) :
  Pure Tryz.prog 143 [encPs l, .agg (encPos p)] (.v (.int .i64 (fndP l p))) := by
 refine pF Tryz.func143 ?_
 have hB := BSearch_pure l hi hl hf p hp
 rw [fndP_low hi]
 (repeat (first|with_reducible (first|refine wL fun _=>?_|refine wD fun _=>?_|refine wE ?_|refine wZ ?_)|simp [go_sem]))
 refine ACallP.plain hB (by simp [go_sem]) ?_
 (repeat (first|with_reducible (first|refine wL fun _=>?_|refine wD fun _=>?_|refine wE ?_|refine wZ ?_)|simp [go_sem]))
 by_cases h : p ∈ l
 ·rw [if_pos h]
  (repeat (first|with_reducible (first|refine wL fun _=>?_|refine wD fun _=>?_|refine wE ?_|refine wZ ?_)|simp [go_sem, h]))
 ·rw [if_neg h]
  (repeat (first|with_reducible (first|refine wL fun _=>?_|refine wD fun _=>?_|refine wE ?_|refine wZ ?_)|simp [go_sem, h]))
theorem rFind_pure (l : List PosD) (hi : Inc l) (hl : l.length ≤ 17179869184) (hf : ∀ q ∈ l, FitsP q) (p : PosD) (hp : FitsP p) :
  Pure Tryz.prog 31 [encPs l, .agg (encPos p)] (.v (.int .i64 (fndP l p))) := by
 rw [← findP_fnd hi]
 exact Find_pure l p (by omega) hf hp
end Go.Av
end
section
open Go Go.Proofs
set_option maxRecDepth 20000
set_option maxHeartbeats 4000000
namespace Go.Av
theorem keyP_toList (p : PosD) : (keyP p).data.toList = (allP p).map fun n => UInt8.ofNat n.toNat := by
 unfold keyP
 simp [strOf_toList]
theorem keyP_inj {g : GameD} (hg : GOk g) {a b : PosD} (ha : POk g a) (hb : POk g b) (h : keyP a = keyP b) : a = b := by
 have h2 : allP a = allP b := map_u8_inj (allP_ok hg ha) (allP_ok hg hb) (by rw [← keyP_toList, ← keyP_toList, h])
 have a1 := ha.al
 have b1 := hb.al
 have a2 := ha.h0.len
 have b2 := hb.h0.len
 have a3 := ha.h1.len
 have b3 := hb.h1.len
 obtain ⟨pat, ph0, ph1, pr, ps⟩ := a
 obtain ⟨qat, qh0, qh1, qr, qs⟩ := b
 simp only [allP, List.append_assoc] at h2 a1 b1 a2 b2 a3 b3
 obtain ⟨e3, h3⟩ := List.append_inj h2 (by omega)
 obtain ⟨e4, h4⟩ := List.append_inj h3 (by omega)
 obtain ⟨e5, h5⟩ := List.append_inj h4 (by omega)
 simp only [List.cons.injEq, and_true] at h5
 rw [e3, e4, e5, h5.1, h5.2]
def kRowP (q : PosD) : List AV := [.v (.string (keyP q)), .v (.bool true)]
theorem bel_kRowP {n : Nat} {l : List PosD} : (∀ r ∈ l.map kRowP, ∀ c ∈ r, Bel n c) = True := by
 refine eq_true ?_
 intro r hr c hc
 obtain ⟨x, _, rfl⟩ := List.mem_map.1 hr
 simp only [kRowP, List.mem_cons, List.not_mem_nil, or_false] at hc
 rcases hc with rfl | rfl <;> exact .v _
attribute [go_sem ↓] bel_kRowP
theorem find_keysP (t : PosD) : ∀ (next : List PosD), (∀ s ∈ next, keyP t = keyP s → t = s) → mapFind .string (.v (.string (keyP t))) (next.map kRowP) = some (if t ∈ next then some (.v (.bool true)) else none)
 | [], _ => by simp [mapFind]
 | s :: next, h => by
  rw [List.map_cons, mapFind]
  have e : keyEq .string (.v (.string (keyP t))) (cel (kRowP s) 0) = some (keyP t == keyP s) := rfl
  rw [e, bytes_beq]
  by_cases hk : keyP t = keyP s
  ·have := h s (by simp) hk
   subst this
   simp [kRowP, cel]
  ·have hne : t ≠ s := fun e => hk (by rw [e])
   rw [decide_eq_false hk]
   simp only
   rw [find_keysP t next (fun u hu => h u (by simp [hu]))]
   simp [hne]
theorem put_keysP (t : PosD) : ∀ (next : List PosD), (∀ s ∈ next, keyP t = keyP s → t = s) → t ∉ next → mapPut .string (.v (.string (keyP t))) (.v (.bool true)) (next.map kRowP) = some ((next ++ [t]).map kRowP)
 | [], _, _ => by simp [mapPut, kRowP]
 | s :: next, h, hn => by
  rw [List.map_cons, mapPut]
  have e : keyEq .string (.v (.string (keyP t))) (cel (kRowP s) 0) = some (keyP t == keyP s) := rfl
  rw [e, bytes_beq]
  have hk : keyP t ≠ keyP s := fun e => hn (by rw [h s (by simp) e]; simp)
  rw [decide_eq_false hk]
  simp only
  rw [put_keysP t next (fun u hu => h u (by simp [hu])) (fun hm => hn (by simp [hm]))]
  simp
def rowL (x : List PosD × Bool) : List AV := [encPs x.1, .v (.bool x.2)]
theorem bel_rowL {n : Nat} {L : List (List PosD × Bool)} : (∀ r ∈ L.map rowL, ∀ c ∈ r, Bel n c) = True := by
 refine eq_true ?_
 intro r hr c hc
 obtain ⟨x, _, rfl⟩ := List.mem_map.1 hr
 simp only [rowL, List.mem_cons, List.not_mem_nil, or_false] at hc
 rcases hc with rfl | rfl
 ·exact of_eq_true bel_Ps
 ·exact .v _
attribute [go_sem ↓] bel_rowL
def nxI (g : GameD) (known now : List PosD) (i : Nat) : List PosD := ((now.take i).flatMap (movesP g)).foldl (addK known) []
theorem nxI_succ (g : GameD) (known now : List PosD) {i : Nat} (hi : i < now.length) : nxI g known now (i + 1) = (movesP g (nth now i)).foldl (addK known) (nxI g known now i) := by
 unfold nxI
 rw [List.take_add_one, List.getElem?_eq_getElem hi, nth_eq _ _ hi, Option.toList_some, List.flatMap_append, List.foldl_append]
 simp
theorem nxI_all (g : GameD) (known now : List PosD) : nxI g known now now.length = nextP g known now := by
 unfold nxI nextP
 rw [List.take_length]
theorem foldK_succ (known nx : List PosD) (l : List PosD) {j : Nat} (hj : j < l.length) : (l.take (j + 1)).foldl (addK known) nx = addK known ((l.take j).foldl (addK known) nx) (nth l j) := by
 rw [List.take_add_one, List.getElem?_eq_getElem hj, nth_eq _ _ hj, Option.toList_some, List.foldl_append]
 rfl
theorem kKey_pure {g : GameD} (hg : GOk g) {p : PosD} (hp : POk g p) : Pure Tryz.prog 186 [.agg (encPos p)] (.v (.string (keyP p))) := by
 have := hp.al
 have := hg.c9
 have := hg.k6
 have := hp.h0.len
 have := hp.h1.len
 exact Key_pure p (by omega) (by omega) (by omega) (allP_ok hg hp)
theorem layersF_seq (g : GameD) (hg : GOk g) (p : PosD) (hp : POk g p) (b : Int) (hb : 0 ≤ b ∧ b ≤ 4000) :
  PSeq Tryz.prog 185 [.fp (encPos p), .fp [.v (.int .i64 b)], .fp (encGame g)] 0 ((layersP g b (b.toNat + 2) [p] [p]).map rowL) := by
 refine PSeq.of_awp (by kernel_rfl) Tryz.func185 rfl rfl (Nat.le_of_ble_eq_true rfl) (by kernel_rfl) (fun l => ?_) (hm2 := by decide)
 have hgb : ∀ (n : Nat) (L : List (List PosD × Bool)), Bel n (ghost l 0 (L.map rowL)) := fun n L => by
  simp only [ghost, Bel_gd, Bel_tup, List.forall_mem_cons, Bel_v, Bel_lst]
  simp [go_sem]
 have hK0 := kKey_pure hg hp
 (repeat (first|with_reducible (first|refine wL fun _=>?_|refine wD fun _=>?_|refine wE ?_|refine wZ ?_)|simp [go_sem, GH]))
 refine dCall.plain hK0 (by simp [go_sem]) ?_
 (repeat (first|with_reducible (first|refine wL fun _=>?_|refine wD fun _=>?_|refine wE ?_|refine wZ ?_)|simp [go_sem, GH, mapPut]))
 refine ALoop.start (ALoop.ind (α := List PosD × List PosD × List (List PosD × Bool)) (fun a => ⟨[(0, .fn (.yield l) [] []), (2, .fp [.v (.int .i64 b)]), (3, .fp (encGame g)), (5, .mp 0), (6, encPs a.2.1), (1000000007, ghost l 0 (a.2.2.map rowL))], [(0, .rows true 0 2 (a.1.map kRowP))], 1⟩)
  (fun d a => SearchOk g a.1 a.2.1 ∧ 1 ≤ d ∧ b.toNat + 2 ≤ a.1.length + d ∧ a.1.length ≤ 4000 + 4000 * 472446 ∧ a.2.2 = layersP g b d a.1 a.2.1) ?_ (b.toNat + 2) ([p], [p], layersP g b (b.toNat + 2) [p] [p]) ?_) ?_ ?_
 ·rintro d ⟨known, now, L⟩ ⟨i1, i2, i3, i4, i5⟩ hrec
  simp only at i1 i2 i3 i4 i5
  obtain ⟨d, rfl⟩ : ∃ d', d = d' + 1 := ⟨d - 1, by omega⟩
  rw [layersP] at i5
  (repeat (first|with_reducible (first|refine wL fun _=>?_|refine wD fun _=>?_|refine wE ?_|refine wZ ?_)|simp [go_sem, GH]))
  refine aIf.mkL (fun hk => ?_) (fun hk => ?_) <;> simp at hk
  ·rw [if_pos hk] at i5
   subst i5
   (repeat (first|with_reducible (first|refine wL fun _=>?_|refine wD fun _=>?_|refine wE ?_|refine wZ ?_)|simp [go_sem, GH]))
   refine aYld.mk (more := 0) (xs := rowL (now, false)) (rs := []) _ (by simp [upd, GH]) (.refl _) (.refl _ _ _ _) (by simp [go_sem, rowL]) ?_ ?_
   ·(repeat (first|with_reducible (first|refine wL fun _=>?_|refine wD fun _=>?_|refine wE ?_|refine wZ ?_)|simp [go_sem, GH]))
   ·(repeat (first|with_reducible (first|refine wL fun _=>?_|refine wD fun _=>?_|refine wE ?_|refine wZ ?_)|simp [go_sem, GH]))
  ·rw [if_neg (by omega)] at i5
   have hn2 := i1.next hg
   have hnl := i1.now_len
   have hok := i1.now_ok
   have hnx := nextP_len hg (known := known) hok
   have hnb : now.length * 472446 ≤ 4000 * 472446 := Nat.mul_le_mul_right _ (by omega)
   have hnd : (known ++ nextP g known now).length = known.length + (nextP g known now).length := List.length_append
   obtain ⟨A, hA⟩ : ∃ A : Nat → List PosD, ∀ i, A i = nxI g known now i := ⟨_, fun _ => rfl⟩
   have hAl : ∀ i, (A i).length ≤ 4000 * 472446 := fun i => by
    rw [hA]
    have h1 := addK_fold_len known ((now.take i).flatMap (movesP g)) []
    have h2 := flatMap_moves_len hg (now := now.take i) (fun q hq => hok q (List.mem_of_mem_take hq))
    have h3 : (now.take i).length * 472446 ≤ 4000 * 472446 := Nat.mul_le_mul_right _ (by simp; omega)
    unfold nxI
    simp only [List.length_nil] at h1
    omega
   have hAo : ∀ i, ∀ q ∈ A i, POk g q := fun i q hq => by
    rw [hA] at hq
    unfold nxI at hq
    rw [addK_fold_mem, List.mem_flatMap] at hq
    rcases hq with h | ⟨⟨r, hr, hm⟩, _⟩
    ·simp at h
    ·exact (movesP_ok hg (hok r (List.mem_of_mem_take hr)) q hm).1
   have hA0 : A 0 = [] := by rw [hA]; rfl
   have hAs : ∀ i, i < now.length → A (i + 1) = (movesP g (nth now i)).foldl (addK known) (A i) := fun i hi => by rw [hA, hA, nxI_succ g known now hi]
   have hAn : A now.length = nextP g known now := by rw [hA, nxI_all]
   (repeat (first|with_reducible (first|refine wL fun _=>?_|refine wD fun _=>?_|refine wE ?_|refine wZ ?_)|simp [go_sem, GH]))
   refine ALoop.start (ALoop.ind (α := Nat) (fun i => ⟨[(0, .fn (.yield l) [] []), (2, .fp [.v (.int .i64 b)]), (3, .fp (encGame g)), (5, .mp 0), (6, encPs now), (7, .sl 1 (A i).length 5 0 (A i).length), (26, encPs now), (27, .v (.int .i64 now.length)), (28, .v (.int .i64 i)), (1000000007, ghost l 0 (L.map rowL))], [(0, .rows true 0 2 ((known ++ A i).map kRowP)), (1, .rows true (A i).length 5 ((A i).map encPos))], 2⟩)
    (fun d i => i + d = now.length) ?_ now.length 0 ?_) ?_ ?_
   ·rintro d2 i i1' hrec2
    (repeat (first|with_reducible (first|refine wL fun _=>?_|refine wD fun _=>?_|refine wE ?_|refine wZ ?_)|simp [go_sem, GH]))
    refine aIf.mkL (fun hi => ?_) (fun hi => ?_) <;> simp at hi
    ·have hp0 := hok _ (nth_mem hi)
     have hM := Moves_pure g hg _ hp0
     have hml := movesP_len2 hg hp0
     have hmo := fun m hm => (movesP_ok hg hp0 m hm).1
     have hAs := hAs i hi
     (repeat (first|with_reducible (first|refine wL fun _=>?_|refine wD fun _=>?_|refine wE ?_|refine wZ ?_)|simp [go_sem, GH, hi]))
     refine ACallP.plain hM (by simp [go_sem]) ?_
     (repeat (first|with_reducible (first|refine wL fun _=>?_|refine wD fun _=>?_|refine wE ?_|refine wZ ?_)|simp [go_sem, GH, hi]))
     generalize hmv : movesP g (nth now i) = mv at *
     have hAi := hAo i
     have hAil := hAl i
     generalize A i = a0 at *
     obtain ⟨C, hC⟩ : ∃ C : Nat → List PosD, ∀ j, C j = (mv.take j).foldl (addK known) a0 := ⟨_, fun _ => rfl⟩
     have hC0 : C 0 = a0 := by rw [hC]; rfl
     have hCs : ∀ j, j < mv.length → C (j + 1) = addK known (C j) (nth mv j) := fun j hj => by rw [hC, hC, foldK_succ known a0 mv hj]
     have hCn : C mv.length = A (i + 1) := by rw [hC, List.take_length, hAs]
     have hCl : ∀ j, (C j).length ≤ 4000 * 472446 + 472446 := fun j => by
      rw [hC]
      have h1 := addK_fold_len known (mv.take j) a0
      have h2 : (mv.take j).length ≤ mv.length := by simp; omega
      omega
     have hCo : ∀ j, ∀ q ∈ C j, POk g q := fun j q hq => by
      rw [hC, addK_fold_mem] at hq
      rcases hq with h | ⟨h, _⟩
      ·exact hAi q h
      ·exact hmo q (List.mem_of_mem_take h)
     have hA0' : ∀ q ∈ mv, POk g q := hmo
     refine ALoop.start (ALoop.ind (α := Nat) (fun j => ⟨[(0, .fn (.yield l) [] []), (2, .fp [.v (.int .i64 b)]), (3, .fp (encGame g)), (5, .mp 0), (6, encPs now), (7, .sl 1 (C j).length 5 0 (C j).length), (26, encPs now), (27, .v (.int .i64 now.length)), (28, .v (.int .i64 i)), (34, encPs mv), (35, .v (.int .i64 mv.length)), (36, .v (.int .i64 j)), (1000000007, ghost l 0 (L.map rowL))], [(0, .rows true 0 2 ((known ++ C j).map kRowP)), (1, .rows true (C j).length 5 ((C j).map encPos))], 2⟩)
      (fun d j => j + d = mv.length) ?_ mv.length 0 ?_) ?_ ?_
     ·rintro d3 j j1 hrec3
      (repeat (first|with_reducible (first|refine wL fun _=>?_|refine wD fun _=>?_|refine wE ?_|refine wZ ?_)|simp [go_sem, GH]))
      refine aIf.mkL (fun hj => ?_) (fun hj => ?_) <;> simp at hj
      ·have hqo := hmo _ (nth_mem hj)
       have hKq := kKey_pure hg hqo
       have hCj := hCs j hj
       have hCb := hCl j
       have hin : ∀ u ∈ known ++ C j, keyP (nth mv j) = keyP u → nth mv j = u := fun u hu e => by
        rcases List.mem_append.1 hu with h | h
        ·exact keyP_inj hg hqo (i1.ok u h) e
        ·exact keyP_inj hg hqo (hCo j u h) e
       have hfind := find_keysP _ _ hin
       have hput := put_keysP _ _ hin
       rw [List.map_append] at hfind hput
       unfold addK at hCj
       generalize hq : nth mv j = q at *
       generalize C j = cj at *
       (repeat (first|with_reducible (first|refine wL fun _=>?_|refine wD fun _=>?_|refine wE ?_|refine wZ ?_)|simp [go_sem, GH, hj, hq]))
       refine ACallP.plain hKq (by simp [go_sem]) ?_
       by_cases hmem : q ∈ known ++ cj
       ·rw [if_pos hmem] at hCj hfind
        (repeat (first|with_reducible (first|refine wL fun _=>?_|refine wD fun _=>?_|refine wE ?_|refine wZ ?_)|simp [go_sem, GH, hfind]))
        refine ALoop.start (hrec3 (d3 - 1) (by omega) (j + 1) (by omega)) ?_ (by simp)
        simp [go_sem, Wk_eq, hgb, GH, hCj]
       ·rw [if_neg hmem] at hCj hfind
        have hput := hput hmem
        (repeat (first|with_reducible (first|refine wL fun _=>?_|refine wD fun _=>?_|refine wE ?_|refine wZ ?_)|simp [go_sem, GH, hfind, hput]))
        refine ALoop.start (hrec3 (d3 - 1) (by omega) (j + 1) (by omega)) ?_ (by simp)
        simp [go_sem, Wk_eq, hgb, GH, hCj]
        intro c hc
        simp only [kRowP, List.mem_cons, List.not_mem_nil, or_false] at hc
        rcases hc with rfl | rfl <;> exact .v _
      ·obtain rfl : j = mv.length := by omega
       rw [hCn]
       (repeat (first|with_reducible (first|refine wL fun _=>?_|refine wD fun _=>?_|refine wE ?_|refine wZ ?_)|simp [go_sem, GH]))
       refine ALoop.start (hrec2 (d2 - 1) (by omega) (i + 1) (by omega)) ?_ (by simp)
       simp [go_sem, Wk_eq, hgb, GH]
     ·simp
     ·simp [go_sem, Wk_eq, hgb, GH, hC0]
     ·simp
    ·obtain rfl : i = now.length := by omega
     rw [hAn]
     have hfit : ∀ q ∈ nextP g known now, FitsP q := fun q hq => (nextP_ok hg hok q hq).fits hg
     have hSo := pSort_pure (nextP g known now) (by omega) hfit
     generalize nextP g known now = nx at *
     by_cases hz : nx = []
     ·rw [if_pos hz] at i5
      subst hz
      subst i5
      (repeat (first|with_reducible (first|refine wL fun _=>?_|refine wD fun _=>?_|refine wE ?_|refine wZ ?_)|simp [go_sem, GH]))
      refine aYld.mk (more := 0) (xs := rowL (now, true)) (rs := []) _ (by simp [upd, GH]) (.refl _) (.refl _ _ _ _) (by simp [go_sem, rowL]) ?_ ?_
      ·(repeat (first|with_reducible (first|refine wL fun _=>?_|refine wD fun _=>?_|refine wE ?_|refine wZ ?_)|simp [go_sem, GH]))
      ·(repeat (first|with_reducible (first|refine wL fun _=>?_|refine wD fun _=>?_|refine wE ?_|refine wZ ?_)|simp [go_sem, GH]))
     ·rw [if_neg hz] at i5
      have hzl : 0 < nx.length := List.length_pos_iff.2 hz
      have hz2 : (nx = []) = False := eq_false hz
      subst i5
      (repeat (first|with_reducible (first|refine wL fun _=>?_|refine wD fun _=>?_|refine wE ?_|refine wZ ?_)|simp [go_sem, GH, hz2]))
      refine aYld.mk (more := 0) (xs := rowL (now, false)) (rs := (layersP g b d (known ++ nx) (sortU cmpP nx)).map rowL) _ (by simp [upd, GH]) (.refl _) (.refl _ _ _ _) (by simp [go_sem, rowL]) ?_ ?_
      ·(repeat (first|with_reducible (first|refine wL fun _=>?_|refine wD fun _=>?_|refine wE ?_|refine wZ ?_)|simp [go_sem, GH, hz2]))
       refine ACallP.pureF [1] hSo ?_ (bel1 (bel_encPs _)) ?_
       ·((try simp only [encOut, encState, encPos, encOs, encSs, encPs, encIs, List.nil_append, List.append_nil, List.cons_append]); (repeat (first | (with_reducible exact LeRow.nil) | (with_reducible refine LeRow.cons ?_ ?_) | (with_reducible exact LeV.refl _) | (with_reducible refine LeV.agg ?_) | ((refine leV_frz rfl (by simp) (by simp [frzO, frz1, upd, noH]) ?_); (first | (simp [go_sem]; done) | (simp [go_sem]; exact List.take_of_length_le (by simp)))))))
       (repeat (first|with_reducible (first|refine wL fun _=>?_|refine wD fun _=>?_|refine wE ?_|refine wZ ?_)|simp [go_sem, GH]))
       refine ALoop.start (hrec d (by omega) (known ++ nx, sortU cmpP nx, layersP g b d (known ++ nx) (sortU cmpP nx)) ⟨hn2, by omega, by simp only; omega, by simp only; omega, rfl⟩) ?_ (by simp)
       simp [go_sem, Wk_eq, hgb, GH]
      ·(repeat (first|with_reducible (first|refine wL fun _=>?_|refine wD fun _=>?_|refine wE ?_|refine wZ ?_)|simp [go_sem, GH, hz2]))
   ·simp
   ·simp [go_sem, Wk_eq, hgb, GH, hA0]
   ·simp
 ·exact ⟨SearchOk.start hp, by omega, by simp only [List.length_singleton]; omega, by simp, rfl⟩
 ·simp [go_sem, Wk_eq, hgb, GH, kRowP]
  exact leV_frz rfl (by simp) (by simp [noH, upd]) (by simp)
 ·simp
end Go.Av
end
section
open Go Go.Proofs
set_option maxRecDepth 20000
set_option maxHeartbeats 4000000
namespace Go.Av
def layR (n : Nat) : AV := .fn (.func 185) [] [.ref (n + 1) 0 5 0 0, .ref (n + 2) 0 1 0 0, .ref n 0 9 0 0]
def layH (g : GameD) (p : PosD) (b : Int) (n : Nat) : List (Nat × AObj) := [(n, .rows true 0 9 [encGame g]), (n + 1, .rows true 0 5 [encPos p]), (n + 2, .rows true 0 1 [[.v (.int .i64 (budP b))]])]
theorem layers_owns (g : GameD) (p : PosD) (b : Int) : Owns Tryz.prog 142 [.agg (encGame g), .agg (encPos p), .v (.int .i64 b)] layR (layH g p b) 3 := by
 refine ⟨?_, fun n => ⟨by simp [go_sem, layR], by simp [go_sem, layH]⟩⟩
 have e : budP b = if 0 < (if 4000 < b then 4000 else b) then (if 4000 < b then 4000 else b) else 0 := by
  unfold budP
  split <;> split <;> (try split) <;> omega
 refine ACallP.of_awp (by kernel_rfl) Tryz.func142 rfl rfl (Nat.le_of_ble_eq_true rfl) (by kernel_rfl) ?_
 (repeat (first|with_reducible (first|refine wL fun _=>?_|refine wD fun _=>?_|refine wE ?_|refine wZ ?_)|simp [go_sem, layR, layH]))
 simp [go_sem, Wk_eq, e]
theorem Seen_pure (g : GameD) (hg : GOk g) (p : PosD) (hp : POk g p) (b : Int) : Pure Tryz.prog 74 [.agg (encGame g), .agg (encPos p), .v (.int .i64 b)] (.tup [encPs (seenP g p b), .v (.bool (fullP (searchP g p b)))]) := by
 refine pF Tryz.func74 ?_
 have hS : Owns Tryz.prog 142 [.agg (encGame g), .agg (encPos p), .v (.int .i64 b)] (fun n => layR n) (fun n => layH g p b n) 3 := layers_owns g p b
 have hQ := layersF_seq g hg p hp (budP b) (budP_range b)
 simp only [layR, layH] at hS
 have hlen := searchP_len hg hp b
 have hok := allOf_ok hg hp b
 have hne := searchP_ne g p b
 rw [show layersP g (budP b) ((budP b).toNat + 2) [p] [p] = searchP g p b from rfl] at hQ
 unfold seenP
 have hfull := fullP_nth hne
 generalize searchP g p b = L at *
 (repeat (first|with_reducible (first|refine wL fun _=>?_|refine wD fun _=>?_|refine wE ?_|refine wZ ?_)|simp [go_sem, GH]))
 refine ACallP.ownsPlain hS (by simp [go_sem]) ?_
 (repeat (first|with_reducible (first|refine wL fun _=>?_|refine wD fun _=>?_|refine wE ?_|refine wZ ?_)|simp [go_sem, GH]))
 refine aRange.mk [.fp (encPos p), .fp [.v (.int .i64 (budP b))], .fp (encGame g)] (frzO _ [4, 5, 6]) hQ (frz_frzO _ _) ?_ (by simp [go_sem]) (fun xs hx => by obtain ⟨y, _, rfl⟩ := List.mem_map.1 hx; rfl) ?_
 ·refine LeRow.cons (.frzP rfl ?_ ?_ ?_ ?_) (LeRow.cons (.frzP rfl ?_ ?_ ?_ ?_) (LeRow.cons (.frzP rfl ?_ ?_ ?_ ?_) .nil)) <;> first | exact LeRow.refl _ _ _ _ | simp [frzO, frz1, upd]
 obtain ⟨al, hal⟩ : ∃ al : Nat → List PosD, al = fun k => allOf (L.take k) := ⟨_, rfl⟩
 have hall : ∀ k, (al k).length ≤ 1889788001 := fun k => by
  have e : allOf L = allOf (L.take k) ++ allOf (L.drop k) := by
   unfold allOf
   rw [← List.flatMap_append, List.take_append_drop]
  rw [e, List.length_append] at hlen
  rw [hal]
  simp only
  omega
 have hals : ∀ k, k < L.length → al (k + 1) = al k ++ (nth L k).1 := fun k hk => by rw [hal]; simp only; unfold allOf; rw [List.take_add_one, List.getElem?_eq_getElem hk, nth_eq _ _ hk, Option.toList_some, List.flatMap_append]; simp
 have hal0 : al 0 = [] := by rw [hal]; rfl
 have halE : al L.length = allOf L := by rw [hal]; simp
 obtain ⟨fl, hfl⟩ : ∃ fl : Nat → Bool, fl = fun k => if k = 0 then false else (nth L (k - 1)).2 := ⟨_, rfl⟩
 have hfl0 : fl 0 = false := by rw [hfl]; rfl
 have hfls : ∀ k, fl (k + 1) = (nth L k).2 := fun k => by rw [hfl]; rfl
 have hflE : fl L.length = fullP L := by
  have := List.length_pos_iff.2 hne
  rw [hfull, hfl]
  simp only
  rw [if_neg (by omega)]
 clear hal hfl
 refine Fgt.to (ARange.ind (α := Nat) (fun k => ([(8, .ref 2 0 1 0 0), (9, .ref 3 0 1 0 0)], [(2, .rows true 0 1 [[.sl 7 k 5 0 (al k).length]]), (3, .rows true 0 1 [[.v (.bool (fl k))]]), (7, .rows true k 5 ((al k).map encPos))], 8))
  (fun rows k => rows = (L.drop k).map rowL ∧ k ≤ L.length) ?_ ?_ _ 0 ?_) ?_ ?_
 ·rintro k ⟨i1, i2⟩
  have hk : k = L.length := by
   have := congrArg List.length i1
   simp at this
   omega
  subst hk
  refine ⟨rfl, ?_⟩
  have hla := hall L.length
  rw [halE, hflE] at *
  have hSo := pSort_pure (allOf L) (by omega) (fun q hq => (hok q hq).fits hg)
  generalize allOf L = all at *
  generalize fullP L = full at *
  (repeat (first|with_reducible (first|refine wL fun _=>?_|refine wD fun _=>?_|refine wE ?_|refine wZ ?_)|simp [go_sem, GH]))
  refine dCall.frz [encPs all] _ [7] [(7, some (.rows false L.length 5 (all.map encPos)))] hSo ?_ ?_ (bel1 (bel_encPs _)) ?_
  ·intro q hq
   simp only [List.mem_singleton] at hq
   subst hq
   exact ⟨by simp, L.length, 5, _, rfl, by simp [upd]⟩
  ·intro h₁ hS
   have h6 := hS 7 (by simp)
   simp [upd] at h6
   exact .cons (leV_frz h6.symm (by simp) (by simp [applyW, upd]) (by simp; exact List.take_of_length_le (by simp))) .nil
  ·(repeat (first|with_reducible (first|refine wL fun _=>?_|refine wD fun _=>?_|refine wE ?_|refine wZ ?_)|simp [go_sem, GH]))
 ·rintro xs rs k ⟨i1, i2⟩ hrec
  have hk : k < L.length := by
   have := congrArg List.length i1
   simp at this
   omega
  rw [dropG_cons hk, List.map_cons, List.cons.injEq] at i1
  obtain ⟨rfl, rfl⟩ := i1
  have hals := hals k hk
  have hfls := hfls k
  have h1 := hall k
  have h2 := hall (k + 1)
  have h3 : (al k).length + (nth L k).1.length ≤ 1889788001 := by rw [hals, List.length_append] at h2; exact h2
  generalize hrs : (L.drop (k + 1)).map rowL = rs at *
  refine ARange.go (Nat.zero_le _) ?_
  (repeat (first|with_reducible (first|refine wL fun _=>?_|refine wD fun _=>?_|refine wE ?_|refine wZ ?_)|simp [go_sem, GH, rowL]))
  refine Fgt.to (hrec (k + 1) ⟨hrs.symm, by omega⟩) ?_ (by simp)
  simp [go_sem, Wk_eq, GH, hals, hfls]
 ·exact ⟨rfl, Nat.zero_le _⟩
 ·simp [go_sem, Wk_eq, hal0, hfl0]
 ·simp
end Go.Av
end
section
open Go Go.Proofs
set_option maxRecDepth 20000
set_option maxHeartbeats 4000000
namespace Go.Av
def mustK (gm : Bool) (l : List OutD) (i : Nat) : Bool := gm && (l.take i).any (·.took)
theorem mustK_zero (gm : Bool) (l : List OutD) : mustK gm l 0 = false := by simp [mustK]
theorem mustK_succ (gm : Bool) (l : List OutD) {i : Nat} (h : i < l.length) : mustK gm l (i + 1) = (mustK gm l i || (gm && (nth l i).took)) := by
 unfold mustK
 rw [List.take_add_one, List.getElem?_eq_getElem h, nth_eq _ _ h, Option.toList_some, List.any_append]
 simp only [List.any_cons, List.any_nil, Bool.or_false, Bool.and_or_distrib_left]
def keepK (must : Bool) (l : List OutD) (i : Nat) : List PosD := ((l.take i).filter fun o => !must || o.took).map (·.pos)
theorem keepK_zero (must : Bool) (l : List OutD) : keepK must l 0 = [] := by simp [keepK]
theorem keepK_succ (must : Bool) (l : List OutD) {i : Nat} (h : i < l.length) : keepK must l (i + 1) = keepK must l i ++ (if (!must || (nth l i).took) = true then [(nth l i).pos] else []) := by
 unfold keepK
 rw [List.take_add_one, List.getElem?_eq_getElem h, nth_eq _ _ h, Option.toList_some, List.filter_append, List.map_append]
 congr 1
 by_cases hc : (!must || l[i].took) = true <;> simp [hc]
theorem keepK_len (must : Bool) (l : List OutD) (i : Nat) : (keepK must l i).length ≤ i := by
 unfold keepK
 rw [List.length_map]
 refine Nat.le_trans (List.length_filter_le _ _) ?_
 simp; omega
theorem R6Moves_pure (g : GameD) (hg : GOk g) (p : PosD) (hp : POk g p) : Pure Tryz.prog 55 [.agg (encGame g), .agg (encPos p)] (encPs (movesP g p)) := by
 refine pF Tryz.func55 ?_
 have hE := R6Ended_pure g hg p hp
 have hO := R6Outcomes_pure g hg p hp
 have hD := R5Drops_pure g hg p hp
 have hdl := dropsP_len hg hp
 have hol := outsP_len hg hp
 have hS := R4Sort_pure (movesL g p) (by have := movesL_len hg hp; omega) (fun q hq => (movesL_ok hg hp q hq).1.fits hg)
 have hml : movesL g p = keepK (mustP g p) (outsP g p) (outsP g p).length ++ (if mustP g p then [] else dropsP g p) := by unfold movesL keepK; rw [List.take_length]
 have hmu : mustP g p = mustK g.must (outsP g p) (outsP g p).length := by unfold mustP mustK; rw [List.take_length]
 have hmv : movesP g p = if 0 ≤ endedP g p then [] else sortU cmpP (movesL g p) := rfl
 obtain ⟨R, hR⟩ : ∃ R, R = movesP g p := ⟨_, rfl⟩
 rw [← hR] at hmv ⊢
 generalize outsP g p = l at *
 generalize dropsP g p = ds at *
 generalize movesL g p = ml at *
 generalize endedP g p = en at *
 (repeat (first|with_reducible (first|refine wL fun _=>?_|refine wD fun _=>?_|refine wE ?_|refine wZ ?_)|simp [go_sem]))
 refine ACallP.plain hE (by simp [go_sem]) ?_
 (repeat (first|with_reducible (first|refine wL fun _=>?_|refine wD fun _=>?_|refine wE ?_|refine wZ ?_)|simp [go_sem]))
 refine aIf.mkL (fun he => ?_) (fun he => ?_) <;> simp at he
 ·rw [if_pos he] at hmv
  rw [hmv]
  (repeat (first|with_reducible (first|refine wL fun _=>?_|refine wD fun _=>?_|refine wE ?_|refine wZ ?_)|simp [go_sem]))
 ·rw [if_neg (by omega)] at hmv
  (repeat (first|with_reducible (first|refine wL fun _=>?_|refine wD fun _=>?_|refine wE ?_|refine wZ ?_)|simp [go_sem]))
  refine ACallP.plain hO (by simp [go_sem]) ?_
  (repeat (first|with_reducible (first|refine wL fun _=>?_|refine wD fun _=>?_|refine wE ?_|refine wZ ?_)|simp [go_sem]))
  refine ALoop.start (ALoop.ind (α := Nat) (fun i => ⟨[(2, .ref 0 0 9 0 0), (3, .ref 1 0 5 0 0), (5, encOs l), (6, .sl 2 0 5 0 0), (7, .v (.bool (mustK g.must l i))), (8, .v (.int .i64 i))], [(0, .rows true 0 9 [encGame g]), (1, .rows true 0 5 [encPos p]), (2, .rows true 0 5 [])], 3⟩)
   (fun d i => i + d = l.length) ?_ l.length 0 ?_) ?_ ?_
  ·rintro d i i1 hrec
   (repeat (first|with_reducible (first|refine wL fun _=>?_|refine wD fun _=>?_|refine wE ?_|refine wZ ?_)|simp [go_sem]))
   refine aIf.mkL (fun hi => ?_) (fun hi => ?_) <;> simp at hi
   ·have hms := mustK_succ g.must l hi
    cases hmk : mustK g.must l i
    ·rw [hmk, Bool.false_or] at hms
     cases hgm : g.must
     ·rw [hgm, Bool.false_and] at hms
      (repeat (first|with_reducible (first|refine wL fun _=>?_|refine wD fun _=>?_|refine wE ?_|refine wZ ?_)|simp [go_sem, hmk, hgm, hi]))
      refine ALoop.start (hrec (d - 1) (by omega) (i + 1) (by omega)) ?_ (by simp)
      simp [go_sem, Wk_eq, hms, hgm]
     ·rw [hgm, Bool.true_and] at hms
      (repeat (first|with_reducible (first|refine wL fun _=>?_|refine wD fun _=>?_|refine wE ?_|refine wZ ?_)|simp [go_sem, hmk, hgm, hi]))
      refine ALoop.start (hrec (d - 1) (by omega) (i + 1) (by omega)) ?_ (by simp)
      simp [go_sem, Wk_eq, hms, hgm]
    ·rw [hmk, Bool.true_or] at hms
     (repeat (first|with_reducible (first|refine wL fun _=>?_|refine wD fun _=>?_|refine wE ?_|refine wZ ?_)|simp [go_sem, hmk, hi]))
     refine ALoop.start (hrec (d - 1) (by omega) (i + 1) (by omega)) ?_ (by simp)
     simp [go_sem, Wk_eq, hms]
   ·have hil : i = l.length := by omega
    subst hil
    rw [← hmu]
    generalize mustP g p = must at *
    (repeat (first|with_reducible (first|refine wL fun _=>?_|refine wD fun _=>?_|refine wE ?_|refine wZ ?_)|simp [go_sem]))
    refine ALoop.start (ALoop.ind (α := Nat) (fun i => ⟨[(2, .ref 0 0 9 0 0), (3, .ref 1 0 5 0 0), (5, encOs l), (6, .sl 2 (keepK must l i).length 5 0 (keepK must l i).length), (7, .v (.bool must)), (9, .v (.int .i64 i))], [(0, .rows true 0 9 [encGame g]), (1, .rows true 0 5 [encPos p]), (2, .rows true (keepK must l i).length 5 ((keepK must l i).map encPos))], 3⟩)
     (fun d i => i + d = l.length) ?_ l.length 0 ?_) ?_ ?_
    ·rintro d i i1 hrec2
     (repeat (first|with_reducible (first|refine wL fun _=>?_|refine wD fun _=>?_|refine wE ?_|refine wZ ?_)|simp [go_sem]))
     refine aIf.mkL (fun hi => ?_) (fun hi => ?_) <;> simp at hi
     ·have hks := keepK_succ must l hi
      have hkl := keepK_len must l i
      cases must
      ·simp only [Bool.not_false, Bool.true_or, if_true] at hks
       (repeat (first|with_reducible (first|refine wL fun _=>?_|refine wD fun _=>?_|refine wE ?_|refine wZ ?_)|simp [go_sem, hi]))
       refine ALoop.start (hrec2 (d - 1) (by omega) (i + 1) (by omega)) ?_ (by simp)
       simp [go_sem, Wk_eq, hks]
      ·cases ht : (nth l i).took
       ·simp [ht] at hks
        (repeat (first|with_reducible (first|refine wL fun _=>?_|refine wD fun _=>?_|refine wE ?_|refine wZ ?_)|simp [go_sem, hi, ht]))
        refine ALoop.start (hrec2 (d - 1) (by omega) (i + 1) (by omega)) ?_ (by simp)
        simp [go_sem, Wk_eq, hks]
       ·simp [ht] at hks
        (repeat (first|with_reducible (first|refine wL fun _=>?_|refine wD fun _=>?_|refine wE ?_|refine wZ ?_)|simp [go_sem, hi, ht]))
        refine ALoop.start (hrec2 (d - 1) (by omega) (i + 1) (by omega)) ?_ (by simp)
        simp [go_sem, Wk_eq, hks]
     ·have hil : i = l.length := by omega
      subst hil
      have hkl := keepK_len must l l.length
      rw [hmv]
      generalize keepK must l l.length = kk at *
      cases must
      ·simp only [Bool.false_eq_true, if_false] at hml
       (repeat (first|with_reducible (first|refine wL fun _=>?_|refine wD fun _=>?_|refine wE ?_|refine wZ ?_)|simp [go_sem]))
       refine ACallP.plain hD (by simp [go_sem]) ?_
       (repeat (first|with_reducible (first|refine wL fun _=>?_|refine wD fun _=>?_|refine wE ?_|refine wZ ?_)|simp [go_sem]))
       subst hml
       refine ACallP.pureF [2] hS ?_ (bel1 (bel_encPs _)) ?_
       ·((try simp only [encOut, encState, encPos, encOs, encSs, encPs, encIs, List.nil_append, List.append_nil, List.cons_append]); (repeat (first | (with_reducible exact LeRow.nil) | (with_reducible refine LeRow.cons ?_ ?_) | (with_reducible exact LeV.refl _) | (with_reducible refine LeV.agg ?_) | ((refine leV_frz rfl (by simp) (by simp [frzO, frz1, upd, noH]) ?_); (first | (simp [go_sem]; done) | (simp [go_sem]; exact List.take_of_length_le (by simp)))))))
       ·(repeat (first|with_reducible (first|refine wL fun _=>?_|refine wD fun _=>?_|refine wE ?_|refine wZ ?_)|simp [go_sem]))
      ·simp only [if_true, List.append_nil] at hml
       subst hml
       (repeat (first|with_reducible (first|refine wL fun _=>?_|refine wD fun _=>?_|refine wE ?_|refine wZ ?_)|simp [go_sem]))
       refine ACallP.pureF [2] hS ?_ (bel1 (bel_encPs _)) ?_
       ·((try simp only [encOut, encState, encPos, encOs, encSs, encPs, encIs, List.nil_append, List.append_nil, List.cons_append]); (repeat (first | (with_reducible exact LeRow.nil) | (with_reducible refine LeRow.cons ?_ ?_) | (with_reducible exact LeV.refl _) | (with_reducible refine LeV.agg ?_) | ((refine leV_frz rfl (by simp) (by simp [frzO, frz1, upd, noH]) ?_); (first | (simp [go_sem]; done) | (simp [go_sem]; exact List.take_of_length_le (by simp)))))))
       ·(repeat (first|with_reducible (first|refine wL fun _=>?_|refine wD fun _=>?_|refine wE ?_|refine wZ ?_)|simp [go_sem]))
    ·omega
    ·simp [go_sem, Wk_eq, keepK_zero]
    ·simp
  ·omega
  ·simp [go_sem, Wk_eq, mustK_zero]
  ·simp
end Go.Av
end
section
open Go Go.Proofs
set_option maxRecDepth 20000
set_option maxHeartbeats 4000000
namespace Go.Av
theorem R6Legal_pure (g : GameD) (hg : GOk g) (p : PosD) (hp : POk g p) (q : PosD) (hq : FitsP q) : Pure Tryz.prog 73 [.agg (encGame g), .agg (encPos p), .agg (encPos q)] (.v (.bool (decide (q ∈ movesP g p)))) := by
 refine pF Tryz.func73 ?_
 have hM := R6Moves_pure g hg p hp
 have hml := movesP_len hg hp
 have hmf := fun m hm => ((movesP_ok hg hp) m hm).1.fits hg
 generalize movesP g p = l at *
 (repeat (first|with_reducible (first|refine wL fun _=>?_|refine wD fun _=>?_|refine wE ?_|refine wZ ?_)|simp [go_sem]))
 refine ACallP.plain hM (by simp [go_sem]) ?_
 (repeat (first|with_reducible (first|refine wL fun _=>?_|refine wD fun _=>?_|refine wE ?_|refine wZ ?_)|simp [go_sem]))
 refine ALoop.start (ALoop.ind (α := Nat) (fun i => ⟨[(5, .ref 2 0 5 0 0), (7, encPs l), (8, .v (.int .i64 i))], [(2, .rows true 0 5 [encPos q])], 3⟩)
  (fun d i => i + d = l.length ∧ ∀ j, j < i → nth l j ≠ q) ?_ l.length 0 ?_) ?_ ?_
 ·rintro d i ⟨i1, i2⟩ hrec
  (repeat (first|with_reducible (first|refine wL fun _=>?_|refine wD fun _=>?_|refine wE ?_|refine wZ ?_)|simp [go_sem]))
  refine aIf.mkL (fun hi => ?_) (fun hi => ?_) <;> simp at hi
  ·have hS := R4Same_pure (nth l i) q (hmf _ (nth_mem hi)) hq
   have hmi := nth_mem hi
   rw [show decide (cmpP (nth l i) q = 0) = decide (nth l i = q) by rw [decide_eq_decide]; exact cmp_pos.eq _ _] at hS
   (repeat (first|with_reducible (first|refine wL fun _=>?_|refine wD fun _=>?_|refine wE ?_|refine wZ ?_)|simp [go_sem, hi]))
   refine dCall.plain hS (by simp [go_sem]) ?_
   by_cases h : nth l i = q
   ·have e : decide (q ∈ l) = true := decide_eq_true (h ▸ hmi)
    rw [e]
    (repeat (first|with_reducible (first|refine wL fun _=>?_|refine wD fun _=>?_|refine wE ?_|refine wZ ?_)|simp [go_sem, h]))
   ·(repeat (first|with_reducible (first|refine wL fun _=>?_|refine wD fun _=>?_|refine wE ?_|refine wZ ?_)|simp [go_sem, h]))
    refine ALoop.start (hrec (d - 1) (by omega) (i + 1) ⟨by omega, fun j hj => ?_⟩) ?_ (by simp)
    ·rcases Nat.lt_or_ge j i with h' | h'
     ·exact i2 j h'
     ·obtain rfl : j = i := by omega
      exact h
    ·simp [go_sem, Wk_eq]
  ·have e : decide (q ∈ l) = false := decide_eq_false fun hm => by
    obtain ⟨j, hj, rfl⟩ := List.getElem_of_mem hm
    exact i2 j (by omega) (nth_eq _ _ hj)
   rw [e]
   (repeat (first|with_reducible (first|refine wL fun _=>?_|refine wD fun _=>?_|refine wE ?_|refine wZ ?_)|simp [go_sem]))
 ·exact ⟨by simp, fun j hj => by omega⟩
 ·simp [go_sem, Wk_eq]
 ·simp
theorem SameLists_pure (a b : List PosD) (ha : a.length ≤ 17179869184) (hb : b.length ≤ 17179869184) (hfa : ∀ p ∈ a, FitsP p) (hfb : ∀ p ∈ b, FitsP p) : Pure Tryz.prog 16 [encPs a, encPs b] (.v (.bool (decide (a = b)))) := by
 refine pF Tryz.func16 ?_
 (repeat (first|with_reducible (first|refine wL fun _=>?_|refine wD fun _=>?_|refine wE ?_|refine wZ ?_)|simp [go_sem]))
 refine aIf.mkL (fun hl => ?_) (fun hl => ?_) <;> simp at hl
 ·have e : decide (a = b) = false := decide_eq_false fun h => hl (by rw [h])
  rw [e]
  (repeat (first|with_reducible (first|refine wL fun _=>?_|refine wD fun _=>?_|refine wE ?_|refine wZ ?_)|simp [go_sem]))
 ·(repeat (first|with_reducible (first|refine wL fun _=>?_|refine wD fun _=>?_|refine wE ?_|refine wZ ?_)|simp [go_sem]))
  refine ALoop.start (ALoop.ind (α := Nat) (fun i => ⟨[(0, encPs a), (1, encPs b), (5, .v (.int .i64 i))], [], 0⟩)
   (fun d i => i + d = a.length ∧ ∀ j, j < i → nth a j = nth b j) ?_ a.length 0 ?_) ?_ ?_
  ·rintro d i ⟨i1, i2⟩ hrec
   (repeat (first|with_reducible (first|refine wL fun _=>?_|refine wD fun _=>?_|refine wE ?_|refine wZ ?_)|simp [go_sem]))
   refine aIf.mkL (fun hi => ?_) (fun hi => ?_) <;> simp at hi
   ·have hi' : i < b.length := by omega
    have hS := R4Same_pure (nth a i) (nth b i) (hfa _ (nth_mem hi)) (hfb _ (nth_mem hi'))
    rw [show decide (cmpP (nth a i) (nth b i) = 0) = decide (nth a i = nth b i) by rw [decide_eq_decide]; exact cmp_pos.eq _ _] at hS
    (repeat (first|with_reducible (first|refine wL fun _=>?_|refine wD fun _=>?_|refine wE ?_|refine wZ ?_)|simp [go_sem, hi, hi']))
    refine dCall.plain hS (by simp [go_sem]) ?_
    by_cases h : nth a i = nth b i
    ·(repeat (first|with_reducible (first|refine wL fun _=>?_|refine wD fun _=>?_|refine wE ?_|refine wZ ?_)|simp [go_sem, h]))
     refine ALoop.start (hrec (d - 1) (by omega) (i + 1) ⟨by omega, fun j hj => ?_⟩) ?_ (by simp)
     ·rcases Nat.lt_or_ge j i with h' | h'
      ·exact i2 j h'
      ·obtain rfl : j = i := by omega
       exact h
     ·simp [go_sem, Wk_eq]
    ·have e : decide (a = b) = false := decide_eq_false fun h' => h (by rw [h'])
     rw [e]
     (repeat (first|with_reducible (first|refine wL fun _=>?_|refine wD fun _=>?_|refine wE ?_|refine wZ ?_)|simp [go_sem, h]))
   ·have e : decide (a = b) = true := decide_eq_true (List.ext_getElem (by omega) fun j h1 h2 => by
     have := i2 j (by omega)
     rwa [nth_eq _ _ h1, nth_eq _ _ h2] at this)
    rw [e]
    (repeat (first|with_reducible (first|refine wL fun _=>?_|refine wD fun _=>?_|refine wE ?_|refine wZ ?_)|simp [go_sem]))
  ·exact ⟨by simp, fun j hj => by omega⟩
  ·simp [go_sem, Wk_eq]
  ·simp
end Go.Av
end
