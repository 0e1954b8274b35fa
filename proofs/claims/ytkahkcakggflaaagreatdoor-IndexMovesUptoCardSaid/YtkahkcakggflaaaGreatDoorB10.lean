/- Texts of ours, part 10: our library and contracts of functions. -/
import Derived.Test.YtkahkcakggflaaaGreatDoorB09
import Derived.Shelf.SlSortCmp.NoneTotal
import Derived.Test.YtkahkcakggflaaaGreatDoorProg
set_option linter.unusedSimpArgs false
set_option linter.unusedVariables false
set_option maxRecDepth 100000
set_option maxHeartbeats 40000000
section
/- Contracts, runs of the program: what Runs does with a state. -/
open Go Go.Proofs
namespace Go.Av
def lookP (side : Int) (x : Int × Int) (s : StD) (l : List OutD) : List OutD := if x.1 = 0 then l ++ (putS side s).toList else l
def lookH (p : PosD) (l : List OutD) : List (Nat × AObj) := [(0, .rows true 0 5 [encPos p]), (1, .rows true 0 1 [[.sl 2 l.length 6 0 l.length]]), (2, .rows true l.length 6 (l.map encOut))]
theorem look_owns (g : GameD) (hg : GOk g) (p : PosD) (hp : POk g p) (s : StD) (hs : StOk g s) (hsd : s.p.side = p.side) (x : Int × Int) (l : List OutD) (hl : l.length ≤ 100000000) :
  OwnsA Tryz.prog 120 [.agg (encState s), .agg (encStep x), .ref 0 0 5 0 0, .ref 1 0 1 0 0] (lookH p l) 3 (.tup []) (lookH p (lookP p.side x s l)) 3 := by
 unfold OwnsA lookH
 refine ACallP.of_awp (by kernel_rfl) Tryz.func120 rfl rfl (Nat.le_of_ble_eq_true rfl) (by kernel_rfl) ?_
 obtain ⟨hcur, h0, hm, _⟩ := man_at g s hg hs
 have hcp := own_owns s (hs.p.fits hg)
 have hC := gCode_pure s.kind p.side
 have hps := hp.s
 obtain ⟨op, xn⟩ := x
 (repeat (first|with_reducible refine wV fun _=>?_|simp [go_sem, hcur]))
 refine aIf.mkL (fun hc => ?_) (fun hc => ?_) <;> simp at hc
 ·have e : lookP p.side (op, xn) s l = l := by
   unfold lookP putS
   by_cases h : op = 0
   ·rw [if_pos h, if_neg (hc.resolve_left fun hn => hn h)]; simp
   ·rw [if_neg h]
  rw [e]
  (repeat (first|with_reducible refine wV fun _=>?_|simp [go_sem]))
  simp [go_sem, Wk_eq]
 ·have e : lookP p.side (op, xn) s l = l ++ [⟨{ s.p with at_ := s.p.at_.set s.cursor.toNat (codeOf s.kind p.side), side := 1 - p.side }, s.took⟩] := by
   unfold lookP putS
   rw [if_pos hc.1, if_pos hc.2]; rfl
  rw [e]
  generalize codeOf s.kind p.side = code at *
  (repeat (first|with_reducible refine wV fun _=>?_|simp [go_sem, hcur]))
  refine ACallP.ownsPlain hcp (by simp [go_sem]) ?_
  (repeat (first|with_reducible refine wV fun _=>?_|simp [go_sem, hcur]))
  refine dCall.plain hC (by simp [go_sem]) ?_
  (repeat (first|with_reducible refine wV fun _=>?_|simp [go_sem, hcur]))
  simp [go_sem, Wk_eq]
  (first|done|exact rwX)
theorem bel_map_out {n : Nat} (l : List OutD) : ∀ r ∈ l.map encOut, ∀ c ∈ r, Bel n c := by
 intro r hr c hc
 obtain ⟨x, _, rfl⟩ := List.mem_map.1 hr
 revert c
 simp [go_sem]
def lookUp (h : Heap) (a b c : Nat) (p : PosD) (l : List OutD) : Heap := upd (upd (upd h a (some (.rows true 0 5 [encPos p]))) b (some (.rows true 0 1 [[.sl c l.length 6 0 l.length]]))) c (some (.rows true l.length 6 (l.map encOut)))
theorem look_call (g : GameD) (hg : GOk g) (p : PosD) (hp : POk g p) (s : StD) (hs : StOk g s) (hsd : s.p.side = p.side) (x : Int × Int) (l : List OutD) (hl : l.length ≤ 100000000) {h : Heap} {n a b c : Nat}
  (hd : [a, b, c].Nodup) (hlt : ∀ j ∈ [a, b, c], j < n) (ha : h a = some (.rows true 0 5 [encPos p])) (hb : h b = some (.rows true 0 1 [[.sl c l.length 6 0 l.length]])) (hc : h c = some (.rows true l.length 6 (l.map encOut))) {K : CallK}
  (hK : K (.tup []) (lookUp h a b c p (lookP p.side x s l)) n) :
  ACallP Tryz.prog 120 [.agg (encState s), .agg (encStep x), .ref a 0 5 0 0, .ref b 0 1 0 0] h n K := by
 have hbs : ∀ m, Bel m (.agg (encState s)) := fun m => by simp [go_sem]
 have hbx : ∀ m, Bel m (.agg (encStep x)) := fun m => by simp [go_sem]
 have hbp : ∀ m, ∀ c ∈ encPos p, Bel m c := fun m => by simp [go_sem]
 refine ACallP.ownsA (args' := [.agg (encState s), .agg (encStep x), .ref a 0 5 0 0, .ref b 0 1 0 0])
  (HH := [(a, .rows true 0 5 [encPos p]), (b, .rows true 0 1 [[.sl c (lookP p.side x s l).length 6 0 (lookP p.side x s l).length]]), (c, .rows true (lookP p.side x s l).length 6 ((lookP p.side x s l).map encOut))])
  [a, b, c] h (look_owns g hg p hp s hs hsd x l hl) hd hlt rfl (Nat.le_refl _) (.refl _) ?_ ?_ (.refl _ _ _ _) ?_ ?_ ?_ (.same ?_) ?_ ?_
 ·intro j hj
  rcases (show j = 0 ∨ j = 1 ∨ j = 2 by omega) with rfl | rfl | rfl
  ·exact ⟨_, _, rfl, ha, .rows (.same (by intro r hr; simp only [List.mem_singleton] at hr; subst hr; exact hbp _))⟩
  ·exact ⟨_, _, rfl, hb, .rows (.cons (.cons (.sl rfl) .nil) .nil)⟩
  ·exact ⟨_, _, rfl, hc, .rows (.same (bel_map_out _))⟩
 ·intro q hq
  simp only [lookH, List.mem_cons, List.not_mem_nil, or_false] at hq
  rcases hq with rfl | rfl | rfl
  ·exact ⟨Nat.le_of_ble_eq_true rfl, by intro r hr; simp only [List.mem_singleton] at hr; subst hr; exact hbp _⟩
  ·exact ⟨Nat.le_of_ble_eq_true rfl, by simp [go_sem, BelO]⟩
  ·exact ⟨Nat.le_of_ble_eq_true rfl, bel_map_out _⟩
 ·intro y hy
  simp only [List.mem_cons, List.not_mem_nil, or_false] at hy
  rcases hy with rfl | rfl | rfl | rfl
  ·exact hbs _
  ·exact hbx _
  ·exact .ref (hlt a (by simp))
  ·exact .ref (hlt b (by simp))
 ·exact .cons (.same (hbs _)) (.cons (.same (hbx _)) (.cons (.ref rfl) (.cons (.ref rfl) .nil)))
 ·intro y hy
  simp only [List.mem_cons, List.not_mem_nil, or_false] at hy
  rcases hy with rfl | rfl | rfl | rfl
  ·exact hbs _
  ·exact hbx _
  ·exact .ref (by decide)
  ·exact .ref (by decide)
 ·exact .tup (by simp)
 ·exact .cons rfl (.rows (.same (by intro r hr; simp only [List.mem_singleton] at hr; subst hr; exact hbp _))) (.cons rfl (.rows (.cons (.cons (.sl rfl) .nil) .nil)) (.cons rfl (.rows (.same (bel_map_out _))) .nil))
 ·have e : over [(a, .rows true 0 5 [encPos p]), (b, .rows true 0 1 [[.sl c (lookP p.side x s l).length 6 0 (lookP p.side x s l).length]]), (c, .rows true (lookP p.side x s l).length 6 ((lookP p.side x s l).map encOut))] (remH [a, b, c] h) = lookUp h a b c p (lookP p.side x s l) := by
   simp only [List.nodup_cons, List.mem_cons, List.not_mem_nil, or_false, not_or, List.nodup_nil, and_true, not_false_eq_true] at hd
   obtain ⟨⟨d1, d2⟩, d3⟩ := hd
   funext j
   simp only [over, remH, lookUp, upd]
   by_cases j1 : j = a
   ·subst j1; simp [d1, d2]
   ·by_cases j2 : j = b
    ·subst j2; simp [d3, j1]
    ·by_cases j3 : j = c
     ·subst j3; simp [j1, j2]
     ·simp [j1, j2, j3]
  rw [e]
  exact hK
end Go.Av
end
section
/- States and their keys. -/
open Go Go.Proofs
namespace Go.Av
def keyL (s : StD) : List Int := [48 + s.kind, 32, 48 + s.cursor, 32] ++ ((if s.took then [116, 114, 117, 101] else [102, 97, 108, 115, 101]) ++ ([32] ++ allP s.p))
theorem keyS_toList (s : StD) : (keyS s).data.toList = (keyL s).map fun n => UInt8.ofNat n.toNat := by
 unfold keyS digit keyP keyL
 cases s.took <;> simp [ByteArray.data_append, strOf_toList]
theorem u8_inj {x y : Int} (hx : 0 ≤ x ∧ x ≤ 255) (hy : 0 ≤ y ∧ y ≤ 255) (h : UInt8.ofNat x.toNat = UInt8.ofNat y.toNat) : x = y := by
 have h1 := congrArg UInt8.toNat h
 rw [UInt8.toNat_ofNat', UInt8.toNat_ofNat'] at h1
 omega
theorem map_u8_inj : ∀ {l l' : List Int}, (∀ x ∈ l, 0 ≤ x ∧ x ≤ 255) → (∀ x ∈ l', 0 ≤ x ∧ x ≤ 255) → (l.map fun n => UInt8.ofNat n.toNat) = (l'.map fun n => UInt8.ofNat n.toNat) → l = l'
 | [], [], _, _, _ => rfl
 | [], _ :: _, _, _, h => by simp at h
 | _ :: _, [], _, _, h => by simp at h
 | x :: l, y :: l', h1, h2, h => by
  simp only [List.map_cons, List.cons.injEq] at h
  rw [u8_inj (h1 x (by simp)) (h2 y (by simp)) h.1, map_u8_inj (fun z hz => h1 z (by simp [hz])) (fun z hz => h2 z (by simp [hz])) h.2]
theorem allP_ok {g : GameD} (hg : GOk g) {p : PosD} (hp : POk g p) : ∀ x ∈ allP p, 0 ≤ x ∧ x ≤ 255 := by
 have k6 := hg.k6
 have r0 := hp.r0
 have r1 := hp.r1
 have hr : (2 : Int) ^ g.rights.toNat ≤ 16 := by
  have h1 := hg.r0
  have h2 := hg.r4
  rcases (show g.rights = 0 ∨ g.rights = 1 ∨ g.rights = 2 ∨ g.rights = 3 ∨ g.rights = 4 by omega) with h | h | h | h | h <;> rw [h] <;> decide
 have hh : ∀ l, HandOk g l → ∀ x ∈ l, 0 ≤ x ∧ x ≤ 255 := by
  intro l hl x hx
  obtain ⟨i, hi, rfl⟩ := List.mem_iff_getElem.1 hx
  have := hl.v i hi
  rw [nth_eq _ _ hi] at this
  omega
 intro x hx
 simp only [allP, List.mem_append, List.mem_cons, List.not_mem_nil, or_false] at hx
 rcases hx with ((hx | hx) | hx) | hx | hx
 ·have := hp.av x hx; omega
 ·exact hh _ hp.h0 x hx
 ·exact hh _ hp.h1 x hx
 ·omega
 ·have := hp.s; omega
theorem keyS_inj {g : GameD} (hg : GOk g) {a b : StD} (ha : StOk g a) (hb : StOk g b) (h : keyS a = keyS b) : a = b := by
 have k6 := hg.k6
 have c9 := hg.c9
 have hv : ∀ s, StOk g s → ∀ x ∈ keyL s, 0 ≤ x ∧ x ≤ 255 := by
  intro s hs x hx
  have hk := hs.k
  have h0 := hs.c0
  have h1 := hs.c1
  unfold keyL at hx
  rcases List.mem_append.1 hx with hx | hx
  ·simp at hx; omega
  rcases List.mem_append.1 hx with hx | hx
  ·by_cases ht : s.took = true <;> simp [ht] at hx <;> omega
  rcases List.mem_append.1 hx with hx | hx
  ·simp at hx; omega
  ·exact allP_ok hg hs.p x hx
 have h1 : keyL a = keyL b := map_u8_inj (hv a ha) (hv b hb) (by rw [← keyS_toList, ← keyS_toList, h])
 obtain ⟨pa, ka, ca, ta⟩ := a
 obtain ⟨pb, kb, cb, tb⟩ := b
 unfold keyL at h1
 simp only [List.cons_append, List.nil_append, List.cons.injEq, true_and] at h1
 obtain ⟨e1, e2, h1⟩ := h1
 obtain rfl : ka = kb := by omega
 obtain rfl : ca = cb := by omega
 have h2 : ta = tb ∧ allP pa = allP pb := by
  cases ta <;> cases tb <;> simp at h1 ⊢
  ·exact h1
  ·exact h1
 obtain ⟨rfl, h2⟩ := h2
 have a1 := ha.p.al
 have b1 := hb.p.al
 have a2 := ha.p.h0.len
 have b2 := hb.p.h0.len
 have a3 := ha.p.h1.len
 have b3 := hb.p.h1.len
 obtain ⟨pat, ph0, ph1, pr, ps⟩ := pa
 obtain ⟨qat, qh0, qh1, qr, qs⟩ := pb
 simp only [allP, List.append_assoc] at h2 a1 b1 a2 b2 a3 b3
 obtain ⟨e3, h3⟩ := List.append_inj h2 (by omega)
 obtain ⟨e4, h4⟩ := List.append_inj h3 (by omega)
 obtain ⟨e5, h5⟩ := List.append_inj h4 (by omega)
 simp only [List.cons.injEq, and_true] at h5
 rw [e3, e4, e5, h5.1, h5.2]
def keyRow (s : StD) : List AV := [.v (.string (keyS s)), .v (.bool true)]
theorem bel_keys {n : Nat} {l : List StD} : (∀ r ∈ l.map keyRow, ∀ c ∈ r, Bel n c) = True := by
 refine eq_true ?_
 intro r hr c hc
 obtain ⟨x, _, rfl⟩ := List.mem_map.1 hr
 simp only [keyRow, List.mem_cons, List.not_mem_nil, or_false] at hc
 rcases hc with rfl | rfl <;> exact .v _
attribute [go_sem ↓] bel_keys
theorem find_keys (t : StD) : ∀ (next : List StD), (∀ s ∈ next, keyS t = keyS s → t = s) → mapFind .string (.v (.string (keyS t))) (next.map keyRow) = some (if t ∈ next then some (.v (.bool true)) else none)
 | [], _ => by simp [mapFind]
 | s :: next, h => by
  rw [List.map_cons, mapFind]
  have e : keyEq .string (.v (.string (keyS t))) (cel (keyRow s) 0) = some (keyS t == keyS s) := rfl
  rw [e, bytes_beq]
  by_cases hk : keyS t = keyS s
  ·have := h s (by simp) hk
   subst this
   simp [keyRow, cel]
  ·have hne : t ≠ s := fun e => hk (by rw [e])
   rw [decide_eq_false hk]
   simp only
   rw [find_keys t next (fun u hu => h u (by simp [hu]))]
   simp [hne]
theorem put_keys (t : StD) : ∀ (next : List StD), (∀ s ∈ next, keyS t = keyS s → t = s) → t ∉ next → mapPut .string (.v (.string (keyS t))) (.v (.bool true)) (next.map keyRow) = some ((next ++ [t]).map keyRow)
 | [], _, _ => by simp [mapPut, keyRow]
 | s :: next, h, hn => by
  rw [List.map_cons, mapPut]
  have e : keyEq .string (.v (.string (keyS t))) (cel (keyRow s) 0) = some (keyS t == keyS s) := rfl
  rw [e, bytes_beq]
  have hk : keyS t ≠ keyS s := fun e => hn (by rw [h s (by simp) e]; simp)
  rw [decide_eq_false hk]
  simp only
  rw [put_keys t next (fun u hu => h u (by simp [hu])) (fun hm => hn (by simp [hm]))]
  simp
end Go.Av
end
section
/- Contracts, runs of the program: run. -/
open Go Go.Proofs
namespace Go.Av
def lastO (g : GameD) (p : PosD) (cell i : Int) : List OutD := (lastS g p cell (progOf g p cell i)).filterMap (putS p.side)
theorem run_owns (g : GameD) (hg : GOk g) (p : PosD) (hp : POk g p) (cell i : Int) (hc : ChoiceOk g p cell i) :
  OwnsA Tryz.prog 119 [.agg (encGame g), .agg (encPos p), .v (.int .i64 cell), .v (.int .i64 i), .fn (.func 120) [] [.ref 0 0 5 0 0, .ref 1 0 1 0 0]]
   [(0, .rows true 0 5 [encPos p]), (1, .rows true 0 1 [[AV.nils]])] 2 (.v (.int .i64 0))
   [(0, .rows true 0 5 [encPos p]), (1, .rows true 0 1 [[.sl 247 (lastO g p cell i).length 6 0 (lastO g p cell i).length]]), (247, .rows true (lastO g p cell i).length 6 ((lastO g p cell i).map encOut))] 248 := by
 unfold OwnsA
 refine ACallP.of_awp (by kernel_rfl) Tryz.func119 rfl rfl (Nat.le_of_ble_eq_true rfl) (by kernel_rfl) ?_
 have hal := hp.al
 obtain ⟨c0, c1, cm, cs, i0, i1⟩ := hc
 have hcur : cell.toNat < p.at_.length := by omega
 have hat := hp.at (i := cell.toNat) (by omega)
 have hO := gMan_pure (nth p.at_ cell.toNat)
 have hman := manOf_cases hat.1 hat.2 hg.k6
 have hV := Valid_pure g (by have := hg.k6; unfold FitsG; omega) ⟨hg.r0, by have := hg.r4; omega⟩ p (hp.fits hg)
 rw [pOk_iff.2 hp] at hV
 have hkl : (manOf (nth p.at_ cell.toNat)).1.toNat < g.kinds.length := by
  rcases hman with ⟨_, e⟩ | ⟨_, a, b, _⟩
  ·rw [e] at cm; simp at cm
  ·omega
 have hil : i.toNat < (nth g.kinds (manOf (nth p.at_ cell.toNat)).1.toNat).progs.length := by omega
 have hpg := hg.pr _ (nth_mem hkl) _ (nth_mem hil)
 have hst := fun n hn => stageS_ok hg hp c0 c1 cm (prog := progOf g p cell i) hpg.st n hn
 have hz := stageS_zero g p cell (progOf g p cell i)
 have hsu := fun n hn => stageS_succ g p cell (progOf g p cell i) (n := n) hn
 have hla := stageS_last g p cell (progOf g p cell i)
 have hp8 := hpg.len
 have hpst := hpg.st
 have hpe : progOf g p cell i = nth (nth g.kinds (manOf (nth p.at_ cell.toNat)).1.toNat).progs i.toNat := rfl
 rw [← hpe] at hp8 hpst
 have hlo : lastO g p cell i = (lastS g p cell (progOf g p cell i)).filterMap (putS p.side) := rfl
 rw [hlo]
 obtain ⟨prog, hprog⟩ : ∃ q, q = progOf g p cell i := ⟨_, rfl⟩
 rw [← hprog] at hst hz hsu hp8 hpst hpe hla ⊢
 have hcp := own_owns ⟨p, (manOf (nth p.at_ cell.toNat)).1, cell, false⟩ (hp.fits hg)
 generalize hm : manOf (nth p.at_ cell.toNat) = m at *
 obtain ⟨mk, ms⟩ := m
 simp only at cm cs i1 hkl hil hpe hcp
 (repeat (first|with_reducible refine wV fun _=>?_|simp [go_sem]))
 refine ACallP.plain hV (by simp [go_sem]) ?_
 (repeat (first|with_reducible refine wV fun _=>?_|simp [go_sem, hcur]))
 (refine aIf.mkL (fun hF => by first | omega | (simp at hF; omega)) (fun hF => ?_); clear hF)
 (repeat (first|with_reducible refine wV fun _=>?_|simp [go_sem, hcur]))
 refine ACallP.plain hO (by simp [go_sem]) ?_
 (repeat (first|with_reducible refine wV fun _=>?_|simp [go_sem, hkl, hil, cs]))
 (refine aIf.mkL (fun hF => by first | omega | (simp at hF; omega)) (fun hF => ?_); clear hF)
 (repeat (first|with_reducible refine wV fun _=>?_|simp [go_sem]))
 refine ACallP.ownsPlain hcp (by simp [go_sem]) ?_
 (repeat (first|with_reducible refine wV fun _=>?_|simp [go_sem, hcur, hkl, hil]))
 rw [← hpe]
 have hsz : ∀ n, n ≤ prog.length → (stageS g p cell prog n).length ≤ 100000000 := fun n hn => Nat.le_trans (hst n hn).2 (pow10_le (by omega))
 have hst0 : encSs (stageS g p cell prog 0) = .lst 8 [[.lst 1 ((p.at_.map encI).set cell.toNat [.v (.int .i64 0)]), encIs p.h0, encIs p.h1, .v (.int .i64 p.rights), .v (.int .i64 p.side), .v (.int .i64 mk), .v (.int .i64 cell), .v (.bool false)]] := by
  rw [hz]; simp [encSs, startS, encState, clr, hm, encIs, encI, List.map_set]
 refine ALoop.start (ALoop.ind (α := Nat) (fun k => ⟨[(4, .fn (.func 120) [] [.ref 0 0 5 0 0, .ref 1 0 1 0 0]), (5, .ref 2 0 9 0 0), (14, encSs (stageS g p cell prog k)), (87, encProg prog), (88, .v (.int .i64 prog.length)), (89, .v (.int .i64 k))],
   [(0, .rows true 0 5 [encPos p]), (1, .rows true 0 1 [[.sl 247 0 6 0 0]]), (2, .rows true 0 9 [encGame g]), (247, .rows true 0 6 [])], 248⟩)
  (fun d k => k + d = prog.length) ?_ prog.length 0 ?_) ?_ ?_
 ·rintro d k k1 hrec
  (repeat (first|with_reducible refine wV fun _=>?_|simp [go_sem]))
  refine aIf.mkL (fun hk => ?_) (fun hk => ?_) <;> simp at hk
  ·have hkk := hst k (by omega)
   have hks := hsz k (by omega)
   have hks' := hsz (k + 1) (by omega)
   have hsk := hsu k hk
   have hxs := hpst _ (nth_mem hk)
   have hpo := fun n hn => partS_ok hg hxs hkk.1 n hn
   have hpa := partS_all g (stageS g p cell prog k) (nth prog k)
   have hpz := partS_zero g (stageS g p cell prog k) (nth prog k)
   have hps := fun n hn => partS_succ g (stageS g p cell prog k) (nth prog k) (n := n) hn
   rw [← hsk] at hpa
   obtain ⟨now, hnow⟩ : ∃ now, now = stageS g p cell prog k := ⟨_, rfl⟩
   rw [← hnow] at hkk hks hpo hpa hpz hps ⊢
   obtain ⟨x, hx⟩ : ∃ x, x = nth prog k := ⟨_, rfl⟩
   rw [← hx] at hxs hpo hpa hpz hps
   (repeat (first|with_reducible refine wV fun _=>?_|simp [go_sem, hk, ← hx]))
   refine ALoop.start (ALoop.ind (α := Nat) (fun n => ⟨[(4, .fn (.func 120) [] [.ref 0 0 5 0 0, .ref 1 0 1 0 0]), (5, .ref 2 0 9 0 0), (16, .ref 248 0 2 0 0), (17, .sl 250 (partS g now x n).length 8 0 (partS g now x n).length), (18, .mp 249), (87, encProg prog), (88, .v (.int .i64 prog.length)), (89, .v (.int .i64 k)), (94, encSs now), (95, .v (.int .i64 now.length)), (96, .v (.int .i64 n))],
     [(0, .rows true 0 5 [encPos p]), (1, .rows true 0 1 [[.sl 247 0 6 0 0]]), (2, .rows true 0 9 [encGame g]), (247, .rows true 0 6 []), (248, .rows true 0 2 [encStep x]), (249, .rows true 0 2 ((partS g now x n).map keyRow)), (250, .rows true (partS g now x n).length 8 ((partS g now x n).map encState))], 251⟩)
    (fun d n => n + d = now.length) ?_ now.length 0 ?_) ?_ ?_
   ·rintro d2 n n1 hrec2
    (repeat (first|with_reducible refine wV fun _=>?_|simp [go_sem]))
    refine aIf.mkL (fun hn => ?_) (fun hn => ?_) <;> simp at hn
    ·have hsn := hkk.1 _ (nth_mem hn)
     have hpn := hps n hn
     have hpoN := hpo n (by omega)
     have hpoS := hpo (n + 1) (by omega)
     have hSt := step_pure g hg (nth now n) hsn.1 x hxs
     have hsl := stepS_len hg (nth now n) x
     have hso := stepS_ok hg hsn.1 hxs
     have hlk : lookP p.side x (nth now n) [] = [] := by unfold lookP; rw [if_neg (by have := hxs.1; omega)]
     obtain ⟨s, hs⟩ : ∃ s, s = nth now n := ⟨_, rfl⟩
     rw [← hs] at hsn hpn hSt hsl hso hlk
     obtain ⟨more, hmore⟩ : ∃ more, more = stepS g s x := ⟨_, rfl⟩
     rw [← hmore] at hpn hSt hsl hso
     have hat := fun j hj => addS_take (partS g now x n) more (i := j) hj
     have hal' := fun j => addS_len (more.take j) (partS g now x n)
     have haok : ∀ j, ∀ u ∈ addS (partS g now x n) (more.take j), StOk g u := fun j => addS_all (fun u hu => (hpoN.1 u hu).1) (fun u hu => (hso u (List.mem_of_mem_take hu)).1)
     have haz : addS (partS g now x n) (more.take 0) = partS g now x n := by simp [addS_nil]
     have haa : addS (partS g now x n) (more.take more.length) = partS g now x (n + 1) := by rw [List.take_length, hpn]
     obtain ⟨nx, hnx⟩ : ∃ nx : Nat → List StD, nx = fun j => addS (partS g now x n) (more.take j) := ⟨_, rfl⟩
     have hnx' : ∀ j, addS (partS g now x n) (more.take j) = nx j := fun j => by rw [hnx]
     simp only [hnx'] at hat hal' haok haz haa
     clear hnx hnx'
     (repeat (first|with_reducible refine wV fun _=>?_|simp [go_sem, hn, ← hs]))
     refine look_call g hg p hp s hsn.1 hsn.2 x [] (by simp) (a := 0) (b := 1) (c := 247) (by decide) (by simp) (by simp [upd, encPos, encIs]) (by simp [upd]) (by simp [upd]) ?_
     rw [hlk]
     simp only [lookUp]
     (repeat (first|with_reducible refine wV fun _=>?_|simp [go_sem]))
     refine ACallP.plain hSt (by simp [go_sem]) ?_
     (repeat (first|with_reducible refine wV fun _=>?_|simp [go_sem]))
     refine ALoop.start (ALoop.ind (α := Nat) (fun j => ⟨[(4, .fn (.func 120) [] [.ref 0 0 5 0 0, .ref 1 0 1 0 0]), (5, .ref 2 0 9 0 0), (16, .ref 248 0 2 0 0), (17, .sl 250 (nx j).length 8 0 (nx j).length), (18, .mp 249), (87, encProg prog), (88, .v (.int .i64 prog.length)), (89, .v (.int .i64 k)), (94, encSs now), (95, .v (.int .i64 now.length)), (96, .v (.int .i64 n)), (107, encSs more), (108, .v (.int .i64 more.length)), (109, .v (.int .i64 j))],
       [(0, .rows true 0 5 [encPos p]), (1, .rows true 0 1 [[.sl 247 0 6 0 0]]), (2, .rows true 0 9 [encGame g]), (247, .rows true 0 6 []), (248, .rows true 0 2 [encStep x]), (249, .rows true 0 2 ((nx j).map keyRow)), (250, .rows true (nx j).length 8 ((nx j).map encState))], 252⟩)
      (fun d j => j + d = more.length) ?_ more.length 0 ?_) ?_ ?_
     ·rintro d3 j j1 hrec3
      (repeat (first|with_reducible refine wV fun _=>?_|simp [go_sem]))
      refine aIf.mkL (fun hj => ?_) (fun hj => ?_) <;> simp at hj
      ·have htj := (hso _ (nth_mem hj)).1
       have hatj := hat j hj
       have halj := hal' j
       have hmj : (more.take j).length ≤ 10 := by rw [List.length_take]; omega
       obtain ⟨t, ht⟩ : ∃ t, t = nth more j := ⟨_, rfl⟩
       rw [← ht] at htj hatj
       have hk6 := hg.k6
       have hc9 := hg.c9
       have hta := htj.p.al
       have ht0 := htj.p.h0.len
       have ht1 := htj.p.h1.len
       have htk := htj.k
       have htc0 := htj.c0
       have htc1 := htj.c1
       have hKey := key_pure t (by omega) (by omega) (by omega) (by omega) (by omega) (allP_ok hg htj.p)
       have hin : ∀ u ∈ nx j, keyS t = keyS u → t = u := fun u hu e => keyS_inj hg htj (haok j u hu) e
       have hfind := find_keys t (nx j) hin
       have hput := put_keys t (nx j) hin
       (repeat (first|with_reducible refine wV fun _=>?_|simp [go_sem, hj, ← ht]))
       refine ACallP.plain hKey (by simp [go_sem]) ?_
       by_cases hmem : t ∈ nx j
       ·rw [if_pos hmem] at hatj hfind
        (repeat (first|with_reducible refine wV fun _=>?_|simp [go_sem, hfind]))
        refine ALoop.start (hrec3 (d3 - 1) (by omega) (j + 1) (by omega)) ?_ (by simp)
        simp [go_sem, Wk_eq, hatj]
       ·rw [if_neg hmem] at hatj hfind
        have hput := hput hmem
        (repeat (first|with_reducible refine wV fun _=>?_|simp [go_sem, hfind, hput]))
        refine ALoop.start (hrec3 (d3 - 1) (by omega) (j + 1) (by omega)) ?_ (by simp)
        simp [go_sem, Wk_eq, hatj]
        intro c hc
        simp only [keyRow, List.mem_cons, List.not_mem_nil, or_false] at hc
        rcases hc with rfl | rfl <;> exact .v _
      ·have hnl : j = more.length := by omega
       subst hnl
       rw [haa]
       (repeat (first|with_reducible refine wV fun _=>?_|simp [go_sem]))
       refine ALoop.start (hrec2 (d2 - 1) (by omega) (n + 1) (by omega)) ?_ (by simp)
       simp [go_sem, Wk_eq]
     ·omega
     ·simp [go_sem, Wk_eq, haz]
     ·simp
    ·have hnl : n = now.length := by omega
     subst hnl
     rw [hpa]
     (repeat (first|with_reducible refine wV fun _=>?_|simp [go_sem]))
     refine ALoop.start (hrec (d - 1) (by omega) (k + 1) (by omega)) ?_ (by simp)
     simp [go_sem, Wk_eq]
     exact frX
   ·omega
   ·simp [go_sem, Wk_eq, hpz]
   ·simp
  ·have hkl' : k = prog.length := by omega
   subst hkl'
   rw [hla]
   have hl8 := hsz prog.length (Nat.le_refl _)
   have hlok := (hst prog.length (Nat.le_refl _)).1
   rw [hla] at hl8 hlok
   generalize lastS g p cell prog = last at *
   (repeat (first|with_reducible refine wV fun _=>?_|simp [go_sem]))
   refine ALoop.start (ALoop.ind (α := Nat) (fun j => ⟨[(4, .fn (.func 120) [] [.ref 0 0 5 0 0, .ref 1 0 1 0 0]), (129, encSs last), (130, .v (.int .i64 last.length)), (131, .v (.int .i64 j))],
     [(0, .rows true 0 5 [encPos p]), (1, .rows true 0 1 [[.sl 247 ((last.take j).filterMap (putS p.side)).length 6 0 ((last.take j).filterMap (putS p.side)).length]]), (247, .rows true ((last.take j).filterMap (putS p.side)).length 6 (((last.take j).filterMap (putS p.side)).map encOut))], 248⟩)
    (fun d j => j + d = last.length) ?_ last.length 0 ?_) ?_ ?_
   ·rintro d4 j j1 hrec4
    (repeat (first|with_reducible refine wV fun _=>?_|simp [go_sem]))
    refine aIf.mkL (fun hj => ?_) (fun hj => ?_) <;> simp at hj
    ·have hsj := hlok _ (nth_mem hj)
     have hol : ((last.take j).filterMap (putS p.side)).length ≤ 100000000 := Nat.le_trans (List.length_filterMap_le _ _) (by rw [List.length_take]; omega)
     have hse : (last.take (j + 1)).filterMap (putS p.side) = lookP p.side (0, 0) (nth last j) ((last.take j).filterMap (putS p.side)) := by
      rw [List.take_add_one, List.getElem?_eq_getElem hj, nth_eq _ _ hj, List.filterMap_append]
      simp only [Option.toList_some, List.filterMap_cons, List.filterMap_nil, lookP, if_true]
      cases putS p.side last[j] <;> rfl
     obtain ⟨out, hout⟩ : ∃ out, out = (last.take j).filterMap (putS p.side) := ⟨_, rfl⟩
     rw [← hout] at hol hse ⊢
     obtain ⟨t, ht⟩ : ∃ t, t = nth last j := ⟨_, rfl⟩
     rw [← ht] at hsj hse
     (repeat (first|with_reducible refine wV fun _=>?_|simp [go_sem, hj, ← ht]))
     refine look_call g hg p hp t hsj.1 hsj.2 (0, 0) out hol (a := 0) (b := 1) (c := 247) (by decide) (by simp) (by simp [upd, encPos, encIs]) (by simp [upd]) (by simp [upd]) ?_
     rw [← hse]
     simp only [lookUp]
     (repeat (first|with_reducible refine wV fun _=>?_|simp [go_sem]))
     refine ALoop.start (hrec4 (d4 - 1) (by omega) (j + 1) (by omega)) ?_ (by simp)
     simp [go_sem, Wk_eq]
    ·have hnl : j = last.length := by omega
     subst hnl
     rw [List.take_length]
     (repeat (first|with_reducible refine wV fun _=>?_|simp [go_sem]))
     simp [go_sem, Wk_eq]
   ·omega
   ·simp [go_sem, Wk_eq]
   ·simp
 ·omega
 ·simp [go_sem, Wk_eq]
  rw [show AV.lst 8 (List.map encState (stageS g p cell prog 0)) = _ from hst0]
  (first|done|exact dpX)
 ·simp
end Go.Av
end
section
/- Contracts, runs of the program: order, and the equality of outcomes and of positions. -/
open Go Go.Proofs
namespace Go.Av
theorem cmpO_orR (a b : OutD) : orI [cmpP a.pos b.pos, number (if a.took then 1 else 0) (if b.took then 1 else 0)] = cmpO a b := by
 unfold cmpO lexI
 simp only [orI]
 repeat' split
 all_goals first | rfl | omega
theorem rOrder_pure (a b : OutD) (ha : FitsP a.pos) (hb : FitsP b.pos) : Pure Tryz.prog 124 [.agg (encOut a), .agg (encOut b)] (.v (.int .i64 (cmpO a b))) := by
 refine pF Tryz.func124 ?_
 rw [← cmpO_orR]
 have c1 := pCompare_pure _ _ ha hb
 obtain ⟨pa, ta⟩ := a
 obtain ⟨pb, tb⟩ := b
 have c4 := cCompare_pure (if ta then 1 else 0) (if tb then 1 else 0)
 simp only at c1 c4 ⊢
 generalize hx1 : cmpP pa pb = x1 at *
 generalize hx2 : number (if ta then 1 else 0) (if tb then 1 else 0) = x2 at *
 cases ta <;> cases tb <;> simp only [if_true, Bool.false_eq_true, if_false] at c4 <;>
 ·(repeat (first|with_reducible refine wV fun _=>?_|simp [go_sem]))
  refine dCall.plain c1 (by simp [go_sem]) ?_
  (repeat (first|with_reducible refine wV fun _=>?_|simp [go_sem]))
  refine dCall.plain c4 (by simp [go_sem]) ?_
  (repeat (first|with_reducible refine wV fun _=>?_|simp [go_sem]))
  refine dCall.frz [encIs [x1, x2]] _ [17] [(17, some (.rows false 0 1 ([x1, x2].map encI)))] (cOr_pure _ (by unfold Fits; simp)) ?_ ?_ (by simp [go_sem]) ?_
  ·intro p hp
   simp only [List.mem_singleton] at hp
   subst hp
   exact ⟨by simp, 0, 1, _, rfl, by simp [upd, go_sem]⟩
  ·intro h₁ hS
   have h7 := hS 17 (by simp)
   simp [go_sem] at h7
   exact .cons (leV_frz h7.symm (by simp) (by simp [applyW, upd]) (by simp [go_sem])) .nil
  ·(repeat (first|with_reducible refine wV fun _=>?_|simp [go_sem]))
theorem runs2_pure (a b : OutD) (ha : FitsP a.pos) (hb : FitsP b.pos) : Pure Tryz.prog 126 [.agg (encOut a), .agg (encOut b)] (.v (.bool (decide (a = b)))) := by
 refine pF Tryz.func126 ?_
 have c1 := rOrder_pure a b ha hb
 have e : decide (a = b) = decide (cmpO a b = 0) := by rw [decide_eq_decide]; exact (cmp_out.eq a b).symm
 rw [e]
 generalize cmpO a b = x at *
 (repeat (first|with_reducible refine wV fun _=>?_|simp [go_sem]))
 refine ACallP.plain c1 (by simp [go_sem]) ?_
 (repeat (first|with_reducible refine wV fun _=>?_|simp [go_sem]))
theorem psort1_pure (a b : PosD) (ha : FitsP a) (hb : FitsP b) : Pure Tryz.prog 142 [.agg (encPos a), .agg (encPos b)] (.v (.bool (decide (a = b)))) := by
 refine pF Tryz.func142 ?_
 have c1 := pCompare_pure a b ha hb
 have e : decide (a = b) = decide (cmpP a b = 0) := by rw [decide_eq_decide]; exact (cmp_pos.eq a b).symm
 rw [e]
 generalize cmpP a b = x at *
 (repeat (first|with_reducible refine wV fun _=>?_|simp [go_sem]))
 refine ACallP.plain c1 (by simp [go_sem]) ?_
 (repeat (first|with_reducible refine wV fun _=>?_|simp [go_sem]))
end Go.Av
end
section
/- Plain: what is made is valid. -/
open Go Go.Proofs
namespace Go.Av
structure LibOk (p : List (Int × Int)) : Prop where
 len : p.length ≤ 6
 st : ∀ x ∈ p, 1 ≤ x.1 ∧ x.1 ≤ 10 ∧ 0 ≤ x.2 ∧ (x.1 = 3 ∨ x.1 = 4 ∨ x.1 = 5 ∨ x.1 = 6 → x.2 = 0)
 take : countOp p 6 ≤ 2
 push : countOp p 7 ≤ 1
 become : countOp p 8 ≤ 1
theorem libL_ok {d e k r : Int} (hd : 0 ≤ d) (he : 0 ≤ e) (hk : 0 ≤ k) (hr : 0 ≤ r) (i : Nat) : LibOk (nth (libL d e k r) i) := by
 have h4 := Int.tmod_nonneg 8 (show 0 ≤ d + 4 by omega)
 rcases Nat.lt_or_ge i 16 with h | h
 ·have : ∀ p ∈ libL d e k r, LibOk p := by
   intro p hp
   simp only [libL, List.mem_cons, List.not_mem_nil, or_false] at hp
   rcases hp with rfl | rfl | rfl | rfl | rfl | rfl | rfl | rfl | rfl | rfl | rfl | rfl | rfl | rfl | rfl | rfl <;>
    exact ⟨by simp, by simp <;> omega, by simp [countOp], by simp [countOp], by simp [countOp]⟩
  exact this _ (nth_mem h)
 ·have e : nth (libL d e k r) i = [] := by
   unfold nth
   rw [List.getD_eq_getElem?_getD, List.getElem?_eq_none (by exact h)]; rfl
  rw [e]
  exact ⟨by simp, by simp, by simp [countOp], by simp [countOp], by simp [countOp]⟩
theorem fitStep_op {dirs kinds rights : Int} {x y : Int × Int} (h : fitStep dirs kinds rights x = some y) : y.1 = x.1 := by
 unfold fitStep at h
 split at h
 ·simp only [Option.some.injEq] at h; rw [← h]
 ·split at h
  ·simp only [Option.some.injEq] at h; rw [← h]
  ·split at h
   ·split at h
    ·cases h
    ·simp only [Option.some.injEq] at h; rw [← h]
   ·simp only [Option.some.injEq] at h; rw [← h]
theorem fit_count {dirs kinds rights : Int} (op : Int) : ∀ p : List (Int × Int), countOp (p.filterMap (fitStep dirs kinds rights)) op ≤ countOp p op
 | [] => by simp [countOp]
 | x :: p => by
  have ih := fit_count (dirs := dirs) (kinds := kinds) (rights := rights) op p
  unfold countOp at *
  rw [List.filterMap_cons]
  cases hf : fitStep dirs kinds rights x with
  | none => simp only [List.countP_cons]; omega
  | some y =>
   have := fitStep_op hf
   simp only [List.countP_cons, this]
   omega
theorem fitP_ok {dirs kinds rights : Int} (hd : 1 ≤ dirs) (hk : 1 ≤ kinds) (hr : 0 ≤ rights) {p : List (Int × Int)} (hp : LibOk p) : ProgOk dirs kinds rights (fitP dirs kinds rights p) := by
 have h0 : ProgOk dirs kinds rights [(3, 0)] := by
  refine ⟨by simp, by simp, fun x hx => ?_, by simp [countOp], by simp [countOp], by simp [countOp]⟩
  simp only [List.mem_singleton] at hx
  subst hx
  exact ⟨by simp, by simp, by simp, by simp, by simp⟩
 unfold fitP
 split
 ·exact h0
 ·rename_i hne
  have hl : (p.filterMap (fitStep dirs kinds rights)).length ≤ p.length := List.length_filterMap_le _ _
  have hpos := List.length_pos_iff.2 hne
  refine ⟨by omega, by have := hp.len; omega, fun y hy => ?_, Nat.le_trans (fit_count 6 p) hp.take, Nat.le_trans (fit_count 7 p) hp.push, Nat.le_trans (fit_count 8 p) hp.become⟩
  obtain ⟨x, hx, hf⟩ := List.mem_filterMap.1 hy
  obtain ⟨a, b, c, d⟩ := hp.st x hx
  have m1 := Int.tmod_nonneg dirs c
  have m2 := Int.tmod_lt_of_pos x.2 (show 0 < dirs by omega)
  have m3 := Int.tmod_nonneg kinds c
  have m4 := Int.tmod_lt_of_pos x.2 (show 0 < kinds by omega)
  have m5 := Int.tmod_nonneg rights c
  unfold fitStep at hf
  split at hf
  ·simp only [Option.some.injEq] at hf; subst hf
   exact ⟨by simp only; omega, by simp only; omega, by simp only; omega, by simp only; omega, by simp only; omega⟩
  ·split at hf
   ·simp only [Option.some.injEq] at hf; subst hf
    exact ⟨by simp only; omega, by simp only; omega, by simp only; omega, by simp only; omega, by simp only; omega⟩
   ·split at hf
    ·split at hf
     ·cases hf
     ·rename_i hr0
      have m6 := Int.tmod_lt_of_pos x.2 (show 0 < rights by omega)
      simp only [Option.some.injEq] at hf; subst hf
      exact ⟨by simp only; omega, by simp only; omega, by simp only; omega, by simp only; omega, by simp only; omega⟩
    ·simp only [Option.some.injEq] at hf; subst hf
     exact ⟨by omega, by omega, by omega, by omega, by omega⟩
theorem madeP_ok {n dirs kinds rights : Int} (hn : U8 n) (hd : 1 ≤ dirs) (hk : 1 ≤ kinds) (hr : 0 ≤ rights) : ProgOk dirs kinds rights (madeP n dirs kinds rights) := by
 obtain ⟨n0, n1⟩ := hn
 have q0 : 0 ≤ n.tdiv 16 := by rw [Int.tdiv_eq_ediv_of_nonneg n0]; omega
 have q1 : 0 ≤ n.tdiv 3 := by rw [Int.tdiv_eq_ediv_of_nonneg n0]; omega
 have q2 := Int.tmod_nonneg 5 n0
 exact fitP_ok hd hk hr (libL_ok (Int.tmod_nonneg _ q0) (Int.tmod_nonneg _ (by omega)) (Int.tmod_nonneg _ q1) (Int.tmod_nonneg _ n0) _)
theorem madeB_turn (w h cut : Int) (d : Nat) (hd : d < (madeB w h cut).turn.length) : nth (madeB w h cut).turn (nth (madeB w h cut).turn d).toNat = d := by
 have ht : (madeB w h cut).turn = gridTurn 8 := by unfold madeB; split <;> rfl
 rw [ht] at hd ⊢
 have h8 : d < 8 := by simpa [gridTurn] using hd
 have : ∀ d : Fin 8, nth (gridTurn 8) (nth (gridTurn 8) d.val).toNat = (d.val : Int) := by decide
 exact this ⟨d, h8⟩
theorem madeG_ok {x : RawG} (hx : RawOk x) : GOk (madeG x) := by
 have hb : BoardOk x.board := boardOk_made hx.w.1 hx.h.1 x.cut
 have hc := madeB_cells hx.w.1 hx.h.1 x.cut
 have hd : x.board.next.length = 8 := madeB_dirs x.w x.h x.cut
 have hK : kindsN x = 1 ∨ kindsN x = 2 := by unfold kindsN; split <;> simp
 have hkl : (madeG x).kinds.length = kindsN x := by simp [madeG]
 have r0 : 0 ≤ x.rights := Int.tmod_nonneg 3 hx.f0.1
 have r1 : x.rights < 3 := Int.tmod_lt_of_pos x.f0 (show (0 : Int) < 3 by decide)
 have t : ∀ n : Int, U8 n → 0 ≤ (n.tdiv 4).tmod 3 ∧ (n.tdiv 4).tmod 3 < 3 := fun n hn => by
  have : 0 ≤ n.tdiv 4 := by rw [Int.tdiv_eq_ediv_of_nonneg hn.1]; have := hn.1; omega
  exact ⟨Int.tmod_nonneg 3 this, Int.tmod_lt_of_pos _ (by decide)⟩
 have t3 := t _ hx.f3
 have t4 := t _ hx.f4
 have hcl : x.board.cells = (madeG x).cells := rfl
 have hc' : 1 ≤ x.board.cells ∧ x.board.cells ≤ 9 := hc
 refine ⟨hb, hc'.1, hc'.2, by show 1 ≤ x.board.next.length; omega, by show x.board.next.length ≤ 8; omega, madeB_turn x.w x.h x.cut, by omega, by omega, fun k hk => ?_, fun k hk p hp => ?_, r0, ?_, fun c hcm => ?_, ?_, ?_, ?_⟩
 ·obtain ⟨i, _, rfl⟩ := List.mem_map.1 hk
  simp only [kindOf, List.length_map, List.length_take]; omega
 ·rw [hkl]
  obtain ⟨i, _, rfl⟩ := List.mem_map.1 hk
  obtain ⟨n, hn, rfl⟩ := List.mem_map.1 hp
  have hn' := List.mem_of_mem_take hn
  have hu : U8 n := by
   unfold RawG.ks at hn'
   split at hn'
   ·exact hx.k0 n hn'
   ·exact hx.k1 n hn'
  exact madeP_ok hu (show (1 : Int) ≤ x.board.next.length by omega) (show (1 : Int) ≤ kindsN x by omega) r0
 ·show x.rights ≤ 4; omega
 ·rw [hkl]
  obtain ⟨c0, h0, rfl⟩ := List.mem_map.1 hcm
  obtain ⟨u0, u1, u2⟩ := hx.c _ (List.mem_of_mem_take h0)
  have a0 := Int.tmod_nonneg 3 u0.1
  have a1 := Int.tmod_lt_of_pos c0.1 (show (0 : Int) < 3 by decide)
  have b0 := Int.tmod_nonneg (kindsN x : Int) u1.1
  have b1 := Int.tmod_lt_of_pos c0.2.1 (show (0 : Int) < kindsN x by omega)
  have d0 := Int.tmod_nonneg x.board.cells u2.1
  have d1 := Int.tmod_lt_of_pos c0.2.2 (show (0 : Int) < x.board.cells by omega)
  have e0 := Int.tmod_nonneg 3 u2.1
  have e1 := Int.tmod_lt_of_pos c0.2.2 (show (0 : Int) < 3 by decide)
  have t0 := t _ u0
  rw [← hcl]
  refine ⟨?_, ?_, ?_, ?_, ?_⟩ <;> simp only [clauseOf]
  ·omega
  ·split <;> omega
  ·split
   ·omega
   ·split <;> omega
  ·omega
  ·intro h; rw [if_neg (by omega)]
 ·show ((x.c.take 3).map _).length ≤ 6
  simp; omega
 ·show 1 ≤ (if x.f3.tmod 4 = 3 then 1 + (x.f3.tdiv 4).tmod 3 else 3) ∧ (if x.f3.tmod 4 = 3 then 1 + (x.f3.tdiv 4).tmod 3 else 3) ≤ 3
  split <;> omega
 ·show 1 ≤ (if x.f4.tmod 4 = 3 then 1 + (x.f4.tdiv 4).tmod 3 else 2) ∧ (if x.f4.tmod 4 = 3 then 1 + (x.f4.tdiv 4).tmod 3 else 2) ≤ 3
  split <;> omega
theorem madePos_ok {g : GameD} (hg : GOk g) {x : RawP} (hx : RawPOk x) : POk g (madePos g x) := by
 have c1 := hg.c1
 have k1 := hg.k1
 have hat : ∀ n, n ≤ 6 → ∀ c ∈ madeAt g x n, 0 ≤ c ∧ c ≤ 2 * g.kinds.length := by
  intro n
  induction n with
  | zero => intro _ c hc; simp [madeAt] at hc; omega
  | succ n ih =>
   intro hn c hc
   rw [madeAt_succ] at hc
   unfold atStep at hc
   split at hc
   ·rcases List.mem_or_eq_of_mem_set hc with hc | rfl
    ·exact ih (by omega) c hc
    ·have hkv : U8 (nth x.kind n) := hx.kv _ (nth_mem (by rw [hx.k6]; omega))
     have a := Int.tmod_nonneg (g.kinds.length : Int) hkv.1
     have b := Int.tmod_lt_of_pos (nth x.kind n) (show (0 : Int) < g.kinds.length by omega)
     have c := Int.tmod_nonneg 2 (show (0 : Int) ≤ n by omega)
     have d := Int.tmod_lt_of_pos (n : Int) (show (0 : Int) < 2 by decide)
     omega
   ·exact ih (by omega) c hc
 have hh : ∀ s, s < 2 → HandOk g (handL g x s (min g.kinds.length 2)) := by
  intro s hs
  refine ⟨handL_len _ _ _ _, fun i hi => ?_⟩
  rw [handL_len] at hi
  have e : nth (handL g x s (min g.kinds.length 2)) i = if i < min g.kinds.length 2 then handV g x s i else 0 := by
   unfold handL
   rw [nth_map _ _ _ (by simpa using hi)]
   simp [nth, hi]
  rw [e]
  split
  ·have hv : U8 (nth x.hand (2 * s + i)) := hx.hv _ (nth_mem (by rw [hx.h4]; omega))
   have a := Int.tmod_nonneg 3 hv.1
   have b := Int.tmod_lt_of_pos (nth x.hand (2 * s + i)) (show (0 : Int) < 3 by decide)
   unfold handV
   split
   ·rename_i hk
    split <;> exact ⟨by omega, by omega, fun _ => hk⟩
   ·exact ⟨by omega, by omega, fun h => by omega⟩
  ·exact ⟨by omega, by omega, fun h => by omega⟩
 have hp := pow_le16 hg.r0 hg.r4
 refine ⟨?_, hat 6 (Nat.le_refl _), hh 0 (by omega), hh 1 (by omega), Int.tmod_nonneg _ hx.r.1, Int.tmod_lt_of_pos _ (by omega), ?_⟩
 ·show ((madeAt g x 6).length : Int) = g.cells
  rw [madeAt_len]; omega
 ·have a := Int.tmod_nonneg 2 hx.s.1
  have b := Int.tmod_lt_of_pos x.side (show (0 : Int) < 2 by decide)
  show x.side.tmod 2 = 0 ∨ x.side.tmod 2 = 1
  omega
end Go.Av
end
section
/- Plain: paths of programs (layer 8). -/
open Go Go.Proofs
namespace Go.Av
abbrev ActD := Int × Int × Int
structure PathD where
 acts : List ActD
 to : Int
 deriving DecidableEq
instance : Inhabited PathD := ⟨⟨[], 0⟩⟩
def encAct (a : ActD) : List AV := [.v (.int .i64 a.1), .v (.int .i64 a.2.1), .v (.int .i64 a.2.2)]
def encAs (l : List ActD) : AV := .lst 3 (l.map encAct)
def encPath (p : PathD) : List AV := [encAs p.acts, .v (.int .i64 p.to)]
def encPt (l : List PathD) : AV := .lst 2 (l.map encPath)
def encCells (l : List (List PathD)) : AV := .lst 1 (l.map fun x => [encPt x])
def encSide (l : List (List (List PathD))) : AV := .lst 1 (l.map fun x => [encCells x])
abbrev CodeD := List (List (List PathD)) × List (List (List PathD))
def encCode (c : CodeD) : List AV := [encSide c.1, encSide c.2]
attribute [go_sem] encAct encAs encPath encPt encCells encSide encCode
theorem bel_A {n : Nat} {l : List ActD} : (∀ r ∈ l.map encAct, ∀ c ∈ r, Bel n c) = True := by
 refine eq_true ?_
 intro r hr c hc
 obtain ⟨x, _, rfl⟩ := List.mem_map.1 hr
 revert c
 simp [go_sem]
theorem bel_As {n : Nat} {l : List ActD} : Bel n (.lst 3 (l.map encAct)) = True := by rw [Bel_lst, bel_A]
theorem bel_Pa {n : Nat} {l : List PathD} : (∀ r ∈ l.map encPath, ∀ c ∈ r, Bel n c) = True := by
 refine eq_true ?_
 intro r hr c hc
 obtain ⟨x, _, rfl⟩ := List.mem_map.1 hr
 simp only [encPath, encAs, List.mem_cons, List.not_mem_nil, or_false] at hc
 rcases hc with rfl | rfl
 ·exact of_eq_true bel_As
 ·exact .v _
theorem bel_Pas {n : Nat} {l : List PathD} : Bel n (.lst 2 (l.map encPath)) = True := by rw [Bel_lst, bel_Pa]
theorem bel_Ce {n : Nat} {l : List (List PathD)} : (∀ r ∈ l.map (fun x => [AV.lst 2 (x.map encPath)]), ∀ c ∈ r, Bel n c) = True := by
 refine eq_true ?_
 intro r hr c hc
 obtain ⟨x, _, rfl⟩ := List.mem_map.1 hr
 simp only [List.mem_cons, List.not_mem_nil, or_false] at hc
 subst hc
 exact of_eq_true bel_Pas
theorem bel_Ces {n : Nat} {l : List (List PathD)} : Bel n (.lst 1 (l.map (fun x => [AV.lst 2 (x.map encPath)]))) = True := by rw [Bel_lst, bel_Ce]
theorem bel_Si {n : Nat} {l : List (List (List PathD))} : (∀ r ∈ l.map (fun x => [AV.lst 1 (x.map (fun x => [AV.lst 2 (x.map encPath)]))]), ∀ c ∈ r, Bel n c) = True := by
 refine eq_true ?_
 intro r hr c hc
 obtain ⟨x, _, rfl⟩ := List.mem_map.1 hr
 simp only [List.mem_cons, List.not_mem_nil, or_false] at hc
 subst hc
 exact of_eq_true bel_Ces
theorem bel_Sis {n : Nat} {l : List (List (List PathD))} : Bel n (.lst 1 (l.map (fun x => [AV.lst 1 (x.map (fun x => [AV.lst 2 (x.map encPath)]))]))) = True := by rw [Bel_lst, bel_Si]
attribute [go_sem high] bel_As bel_Pas bel_Ces bel_Sis
attribute [go_sem ↓] bel_A bel_Pa bel_Ce bel_Si
end Go.Av
end
section
/- Plain: laws of paths (layer 8): they are valid, turned, counted. -/
open Go Go.Proofs
namespace Go.Av
end Go.Av
end
section
/- Plain: the outcomes of paths are those of programs (layer 8). -/
open Go Go.Proofs
namespace Go.Av
structure TkD where
 p : PosD
 kind : Int
 took : Bool
 deriving DecidableEq
instance : Inhabited TkD := ⟨⟨default, 0, false⟩⟩
end Go.Av
end
section
/- Contracts: gen.order. -/
open Go Go.Proofs
namespace Go.Av
end Go.Av
end
section
/- Contracts: slices.CompactFunc of outcomes. -/
open Go Go.Proofs
namespace Go.Av
def zeroO : List AV := [.v (.slice none 0 0), .v (.slice none 0 0), .v (.slice none 0 0), .v (.int .i64 0), .v (.int .i64 0), .v (.bool false)]
theorem dedup_short {α : Type} [DecidableEq α] {l : List α} (h : l.length < 2) : dedup l = l := by
 match l, h with
 | [], _ => rfl
 | [a], _ => rfl
 | a :: b :: l, h => simp only [List.length_cons] at h; omega
end Go.Av
end
section
/- Our library: slices.SortFunc at our rows, by the kit's contract. -/
namespace Go.Av
open Go Go.Sort Go.Shelf Go.Proofs
structure El (w : World) (M : Nat → Prop) {α : Type} (en : α → List AV) (Q : α → Prop) where
 x : α
 vs : List Value
 q : Q x
 rel : RelL noP w M (en x) vs
 cells : ∀ v ∈ vs, cellV v = true
theorem elems {w : World} {M : Nat → Prop} {α : Type} {en : α → List AV} {Q : α → Prop} : ∀ {l : List α} {W : List Value}, (∀ x ∈ l, Q x) → RelL noP w M (l.map en).flatten W → (∀ v ∈ W, cellV v = true) →
  ∃ ls : List (El w M en Q), ls.map (·.x) = l ∧ (ls.map (·.vs)).flatten = W
 | [], W, _, h, _ => by cases h; exact ⟨[], rfl, rfl⟩
 | x :: l, W, hq, h, hc => by
  rw [List.map_cons, List.flatten_cons] at h
  obtain ⟨us, ts, rfl, h1, h2⟩ := h.split
  obtain ⟨ls, e1, e2⟩ := elems (fun y hy => hq y (by simp [hy])) h2 (fun v hv => hc v (by simp [hv]))
  exact ⟨⟨x, us, hq x (by simp), h1, fun v hv => hc v (by simp [hv])⟩ :: ls, by simp [e1], by simp [e2]⟩
theorem flat_get {k : Nat} (hk : 0 < k) : ∀ (ls : List (List Value)) (t : Nat), (∀ r ∈ ls, r.length = k) → t < ls.length * k → ls.flatten[t]? = (ls[t / k]?).bind (·[t % k]?)
 | [], t, _, h => by simp at h
 | r :: ls, t, hr, h => by
  have hl : r.length = k := hr r (by simp)
  rw [List.flatten_cons]
  by_cases ht : t < k
  ·rw [List.getElem?_append_left (by omega), Nat.div_eq_of_lt ht, Nat.mod_eq_of_lt ht]; rfl
  ·obtain ⟨s, rfl⟩ : ∃ s, t = s + k := ⟨t - k, by omega⟩
   have hs : s < ls.length * k := by simp only [List.length_cons, Nat.add_mul, Nat.one_mul] at h; omega
   rw [List.getElem?_append_right (by omega), hl, Nat.add_sub_cancel, flat_get hk ls s (fun r hr' => hr r (by simp [hr'])) hs, Nat.add_div_right _ hk, Nat.add_mod_right, List.getElem?_cons_succ]
theorem flatK_list {β : Type} [Inhabited β] (enc : β → List Value) {k : Nat} (hk0 : 0 < k) (hk : ∀ x, (enc x).length = k) (d : Array β) : (flatK enc k d).toList = (d.toList.map enc).flatten := by
 refine List.ext_getElem? fun t => ?_
 have hr : ∀ r ∈ d.toList.map enc, r.length = k := fun r hr => by obtain ⟨x, _, rfl⟩ := List.mem_map.1 hr; exact hk x
 have hlen : ((d.toList.map enc).flatten).length = d.size * k := by
  have : ∀ ls : List (List Value), (∀ r ∈ ls, r.length = k) → ls.flatten.length = ls.length * k := by
   intro ls
   induction ls with
   | nil => intro _; simp
   | cons r ls ih => intro h; rw [List.flatten_cons, List.length_append, ih (fun r hr => h r (by simp [hr])), h r (by simp), List.length_cons, Nat.add_mul]; omega
  rw [this _ hr]; simp
 by_cases ht : t < d.size * k
 ·have h1 := get_flatK enc k d t ht
  have hq : t / k < d.size := Nat.div_lt_of_lt_mul (by rw [Nat.mul_comm]; exact ht)
  have hm : t % k < k := Nat.mod_lt _ hk0
  have hs : t < (flatK enc k d).size := by rw [size_flatK]; exact ht
  rw [flat_get hk0 _ t hr (by simpa using ht), Array.getElem?_toList, Array.getElem?_eq_getElem hs, ← getElem!_pos (flatK enc k d) t hs, h1, List.getElem?_map, Array.getElem?_toList, Array.getElem?_eq_getElem hq,
   getElem!_pos d (t / k) hq]
  simp only [Option.map_some, Option.bind_some]
  rw [List.getElem?_eq_getElem (by rw [hk]; exact hm), getElem!_pos _ _ (by rw [hk]; exact hm)]
 ·rw [List.getElem?_eq_none (by rw [Array.length_toList, size_flatK]; omega), List.getElem?_eq_none (by omega)]
theorem sort_world {w : World} {blk off : Nat} {C : Array Value} {T : TypeId} (hb : w.heap[blk]? = some (.cells C T (0, 0))) {F : Array Value} (hF : off + F.size ≤ C.size) (n : Nat) (os : Array Obj) :
  ∃ C', (grow (putRow id (Sort.ahead w n) blk off F) os).heap[blk]? = some (.cells C' T (0, 0)) ∧ C'.size = C.size ∧ (C'.toList.drop off).take F.size = F.toList ∧
   (∀ j, j ≠ blk → j < w.heap.size → (grow (putRow id (Sort.ahead w n) blk off F) os).heap[j]? = w.heap[j]?) ∧ w.heap.size ≤ (grow (putRow id (Sort.ahead w n) blk off F) os).heap.size := by
 have hlt : blk < w.heap.size := (Array.getElem?_eq_some_iff.1 hb).1
 have hsz : (putRow id (Sort.ahead w n) blk off F).heap.size = w.heap.size := by rw [Sort.size_putRow]; rfl
 have hold : ∀ j, j < w.heap.size → (grow (putRow id (Sort.ahead w n) blk off F) os).heap[j]? = (w.heap.modify blk (onCells (putCells id off F)))[j]? := by
  intro j hj
  show (_ ++ os)[j]? = _
  rw [Array.getElem?_append_left (by rw [hsz]; exact hj)]
  rfl
 refine ⟨putCells id off F C, ?_, by simp [putCells], ?_, fun j hj hjl => ?_, ?_⟩
 ·rw [hold blk hlt, Array.getElem?_modify]
  simp [hb, onCells]
 ·refine List.ext_getElem? fun j => ?_
  by_cases hj : j < F.size
  ·rw [List.getElem?_take, if_pos hj, List.getElem?_drop, Array.getElem?_toList, Array.getElem?_toList]
   simp only [putCells, Array.getElem?_mapIdx]
   rw [Array.getElem?_eq_getElem (show off + j < C.size by omega), Array.getElem?_eq_getElem hj]
   simp only [Option.map_some]
   rw [if_pos ⟨by omega, by omega⟩, show off + j - off = j by omega, getElem!_pos F j hj]
   rfl
  ·rw [List.getElem?_eq_none (by simp; omega), List.getElem?_eq_none (by simpa using hj)]
 ·rw [hold j hjl, Array.getElem?_modify, if_neg (Ne.symm hj)]
 ·rw [size_grow, hsz]; omega
theorem sort_worldK {w : World} {blk off : Nat} {C : Array Value} {T : TypeId} (hb : w.heap[blk]? = some (.cells C T (0, 0))) {β : Type} [Inhabited β] (enc : β → List Value) (k : Nat) (d : Array β) (hF : off + d.size * k ≤ C.size) (n : Nat) (os : Array Obj) :
  ∃ C', (sortWorldK enc k w blk off n d os).heap[blk]? = some (.cells C' T (0, 0)) ∧ C'.size = C.size ∧ (C'.toList.drop off).take (d.size * k) = (flatK enc k d).toList ∧
   (∀ j, j ≠ blk → j < w.heap.size → (sortWorldK enc k w blk off n d os).heap[j]? = w.heap[j]?) ∧ w.heap.size ≤ (sortWorldK enc k w blk off n d os).heap.size ∧
   (sortWorldK enc k w blk off n d os).os = w.os ∧ (sortWorldK enc k w blk off n d os).tape = w.tape ∧ (sortWorldK enc k w blk off n d os).output = w.output ∧ w.drawn ≤ (sortWorldK enc k w blk off n d os).drawn := by
 obtain ⟨C', h1, h2, h3, h4, h5⟩ := sort_world hb (F := flatK enc k d) (by rw [size_flatK]; exact hF) n os
 unfold sortWorldK putRowK
 rw [size_flatK] at h3
 exact ⟨C', h1, h2, h3, h4, h5, rfl, rfl, rfl, Nat.le_add_right _ _⟩
theorem swo_pull {α β : Type} {lt : α → α → Bool} (h : SWO lt) (f : β → α) : SWO (fun a b => lt (f a) (f b)) := ⟨fun _ => h.irrefl _, fun _ _ _ => h.trans _ _ _, fun _ _ _ => h.ntrans _ _ _⟩
theorem ACallP.sortFunc {P : Program} {ρ : Ren} (L : SlLaysF0.n6 P ρ) {α : Type} {k : Nat} (hk0 : 0 < k) (aE : ∀ w, (isAgg (ρ.t 24)).run P w = .ok true w) (zE : ∀ w, (Go.sizeOf (ρ.t 24)).run P w = .ok k w)
  (en : α → List AV) (henl : ∀ x, (en x).length = k) (henb : ∀ x, ∀ c ∈ en x, Bel 0 c) (Q : α → Prop) (cf : α → α → Int) (hO : SWO (fun a b : α => decide (cf a b < 0))) (g : FuncId)
  (hC : ∀ x y, Q x → Q y → Pure P g [.agg (en x), .agg (en y)] (.v (.int .i64 (cf x y)))) (hg : Enters P g) (l : List α) (hQ : ∀ x ∈ l, Q x) (hl : l.length < 4611686018427387904) {h : Heap} {n o gn : Nat}
  (ho : h o = some (.rows true gn k (l.map en))) {K : CallK} (hK : ∀ l' : List α, l'.Perm l → l'.Pairwise (fun a b => ¬ cf b a < 0) → K (.tup []) (upd h o (some (.rows true gn k (l'.map en)))) n) :
  ACallP P (ρ.f 6) [.sl o gn k 0 l.length, .fn (.func g) [] []] h n K := by
 have e6 : Enters P (ρ.f 6) := L.f6.enters rfl
 refine ⟨e6, fun M0 φ w vs hH hargs => ?_⟩
 cases hargs with
 | cons hs ht =>
 cases ht with
 | cons hf ht =>
 cases ht
 cases hf with
 | @fn _ _ _ fs cs q1 q2 =>
 cases q1; cases q2
 have hal : alive h o gn k := by simp [alive, ho]
 obtain ⟨A, cap, rfl, hcap, hA⟩ := hH.sl_alive hal hs
 have hnone : l = [] → Calls P (ρ.f 6) ⟨[.slice A l.length cap, .func (.func g) ⟨[]⟩ ⟨[]⟩]⟩ w fun e w' => ∃ v φ' r h' n', e = .returned v ∧ K r h' n' ∧ HRel φ' n' w' M0 h' ∧ Rel φ' w' (Or M0 (Mut φ' h')) r v ∧ Step φ w M0 h φ' w' h' := by
  intro he
  subst he
  refine (AnyF.slices_SortFunc_none L A cap _ w).mono ?_
  rintro e w' ⟨rfl, rfl⟩
  have := hK [] (.refl _) .nil
  rw [← ho, upd_self] at this
  exact ⟨_, φ, .tup [], h, n, rfl, this, hH, .tup (vs := []) .nil, .refl _ _ _ _⟩
 by_cases he : l = []
 ·exact hnone he
 have hlp : 0 < l.length := List.length_pos_iff.2 he
 rcases hA with ⟨rfl, _, h0, _⟩ | ⟨h0, rfl, _⟩ | ⟨a, bs, hp, hsp, rfl, hcb⟩
 ·omega
 ·omega
 obtain ⟨A0, hA0, hobj⟩ := hH.obj _ _ _ _ _ ho
 rw [hp] at hA0
 simp only [Option.some.injEq, Prod.mk.injEq, true_and] at hA0
 subst hA0
 rcases hobj with ⟨hobj, _⟩ | ⟨a₁, bs₁, e1, h0, hd⟩
 ·cases hobj
 simp only [Option.some.injEq, Prod.mk.injEq] at e1
 obtain ⟨rfl, rfl⟩ := e1
 obtain ⟨C, T, hb, hCs, hr, hle, hv, hrel⟩ := hd.cells hsp
 rw [List.length_map] at hle hv hrel
 have hrel0 : RelL noP w (Or M0 (Mut φ h)) (l.map en).flatten ((C.toList.drop a.off).take (l.length * k)) := relL_closed (fun _ hk => hk) (fun c hc => by
  obtain ⟨r, hr, hc⟩ := List.mem_flatten.1 hc
  obtain ⟨x, _, rfl⟩ := List.mem_map.1 hr
  exact henb x c hc) hrel
 obtain ⟨ls, hlx, hlv⟩ := elems (Q := Q) hQ hrel0 hv
 have hlen : ls.length = l.length := by rw [← hlx, List.length_map]
 obtain ⟨d, hd⟩ : ∃ d : Array (El w (Or M0 (Mut φ h)) en Q), d = ls.toArray := ⟨_, rfl⟩
 have hds : d.size = l.length := by rw [hd]; simpa using hlen
 haveI : Inhabited (El w (Or M0 (Mut φ h)) en Q) := ⟨ls[0]'(by omega)⟩
 have hkE : ∀ x : El w (Or M0 (Mut φ h)) en Q, x.vs.length = k := fun x => by rw [← x.rel.length, henl]
 have hMb : Or M0 (Mut φ h) a.block := .inr ⟨o, gn, k, _, gn, a, bs, ho, hp, rfl⟩
 have hblk : a.block < w.heap.size := (Array.getElem?_eq_some_iff.1 hb).1
 have hfl : ∀ d' : Array (El w (Or M0 (Mut φ h)) en Q), (flatK (fun x => x.vs) k d').toList = (d'.toList.map fun x => x.vs).flatten := fun d' => flatK_list _ hk0 hkE d'
 have hCal : Calls P (ρ.f 6) ⟨[.slice (some ⟨a.block, a.off + 0 * k, none⟩) l.length cap, .func (.func g) ⟨[]⟩ ⟨[]⟩]⟩ w fun e w' =>
   e = .returned (.tuple #[]) ∧ ∃ d' n os, PermIn 0 d.size d d' ∧ SortedIn (ltOf fun x y : El w (Or M0 (Mut φ h)) en Q => cf x.x y.x) 0 d.size d' ∧ w' = sortWorldK (fun x => x.vs) k w a.block a.off n d' os := by
  rw [Nat.zero_mul, Nat.add_zero, ← hds]
  refine AnyQ.slices_SortFunc L k aE zE (fun x : El w (Or M0 (Mut φ h)) en Q => x.vs) hkE (fun x => x.cells) (fun x y => cf x.x y.x) (swo_pull hO fun x : El w (Or M0 (Mut φ h)) en Q => x.x) g #[] a.block a.off cap d w hg ?_ ?_ hblk (by omega)
  ·intro m os dk hdk x y
   obtain ⟨hx1, hx2⟩ := hC x.x y.x x.q y.q
   obtain ⟨C', k1, k2, k3, k4, k5, k6, k7, k8, k9⟩ := sort_worldK (off := a.off) hb (fun x : El w (Or M0 (Mut φ h)) en Q => x.vs) k dk (by rw [hdk, hds]; omega) m os
   generalize sortWorldK (fun x : El w (Or M0 (Mut φ h)) en Q => x.vs) k w a.block a.off m dk os = X at *
   have hkeep : ∀ z : El w (Or M0 (Mut φ h)) en Q, RelL noP X (Or M0 (Mut φ h)) (en z.x) z.vs := fun z =>
    z.rel.keep noP.le_refl (fun j hj hjl => k4 j (fun e => hj (e ▸ hMb)) hjl) (fun j hj => .inl hj)
   have hag : ∀ z : El w (Or M0 (Mut φ h)) en Q, Rel noP X (Or M0 (Mut φ h)) (.agg (en z.x)) (.agg z.vs.toArray) := fun z => .agg z.cells (hkeep z)
   refine (hx2 (Or M0 (Mut φ h)) X [.agg x.vs.toArray, .agg y.vs.toArray] (fun j hj => Nat.lt_of_lt_of_le (hH.blk hj) k5) (hH.glob.keep (fun j hj hjl => k4 j (fun e => hj (e ▸ hMb)) hjl) (fun j hj => .inl hj)) (.cons (hag x) (.cons (hag y) .nil))).mono ?_
   rintro e w' ⟨v, rfl, hrv, hfr⟩
   cases hrv
   refine ⟨rfl, w'.drawn - X.drawn, w'.heap.extract X.heap.size w'.heap.size, ?_⟩
   have hheap : X.heap ++ w'.heap.extract X.heap.size w'.heap.size = w'.heap := by
    refine Array.ext_getElem? fun j => ?_
    by_cases hj : j < X.heap.size
    ·rw [Array.getElem?_append_left hj, hfr.block j hj (fun h => h)]
    ·rw [Array.getElem?_append_right (by omega), Array.getElem?_extract]
     have := hfr.size
     split
     ·congr 1; omega
     ·rw [Array.getElem?_eq_none (by omega)]
   have hdr : X.drawn + (w'.drawn - X.drawn) = w'.drawn := by have := hfr.drawn; omega
   cases w' with
   | mk hp tp dr os' out =>
    have e1 := hfr.os; have e2 := hfr.tape; have e3 := hfr.output
    simp only at e1 e2 e3 hheap hdr
    subst e1 e2 e3
    simp only [grow, World.drewN, hheap, hdr]
  ·intro j hj
   have hjl : j < ((C.toList.drop a.off).take (l.length * k)).length := by
    rw [← hlv, ← show (d.toList.map fun x => x.vs) = ls.map (·.vs) by rw [hd], ← hfl, Array.length_toList]; exact hj
   have hget : (flatK (fun x : El w (Or M0 (Mut φ h)) en Q => x.vs) k d)[j]! = C[a.off + j]! := by
    have e1 : (flatK (fun x : El w (Or M0 (Mut φ h)) en Q => x.vs) k d).toList = (C.toList.drop a.off).take (l.length * k) := by rw [hfl, hd]; exact hlv
    have hjC : a.off + j < C.size := by simp at hjl; omega
    rw [getElem!_pos _ j hj, getElem!_pos C _ hjC, ← Array.getElem_toList, ← Array.getElem_toList (xs := C)]
    simp only [e1, List.getElem_take, List.getElem_drop]
   have hjC : a.off + j < C.size := by simp at hjl; omega
   refine ⟨?_, ?_⟩
   ·simp only [World.cell?, hb]
    rw [hget]
    simp [hjC]
   ·simp [World.frozen?, hb]
 refine hCal.mono ?_
 rintro e w' ⟨rfl, d', n', os, hperm, hsort, rfl⟩
 obtain ⟨hps, _, hpp⟩ := hperm
 obtain ⟨C', k1, k2, k3, k4, k5, k6, k7, k8, k9⟩ := sort_worldK (off := a.off) hb (fun x : El w (Or M0 (Mut φ h)) en Q => x.vs) k d' (by rw [hps, hds]; omega) n' os
 generalize sortWorldK (fun x : El w (Or M0 (Mut φ h)) en Q => x.vs) k w a.block a.off n' d' os = X at *
 obtain ⟨l', hl'⟩ : ∃ l' : List α, l' = d'.toList.map fun x => x.x := ⟨_, rfl⟩
 have hl'l : l'.length = l.length := by rw [hl', List.length_map, Array.length_toList, hps, hds]
 have hpl : l'.Perm l := by
  have h1 : (d'.extract 0 d.size).toList = d'.toList := by rw [← hps]; simp
  have h2 : (d.extract 0 d.size).toList = d.toList := by simp
  rw [h1, h2] at hpp
  have := hpp.map fun x => x.x
  rw [hl', ← hlx]
  simpa [hd] using this
 have hpw : l'.Pairwise (fun x y => ¬ cf y x < 0) := by
  rw [hl', List.pairwise_map, List.pairwise_iff_getElem]
  intro i j hi hj hij
  have hi' : i < d'.size := by simpa using hi
  have hj' : j < d'.size := by simpa using hj
  have := hsort i j (Nat.zero_le _) hij (by omega)
  rw [getElem!_pos d' i hi', getElem!_pos d' j hj'] at this
  simpa [ltOf] using this
 have hwin : (C'.toList.drop a.off).take (l'.length * k) = (d'.toList.map fun x => x.vs).flatten := by
  rw [hps, hds, hfl] at k3
  rw [hl'l]; exact k3
 have hrel' : RelL φ w (Or M0 (Mut φ h)) (l'.map en).flatten ((C'.toList.drop a.off).take (l'.length * k)) := by
  rw [hwin, hl']
  generalize d'.toList = ds
  induction ds with
  | nil => exact .nil
  | cons z ds ih =>
   simp only [List.map_cons, List.flatten_cons]
   exact (z.rel.keep (fun o x ho => by cases ho) (fun _ _ _ => rfl) (fun k hk => .inl hk)).append ih
 have hle0 : φ.le (upd φ o (some (gn, some (a, bs)))) := by rw [← hp, upd_self]; exact φ.le_refl
 have hol : ¬ n ≤ o := fun hle => by rw [hH.fresh o hle] at hp; cases hp
 obtain ⟨g1, g2, g3⟩ := hH.set (w' := X) (F' := fun o => n ≤ o) (o := o) (mt := true) (g := gn) (sz := k) (rs := l'.map en) (A := some (a, bs))
  (fun _ h => h) hol k5 hle0 (fun j hj hjl => k4 j (fun e => hj (e ▸ hMb)) hjl)
  (fun o' mt' g' sz' rs' a₁ b₁ hne ho' hp' => by
   have := hH.inj _ _ _ _ _ _ _ _ _ _ _ _ _ _ ho ho' (Ne.symm hne) (.inl rfl) hp hp'
   have hlt : a₁.block < w.heap.size := by
    obtain ⟨A1, hA1, hc1⟩ := hH.obj _ _ _ _ _ ho'
    rw [hp'] at hA1
    simp only [Option.some.injEq, Prod.mk.injEq, true_and] at hA1
    subst hA1
    rcases hc1 with ⟨hc1, _⟩ | ⟨a2, b2, e2, _, hb2⟩
    ·cases hc1
    ·simp only [Option.some.injEq, Prod.mk.injEq] at e2
     obtain ⟨rfl, rfl⟩ := e2
     exact hb2.blk
   refine ⟨k4 _ (Ne.symm this) hlt, fun a₂ b₂ e => ?_⟩
   simp only [Option.some.injEq, Prod.mk.injEq] at e
   obtain ⟨rfl, rfl⟩ := e
   exact this)
  (fun a₁ b₁ e => by
   simp only [Option.some.injEq, Prod.mk.injEq] at e
   obtain ⟨rfl, rfl⟩ := e
   exact .inl hMb)
  (.inr ⟨a, bs, C', T, rfl, hsp, h0, k1, by rw [k2]; exact hCs, fun r hr => by
    obtain ⟨x, _, rfl⟩ := List.mem_map.1 hr
    exact henl x, by rw [List.length_map, hl'l]; exact hle, fun c hm => by
    rw [List.length_map, hwin] at hm
    obtain ⟨r, hr, hm⟩ := List.mem_flatten.1 hm
    obtain ⟨z, _, rfl⟩ := List.mem_map.1 hr
    exact z.cells c hm, by rw [List.length_map]; exact hrel'⟩)
 refine ⟨_, _, .tup [], _, n, rfl, hK l' hpl hpw, g1, .tup (vs := []) .nil, ⟨hle0, g2, ⟨k6, k7, k8, k9, k5, fun j hj hu => k4 j (fun e => hu ⟨o, gn, k, _, gn, a, bs, ho, hp, e.symm⟩) hj⟩, fun j hj => ?_⟩⟩
 rcases g3 j hj with h | ⟨a₁, b₁, e, rfl⟩
 ·exact .inl h
 ·simp only [Option.some.injEq, Prod.mk.injEq] at e
  obtain ⟨rfl, rfl⟩ := e
  exact .inl ⟨o, gn, k, _, gn, a, bs, ho, hp, rfl⟩
end Go.Av
end
section
/- The body of slices.SortFunc here is the one that the kit knows: laid in plain words (printed by laysort.py). -/
namespace Go.Proofs
open Go.Shelf
def zsort_ren : Go.Shelf.Ren := ⟨fun | 6 => 123 | 15 => 175 | 14 => 174 | 28 => 228 | 29 => 229 | 20 => 220 | 21 => 221 | 22 => 222 | 23 => 223 | 24 => 224 | 25 => 225 | 26 => 226 | 27 => 227 | 46 => 269 | 47 => 270 | 48 => 271 | 49 => 272 | 50 => 273 | 57 => 289 | n => n, fun | 22 => 108 | 24 => 112 | 25 => 188 | 3 => 3 | 39 => 219 | 0 => 0 | 53 => 280 | 55 => 282 | 4 => 4 | 46 => 274 | 45 => 273 | 50 => 62 | 5 => 5 | 9 => 9 | 66 => 313 | 70 => 317 | 76 => 341 | 77 => 203 | n => n, fun n => n⟩
theorem zsort : Go.Proofs.SlLaysF0.n6 Tryz.prog zsort_ren := {
 mixed := by kernel_rfl
 f6 := ⟨Tryz.f123.name, by decide, Tryz.func123.trans (congrArg some (by kernel_rfl))⟩
 f14 := ⟨Tryz.f174.name, by decide, Tryz.func174.trans (congrArg some (by kernel_rfl))⟩
 f15 := Tryz.func175.trans (congrArg some (by kernel_rfl))
 f20 := ⟨Tryz.f220.name, by decide, Tryz.func220.trans (congrArg some (by kernel_rfl))⟩
 f21 := ⟨Tryz.f221.name, by decide, Tryz.func221.trans (congrArg some (by kernel_rfl))⟩
 f22 := ⟨Tryz.f222.name, by decide, Tryz.func222.trans (congrArg some (by kernel_rfl))⟩
 f23 := ⟨Tryz.f223.name, by decide, Tryz.func223.trans (congrArg some (by kernel_rfl))⟩
 f24 := ⟨Tryz.f224.name, by decide, Tryz.func224.trans (congrArg some (by kernel_rfl))⟩
 f25 := ⟨Tryz.f225.name, by decide, Tryz.func225.trans (congrArg some (by kernel_rfl))⟩
 f26 := ⟨Tryz.f226.name, by decide, Tryz.func226.trans (congrArg some (by kernel_rfl))⟩
 f27 := ⟨Tryz.f227.name, by decide, Tryz.func227.trans (congrArg some (by kernel_rfl))⟩
 f28 := Tryz.func228.trans (congrArg some (by kernel_rfl))
 f29 := Tryz.func229.trans (congrArg some (by kernel_rfl))
 f46 := ⟨Tryz.f269.name, by decide, Tryz.func269.trans (congrArg some (by kernel_rfl))⟩
 f47 := Tryz.func270.trans (congrArg some (by kernel_rfl))
 f48 := Tryz.func271.trans (congrArg some (by kernel_rfl))
 f49 := ⟨Tryz.f272.name, by decide, Tryz.func272.trans (congrArg some (by kernel_rfl))⟩
 f50 := ⟨Tryz.f273.name, by decide, Tryz.func273.trans (congrArg some (by kernel_rfl))⟩
 f57 := ⟨Tryz.f289.name, by decide, Tryz.func289.trans (congrArg some (by kernel_rfl))⟩
 t0 := Tryz.underlying0
 a0 := Tryz.isAgg0
 z0 := Tryz.sizeOf0
 v0 := Tryz.zeroValue0
 t3 := Tryz.underlying3
 a3 := Tryz.isAgg3
 z3 := Tryz.sizeOf3
 v3 := Tryz.zeroValue3
 t4 := Tryz.underlying4
 a4 := Tryz.isAgg4
 z4 := Tryz.sizeOf4
 v4 := Tryz.zeroValue4
 t5 := Tryz.underlying5
 a5 := Tryz.isAgg5
 z5 := Tryz.sizeOf5
 v5 := Tryz.zeroValue5
 t9 := Tryz.underlying9
 a9 := Tryz.isAgg9
 z9 := Tryz.sizeOf9
 v9 := Tryz.zeroValue9
 t22 := Tryz.underlying108
 a22 := Tryz.isAgg108
 z22 := Tryz.sizeOf108
 v22 := Tryz.zeroValue108
 t25 := Tryz.underlying188
 a25 := Tryz.isAgg188
 z25 := Tryz.sizeOf188
 v25 := Tryz.zeroValue188
 t39 := Tryz.underlying219
 a39 := Tryz.isAgg219
 z39 := Tryz.sizeOf219
 v39 := Tryz.zeroValue219
 t45 := Tryz.underlying273
 a45 := Tryz.isAgg273
 z45 := Tryz.sizeOf273
 v45 := Tryz.zeroValue273
 t46 := Tryz.underlying274
 a46 := Tryz.isAgg274
 z46 := Tryz.sizeOf274
 v46 := Tryz.zeroValue274
 t50 := Tryz.underlying62
 a50 := Tryz.isAgg62
 z50 := Tryz.sizeOf62
 v50 := Tryz.zeroValue62
 t53 := Tryz.underlying280
 a53 := Tryz.isAgg280
 z53 := Tryz.sizeOf280
 v53 := Tryz.zeroValue280
 t55 := Tryz.underlying282
 a55 := Tryz.isAgg282
 z55 := Tryz.sizeOf282
 v55 := Tryz.zeroValue282
 t66 := Tryz.underlying313
 a66 := Tryz.isAgg313
 z66 := Tryz.sizeOf313
 v66 := Tryz.zeroValue313
 t70 := Tryz.underlying317
 a70 := Tryz.isAgg317
 z70 := Tryz.sizeOf317
 v70 := Tryz.zeroValue317
 t76 := Tryz.underlying341
 a76 := Tryz.isAgg341
 z76 := Tryz.sizeOf341
 v76 := Tryz.zeroValue341
 t77 := Tryz.underlying203
 a77 := Tryz.isAgg203
 z77 := Tryz.sizeOf203
 v77 := Tryz.zeroValue203 }
end Go.Proofs
end
section
/- Contracts: slices.CompactFunc and slices.SortFunc of outcomes, as run asks for them (printed by genGH.py). -/
open Go Go.Proofs
namespace Go.Av
theorem CompactR_owns (l : List OutD) (gn : Nat) (hl : l.length ≤ 17179869184) (hf : ∀ o ∈ l, FitsP o.pos) :
  OwnsA Tryz.prog 125 [.sl 0 gn 6 0 l.length, .fn (.func 126) [] []] [(0, .rows true gn 6 (l.map encOut))] 1
   (.sl 0 gn 6 0 (dedup l).length) [(0, .rows true gn 6 ((dedup l).map encOut ++ List.replicate (l.length - (dedup l).length) zeroO))] 1 := by
 unfold OwnsA
 by_cases h2 : l.length < 2
 ·rw [dedup_short h2]
  refine ACallP.of_awp (by kernel_rfl) Tryz.func125 rfl rfl (Nat.le_of_ble_eq_true rfl) (by kernel_rfl) ?_
  (repeat (first|with_reducible refine wV fun _=>?_|simp [go_sem]))
  (refine aIf.mkL (fun hT => ?_) (fun hT => by first | omega | (simp at hT; omega)); clear hT)
  (repeat (first|with_reducible refine wV fun _=>?_|simp [go_sem]))
  simp [go_sem, Wk_eq]
 obtain ⟨D, hD⟩ : ∃ D, D = dedup l := ⟨_, rfl⟩
 rw [← hD]
 have hE : ∀ i j, i < l.length → j < l.length → Pure Tryz.prog 126 [.agg (encOut (nth l i)), .agg (encOut (nth l j))] (.v (.bool (decide (nth l i = nth l j)))) :=
  fun i j hi hj => runs2_pure _ _ (hf _ (nth_mem hi)) (hf _ (nth_mem hj))
 refine ACallP.of_awp (by kernel_rfl) Tryz.func125 rfl rfl (Nat.le_of_ble_eq_true rfl) (by kernel_rfl) ?_
 (repeat (first|with_reducible refine wV fun _=>?_|simp [go_sem]))
 (refine aIf.mkL (fun hF => by first | omega | (simp at hF; omega)) (fun hF => ?_); clear hF)
 (repeat (first|with_reducible refine wV fun _=>?_|simp [go_sem]))
 refine ALoop.start (ALoop.ind (α := Nat) (fun j => ⟨[(0, .sl 0 gn 6 0 l.length), (1, .fn (.func 126) [] []), (5, .v (.int .i64 j))], [(0, .rows true gn 6 (l.map encOut))], 1⟩)
  (fun d j => 1 ≤ j ∧ j + d = l.length ∧ D = l.take j ++ dedupGo (nth l (j - 1)) (l.drop j)) ?_ (l.length - 1) 1 ?_) ?_ ?_
 ·rintro d j ⟨i1, i2, i3⟩ hrec
  have e1 : ((j : Int) - 1).toNat = j - 1 := by omega
  (repeat (first|with_reducible refine wV fun _=>?_|simp [go_sem]))
  refine aIf.mkL (fun hj => ?_) (fun hj => ?_) <;> simp at hj
  ·have hj' : j - 1 < l.length := by omega
   rw [dropG_cons hj, dedupGo] at i3
   (repeat (first|with_reducible refine wV fun _=>?_|simp [go_sem, hj, hj', e1]))
   refine dCall.plain (hE j (j - 1) hj hj') (by simp [go_sem]) ?_
   (repeat (first|with_reducible refine wV fun _=>?_|simp [go_sem, hj, hj', e1]))
   by_cases he : nth l j = nth l (j - 1)
   ·rw [if_pos he] at i3
    (repeat (first|with_reducible refine wV fun _=>?_|simp [go_sem, he, hj, hj', e1]))
    refine ALoop.start (ALoop.ind (α := Nat × List OutD × Nat) (fun a => ⟨[(0, .sl 0 gn 6 0 l.length), (1, .fn (.func 126) [] []), (5, .v (.int .i64 a.2.2)), (6, .sl 0 gn 6 j (l.length - j)), (7, .v (.int .i64 a.1))], [(0, .rows true gn 6 (a.2.1.map encOut))], 1⟩)
     (fun d a => 1 ≤ a.1 ∧ j + a.1 + d = l.length ∧ a.2.1.length = l.length ∧ a.2.2 ≤ j + a.1 - 1 ∧ a.2.1.drop (j + a.1 - 1) = l.drop (j + a.1 - 1) ∧ D = a.2.1.take a.2.2 ++ dedupGo (nth l (j + a.1 - 1)) (l.drop (j + a.1))) ?_ (l.length - j - 1) (1, l, j) ?_) ?_ ?_
    ·rintro d2 ⟨k2, R, k⟩ ⟨j1, j2, j3, j4, j5, j6⟩ hrec2
     simp only at j1 j2 j3 j4 j5 j6
     have e2 : ((k2 : Int) - 1).toNat = k2 - 1 := by omega
     have e3 : j + (k2 - 1) = j + k2 - 1 := by omega
     have hRn : ∀ m, j + k2 - 1 ≤ m → m < l.length → nth R m = nth l m := fun m h1 h2 => by
      have h3 : (R.drop (j + k2 - 1))[m - (j + k2 - 1)]? = (l.drop (j + k2 - 1))[m - (j + k2 - 1)]? := by rw [j5]
      rw [List.getElem?_drop, List.getElem?_drop, show j + k2 - 1 + (m - (j + k2 - 1)) = m by omega, List.getElem?_eq_getElem (by omega), List.getElem?_eq_getElem h2] at h3
      rw [nth_eq _ _ (by omega), nth_eq _ _ h2]
      exact Option.some.inj h3
     (repeat (first|with_reducible refine wV fun _=>?_|simp [go_sem, j3]))
     refine aIf.mkL (fun hk => ?_) (fun hk => ?_) <;> simp at hk
     ·have hk1 : j + k2 < l.length := by omega
      have hk0 : j + k2 - 1 < l.length := by omega
      have hr1 := hRn (j + k2) (by omega) hk1
      have hr0 := hRn (j + k2 - 1) (by omega) hk0
      rw [dropG_cons hk1, dedupGo] at j6
      have hk2 : k2 - 1 < l.length - j := by omega
      have hk3 : k < l.length := by omega
      (repeat (first|with_reducible refine wV fun _=>?_|simp [go_sem, j3, hk, hk1, hk0, hr1, hr0, e2, e3, hk2]))
      refine dCall.plain (hE (j + k2) (j + k2 - 1) hk1 hk0) (by simp [go_sem]) ?_
      (repeat (first|with_reducible refine wV fun _=>?_|simp [go_sem, j3, hk, hk1, hk0, hr1, hr0, e2, e3, hk2]))
      by_cases hc : nth l (j + k2) = nth l (j + k2 - 1)
      ·rw [if_pos hc] at j6
       (repeat (first|with_reducible refine wV fun _=>?_|simp [go_sem, hc]))
       refine ALoop.start (hrec2 (d2 - 1) (by omega) (k2 + 1, R, k) ⟨by simp only; omega, by simp only; omega, j3, by simp only; omega, ?_, ?_⟩) ?_ (by simp)
       ·have := congrArg (List.drop 1) j5
        rw [List.drop_drop, List.drop_drop] at this
        rw [show j + (k2 + 1) - 1 = j + k2 - 1 + 1 by omega]
        exact this
       ·simp only
        rw [show j + (k2 + 1) - 1 = j + k2 by omega, hc]
        exact j6
       ·simp [go_sem, Wk_eq]
      ·rw [if_neg hc] at j6
       (repeat (first|with_reducible refine wV fun _=>?_|simp [go_sem, hc, j3, hk, hk1, hk0, hr1, hr0, e2, e3, hk2, hk3]))
       refine ALoop.start (hrec2 (d2 - 1) (by omega) (k2 + 1, R.set k (nth l (j + k2)), k + 1) ⟨by simp only; omega, by simp only; omega, by simpa using j3, by simp only; omega, ?_, ?_⟩) ?_ (by simp)
       ·have := congrArg (List.drop 1) j5
        rw [List.drop_drop, List.drop_drop] at this
        simp only
        rw [show j + (k2 + 1) - 1 = j + k2 - 1 + 1 by omega, List.drop_set, if_pos (by omega)]
        exact this
       ·simp only
        rw [show j + (k2 + 1) - 1 = j + k2 by omega, List.take_add_one, List.take_set_of_le (by omega), List.getElem?_set_self (by omega), Option.toList_some, List.append_assoc]
        exact j6
       ·have hb : ∀ n, ∀ r ∈ ((R.set k (nth l (j + k2))).map encOut), ∀ c ∈ r, Bel n c := fun n => of_eq_true bel_Ou
        rw [List.map_set] at hb
        simp [go_sem, Wk_eq, List.map_set]
        exact hb 1
     ·rw [List.drop_eq_nil_of_le (by omega), dedupGo, List.append_nil] at j6
      have hDl : D.length = k := by rw [j6, List.length_take]; omega
      have hd0 : List.drop (k + (l.length - k)) (R.map encOut) = [] := List.drop_eq_nil_of_le (by simp; omega)
      have hDm : D.map encOut = List.take k (R.map encOut) := by rw [j6, List.map_take]
      (repeat (first|with_reducible refine wV fun _=>?_|simp [go_sem]))
      simp [go_sem, Wk_eq, hd0, hDl, hDm, zeroO]
      exact fun x hx => of_eq_true (bel_Ou (n := 1) (l := R)) x (List.mem_of_mem_take hx)
    ·refine ⟨Nat.le_refl _, by simp only; omega, rfl, by simp only; omega, rfl, ?_⟩
     simp only
     rw [Nat.add_sub_cancel, he]
     exact i3
    ·simp [go_sem, Wk_eq]
    ·simp
   ·rw [if_neg he] at i3
    (repeat (first|with_reducible refine wV fun _=>?_|simp [go_sem, he, hj, hj', e1]))
    refine ALoop.start (hrec (d - 1) (by omega) (j + 1) ⟨by omega, by omega, ?_⟩) ?_ (by simp)
    ·rw [i3, Nat.add_sub_cancel, List.take_add_one, List.getElem?_eq_getElem hj, nth_eq _ _ hj, Option.toList_some, List.append_assoc]; rfl
    ·simp [go_sem, Wk_eq]
  ·rw [List.drop_eq_nil_of_le hj, List.take_of_length_le hj, dedupGo, List.append_nil] at i3
   rw [i3]
   (repeat (first|with_reducible refine wV fun _=>?_|simp [go_sem]))
   simp [go_sem, Wk_eq]
 ·refine ⟨Nat.le_refl _, by omega, ?_⟩
  cases l with
  | nil => simp at h2
  | cons a l => rw [hD]; rfl
 ·simp [go_sem, Wk_eq]
 ·simp
theorem compactR_call (l : List OutD) (gn : Nat) (hl : l.length ≤ 17179869184) (hf : ∀ o ∈ l, FitsP o.pos) {h : Heap} {n o : Nat} (ho : h o = some (.rows true gn 6 (l.map encOut))) (hon : o < n) {K : CallK}
  (hK : K (.sl o gn 6 0 (dedup l).length) (upd h o (some (.rows true gn 6 ((dedup l).map encOut ++ List.replicate (l.length - (dedup l).length) zeroO)))) n) :
  ACallP Tryz.prog 125 [.sl o gn 6 0 l.length, .fn (.func 126) [] []] h n K := by
 have hz : ∀ m, ∀ r ∈ (dedup l).map encOut ++ List.replicate (l.length - (dedup l).length) zeroO, ∀ c ∈ r, Bel m c := by
  intro m r hr c hc
  rcases List.mem_append.1 hr with hr | hr
  ·exact bel_map_out _ r hr c hc
  ·rw [List.eq_of_mem_replicate hr] at hc
   simp only [zeroO, List.mem_cons, List.not_mem_nil, or_false] at hc
   rcases hc with rfl | rfl | rfl | rfl | rfl | rfl <;> exact .v _
 refine ACallP.ownsA (args' := [.sl o gn 6 0 l.length, .fn (.func 126) [] []]) (HH := [(o, .rows true gn 6 ((dedup l).map encOut ++ List.replicate (l.length - (dedup l).length) zeroO))])
  [o] h (CompactR_owns l gn hl hf) (by simp) (by simpa using hon) rfl (Nat.le_refl _) (.refl _) ?_ ?_ (.refl _ _ _ _) ?_ ?_ ?_ (.sl rfl) ?_ ?_
 ·intro j hj
  obtain rfl : j = 0 := by omega
  exact ⟨_, _, rfl, ho, .rows (.same (bel_map_out _))⟩
 ·intro p hp
  simp only [List.mem_singleton] at hp
  subst hp
  exact ⟨Nat.le_of_ble_eq_true rfl, bel_map_out _⟩
 ·intro y hy
  simp only [List.mem_cons, List.not_mem_nil, or_false] at hy
  rcases hy with rfl | rfl
  ·exact .sl hon
  ·simp [go_sem]
 ·exact .cons (.sl rfl) (.cons (.same (by simp [go_sem])) .nil)
 ·intro y hy
  simp only [List.mem_cons, List.not_mem_nil, or_false] at hy
  rcases hy with rfl | rfl
  ·exact .sl (by decide)
  ·simp [go_sem]
 ·exact .cons rfl (.rows (.same (hz 0))) .nil
 ·have e : over [(o, .rows true gn 6 ((dedup l).map encOut ++ List.replicate (l.length - (dedup l).length) zeroO))] (remH [o] h) = upd h o (some (.rows true gn 6 ((dedup l).map encOut ++ List.replicate (l.length - (dedup l).length) zeroO))) := by
   funext j
   simp only [over, remH, upd]
   by_cases j1 : j = o
   ·simp [j1]
   ·simp [j1]
  rw [e, Nat.sub_self, Nat.add_zero]
  exact hK
theorem compactR_call2 (l : List OutD) (gn m : Nat) (hm : l.length = m) (hl : m ≤ 17179869184) (hf : ∀ o ∈ l, FitsP o.pos) {h : Heap} {n o : Nat} (ho : h o = some (.rows true gn 6 (l.map encOut))) (hon : o < n) {K : CallK}
  (hK : K (.sl o gn 6 0 (dedup l).length) (upd h o (some (.rows true gn 6 ((dedup l).map encOut ++ List.replicate (l.length - (dedup l).length) zeroO)))) n) :
  ACallP Tryz.prog 125 [.sl o gn 6 0 m, .fn (.func 126) [] []] h n K := by
 subst hm
 exact compactR_call l gn hl hf ho hon hK
theorem swo_outR : Go.Sort.SWO (fun a b : OutD => decide (cmpO a b < 0)) := by
 refine ⟨fun x => ?_, fun x y z h1 h2 => ?_, fun x y z h1 h2 => ?_⟩
 ·have := cmp_out.swap x x
  simp; omega
 ·simp only [decide_eq_true_eq] at h1 h2 ⊢
  have t := cmp_out.tr x y z (by omega) (by omega)
  rcases Int.lt_or_eq_of_le t with h | h
  ·exact h
  ·have e := (cmp_out.eq _ _).1 h
   subst e
   have := cmp_out.swap x y
   omega
 ·simp only [decide_eq_false_iff_not] at h1 h2 ⊢
  have s1 := cmp_out.swap x y
  have s2 := cmp_out.swap y z
  have s3 := cmp_out.swap x z
  have t := cmp_out.tr z y x (by omega) (by omega)
  omega
theorem sortR_call (l : List OutD) (hf : ∀ o ∈ l, FitsP o.pos) (hl : l.length < 4611686018427387904) {h : Heap} {n o gn : Nat} (ho : h o = some (.rows true gn 6 (l.map encOut))) {K : CallK}
  (hK : K (.tup []) (upd h o (some (.rows true gn 6 ((sortC cmpO l).map encOut)))) n) :
  ACallP Tryz.prog 123 [.sl o gn 6 0 l.length, .fn (.func 124) [] []] h n K := by
 refine ACallP.sortFunc zsort (k := 6) (by omega) Tryz.isAgg112 Tryz.sizeOf112 encOut (fun _ => rfl) ?_ (fun o => FitsP o.pos) cmpO swo_outR _ (fun x y hx hy => rOrder_pure x y hx hy) ?_ l hf hl ho ?_
 ·intro x
  simp [go_sem]
 ·exact (rOrder_pure default default (by unfold FitsP Fits; decide) (by unfold FitsP Fits; decide)).1
 ·intro l' hp hs
  have : sortC cmpO l = l' := sortC_unique cmp_out hp (hs.imp fun {a b} hab => by
   have := cmp_out.swap a b
   simp only [leC, decide_eq_true_eq]
   omega)
  rw [← this]
  exact hK
end Go.Av
end
section
/- The body of slices.SortFunc here is the one that the kit knows: laid in plain words (printed by laysort.py). -/
namespace Go.Proofs
open Go.Shelf
def zsortP_ren : Go.Shelf.Ren := ⟨fun | 6 => 140 | 15 => 175 | 14 => 189 | 28 => 228 | 29 => 229 | 20 => 244 | 21 => 245 | 22 => 246 | 23 => 247 | 24 => 248 | 25 => 249 | 26 => 250 | 27 => 251 | 46 => 278 | 47 => 270 | 48 => 271 | 49 => 279 | 50 => 280 | 57 => 290 | n => n, fun | 22 => 47 | 24 => 45 | 25 => 80 | 3 => 3 | 39 => 219 | 0 => 0 | 53 => 280 | 55 => 282 | 4 => 4 | 46 => 274 | 45 => 273 | 50 => 62 | 5 => 5 | 9 => 9 | 66 => 313 | 70 => 317 | 76 => 341 | 77 => 203 | n => n, fun n => n⟩
theorem zsortP : Go.Proofs.SlLaysF0.n6 Tryz.prog zsortP_ren := {
 mixed := by kernel_rfl
 f6 := ⟨Tryz.f140.name, by decide, Tryz.func140.trans (congrArg some (by kernel_rfl))⟩
 f14 := ⟨Tryz.f189.name, by decide, Tryz.func189.trans (congrArg some (by kernel_rfl))⟩
 f15 := Tryz.func175.trans (congrArg some (by kernel_rfl))
 f20 := ⟨Tryz.f244.name, by decide, Tryz.func244.trans (congrArg some (by kernel_rfl))⟩
 f21 := ⟨Tryz.f245.name, by decide, Tryz.func245.trans (congrArg some (by kernel_rfl))⟩
 f22 := ⟨Tryz.f246.name, by decide, Tryz.func246.trans (congrArg some (by kernel_rfl))⟩
 f23 := ⟨Tryz.f247.name, by decide, Tryz.func247.trans (congrArg some (by kernel_rfl))⟩
 f24 := ⟨Tryz.f248.name, by decide, Tryz.func248.trans (congrArg some (by kernel_rfl))⟩
 f25 := ⟨Tryz.f249.name, by decide, Tryz.func249.trans (congrArg some (by kernel_rfl))⟩
 f26 := ⟨Tryz.f250.name, by decide, Tryz.func250.trans (congrArg some (by kernel_rfl))⟩
 f27 := ⟨Tryz.f251.name, by decide, Tryz.func251.trans (congrArg some (by kernel_rfl))⟩
 f28 := Tryz.func228.trans (congrArg some (by kernel_rfl))
 f29 := Tryz.func229.trans (congrArg some (by kernel_rfl))
 f46 := ⟨Tryz.f278.name, by decide, Tryz.func278.trans (congrArg some (by kernel_rfl))⟩
 f47 := Tryz.func270.trans (congrArg some (by kernel_rfl))
 f48 := Tryz.func271.trans (congrArg some (by kernel_rfl))
 f49 := ⟨Tryz.f279.name, by decide, Tryz.func279.trans (congrArg some (by kernel_rfl))⟩
 f50 := ⟨Tryz.f280.name, by decide, Tryz.func280.trans (congrArg some (by kernel_rfl))⟩
 f57 := ⟨Tryz.f290.name, by decide, Tryz.func290.trans (congrArg some (by kernel_rfl))⟩
 t0 := Tryz.underlying0
 a0 := Tryz.isAgg0
 z0 := Tryz.sizeOf0
 v0 := Tryz.zeroValue0
 t3 := Tryz.underlying3
 a3 := Tryz.isAgg3
 z3 := Tryz.sizeOf3
 v3 := Tryz.zeroValue3
 t4 := Tryz.underlying4
 a4 := Tryz.isAgg4
 z4 := Tryz.sizeOf4
 v4 := Tryz.zeroValue4
 t5 := Tryz.underlying5
 a5 := Tryz.isAgg5
 z5 := Tryz.sizeOf5
 v5 := Tryz.zeroValue5
 t9 := Tryz.underlying9
 a9 := Tryz.isAgg9
 z9 := Tryz.sizeOf9
 v9 := Tryz.zeroValue9
 t22 := Tryz.underlying47
 a22 := Tryz.isAgg47
 z22 := Tryz.sizeOf47
 v22 := Tryz.zeroValue47
 t25 := Tryz.underlying80
 a25 := Tryz.isAgg80
 z25 := Tryz.sizeOf80
 v25 := Tryz.zeroValue80
 t39 := Tryz.underlying219
 a39 := Tryz.isAgg219
 z39 := Tryz.sizeOf219
 v39 := Tryz.zeroValue219
 t45 := Tryz.underlying273
 a45 := Tryz.isAgg273
 z45 := Tryz.sizeOf273
 v45 := Tryz.zeroValue273
 t46 := Tryz.underlying274
 a46 := Tryz.isAgg274
 z46 := Tryz.sizeOf274
 v46 := Tryz.zeroValue274
 t50 := Tryz.underlying62
 a50 := Tryz.isAgg62
 z50 := Tryz.sizeOf62
 v50 := Tryz.zeroValue62
 t53 := Tryz.underlying280
 a53 := Tryz.isAgg280
 z53 := Tryz.sizeOf280
 v53 := Tryz.zeroValue280
 t55 := Tryz.underlying282
 a55 := Tryz.isAgg282
 z55 := Tryz.sizeOf282
 v55 := Tryz.zeroValue282
 t66 := Tryz.underlying313
 a66 := Tryz.isAgg313
 z66 := Tryz.sizeOf313
 v66 := Tryz.zeroValue313
 t70 := Tryz.underlying317
 a70 := Tryz.isAgg317
 z70 := Tryz.sizeOf317
 v70 := Tryz.zeroValue317
 t76 := Tryz.underlying341
 a76 := Tryz.isAgg341
 z76 := Tryz.sizeOf341
 v76 := Tryz.zeroValue341
 t77 := Tryz.underlying203
 a77 := Tryz.isAgg203
 z77 := Tryz.sizeOf203
 v77 := Tryz.zeroValue203 }
end Go.Proofs
end
section
/- Contracts: slices.CompactFunc and slices.SortFunc of positions, as pos.Sort asks for them (printed by genGH.py). -/
open Go Go.Proofs
namespace Go.Av
def zeroQ : List AV := [.v (.slice none 0 0), .v (.slice none 0 0), .v (.slice none 0 0), .v (.int .i64 0), .v (.int .i64 0)]
theorem CompactP_owns (l : List PosD) (gn : Nat) (hl : l.length ≤ 17179869184) (hf : ∀ o ∈ l, FitsP o) :
  OwnsA Tryz.prog 141 [.sl 0 gn 5 0 l.length, .fn (.func 142) [] []] [(0, .rows true gn 5 (l.map encPos))] 1
   (.sl 0 gn 5 0 (dedup l).length) [(0, .rows true gn 5 ((dedup l).map encPos ++ List.replicate (l.length - (dedup l).length) zeroQ))] 1 := by
 unfold OwnsA
 by_cases h2 : l.length < 2
 ·rw [dedup_short h2]
  refine ACallP.of_awp (by kernel_rfl) Tryz.func141 rfl rfl (Nat.le_of_ble_eq_true rfl) (by kernel_rfl) ?_
  (repeat (first|with_reducible refine wV fun _=>?_|simp [go_sem]))
  (refine aIf.mkL (fun hT => ?_) (fun hT => by first | omega | (simp at hT; omega)); clear hT)
  (repeat (first|with_reducible refine wV fun _=>?_|simp [go_sem]))
  simp [go_sem, Wk_eq]
 obtain ⟨D, hD⟩ : ∃ D, D = dedup l := ⟨_, rfl⟩
 rw [← hD]
 have hE : ∀ i j, i < l.length → j < l.length → Pure Tryz.prog 142 [.agg (encPos (nth l i)), .agg (encPos (nth l j))] (.v (.bool (decide (nth l i = nth l j)))) :=
  fun i j hi hj => psort1_pure _ _ (hf _ (nth_mem hi)) (hf _ (nth_mem hj))
 refine ACallP.of_awp (by kernel_rfl) Tryz.func141 rfl rfl (Nat.le_of_ble_eq_true rfl) (by kernel_rfl) ?_
 (repeat (first|with_reducible refine wV fun _=>?_|simp [go_sem]))
 (refine aIf.mkL (fun hF => by first | omega | (simp at hF; omega)) (fun hF => ?_); clear hF)
 (repeat (first|with_reducible refine wV fun _=>?_|simp [go_sem]))
 refine ALoop.start (ALoop.ind (α := Nat) (fun j => ⟨[(0, .sl 0 gn 5 0 l.length), (1, .fn (.func 142) [] []), (5, .v (.int .i64 j))], [(0, .rows true gn 5 (l.map encPos))], 1⟩)
  (fun d j => 1 ≤ j ∧ j + d = l.length ∧ D = l.take j ++ dedupGo (nth l (j - 1)) (l.drop j)) ?_ (l.length - 1) 1 ?_) ?_ ?_
 ·rintro d j ⟨i1, i2, i3⟩ hrec
  have e1 : ((j : Int) - 1).toNat = j - 1 := by omega
  (repeat (first|with_reducible refine wV fun _=>?_|simp [go_sem]))
  refine aIf.mkL (fun hj => ?_) (fun hj => ?_) <;> simp at hj
  ·have hj' : j - 1 < l.length := by omega
   rw [dropG_cons hj, dedupGo] at i3
   (repeat (first|with_reducible refine wV fun _=>?_|simp [go_sem, hj, hj', e1]))
   refine dCall.plain (hE j (j - 1) hj hj') (by simp [go_sem]) ?_
   (repeat (first|with_reducible refine wV fun _=>?_|simp [go_sem, hj, hj', e1]))
   by_cases he : nth l j = nth l (j - 1)
   ·rw [if_pos he] at i3
    (repeat (first|with_reducible refine wV fun _=>?_|simp [go_sem, he, hj, hj', e1]))
    refine ALoop.start (ALoop.ind (α := Nat × List PosD × Nat) (fun a => ⟨[(0, .sl 0 gn 5 0 l.length), (1, .fn (.func 142) [] []), (5, .v (.int .i64 a.2.2)), (6, .sl 0 gn 5 j (l.length - j)), (7, .v (.int .i64 a.1))], [(0, .rows true gn 5 (a.2.1.map encPos))], 1⟩)
     (fun d a => 1 ≤ a.1 ∧ j + a.1 + d = l.length ∧ a.2.1.length = l.length ∧ a.2.2 ≤ j + a.1 - 1 ∧ a.2.1.drop (j + a.1 - 1) = l.drop (j + a.1 - 1) ∧ D = a.2.1.take a.2.2 ++ dedupGo (nth l (j + a.1 - 1)) (l.drop (j + a.1))) ?_ (l.length - j - 1) (1, l, j) ?_) ?_ ?_
    ·rintro d2 ⟨k2, R, k⟩ ⟨j1, j2, j3, j4, j5, j6⟩ hrec2
     simp only at j1 j2 j3 j4 j5 j6
     have e2 : ((k2 : Int) - 1).toNat = k2 - 1 := by omega
     have e3 : j + (k2 - 1) = j + k2 - 1 := by omega
     have hRn : ∀ m, j + k2 - 1 ≤ m → m < l.length → nth R m = nth l m := fun m h1 h2 => by
      have h3 : (R.drop (j + k2 - 1))[m - (j + k2 - 1)]? = (l.drop (j + k2 - 1))[m - (j + k2 - 1)]? := by rw [j5]
      rw [List.getElem?_drop, List.getElem?_drop, show j + k2 - 1 + (m - (j + k2 - 1)) = m by omega, List.getElem?_eq_getElem (by omega), List.getElem?_eq_getElem h2] at h3
      rw [nth_eq _ _ (by omega), nth_eq _ _ h2]
      exact Option.some.inj h3
     (repeat (first|with_reducible refine wV fun _=>?_|simp [go_sem, j3]))
     refine aIf.mkL (fun hk => ?_) (fun hk => ?_) <;> simp at hk
     ·have hk1 : j + k2 < l.length := by omega
      have hk0 : j + k2 - 1 < l.length := by omega
      have hr1 := hRn (j + k2) (by omega) hk1
      have hr0 := hRn (j + k2 - 1) (by omega) hk0
      rw [dropG_cons hk1, dedupGo] at j6
      have hk2 : k2 - 1 < l.length - j := by omega
      have hk3 : k < l.length := by omega
      (repeat (first|with_reducible refine wV fun _=>?_|simp [go_sem, j3, hk, hk1, hk0, hr1, hr0, e2, e3, hk2]))
      refine dCall.plain (hE (j + k2) (j + k2 - 1) hk1 hk0) (by simp [go_sem]) ?_
      (repeat (first|with_reducible refine wV fun _=>?_|simp [go_sem, j3, hk, hk1, hk0, hr1, hr0, e2, e3, hk2]))
      by_cases hc : nth l (j + k2) = nth l (j + k2 - 1)
      ·rw [if_pos hc] at j6
       (repeat (first|with_reducible refine wV fun _=>?_|simp [go_sem, hc]))
       refine ALoop.start (hrec2 (d2 - 1) (by omega) (k2 + 1, R, k) ⟨by simp only; omega, by simp only; omega, j3, by simp only; omega, ?_, ?_⟩) ?_ (by simp)
       ·have := congrArg (List.drop 1) j5
        rw [List.drop_drop, List.drop_drop] at this
        rw [show j + (k2 + 1) - 1 = j + k2 - 1 + 1 by omega]
        exact this
       ·simp only
        rw [show j + (k2 + 1) - 1 = j + k2 by omega, hc]
        exact j6
       ·simp [go_sem, Wk_eq]
      ·rw [if_neg hc] at j6
       (repeat (first|with_reducible refine wV fun _=>?_|simp [go_sem, hc, j3, hk, hk1, hk0, hr1, hr0, e2, e3, hk2, hk3]))
       refine ALoop.start (hrec2 (d2 - 1) (by omega) (k2 + 1, R.set k (nth l (j + k2)), k + 1) ⟨by simp only; omega, by simp only; omega, by simpa using j3, by simp only; omega, ?_, ?_⟩) ?_ (by simp)
       ·have := congrArg (List.drop 1) j5
        rw [List.drop_drop, List.drop_drop] at this
        simp only
        rw [show j + (k2 + 1) - 1 = j + k2 - 1 + 1 by omega, List.drop_set, if_pos (by omega)]
        exact this
       ·simp only
        rw [show j + (k2 + 1) - 1 = j + k2 by omega, List.take_add_one, List.take_set_of_le (by omega), List.getElem?_set_self (by omega), Option.toList_some, List.append_assoc]
        exact j6
       ·have hb : ∀ n, ∀ r ∈ ((R.set k (nth l (j + k2))).map encPos), ∀ c ∈ r, Bel n c := fun n => of_eq_true bel_P
        rw [List.map_set] at hb
        simp [go_sem, Wk_eq, List.map_set]
        exact hb 1
     ·rw [List.drop_eq_nil_of_le (by omega), dedupGo, List.append_nil] at j6
      have hDl : D.length = k := by rw [j6, List.length_take]; omega
      have hd0 : List.drop (k + (l.length - k)) (R.map encPos) = [] := List.drop_eq_nil_of_le (by simp; omega)
      have hDm : D.map encPos = List.take k (R.map encPos) := by rw [j6, List.map_take]
      (repeat (first|with_reducible refine wV fun _=>?_|simp [go_sem]))
      simp [go_sem, Wk_eq, hd0, hDl, hDm, zeroQ]
      exact fun x hx => of_eq_true (bel_P (n := 1) (l := R)) x (List.mem_of_mem_take hx)
    ·refine ⟨Nat.le_refl _, by simp only; omega, rfl, by simp only; omega, rfl, ?_⟩
     simp only
     rw [Nat.add_sub_cancel, he]
     exact i3
    ·simp [go_sem, Wk_eq]
    ·simp
   ·rw [if_neg he] at i3
    (repeat (first|with_reducible refine wV fun _=>?_|simp [go_sem, he, hj, hj', e1]))
    refine ALoop.start (hrec (d - 1) (by omega) (j + 1) ⟨by omega, by omega, ?_⟩) ?_ (by simp)
    ·rw [i3, Nat.add_sub_cancel, List.take_add_one, List.getElem?_eq_getElem hj, nth_eq _ _ hj, Option.toList_some, List.append_assoc]; rfl
    ·simp [go_sem, Wk_eq]
  ·rw [List.drop_eq_nil_of_le hj, List.take_of_length_le hj, dedupGo, List.append_nil] at i3
   rw [i3]
   (repeat (first|with_reducible refine wV fun _=>?_|simp [go_sem]))
   simp [go_sem, Wk_eq]
 ·refine ⟨Nat.le_refl _, by omega, ?_⟩
  cases l with
  | nil => simp at h2
  | cons a l => rw [hD]; rfl
 ·simp [go_sem, Wk_eq]
 ·simp
theorem bel_map_pos {n : Nat} (l : List PosD) : ∀ r ∈ l.map encPos, ∀ c ∈ r, Bel n c := of_eq_true bel_P
theorem compactP_call (l : List PosD) (gn : Nat) (hl : l.length ≤ 17179869184) (hf : ∀ o ∈ l, FitsP o) {h : Heap} {n o : Nat} (ho : h o = some (.rows true gn 5 (l.map encPos))) (hon : o < n) {K : CallK}
  (hK : K (.sl o gn 5 0 (dedup l).length) (upd h o (some (.rows true gn 5 ((dedup l).map encPos ++ List.replicate (l.length - (dedup l).length) zeroQ)))) n) :
  ACallP Tryz.prog 141 [.sl o gn 5 0 l.length, .fn (.func 142) [] []] h n K := by
 have hz : ∀ m, ∀ r ∈ (dedup l).map encPos ++ List.replicate (l.length - (dedup l).length) zeroQ, ∀ c ∈ r, Bel m c := by
  intro m r hr c hc
  rcases List.mem_append.1 hr with hr | hr
  ·exact bel_map_pos _ r hr c hc
  ·rw [List.eq_of_mem_replicate hr] at hc
   simp only [zeroQ, List.mem_cons, List.not_mem_nil, or_false] at hc
   rcases hc with rfl | rfl | rfl | rfl | rfl <;> exact .v _
 refine ACallP.ownsA (args' := [.sl o gn 5 0 l.length, .fn (.func 142) [] []]) (HH := [(o, .rows true gn 5 ((dedup l).map encPos ++ List.replicate (l.length - (dedup l).length) zeroQ))])
  [o] h (CompactP_owns l gn hl hf) (by simp) (by simpa using hon) rfl (Nat.le_refl _) (.refl _) ?_ ?_ (.refl _ _ _ _) ?_ ?_ ?_ (.sl rfl) ?_ ?_
 ·intro j hj
  obtain rfl : j = 0 := by omega
  exact ⟨_, _, rfl, ho, .rows (.same (bel_map_pos _))⟩
 ·intro p hp
  simp only [List.mem_singleton] at hp
  subst hp
  exact ⟨Nat.le_of_ble_eq_true rfl, bel_map_pos _⟩
 ·intro y hy
  simp only [List.mem_cons, List.not_mem_nil, or_false] at hy
  rcases hy with rfl | rfl
  ·exact .sl hon
  ·simp [go_sem]
 ·exact .cons (.sl rfl) (.cons (.same (by simp [go_sem])) .nil)
 ·intro y hy
  simp only [List.mem_cons, List.not_mem_nil, or_false] at hy
  rcases hy with rfl | rfl
  ·exact .sl (by decide)
  ·simp [go_sem]
 ·exact .cons rfl (.rows (.same (hz 0))) .nil
 ·have e : over [(o, .rows true gn 5 ((dedup l).map encPos ++ List.replicate (l.length - (dedup l).length) zeroQ))] (remH [o] h) = upd h o (some (.rows true gn 5 ((dedup l).map encPos ++ List.replicate (l.length - (dedup l).length) zeroQ))) := by
   funext j
   simp only [over, remH, upd]
   by_cases j1 : j = o
   ·simp [j1]
   ·simp [j1]
  rw [e, Nat.sub_self, Nat.add_zero]
  exact hK
theorem compactP_call2 (l : List PosD) (gn m : Nat) (hm : l.length = m) (hl : m ≤ 17179869184) (hf : ∀ o ∈ l, FitsP o) {h : Heap} {n o : Nat} (ho : h o = some (.rows true gn 5 (l.map encPos))) (hon : o < n) {K : CallK}
  (hK : K (.sl o gn 5 0 (dedup l).length) (upd h o (some (.rows true gn 5 ((dedup l).map encPos ++ List.replicate (l.length - (dedup l).length) zeroQ)))) n) :
  ACallP Tryz.prog 141 [.sl o gn 5 0 m, .fn (.func 142) [] []] h n K := by
 subst hm
 exact compactP_call l gn hl hf ho hon hK
theorem swo_pos : Go.Sort.SWO (fun a b : PosD => decide (cmpP a b < 0)) := by
 refine ⟨fun x => ?_, fun x y z h1 h2 => ?_, fun x y z h1 h2 => ?_⟩
 ·have := cmp_pos.swap x x
  simp; omega
 ·simp only [decide_eq_true_eq] at h1 h2 ⊢
  have t := cmp_pos.tr x y z (by omega) (by omega)
  rcases Int.lt_or_eq_of_le t with h | h
  ·exact h
  ·have e := (cmp_pos.eq _ _).1 h
   subst e
   have := cmp_pos.swap x y
   omega
 ·simp only [decide_eq_false_iff_not] at h1 h2 ⊢
  have s1 := cmp_pos.swap x y
  have s2 := cmp_pos.swap y z
  have s3 := cmp_pos.swap x z
  have t := cmp_pos.tr z y x (by omega) (by omega)
  omega
theorem sortP_call (l : List PosD) (hf : ∀ o ∈ l, FitsP o) (hl : l.length < 4611686018427387904) {h : Heap} {n o gn : Nat} (ho : h o = some (.rows true gn 5 (l.map encPos))) {K : CallK}
  (hK : K (.tup []) (upd h o (some (.rows true gn 5 ((sortC cmpP l).map encPos)))) n) :
  ACallP Tryz.prog 140 [.sl o gn 5 0 l.length, .fn (.func 42) [] []] h n K := by
 refine ACallP.sortFunc zsortP (k := 5) (by omega) Tryz.isAgg45 Tryz.sizeOf45 encPos (fun _ => rfl) ?_ (fun o => FitsP o) cmpP swo_pos _ (fun x y hx hy => pCompare_pure x y hx hy) ?_ l hf hl ho ?_
 ·intro x
  simp [go_sem]
 ·exact (pCompare_pure default default (by unfold FitsP Fits; decide) (by unfold FitsP Fits; decide)).1
 ·intro l' hp hs
  have : sortC cmpP l = l' := sortC_unique cmp_pos hp (hs.imp fun {a b} hab => by
   have := cmp_pos.swap a b
   simp only [leC, decide_eq_true_eq]
   omega)
  rw [← this]
  exact hK
end Go.Av
end
section
/- Contracts: slices.Clone of positions, pos.Sort, run.Runs. -/
open Go Go.Proofs
namespace Go.Av
theorem CloneP_owns (l : List PosD) (hl : l.length ≤ 17179869184) : Owns Tryz.prog 139 [encPs l] (fun n => .sl n 1 5 0 l.length) (fun n => [(n, .rows true 1 5 (l.map encPos))]) 1 := by
 refine ⟨?_, fun n => ⟨by simp [go_sem], by simp [go_sem]⟩⟩
 refine ACallP.emp (fun hne => ?_) (fun he A c => ?_)
 ·obtain ⟨x, l, rfl⟩ := List.exists_cons_of_ne_nil (show l ≠ [] by intro h; subst h; exact hne rfl)
  simp only [List.length_cons] at hl
  refine ACallP.of_awp (by kernel_rfl) Tryz.func139 rfl rfl (Nat.le_of_ble_eq_true rfl) (by kernel_rfl) ?_
  (repeat (first|with_reducible refine wV fun _=>?_|simp [go_sem]))
  simp [go_sem, Wk_eq]
 ·obtain rfl : l = [] := by simpa using he
  refine ACallP.of_awp (by kernel_rfl) Tryz.func139 rfl rfl (Nat.le_of_ble_eq_true rfl) (by kernel_rfl) ?_
  (repeat (first|with_reducible refine wV fun _=>?_|simp [go_sem]))
  refine aIf.mkL (fun h => ?_) (fun h => ?_)
  ·simp at h
   subst h
   simp [go_sem, Wk_eq]
  ·simp [go_sem, Wk_eq]
theorem pSort_pure (l : List PosD) (hl : l.length ≤ 17179869184) (hf : ∀ p ∈ l, FitsP p) : Pure Tryz.prog 76 [encPs l] (encPs (sortU cmpP l)) := by
 refine pF Tryz.func76 ?_
 have hC := CloneP_owns l hl
 (repeat (first|with_reducible refine wV fun _=>?_|simp [go_sem]))
 refine ACallP.ownsPlain hC (by simp [go_sem]) ?_
 (repeat (first|with_reducible refine wV fun _=>?_|simp [go_sem]))
 refine sortP_call l hf (by omega) (o := 0) (gn := 1) (by simp [upd]) ?_
 (repeat (first|with_reducible refine wV fun _=>?_|simp [go_sem]))
 refine compactP_call2 (sortC cmpP l) 1 l.length (sortC_len l) (by omega) (fun p hp => hf p (sortC_mem.1 hp)) (o := 0) (by simp [upd]) (by omega) ?_
 (repeat (first|with_reducible refine wV fun _=>?_|simp [go_sem]))
 exact leV_frz rfl (by simp) (by simp [noH, upd]) (by rw [List.drop_zero]; exact List.take_left' (by simp))
theorem rRun_call (g : GameD) (hg : GOk g) (p : PosD) (hp : POk g p) (cell i : Int) (hc : ChoiceOk g p cell i) {h : Heap} {n a b : Nat} (hd : [a, b].Nodup) (hlt : ∀ j ∈ [a, b], j < n)
  (ha : h a = some (.rows true 0 5 [encPos p])) (hb : h b = some (.rows true 0 1 [[AV.nils]])) {K : CallK}
  (hK : K (.v (.int .i64 0)) (upd (upd (upd h a (some (.rows true 0 5 [encPos p]))) b (some (.rows true 0 1 [[.sl (n + 245) (lastO g p cell i).length 6 0 (lastO g p cell i).length]]))) (n + 245) (some (.rows true (lastO g p cell i).length 6 ((lastO g p cell i).map encOut)))) (n + 246)) :
  ACallP Tryz.prog 119 [.agg (encGame g), .agg (encPos p), .v (.int .i64 cell), .v (.int .i64 i), .fn (.func 120) [] [.ref a 0 5 0 0, .ref b 0 1 0 0]] h n K := by
 have hbg : ∀ m, Bel m (.agg (encGame g)) := fun m => by simp [go_sem]
 have hbp : ∀ m, ∀ c ∈ encPos p, Bel m c := fun m => by simp [go_sem]
 have hbq : ∀ m, Bel m (.agg (encPos p)) := fun m => by simp [go_sem]
 have han := hlt a (by simp)
 have hbn := hlt b (by simp)
 have hrows : ∀ m, ∀ r ∈ [encPos p], ∀ c ∈ r, Bel m c := fun m r hr => by simp only [List.mem_singleton] at hr; subst hr; exact hbp m
 refine ACallP.ownsA (args' := [.agg (encGame g), .agg (encPos p), .v (.int .i64 cell), .v (.int .i64 i), .fn (.func 120) [] [.ref a 0 5 0 0, .ref b 0 1 0 0]])
  (HH := [(a, .rows true 0 5 [encPos p]), (b, .rows true 0 1 [[.sl (n + 245) (lastO g p cell i).length 6 0 (lastO g p cell i).length]]), (n + 245, .rows true (lastO g p cell i).length 6 ((lastO g p cell i).map encOut))])
  [a, b] h (run_owns g hg p hp cell i hc) hd hlt rfl (by omega) (.refl _) ?_ ?_ (.refl _ _ _ _) ?_ ?_ ?_ (.same (.v _)) ?_ ?_
 ·intro j hj
  rcases (show j = 0 ∨ j = 1 by omega) with rfl | rfl
  ·exact ⟨_, _, rfl, ha, .rows (.same (hrows _))⟩
  ·exact ⟨_, _, rfl, hb, .rows (.same (by simp [go_sem]))⟩
 ·intro q hq
  simp only [List.mem_cons, List.not_mem_nil, or_false] at hq
  rcases hq with rfl | rfl
  ·exact ⟨Nat.le_of_ble_eq_true rfl, hrows _⟩
  ·exact ⟨Nat.le_of_ble_eq_true rfl, by simp [go_sem, BelO]⟩
 ·simp [go_sem, han, hbn]
 ·exact .cons (.same (hbg _)) (.cons (.same (hbq _)) (.cons (.same (.v _)) (.cons (.same (.v _)) (.cons (.fn .nil (.cons (.ref rfl) (.cons (.ref rfl) .nil))) .nil))))
 ·simp [go_sem]
 ·exact .cons rfl (.rows (.same (hrows _))) (.cons rfl (.rows (.cons (.cons (.sl rfl) .nil) .nil)) (.cons rfl (.rows (.same (bel_map_out _))) .nil))
 ·have e : over [(a, .rows true 0 5 [encPos p]), (b, .rows true 0 1 [[.sl (n + 245) (lastO g p cell i).length 6 0 (lastO g p cell i).length]]), (n + 245, .rows true (lastO g p cell i).length 6 ((lastO g p cell i).map encOut))] (remH [a, b] h) =
    upd (upd (upd h a (some (.rows true 0 5 [encPos p]))) b (some (.rows true 0 1 [[.sl (n + 245) (lastO g p cell i).length 6 0 (lastO g p cell i).length]]))) (n + 245) (some (.rows true (lastO g p cell i).length 6 ((lastO g p cell i).map encOut))) := by
   simp only [List.nodup_cons, List.mem_cons, List.not_mem_nil, or_false, not_or, List.nodup_nil, and_true, not_false_eq_true] at hd
   have na : a ≠ n + 245 := by omega
   have nb : b ≠ n + 245 := by omega
   funext j
   simp only [over, remH, upd]
   by_cases j1 : j = a
   ·subst j1; simp [hd, na]
   ·by_cases j2 : j = b
    ·subst j2; simp [j1, nb]
    ·by_cases j3 : j = n + 245
     ·subst j3; simp [j1, j2]
     ·simp [j1, j2, j3]
  rw [e]
  exact hK
theorem rRuns_pure (g : GameD) (hg : GOk g) (p : PosD) (hp : POk g p) (cell i : Int) (hc : ChoiceOk g p cell i) :
  Pure Tryz.prog 61 [.agg (encGame g), .agg (encPos p), .v (.int .i64 cell), .v (.int .i64 i)] (.tup [encOs (runsP g p cell i), .v (.int .i64 0)]) := by
 refine pF Tryz.func61 ?_
 have hl := (lastS_ok hg hp hc)
 have hll : (lastO g p cell i).length ≤ 100000000 := Nat.le_trans (List.length_filterMap_le _ _) hl.2
 have hf : ∀ o ∈ lastO g p cell i, FitsP o.pos := by
  intro o ho
  obtain ⟨s, hs, h⟩ := List.mem_filterMap.1 ho
  exact (putS_ok hg (hl.1 s hs).1 hp.s h).1.fits hg
 have hr : runsP g p cell i = sortU cmpO (lastO g p cell i) := rfl
 rw [hr]
 (repeat (first|with_reducible refine wV fun _=>?_|simp [go_sem]))
 refine rRun_call g hg p hp cell i hc (a := 1) (b := 2) (by decide) (by simp) (by simp [upd, encPos, encIs]) (by simp [upd]) ?_
 generalize lastO g p cell i = l at *
 (repeat (first|with_reducible refine wV fun _=>?_|simp [go_sem]))
 refine sortR_call l hf (by omega) (o := 248) (gn := l.length) (by simp [upd]) ?_
 (repeat (first|with_reducible refine wV fun _=>?_|simp [go_sem]))
 refine compactR_call2 (sortC cmpO l) l.length l.length (sortC_len l) (by omega) (fun o ho => hf o (sortC_mem.1 ho)) (o := 248) (by simp [upd]) (by omega) ?_
 (repeat (first|with_reducible refine wV fun _=>?_|simp [go_sem]))
 exact leV_frz rfl (by simp) (by simp [noH, upd]) (by rw [List.drop_zero]; exact List.take_left' (by simp))
end Go.Av
end
section
/- Contracts: run.Drops. -/
open Go Go.Proofs
namespace Go.Av
theorem rDrops_pure (g : GameD) (hg : GOk g) (p : PosD) (hp : POk g p) : Pure Tryz.prog 77 [.agg (encGame g), .agg (encPos p)] (encPs (dropsP g p)) := by
 refine pF Tryz.func77 ?_
 have hal := hp.al
 have c9 := hg.c9
 have k6 := hg.k6
 have hcp := own_owns ⟨p, 0, 0, false⟩ (hp.fits hg)
 have hl0 := hp.h0.len
 have hl1 := hp.h1.len
 have hps := hp.s
 rcases hp.s with hsd | hsd
 ·have hsn : p.side.toNat = 0 := by omega
  (repeat (first|with_reducible refine wV fun _=>?_|simp [go_sem, hsn, hsd]))
  refine ALoop.start (ALoop.ind (α := Nat) (fun k => ⟨[(3, .ref 1 0 5 0 0), (5, .sl 2 (dropsK g p k).length 5 0 (dropsK g p k).length), (15, encIs p.h0), (16, .v (.int .i64 p.h0.length)), (17, .v (.int .i64 k))], [(1, .rows true 0 5 [encPos p]), (2, .rows true (dropsK g p k).length 5 ((dropsK g p k).map encPos))], 3⟩)
   (fun d k => k + d = g.kinds.length) ?_ g.kinds.length 0 ?_) ?_ ?_
  ·rintro d k k1 hrec
   (repeat (first|with_reducible refine wV fun _=>?_|simp [go_sem]))
   refine aIf.mkL (fun hk => ?_) (fun hk => ?_) <;> simp at hk
   ·have hz := dropsC_zero g p k
    have ha := dropsC_all g p k
    have hkh : k < p.h0.length := by omega
    have hhv := hp.h0.v k hkh
    (repeat (first|with_reducible refine wV fun _=>?_|simp [go_sem, hkh]))
    refine ALoop.start (ALoop.ind (α := Nat) (fun c => ⟨[(3, .ref 1 0 5 0 0), (5, .sl 2 (dropsC g p k c).length 5 0 (dropsC g p k c).length), (6, .v (.int .i64 k)), (7, .v (.int .i64 (nth p.h0 k))), (15, encIs p.h0), (16, .v (.int .i64 p.h0.length)), (17, .v (.int .i64 k)), (23, encIs p.at_), (24, .v (.int .i64 p.at_.length)), (25, .v (.int .i64 c))], [(1, .rows true 0 5 [encPos p]), (2, .rows true (dropsC g p k c).length 5 ((dropsC g p k c).map encPos))], 3⟩)
     (fun d c => c + d = p.at_.length) ?_ p.at_.length 0 ?_) ?_ ?_
    ·rintro d2 c c1 hrec2
     (repeat (first|with_reducible refine wV fun _=>?_|simp [go_sem]))
     refine aIf.mkL (fun hci => ?_) (fun hci => ?_) <;> simp at hci
     ·have hD : dropP g p k c = if nth (p.hand p.side) k = 0 ∨ nth p.at_ c ≠ 0 then none
       else some { ({ p with at_ := p.at_.set c (codeOf k p.side) }.withHand p.side ((p.hand p.side).set k (nth (p.hand p.side) k - 1))) with side := 1 - p.side } := rfl
      have hD' : dropP g p k c = if nth p.h0 k = 0 ∨ nth p.at_ c ≠ 0 then none else some { p with at_ := p.at_.set c (codeOf k p.side), h0 := p.h0.set k (nth p.h0 k - 1), side := 1 - p.side } := by
       rw [hD]; simp [PosD.hand, PosD.withHand, hsd]
      have hCd := gCode_pure (k : Int) p.side
      rw [hsd] at hCd hD'
      (repeat (first|with_reducible refine wV fun _=>?_|simp [go_sem, hci]))
      refine aIf.mkL (fun hcc => ?_) (fun hcc => ?_) <;> simp at hcc
      ·rw [if_pos (by omega)] at hD'
       have hsu := dropsC_succ g p k c
       rw [hD'] at hsu
       simp only [Option.toList_none, List.append_nil] at hsu
       (repeat (first|with_reducible refine wV fun _=>?_|simp [go_sem]))
       refine ALoop.start (hrec2 (d2 - 1) (by omega) (c + 1) (by omega)) ?_ (by simp)
       simp [go_sem, Wk_eq, hsd, hsu]
      ·rw [if_neg (by omega)] at hD'
       have hsu := dropsC_succ g p k c
       rw [hD'] at hsu
       simp only [Option.toList_some] at hsu
       have hcl := dropsC_len g p k c
       have hkm : k * p.at_.length ≤ 6 * 9 := Nat.mul_le_mul (by omega) (by omega)
       (repeat (first|with_reducible refine wV fun _=>?_|simp [go_sem, hci]))
       refine ACallP.ownsPlain hcp (by simp [go_sem]) ?_
       (repeat (first|with_reducible refine wV fun _=>?_|simp [go_sem, hci, hsd]))
       refine dCall.plain hCd (by simp [go_sem]) ?_
       (repeat (first|with_reducible refine wV fun _=>?_|simp [go_sem, hsn, hsd, hci, hkh]))
       refine ALoop.start (hrec2 (d2 - 1) (by omega) (c + 1) (by omega)) ?_ (by simp)
       simp [go_sem, Wk_eq, hsd, hsu]
       (first|done|exact rwX)
     ·have hcl : c = p.at_.length := by omega
      subst hcl
      rw [ha]
      (repeat (first|with_reducible refine wV fun _=>?_|simp [go_sem]))
      refine ALoop.start (hrec (d - 1) (by omega) (k + 1) (by omega)) ?_ (by simp)
      simp [go_sem, Wk_eq, hsd]
    ·omega
    ·simp [go_sem, Wk_eq, hsd, hz]
    ·simp
   ·have hkl : k = g.kinds.length := by omega
    subst hkl
    have hdl := dropsK_len g p g.kinds.length
    have hkm : g.kinds.length * p.at_.length ≤ 6 * 9 := Nat.mul_le_mul k6 (by omega)
    have hS := pSort_pure (dropsK g p g.kinds.length) (by omega) (fun q hq => by
     rw [dropsK_all] at hq
     obtain ⟨k, hk, hq⟩ := List.mem_flatMap.1 hq
     obtain ⟨c, hc, hq⟩ := List.mem_filterMap.1 hq
     exact (dropP_ok hg hp (by simpa using hk) hq).1.fits hg)
    rw [show sortU cmpP (dropsK g p g.kinds.length) = dropsP g p from rfl] at hS
    generalize dropsK g p g.kinds.length = l at *
    generalize dropsP g p = r at *
    (repeat (first|with_reducible refine wV fun _=>?_|simp [go_sem]))
    refine ACallP.pureF [2] hS ?_ (bel1 (bel_encPs _)) ?_
    ·(first|done|exact agX)
    ·(repeat (first|with_reducible refine wV fun _=>?_|simp [go_sem]))
  ·omega
  ·simp [go_sem, Wk_eq, hsd, show dropsK g p 0 = [] from rfl]
  ·simp
 ·have hsn : p.side.toNat = 1 := by omega
  (repeat (first|with_reducible refine wV fun _=>?_|simp [go_sem, hsn, hsd]))
  refine ALoop.start (ALoop.ind (α := Nat) (fun k => ⟨[(3, .ref 1 0 5 0 0), (5, .sl 2 (dropsK g p k).length 5 0 (dropsK g p k).length), (15, encIs p.h1), (16, .v (.int .i64 p.h1.length)), (17, .v (.int .i64 k))], [(1, .rows true 0 5 [encPos p]), (2, .rows true (dropsK g p k).length 5 ((dropsK g p k).map encPos))], 3⟩)
   (fun d k => k + d = g.kinds.length) ?_ g.kinds.length 0 ?_) ?_ ?_
  ·rintro d k k1 hrec
   (repeat (first|with_reducible refine wV fun _=>?_|simp [go_sem]))
   refine aIf.mkL (fun hk => ?_) (fun hk => ?_) <;> simp at hk
   ·have hz := dropsC_zero g p k
    have ha := dropsC_all g p k
    have hkh : k < p.h1.length := by omega
    have hhv := hp.h1.v k hkh
    (repeat (first|with_reducible refine wV fun _=>?_|simp [go_sem, hkh]))
    refine ALoop.start (ALoop.ind (α := Nat) (fun c => ⟨[(3, .ref 1 0 5 0 0), (5, .sl 2 (dropsC g p k c).length 5 0 (dropsC g p k c).length), (6, .v (.int .i64 k)), (7, .v (.int .i64 (nth p.h1 k))), (15, encIs p.h1), (16, .v (.int .i64 p.h1.length)), (17, .v (.int .i64 k)), (23, encIs p.at_), (24, .v (.int .i64 p.at_.length)), (25, .v (.int .i64 c))], [(1, .rows true 0 5 [encPos p]), (2, .rows true (dropsC g p k c).length 5 ((dropsC g p k c).map encPos))], 3⟩)
     (fun d c => c + d = p.at_.length) ?_ p.at_.length 0 ?_) ?_ ?_
    ·rintro d2 c c1 hrec2
     (repeat (first|with_reducible refine wV fun _=>?_|simp [go_sem]))
     refine aIf.mkL (fun hci => ?_) (fun hci => ?_) <;> simp at hci
     ·have hD : dropP g p k c = if nth (p.hand p.side) k = 0 ∨ nth p.at_ c ≠ 0 then none
       else some { ({ p with at_ := p.at_.set c (codeOf k p.side) }.withHand p.side ((p.hand p.side).set k (nth (p.hand p.side) k - 1))) with side := 1 - p.side } := rfl
      have hD' : dropP g p k c = if nth p.h1 k = 0 ∨ nth p.at_ c ≠ 0 then none else some { p with at_ := p.at_.set c (codeOf k p.side), h1 := p.h1.set k (nth p.h1 k - 1), side := 1 - p.side } := by
       rw [hD]; simp [PosD.hand, PosD.withHand, hsd]
      have hCd := gCode_pure (k : Int) p.side
      rw [hsd] at hCd hD'
      (repeat (first|with_reducible refine wV fun _=>?_|simp [go_sem, hci]))
      refine aIf.mkL (fun hcc => ?_) (fun hcc => ?_) <;> simp at hcc
      ·rw [if_pos (by omega)] at hD'
       have hsu := dropsC_succ g p k c
       rw [hD'] at hsu
       simp only [Option.toList_none, List.append_nil] at hsu
       (repeat (first|with_reducible refine wV fun _=>?_|simp [go_sem]))
       refine ALoop.start (hrec2 (d2 - 1) (by omega) (c + 1) (by omega)) ?_ (by simp)
       simp [go_sem, Wk_eq, hsd, hsu]
      ·rw [if_neg (by omega)] at hD'
       have hsu := dropsC_succ g p k c
       rw [hD'] at hsu
       simp only [Option.toList_some] at hsu
       have hcl := dropsC_len g p k c
       have hkm : k * p.at_.length ≤ 6 * 9 := Nat.mul_le_mul (by omega) (by omega)
       (repeat (first|with_reducible refine wV fun _=>?_|simp [go_sem, hci]))
       refine ACallP.ownsPlain hcp (by simp [go_sem]) ?_
       (repeat (first|with_reducible refine wV fun _=>?_|simp [go_sem, hci, hsd]))
       refine dCall.plain hCd (by simp [go_sem]) ?_
       (repeat (first|with_reducible refine wV fun _=>?_|simp [go_sem, hsn, hsd, hci, hkh]))
       refine ALoop.start (hrec2 (d2 - 1) (by omega) (c + 1) (by omega)) ?_ (by simp)
       simp [go_sem, Wk_eq, hsd, hsu]
       (first|done|exact rwX)
     ·have hcl : c = p.at_.length := by omega
      subst hcl
      rw [ha]
      (repeat (first|with_reducible refine wV fun _=>?_|simp [go_sem]))
      refine ALoop.start (hrec (d - 1) (by omega) (k + 1) (by omega)) ?_ (by simp)
      simp [go_sem, Wk_eq, hsd]
    ·omega
    ·simp [go_sem, Wk_eq, hsd, hz]
    ·simp
   ·have hkl : k = g.kinds.length := by omega
    subst hkl
    have hdl := dropsK_len g p g.kinds.length
    have hkm : g.kinds.length * p.at_.length ≤ 6 * 9 := Nat.mul_le_mul k6 (by omega)
    have hS := pSort_pure (dropsK g p g.kinds.length) (by omega) (fun q hq => by
     rw [dropsK_all] at hq
     obtain ⟨k, hk, hq⟩ := List.mem_flatMap.1 hq
     obtain ⟨c, hc, hq⟩ := List.mem_filterMap.1 hq
     exact (dropP_ok hg hp (by simpa using hk) hq).1.fits hg)
    rw [show sortU cmpP (dropsK g p g.kinds.length) = dropsP g p from rfl] at hS
    generalize dropsK g p g.kinds.length = l at *
    generalize dropsP g p = r at *
    (repeat (first|with_reducible refine wV fun _=>?_|simp [go_sem]))
    refine ACallP.pureF [2] hS ?_ (bel1 (bel_encPs _)) ?_
    ·(first|done|exact agX)
    ·(repeat (first|with_reducible refine wV fun _=>?_|simp [go_sem]))
  ·omega
  ·simp [go_sem, Wk_eq, hsd, show dropsK g p 0 = [] from rfl]
  ·simp
end Go.Av
end
section
/- Contracts, moves: men, Condition, Ended of the reference. -/
open Go Go.Proofs
namespace Go.Av
theorem countP_take (f : Int → Bool) (l : List Int) {i : Nat} (h : i < l.length) : (l.take (i + 1)).countP f = (l.take i).countP f + (if f (nth l i) then 1 else 0) := by
 rw [List.take_add_one, List.getElem?_eq_getElem h, nth_eq _ _ h, Option.toList_some, List.countP_append]
 simp [List.countP_cons]
theorem R6men_pure (p : PosD) (hp : FitsP p) (side kind : Int) : Pure Tryz.prog 284 [.agg (encPos p), .v (.int .i64 side), .v (.int .i64 kind)] (.v (.int .i64 (menP p side kind))) := by
 refine pF Tryz.func284 ?_
 obtain ⟨f1, _, _⟩ := hp
 unfold Fits at f1
 (repeat (first|with_reducible refine wV fun _=>?_|simp [go_sem]))
 refine ALoop.start (ALoop.ind (α := Nat) (fun i => ⟨[(1, .v (.int .i64 side)), (2, .v (.int .i64 kind)), (3, .ref 0 0 5 0 0), (7, .v (.int .i64 ((p.at_.take i).countP (isMan p side kind) : Nat))), (8, .v (.int .i64 i))], [(0, .rows true 0 5 [encPos p])], 1⟩)
  (fun d i => i + d = p.at_.length) ?_ p.at_.length 0 ?_) ?_ ?_
 ·rintro d i i1 hrec
  (repeat (first|with_reducible refine wV fun _=>?_|simp [go_sem]))
  refine aIf.mkL (fun hi => ?_) (fun hi => ?_) <;> simp at hi
  ·have hO := R3Of_pure (nth p.at_ i)
   have hcs := countP_take (isMan p side kind) p.at_ hi
   have hle : (p.at_.take i).countP (isMan p side kind) ≤ i := Nat.le_trans List.countP_le_length (by simp; omega)
   have hM : isMan p side kind (nth p.at_ i) = (decide (0 ≤ (manOf (nth p.at_ i)).1) && decide ((manOf (nth p.at_ i)).2 = side) && (decide (kind < 0) || decide ((manOf (nth p.at_ i)).1 = kind))) := rfl
   generalize manOf (nth p.at_ i) = m at *
   (repeat (first|with_reducible refine wV fun _=>?_|simp [go_sem, hi]))
   refine ACallP.plain hO (by simp [go_sem]) ?_
   (repeat (first|with_reducible refine wV fun _=>?_|simp [go_sem]))
   by_cases hm : isMan p side kind (nth p.at_ i) = true
   ·have hm' := hm
    rw [hM] at hm'
    rw [if_pos hm] at hcs
    simp only [hm']
    (repeat (first|with_reducible refine wV fun _=>?_|simp [go_sem]))
    refine ALoop.start (hrec (d - 1) (by omega) (i + 1) (by omega)) ?_ (by simp)
    simp [go_sem, Wk_eq, hcs]
   ·have hm' := hm
    rw [hM] at hm'
    rw [if_neg hm] at hcs
    simp only [Bool.not_eq_true] at hm'
    simp only [hm']
    (repeat (first|with_reducible refine wV fun _=>?_|simp [go_sem]))
    refine ALoop.start (hrec (d - 1) (by omega) (i + 1) (by omega)) ?_ (by simp)
    simp [go_sem, Wk_eq, hcs]
  ·have hil : i = p.at_.length := by omega
   subst hil
   have hM : menP p side kind = (p.at_.take p.at_.length).countP (isMan p side kind) := by rw [List.take_length]; rfl
   rw [hM]
   (repeat (first|with_reducible refine wV fun _=>?_|simp [go_sem]))
 ·omega
 ·simp [go_sem, Wk_eq]
 ·simp
theorem R6Condition_pure (g : GameD) (hg : GOk g) (p : PosD) (hp : POk g p) (c : Int × Int × Int × Int) (hc : ClauseOk g.cells g.kinds.length c) :
  Pure Tryz.prog 256 [.agg (encClause c), .agg (encPos p)] (.v (.bool (condP c p))) := by
 refine pF Tryz.func256 ?_
 have hps := hp.s
 have hal := hp.al
 have hM := fun s k => R6men_pure p (hp.fits hg) s k
 have hml : ∀ s k, menP p s k ≤ 9 := fun s k => Nat.le_trans List.countP_le_length (by have := hg.c9; omega)
 obtain ⟨c0, c1, c2, c3⟩ := c
 obtain ⟨k1, k2, k3, k4, k5⟩ := hc
 simp only at k1 k2 k3 k4 k5
 unfold condP
 rcases k1 with rfl | rfl | rfl
 ·have h1 := hM p.side c1
  (repeat (first|with_reducible refine wV fun _=>?_|simp [go_sem]))
  refine ACallP.plain h1 (by simp [go_sem]) ?_
  (repeat (first|with_reducible refine wV fun _=>?_|simp [go_sem]))
 ·have hci : c2.toNat < p.at_.length := by omega
  (repeat (first|with_reducible refine wV fun _=>?_|simp [go_sem, hci]))
  refine dCall.plain (R3Code_pure c1 (1 - p.side)) (by simp [go_sem]) ?_
  (repeat (first|with_reducible refine wV fun _=>?_|simp [go_sem, hci]))
 ·have h1 := hM p.side (-1)
  have := hml p.side (-1)
  (repeat (first|with_reducible refine wV fun _=>?_|simp [go_sem]))
  refine dCall.plain h1 (by simp [go_sem]) ?_
  (repeat (first|with_reducible refine wV fun _=>?_|simp [go_sem]))
theorem findIdx_some {α : Type} [Inhabited α] (f : α → Bool) (l : List α) {i : Nat} (hi : i < l.length) (hb : ∀ j, j < i → f (nth l j) = false) (h : f (nth l i) = true) : l.findIdx? f = some i := by
 rw [List.findIdx?_eq_some_iff_getElem]
 refine ⟨hi, by rw [← nth_eq _ _ hi]; exact h, fun j hj => ?_⟩
 have := hb j hj
 rw [nth_eq _ _ (by omega)] at this
 simp [this]
theorem findIdx_none {α : Type} [Inhabited α] (f : α → Bool) (l : List α) (hb : ∀ j, j < l.length → f (nth l j) = false) : l.findIdx? f = none := by
 rw [List.findIdx?_eq_none_iff]
 intro x hx
 obtain ⟨j, hj, rfl⟩ := List.getElem_of_mem hx
 have := hb j hj
 rwa [nth_eq _ _ hj] at this
theorem R6Ended_pure (g : GameD) (hg : GOk g) (p : PosD) (hp : POk g p) : Pure Tryz.prog 193 [.agg (encGame g), .agg (encPos p)] (.v (.int .i64 (endedP g p))) := by
 refine pF Tryz.func193 ?_
 have hcn := hg.cn
 (repeat (first|with_reducible refine wV fun _=>?_|simp [go_sem]))
 refine ALoop.start (ALoop.ind (α := Nat) (fun i => ⟨[(2, .ref 0 0 9 0 0), (3, .ref 1 0 5 0 0), (5, .v (.int .i64 i))], [(0, .rows true 0 9 [encGame g]), (1, .rows true 0 5 [encPos p])], 2⟩)
  (fun d i => i + d = g.clauses.length ∧ ∀ j, j < i → condP (nth g.clauses j) p = false) ?_ g.clauses.length 0 ?_) ?_ ?_
 ·rintro d i ⟨i1, i2⟩ hrec
  (repeat (first|with_reducible refine wV fun _=>?_|simp [go_sem]))
  refine aIf.mkL (fun hi => ?_) (fun hi => ?_) <;> simp at hi
  ·have hC := R6Condition_pure g hg p hp _ (hg.cl _ (nth_mem hi))
   (repeat (first|with_reducible refine wV fun _=>?_|simp [go_sem, hi]))
   refine dCall.plain hC (by simp [go_sem]) ?_
   (repeat (first|with_reducible refine wV fun _=>?_|simp [go_sem]))
   by_cases hc : condP (nth g.clauses i) p = true
   ·have he : endedP g p = i := by unfold endedP; rw [findIdx_some (fun c => condP c p) g.clauses hi i2 hc]
    (repeat (first|with_reducible refine wV fun _=>?_|simp [go_sem, hc, he]))
   ·(repeat (first|with_reducible refine wV fun _=>?_|simp [go_sem, hc]))
    refine ALoop.start (hrec (d - 1) (by omega) (i + 1) ⟨by omega, fun j hj => ?_⟩) ?_ (by simp)
    ·rcases Nat.lt_or_ge j i with h | h
     ·exact i2 j h
     ·obtain rfl : j = i := by omega
      simpa using hc
    ·simp [go_sem, Wk_eq]
  ·have he : endedP g p = -1 := by unfold endedP; rw [findIdx_none (fun c => condP c p) g.clauses (fun j hj => i2 j (by omega))]
   (repeat (first|with_reducible refine wV fun _=>?_|simp [go_sem, he]))
 ·exact ⟨by simp, fun j hj => by omega⟩
 ·simp [go_sem, Wk_eq]
 ·simp
end Go.Av
end
section
/- Contracts: pos.Count, play.conditions, play.ended. -/
open Go Go.Proofs
namespace Go.Av
def cntL (p : PosD) (side : Int) (K : Nat) (j : Nat) : List Int := (List.range K).map fun (k : Nat) => (((p.at_.take j).countP (isMan p side k) : Nat) : Int)
theorem cntL_len (p : PosD) (side : Int) (K j : Nat) : (cntL p side K j).length = K := by simp [cntL]
theorem nth_cntL (p : PosD) (side : Int) (K j : Nat) {k : Nat} (hk : k < K) : nth (cntL p side K j) k = (((p.at_.take j).countP (isMan p side k) : Nat) : Int) := by
 rw [nth_eq _ _ (by rw [cntL_len]; exact hk)]; simp [cntL]
theorem cntL_succ {p : PosD} {side : Int} {K j : Nat} (hj : j < p.at_.length) : cntL p side K (j + 1) = (List.range K).map fun (k : Nat) => (((p.at_.take j).countP (isMan p side k) + (if isMan p side k (nth p.at_ j) then 1 else 0) : Nat) : Int) := by
 unfold cntL
 refine List.map_congr_left fun k _ => ?_
 rw [countP_take _ _ hj]
theorem cntL_no {p : PosD} {side : Int} {K j : Nat} (hj : j < p.at_.length) (h : ∀ k : Nat, isMan p side k (nth p.at_ j) = false) : cntL p side K (j + 1) = cntL p side K j := by
 rw [cntL_succ hj]
 unfold cntL
 refine List.map_congr_left fun k _ => ?_
 rw [h k]; simp
theorem cntL_yes {p : PosD} {side : Int} {K j m : Nat} (hj : j < p.at_.length) (hm : m < K) (h : ∀ k : Nat, isMan p side k (nth p.at_ j) = decide (k = m)) :
  cntL p side K (j + 1) = (cntL p side K j).set m (nth (cntL p side K j) m + 1) := by
 rw [cntL_succ hj]
 refine List.ext_getElem (by simp [cntL]) fun k h1 h2 => ?_
 have hk : k < K := by simpa using h1
 rw [List.getElem_set]
 by_cases e : m = k
 ·subst e
  rw [if_pos rfl, nth_cntL _ _ _ _ hk]
  simp [h]
 ·rw [if_neg e]
  simp [cntL, h, Ne.symm e]
def countsP (g : GameD) (p : PosD) (side : Int) : List Int := cntL p side g.kinds.length p.at_.length
theorem nth_countsP (g : GameD) (p : PosD) (side : Int) {k : Nat} (hk : k < g.kinds.length) : nth (countsP g p side) k = menP p side k := by
 unfold countsP; rw [nth_cntL _ _ _ _ hk, List.take_length]; rfl
theorem tdiv_half {m s : Int} (h0 : 0 ≤ m) (hs : s = 0 ∨ s = 1) : (1 + 2 * m + s - 1).tmod 2 = s ∧ (1 + 2 * m + s - 1).tdiv 2 = m := by
 rw [Int.tmod_eq_emod_of_nonneg (by omega), Int.tdiv_eq_ediv_of_nonneg (by omega)]
 omega
theorem Count_pure (g : GameD) (hg : GOk g) (p : PosD) (hp : POk g p) (side : Int) (hsd : side = 0 ∨ side = 1) :
  Pure Tryz.prog 329 [.agg (encGame g), .agg (encPos p), .v (.int .i64 side)] (encIs (countsP g p side)) := by
 refine pF Tryz.func329 ?_
 have hal := hp.al
 have c9 := hg.c9
 have k6 := hg.k6
 have hall := fun j => cntL_len p side g.kinds.length j
 have hz : List.replicate g.kinds.length [AV.v (.int .i64 0)] = (cntL p side g.kinds.length 0).map encI := by
  refine List.ext_getElem (by simp [cntL]) fun k h1 h2 => ?_
  simp [cntL, encI]
 (repeat (first|with_reducible refine wV fun _=>?_|simp [go_sem]))
 refine ALoop.start (ALoop.ind (α := Nat) (fun j => ⟨[(2, .v (.int .i64 side)), (7, .sl 2 0 1 0 g.kinds.length), (15, encIs p.at_), (16, .v (.int .i64 p.at_.length)), (17, .v (.int .i64 j))], [(2, .rows true 0 1 ((cntL p side g.kinds.length j).map encI))], 3⟩)
  (fun d j => j + d = p.at_.length) ?_ p.at_.length 0 ?_) ?_ ?_
 ·rintro d j j1 hrec
  (repeat (first|with_reducible refine wV fun _=>?_|simp [go_sem]))
  refine aIf.mkL (fun hj => ?_) (fun hj => ?_) <;> simp at hj
  ·have hat := hp.at (i := j) (by omega)
   have hman := manOf_cases hat.1 hat.2 hg.k6
   have hM : ∀ k : Nat, isMan p side k (nth p.at_ j) = (decide (0 ≤ (manOf (nth p.at_ j)).1) && decide ((manOf (nth p.at_ j)).2 = side) && (decide ((k : Int) < 0) || decide ((manOf (nth p.at_ j)).1 = k))) := fun k => rfl
   have hno := cntL_no (p := p) (side := side) (K := g.kinds.length) hj
   have hyes := fun m => cntL_yes (p := p) (side := side) (K := g.kinds.length) (m := m) hj
   rcases hman with ⟨h0, hm⟩ | ⟨h0, hm0, hmk, hms, he⟩
   ·rw [hm] at hM
    have hno := hno (fun k => by rw [hM]; simp)
    (repeat (first|with_reducible refine wV fun _=>?_|simp [go_sem, hj, h0]))
    refine ALoop.start (hrec (d - 1) (by omega) (j + 1) (by omega)) ?_ (by simp)
    simp [go_sem, Wk_eq, hno]
   ·have ht := tdiv_half hm0 hms
    rw [← he] at ht
    have hpos : 0 < nth p.at_ j := by omega
    by_cases hs : (manOf (nth p.at_ j)).2 = side
    ·obtain ⟨m, hmm⟩ : ∃ m : Nat, (manOf (nth p.at_ j)).1 = m := ⟨(manOf (nth p.at_ j)).1.toNat, by omega⟩
     rw [hmm] at ht hmk
     have hmk' : m < g.kinds.length := by omega
     have hyes := hyes m hmk' (fun k => by rw [hM, hmm, decide_eq_true hs]; by_cases e : k = m <;> simp [e] <;> omega)
     have hb : 0 ≤ nth (cntL p side g.kinds.length j) m ∧ nth (cntL p side g.kinds.length j) m ≤ 9 := by
      rw [nth_cntL _ _ _ _ hmk']
      have : (p.at_.take j).countP (isMan p side m) ≤ (p.at_.take j).length := List.countP_le_length
      rw [List.length_take] at this
      omega
     have hlm : m < (cntL p side g.kinds.length j).length := by rw [hall]; exact hmk'
     rw [hs] at ht
     (repeat (first|with_reducible refine wV fun _=>?_|simp [go_sem, hj, hpos, ht.1, ht.2, hlm, hall, hmk']))
     refine ALoop.start (hrec (d - 1) (by omega) (j + 1) (by omega)) ?_ (by simp)
     simp [go_sem, Wk_eq, hyes, List.map_set, encI]
    ·have hno := hno (fun k => by rw [hM, decide_eq_false hs]; simp)
     (repeat (first|with_reducible refine wV fun _=>?_|simp [go_sem, hj, hpos, ht.1, ht.2, hs]))
     refine ALoop.start (hrec (d - 1) (by omega) (j + 1) (by omega)) ?_ (by simp)
     simp [go_sem, Wk_eq, hno]
  ·have e : j = p.at_.length := by omega
   subst e
   (repeat (first|with_reducible refine wV fun _=>?_|simp [go_sem]))
   exact leV_frz rfl (by simp [hall]) (by simp [noH, upd]) (by simp [countsP]; exact List.take_of_length_le (by simp [hall]))
 ·omega
 ·simp [go_sem, Wk_eq, hz]
 ·simp
end Go.Av
end
