/- Texts of ours, part 9: our library and contracts of functions. -/
import Derived.Test.YtblaonmapofniaaGreatDoorB08
import Derived.Test.YtblaonmapofniaaGreatDoorProg
import Derived.Shelf.SlSortCmp.NoneTotal
set_option linter.unusedSimpArgs false
set_option linter.unusedVariables false
set_option maxRecDepth 100000
set_option maxHeartbeats 40000000
section
/- Contracts, the law of layer 8: equality of codes; GenPaths. -/
open Go Go.Proofs
namespace Go.Av
theorem Same_true (g : GameD) (hg : GOk g) (c : CodeD) (hc : FitC g c) : Pure Tryz.prog 52 [.agg (encGame g), .agg (encCode c), .agg (encCode c)] (.v (.bool true)) := by
 refine pF Tryz.func52 ?_
 have hS := Shaped_true g hg c hc.sh
 have hk6 := hg.k6
 have hc9 := hg.c9
 have hc1 := hg.c1
 have hgl : (encGame g).length = 9 := rfl
 have hgb : ∀ n, (∀ c ∈ encGame g, Bel n c) = True := fun n => by simp [go_sem]
 have hg0 : cel (encGame g) 0 = .v (.int .i64 g.cells) := rfl
 have hg3 : cel (encGame g) 3 = .lst 3 (g.kinds.map encKind) := rfl
 have hcl : (encCode c).length = 2 := rfl
 have hcb : ∀ n, (∀ x ∈ encCode c, Bel n x) = True := fun n => by simp [go_sem]
 have hsd : ∀ s, s < 2 → ∃ l, cel (encCode c) s = encSide l ∧ l.length = g.kinds.length ∧ (∀ x ∈ l, (x.length : Int) = g.cells) ∧ ∀ x ∈ l, ∀ y ∈ x, y.length ≤ 1099511627776 ∧ ActsLe 1048576 y := fun s hs => hc.side hs
 generalize encGame g = eg at *
 generalize encCode c = ec at *
 (repeat (first|with_reducible refine wV fun _=>?_|simp [go_sem, hgl, hcl]))
 refine ACallP.plain hS (by simp [go_sem, hgb, hcb]) ?_
 (repeat (first|with_reducible refine wV fun _=>?_|simp [go_sem, hgl, hcl]))
 refine aGC.plain _ (fun _ => hS) (by simp [go_sem, hgb, hcb]) ?_
 (repeat (first|with_reducible refine wV fun _=>?_|simp [go_sem, hgl, hcl]))
 refine ALoop.start (ALoop.ind (α := Nat) (fun s => ⟨[(3, .ref 0 0 9 0 0), (4, .ref 1 0 2 0 0), (5, .ref 2 0 2 0 0), (7, .v (.int .i64 s))], [(0, .rows true 0 9 [eg]), (1, .rows true 0 2 [ec]), (2, .rows true 0 2 [ec])], 3⟩)
  (fun d s => s + d = 2) ?_ 2 0 ?_) ?_ ?_
 ·rintro d s s1 hrec
  rcases (show s = 2 ∨ s < 2 by omega) with rfl | hs2
  ·(repeat (first|with_reducible refine wV fun _=>?_|simp [go_sem, hgl, hcl]))
  ·obtain ⟨l, hl0, hl1, hl2, hl3⟩ := hsd s hs2
   simp only [encSide, encCells, encPt] at hl0
   (repeat (first|with_reducible refine wV fun _=>?_|simp [go_sem, hgl, hcl, hl0]))
   (refine aIf.mkL (fun hT => ?_) (fun hT => by first | omega | (simp at hT; omega)); clear hT)
   (repeat (first|with_reducible refine wV fun _=>?_|simp [go_sem, hgl, hcl, hl0]))
   refine ALoop.start (ALoop.ind (α := Nat) (fun k => ⟨[(3, .ref 0 0 9 0 0), (4, .ref 1 0 2 0 0), (5, .ref 2 0 2 0 0), (7, .v (.int .i64 s)), (8, .v (.int .i64 k))], [(0, .rows true 0 9 [eg]), (1, .rows true 0 2 [ec]), (2, .rows true 0 2 [ec])], 3⟩)
    (fun d k => k + d = g.kinds.length) ?_ g.kinds.length 0 ?_) ?_ ?_
   ·rintro d2 k k1 hrec2
    (repeat (first|with_reducible refine wV fun _=>?_|simp [go_sem, hgl, hcl, hg3]))
    refine aIf.mkL (fun hk => ?_) (fun hk => ?_) <;> simp at hk
    ·have hkl : k < l.length := by omega
     have hx2 := hl2 _ (nth_mem hkl)
     have hx3 := hl3 _ (nth_mem hkl)
     (repeat (first|with_reducible refine wV fun _=>?_|simp [go_sem, hgl, hcl]))
     refine ALoop.start (ALoop.ind (α := Nat) (fun c => ⟨[(3, .ref 0 0 9 0 0), (4, .ref 1 0 2 0 0), (5, .ref 2 0 2 0 0), (7, .v (.int .i64 s)), (8, .v (.int .i64 k)), (9, .v (.int .i64 c))], [(0, .rows true 0 9 [eg]), (1, .rows true 0 2 [ec]), (2, .rows true 0 2 [ec])], 3⟩)
      (fun d c => c + d = g.cells.toNat) ?_ g.cells.toNat 0 ?_) ?_ ?_
     ·rintro d3 c c1 hrec3
      (repeat (first|with_reducible refine wV fun _=>?_|simp [go_sem, hgl, hcl, hg0]))
      refine aIf.mkL (fun hcc => ?_) (fun hcc => ?_) <;> simp at hcc
      ·have hcl' : c < (nth l k).length := by omega
       obtain ⟨y1, y2⟩ := hx3 _ (nth_mem hcl')
       (repeat (first|with_reducible refine wV fun _=>?_|simp [go_sem, hgl, hcl, hl0, hkl, hcl']))
       refine dCall.plain (SamePaths_true _ y1 y2) (by simp [go_sem]) ?_
       (repeat (first|with_reducible refine wV fun _=>?_|simp [go_sem, hgl, hcl, hl0, hkl, hcl']))
       refine ALoop.start (hrec3 (d3 - 1) (by omega) (c + 1) (by omega)) ?_ (by simp)
       simp [go_sem, Wk_eq, hgl, hcl, hgb, hcb]
      ·(repeat (first|with_reducible refine wV fun _=>?_|simp [go_sem, hgl, hcl]))
       refine ALoop.start (hrec2 (d2 - 1) (by omega) (k + 1) (by omega)) ?_ (by simp)
       simp [go_sem, Wk_eq, hgl, hcl, hgb, hcb]
     ·simp
     ·simp [go_sem, Wk_eq, hgl, hcl, hgb, hcb]
     ·simp
    ·(repeat (first|with_reducible refine wV fun _=>?_|simp [go_sem, hgl, hcl]))
     refine ALoop.start (hrec (d - 1) (by omega) (s + 1) (by omega)) ?_ (by simp)
     simp [go_sem, Wk_eq, hgl, hcl, hgb, hcb]
   ·simp
   ·simp [go_sem, Wk_eq, hgl, hcl, hgb, hcb]
   ·simp
 ·simp
 ·simp [go_sem, Wk_eq, hgl, hcl, hgb, hcb]
 ·simp
end Go.Av
end
section
/- Contracts: gen.Run. -/
open Go Go.Proofs
namespace Go.Av
def pathsC (c : CodeD) (side : Int) (k cell : Nat) : List PathD := nth (nth (if side = 0 then c.1 else c.2) k) cell
structure CodeOk (g : GameD) (c : CodeD) : Prop where
 l0 : c.1.length = g.kinds.length
 l1 : c.2.length = g.kinds.length
 k0 : ∀ k ∈ c.1, (k.length : Int) = g.cells
 k1 : ∀ k ∈ c.2, (k.length : Int) = g.cells
 p0 : ∀ k ∈ c.1, ∀ l ∈ k, l.length ≤ 1000000000 ∧ ∀ w ∈ l, (0 ≤ w.to ∧ w.to < g.cells) ∧ w.acts.length ≤ 1048576 ∧ ∀ a ∈ w.acts, ActOk g.cells g.kinds.length g.rights a
 p1 : ∀ k ∈ c.2, ∀ l ∈ k, l.length ≤ 1000000000 ∧ ∀ w ∈ l, (0 ≤ w.to ∧ w.to < g.cells) ∧ w.acts.length ≤ 1048576 ∧ ∀ a ∈ w.acts, ActOk g.cells g.kinds.length g.rights a
def runC (g : GameD) (c : CodeD) (p : PosD) (cell : Int) : List OutD :=
 if 0 ≤ cell ∧ cell < g.cells ∧ nth p.at_ cell.toNat ≠ 0 then
  sortU cmpO ((pathsC c (manOf (nth p.at_ cell.toNat)).2 (manOf (nth p.at_ cell.toNat)).1.toNat cell.toNat).filterMap (outW g (manOf (nth p.at_ cell.toNat)).2 (startT p cell)))
 else []
theorem gRun_pure (g : GameD) (hg : GOk g) (c : CodeD) (hc : CodeOk g c) (p : PosD) (hp : POk g p) (cell : Int) (c0 : 0 ≤ cell) (c1 : cell < g.cells) :
  Pure Tryz.prog 57 [.agg (encGame g), .agg (encCode c), .agg (encPos p), .v (.int .i64 cell)] (encOs (runC g c p cell)) := by
 refine pF Tryz.func57 ?_
 have hal := hp.al
 obtain ⟨R, hR⟩ : ∃ R, R = runC g c p cell := ⟨_, rfl⟩
 have hR' := hR
 unfold runC at hR'
 rw [← hR]
 have hle := hg.c9
 have h0 : ¬ cell < 0 := by omega
 have h1 : ¬ (p.at_.length : Int) ≤ cell := by omega
 have hcl : cell.toNat < p.at_.length := by omega
 by_cases h2 : nth p.at_ cell.toNat = 0
 ·rw [if_neg (by rintro ⟨_, _, h⟩; exact h h2)] at hR'
  rw [hR']
  (repeat (first|with_reducible refine wV fun _=>?_|simp [go_sem, h0, h1, hcl, h2]))
  (first|done|exact leX)
 rw [if_pos ⟨by omega, by omega, h2⟩] at hR'
 have hM := gMan_pure (nth p.at_ cell.toNat)
 have hat := hp.at (i := cell.toNat) (by omega)
 have hman := manOf_cases hat.1 hat.2 hg.k6
 generalize hm : manOf (nth p.at_ cell.toNat) = m at *
 obtain ⟨mk, ms⟩ := m
 simp only [Prod.mk.injEq] at hman hR' hM
 have hmk : mk.toNat < g.kinds.length := by omega
 have hmk' : 0 ≤ mk := by omega
 have hms : ms = 0 ∨ ms = 1 := by omega
 rcases hms with rfl | rfl
 ·have hcp0 := Clone_owns p.at_ (hp.fits hg).1
  have hcp1 := Clone_owns p.h0 (hp.fits hg).2.1
  have hcp2 := Clone_owns p.h1 (hp.fits hg).2.2
  have hmc : mk.toNat < c.1.length := by rw [hc.l0]; exact hmk
  have hcc : cell.toNat < (nth c.1 mk.toNat).length := by have := hc.k0 _ (nth_mem hmc); omega
  (repeat (first|with_reducible refine wV fun _=>?_|simp [go_sem, h0, h1, hcl, h2]))
  refine ACallP.plain hM (by simp [go_sem]) ?_
  (repeat (first|with_reducible refine wV fun _=>?_|simp [go_sem, hcl, hmc, hcc]))
  obtain ⟨pl, hpl⟩ : ∃ pl, pl = nth (nth c.1 mk.toNat) cell.toNat := ⟨_, rfl⟩
  have hpo := hc.p0 _ (nth_mem hmc) _ (nth_mem hcc)
  rw [show pathsC c 0 mk.toNat cell.toNat = pl from by rw [hpl]; rfl] at hR'
  rw [← hpl] at hpo ⊢
  obtain ⟨out, hout⟩ : ∃ out : Nat → List OutD, out = fun i => (pl.take i).filterMap (outW g 0 (startT p cell)) := ⟨_, rfl⟩
  refine ALoop.start (ALoop.ind (α := Nat) (fun i => ⟨[(3, .v (.int .i64 cell)), (4, .ref 0 0 9 0 0), (6, .ref 2 0 5 0 0), (9, .v (.int .i64 mk)), (10, .v (.int .i64 0)), (11, .sl 3 (out i).length 6 0 (out i).length), (52, encPt pl), (53, .v (.int .i64 pl.length)), (54, .v (.int .i64 i))],
   [(0, .rows true 0 9 [encGame g]), (2, .rows true 0 5 [encPos p]), (3, .rows true (out i).length 6 ((out i).map encOut))], 4⟩)
   (fun d i => i + d = pl.length) ?_ pl.length 0 ?_) ?_ ?_
  ·rintro d i i1 hrec
   (repeat (first|with_reducible refine wV fun _=>?_|simp [go_sem]))
   refine aIf.mkL (fun hi => ?_) (fun hi => ?_) <;> simp at hi
   ·(repeat (first|with_reducible refine wV fun _=>?_|simp [go_sem, hi]))
    refine ACallP.ownsPlain hcp0 (by simp [go_sem]) ?_
    (repeat (first|with_reducible refine wV fun _=>?_|simp [go_sem]))
    refine dCall.owns 67 (by rfl) (hcp1) (by decide) (by simp [go_sem]) (by simp [go_sem]) (fun _ => LeRow.refl _ _ _ _) (by simp [go_sem]) (by simp [go_sem]) ?_
    (repeat (first|with_reducible refine wV fun _=>?_|simp [go_sem]))
    refine dCall.owns 131 (by rfl) (hcp2) (by decide) (by simp [go_sem]) (by simp [go_sem]) (fun _ => LeRow.refl _ _ _ _) (by simp [go_sem]) (by simp [go_sem]) ?_
    ((repeat (first|with_reducible (first|refine wL fun _=>?_|refine wD fun _=>?_|refine wZ ?_)|simp [go_sem])); refine dEnd.mkN (by kernel_rfl) ?_)
    (repeat (first|with_reducible refine wV fun _=>?_|simp [go_sem, hcl]))
    obtain ⟨w, hw⟩ : ∃ w, w = nth pl i := ⟨_, rfl⟩
    obtain ⟨⟨w1, w2⟩, w3, w4⟩ := hpo.2 _ (nth_mem hi)
    have hsu : out (i + 1) = out i ++ (outW g 0 (startT p cell) w).toList := by
     rw [hout, hw]
     simp only
     rw [List.take_add_one, List.getElem?_eq_getElem hi, nth_eq _ _ hi, List.filterMap_append]
     simp only [Option.toList_some, List.filterMap_cons, List.filterMap_nil]
     cases outW g 0 (startT p cell) pl[i] <;> rfl
    rw [← hw] at w1 w2 w3 w4 ⊢
    obtain ⟨t0, ht0⟩ : ∃ t0, t0 = startT p cell := ⟨_, rfl⟩
    have hst : POk g t0.p := by rw [ht0]; exact hp.clr _
    have hrow : tkAt 6 67 131 t0 = [.sl 6 1 1 0 p.at_.length, .sl 67 1 1 0 p.h0.length, .sl 131 1 1 0 p.h1.length, .v (.int .i64 p.rights), .v (.int .i64 p.side), .v (.int .i64 mk), .v (.bool false)] := by
     rw [ht0]; simp [tkAt, startT, clr, hm]
    have hat0 : t0.p.at_.map encI = (p.at_.map encI).set cell.toNat [.v (.int .i64 0)] := by rw [ht0]; simp [startT, clr, List.map_set, encI]
    have hh0 : t0.p.h0 = p.h0 := by rw [ht0]; rfl
    have hh1 : t0.p.h1 = p.h1 := by rw [ht0]; rfl
    rw [← ht0] at hsu
    have hlo : (out i).length ≤ 1000000000 := by
     have h1 : (out i).length ≤ (pl.take i).length := by rw [hout]; exact List.length_filterMap_le _ _
     have h2 := List.length_take_le i pl
     have := hpo.1
     have h3 : (pl.take i).length ≤ pl.length := by rw [List.length_take]; omega
     omega
    refine ALoop.start (ALoop.ind (α := Nat × TkD) (fun a => ⟨[(3, .v (.int .i64 cell)), (4, .ref 0 0 9 0 0), (6, .ref 2 0 5 0 0), (9, .v (.int .i64 mk)), (10, .v (.int .i64 0)), (11, .sl 3 (out i).length 6 0 (out i).length), (13, .ref 4 0 2 0 0), (14, .ref 5 0 7 0 0),
      (52, encPt pl), (53, .v (.int .i64 pl.length)), (54, .v (.int .i64 i)), (83, encAs w.acts), (84, .v (.int .i64 w.acts.length)), (85, .v (.int .i64 a.1))],
     [(0, .rows true 0 9 [encGame g]), (2, .rows true 0 5 [encPos p]), (3, .rows true (out i).length 6 ((out i).map encOut)), (4, .rows true 0 2 [encPath w]), (5, .rows true 0 7 [tkAt 6 67 131 a.2]), (6, .rows true 1 1 (a.2.p.at_.map encI)), (67, .rows true 1 1 (a.2.p.h0.map encI)), (131, .rows true 1 1 (a.2.p.h1.map encI))], 211⟩)
     (fun d a => a.1 + d = w.acts.length ∧ doAs g 0 t0 (w.acts.take a.1) = some a.2 ∧ POk g a.2.p) ?_ w.acts.length (0, t0) ?_) ?_ ?_
    ·rintro d2 ⟨j, t⟩ ⟨j1, j2, j3⟩ hrec2
     simp only at j1 j2 j3
     (repeat (first|with_reducible refine wV fun _=>?_|simp [go_sem]))
     refine aIf.mkL (fun hj => ?_) (fun hj => ?_) <;> simp at hj
     ·have hx := w4 _ (nth_mem hj)
      have hts : doAs g 0 t0 (w.acts.take (j + 1)) = if (doA g 0 t (nth w.acts j)).2 = true then some (doA g 0 t (nth w.acts j)).1 else none := by
       rw [List.take_add_one, List.getElem?_eq_getElem hj, nth_eq _ _ hj, Option.toList_some, doAs_snoc, j2]; rfl
      have hok := doA_ok hg (.inl rfl) j3 hx
      obtain ⟨x, hxe⟩ : ∃ x, x = nth w.acts j := ⟨_, rfl⟩
      rw [← hxe] at hx hts hok
      (repeat (first|with_reducible refine wV fun _=>?_|simp [go_sem, hj]))
      rw [← hxe]
      refine do_call g hg 0 (.inl rfl) t j3 x hx (o := 5) (a := 6) (b := 67) (c := 131) (by decide) (by simp) (by simp [upd]) (by simp [upd]) (by simp [upd]) (by simp [upd]) ?_
      unfold tkUp
      obtain ⟨t', ht'⟩ : ∃ t', t' = (doA g 0 t x).1 := ⟨_, rfl⟩
      rw [← ht'] at hts hok ⊢
      by_cases hd : (doA g 0 t x).2 = true
      ·rw [if_pos hd] at hts
       (repeat (first|with_reducible refine wV fun _=>?_|simp [go_sem, hd]))
       refine ALoop.start (hrec2 (d2 - 1) (by omega) (j + 1, t') ⟨by simp only; omega, hts, hok hd⟩) ?_ (by simp)
       simp [go_sem, Wk_eq]
       simp [tkAt, go_sem]
      ·rw [if_neg hd] at hts
       have hW : outW g 0 t0 w = none := by unfold outW stW; rw [doAs_none hts]; rfl
       rw [hW, Option.toList_none, List.append_nil] at hsu
       simp only [Bool.not_eq_true] at hd
       (repeat (first|with_reducible refine wV fun _=>?_|simp [go_sem, hd]))
       refine ALoop.start (hrec (d - 1) (by omega) (i + 1) (by omega)) ?_ (by simp)
       simp [go_sem, Wk_eq, hsu]
     ·have hjl : j = w.acts.length := by omega
      subst hjl
      rw [List.take_length] at j2
      have hwl : w.to.toNat < t.p.at_.length := by have := j3.al; omega
      have hW : outW g 0 t0 w = putS 0 (stT t w.to) := by unfold outW stW; rw [j2]; rfl
      rw [hW] at hsu
      have hcode := gCode_pure t.kind 0
      by_cases hto : nth t.p.at_ w.to.toNat = 0
      ·have hP : putS 0 (stT t w.to) = some ⟨{ t.p with at_ := t.p.at_.set w.to.toNat (codeOf t.kind 0), side := 1 - 0 }, t.took⟩ := by unfold putS; exact if_pos hto
       rw [hP, Option.toList_some] at hsu
       (repeat (first|with_reducible refine wV fun _=>?_|simp [go_sem, hwl, hto, tkAt]))
       refine dCall.plain hcode (by simp [go_sem]) ?_
       (repeat (first|with_reducible refine wV fun _=>?_|simp [go_sem, hwl, hto, tkAt]))
       refine ALoop.start (hrec (d - 1) (by omega) (i + 1) (by omega)) ?_ (by simp)
       simp [go_sem, Wk_eq, hsu]
       (first|done|exact rwX)
      ·have hP : putS 0 (stT t w.to) = none := by unfold putS; exact if_neg hto
       rw [hP, Option.toList_none, List.append_nil] at hsu
       (repeat (first|with_reducible refine wV fun _=>?_|simp [go_sem, hwl, hto, tkAt]))
       refine ALoop.start (hrec (d - 1) (by omega) (i + 1) (by omega)) ?_ (by simp)
       simp [go_sem, Wk_eq, hsu]
    ·exact ⟨by simp, rfl, hst⟩
    ·simp [go_sem, Wk_eq, hrow, hat0, hh0, hh1]
    ·simp
   ·have hil : i = pl.length := by omega
    subst hil
    have hall : out pl.length = pl.filterMap (outW g 0 (startT p cell)) := by rw [hout]; simp only [List.take_length]
    have hlo : (out pl.length).length ≤ 1000000000 := by
     rw [hall]
     exact Nat.le_trans (List.length_filterMap_le _ _) hpo.1
    have hfo : ∀ o ∈ out pl.length, FitsP o.pos := fun o ho => by
     rw [hall] at ho
     obtain ⟨w, hw, h⟩ := List.mem_filterMap.1 ho
     exact outW_fits hg (.inl rfl) (hp.clr _) (hpo.2 w hw).2.2 h
    rw [← hall] at hR'
    unfold sortU at hR'
    obtain ⟨o, ho⟩ : ∃ o, o = out pl.length := ⟨_, rfl⟩
    rw [← ho] at hlo hfo hR' ⊢
    (repeat (first|with_reducible refine wV fun _=>?_|simp [go_sem]))
    refine sortO_call o hfo (by omega) (by simp [upd]) ?_
    have hsl : (sortC cmpO o).length = o.length := sortC_len o
    have hfs : ∀ x ∈ sortC cmpO o, FitsP x.pos := fun x hx => hfo x (sortC_mem.1 hx)
    generalize sortC cmpO o = so at *
    (repeat (first|with_reducible refine wV fun _=>?_|simp [go_sem]))
    refine compact_call2 so _ _ hsl (by omega) hfs (by simp [upd]) (by omega) ?_
    rw [hR']
    (repeat (first|with_reducible refine wV fun _=>?_|simp [go_sem]))
    refine leV_frz rfl (by simp) (by simp [noH, upd]) ?_
    simp
  ·simp
  ·simp [go_sem, Wk_eq, hout]
  ·simp
 ·have hcp0 := Clone_owns p.at_ (hp.fits hg).1
  have hcp1 := Clone_owns p.h0 (hp.fits hg).2.1
  have hcp2 := Clone_owns p.h1 (hp.fits hg).2.2
  have hmc : mk.toNat < c.2.length := by rw [hc.l1]; exact hmk
  have hcc : cell.toNat < (nth c.2 mk.toNat).length := by have := hc.k1 _ (nth_mem hmc); omega
  (repeat (first|with_reducible refine wV fun _=>?_|simp [go_sem, h0, h1, hcl, h2]))
  refine ACallP.plain hM (by simp [go_sem]) ?_
  (repeat (first|with_reducible refine wV fun _=>?_|simp [go_sem, hcl, hmc, hcc]))
  obtain ⟨pl, hpl⟩ : ∃ pl, pl = nth (nth c.2 mk.toNat) cell.toNat := ⟨_, rfl⟩
  have hpo := hc.p1 _ (nth_mem hmc) _ (nth_mem hcc)
  rw [show pathsC c 1 mk.toNat cell.toNat = pl from by rw [hpl]; rfl] at hR'
  rw [← hpl] at hpo ⊢
  obtain ⟨out, hout⟩ : ∃ out : Nat → List OutD, out = fun i => (pl.take i).filterMap (outW g 1 (startT p cell)) := ⟨_, rfl⟩
  refine ALoop.start (ALoop.ind (α := Nat) (fun i => ⟨[(3, .v (.int .i64 cell)), (4, .ref 0 0 9 0 0), (6, .ref 2 0 5 0 0), (9, .v (.int .i64 mk)), (10, .v (.int .i64 1)), (11, .sl 3 (out i).length 6 0 (out i).length), (52, encPt pl), (53, .v (.int .i64 pl.length)), (54, .v (.int .i64 i))],
   [(0, .rows true 0 9 [encGame g]), (2, .rows true 0 5 [encPos p]), (3, .rows true (out i).length 6 ((out i).map encOut))], 4⟩)
   (fun d i => i + d = pl.length) ?_ pl.length 0 ?_) ?_ ?_
  ·rintro d i i1 hrec
   (repeat (first|with_reducible refine wV fun _=>?_|simp [go_sem]))
   refine aIf.mkL (fun hi => ?_) (fun hi => ?_) <;> simp at hi
   ·(repeat (first|with_reducible refine wV fun _=>?_|simp [go_sem, hi]))
    refine ACallP.ownsPlain hcp0 (by simp [go_sem]) ?_
    (repeat (first|with_reducible refine wV fun _=>?_|simp [go_sem]))
    refine dCall.owns 67 (by rfl) (hcp1) (by decide) (by simp [go_sem]) (by simp [go_sem]) (fun _ => LeRow.refl _ _ _ _) (by simp [go_sem]) (by simp [go_sem]) ?_
    (repeat (first|with_reducible refine wV fun _=>?_|simp [go_sem]))
    refine dCall.owns 131 (by rfl) (hcp2) (by decide) (by simp [go_sem]) (by simp [go_sem]) (fun _ => LeRow.refl _ _ _ _) (by simp [go_sem]) (by simp [go_sem]) ?_
    ((repeat (first|with_reducible (first|refine wL fun _=>?_|refine wD fun _=>?_|refine wZ ?_)|simp [go_sem])); refine dEnd.mkN (by kernel_rfl) ?_)
    (repeat (first|with_reducible refine wV fun _=>?_|simp [go_sem, hcl]))
    obtain ⟨w, hw⟩ : ∃ w, w = nth pl i := ⟨_, rfl⟩
    obtain ⟨⟨w1, w2⟩, w3, w4⟩ := hpo.2 _ (nth_mem hi)
    have hsu : out (i + 1) = out i ++ (outW g 1 (startT p cell) w).toList := by
     rw [hout, hw]
     simp only
     rw [List.take_add_one, List.getElem?_eq_getElem hi, nth_eq _ _ hi, List.filterMap_append]
     simp only [Option.toList_some, List.filterMap_cons, List.filterMap_nil]
     cases outW g 1 (startT p cell) pl[i] <;> rfl
    rw [← hw] at w1 w2 w3 w4 ⊢
    obtain ⟨t0, ht0⟩ : ∃ t0, t0 = startT p cell := ⟨_, rfl⟩
    have hst : POk g t0.p := by rw [ht0]; exact hp.clr _
    have hrow : tkAt 6 67 131 t0 = [.sl 6 1 1 0 p.at_.length, .sl 67 1 1 0 p.h0.length, .sl 131 1 1 0 p.h1.length, .v (.int .i64 p.rights), .v (.int .i64 p.side), .v (.int .i64 mk), .v (.bool false)] := by
     rw [ht0]; simp [tkAt, startT, clr, hm]
    have hat0 : t0.p.at_.map encI = (p.at_.map encI).set cell.toNat [.v (.int .i64 0)] := by rw [ht0]; simp [startT, clr, List.map_set, encI]
    have hh0 : t0.p.h0 = p.h0 := by rw [ht0]; rfl
    have hh1 : t0.p.h1 = p.h1 := by rw [ht0]; rfl
    rw [← ht0] at hsu
    have hlo : (out i).length ≤ 1000000000 := by
     have h1 : (out i).length ≤ (pl.take i).length := by rw [hout]; exact List.length_filterMap_le _ _
     have h2 := List.length_take_le i pl
     have := hpo.1
     have h3 : (pl.take i).length ≤ pl.length := by rw [List.length_take]; omega
     omega
    refine ALoop.start (ALoop.ind (α := Nat × TkD) (fun a => ⟨[(3, .v (.int .i64 cell)), (4, .ref 0 0 9 0 0), (6, .ref 2 0 5 0 0), (9, .v (.int .i64 mk)), (10, .v (.int .i64 1)), (11, .sl 3 (out i).length 6 0 (out i).length), (13, .ref 4 0 2 0 0), (14, .ref 5 0 7 0 0),
      (52, encPt pl), (53, .v (.int .i64 pl.length)), (54, .v (.int .i64 i)), (83, encAs w.acts), (84, .v (.int .i64 w.acts.length)), (85, .v (.int .i64 a.1))],
     [(0, .rows true 0 9 [encGame g]), (2, .rows true 0 5 [encPos p]), (3, .rows true (out i).length 6 ((out i).map encOut)), (4, .rows true 0 2 [encPath w]), (5, .rows true 0 7 [tkAt 6 67 131 a.2]), (6, .rows true 1 1 (a.2.p.at_.map encI)), (67, .rows true 1 1 (a.2.p.h0.map encI)), (131, .rows true 1 1 (a.2.p.h1.map encI))], 211⟩)
     (fun d a => a.1 + d = w.acts.length ∧ doAs g 1 t0 (w.acts.take a.1) = some a.2 ∧ POk g a.2.p) ?_ w.acts.length (0, t0) ?_) ?_ ?_
    ·rintro d2 ⟨j, t⟩ ⟨j1, j2, j3⟩ hrec2
     simp only at j1 j2 j3
     (repeat (first|with_reducible refine wV fun _=>?_|simp [go_sem]))
     refine aIf.mkL (fun hj => ?_) (fun hj => ?_) <;> simp at hj
     ·have hx := w4 _ (nth_mem hj)
      have hts : doAs g 1 t0 (w.acts.take (j + 1)) = if (doA g 1 t (nth w.acts j)).2 = true then some (doA g 1 t (nth w.acts j)).1 else none := by
       rw [List.take_add_one, List.getElem?_eq_getElem hj, nth_eq _ _ hj, Option.toList_some, doAs_snoc, j2]; rfl
      have hok := doA_ok hg (.inr rfl) j3 hx
      obtain ⟨x, hxe⟩ : ∃ x, x = nth w.acts j := ⟨_, rfl⟩
      rw [← hxe] at hx hts hok
      (repeat (first|with_reducible refine wV fun _=>?_|simp [go_sem, hj]))
      rw [← hxe]
      refine do_call g hg 1 (.inr rfl) t j3 x hx (o := 5) (a := 6) (b := 67) (c := 131) (by decide) (by simp) (by simp [upd]) (by simp [upd]) (by simp [upd]) (by simp [upd]) ?_
      unfold tkUp
      obtain ⟨t', ht'⟩ : ∃ t', t' = (doA g 1 t x).1 := ⟨_, rfl⟩
      rw [← ht'] at hts hok ⊢
      by_cases hd : (doA g 1 t x).2 = true
      ·rw [if_pos hd] at hts
       (repeat (first|with_reducible refine wV fun _=>?_|simp [go_sem, hd]))
       refine ALoop.start (hrec2 (d2 - 1) (by omega) (j + 1, t') ⟨by simp only; omega, hts, hok hd⟩) ?_ (by simp)
       simp [go_sem, Wk_eq]
       simp [tkAt, go_sem]
      ·rw [if_neg hd] at hts
       have hW : outW g 1 t0 w = none := by unfold outW stW; rw [doAs_none hts]; rfl
       rw [hW, Option.toList_none, List.append_nil] at hsu
       simp only [Bool.not_eq_true] at hd
       (repeat (first|with_reducible refine wV fun _=>?_|simp [go_sem, hd]))
       refine ALoop.start (hrec (d - 1) (by omega) (i + 1) (by omega)) ?_ (by simp)
       simp [go_sem, Wk_eq, hsu]
     ·have hjl : j = w.acts.length := by omega
      subst hjl
      rw [List.take_length] at j2
      have hwl : w.to.toNat < t.p.at_.length := by have := j3.al; omega
      have hW : outW g 1 t0 w = putS 1 (stT t w.to) := by unfold outW stW; rw [j2]; rfl
      rw [hW] at hsu
      have hcode := gCode_pure t.kind 1
      by_cases hto : nth t.p.at_ w.to.toNat = 0
      ·have hP : putS 1 (stT t w.to) = some ⟨{ t.p with at_ := t.p.at_.set w.to.toNat (codeOf t.kind 1), side := 1 - 1 }, t.took⟩ := by unfold putS; exact if_pos hto
       rw [hP, Option.toList_some] at hsu
       (repeat (first|with_reducible refine wV fun _=>?_|simp [go_sem, hwl, hto, tkAt]))
       refine dCall.plain hcode (by simp [go_sem]) ?_
       (repeat (first|with_reducible refine wV fun _=>?_|simp [go_sem, hwl, hto, tkAt]))
       refine ALoop.start (hrec (d - 1) (by omega) (i + 1) (by omega)) ?_ (by simp)
       simp [go_sem, Wk_eq, hsu]
       (first|done|exact rwX)
      ·have hP : putS 1 (stT t w.to) = none := by unfold putS; exact if_neg hto
       rw [hP, Option.toList_none, List.append_nil] at hsu
       (repeat (first|with_reducible refine wV fun _=>?_|simp [go_sem, hwl, hto, tkAt]))
       refine ALoop.start (hrec (d - 1) (by omega) (i + 1) (by omega)) ?_ (by simp)
       simp [go_sem, Wk_eq, hsu]
    ·exact ⟨by simp, rfl, hst⟩
    ·simp [go_sem, Wk_eq, hrow, hat0, hh0, hh1]
    ·simp
   ·have hil : i = pl.length := by omega
    subst hil
    have hall : out pl.length = pl.filterMap (outW g 1 (startT p cell)) := by rw [hout]; simp only [List.take_length]
    have hlo : (out pl.length).length ≤ 1000000000 := by
     rw [hall]
     exact Nat.le_trans (List.length_filterMap_le _ _) hpo.1
    have hfo : ∀ o ∈ out pl.length, FitsP o.pos := fun o ho => by
     rw [hall] at ho
     obtain ⟨w, hw, h⟩ := List.mem_filterMap.1 ho
     exact outW_fits hg (.inr rfl) (hp.clr _) (hpo.2 w hw).2.2 h
    rw [← hall] at hR'
    unfold sortU at hR'
    obtain ⟨o, ho⟩ : ∃ o, o = out pl.length := ⟨_, rfl⟩
    rw [← ho] at hlo hfo hR' ⊢
    (repeat (first|with_reducible refine wV fun _=>?_|simp [go_sem]))
    refine sortO_call o hfo (by omega) (by simp [upd]) ?_
    have hsl : (sortC cmpO o).length = o.length := sortC_len o
    have hfs : ∀ x ∈ sortC cmpO o, FitsP x.pos := fun x hx => hfo x (sortC_mem.1 hx)
    generalize sortC cmpO o = so at *
    (repeat (first|with_reducible refine wV fun _=>?_|simp [go_sem]))
    refine compact_call2 so _ _ hsl (by omega) hfs (by simp [upd]) (by omega) ?_
    rw [hR']
    (repeat (first|with_reducible refine wV fun _=>?_|simp [go_sem]))
    refine leV_frz rfl (by simp) (by simp [noH, upd]) ?_
    simp
  ·simp
  ·simp [go_sem, Wk_eq, hout]
  ·simp
end Go.Av
end
section
/- Contracts: R8.Turned, R5.SameOutcomes, R8.Programs. -/
open Go Go.Proofs
namespace Go.Av
theorem SameOutcomes_true (l : List OutD) (hl : l.length ≤ 17179869184) (hf : ∀ o ∈ l, FitsP o.pos) : Pure Tryz.prog 56 [encOs l, encOs l] (.v (.bool true)) := by
 refine pF Tryz.func56 ?_
 (repeat (first|with_reducible refine wV fun _=>?_|simp [go_sem]))
 refine ALoop.start (ALoop.ind (α := Nat) (fun j => ⟨[(0, encOs l), (1, encOs l), (5, .v (.int .i64 j))], [], 0⟩) (fun d j => j + d = l.length) ?_ l.length 0 ?_) ?_ ?_
 ·rintro d j i1 hrec
  (repeat (first|with_reducible refine wV fun _=>?_|simp [go_sem]))
  refine aIf.mkL (fun hj => ?_) (fun hj => ?_) <;> simp at hj
  ·have hfj := hf _ (nth_mem hj)
   have hc := Compare_pure _ _ hfj hfj
   rw [cmpP_eq.2 rfl] at hc
   (repeat (first|with_reducible refine wV fun _=>?_|simp [go_sem, hj]))
   refine dCall.plain hc (by simp [go_sem]) ?_
   (repeat (first|with_reducible refine wV fun _=>?_|simp [go_sem, hj]))
   refine ALoop.start (hrec (d - 1) (by omega) (j + 1) (by omega)) ?_ (by simp)
   simp [go_sem, Wk_eq]
  ·(repeat (first|with_reducible refine wV fun _=>?_|simp [go_sem]))
 ·simp
 ·simp [go_sem, Wk_eq]
 ·simp
theorem insF_len : ∀ (l acc : List OutD), (l.foldl (fun a x => insertO x a) acc).length ≤ acc.length + l.length
 | [], acc => by simp
 | x :: l, acc => by
  have h := insF_len l (insertO x acc)
  have k := insertO_le x acc
  rw [List.foldl_cons, List.length_cons]
  omega
theorem insF_all {P : OutD → Prop} : ∀ {l acc : List OutD}, (∀ o ∈ acc, P o) → (∀ o ∈ l, P o) → ∀ o ∈ l.foldl (fun a x => insertO x a) acc, P o
 | [], acc, h, _ => h
 | x :: l, acc, h, h' => by
  rw [List.foldl_cons]
  refine insF_all (fun o ho => ?_) (fun o ho => h' o (List.mem_cons_of_mem _ ho))
  rcases insertO_mem.1 ho with rfl | ho
  ·exact h' _ (by simp)
  ·exact h o ho
end Go.Av
end
section
/- The laws GenOutcomes, GenTurns: their calls give true. -/
open Go Go.Proofs
namespace Go.Av
theorem kindP_few {g : GameD} (hg : GOk g) (hs : OneSlide g) (side : Int) {k : KindD} (hk : k ∈ g.kinds) (c : Int) : (kindP g.board side k.progs c).length ≤ 100 := by
 have h9 : g.board.cells.toNat ≤ 9 := by have : g.board.cells = g.cells := rfl; have := hg.c9; omega
 have h := flatMap_le (fun p => pathsP g.board side p c) 9 k.progs (fun p hp => by
  have h := pathsP_len hg.board hg.c1 side p c
  have := hs k hk p hp
  rcases (show countOp p 2 = 0 ∨ countOp p 2 = 1 by omega) with e | e <;> rw [e] at h <;> simp at h <;> omega)
 have := hg.pn k hk
 unfold kindP
 omega
theorem codeOk_codeP {g : GameD} (hg : GOk g) (hs : OneSlide g) : CodeOk g (codeP g) := by
 have hF := shape_codeP hg
 have hp : ∀ s : Int, ∀ k ∈ sideP g s, ∀ l ∈ k, l.length ≤ 1000000000 ∧ ∀ w ∈ l, (0 ≤ w.to ∧ w.to < g.cells) ∧ w.acts.length ≤ 1048576 ∧ ∀ a ∈ w.acts, ActOk g.cells g.kinds.length g.rights a := by
  intro s k hk l hl
  obtain ⟨kd, hkd, rfl⟩ := List.mem_map.1 hk
  obtain ⟨c, hc, rfl⟩ := List.mem_map.1 hl
  have hc' := List.mem_range.1 hc
  have hgc : g.board.cells = g.cells := rfl
  refine ⟨Nat.le_trans (kindP_few hg hs s hkd c) (by omega), fun w hw => ?_⟩
  have h1 := kindP_ok hg hkd (side := s) (cell := (c : Int)) ⟨by omega, by omega⟩ w hw
  exact ⟨h1.to, kindP_acts hg s hkd c w hw, h1.acts⟩
 exact ⟨hF.l1, hF.l2, hF.c1, hF.c2, hp 0, hp 1⟩
theorem runC_codeP {g : GameD} (hg : GOk g) {p : PosD} (hp : POk g p) {cell : Int} (c0 : 0 ≤ cell) (c1 : cell < g.cells) : runC g (codeP g) p cell = runO g p cell := by
 unfold runC runO
 by_cases h : nth p.at_ cell.toNat = 0
 ·rw [if_neg (by rintro ⟨_, _, h'⟩; exact h' h), if_pos h]
 ·rw [if_pos ⟨c0, c1, h⟩, if_neg h]
  have hat := hp.at (i := cell.toNat) (by omega)
  have e : pathsC (codeP g) (manOf (nth p.at_ cell.toNat)).2 (manOf (nth p.at_ cell.toNat)).1.toNat cell.toNat = pathsAt g p cell := by
   rcases manOf_cases hat.1 hat.2 hg.k6 with ⟨hz, _⟩ | ⟨_, e1, e2, e3, _⟩
   ·exact absurd hz h
   ·unfold pathsC pathsAt
    have hc : ((cell.toNat : Nat) : Int) = cell := by omega
    rcases e3 with e3 | e3
    ·rw [e3, if_pos rfl]
     show nth (nth (sideP g 0) _) _ = _
     rw [sideP_nth g 0 (by omega) (by omega), hc]
    ·rw [e3, if_neg (by decide)]
     show nth (nth (sideP g 1) _) _ = _
     rw [sideP_nth g 1 (by omega) (by omega), hc]
  rw [e]; rfl
theorem runO_len {g : GameD} (hg : GOk g) (hs : OneSlide g) {p : PosD} (hp : POk g p) {cell : Int} (c0 : 0 ≤ cell) (c1 : cell < g.cells) : (runO g p cell).length ≤ 100 ∧ ∀ o ∈ runO g p cell, FitsP o.pos := by
 have hat := hp.at (i := cell.toNat) (by omega)
 unfold runO
 rcases manOf_cases hat.1 hat.2 hg.k6 with ⟨hz, _⟩ | ⟨hz, e1, e2, e3, _⟩
 ·rw [if_pos hz]; simp
 ·rw [if_neg hz]
  have hk := nth_mem (l := g.kinds) (i := (manOf (nth p.at_ cell.toNat)).1.toNat) (by omega)
  refine ⟨?_, fun o ho => ?_⟩
  ·have h1 := sortU_le cmpO (outsL g p cell)
   have h2 : (outsL g p cell).length ≤ (pathsAt g p cell).length := List.length_filterMap_le _ _
   have h3 := kindP_few hg hs (manOf (nth p.at_ cell.toNat)).2 hk cell
   unfold pathsAt at h2
   omega
  ·rw [sortU_mem] at ho
   obtain ⟨w, hw, h⟩ := List.mem_filterMap.1 ho
   have h1 := kindP_ok hg hk ⟨c0, c1⟩ w hw
   exact outW_fits hg e3 (hp.clr _) h1.acts h
end Go.Av
end
section
/- Plain: a run has few states: bounds on outcomes and moves. -/
open Go Go.Proofs
namespace Go.Av
theorem len_sub {α : Type} [DecidableEq α] : ∀ {l r : List α}, l.Nodup → (∀ x ∈ l, x ∈ r) → l.length ≤ r.length
 | [], r, _, _ => by simp
 | x :: l, r, hn, hs => by
  rw [List.nodup_cons] at hn
  have hx := hs x (by simp)
  have := len_sub (l := l) (r := r.erase x) hn.2 (fun y hy => by
   have hne : y ≠ x := fun h => hn.1 (h ▸ hy)
   exact (List.mem_erase_of_ne hne).2 (hs y (by simp [hy])))
  rw [List.length_erase_of_mem hx] at this
  have := List.length_pos_of_mem hx
  simp only [List.length_cons]
  omega
end Go.Av
end
section
/- Plain: positions in sorted lists; what is a move. -/
open Go Go.Proofs
namespace Go.Av
abbrev Inc (l : List PosD) : Prop := l.Pairwise (fun a b => cmpP a b < 0)
theorem Inc.lt {l : List PosD} (h : Inc l) {i j : Nat} (hij : i < j) (hj : j < l.length) : cmpP (nth l i) (nth l j) < 0 := by
 rw [nth_eq _ _ (by omega), nth_eq _ _ hj]
 exact List.pairwise_iff_getElem.1 h _ _ _ _ hij
theorem Inc.sign {l : List PosD} (h : Inc l) {i j : Nat} (hi : i < l.length) (hj : j < l.length) : (cmpP (nth l i) (nth l j) = 0 ↔ i = j) ∧ (cmpP (nth l i) (nth l j) < 0 ↔ i < j) := by
 have hs := cmp_pos.swap (nth l i) (nth l j)
 rcases Nat.lt_trichotomy i j with h' | h' | h'
 ·have := h.lt h' hj
  exact ⟨⟨by omega, by omega⟩, ⟨by omega, by omega⟩⟩
 ·subst h'
  have := (cmp_pos.eq (nth l i) (nth l i)).2 rfl
  exact ⟨⟨by omega, by omega⟩, ⟨by omega, by omega⟩⟩
 ·have := h.lt h' hi
  exact ⟨⟨by omega, by omega⟩, ⟨by omega, by omega⟩⟩
theorem Inc.inj {l : List PosD} (h : Inc l) {i j : Nat} (hi : i < l.length) (hj : j < l.length) (e : nth l i = nth l j) : i = j :=
 (h.sign hi hj).1.1 ((cmp_pos.eq _ _).2 e)
end Go.Av
end
section
/- Contracts, runs of the program: own, man, provided, and the steps. -/
open Go Go.Proofs
namespace Go.Av
def ownState (n : Nat) (s : StD) : AV := .agg [.sl (n + 2) 1 1 0 s.p.at_.length, .sl (n + 81) 1 1 0 s.p.h0.length, .sl (n + 161) 1 1 0 s.p.h1.length, .v (.int .i64 s.p.rights), .v (.int .i64 s.p.side), .v (.int .i64 s.kind), .v (.int .i64 s.cursor), .v (.bool s.took)]
def ownStateH (n : Nat) (s : StD) : List (Nat × AObj) := [(n + 2, .rows true 1 1 (s.p.at_.map encI)), (n + 81, .rows true 1 1 (s.p.h0.map encI)), (n + 161, .rows true 1 1 (s.p.h1.map encI))]
attribute [go_sem] ownState ownStateH
theorem own_owns (s : StD) (ha : FitsP s.p) : Owns Tryz.prog 144 [.agg (encState s)] (fun n => ownState n s) (fun n => ownStateH n s) 241 := by
 refine ⟨ACallP.of_awp (by kernel_rfl) Tryz.func144 rfl rfl (Nat.le_of_ble_eq_true rfl) (by kernel_rfl) ?_, fun n => ⟨by simp [go_sem], by simp [go_sem]⟩⟩
 obtain ⟨a1, a2, a3⟩ := ha
 have h1 := Clone_owns s.p.at_ a1
 have h2 := Clone_owns s.p.h0 a2
 have h3 := Clone_owns s.p.h1 a3
 (repeat (first|with_reducible refine wV fun _=>?_|simp [go_sem]))
 refine ACallP.ownsPlain h1 (by simp [go_sem]) ?_
 (repeat (first|with_reducible refine wV fun _=>?_|simp [go_sem]))
 refine dCall.owns 81 (by rfl) (h2) (by decide) (by simp [go_sem]) (by simp [go_sem]) (fun _ => LeRow.refl _ _ _ _) (by simp [go_sem]) (by simp [go_sem]) ?_
 (repeat (first|with_reducible refine wV fun _=>?_|simp [go_sem]))
 refine dCall.owns 161 (by rfl) (h3) (by decide) (by simp [go_sem]) (by simp [go_sem]) (fun _ => LeRow.refl _ _ _ _) (by simp [go_sem]) (by simp [go_sem]) ?_
 ((repeat (first|with_reducible (first|refine wL fun _=>?_|refine wD fun _=>?_|refine wZ ?_)|simp [go_sem])); refine dEnd.mkN (by kernel_rfl) ?_)
 (repeat (first|with_reducible refine wV fun _=>?_|simp [go_sem]))
 simp [go_sem, Wk_eq]
theorem man_pure (s : StD) (hc : s.cursor.toNat < s.p.at_.length) (h0 : 0 ≤ s.cursor) : Pure Tryz.prog 292 [.agg (encState s)] (.tup [.v (.int .i64 (manOf (nth s.p.at_ s.cursor.toNat)).1), .v (.int .i64 (manOf (nth s.p.at_ s.cursor.toNat)).2)]) := by
 refine pF Tryz.func292 ?_
 have hO := gMan_pure (nth s.p.at_ s.cursor.toNat)
 generalize manOf (nth s.p.at_ s.cursor.toNat) = m at *
 (repeat (first|with_reducible refine wV fun _=>?_|simp [go_sem, hc]))
 refine ACallP.plain hO (by simp [go_sem]) ?_
 (repeat (first|with_reducible refine wV fun _=>?_|simp [go_sem]))
theorem provided_pure (s : StD) (b : Bool) : Pure Tryz.prog 291 [.agg (encState s), .v (.bool b)] (encSs (onlyS s b)) := by
 refine pF Tryz.func291 ?_
 cases b
 ·(repeat (first|with_reducible refine wV fun _=>?_|simp [go_sem, onlyS]))
 ·(repeat (first|with_reducible refine wV fun _=>?_|simp [go_sem, onlyS]))
  exact frX
abbrev StepF (f : FuncId) (g : GameD) (s : StD) (n : Int) (r : List StD) : Prop := Pure Tryz.prog f [.agg (encState s), .agg (encGame g), .v (.int .i64 n)] (encSs r)
section
variable (g : GameD) (hg : GOk g) (s : StD) (hs : StOk g s) (n : Int)
theorem walk_pure (hg : GOk g) : StepF 242 g s n (onlyS { s with cursor := toB g.board s.p.side n s.cursor } (decide (0 ≤ toB g.board s.p.side n s.cursor))) := by
 refine pF Tryz.func242 ?_
 have hT := bTo_pure g.board hg.board s.p.side n s.cursor
 have hP := provided_pure { s with cursor := toB g.board s.p.side n s.cursor }
 (repeat (first|with_reducible refine wV fun _=>?_|simp [go_sem]))
 refine ACallP.plain hT (by simp [go_sem]) ?_
 (repeat (first|with_reducible refine wV fun _=>?_|simp [go_sem]))
 refine ACallP.plain (hP _) (by simp [go_sem]) ?_
 (repeat (first|with_reducible refine wV fun _=>?_|simp [go_sem]))
theorem slide_pure (hg : GOk g) (hs : StOk g s) : StepF 243 g s n (slideS g.board s n) := by
 refine pF Tryz.func243 ?_
 have hL := bLine_pure g.board hg.board s.p.side n s.cursor
 have hlm := lineB_mem hg.board (side := s.p.side) (d := n) (c := s.cursor)
 have hll := lineB_len (b := g.board) (side := s.p.side) (d := n) (c := s.cursor)
 have c9 := hg.c9
 have c1 := hg.c1
 have hal := hs.p.al
 rw [show g.board.cells = g.cells from rfl] at hlm hll
 unfold slideS
 generalize lineB g.board s.p.side n s.cursor = line at *
 generalize hR : slideGo s line = R
 (repeat (first|with_reducible refine wV fun _=>?_|simp [go_sem]))
 refine ACallP.plain hL (by simp [go_sem]) ?_
 (repeat (first|with_reducible refine wV fun _=>?_|simp [go_sem]))
 refine ALoop.start (ALoop.ind (α := Nat × List StD) (fun a => ⟨[(3, .ref 0 0 8 0 0), (7, .sl 2 a.2.length 8 0 a.2.length), (19, encIs line), (20, .v (.int .i64 line.length)), (21, .v (.int .i64 a.1))], [(0, .rows true 0 8 [encState s]), (2, .rows true a.2.length 8 (a.2.map encState))], 3⟩)
  (fun d a => a.1 + d = line.length ∧ a.2.length = a.1 ∧ R = a.2 ++ slideGo s (line.drop a.1)) ?_ line.length (0, []) ?_) ?_ ?_
 ·rintro d ⟨i, out⟩ ⟨i1, i2, i3⟩ hrec
  simp only at i1 i2 i3
  (repeat (first|with_reducible refine wV fun _=>?_|simp [go_sem]))
  refine aIf.mkL (fun hi => ?_) (fun hi => ?_) <;> simp at hi
  ·have hli := hlm _ (nth_mem hi)
   have hlt : (nth line i).toNat < s.p.at_.length := by omega
   rw [dropG_cons hi, slideGo] at i3
   (repeat (first|with_reducible refine wV fun _=>?_|simp [go_sem, hi, hlt]))
   refine aIf.mkL (fun hz => ?_) (fun hz => ?_) <;> simp at hz
   ·rw [if_neg (by simpa using hz)] at i3
    (repeat (first|with_reducible refine wV fun _=>?_|simp [go_sem]))
    rw [i3]
    exact frX
   ·rw [if_pos (by simpa using hz)] at i3
    (repeat (first|with_reducible refine wV fun _=>?_|simp [go_sem]))
    refine ALoop.start (hrec (d - 1) (by omega) (i + 1, out ++ [{ s with cursor := nth line i }]) ⟨by simp only; omega, by simp; omega, by simpa using i3⟩) ?_ (by simp)
    simp [go_sem, Wk_eq]
  ·rw [List.drop_eq_nil_of_le hi, slideGo] at i3
   (repeat (first|with_reducible refine wV fun _=>?_|simp [go_sem]))
   rw [i3]
   exact frX
 ·simp [hR]
 ·simp [go_sem, Wk_eq]
 ·simp
theorem man_at (hg : GOk g) (hs : StOk g s) : s.cursor.toNat < s.p.at_.length ∧ 0 ≤ s.cursor ∧ (nth s.p.at_ s.cursor.toNat = 0 ∧ manOf (nth s.p.at_ s.cursor.toNat) = (-1, -1) ∨ nth s.p.at_ s.cursor.toNat ≠ 0 ∧ 0 ≤ (manOf (nth s.p.at_ s.cursor.toNat)).1 ∧ (manOf (nth s.p.at_ s.cursor.toNat)).1 < g.kinds.length ∧
  ((manOf (nth s.p.at_ s.cursor.toNat)).2 = 0 ∨ (manOf (nth s.p.at_ s.cursor.toNat)).2 = 1)) ∧ (s.p.side = 0 ∨ s.p.side = 1) := by
 have hal := hs.p.al
 have hc0 := hs.c0
 have hc1 := hs.c1
 have hcur : s.cursor.toNat < s.p.at_.length := by omega
 have hat := hs.p.at (i := s.cursor.toNat) (by omega)
 have hman := manOf_cases hat.1 hat.2 hg.k6
 refine ⟨hcur, hc0, ?_, hs.p.s⟩
 rcases hman with ⟨h1, h2⟩ | ⟨h1, h2, h3, h4, _⟩
 ·exact .inl ⟨h1, h2⟩
 ·exact .inr ⟨h1, h2, h3, h4⟩
theorem empty_pure (hg : GOk g) (hs : StOk g s) : StepF 244 g s n (onlyS s (decide ((manOf (nth s.p.at_ s.cursor.toNat)).1 < 0))) := by
 refine pF Tryz.func244 ?_
 obtain ⟨hcur, h0, hm, hsd⟩ := man_at g s hg hs
 have e : decide ((manOf (nth s.p.at_ s.cursor.toNat)).1 < 0) = decide (nth s.p.at_ s.cursor.toNat = 0) := by
  rcases hm with ⟨h1, h2⟩ | ⟨h1, h2, _, _⟩
  ·rw [h2]; simp [h1]
  ·simp; omega
 rw [e]
 have hP := provided_pure s
 (repeat (first|with_reducible refine wV fun _=>?_|simp [go_sem, hcur]))
 refine dCall.plain (hP _) (by simp [go_sem]) ?_
 (repeat (first|with_reducible refine wV fun _=>?_|simp [go_sem]))
theorem enemy_pure (hg : GOk g) (hs : StOk g s) : StepF 245 g s n (onlyS s (decide (0 ≤ (manOf (nth s.p.at_ s.cursor.toNat)).1 ∧ (manOf (nth s.p.at_ s.cursor.toNat)).2 ≠ s.p.side))) := by
 refine pF Tryz.func245 ?_
 obtain ⟨hcur, h0, hm, hsd⟩ := man_at g s hg hs
 have hO := man_pure s hcur h0
 have hP := provided_pure s
 have e : decide (0 ≤ (manOf (nth s.p.at_ s.cursor.toNat)).1 ∧ (manOf (nth s.p.at_ s.cursor.toNat)).2 ≠ s.p.side) = decide ((manOf (nth s.p.at_ s.cursor.toNat)).2 = 1 - s.p.side) := by
  rcases hm with ⟨h1, h2⟩ | ⟨h1, h2, _, _⟩
  ·rw [h2]; simp; omega
  ·simp only [decide_eq_decide]; omega
 rw [e]
 generalize manOf (nth s.p.at_ s.cursor.toNat) = m at *
 (repeat (first|with_reducible refine wV fun _=>?_|simp [go_sem]))
 refine ACallP.plain hO (by simp [go_sem]) ?_
 (repeat (first|with_reducible refine wV fun _=>?_|simp [go_sem]))
 refine ACallP.plain (hP _) (by simp [go_sem]) ?_
 (repeat (first|with_reducible refine wV fun _=>?_|simp [go_sem]))
theorem friend_pure (hg : GOk g) (hs : StOk g s) : StepF 246 g s n (onlyS s (decide (0 ≤ (manOf (nth s.p.at_ s.cursor.toNat)).1 ∧ (manOf (nth s.p.at_ s.cursor.toNat)).2 = s.p.side))) := by
 refine pF Tryz.func246 ?_
 obtain ⟨hcur, h0, hm, hsd⟩ := man_at g s hg hs
 have hO := man_pure s hcur h0
 have hP := provided_pure s
 have e : decide (0 ≤ (manOf (nth s.p.at_ s.cursor.toNat)).1 ∧ (manOf (nth s.p.at_ s.cursor.toNat)).2 = s.p.side) = decide ((manOf (nth s.p.at_ s.cursor.toNat)).2 = s.p.side) := by
  rcases hm with ⟨h1, h2⟩ | ⟨h1, h2, _, _⟩
  ·rw [h2]; simp; omega
  ·simp only [decide_eq_decide]; omega
 rw [e]
 generalize manOf (nth s.p.at_ s.cursor.toNat) = m at *
 (repeat (first|with_reducible refine wV fun _=>?_|simp [go_sem]))
 refine ACallP.plain hO (by simp [go_sem]) ?_
 (repeat (first|with_reducible refine wV fun _=>?_|simp [go_sem]))
 refine ACallP.plain (hP _) (by simp [go_sem]) ?_
 (repeat (first|with_reducible refine wV fun _=>?_|simp [go_sem]))
theorem take_pure (hg : GOk g) (hs : StOk g s) : StepF 247 g s n (takeS g s) := by
 refine pF Tryz.func247 ?_
 obtain ⟨hcur, h0, hm, hsd⟩ := man_at g s hg hs
 have hO := man_pure s hcur h0
 have hP := provided_pure
 have hcp := own_owns s (hs.p.fits hg)
 unfold takeS
 generalize hme : manOf (nth s.p.at_ s.cursor.toNat) = m at *
 obtain ⟨mk, ms⟩ := m
 simp only [Prod.mk.injEq] at hm
 (repeat (first|with_reducible refine wV fun _=>?_|simp [go_sem]))
 refine ACallP.plain hO (by simp [go_sem]) ?_
 (repeat (first|with_reducible refine wV fun _=>?_|simp [go_sem]))
 refine aIf.mkL (fun hc => ?_) (fun hc => ?_) <;> simp at hc
 ·rw [if_pos (by omega)]
  (repeat (first|with_reducible refine wV fun _=>?_|simp [go_sem]))
 ·rw [if_neg (by omega)]
  (repeat (first|with_reducible refine wV fun _=>?_|simp [go_sem]))
  refine ACallP.ownsPlain hcp (by simp [go_sem]) ?_
  have hmk : mk.toNat < g.kinds.length := by omega
  have hmk' : 0 ≤ mk := by omega
  (repeat (first|with_reducible refine wV fun _=>?_|simp [go_sem, hcur, hmk]))
  refine aIf.mkL (fun hk => ?_) (fun hk => ?_)
  ·rw [if_neg (by simpa using hk)]
   (repeat (first|with_reducible refine wV fun _=>?_|simp [go_sem, clr]))
   (first|done|exact dpX)
  ·rw [if_pos (by simpa using hk)]
   have hl0 := hs.p.h0.len
   have hl1 := hs.p.h1.len
   rcases hsd with hsd | hsd
   ·have hmk0 : mk.toNat < s.p.h0.length := by omega
    have hv := hs.p.h0.v _ hmk0
    obtain ⟨u, hu⟩ : ∃ u : StD, u = { s with p := (clr s.p s.cursor).withHand s.p.side ((s.p.hand s.p.side).set mk.toNat (nth (s.p.hand s.p.side) mk.toNat + 1)), took := true } := ⟨_, rfl⟩
    have hres : (if 8 < nth (s.p.hand s.p.side) mk.toNat + 1 then [] else [u]) = onlyS u (decide (nth s.p.h0 mk.toNat + 1 ≤ 8)) := by
     have : s.p.hand s.p.side = s.p.h0 := by simp [PosD.hand, hsd]
     rw [this]
     unfold onlyS
     by_cases h8 : 8 < nth s.p.h0 mk.toNat + 1
     ·rw [if_pos h8, if_neg (by simp; omega)]
     ·rw [if_neg h8, if_pos (by simp; omega)]
    rw [← hu, hres]
    have hue : encState u = [.lst 1 ((s.p.at_.map encI).set s.cursor.toNat [.v (.int .i64 0)]), .lst 1 ((s.p.h0.map encI).set mk.toNat [.v (.int .i64 (nth s.p.h0 mk.toNat + 1))]), .lst 1 (s.p.h1.map encI), .v (.int .i64 s.p.rights), .v (.int .i64 s.p.side), .v (.int .i64 s.kind), .v (.int .i64 s.cursor), .v (.bool true)] := by
     rw [hu]; simp [encState, PosD.withHand, PosD.hand, clr, hsd, encIs, encI, List.map_set]
    have hP' := hP u
    rw [hue, hsd] at hP'
    (repeat (first|with_reducible (first|refine wL fun _=>?_|refine wD fun _=>?_|refine wE ?_)|simp [go_sem, hsd, hmk0, hcur]))
    refine adrZ.frz (frzO _ [4, 83, 163]) (frz_frzO _ _) ?_
    (repeat (first|with_reducible refine wV fun _=>?_|simp [go_sem, hsd, hmk0, hcur, frzO, frz1]))
    refine dCall.frz _ _ [4, 83, 163] [] (hP' (decide (nth s.p.h0 mk.toNat + 1 ≤ 8))) (by simp) ?_ (by simp [go_sem]) ?_
    ·intro h₁ hS
     have e4 := hS 4 (by simp)
     have e5 := hS 83 (by simp)
     have e6 := hS 163 (by simp)
     simp [upd, frzO, frz1] at e4 e5 e6
     refine .cons (.agg (.cons (leV_frz e4.symm (by simp) (by simp [applyW, ← e4]) (by simp; exact List.take_of_length_le (by simp))) (.cons (leV_frz e5.symm (by simp) (by simp [applyW, ← e5]) (by simp; exact List.take_of_length_le (by simp))) (.cons (leV_frz e6.symm (by simp) (by simp [applyW, ← e6]) (by simp; exact List.take_of_length_le (by simp))) (.refl _ _ _ _))))) (.refl _ _ _ _)
    ·(repeat (first|with_reducible refine wV fun _=>?_|simp [go_sem]))
   ·have hmk0 : mk.toNat < s.p.h1.length := by omega
    have hv := hs.p.h1.v _ hmk0
    obtain ⟨u, hu⟩ : ∃ u : StD, u = { s with p := (clr s.p s.cursor).withHand s.p.side ((s.p.hand s.p.side).set mk.toNat (nth (s.p.hand s.p.side) mk.toNat + 1)), took := true } := ⟨_, rfl⟩
    have hres : (if 8 < nth (s.p.hand s.p.side) mk.toNat + 1 then [] else [u]) = onlyS u (decide (nth s.p.h1 mk.toNat + 1 ≤ 8)) := by
     have : s.p.hand s.p.side = s.p.h1 := by simp [PosD.hand, hsd]
     rw [this]
     unfold onlyS
     by_cases h8 : 8 < nth s.p.h1 mk.toNat + 1
     ·rw [if_pos h8, if_neg (by simp; omega)]
     ·rw [if_neg h8, if_pos (by simp; omega)]
    rw [← hu, hres]
    have hue : encState u = [.lst 1 ((s.p.at_.map encI).set s.cursor.toNat [.v (.int .i64 0)]), .lst 1 (s.p.h0.map encI), .lst 1 ((s.p.h1.map encI).set mk.toNat [.v (.int .i64 (nth s.p.h1 mk.toNat + 1))]), .v (.int .i64 s.p.rights), .v (.int .i64 s.p.side), .v (.int .i64 s.kind), .v (.int .i64 s.cursor), .v (.bool true)] := by
     rw [hu]; simp [encState, PosD.withHand, PosD.hand, clr, hsd, encIs, encI, List.map_set]
    have hP' := hP u
    rw [hue, hsd] at hP'
    (repeat (first|with_reducible (first|refine wL fun _=>?_|refine wD fun _=>?_|refine wE ?_)|simp [go_sem, hsd, hmk0, hcur]))
    refine adrZ.frz (frzO _ [4, 83, 163]) (frz_frzO _ _) ?_
    (repeat (first|with_reducible refine wV fun _=>?_|simp [go_sem, hsd, hmk0, hcur, frzO, frz1]))
    refine dCall.frz _ _ [4, 83, 163] [] (hP' (decide (nth s.p.h1 mk.toNat + 1 ≤ 8))) (by simp) ?_ (by simp [go_sem]) ?_
    ·intro h₁ hS
     have e4 := hS 4 (by simp)
     have e5 := hS 83 (by simp)
     have e6 := hS 163 (by simp)
     simp [upd, frzO, frz1] at e4 e5 e6
     refine .cons (.agg (.cons (leV_frz e4.symm (by simp) (by simp [applyW, ← e4]) (by simp; exact List.take_of_length_le (by simp))) (.cons (leV_frz e5.symm (by simp) (by simp [applyW, ← e5]) (by simp; exact List.take_of_length_le (by simp))) (.cons (leV_frz e6.symm (by simp) (by simp [applyW, ← e6]) (by simp; exact List.take_of_length_le (by simp))) (.refl _ _ _ _))))) (.refl _ _ _ _)
    ·(repeat (first|with_reducible refine wV fun _=>?_|simp [go_sem]))
theorem push_pure (hg : GOk g) (hs : StOk g s) : StepF 248 g s n (pushS g s n) := by
 refine pF Tryz.func248 ?_
 have hT := bTo_pure g.board hg.board s.p.side n s.cursor
 have hal := hs.p.al
 have hc0 := hs.c0
 have hc1 := hs.c1
 have hcur : s.cursor.toNat < s.p.at_.length := by omega
 have hcp := own_owns s (hs.p.fits hg)
 have hto := toB_lt hg.board s.p.side n s.cursor
 rw [show g.board.cells = g.cells from rfl] at hto
 unfold pushS
 generalize toB g.board s.p.side n s.cursor = to at *
 (repeat (first|with_reducible refine wV fun _=>?_|simp [go_sem]))
 refine ACallP.plain hT (by simp [go_sem]) ?_
 by_cases ht : to < 0
 ·rw [if_pos (.inr (.inl ht))]
  have ht0 : to.toNat = 0 := by omega
  have h0l : 0 < s.p.at_.length := by omega
  (repeat (first|with_reducible refine wV fun _=>?_|simp [go_sem, hcur, ht, ht0, h0l]))
 ·have htl : to.toNat < s.p.at_.length := by omega
  have ht' : 0 ≤ to := by omega
  (repeat (first|with_reducible refine wV fun _=>?_|simp [go_sem, hcur, ht, htl]))
  refine aIf.mkL (fun hc => ?_) (fun hc => ?_) <;> simp at hc
  ·rw [if_pos (by by_cases h : nth s.p.at_ s.cursor.toNat = 0; exact .inl h; exact .inr (hc.resolve_left h))]
   (repeat (first|with_reducible refine wV fun _=>?_|simp [go_sem]))
  ·rw [if_neg (by rintro (h | h); exact hc.1 h; exact h hc.2)]
   (repeat (first|with_reducible refine wV fun _=>?_|simp [go_sem, hcur]))
   refine ACallP.ownsPlain hcp (by simp [go_sem]) ?_
   (repeat (first|with_reducible refine wV fun _=>?_|simp [go_sem, hcur, htl]))
   (first|done|exact dpX)
theorem become_pure : StepF 249 g s n [{ s with kind := n }] := by
 refine pF Tryz.func249 ?_
 (repeat (first|with_reducible refine wV fun _=>?_|simp [go_sem]))
 exact frX
theorem need_pure (h0 : 0 ≤ n) (h4 : n < 64) : StepF 250 g s n (onlyS s (decide (andN .i64 (s.p.rights.fdiv (2 ^ n.toNat)) 1 = 1))) := by
 refine pF Tryz.func250 ?_
 have hP := provided_pure s
 (repeat (first|with_reducible refine wV fun _=>?_|simp [go_sem]))
 refine dCall.plain (hP _) (by simp [go_sem]) ?_
 (repeat (first|with_reducible refine wV fun _=>?_|simp [go_sem]))
theorem lose_pure (h0 : 0 ≤ n) (h4 : n ≤ 4) : StepF 251 g s n [{ s with p := { s.p with rights := andNotN .i64 s.p.rights (2 ^ n.toNat) } }] := by
 refine pF Tryz.func251 ?_
 have hpn := pow_le16 h0 h4
 (repeat (first|with_reducible refine wV fun _=>?_|simp [go_sem]))
 exact frX
end
end Go.Av
end
section
/- Contracts, runs of the program: step. -/
open Go Go.Proofs
namespace Go.Av
theorem step_pure (g : GameD) (hg : GOk g) (s : StD) (hs : StOk g s) (x : Int × Int) (hx : StepOk g.next.length g.kinds.length g.rights x) :
  Pure Tryz.prog 199 [.agg (encGame g), .agg (encState s), .agg (encStep x)] (encSs (stepS g s x)) := by
 refine pF Tryz.func199 ?_
 have r4 := hg.r4
 obtain ⟨op, n⟩ := x
 obtain ⟨xo, xd, xz, xk, xr⟩ := hx
 simp only at xo xd xz xk xr
 rcases (show op = 1 ∨ op = 2 ∨ op = 3 ∨ op = 4 ∨ op = 5 ∨ op = 6 ∨ op = 7 ∨ op = 8 ∨ op = 9 ∨ op = 10 by omega) with rfl | rfl | rfl | rfl | rfl | rfl | rfl | rfl | rfl | rfl
 ·have hS := walk_pure g s n hg
  (repeat (first|with_reducible refine wV fun _=>?_|simp [go_sem]))
  refine dCall.plain hS (by simp [go_sem]) ?_
  (repeat (first|with_reducible refine wV fun _=>?_|simp [go_sem]))
  exact LeV.of_eq (by simp [stepS, encSs, encState, encIs])
 ·have hS := slide_pure g s n hg hs
  (repeat (first|with_reducible refine wV fun _=>?_|simp [go_sem]))
  refine dCall.plain hS (by simp [go_sem]) ?_
  (repeat (first|with_reducible refine wV fun _=>?_|simp [go_sem]))
  exact LeV.of_eq (by simp [stepS, encSs, encState, encIs])
 ·have hS := empty_pure g s n hg hs
  (repeat (first|with_reducible refine wV fun _=>?_|simp [go_sem]))
  refine dCall.plain hS (by simp [go_sem]) ?_
  (repeat (first|with_reducible refine wV fun _=>?_|simp [go_sem]))
  exact LeV.of_eq (by simp [stepS, encSs, encState, encIs])
 ·have hS := enemy_pure g s n hg hs
  (repeat (first|with_reducible refine wV fun _=>?_|simp [go_sem]))
  refine dCall.plain hS (by simp [go_sem]) ?_
  (repeat (first|with_reducible refine wV fun _=>?_|simp [go_sem]))
  exact LeV.of_eq (by simp [stepS, encSs, encState, encIs])
 ·have hS := friend_pure g s n hg hs
  (repeat (first|with_reducible refine wV fun _=>?_|simp [go_sem]))
  refine dCall.plain hS (by simp [go_sem]) ?_
  (repeat (first|with_reducible refine wV fun _=>?_|simp [go_sem]))
  exact LeV.of_eq (by simp [stepS, encSs, encState, encIs])
 ·have hS := take_pure g s n hg hs
  (repeat (first|with_reducible refine wV fun _=>?_|simp [go_sem]))
  refine dCall.plain hS (by simp [go_sem]) ?_
  (repeat (first|with_reducible refine wV fun _=>?_|simp [go_sem]))
  exact LeV.of_eq (by simp [stepS, encSs, encState, encIs])
 ·have hS := push_pure g s n hg hs
  (repeat (first|with_reducible refine wV fun _=>?_|simp [go_sem]))
  refine dCall.plain hS (by simp [go_sem]) ?_
  (repeat (first|with_reducible refine wV fun _=>?_|simp [go_sem]))
  exact LeV.of_eq (by simp [stepS, encSs, encState, encIs])
 ·have hS := become_pure g s n
  (repeat (first|with_reducible refine wV fun _=>?_|simp [go_sem]))
  refine dCall.plain hS (by simp [go_sem]) ?_
  (repeat (first|with_reducible refine wV fun _=>?_|simp [go_sem]))
  exact LeV.of_eq (by simp [stepS, encSs, encState, encIs])
 ·have hn := xr (by omega)
  have hS := need_pure g s n hn.1 (by omega)
  (repeat (first|with_reducible refine wV fun _=>?_|simp [go_sem]))
  refine dCall.plain hS (by simp [go_sem]) ?_
  (repeat (first|with_reducible refine wV fun _=>?_|simp [go_sem]))
  exact LeV.of_eq (by simp [stepS, encSs, encState, encIs])
 ·have hn := xr (by omega)
  have hS := lose_pure g s n hn.1 (by omega)
  (repeat (first|with_reducible refine wV fun _=>?_|simp [go_sem]))
  refine dCall.plain hS (by simp [go_sem]) ?_
  (repeat (first|with_reducible refine wV fun _=>?_|simp [go_sem]))
  exact LeV.of_eq (by simp [stepS, encSs, encState, encIs])
end Go.Av
end
section
/- Contracts: slices.Concat of four lists of numbers, pos.Key, strconv.Itoa (small numbers), FormatBool, the key of a state. -/
open Go Go.Proofs
namespace Go.Av
theorem GrowI_owns (m : Int) (h0 : 0 ≤ m) (h1 : m ≤ 17179869184) : Owns Tryz.prog 263 [AV.nils, .v (.int .i64 m)] (fun n => .sl n 0 1 0 0) (fun n => [(n, .rows true 0 1 [])]) 1 := by
 refine ⟨?_, fun n => ⟨by simp [go_sem], by simp [go_sem]⟩⟩
 by_cases hm : m = 0
 ·subst hm
  refine ACallP.of_awp (by kernel_rfl) Tryz.func263 rfl rfl (Nat.le_of_ble_eq_true rfl) (by kernel_rfl) ?_
  (repeat (first|with_reducible refine wV fun _=>?_|simp [go_sem]))
  simp [go_sem, Wk_eq]
 ·refine ACallP.clear ?_
  refine ACallP.of_awp (by kernel_rfl) Tryz.func263 rfl rfl (Nat.le_of_ble_eq_true rfl) (by kernel_rfl) ?_
  (repeat (first|with_reducible refine wV fun _=>?_|simp [go_sem]))
  (refine aIf.mkL (fun hF => by first | omega | (simp at hF; omega)) (fun hF => ?_); clear hF)
  (repeat (first|with_reducible refine wV fun _=>?_|simp [go_sem]))
  (refine aIf.mkL (fun hT => ?_) (fun hT => by first | omega | (simp at hT; omega)); clear hT)
  (repeat (first|with_reducible refine wV fun _=>?_|simp [go_sem]))
  refine ⟨0, 0, 1, by decide, ⟨rfl, rfl, rfl⟩, ?_⟩
  simp [go_sem, Wk_eq]
theorem Concat4_pure (a b c d : List Int) (ha : a.length ≤ 1000) (hb : b.length ≤ 1000) (hc : c.length ≤ 1000) (hd : d.length ≤ 1000) : Pure Tryz.prog 208 [.lst 1 [[encIs a], [encIs b], [encIs c], [encIs d]]] (encIs (a ++ b ++ c ++ d)) := by
 refine pF Tryz.func208 ?_
 (repeat (first|with_reducible refine wV fun _=>?_|simp [go_sem]))
 refine ALoop.unroll ?_
 (repeat (first|with_reducible refine wV fun _=>?_|simp [go_sem]))
 (refine aIf.mkL (fun hF => by first | omega | (simp at hF; omega)) (fun hF => ?_); clear hF)
 (repeat (first|with_reducible refine wV fun _=>?_|simp [go_sem]))
 refine ALoop.unroll ?_
 (repeat (first|with_reducible refine wV fun _=>?_|simp [go_sem]))
 (refine aIf.mkL (fun hF => by first | omega | (simp at hF; omega)) (fun hF => ?_); clear hF)
 (repeat (first|with_reducible refine wV fun _=>?_|simp [go_sem]))
 refine ALoop.unroll ?_
 (repeat (first|with_reducible refine wV fun _=>?_|simp [go_sem]))
 (refine aIf.mkL (fun hF => by first | omega | (simp at hF; omega)) (fun hF => ?_); clear hF)
 (repeat (first|with_reducible refine wV fun _=>?_|simp [go_sem]))
 refine ALoop.unroll ?_
 (repeat (first|with_reducible refine wV fun _=>?_|simp [go_sem]))
 (refine aIf.mkL (fun hF => by first | omega | (simp at hF; omega)) (fun hF => ?_); clear hF)
 (repeat (first|with_reducible refine wV fun _=>?_|simp [go_sem]))
 refine ALoop.unroll ?_
 (repeat (first|with_reducible refine wV fun _=>?_|simp [go_sem]))
 refine ACallP.ownsPlain (GrowI_owns _ (by omega) (by omega)) (by simp [go_sem]) ?_
 (repeat (first|with_reducible refine wV fun _=>?_|simp [go_sem]))
 refine ALoop.unroll ?_
 (repeat (first|with_reducible refine wV fun _=>?_|simp [go_sem]))
 refine ALoop.unroll ?_
 (repeat (first|with_reducible refine wV fun _=>?_|simp [go_sem]))
 refine ALoop.unroll ?_
 (repeat (first|with_reducible refine wV fun _=>?_|simp [go_sem]))
 refine ALoop.unroll ?_
 (repeat (first|with_reducible refine wV fun _=>?_|simp [go_sem]))
 refine ALoop.unroll ?_
 (repeat (first|with_reducible refine wV fun _=>?_|simp [go_sem]))
 exact frX

theorem bytesOf_U : ∀ l : List Int, bytesOf (l.map encU) = some l
 | [] => rfl
 | n :: l => by rw [List.map_cons, encU, bytesOf, bytesOf_U l]; rfl
def allP (p : PosD) : List Int := p.at_ ++ p.h0 ++ p.h1 ++ [p.rights, p.side]
def keyP (p : PosD) : ByteArray := strOf (allP p)
theorem Key_pure (p : PosD) (ha : p.at_.length ≤ 100) (hb : p.h0.length ≤ 100) (hc : p.h1.length ≤ 100) (hv : ∀ x ∈ allP p, 0 ≤ x ∧ x ≤ 255) : Pure Tryz.prog 166 [.agg (encPos p)] (.v (.string (keyP p))) := by
 refine pF Tryz.func166 ?_
 have hC : Pure Tryz.prog 208 [.lst 1 [[.lst 1 (p.at_.map encI)], [.lst 1 (p.h0.map encI)], [.lst 1 (p.h1.map encI)], [.lst 1 [[.v (.int .i64 p.rights)], [.v (.int .i64 p.side)]]]]] (encIs (p.at_ ++ p.h0 ++ p.h1 ++ [p.rights, p.side])) :=
  Concat4_pure p.at_ p.h0 p.h1 [p.rights, p.side] (by omega) (by omega) (by omega) (by simp)
 have hll : (allP p).length ≤ 302 := by simp [allP]; omega
 unfold keyP
 rw [show p.at_ ++ p.h0 ++ p.h1 ++ [p.rights, p.side] = allP p from rfl] at hC
 generalize allP p = l at *
 (repeat (first|with_reducible refine wV fun _=>?_|simp [go_sem]))
 refine ACallP.pureF [1, 2] hC ?_ (by simp [go_sem]) ?_
 ·(first|done|exact leX)
 (repeat (first|with_reducible refine wV fun _=>?_|simp [go_sem]))
 refine ALoop.start (ALoop.ind (α := Nat) (fun i => ⟨[(3, .sl 3 i 1 0 i), (20, encIs l), (21, .v (.int .i64 l.length)), (22, .v (.int .i64 i))], [(3, .rows true i 1 ((l.take i).map encU))], 4⟩)
  (fun d i => i + d = l.length) ?_ l.length 0 ?_) ?_ ?_
 ·rintro d i i1 hrec
  (repeat (first|with_reducible refine wV fun _=>?_|simp [go_sem]))
  refine aIf.mkL (fun hi => ?_) (fun hi => ?_) <;> simp at hi
  ·have hx := hv _ (nth_mem hi)
   have hem : (nth l i).emod 256 = nth l i := Int.emod_eq_of_lt hx.1 (by omega)
   have hem2 : nth l i % 256 = nth l i := hem
   (repeat (first|with_reducible refine wV fun _=>?_|simp [go_sem, hi, hem, hem2]))
   refine ALoop.start (hrec (d - 1) (by omega) (i + 1) (by omega)) ?_ (by simp)
   rw [List.take_add_one, List.getElem?_eq_getElem hi, ← nth_eq _ _ hi]
   simp [go_sem, Wk_eq, encU, hem, hem2]
   intro x hx c hc
   obtain ⟨y, _, rfl⟩ := List.mem_map.1 (List.mem_of_mem_take hx)
   simp only [encU, List.mem_singleton] at hc
   subst hc
   exact .v _
  ·have hb : bytesOf (List.take i (List.map encU l)) = some l := by rw [List.take_of_length_le (by simp; omega)]; exact bytesOf_U l
   have hb2 : bytesOf (List.take i (List.take i (List.map encU l))) = some l := by rw [List.take_take, Nat.min_self]; exact hb
   (repeat (first|with_reducible refine wV fun _=>?_|simp [go_sem, hb, hb2]))
 ·omega
 ·simp [go_sem, Wk_eq]
 ·simp
def digit (n : Int) : ByteArray := strOf [48 + n]
theorem sSmall_pure (n : Int) (h0 : 0 ≤ n) (h1 : n < 10) : Pure Tryz.prog 307 [.v (.int .i64 n)] (.v (.string (digit n))) := by
 refine pF Tryz.func307 ?_
 rcases (show n = 0 ∨ n = 1 ∨ n = 2 ∨ n = 3 ∨ n = 4 ∨ n = 5 ∨ n = 6 ∨ n = 7 ∨ n = 8 ∨ n = 9 by omega) with rfl | rfl | rfl | rfl | rfl | rfl | rfl | rfl | rfl | rfl <;> ((repeat (first|with_reducible refine wV fun _=>?_|simp [go_sem]))) <;> exact LeV.of_eq (by kernel_rfl)
theorem sFormat_pure (n : Int) (h0 : 0 ≤ n) (h1 : n < 10) : Pure Tryz.prog 305 [.v (.int .i64 n), .v (.int .i64 10)] (.v (.string (digit n))) := by
 refine pF Tryz.func305 ?_
 have hS := sSmall_pure n h0 h1
 have h1' : n < 100 := by omega
 (repeat (first|with_reducible refine wV fun _=>?_|simp [go_sem, h0, h1']))
 refine ACallP.plain hS (by simp [go_sem]) ?_
 (repeat (first|with_reducible refine wV fun _=>?_|simp [go_sem]))
theorem sItoa_pure (n : Int) (h0 : 0 ≤ n) (h1 : n < 10) : Pure Tryz.prog 293 [.v (.int .i64 n)] (.v (.string (digit n))) := by
 refine pF Tryz.func293 ?_
 have hS := sFormat_pure n h0 h1
 (repeat (first|with_reducible refine wV fun _=>?_|simp [go_sem]))
 refine ACallP.plain hS (by simp [go_sem]) ?_
 (repeat (first|with_reducible refine wV fun _=>?_|simp [go_sem]))
theorem Itoa_pure (n : Int) (h0 : 0 ≤ n) (h1 : n < 10) : Pure Tryz.prog 252 [.v (.int .i64 n)] (.v (.string (digit n))) := by
 refine pF Tryz.func252 ?_
 have hS := sItoa_pure n h0 h1
 (repeat (first|with_reducible refine wV fun _=>?_|simp [go_sem]))
 refine ACallP.plain hS (by simp [go_sem]) ?_
 (repeat (first|with_reducible refine wV fun _=>?_|simp [go_sem]))
theorem sBool_pure (b : Bool) : Pure Tryz.prog 294 [.v (.bool b)] (.v (.string (if b then strOf [116, 114, 117, 101] else strOf [102, 97, 108, 115, 101]))) := by
 refine pF Tryz.func294 ?_
 cases b
 ·(repeat (first|with_reducible refine wV fun _=>?_|simp [go_sem]))
  exact LeV.of_eq (by kernel_rfl)
 ·(repeat (first|with_reducible refine wV fun _=>?_|simp [go_sem]))
  exact LeV.of_eq (by kernel_rfl)
theorem Bool_pure (b : Bool) : Pure Tryz.prog 253 [.v (.bool b)] (.v (.string (if b then strOf [116, 114, 117, 101] else strOf [102, 97, 108, 115, 101]))) := by
 refine pF Tryz.func253 ?_
 have hS := sBool_pure b
 (repeat (first|with_reducible refine wV fun _=>?_|simp [go_sem]))
 refine ACallP.plain hS (by simp [go_sem]) ?_
 (repeat (first|with_reducible refine wV fun _=>?_|simp [go_sem]))
theorem strGo_toList : ∀ (l : List Int) (r : ByteArray), (l.foldl (fun r n => r.push (UInt8.ofNat n.toNat)) r).data.toList = r.data.toList ++ l.map fun n => UInt8.ofNat n.toNat
 | [], r => by simp
 | n :: l, r => by
  rw [List.foldl_cons, strGo_toList l]
  simp [ByteArray.push]
theorem strOf_toList (l : List Int) : (strOf l).data.toList = l.map fun n => UInt8.ofNat n.toNat := by
 unfold strOf; rw [strGo_toList]; rfl
theorem strOf_size (l : List Int) : (strOf l).size = l.length := by
 rw [← ByteArray.size_data, ← Array.length_toList, strOf_toList, List.length_map]
def keyS (s : StD) : ByteArray := digit s.kind ++ strOf [32] ++ digit s.cursor ++ strOf [32] ++ (if s.took then strOf [116, 114, 117, 101] else strOf [102, 97, 108, 115, 101]) ++ strOf [32] ++ keyP s.p
theorem key_pure (s : StD) (hk : 0 ≤ s.kind ∧ s.kind < 10) (hc : 0 ≤ s.cursor ∧ s.cursor < 10) (h1 : s.p.at_.length ≤ 100) (h2 : s.p.h0.length ≤ 100) (h3 : s.p.h1.length ≤ 100) (hv : ∀ x ∈ allP s.p, 0 ≤ x ∧ x ≤ 255) :
  Pure Tryz.prog 200 [.agg (encState s)] (.v (.string (keyS s))) := by
 refine pF Tryz.func200 ?_
 have hK := Itoa_pure s.kind hk.1 hk.2
 have hC := Itoa_pure s.cursor hc.1 hc.2
 have hB := Bool_pure s.took
 have hP := Key_pure s.p h1 h2 h3 hv
 have hdk : (digit s.kind).size = 1 := strOf_size _
 have hdc : (digit s.cursor).size = 1 := strOf_size _
 have hdb : (if s.took then strOf [116, 114, 117, 101] else strOf [102, 97, 108, 115, 101]).size ≤ 5 := by split <;> simp [strOf_size]
 have hdp : (keyP s.p).size ≤ 302 := by unfold keyP; rw [strOf_size]; simp [allP]; omega
 have h32 : (ByteArray.mk ⟨[32]⟩).size = 1 := rfl
 unfold keyS
 rw [show strOf [32] = ByteArray.mk ⟨[32]⟩ from rfl]
 generalize digit s.kind = dk at *
 generalize digit s.cursor = dc at *
 generalize (if s.took then strOf [116, 114, 117, 101] else strOf [102, 97, 108, 115, 101]) = db at *
 generalize keyP s.p = dp at *
 generalize ByteArray.mk ⟨[32]⟩ = sp at *
 (repeat (first|with_reducible refine wV fun _=>?_|simp [go_sem]))
 refine dCall.plain hK (by simp [go_sem]) ?_
 (repeat (first|with_reducible refine wV fun _=>?_|simp [go_sem]))
 refine dCall.plain hC (by simp [go_sem]) ?_
 (repeat (first|with_reducible refine wV fun _=>?_|simp [go_sem]))
 refine dCall.plain hB (by simp [go_sem]) ?_
 (repeat (first|with_reducible refine wV fun _=>?_|simp [go_sem]))
 refine dCall.plain hP (by simp [go_sem]) ?_
 (repeat (first|with_reducible refine wV fun _=>?_|simp [go_sem]))
end Go.Av
end
section
/- Contracts, runs of the program: what Runs does with a state. -/
open Go Go.Proofs
namespace Go.Av
def lookP (side : Int) (x : Int × Int) (s : StD) (l : List OutD) : List OutD := if x.1 = 0 then l ++ (putS side s).toList else l
def lookH (p : PosD) (l : List OutD) : List (Nat × AObj) := [(0, .rows true 0 5 [encPos p]), (1, .rows true 0 1 [[.sl 2 l.length 6 0 l.length]]), (2, .rows true l.length 6 (l.map encOut))]
theorem look_owns (g : GameD) (hg : GOk g) (p : PosD) (hp : POk g p) (s : StD) (hs : StOk g s) (hsd : s.p.side = p.side) (x : Int × Int) (l : List OutD) (hl : l.length ≤ 100000000) :
  OwnsA Tryz.prog 143 [.agg (encState s), .agg (encStep x), .ref 0 0 5 0 0, .ref 1 0 1 0 0] (lookH p l) 3 (.tup []) (lookH p (lookP p.side x s l)) 3 := by
 unfold OwnsA lookH
 refine ACallP.of_awp (by kernel_rfl) Tryz.func143 rfl rfl (Nat.le_of_ble_eq_true rfl) (by kernel_rfl) ?_
 obtain ⟨hcur, h0, hm, _⟩ := man_at g s hg hs
 have hcp := own_owns s (hs.p.fits hg)
 have hC := gCode_pure s.kind p.side
 have hps := hp.s
 obtain ⟨op, xn⟩ := x
 (repeat (first|with_reducible refine wV fun _=>?_|simp [go_sem, hcur]))
 refine aIf.mkL (fun hc => ?_) (fun hc => ?_) <;> simp at hc
 ·have e : lookP p.side (op, xn) s l = l := by
   unfold lookP putS
   by_cases h : op = 0
   ·rw [if_pos h, if_neg (hc.resolve_left fun hn => hn h)]; simp
   ·rw [if_neg h]
  rw [e]
  (repeat (first|with_reducible refine wV fun _=>?_|simp [go_sem]))
  simp [go_sem, Wk_eq]
 ·have e : lookP p.side (op, xn) s l = l ++ [⟨{ s.p with at_ := s.p.at_.set s.cursor.toNat (codeOf s.kind p.side), side := 1 - p.side }, s.took⟩] := by
   unfold lookP putS
   rw [if_pos hc.1, if_pos hc.2]; rfl
  rw [e]
  generalize codeOf s.kind p.side = code at *
  (repeat (first|with_reducible refine wV fun _=>?_|simp [go_sem, hcur]))
  refine ACallP.ownsPlain hcp (by simp [go_sem]) ?_
  (repeat (first|with_reducible refine wV fun _=>?_|simp [go_sem, hcur]))
  refine dCall.plain hC (by simp [go_sem]) ?_
  (repeat (first|with_reducible refine wV fun _=>?_|simp [go_sem, hcur]))
  simp [go_sem, Wk_eq]
  (first|done|exact rwX)
theorem bel_map_out {n : Nat} (l : List OutD) : ∀ r ∈ l.map encOut, ∀ c ∈ r, Bel n c := by
 intro r hr c hc
 obtain ⟨x, _, rfl⟩ := List.mem_map.1 hr
 revert c
 simp [go_sem]
def lookUp (h : Heap) (a b c : Nat) (p : PosD) (l : List OutD) : Heap := upd (upd (upd h a (some (.rows true 0 5 [encPos p]))) b (some (.rows true 0 1 [[.sl c l.length 6 0 l.length]]))) c (some (.rows true l.length 6 (l.map encOut)))
theorem look_call (g : GameD) (hg : GOk g) (p : PosD) (hp : POk g p) (s : StD) (hs : StOk g s) (hsd : s.p.side = p.side) (x : Int × Int) (l : List OutD) (hl : l.length ≤ 100000000) {h : Heap} {n a b c : Nat}
  (hd : [a, b, c].Nodup) (hlt : ∀ j ∈ [a, b, c], j < n) (ha : h a = some (.rows true 0 5 [encPos p])) (hb : h b = some (.rows true 0 1 [[.sl c l.length 6 0 l.length]])) (hc : h c = some (.rows true l.length 6 (l.map encOut))) {K : CallK}
  (hK : K (.tup []) (lookUp h a b c p (lookP p.side x s l)) n) :
  ACallP Tryz.prog 143 [.agg (encState s), .agg (encStep x), .ref a 0 5 0 0, .ref b 0 1 0 0] h n K := by
 have hbs : ∀ m, Bel m (.agg (encState s)) := fun m => by simp [go_sem]
 have hbx : ∀ m, Bel m (.agg (encStep x)) := fun m => by simp [go_sem]
 have hbp : ∀ m, ∀ c ∈ encPos p, Bel m c := fun m => by simp [go_sem]
 refine ACallP.ownsA (args' := [.agg (encState s), .agg (encStep x), .ref a 0 5 0 0, .ref b 0 1 0 0])
  (HH := [(a, .rows true 0 5 [encPos p]), (b, .rows true 0 1 [[.sl c (lookP p.side x s l).length 6 0 (lookP p.side x s l).length]]), (c, .rows true (lookP p.side x s l).length 6 ((lookP p.side x s l).map encOut))])
  [a, b, c] h (look_owns g hg p hp s hs hsd x l hl) hd hlt rfl (Nat.le_refl _) (.refl _) ?_ ?_ (.refl _ _ _ _) ?_ ?_ ?_ (.same ?_) ?_ ?_
 ·intro j hj
  rcases (show j = 0 ∨ j = 1 ∨ j = 2 by omega) with rfl | rfl | rfl
  ·exact ⟨_, _, rfl, ha, .rows (.same (by intro r hr; simp only [List.mem_singleton] at hr; subst hr; exact hbp _))⟩
  ·exact ⟨_, _, rfl, hb, .rows (.cons (.cons (.sl rfl) .nil) .nil)⟩
  ·exact ⟨_, _, rfl, hc, .rows (.same (bel_map_out _))⟩
 ·intro q hq
  simp only [lookH, List.mem_cons, List.not_mem_nil, or_false] at hq
  rcases hq with rfl | rfl | rfl
  ·exact ⟨Nat.le_of_ble_eq_true rfl, by intro r hr; simp only [List.mem_singleton] at hr; subst hr; exact hbp _⟩
  ·exact ⟨Nat.le_of_ble_eq_true rfl, by simp [go_sem, BelO]⟩
  ·exact ⟨Nat.le_of_ble_eq_true rfl, bel_map_out _⟩
 ·intro y hy
  simp only [List.mem_cons, List.not_mem_nil, or_false] at hy
  rcases hy with rfl | rfl | rfl | rfl
  ·exact hbs _
  ·exact hbx _
  ·exact .ref (hlt a (by simp))
  ·exact .ref (hlt b (by simp))
 ·exact .cons (.same (hbs _)) (.cons (.same (hbx _)) (.cons (.ref rfl) (.cons (.ref rfl) .nil)))
 ·intro y hy
  simp only [List.mem_cons, List.not_mem_nil, or_false] at hy
  rcases hy with rfl | rfl | rfl | rfl
  ·exact hbs _
  ·exact hbx _
  ·exact .ref (by decide)
  ·exact .ref (by decide)
 ·exact .tup (by simp)
 ·exact .cons rfl (.rows (.same (by intro r hr; simp only [List.mem_singleton] at hr; subst hr; exact hbp _))) (.cons rfl (.rows (.cons (.cons (.sl rfl) .nil) .nil)) (.cons rfl (.rows (.same (bel_map_out _))) .nil))
 ·have e : over [(a, .rows true 0 5 [encPos p]), (b, .rows true 0 1 [[.sl c (lookP p.side x s l).length 6 0 (lookP p.side x s l).length]]), (c, .rows true (lookP p.side x s l).length 6 ((lookP p.side x s l).map encOut))] (remH [a, b, c] h) = lookUp h a b c p (lookP p.side x s l) := by
   simp only [List.nodup_cons, List.mem_cons, List.not_mem_nil, or_false, not_or, List.nodup_nil, and_true, not_false_eq_true] at hd
   obtain ⟨⟨d1, d2⟩, d3⟩ := hd
   funext j
   simp only [over, remH, lookUp, upd]
   by_cases j1 : j = a
   ·subst j1; simp [d1, d2]
   ·by_cases j2 : j = b
    ·subst j2; simp [d3, j1]
    ·by_cases j3 : j = c
     ·subst j3; simp [j1, j2]
     ·simp [j1, j2, j3]
  rw [e]
  exact hK
end Go.Av
end
section
/- States and their keys. -/
open Go Go.Proofs
namespace Go.Av
def keyL (s : StD) : List Int := [48 + s.kind, 32, 48 + s.cursor, 32] ++ ((if s.took then [116, 114, 117, 101] else [102, 97, 108, 115, 101]) ++ ([32] ++ allP s.p))
theorem keyS_toList (s : StD) : (keyS s).data.toList = (keyL s).map fun n => UInt8.ofNat n.toNat := by
 unfold keyS digit keyP keyL
 cases s.took <;> simp [ByteArray.data_append, strOf_toList]
theorem u8_inj {x y : Int} (hx : 0 ≤ x ∧ x ≤ 255) (hy : 0 ≤ y ∧ y ≤ 255) (h : UInt8.ofNat x.toNat = UInt8.ofNat y.toNat) : x = y := by
 have h1 := congrArg UInt8.toNat h
 rw [UInt8.toNat_ofNat', UInt8.toNat_ofNat'] at h1
 omega
theorem map_u8_inj : ∀ {l l' : List Int}, (∀ x ∈ l, 0 ≤ x ∧ x ≤ 255) → (∀ x ∈ l', 0 ≤ x ∧ x ≤ 255) → (l.map fun n => UInt8.ofNat n.toNat) = (l'.map fun n => UInt8.ofNat n.toNat) → l = l'
 | [], [], _, _, _ => rfl
 | [], _ :: _, _, _, h => by simp at h
 | _ :: _, [], _, _, h => by simp at h
 | x :: l, y :: l', h1, h2, h => by
  simp only [List.map_cons, List.cons.injEq] at h
  rw [u8_inj (h1 x (by simp)) (h2 y (by simp)) h.1, map_u8_inj (fun z hz => h1 z (by simp [hz])) (fun z hz => h2 z (by simp [hz])) h.2]
theorem allP_ok {g : GameD} (hg : GOk g) {p : PosD} (hp : POk g p) : ∀ x ∈ allP p, 0 ≤ x ∧ x ≤ 255 := by
 have k6 := hg.k6
 have r0 := hp.r0
 have r1 := hp.r1
 have hr : (2 : Int) ^ g.rights.toNat ≤ 16 := by
  have h1 := hg.r0
  have h2 := hg.r4
  rcases (show g.rights = 0 ∨ g.rights = 1 ∨ g.rights = 2 ∨ g.rights = 3 ∨ g.rights = 4 by omega) with h | h | h | h | h <;> rw [h] <;> decide
 have hh : ∀ l, HandOk g l → ∀ x ∈ l, 0 ≤ x ∧ x ≤ 255 := by
  intro l hl x hx
  obtain ⟨i, hi, rfl⟩ := List.mem_iff_getElem.1 hx
  have := hl.v i hi
  rw [nth_eq _ _ hi] at this
  omega
 intro x hx
 simp only [allP, List.mem_append, List.mem_cons, List.not_mem_nil, or_false] at hx
 rcases hx with ((hx | hx) | hx) | hx | hx
 ·have := hp.av x hx; omega
 ·exact hh _ hp.h0 x hx
 ·exact hh _ hp.h1 x hx
 ·omega
 ·have := hp.s; omega
theorem keyS_inj {g : GameD} (hg : GOk g) {a b : StD} (ha : StOk g a) (hb : StOk g b) (h : keyS a = keyS b) : a = b := by
 have k6 := hg.k6
 have c9 := hg.c9
 have hv : ∀ s, StOk g s → ∀ x ∈ keyL s, 0 ≤ x ∧ x ≤ 255 := by
  intro s hs x hx
  have hk := hs.k
  have h0 := hs.c0
  have h1 := hs.c1
  unfold keyL at hx
  rcases List.mem_append.1 hx with hx | hx
  ·simp at hx; omega
  rcases List.mem_append.1 hx with hx | hx
  ·by_cases ht : s.took = true <;> simp [ht] at hx <;> omega
  rcases List.mem_append.1 hx with hx | hx
  ·simp at hx; omega
  ·exact allP_ok hg hs.p x hx
 have h1 : keyL a = keyL b := map_u8_inj (hv a ha) (hv b hb) (by rw [← keyS_toList, ← keyS_toList, h])
 obtain ⟨pa, ka, ca, ta⟩ := a
 obtain ⟨pb, kb, cb, tb⟩ := b
 unfold keyL at h1
 simp only [List.cons_append, List.nil_append, List.cons.injEq, true_and] at h1
 obtain ⟨e1, e2, h1⟩ := h1
 obtain rfl : ka = kb := by omega
 obtain rfl : ca = cb := by omega
 have h2 : ta = tb ∧ allP pa = allP pb := by
  cases ta <;> cases tb <;> simp at h1 ⊢
  ·exact h1
  ·exact h1
 obtain ⟨rfl, h2⟩ := h2
 have a1 := ha.p.al
 have b1 := hb.p.al
 have a2 := ha.p.h0.len
 have b2 := hb.p.h0.len
 have a3 := ha.p.h1.len
 have b3 := hb.p.h1.len
 obtain ⟨pat, ph0, ph1, pr, ps⟩ := pa
 obtain ⟨qat, qh0, qh1, qr, qs⟩ := pb
 simp only [allP, List.append_assoc] at h2 a1 b1 a2 b2 a3 b3
 obtain ⟨e3, h3⟩ := List.append_inj h2 (by omega)
 obtain ⟨e4, h4⟩ := List.append_inj h3 (by omega)
 obtain ⟨e5, h5⟩ := List.append_inj h4 (by omega)
 simp only [List.cons.injEq, and_true] at h5
 rw [e3, e4, e5, h5.1, h5.2]
def keyRow (s : StD) : List AV := [.v (.string (keyS s)), .v (.bool true)]
theorem bel_keys {n : Nat} {l : List StD} : (∀ r ∈ l.map keyRow, ∀ c ∈ r, Bel n c) = True := by
 refine eq_true ?_
 intro r hr c hc
 obtain ⟨x, _, rfl⟩ := List.mem_map.1 hr
 simp only [keyRow, List.mem_cons, List.not_mem_nil, or_false] at hc
 rcases hc with rfl | rfl <;> exact .v _
attribute [go_sem ↓] bel_keys
theorem find_keys (t : StD) : ∀ (next : List StD), (∀ s ∈ next, keyS t = keyS s → t = s) → mapFind .string (.v (.string (keyS t))) (next.map keyRow) = some (if t ∈ next then some (.v (.bool true)) else none)
 | [], _ => by simp [mapFind]
 | s :: next, h => by
  rw [List.map_cons, mapFind]
  have e : keyEq .string (.v (.string (keyS t))) (cel (keyRow s) 0) = some (keyS t == keyS s) := rfl
  rw [e, bytes_beq]
  by_cases hk : keyS t = keyS s
  ·have := h s (by simp) hk
   subst this
   simp [keyRow, cel]
  ·have hne : t ≠ s := fun e => hk (by rw [e])
   rw [decide_eq_false hk]
   simp only
   rw [find_keys t next (fun u hu => h u (by simp [hu]))]
   simp [hne]
theorem put_keys (t : StD) : ∀ (next : List StD), (∀ s ∈ next, keyS t = keyS s → t = s) → t ∉ next → mapPut .string (.v (.string (keyS t))) (.v (.bool true)) (next.map keyRow) = some ((next ++ [t]).map keyRow)
 | [], _, _ => by simp [mapPut, keyRow]
 | s :: next, h, hn => by
  rw [List.map_cons, mapPut]
  have e : keyEq .string (.v (.string (keyS t))) (cel (keyRow s) 0) = some (keyS t == keyS s) := rfl
  rw [e, bytes_beq]
  have hk : keyS t ≠ keyS s := fun e => hn (by rw [h s (by simp) e]; simp)
  rw [decide_eq_false hk]
  simp only
  rw [put_keys t next (fun u hu => h u (by simp [hu])) (fun hm => hn (by simp [hm]))]
  simp
end Go.Av
end
section
/- Contracts, runs of the program: run. -/
open Go Go.Proofs
namespace Go.Av
def lastO (g : GameD) (p : PosD) (cell i : Int) : List OutD := (lastS g p cell (progOf g p cell i)).filterMap (putS p.side)
theorem run_owns (g : GameD) (hg : GOk g) (p : PosD) (hp : POk g p) (cell i : Int) (hc : ChoiceOk g p cell i) :
  OwnsA Tryz.prog 142 [.agg (encGame g), .agg (encPos p), .v (.int .i64 cell), .v (.int .i64 i), .fn (.func 143) [] [.ref 0 0 5 0 0, .ref 1 0 1 0 0]]
   [(0, .rows true 0 5 [encPos p]), (1, .rows true 0 1 [[AV.nils]])] 2 (.v (.int .i64 0))
   [(0, .rows true 0 5 [encPos p]), (1, .rows true 0 1 [[.sl 247 (lastO g p cell i).length 6 0 (lastO g p cell i).length]]), (247, .rows true (lastO g p cell i).length 6 ((lastO g p cell i).map encOut))] 248 := by
 unfold OwnsA
 refine ACallP.of_awp (by kernel_rfl) Tryz.func142 rfl rfl (Nat.le_of_ble_eq_true rfl) (by kernel_rfl) ?_
 have hal := hp.al
 obtain ⟨c0, c1, cm, cs, i0, i1⟩ := hc
 have hcur : cell.toNat < p.at_.length := by omega
 have hat := hp.at (i := cell.toNat) (by omega)
 have hO := gMan_pure (nth p.at_ cell.toNat)
 have hman := manOf_cases hat.1 hat.2 hg.k6
 have hV := Valid_pure g (by have := hg.k6; unfold FitsG; omega) ⟨hg.r0, by have := hg.r4; omega⟩ p (hp.fits hg)
 rw [pOk_iff.2 hp] at hV
 have hkl : (manOf (nth p.at_ cell.toNat)).1.toNat < g.kinds.length := by
  rcases hman with ⟨_, e⟩ | ⟨_, a, b, _⟩
  ·rw [e] at cm; simp at cm
  ·omega
 have hil : i.toNat < (nth g.kinds (manOf (nth p.at_ cell.toNat)).1.toNat).progs.length := by omega
 have hpg := hg.pr _ (nth_mem hkl) _ (nth_mem hil)
 have hst := fun n hn => stageS_ok hg hp c0 c1 cm (prog := progOf g p cell i) hpg.st n hn
 have hz := stageS_zero g p cell (progOf g p cell i)
 have hsu := fun n hn => stageS_succ g p cell (progOf g p cell i) (n := n) hn
 have hla := stageS_last g p cell (progOf g p cell i)
 have hp8 := hpg.len
 have hpst := hpg.st
 have hpe : progOf g p cell i = nth (nth g.kinds (manOf (nth p.at_ cell.toNat)).1.toNat).progs i.toNat := rfl
 rw [← hpe] at hp8 hpst
 have hlo : lastO g p cell i = (lastS g p cell (progOf g p cell i)).filterMap (putS p.side) := rfl
 rw [hlo]
 obtain ⟨prog, hprog⟩ : ∃ q, q = progOf g p cell i := ⟨_, rfl⟩
 rw [← hprog] at hst hz hsu hp8 hpst hpe hla ⊢
 have hcp := own_owns ⟨p, (manOf (nth p.at_ cell.toNat)).1, cell, false⟩ (hp.fits hg)
 generalize hm : manOf (nth p.at_ cell.toNat) = m at *
 obtain ⟨mk, ms⟩ := m
 simp only at cm cs i1 hkl hil hpe hcp
 (repeat (first|with_reducible refine wV fun _=>?_|simp [go_sem]))
 refine ACallP.plain hV (by simp [go_sem]) ?_
 (repeat (first|with_reducible refine wV fun _=>?_|simp [go_sem, hcur]))
 (refine aIf.mkL (fun hF => by first | omega | (simp at hF; omega)) (fun hF => ?_); clear hF)
 (repeat (first|with_reducible refine wV fun _=>?_|simp [go_sem, hcur]))
 refine ACallP.plain hO (by simp [go_sem]) ?_
 (repeat (first|with_reducible refine wV fun _=>?_|simp [go_sem, hkl, hil, cs]))
 (refine aIf.mkL (fun hF => by first | omega | (simp at hF; omega)) (fun hF => ?_); clear hF)
 (repeat (first|with_reducible refine wV fun _=>?_|simp [go_sem]))
 refine ACallP.ownsPlain hcp (by simp [go_sem]) ?_
 (repeat (first|with_reducible refine wV fun _=>?_|simp [go_sem, hcur, hkl, hil]))
 rw [← hpe]
 have hsz : ∀ n, n ≤ prog.length → (stageS g p cell prog n).length ≤ 100000000 := fun n hn => Nat.le_trans (hst n hn).2 (pow10_le (by omega))
 have hst0 : encSs (stageS g p cell prog 0) = .lst 8 [[.lst 1 ((p.at_.map encI).set cell.toNat [.v (.int .i64 0)]), encIs p.h0, encIs p.h1, .v (.int .i64 p.rights), .v (.int .i64 p.side), .v (.int .i64 mk), .v (.int .i64 cell), .v (.bool false)]] := by
  rw [hz]; simp [encSs, startS, encState, clr, hm, encIs, encI, List.map_set]
 refine ALoop.start (ALoop.ind (α := Nat) (fun k => ⟨[(4, .fn (.func 143) [] [.ref 0 0 5 0 0, .ref 1 0 1 0 0]), (5, .ref 2 0 9 0 0), (14, encSs (stageS g p cell prog k)), (87, encProg prog), (88, .v (.int .i64 prog.length)), (89, .v (.int .i64 k))],
   [(0, .rows true 0 5 [encPos p]), (1, .rows true 0 1 [[.sl 247 0 6 0 0]]), (2, .rows true 0 9 [encGame g]), (247, .rows true 0 6 [])], 248⟩)
  (fun d k => k + d = prog.length) ?_ prog.length 0 ?_) ?_ ?_
 ·rintro d k k1 hrec
  (repeat (first|with_reducible refine wV fun _=>?_|simp [go_sem]))
  refine aIf.mkL (fun hk => ?_) (fun hk => ?_) <;> simp at hk
  ·have hkk := hst k (by omega)
   have hks := hsz k (by omega)
   have hks' := hsz (k + 1) (by omega)
   have hsk := hsu k hk
   have hxs := hpst _ (nth_mem hk)
   have hpo := fun n hn => partS_ok hg hxs hkk.1 n hn
   have hpa := partS_all g (stageS g p cell prog k) (nth prog k)
   have hpz := partS_zero g (stageS g p cell prog k) (nth prog k)
   have hps := fun n hn => partS_succ g (stageS g p cell prog k) (nth prog k) (n := n) hn
   rw [← hsk] at hpa
   obtain ⟨now, hnow⟩ : ∃ now, now = stageS g p cell prog k := ⟨_, rfl⟩
   rw [← hnow] at hkk hks hpo hpa hpz hps ⊢
   obtain ⟨x, hx⟩ : ∃ x, x = nth prog k := ⟨_, rfl⟩
   rw [← hx] at hxs hpo hpa hpz hps
   (repeat (first|with_reducible refine wV fun _=>?_|simp [go_sem, hk, ← hx]))
   refine ALoop.start (ALoop.ind (α := Nat) (fun n => ⟨[(4, .fn (.func 143) [] [.ref 0 0 5 0 0, .ref 1 0 1 0 0]), (5, .ref 2 0 9 0 0), (16, .ref 248 0 2 0 0), (17, .sl 250 (partS g now x n).length 8 0 (partS g now x n).length), (18, .mp 249), (87, encProg prog), (88, .v (.int .i64 prog.length)), (89, .v (.int .i64 k)), (94, encSs now), (95, .v (.int .i64 now.length)), (96, .v (.int .i64 n))],
     [(0, .rows true 0 5 [encPos p]), (1, .rows true 0 1 [[.sl 247 0 6 0 0]]), (2, .rows true 0 9 [encGame g]), (247, .rows true 0 6 []), (248, .rows true 0 2 [encStep x]), (249, .rows true 0 2 ((partS g now x n).map keyRow)), (250, .rows true (partS g now x n).length 8 ((partS g now x n).map encState))], 251⟩)
    (fun d n => n + d = now.length) ?_ now.length 0 ?_) ?_ ?_
   ·rintro d2 n n1 hrec2
    (repeat (first|with_reducible refine wV fun _=>?_|simp [go_sem]))
    refine aIf.mkL (fun hn => ?_) (fun hn => ?_) <;> simp at hn
    ·have hsn := hkk.1 _ (nth_mem hn)
     have hpn := hps n hn
     have hpoN := hpo n (by omega)
     have hpoS := hpo (n + 1) (by omega)
     have hSt := step_pure g hg (nth now n) hsn.1 x hxs
     have hsl := stepS_len hg (nth now n) x
     have hso := stepS_ok hg hsn.1 hxs
     have hlk : lookP p.side x (nth now n) [] = [] := by unfold lookP; rw [if_neg (by have := hxs.1; omega)]
     obtain ⟨s, hs⟩ : ∃ s, s = nth now n := ⟨_, rfl⟩
     rw [← hs] at hsn hpn hSt hsl hso hlk
     obtain ⟨more, hmore⟩ : ∃ more, more = stepS g s x := ⟨_, rfl⟩
     rw [← hmore] at hpn hSt hsl hso
     have hat := fun j hj => addS_take (partS g now x n) more (i := j) hj
     have hal' := fun j => addS_len (more.take j) (partS g now x n)
     have haok : ∀ j, ∀ u ∈ addS (partS g now x n) (more.take j), StOk g u := fun j => addS_all (fun u hu => (hpoN.1 u hu).1) (fun u hu => (hso u (List.mem_of_mem_take hu)).1)
     have haz : addS (partS g now x n) (more.take 0) = partS g now x n := by simp [addS_nil]
     have haa : addS (partS g now x n) (more.take more.length) = partS g now x (n + 1) := by rw [List.take_length, hpn]
     obtain ⟨nx, hnx⟩ : ∃ nx : Nat → List StD, nx = fun j => addS (partS g now x n) (more.take j) := ⟨_, rfl⟩
     have hnx' : ∀ j, addS (partS g now x n) (more.take j) = nx j := fun j => by rw [hnx]
     simp only [hnx'] at hat hal' haok haz haa
     clear hnx hnx'
     (repeat (first|with_reducible refine wV fun _=>?_|simp [go_sem, hn, ← hs]))
     refine look_call g hg p hp s hsn.1 hsn.2 x [] (by simp) (a := 0) (b := 1) (c := 247) (by decide) (by simp) (by simp [upd, encPos, encIs]) (by simp [upd]) (by simp [upd]) ?_
     rw [hlk]
     simp only [lookUp]
     (repeat (first|with_reducible refine wV fun _=>?_|simp [go_sem]))
     refine ACallP.plain hSt (by simp [go_sem]) ?_
     (repeat (first|with_reducible refine wV fun _=>?_|simp [go_sem]))
     refine ALoop.start (ALoop.ind (α := Nat) (fun j => ⟨[(4, .fn (.func 143) [] [.ref 0 0 5 0 0, .ref 1 0 1 0 0]), (5, .ref 2 0 9 0 0), (16, .ref 248 0 2 0 0), (17, .sl 250 (nx j).length 8 0 (nx j).length), (18, .mp 249), (87, encProg prog), (88, .v (.int .i64 prog.length)), (89, .v (.int .i64 k)), (94, encSs now), (95, .v (.int .i64 now.length)), (96, .v (.int .i64 n)), (107, encSs more), (108, .v (.int .i64 more.length)), (109, .v (.int .i64 j))],
       [(0, .rows true 0 5 [encPos p]), (1, .rows true 0 1 [[.sl 247 0 6 0 0]]), (2, .rows true 0 9 [encGame g]), (247, .rows true 0 6 []), (248, .rows true 0 2 [encStep x]), (249, .rows true 0 2 ((nx j).map keyRow)), (250, .rows true (nx j).length 8 ((nx j).map encState))], 252⟩)
      (fun d j => j + d = more.length) ?_ more.length 0 ?_) ?_ ?_
     ·rintro d3 j j1 hrec3
      (repeat (first|with_reducible refine wV fun _=>?_|simp [go_sem]))
      refine aIf.mkL (fun hj => ?_) (fun hj => ?_) <;> simp at hj
      ·have htj := (hso _ (nth_mem hj)).1
       have hatj := hat j hj
       have halj := hal' j
       have hmj : (more.take j).length ≤ 10 := by rw [List.length_take]; omega
       obtain ⟨t, ht⟩ : ∃ t, t = nth more j := ⟨_, rfl⟩
       rw [← ht] at htj hatj
       have hk6 := hg.k6
       have hc9 := hg.c9
       have hta := htj.p.al
       have ht0 := htj.p.h0.len
       have ht1 := htj.p.h1.len
       have htk := htj.k
       have htc0 := htj.c0
       have htc1 := htj.c1
       have hKey := key_pure t (by omega) (by omega) (by omega) (by omega) (by omega) (allP_ok hg htj.p)
       have hin : ∀ u ∈ nx j, keyS t = keyS u → t = u := fun u hu e => keyS_inj hg htj (haok j u hu) e
       have hfind := find_keys t (nx j) hin
       have hput := put_keys t (nx j) hin
       (repeat (first|with_reducible refine wV fun _=>?_|simp [go_sem, hj, ← ht]))
       refine ACallP.plain hKey (by simp [go_sem]) ?_
       by_cases hmem : t ∈ nx j
       ·rw [if_pos hmem] at hatj hfind
        (repeat (first|with_reducible refine wV fun _=>?_|simp [go_sem, hfind]))
        refine ALoop.start (hrec3 (d3 - 1) (by omega) (j + 1) (by omega)) ?_ (by simp)
        simp [go_sem, Wk_eq, hatj]
       ·rw [if_neg hmem] at hatj hfind
        have hput := hput hmem
        (repeat (first|with_reducible refine wV fun _=>?_|simp [go_sem, hfind, hput]))
        refine ALoop.start (hrec3 (d3 - 1) (by omega) (j + 1) (by omega)) ?_ (by simp)
        simp [go_sem, Wk_eq, hatj]
        intro c hc
        simp only [keyRow, List.mem_cons, List.not_mem_nil, or_false] at hc
        rcases hc with rfl | rfl <;> exact .v _
      ·have hnl : j = more.length := by omega
       subst hnl
       rw [haa]
       (repeat (first|with_reducible refine wV fun _=>?_|simp [go_sem]))
       refine ALoop.start (hrec2 (d2 - 1) (by omega) (n + 1) (by omega)) ?_ (by simp)
       simp [go_sem, Wk_eq]
     ·omega
     ·simp [go_sem, Wk_eq, haz]
     ·simp
    ·have hnl : n = now.length := by omega
     subst hnl
     rw [hpa]
     (repeat (first|with_reducible refine wV fun _=>?_|simp [go_sem]))
     refine ALoop.start (hrec (d - 1) (by omega) (k + 1) (by omega)) ?_ (by simp)
     simp [go_sem, Wk_eq]
     exact frX
   ·omega
   ·simp [go_sem, Wk_eq, hpz]
   ·simp
  ·have hkl' : k = prog.length := by omega
   subst hkl'
   rw [hla]
   have hl8 := hsz prog.length (Nat.le_refl _)
   have hlok := (hst prog.length (Nat.le_refl _)).1
   rw [hla] at hl8 hlok
   generalize lastS g p cell prog = last at *
   (repeat (first|with_reducible refine wV fun _=>?_|simp [go_sem]))
   refine ALoop.start (ALoop.ind (α := Nat) (fun j => ⟨[(4, .fn (.func 143) [] [.ref 0 0 5 0 0, .ref 1 0 1 0 0]), (129, encSs last), (130, .v (.int .i64 last.length)), (131, .v (.int .i64 j))],
     [(0, .rows true 0 5 [encPos p]), (1, .rows true 0 1 [[.sl 247 ((last.take j).filterMap (putS p.side)).length 6 0 ((last.take j).filterMap (putS p.side)).length]]), (247, .rows true ((last.take j).filterMap (putS p.side)).length 6 (((last.take j).filterMap (putS p.side)).map encOut))], 248⟩)
    (fun d j => j + d = last.length) ?_ last.length 0 ?_) ?_ ?_
   ·rintro d4 j j1 hrec4
    (repeat (first|with_reducible refine wV fun _=>?_|simp [go_sem]))
    refine aIf.mkL (fun hj => ?_) (fun hj => ?_) <;> simp at hj
    ·have hsj := hlok _ (nth_mem hj)
     have hol : ((last.take j).filterMap (putS p.side)).length ≤ 100000000 := Nat.le_trans (List.length_filterMap_le _ _) (by rw [List.length_take]; omega)
     have hse : (last.take (j + 1)).filterMap (putS p.side) = lookP p.side (0, 0) (nth last j) ((last.take j).filterMap (putS p.side)) := by
      rw [List.take_add_one, List.getElem?_eq_getElem hj, nth_eq _ _ hj, List.filterMap_append]
      simp only [Option.toList_some, List.filterMap_cons, List.filterMap_nil, lookP, if_true]
      cases putS p.side last[j] <;> rfl
     obtain ⟨out, hout⟩ : ∃ out, out = (last.take j).filterMap (putS p.side) := ⟨_, rfl⟩
     rw [← hout] at hol hse ⊢
     obtain ⟨t, ht⟩ : ∃ t, t = nth last j := ⟨_, rfl⟩
     rw [← ht] at hsj hse
     (repeat (first|with_reducible refine wV fun _=>?_|simp [go_sem, hj, ← ht]))
     refine look_call g hg p hp t hsj.1 hsj.2 (0, 0) out hol (a := 0) (b := 1) (c := 247) (by decide) (by simp) (by simp [upd, encPos, encIs]) (by simp [upd]) (by simp [upd]) ?_
     rw [← hse]
     simp only [lookUp]
     (repeat (first|with_reducible refine wV fun _=>?_|simp [go_sem]))
     refine ALoop.start (hrec4 (d4 - 1) (by omega) (j + 1) (by omega)) ?_ (by simp)
     simp [go_sem, Wk_eq]
    ·have hnl : j = last.length := by omega
     subst hnl
     rw [List.take_length]
     (repeat (first|with_reducible refine wV fun _=>?_|simp [go_sem]))
     simp [go_sem, Wk_eq]
   ·omega
   ·simp [go_sem, Wk_eq]
   ·simp
 ·omega
 ·simp [go_sem, Wk_eq]
  rw [show AV.lst 8 (List.map encState (stageS g p cell prog 0)) = _ from hst0]
  (first|done|exact dpX)
 ·simp
end Go.Av
end
section
/- Contracts, runs of the program: order, and the equality of outcomes and of positions. -/
open Go Go.Proofs
namespace Go.Av
theorem cmpO_orR (a b : OutD) : orI [cmpP a.pos b.pos, number (if a.took then 1 else 0) (if b.took then 1 else 0)] = cmpO a b := by
 unfold cmpO lexI
 simp only [orI]
 repeat' split
 all_goals first | rfl | omega
theorem rOrder_pure (a b : OutD) (ha : FitsP a.pos) (hb : FitsP b.pos) : Pure Tryz.prog 145 [.agg (encOut a), .agg (encOut b)] (.v (.int .i64 (cmpO a b))) := by
 refine pF Tryz.func145 ?_
 rw [← cmpO_orR]
 have c1 := pCompare_pure _ _ ha hb
 obtain ⟨pa, ta⟩ := a
 obtain ⟨pb, tb⟩ := b
 have c4 := cCompare_pure (if ta then 1 else 0) (if tb then 1 else 0)
 simp only at c1 c4 ⊢
 generalize hx1 : cmpP pa pb = x1 at *
 generalize hx2 : number (if ta then 1 else 0) (if tb then 1 else 0) = x2 at *
 cases ta <;> cases tb <;> simp only [if_true, Bool.false_eq_true, if_false] at c4 <;>
 ·(repeat (first|with_reducible refine wV fun _=>?_|simp [go_sem]))
  refine dCall.plain c1 (by simp [go_sem]) ?_
  (repeat (first|with_reducible refine wV fun _=>?_|simp [go_sem]))
  refine dCall.plain c4 (by simp [go_sem]) ?_
  (repeat (first|with_reducible refine wV fun _=>?_|simp [go_sem]))
  refine dCall.frz [encIs [x1, x2]] _ [17] [(17, some (.rows false 0 1 ([x1, x2].map encI)))] (cOr_pure _ (by unfold Fits; simp)) ?_ ?_ (by simp [go_sem]) ?_
  ·intro p hp
   simp only [List.mem_singleton] at hp
   subst hp
   exact ⟨by simp, 0, 1, _, rfl, by simp [upd, go_sem]⟩
  ·intro h₁ hS
   have h7 := hS 17 (by simp)
   simp [go_sem] at h7
   exact .cons (leV_frz h7.symm (by simp) (by simp [applyW, upd]) (by simp [go_sem])) .nil
  ·(repeat (first|with_reducible refine wV fun _=>?_|simp [go_sem]))
theorem runs2_pure (a b : OutD) (ha : FitsP a.pos) (hb : FitsP b.pos) : Pure Tryz.prog 146 [.agg (encOut a), .agg (encOut b)] (.v (.bool (decide (a = b)))) := by
 refine pF Tryz.func146 ?_
 have c1 := rOrder_pure a b ha hb
 have e : decide (a = b) = decide (cmpO a b = 0) := by rw [decide_eq_decide]; exact (cmp_out.eq a b).symm
 rw [e]
 generalize cmpO a b = x at *
 (repeat (first|with_reducible refine wV fun _=>?_|simp [go_sem]))
 refine ACallP.plain c1 (by simp [go_sem]) ?_
 (repeat (first|with_reducible refine wV fun _=>?_|simp [go_sem]))
theorem psort1_pure (a b : PosD) (ha : FitsP a) (hb : FitsP b) : Pure Tryz.prog 153 [.agg (encPos a), .agg (encPos b)] (.v (.bool (decide (a = b)))) := by
 refine pF Tryz.func153 ?_
 have c1 := pCompare_pure a b ha hb
 have e : decide (a = b) = decide (cmpP a b = 0) := by rw [decide_eq_decide]; exact (cmp_pos.eq a b).symm
 rw [e]
 generalize cmpP a b = x at *
 (repeat (first|with_reducible refine wV fun _=>?_|simp [go_sem]))
 refine ACallP.plain c1 (by simp [go_sem]) ?_
 (repeat (first|with_reducible refine wV fun _=>?_|simp [go_sem]))
end Go.Av
end
section
/- Contracts: slices.CompactFunc and slices.SortFunc of outcomes, as run asks for them (printed by genGH.py). -/
open Go Go.Proofs
namespace Go.Av
theorem CompactR_owns (l : List OutD) (gn : Nat) (hl : l.length ≤ 17179869184) (hf : ∀ o ∈ l, FitsP o.pos) :
  OwnsA Tryz.prog 125 [.sl 0 gn 6 0 l.length, .fn (.func 146) [] []] [(0, .rows true gn 6 (l.map encOut))] 1
   (.sl 0 gn 6 0 (dedup l).length) [(0, .rows true gn 6 ((dedup l).map encOut ++ List.replicate (l.length - (dedup l).length) zeroO))] 1 := by
 unfold OwnsA
 by_cases h2 : l.length < 2
 ·rw [dedup_short h2]
  refine ACallP.of_awp (by kernel_rfl) Tryz.func125 rfl rfl (Nat.le_of_ble_eq_true rfl) (by kernel_rfl) ?_
  (repeat (first|with_reducible refine wV fun _=>?_|simp [go_sem]))
  (refine aIf.mkL (fun hT => ?_) (fun hT => by first | omega | (simp at hT; omega)); clear hT)
  (repeat (first|with_reducible refine wV fun _=>?_|simp [go_sem]))
  simp [go_sem, Wk_eq]
 obtain ⟨D, hD⟩ : ∃ D, D = dedup l := ⟨_, rfl⟩
 rw [← hD]
 have hE : ∀ i j, i < l.length → j < l.length → Pure Tryz.prog 146 [.agg (encOut (nth l i)), .agg (encOut (nth l j))] (.v (.bool (decide (nth l i = nth l j)))) :=
  fun i j hi hj => runs2_pure _ _ (hf _ (nth_mem hi)) (hf _ (nth_mem hj))
 refine ACallP.of_awp (by kernel_rfl) Tryz.func125 rfl rfl (Nat.le_of_ble_eq_true rfl) (by kernel_rfl) ?_
 (repeat (first|with_reducible refine wV fun _=>?_|simp [go_sem]))
 (refine aIf.mkL (fun hF => by first | omega | (simp at hF; omega)) (fun hF => ?_); clear hF)
 (repeat (first|with_reducible refine wV fun _=>?_|simp [go_sem]))
 refine ALoop.start (ALoop.ind (α := Nat) (fun j => ⟨[(0, .sl 0 gn 6 0 l.length), (1, .fn (.func 146) [] []), (5, .v (.int .i64 j))], [(0, .rows true gn 6 (l.map encOut))], 1⟩)
  (fun d j => 1 ≤ j ∧ j + d = l.length ∧ D = l.take j ++ dedupGo (nth l (j - 1)) (l.drop j)) ?_ (l.length - 1) 1 ?_) ?_ ?_
 ·rintro d j ⟨i1, i2, i3⟩ hrec
  have e1 : ((j : Int) - 1).toNat = j - 1 := by omega
  (repeat (first|with_reducible refine wV fun _=>?_|simp [go_sem]))
  refine aIf.mkL (fun hj => ?_) (fun hj => ?_) <;> simp at hj
  ·have hj' : j - 1 < l.length := by omega
   rw [dropG_cons hj, dedupGo] at i3
   (repeat (first|with_reducible refine wV fun _=>?_|simp [go_sem, hj, hj', e1]))
   refine dCall.plain (hE j (j - 1) hj hj') (by simp [go_sem]) ?_
   (repeat (first|with_reducible refine wV fun _=>?_|simp [go_sem, hj, hj', e1]))
   by_cases he : nth l j = nth l (j - 1)
   ·rw [if_pos he] at i3
    (repeat (first|with_reducible refine wV fun _=>?_|simp [go_sem, he, hj, hj', e1]))
    refine ALoop.start (ALoop.ind (α := Nat × List OutD × Nat) (fun a => ⟨[(0, .sl 0 gn 6 0 l.length), (1, .fn (.func 146) [] []), (5, .v (.int .i64 a.2.2)), (6, .sl 0 gn 6 j (l.length - j)), (7, .v (.int .i64 a.1))], [(0, .rows true gn 6 (a.2.1.map encOut))], 1⟩)
     (fun d a => 1 ≤ a.1 ∧ j + a.1 + d = l.length ∧ a.2.1.length = l.length ∧ a.2.2 ≤ j + a.1 - 1 ∧ a.2.1.drop (j + a.1 - 1) = l.drop (j + a.1 - 1) ∧ D = a.2.1.take a.2.2 ++ dedupGo (nth l (j + a.1 - 1)) (l.drop (j + a.1))) ?_ (l.length - j - 1) (1, l, j) ?_) ?_ ?_
    ·rintro d2 ⟨k2, R, k⟩ ⟨j1, j2, j3, j4, j5, j6⟩ hrec2
     simp only at j1 j2 j3 j4 j5 j6
     have e2 : ((k2 : Int) - 1).toNat = k2 - 1 := by omega
     have e3 : j + (k2 - 1) = j + k2 - 1 := by omega
     have hRn : ∀ m, j + k2 - 1 ≤ m → m < l.length → nth R m = nth l m := fun m h1 h2 => by
      have h3 : (R.drop (j + k2 - 1))[m - (j + k2 - 1)]? = (l.drop (j + k2 - 1))[m - (j + k2 - 1)]? := by rw [j5]
      rw [List.getElem?_drop, List.getElem?_drop, show j + k2 - 1 + (m - (j + k2 - 1)) = m by omega, List.getElem?_eq_getElem (by omega), List.getElem?_eq_getElem h2] at h3
      rw [nth_eq _ _ (by omega), nth_eq _ _ h2]
      exact Option.some.inj h3
     (repeat (first|with_reducible refine wV fun _=>?_|simp [go_sem, j3]))
     refine aIf.mkL (fun hk => ?_) (fun hk => ?_) <;> simp at hk
     ·have hk1 : j + k2 < l.length := by omega
      have hk0 : j + k2 - 1 < l.length := by omega
      have hr1 := hRn (j + k2) (by omega) hk1
      have hr0 := hRn (j + k2 - 1) (by omega) hk0
      rw [dropG_cons hk1, dedupGo] at j6
      have hk2 : k2 - 1 < l.length - j := by omega
      have hk3 : k < l.length := by omega
      (repeat (first|with_reducible refine wV fun _=>?_|simp [go_sem, j3, hk, hk1, hk0, hr1, hr0, e2, e3, hk2]))
      refine dCall.plain (hE (j + k2) (j + k2 - 1) hk1 hk0) (by simp [go_sem]) ?_
      (repeat (first|with_reducible refine wV fun _=>?_|simp [go_sem, j3, hk, hk1, hk0, hr1, hr0, e2, e3, hk2]))
      by_cases hc : nth l (j + k2) = nth l (j + k2 - 1)
      ·rw [if_pos hc] at j6
       (repeat (first|with_reducible refine wV fun _=>?_|simp [go_sem, hc]))
       refine ALoop.start (hrec2 (d2 - 1) (by omega) (k2 + 1, R, k) ⟨by simp only; omega, by simp only; omega, j3, by simp only; omega, ?_, ?_⟩) ?_ (by simp)
       ·have := congrArg (List.drop 1) j5
        rw [List.drop_drop, List.drop_drop] at this
        rw [show j + (k2 + 1) - 1 = j + k2 - 1 + 1 by omega]
        exact this
       ·simp only
        rw [show j + (k2 + 1) - 1 = j + k2 by omega, hc]
        exact j6
       ·simp [go_sem, Wk_eq]
      ·rw [if_neg hc] at j6
       (repeat (first|with_reducible refine wV fun _=>?_|simp [go_sem, hc, j3, hk, hk1, hk0, hr1, hr0, e2, e3, hk2, hk3]))
       refine ALoop.start (hrec2 (d2 - 1) (by omega) (k2 + 1, R.set k (nth l (j + k2)), k + 1) ⟨by simp only; omega, by simp only; omega, by simpa using j3, by simp only; omega, ?_, ?_⟩) ?_ (by simp)
       ·have := congrArg (List.drop 1) j5
        rw [List.drop_drop, List.drop_drop] at this
        simp only
        rw [show j + (k2 + 1) - 1 = j + k2 - 1 + 1 by omega, List.drop_set, if_pos (by omega)]
        exact this
       ·simp only
        rw [show j + (k2 + 1) - 1 = j + k2 by omega, List.take_add_one, List.take_set_of_le (by omega), List.getElem?_set_self (by omega), Option.toList_some, List.append_assoc]
        exact j6
       ·have hb : ∀ n, ∀ r ∈ ((R.set k (nth l (j + k2))).map encOut), ∀ c ∈ r, Bel n c := fun n => of_eq_true bel_Ou
        rw [List.map_set] at hb
        simp [go_sem, Wk_eq, List.map_set]
        exact hb 1
     ·rw [List.drop_eq_nil_of_le (by omega), dedupGo, List.append_nil] at j6
      have hDl : D.length = k := by rw [j6, List.length_take]; omega
      have hd0 : List.drop (k + (l.length - k)) (R.map encOut) = [] := List.drop_eq_nil_of_le (by simp; omega)
      have hDm : D.map encOut = List.take k (R.map encOut) := by rw [j6, List.map_take]
      (repeat (first|with_reducible refine wV fun _=>?_|simp [go_sem]))
      simp [go_sem, Wk_eq, hd0, hDl, hDm, zeroO]
      exact fun x hx => of_eq_true (bel_Ou (n := 1) (l := R)) x (List.mem_of_mem_take hx)
    ·refine ⟨Nat.le_refl _, by simp only; omega, rfl, by simp only; omega, rfl, ?_⟩
     simp only
     rw [Nat.add_sub_cancel, he]
     exact i3
    ·simp [go_sem, Wk_eq]
    ·simp
   ·rw [if_neg he] at i3
    (repeat (first|with_reducible refine wV fun _=>?_|simp [go_sem, he, hj, hj', e1]))
    refine ALoop.start (hrec (d - 1) (by omega) (j + 1) ⟨by omega, by omega, ?_⟩) ?_ (by simp)
    ·rw [i3, Nat.add_sub_cancel, List.take_add_one, List.getElem?_eq_getElem hj, nth_eq _ _ hj, Option.toList_some, List.append_assoc]; rfl
    ·simp [go_sem, Wk_eq]
  ·rw [List.drop_eq_nil_of_le hj, List.take_of_length_le hj, dedupGo, List.append_nil] at i3
   rw [i3]
   (repeat (first|with_reducible refine wV fun _=>?_|simp [go_sem]))
   simp [go_sem, Wk_eq]
 ·refine ⟨Nat.le_refl _, by omega, ?_⟩
  cases l with
  | nil => simp at h2
  | cons a l => rw [hD]; rfl
 ·simp [go_sem, Wk_eq]
 ·simp
theorem compactR_call (l : List OutD) (gn : Nat) (hl : l.length ≤ 17179869184) (hf : ∀ o ∈ l, FitsP o.pos) {h : Heap} {n o : Nat} (ho : h o = some (.rows true gn 6 (l.map encOut))) (hon : o < n) {K : CallK}
  (hK : K (.sl o gn 6 0 (dedup l).length) (upd h o (some (.rows true gn 6 ((dedup l).map encOut ++ List.replicate (l.length - (dedup l).length) zeroO)))) n) :
  ACallP Tryz.prog 125 [.sl o gn 6 0 l.length, .fn (.func 146) [] []] h n K := by
 have hz : ∀ m, ∀ r ∈ (dedup l).map encOut ++ List.replicate (l.length - (dedup l).length) zeroO, ∀ c ∈ r, Bel m c := by
  intro m r hr c hc
  rcases List.mem_append.1 hr with hr | hr
  ·exact bel_map_out _ r hr c hc
  ·rw [List.eq_of_mem_replicate hr] at hc
   simp only [zeroO, List.mem_cons, List.not_mem_nil, or_false] at hc
   rcases hc with rfl | rfl | rfl | rfl | rfl | rfl <;> exact .v _
 refine ACallP.ownsA (args' := [.sl o gn 6 0 l.length, .fn (.func 146) [] []]) (HH := [(o, .rows true gn 6 ((dedup l).map encOut ++ List.replicate (l.length - (dedup l).length) zeroO))])
  [o] h (CompactR_owns l gn hl hf) (by simp) (by simpa using hon) rfl (Nat.le_refl _) (.refl _) ?_ ?_ (.refl _ _ _ _) ?_ ?_ ?_ (.sl rfl) ?_ ?_
 ·intro j hj
  obtain rfl : j = 0 := by omega
  exact ⟨_, _, rfl, ho, .rows (.same (bel_map_out _))⟩
 ·intro p hp
  simp only [List.mem_singleton] at hp
  subst hp
  exact ⟨Nat.le_of_ble_eq_true rfl, bel_map_out _⟩
 ·intro y hy
  simp only [List.mem_cons, List.not_mem_nil, or_false] at hy
  rcases hy with rfl | rfl
  ·exact .sl hon
  ·simp [go_sem]
 ·exact .cons (.sl rfl) (.cons (.same (by simp [go_sem])) .nil)
 ·intro y hy
  simp only [List.mem_cons, List.not_mem_nil, or_false] at hy
  rcases hy with rfl | rfl
  ·exact .sl (by decide)
  ·simp [go_sem]
 ·exact .cons rfl (.rows (.same (hz 0))) .nil
 ·have e : over [(o, .rows true gn 6 ((dedup l).map encOut ++ List.replicate (l.length - (dedup l).length) zeroO))] (remH [o] h) = upd h o (some (.rows true gn 6 ((dedup l).map encOut ++ List.replicate (l.length - (dedup l).length) zeroO))) := by
   funext j
   simp only [over, remH, upd]
   by_cases j1 : j = o
   ·simp [j1]
   ·simp [j1]
  rw [e, Nat.sub_self, Nat.add_zero]
  exact hK
theorem compactR_call2 (l : List OutD) (gn m : Nat) (hm : l.length = m) (hl : m ≤ 17179869184) (hf : ∀ o ∈ l, FitsP o.pos) {h : Heap} {n o : Nat} (ho : h o = some (.rows true gn 6 (l.map encOut))) (hon : o < n) {K : CallK}
  (hK : K (.sl o gn 6 0 (dedup l).length) (upd h o (some (.rows true gn 6 ((dedup l).map encOut ++ List.replicate (l.length - (dedup l).length) zeroO)))) n) :
  ACallP Tryz.prog 125 [.sl o gn 6 0 m, .fn (.func 146) [] []] h n K := by
 subst hm
 exact compactR_call l gn hl hf ho hon hK
theorem swo_outR : Go.Sort.SWO (fun a b : OutD => decide (cmpO a b < 0)) := by
 refine ⟨fun x => ?_, fun x y z h1 h2 => ?_, fun x y z h1 h2 => ?_⟩
 ·have := cmp_out.swap x x
  simp; omega
 ·simp only [decide_eq_true_eq] at h1 h2 ⊢
  have t := cmp_out.tr x y z (by omega) (by omega)
  rcases Int.lt_or_eq_of_le t with h | h
  ·exact h
  ·have e := (cmp_out.eq _ _).1 h
   subst e
   have := cmp_out.swap x y
   omega
 ·simp only [decide_eq_false_iff_not] at h1 h2 ⊢
  have s1 := cmp_out.swap x y
  have s2 := cmp_out.swap y z
  have s3 := cmp_out.swap x z
  have t := cmp_out.tr z y x (by omega) (by omega)
  omega
theorem sortR_call (l : List OutD) (hf : ∀ o ∈ l, FitsP o.pos) (hl : l.length < 4611686018427387904) {h : Heap} {n o gn : Nat} (ho : h o = some (.rows true gn 6 (l.map encOut))) {K : CallK}
  (hK : K (.tup []) (upd h o (some (.rows true gn 6 ((sortC cmpO l).map encOut)))) n) :
  ACallP Tryz.prog 123 [.sl o gn 6 0 l.length, .fn (.func 145) [] []] h n K := by
 refine ACallP.sortFunc zsort (k := 6) (by omega) Tryz.isAgg120 Tryz.sizeOf120 encOut (fun _ => rfl) ?_ (fun o => FitsP o.pos) cmpO swo_outR _ (fun x y hx hy => rOrder_pure x y hx hy) ?_ l hf hl ho ?_
 ·intro x
  simp [go_sem]
 ·exact (rOrder_pure default default (by unfold FitsP Fits; decide) (by unfold FitsP Fits; decide)).1
 ·intro l' hp hs
  have : sortC cmpO l = l' := sortC_unique cmp_out hp (hs.imp fun {a b} hab => by
   have := cmp_out.swap a b
   simp only [leC, decide_eq_true_eq]
   omega)
  rw [← this]
  exact hK
end Go.Av
end
section
/- The body of slices.SortFunc here is the one that the kit knows: laid in plain words (printed by laysort.py). -/
namespace Go.Proofs
open Go.Shelf
def zsortP_ren : Go.Shelf.Ren := ⟨fun | 6 => 151 | 15 => 188 | 14 => 205 | 28 => 228 | 29 => 229 | 20 => 255 | 21 => 256 | 22 => 257 | 23 => 258 | 24 => 259 | 25 => 260 | 26 => 261 | 27 => 262 | 46 => 295 | 47 => 272 | 48 => 273 | 49 => 296 | 50 => 297 | 57 => 306 | n => n, fun | 22 => 56 | 24 => 45 | 25 => 138 | 3 => 3 | 39 => 244 | 0 => 0 | 53 => 287 | 55 => 289 | 4 => 4 | 46 => 281 | 45 => 280 | 50 => 126 | 5 => 5 | 9 => 9 | 66 => 323 | 70 => 327 | 76 => 348 | 77 => 181 | n => n, fun n => n⟩
theorem zsortP : Go.Proofs.SlLaysF0.n6 Tryz.prog zsortP_ren := {
 mixed := by kernel_rfl
 f6 := ⟨Tryz.f151.name, by decide, Tryz.func151.trans (congrArg some (by kernel_rfl))⟩
 f14 := ⟨Tryz.f205.name, by decide, Tryz.func205.trans (congrArg some (by kernel_rfl))⟩
 f15 := Tryz.func188.trans (congrArg some (by kernel_rfl))
 f20 := ⟨Tryz.f255.name, by decide, Tryz.func255.trans (congrArg some (by kernel_rfl))⟩
 f21 := ⟨Tryz.f256.name, by decide, Tryz.func256.trans (congrArg some (by kernel_rfl))⟩
 f22 := ⟨Tryz.f257.name, by decide, Tryz.func257.trans (congrArg some (by kernel_rfl))⟩
 f23 := ⟨Tryz.f258.name, by decide, Tryz.func258.trans (congrArg some (by kernel_rfl))⟩
 f24 := ⟨Tryz.f259.name, by decide, Tryz.func259.trans (congrArg some (by kernel_rfl))⟩
 f25 := ⟨Tryz.f260.name, by decide, Tryz.func260.trans (congrArg some (by kernel_rfl))⟩
 f26 := ⟨Tryz.f261.name, by decide, Tryz.func261.trans (congrArg some (by kernel_rfl))⟩
 f27 := ⟨Tryz.f262.name, by decide, Tryz.func262.trans (congrArg some (by kernel_rfl))⟩
 f28 := Tryz.func228.trans (congrArg some (by kernel_rfl))
 f29 := Tryz.func229.trans (congrArg some (by kernel_rfl))
 f46 := ⟨Tryz.f295.name, by decide, Tryz.func295.trans (congrArg some (by kernel_rfl))⟩
 f47 := Tryz.func272.trans (congrArg some (by kernel_rfl))
 f48 := Tryz.func273.trans (congrArg some (by kernel_rfl))
 f49 := ⟨Tryz.f296.name, by decide, Tryz.func296.trans (congrArg some (by kernel_rfl))⟩
 f50 := ⟨Tryz.f297.name, by decide, Tryz.func297.trans (congrArg some (by kernel_rfl))⟩
 f57 := ⟨Tryz.f306.name, by decide, Tryz.func306.trans (congrArg some (by kernel_rfl))⟩
 t0 := Tryz.underlying0
 a0 := Tryz.isAgg0
 z0 := Tryz.sizeOf0
 v0 := Tryz.zeroValue0
 t3 := Tryz.underlying3
 a3 := Tryz.isAgg3
 z3 := Tryz.sizeOf3
 v3 := Tryz.zeroValue3
 t4 := Tryz.underlying4
 a4 := Tryz.isAgg4
 z4 := Tryz.sizeOf4
 v4 := Tryz.zeroValue4
 t5 := Tryz.underlying5
 a5 := Tryz.isAgg5
 z5 := Tryz.sizeOf5
 v5 := Tryz.zeroValue5
 t9 := Tryz.underlying9
 a9 := Tryz.isAgg9
 z9 := Tryz.sizeOf9
 v9 := Tryz.zeroValue9
 t22 := Tryz.underlying56
 a22 := Tryz.isAgg56
 z22 := Tryz.sizeOf56
 v22 := Tryz.zeroValue56
 t25 := Tryz.underlying138
 a25 := Tryz.isAgg138
 z25 := Tryz.sizeOf138
 v25 := Tryz.zeroValue138
 t39 := Tryz.underlying244
 a39 := Tryz.isAgg244
 z39 := Tryz.sizeOf244
 v39 := Tryz.zeroValue244
 t45 := Tryz.underlying280
 a45 := Tryz.isAgg280
 z45 := Tryz.sizeOf280
 v45 := Tryz.zeroValue280
 t46 := Tryz.underlying281
 a46 := Tryz.isAgg281
 z46 := Tryz.sizeOf281
 v46 := Tryz.zeroValue281
 t50 := Tryz.underlying126
 a50 := Tryz.isAgg126
 z50 := Tryz.sizeOf126
 v50 := Tryz.zeroValue126
 t53 := Tryz.underlying287
 a53 := Tryz.isAgg287
 z53 := Tryz.sizeOf287
 v53 := Tryz.zeroValue287
 t55 := Tryz.underlying289
 a55 := Tryz.isAgg289
 z55 := Tryz.sizeOf289
 v55 := Tryz.zeroValue289
 t66 := Tryz.underlying323
 a66 := Tryz.isAgg323
 z66 := Tryz.sizeOf323
 v66 := Tryz.zeroValue323
 t70 := Tryz.underlying327
 a70 := Tryz.isAgg327
 z70 := Tryz.sizeOf327
 v70 := Tryz.zeroValue327
 t76 := Tryz.underlying348
 a76 := Tryz.isAgg348
 z76 := Tryz.sizeOf348
 v76 := Tryz.zeroValue348
 t77 := Tryz.underlying181
 a77 := Tryz.isAgg181
 z77 := Tryz.sizeOf181
 v77 := Tryz.zeroValue181 }
end Go.Proofs
end
section
/- Contracts: slices.CompactFunc and slices.SortFunc of positions, as pos.Sort asks for them (printed by genGH.py). -/
open Go Go.Proofs
namespace Go.Av
def zeroQ : List AV := [.v (.slice none 0 0), .v (.slice none 0 0), .v (.slice none 0 0), .v (.int .i64 0), .v (.int .i64 0)]
theorem CompactP_owns (l : List PosD) (gn : Nat) (hl : l.length ≤ 17179869184) (hf : ∀ o ∈ l, FitsP o) :
  OwnsA Tryz.prog 152 [.sl 0 gn 5 0 l.length, .fn (.func 153) [] []] [(0, .rows true gn 5 (l.map encPos))] 1
   (.sl 0 gn 5 0 (dedup l).length) [(0, .rows true gn 5 ((dedup l).map encPos ++ List.replicate (l.length - (dedup l).length) zeroQ))] 1 := by
 unfold OwnsA
 by_cases h2 : l.length < 2
 ·rw [dedup_short h2]
  refine ACallP.of_awp (by kernel_rfl) Tryz.func152 rfl rfl (Nat.le_of_ble_eq_true rfl) (by kernel_rfl) ?_
  (repeat (first|with_reducible refine wV fun _=>?_|simp [go_sem]))
  (refine aIf.mkL (fun hT => ?_) (fun hT => by first | omega | (simp at hT; omega)); clear hT)
  (repeat (first|with_reducible refine wV fun _=>?_|simp [go_sem]))
  simp [go_sem, Wk_eq]
 obtain ⟨D, hD⟩ : ∃ D, D = dedup l := ⟨_, rfl⟩
 rw [← hD]
 have hE : ∀ i j, i < l.length → j < l.length → Pure Tryz.prog 153 [.agg (encPos (nth l i)), .agg (encPos (nth l j))] (.v (.bool (decide (nth l i = nth l j)))) :=
  fun i j hi hj => psort1_pure _ _ (hf _ (nth_mem hi)) (hf _ (nth_mem hj))
 refine ACallP.of_awp (by kernel_rfl) Tryz.func152 rfl rfl (Nat.le_of_ble_eq_true rfl) (by kernel_rfl) ?_
 (repeat (first|with_reducible refine wV fun _=>?_|simp [go_sem]))
 (refine aIf.mkL (fun hF => by first | omega | (simp at hF; omega)) (fun hF => ?_); clear hF)
 (repeat (first|with_reducible refine wV fun _=>?_|simp [go_sem]))
 refine ALoop.start (ALoop.ind (α := Nat) (fun j => ⟨[(0, .sl 0 gn 5 0 l.length), (1, .fn (.func 153) [] []), (5, .v (.int .i64 j))], [(0, .rows true gn 5 (l.map encPos))], 1⟩)
  (fun d j => 1 ≤ j ∧ j + d = l.length ∧ D = l.take j ++ dedupGo (nth l (j - 1)) (l.drop j)) ?_ (l.length - 1) 1 ?_) ?_ ?_
 ·rintro d j ⟨i1, i2, i3⟩ hrec
  have e1 : ((j : Int) - 1).toNat = j - 1 := by omega
  (repeat (first|with_reducible refine wV fun _=>?_|simp [go_sem]))
  refine aIf.mkL (fun hj => ?_) (fun hj => ?_) <;> simp at hj
  ·have hj' : j - 1 < l.length := by omega
   rw [dropG_cons hj, dedupGo] at i3
   (repeat (first|with_reducible refine wV fun _=>?_|simp [go_sem, hj, hj', e1]))
   refine dCall.plain (hE j (j - 1) hj hj') (by simp [go_sem]) ?_
   (repeat (first|with_reducible refine wV fun _=>?_|simp [go_sem, hj, hj', e1]))
   by_cases he : nth l j = nth l (j - 1)
   ·rw [if_pos he] at i3
    (repeat (first|with_reducible refine wV fun _=>?_|simp [go_sem, he, hj, hj', e1]))
    refine ALoop.start (ALoop.ind (α := Nat × List PosD × Nat) (fun a => ⟨[(0, .sl 0 gn 5 0 l.length), (1, .fn (.func 153) [] []), (5, .v (.int .i64 a.2.2)), (6, .sl 0 gn 5 j (l.length - j)), (7, .v (.int .i64 a.1))], [(0, .rows true gn 5 (a.2.1.map encPos))], 1⟩)
     (fun d a => 1 ≤ a.1 ∧ j + a.1 + d = l.length ∧ a.2.1.length = l.length ∧ a.2.2 ≤ j + a.1 - 1 ∧ a.2.1.drop (j + a.1 - 1) = l.drop (j + a.1 - 1) ∧ D = a.2.1.take a.2.2 ++ dedupGo (nth l (j + a.1 - 1)) (l.drop (j + a.1))) ?_ (l.length - j - 1) (1, l, j) ?_) ?_ ?_
    ·rintro d2 ⟨k2, R, k⟩ ⟨j1, j2, j3, j4, j5, j6⟩ hrec2
     simp only at j1 j2 j3 j4 j5 j6
     have e2 : ((k2 : Int) - 1).toNat = k2 - 1 := by omega
     have e3 : j + (k2 - 1) = j + k2 - 1 := by omega
     have hRn : ∀ m, j + k2 - 1 ≤ m → m < l.length → nth R m = nth l m := fun m h1 h2 => by
      have h3 : (R.drop (j + k2 - 1))[m - (j + k2 - 1)]? = (l.drop (j + k2 - 1))[m - (j + k2 - 1)]? := by rw [j5]
      rw [List.getElem?_drop, List.getElem?_drop, show j + k2 - 1 + (m - (j + k2 - 1)) = m by omega, List.getElem?_eq_getElem (by omega), List.getElem?_eq_getElem h2] at h3
      rw [nth_eq _ _ (by omega), nth_eq _ _ h2]
      exact Option.some.inj h3
     (repeat (first|with_reducible refine wV fun _=>?_|simp [go_sem, j3]))
     refine aIf.mkL (fun hk => ?_) (fun hk => ?_) <;> simp at hk
     ·have hk1 : j + k2 < l.length := by omega
      have hk0 : j + k2 - 1 < l.length := by omega
      have hr1 := hRn (j + k2) (by omega) hk1
      have hr0 := hRn (j + k2 - 1) (by omega) hk0
      rw [dropG_cons hk1, dedupGo] at j6
      have hk2 : k2 - 1 < l.length - j := by omega
      have hk3 : k < l.length := by omega
      (repeat (first|with_reducible refine wV fun _=>?_|simp [go_sem, j3, hk, hk1, hk0, hr1, hr0, e2, e3, hk2]))
      refine dCall.plain (hE (j + k2) (j + k2 - 1) hk1 hk0) (by simp [go_sem]) ?_
      (repeat (first|with_reducible refine wV fun _=>?_|simp [go_sem, j3, hk, hk1, hk0, hr1, hr0, e2, e3, hk2]))
      by_cases hc : nth l (j + k2) = nth l (j + k2 - 1)
      ·rw [if_pos hc] at j6
       (repeat (first|with_reducible refine wV fun _=>?_|simp [go_sem, hc]))
       refine ALoop.start (hrec2 (d2 - 1) (by omega) (k2 + 1, R, k) ⟨by simp only; omega, by simp only; omega, j3, by simp only; omega, ?_, ?_⟩) ?_ (by simp)
       ·have := congrArg (List.drop 1) j5
        rw [List.drop_drop, List.drop_drop] at this
        rw [show j + (k2 + 1) - 1 = j + k2 - 1 + 1 by omega]
        exact this
       ·simp only
        rw [show j + (k2 + 1) - 1 = j + k2 by omega, hc]
        exact j6
       ·simp [go_sem, Wk_eq]
      ·rw [if_neg hc] at j6
       (repeat (first|with_reducible refine wV fun _=>?_|simp [go_sem, hc, j3, hk, hk1, hk0, hr1, hr0, e2, e3, hk2, hk3]))
       refine ALoop.start (hrec2 (d2 - 1) (by omega) (k2 + 1, R.set k (nth l (j + k2)), k + 1) ⟨by simp only; omega, by simp only; omega, by simpa using j3, by simp only; omega, ?_, ?_⟩) ?_ (by simp)
       ·have := congrArg (List.drop 1) j5
        rw [List.drop_drop, List.drop_drop] at this
        simp only
        rw [show j + (k2 + 1) - 1 = j + k2 - 1 + 1 by omega, List.drop_set, if_pos (by omega)]
        exact this
       ·simp only
        rw [show j + (k2 + 1) - 1 = j + k2 by omega, List.take_add_one, List.take_set_of_le (by omega), List.getElem?_set_self (by omega), Option.toList_some, List.append_assoc]
        exact j6
       ·have hb : ∀ n, ∀ r ∈ ((R.set k (nth l (j + k2))).map encPos), ∀ c ∈ r, Bel n c := fun n => of_eq_true bel_P
        rw [List.map_set] at hb
        simp [go_sem, Wk_eq, List.map_set]
        exact hb 1
     ·rw [List.drop_eq_nil_of_le (by omega), dedupGo, List.append_nil] at j6
      have hDl : D.length = k := by rw [j6, List.length_take]; omega
      have hd0 : List.drop (k + (l.length - k)) (R.map encPos) = [] := List.drop_eq_nil_of_le (by simp; omega)
      have hDm : D.map encPos = List.take k (R.map encPos) := by rw [j6, List.map_take]
      (repeat (first|with_reducible refine wV fun _=>?_|simp [go_sem]))
      simp [go_sem, Wk_eq, hd0, hDl, hDm, zeroQ]
      exact fun x hx => of_eq_true (bel_P (n := 1) (l := R)) x (List.mem_of_mem_take hx)
    ·refine ⟨Nat.le_refl _, by simp only; omega, rfl, by simp only; omega, rfl, ?_⟩
     simp only
     rw [Nat.add_sub_cancel, he]
     exact i3
    ·simp [go_sem, Wk_eq]
    ·simp
   ·rw [if_neg he] at i3
    (repeat (first|with_reducible refine wV fun _=>?_|simp [go_sem, he, hj, hj', e1]))
    refine ALoop.start (hrec (d - 1) (by omega) (j + 1) ⟨by omega, by omega, ?_⟩) ?_ (by simp)
    ·rw [i3, Nat.add_sub_cancel, List.take_add_one, List.getElem?_eq_getElem hj, nth_eq _ _ hj, Option.toList_some, List.append_assoc]; rfl
    ·simp [go_sem, Wk_eq]
  ·rw [List.drop_eq_nil_of_le hj, List.take_of_length_le hj, dedupGo, List.append_nil] at i3
   rw [i3]
   (repeat (first|with_reducible refine wV fun _=>?_|simp [go_sem]))
   simp [go_sem, Wk_eq]
 ·refine ⟨Nat.le_refl _, by omega, ?_⟩
  cases l with
  | nil => simp at h2
  | cons a l => rw [hD]; rfl
 ·simp [go_sem, Wk_eq]
 ·simp
theorem bel_map_pos {n : Nat} (l : List PosD) : ∀ r ∈ l.map encPos, ∀ c ∈ r, Bel n c := of_eq_true bel_P
theorem compactP_call (l : List PosD) (gn : Nat) (hl : l.length ≤ 17179869184) (hf : ∀ o ∈ l, FitsP o) {h : Heap} {n o : Nat} (ho : h o = some (.rows true gn 5 (l.map encPos))) (hon : o < n) {K : CallK}
  (hK : K (.sl o gn 5 0 (dedup l).length) (upd h o (some (.rows true gn 5 ((dedup l).map encPos ++ List.replicate (l.length - (dedup l).length) zeroQ)))) n) :
  ACallP Tryz.prog 152 [.sl o gn 5 0 l.length, .fn (.func 153) [] []] h n K := by
 have hz : ∀ m, ∀ r ∈ (dedup l).map encPos ++ List.replicate (l.length - (dedup l).length) zeroQ, ∀ c ∈ r, Bel m c := by
  intro m r hr c hc
  rcases List.mem_append.1 hr with hr | hr
  ·exact bel_map_pos _ r hr c hc
  ·rw [List.eq_of_mem_replicate hr] at hc
   simp only [zeroQ, List.mem_cons, List.not_mem_nil, or_false] at hc
   rcases hc with rfl | rfl | rfl | rfl | rfl <;> exact .v _
 refine ACallP.ownsA (args' := [.sl o gn 5 0 l.length, .fn (.func 153) [] []]) (HH := [(o, .rows true gn 5 ((dedup l).map encPos ++ List.replicate (l.length - (dedup l).length) zeroQ))])
  [o] h (CompactP_owns l gn hl hf) (by simp) (by simpa using hon) rfl (Nat.le_refl _) (.refl _) ?_ ?_ (.refl _ _ _ _) ?_ ?_ ?_ (.sl rfl) ?_ ?_
 ·intro j hj
  obtain rfl : j = 0 := by omega
  exact ⟨_, _, rfl, ho, .rows (.same (bel_map_pos _))⟩
 ·intro p hp
  simp only [List.mem_singleton] at hp
  subst hp
  exact ⟨Nat.le_of_ble_eq_true rfl, bel_map_pos _⟩
 ·intro y hy
  simp only [List.mem_cons, List.not_mem_nil, or_false] at hy
  rcases hy with rfl | rfl
  ·exact .sl hon
  ·simp [go_sem]
 ·exact .cons (.sl rfl) (.cons (.same (by simp [go_sem])) .nil)
 ·intro y hy
  simp only [List.mem_cons, List.not_mem_nil, or_false] at hy
  rcases hy with rfl | rfl
  ·exact .sl (by decide)
  ·simp [go_sem]
 ·exact .cons rfl (.rows (.same (hz 0))) .nil
 ·have e : over [(o, .rows true gn 5 ((dedup l).map encPos ++ List.replicate (l.length - (dedup l).length) zeroQ))] (remH [o] h) = upd h o (some (.rows true gn 5 ((dedup l).map encPos ++ List.replicate (l.length - (dedup l).length) zeroQ))) := by
   funext j
   simp only [over, remH, upd]
   by_cases j1 : j = o
   ·simp [j1]
   ·simp [j1]
  rw [e, Nat.sub_self, Nat.add_zero]
  exact hK
theorem compactP_call2 (l : List PosD) (gn m : Nat) (hm : l.length = m) (hl : m ≤ 17179869184) (hf : ∀ o ∈ l, FitsP o) {h : Heap} {n o : Nat} (ho : h o = some (.rows true gn 5 (l.map encPos))) (hon : o < n) {K : CallK}
  (hK : K (.sl o gn 5 0 (dedup l).length) (upd h o (some (.rows true gn 5 ((dedup l).map encPos ++ List.replicate (l.length - (dedup l).length) zeroQ)))) n) :
  ACallP Tryz.prog 152 [.sl o gn 5 0 m, .fn (.func 153) [] []] h n K := by
 subst hm
 exact compactP_call l gn hl hf ho hon hK
theorem swo_pos : Go.Sort.SWO (fun a b : PosD => decide (cmpP a b < 0)) := by
 refine ⟨fun x => ?_, fun x y z h1 h2 => ?_, fun x y z h1 h2 => ?_⟩
 ·have := cmp_pos.swap x x
  simp; omega
 ·simp only [decide_eq_true_eq] at h1 h2 ⊢
  have t := cmp_pos.tr x y z (by omega) (by omega)
  rcases Int.lt_or_eq_of_le t with h | h
  ·exact h
  ·have e := (cmp_pos.eq _ _).1 h
   subst e
   have := cmp_pos.swap x y
   omega
 ·simp only [decide_eq_false_iff_not] at h1 h2 ⊢
  have s1 := cmp_pos.swap x y
  have s2 := cmp_pos.swap y z
  have s3 := cmp_pos.swap x z
  have t := cmp_pos.tr z y x (by omega) (by omega)
  omega
theorem sortP_call (l : List PosD) (hf : ∀ o ∈ l, FitsP o) (hl : l.length < 4611686018427387904) {h : Heap} {n o gn : Nat} (ho : h o = some (.rows true gn 5 (l.map encPos))) {K : CallK}
  (hK : K (.tup []) (upd h o (some (.rows true gn 5 ((sortC cmpP l).map encPos)))) n) :
  ACallP Tryz.prog 151 [.sl o gn 5 0 l.length, .fn (.func 83) [] []] h n K := by
 refine ACallP.sortFunc zsortP (k := 5) (by omega) Tryz.isAgg45 Tryz.sizeOf45 encPos (fun _ => rfl) ?_ (fun o => FitsP o) cmpP swo_pos _ (fun x y hx hy => pCompare_pure x y hx hy) ?_ l hf hl ho ?_
 ·intro x
  simp [go_sem]
 ·exact (pCompare_pure default default (by unfold FitsP Fits; decide) (by unfold FitsP Fits; decide)).1
 ·intro l' hp hs
  have : sortC cmpP l = l' := sortC_unique cmp_pos hp (hs.imp fun {a b} hab => by
   have := cmp_pos.swap a b
   simp only [leC, decide_eq_true_eq]
   omega)
  rw [← this]
  exact hK
end Go.Av
end
section
/- Contracts: slices.Clone of positions, pos.Sort, run.Runs. -/
open Go Go.Proofs
namespace Go.Av
theorem CloneP_owns (l : List PosD) (hl : l.length ≤ 17179869184) : Owns Tryz.prog 150 [encPs l] (fun n => .sl n 1 5 0 l.length) (fun n => [(n, .rows true 1 5 (l.map encPos))]) 1 := by
 refine ⟨?_, fun n => ⟨by simp [go_sem], by simp [go_sem]⟩⟩
 refine ACallP.emp (fun hne => ?_) (fun he A c => ?_)
 ·obtain ⟨x, l, rfl⟩ := List.exists_cons_of_ne_nil (show l ≠ [] by intro h; subst h; exact hne rfl)
  simp only [List.length_cons] at hl
  refine ACallP.of_awp (by kernel_rfl) Tryz.func150 rfl rfl (Nat.le_of_ble_eq_true rfl) (by kernel_rfl) ?_
  (repeat (first|with_reducible refine wV fun _=>?_|simp [go_sem]))
  simp [go_sem, Wk_eq]
 ·obtain rfl : l = [] := by simpa using he
  refine ACallP.of_awp (by kernel_rfl) Tryz.func150 rfl rfl (Nat.le_of_ble_eq_true rfl) (by kernel_rfl) ?_
  (repeat (first|with_reducible refine wV fun _=>?_|simp [go_sem]))
  refine aIf.mkL (fun h => ?_) (fun h => ?_)
  ·simp at h
   subst h
   simp [go_sem, Wk_eq]
  ·simp [go_sem, Wk_eq]
theorem pSort_pure (l : List PosD) (hl : l.length ≤ 17179869184) (hf : ∀ p ∈ l, FitsP p) : Pure Tryz.prog 74 [encPs l] (encPs (sortU cmpP l)) := by
 refine pF Tryz.func74 ?_
 have hC := CloneP_owns l hl
 (repeat (first|with_reducible refine wV fun _=>?_|simp [go_sem]))
 refine ACallP.ownsPlain hC (by simp [go_sem]) ?_
 (repeat (first|with_reducible refine wV fun _=>?_|simp [go_sem]))
 refine sortP_call l hf (by omega) (o := 0) (gn := 1) (by simp [upd]) ?_
 (repeat (first|with_reducible refine wV fun _=>?_|simp [go_sem]))
 refine compactP_call2 (sortC cmpP l) 1 l.length (sortC_len l) (by omega) (fun p hp => hf p (sortC_mem.1 hp)) (o := 0) (by simp [upd]) (by omega) ?_
 (repeat (first|with_reducible refine wV fun _=>?_|simp [go_sem]))
 exact leV_frz rfl (by simp) (by simp [noH, upd]) (by rw [List.drop_zero]; exact List.take_left' (by simp))
theorem rRun_call (g : GameD) (hg : GOk g) (p : PosD) (hp : POk g p) (cell i : Int) (hc : ChoiceOk g p cell i) {h : Heap} {n a b : Nat} (hd : [a, b].Nodup) (hlt : ∀ j ∈ [a, b], j < n)
  (ha : h a = some (.rows true 0 5 [encPos p])) (hb : h b = some (.rows true 0 1 [[AV.nils]])) {K : CallK}
  (hK : K (.v (.int .i64 0)) (upd (upd (upd h a (some (.rows true 0 5 [encPos p]))) b (some (.rows true 0 1 [[.sl (n + 245) (lastO g p cell i).length 6 0 (lastO g p cell i).length]]))) (n + 245) (some (.rows true (lastO g p cell i).length 6 ((lastO g p cell i).map encOut)))) (n + 246)) :
  ACallP Tryz.prog 142 [.agg (encGame g), .agg (encPos p), .v (.int .i64 cell), .v (.int .i64 i), .fn (.func 143) [] [.ref a 0 5 0 0, .ref b 0 1 0 0]] h n K := by
 have hbg : ∀ m, Bel m (.agg (encGame g)) := fun m => by simp [go_sem]
 have hbp : ∀ m, ∀ c ∈ encPos p, Bel m c := fun m => by simp [go_sem]
 have hbq : ∀ m, Bel m (.agg (encPos p)) := fun m => by simp [go_sem]
 have han := hlt a (by simp)
 have hbn := hlt b (by simp)
 have hrows : ∀ m, ∀ r ∈ [encPos p], ∀ c ∈ r, Bel m c := fun m r hr => by simp only [List.mem_singleton] at hr; subst hr; exact hbp m
 refine ACallP.ownsA (args' := [.agg (encGame g), .agg (encPos p), .v (.int .i64 cell), .v (.int .i64 i), .fn (.func 143) [] [.ref a 0 5 0 0, .ref b 0 1 0 0]])
  (HH := [(a, .rows true 0 5 [encPos p]), (b, .rows true 0 1 [[.sl (n + 245) (lastO g p cell i).length 6 0 (lastO g p cell i).length]]), (n + 245, .rows true (lastO g p cell i).length 6 ((lastO g p cell i).map encOut))])
  [a, b] h (run_owns g hg p hp cell i hc) hd hlt rfl (by omega) (.refl _) ?_ ?_ (.refl _ _ _ _) ?_ ?_ ?_ (.same (.v _)) ?_ ?_
 ·intro j hj
  rcases (show j = 0 ∨ j = 1 by omega) with rfl | rfl
  ·exact ⟨_, _, rfl, ha, .rows (.same (hrows _))⟩
  ·exact ⟨_, _, rfl, hb, .rows (.same (by simp [go_sem]))⟩
 ·intro q hq
  simp only [List.mem_cons, List.not_mem_nil, or_false] at hq
  rcases hq with rfl | rfl
  ·exact ⟨Nat.le_of_ble_eq_true rfl, hrows _⟩
  ·exact ⟨Nat.le_of_ble_eq_true rfl, by simp [go_sem, BelO]⟩
 ·simp [go_sem, han, hbn]
 ·exact .cons (.same (hbg _)) (.cons (.same (hbq _)) (.cons (.same (.v _)) (.cons (.same (.v _)) (.cons (.fn .nil (.cons (.ref rfl) (.cons (.ref rfl) .nil))) .nil))))
 ·simp [go_sem]
 ·exact .cons rfl (.rows (.same (hrows _))) (.cons rfl (.rows (.cons (.cons (.sl rfl) .nil) .nil)) (.cons rfl (.rows (.same (bel_map_out _))) .nil))
 ·have e : over [(a, .rows true 0 5 [encPos p]), (b, .rows true 0 1 [[.sl (n + 245) (lastO g p cell i).length 6 0 (lastO g p cell i).length]]), (n + 245, .rows true (lastO g p cell i).length 6 ((lastO g p cell i).map encOut))] (remH [a, b] h) =
    upd (upd (upd h a (some (.rows true 0 5 [encPos p]))) b (some (.rows true 0 1 [[.sl (n + 245) (lastO g p cell i).length 6 0 (lastO g p cell i).length]]))) (n + 245) (some (.rows true (lastO g p cell i).length 6 ((lastO g p cell i).map encOut))) := by
   simp only [List.nodup_cons, List.mem_cons, List.not_mem_nil, or_false, not_or, List.nodup_nil, and_true, not_false_eq_true] at hd
   have na : a ≠ n + 245 := by omega
   have nb : b ≠ n + 245 := by omega
   funext j
   simp only [over, remH, upd]
   by_cases j1 : j = a
   ·subst j1; simp [hd, na]
   ·by_cases j2 : j = b
    ·subst j2; simp [j1, nb]
    ·by_cases j3 : j = n + 245
     ·subst j3; simp [j1, j2]
     ·simp [j1, j2, j3]
  rw [e]
  exact hK
theorem rRuns_pure (g : GameD) (hg : GOk g) (p : PosD) (hp : POk g p) (cell i : Int) (hc : ChoiceOk g p cell i) :
  Pure Tryz.prog 66 [.agg (encGame g), .agg (encPos p), .v (.int .i64 cell), .v (.int .i64 i)] (.tup [encOs (runsP g p cell i), .v (.int .i64 0)]) := by
 refine pF Tryz.func66 ?_
 have hl := (lastS_ok hg hp hc)
 have hll : (lastO g p cell i).length ≤ 100000000 := Nat.le_trans (List.length_filterMap_le _ _) hl.2
 have hf : ∀ o ∈ lastO g p cell i, FitsP o.pos := by
  intro o ho
  obtain ⟨s, hs, h⟩ := List.mem_filterMap.1 ho
  exact (putS_ok hg (hl.1 s hs).1 hp.s h).1.fits hg
 have hr : runsP g p cell i = sortU cmpO (lastO g p cell i) := rfl
 rw [hr]
 (repeat (first|with_reducible refine wV fun _=>?_|simp [go_sem]))
 refine rRun_call g hg p hp cell i hc (a := 1) (b := 2) (by decide) (by simp) (by simp [upd, encPos, encIs]) (by simp [upd]) ?_
 generalize lastO g p cell i = l at *
 (repeat (first|with_reducible refine wV fun _=>?_|simp [go_sem]))
 refine sortR_call l hf (by omega) (o := 248) (gn := l.length) (by simp [upd]) ?_
 (repeat (first|with_reducible refine wV fun _=>?_|simp [go_sem]))
 refine compactR_call2 (sortC cmpO l) l.length l.length (sortC_len l) (by omega) (fun o ho => hf o (sortC_mem.1 ho)) (o := 248) (by simp [upd]) (by omega) ?_
 (repeat (first|with_reducible refine wV fun _=>?_|simp [go_sem]))
 exact leV_frz rfl (by simp) (by simp [noH, upd]) (by rw [List.drop_zero]; exact List.take_left' (by simp))
end Go.Av
end
