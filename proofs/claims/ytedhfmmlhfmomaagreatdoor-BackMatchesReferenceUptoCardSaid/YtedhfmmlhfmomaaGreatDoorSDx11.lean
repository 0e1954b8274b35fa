/- Texts of ours, part 11: contracts and facts for this claim. -/
import Derived.Test.YtedhfmmlhfmomaaGreatDoorB11
import Derived.Test.YtedhfmmlhfmomaaGreatDoorSDx10
set_option linter.unusedSimpArgs false
set_option linter.unusedVariables false
set_option maxRecDepth 100000
set_option maxHeartbeats 40000000
section
open Go Go.Proofs
namespace Go.Av
def eLf (sd : Int) (p : zah) (c : Nat) : List zah := ((List.range c).filter fun c => decide ((zao (nth p.at_ c)).2 = sd)).map (ziw sd p)
theorem zxE (sd : Int) (p : zah) (c : Nat) : eLf sd p (c + 1) = if (zao (nth p.at_ c)).2 = sd then eLf sd p c ++ [ziw sd p c] else eLf sd p c := by
 unfold eLf
 rw [List.range_succ, List.filter_append, List.map_append]
 by_cases h : (zao (nth p.at_ c)).2 = sd
 ·rw [if_pos h]; simp [h]
 ·rw [if_neg h]; simp [h]
theorem zzJ (sd : Int) (p : zah) (c : Nat) : (eLf sd p c).length ≤ c := by
 unfold eLf
 rw [List.length_map]
 have := List.length_filter_le (fun c => decide ((zao (nth p.at_ c)).2 = sd)) (List.range c)
 rwa [List.length_range] at this
theorem zin (g : zae) (hg : GOk g) (hos : zbm g) (p : zah) (hp : POk g p) : zaL Tryz.prog 84 [.agg (zac g), .agg (zad p)] (zaN (zc1 g p)) := by
 refine pF Tryz.func84 ?_
 have hTl := zhr hg hos hp
 have hCR : zc1 g p = zeG g (1 - p.side) p ++ eLf (1 - p.side) p p.at_.length := rfl
 have hCP : zc0 g p = zeG g (1 - p.side) p ++ zgo g (1 - p.side) p := rfl
 rw [hCR]
 rw [hCP] at hTl
 clear hCR hCP
 have hsd : 1 - p.side = 0 ∨ 1 - p.side = 1 := by have := hp.s; omega
 have hf := hp.fits hg
 have hal := hp.al
 have c9 := hg.c9
 have c1 := hg.c1
 have k6 := hg.k6
 have hC8 := zgG g hg
 obtain ⟨cn, hcn⟩ : ∃ cn : Nat, cn = g.cells.toNat := ⟨_, rfl⟩
 have hpl : p.at_.length = cn := by omega
 have hF := zjB hg
 have hcl : (zbg (zbE g)).length = 2 := rfl
 obtain ⟨sd, hsde⟩ : ∃ sd, sd = 1 - p.side := ⟨_, rfl⟩
 rw [← hsde] at hsd hTl ⊢
 have hcs : cel (zbg (zbE g)) sd.toNat = za3 (zbz g sd) := by rcases hsd with h | h <;> rw [h] <;> rfl
 have hsl : (zbz g sd).length = g.kinds.length := by
  rcases hsd with h | h <;> rw [h]
  ·exact hF.sh.l1
  ·exact hF.sh.l2
 have hecb : ∀ n, (∀ c ∈ zbg (zbE g), Bel n c) = True := fun n => by simp [go_sem]
 obtain ⟨ck, hck⟩ : ∃ ck : Nat → List (List AV), ∀ k, ck k = (nth (zbz g sd) k).map fun y => [zbe y] := ⟨_, fun _ => rfl⟩
 have hckl : ∀ k, k < g.kinds.length → (ck k).length = cn := fun k hk => by
  rw [hck, List.length_map]
  have hm : nth (zbz g sd) k ∈ (zbE g).1 ++ (zbE g).2 := by
   have := zaj (l := zbz g sd) (i := k) (by omega)
   rcases hsd with h | h <;> rw [h] at this ⊢
   ·exact List.mem_append_left _ this
   ·exact List.mem_append_right _ this
  rcases List.mem_append.1 hm with h | h
  ·have := hF.sh.c1 _ h; omega
  ·have := hF.sh.c2 _ h; omega
 have hckn : ∀ k, k < g.kinds.length → ∀ c, c < cn → nth (ck k) c = [.lst 2 ((zbw g.board sd (nth g.kinds k).progs c).map zaq)] := fun k hk c hc => by
  have h1 := hckl k hk
  rw [hck, List.length_map] at h1
  rw [hck, zbl _ _ _ (by omega), zoT _ _ hk (by omega)]
  rfl
 have hsn : ∀ k, k < g.kinds.length → nth ((zbz g sd).map fun x => [zby x]) k = [.lst 1 (ck k)] := fun k hk => by rw [hck]; exact zbl _ _ _ (by omega)
 have hsl2 : ((zbz g sd).map fun x => [zby x]).length = g.kinds.length := by rw [List.length_map]; exact hsl
 obtain ⟨es, hes⟩ : ∃ es, es = (zbz g sd).map fun x => [zby x] := ⟨_, rfl⟩
 have hcs' : cel (zbg (zbE g)) sd.toNat = .lst 1 es := by rw [hcs, hes]; rfl
 rw [← hes] at hsn hsl2
 have hT0 : cKd g sd p 0 = zeG g sd p ++ zgo g sd p := rfl
 have hTe := zuR (g := g) (sd := sd) (p := p)
 clear hcs hes hck hsl hF
 generalize zbg (zbE g) = ec at *
 have hsd0 : 0 ≤ sd := by omega
 have hsd2 : sd < 2 := by omega
 obtain ⟨T, hT⟩ : ∃ T, T = zeG g sd p ++ zgo g sd p := ⟨_, rfl⟩
 rw [← hT] at hTl hT0
 have hgb : ∀ n, (∀ c ∈ zac g, Bel n c) = True := fun n => by simp [go_sem]
 have hgl : (zac g).length = 9 := rfl
 have hgk : cel (zac g) 3 = .lst 3 (g.kinds.map zaS) := rfl
 obtain ⟨eg, heg⟩ : ∃ eg, eg = zac g := ⟨_, rfl⟩
 rw [← heg] at hC8 hgb hgl hgk ⊢
 have hAll : ∀ (P : zah) (hP : POk g P) (acts : List zcq) (ha : ∀ a ∈ acts, zdO g.cells g.kinds.length g.rights a) (h6 : za4 acts 6 ≤ 2) (h10 : za4 acts 10 ≤ 8) (hl : acts.length ≤ 1048576), zaL Tryz.prog 144 [.agg eg, .agg (zad P), zbj acts] (zaN (zcx g P.side P acts.reverse)) := fun P hP acts ha h6 h10 hl => by rw [heg]; exact zup g hg P hP acts ha h6 h10 hl
 clear heg
 obtain ⟨R, hR⟩ : ∃ R, R = zeG g sd p ++ eLf sd p p.at_.length := ⟨_, rfl⟩
 rw [← hR]
 repeat first|refine wV fun _=>?_|simp [go_sem, hgl, hcl]
 refine zAs hC8 (by simp [go_sem, hgb]) ?_
 repeat first|refine wV fun _=>?_|simp [go_sem, hgl, hcl, ← hsde]
 refine zAr (zAv (α := Nat × List zah) (fun a => ⟨[(2, .ref 0 0 9 0 0), (3, .ref 1 0 5 0 0), (5, .ref 3 0 2 0 0), (6, .sl 2 a.2.length 5 0 a.2.length), (7, .v (.int .i64 sd)), (8, .v (.int .i64 a.1))], [(0, .rows true 0 9 [eg]), (1, .rows true 0 5 [zad p]), (2, .rows true a.2.length 5 (a.2.map zad)), (3, .rows true 0 2 [ec])], 4⟩)
  (fun d a => a.1 + d = g.kinds.length ∧ a.2 ++ cKd g sd p a.1 = T) ?_ g.kinds.length (0, []) ?_) ?_ ?_
 ·rintro d ⟨k, out⟩ ⟨k1, k2⟩ hrec
  simp only at k1 k2
  have hol : out.length ≤ 35831817 := by rw [← k2, List.length_append] at hTl; omega
  repeat first|refine wV fun _=>?_|simp [go_sem, hgl, hgk]
  refine zAt (fun hk => ?_) (fun hk => ?_) <;> simp at hk
  ·have hsnk := hsn k hk
   have hckl := hckl k hk
   have hckn := hckn k hk
   generalize ck k = ce at *
   rw [zyD hk] at k2
   repeat first|refine wV fun _=>?_|simp [go_sem, hgl, hgk]
   refine zAr (zAv (α := Nat × List zah) (fun a => ⟨[(2, .ref 0 0 9 0 0), (3, .ref 1 0 5 0 0), (5, .ref 3 0 2 0 0), (6, .sl 2 a.2.length 5 0 a.2.length), (7, .v (.int .i64 sd)), (8, .v (.int .i64 k)), (9, .v (.int .i64 a.1))], [(0, .rows true 0 9 [eg]), (1, .rows true 0 5 [zad p]), (2, .rows true a.2.length 5 (a.2.map zad)), (3, .rows true 0 2 [ec])], 4⟩)
    (fun d a => a.1 + d = cn ∧ a.2 ++ cCl g sd p k a.1 = T) ?_ cn (0, out) ?_) ?_ ?_
   ·rintro d2 ⟨c, out2⟩ ⟨c1', c2⟩ hrec2
    simp only at c1' c2
    have hol2 : out2.length ≤ 35831817 := by rw [← c2, List.length_append] at hTl; omega
    repeat first|refine wV fun _=>?_|simp [go_sem, hgl, hgk, hpl]
    refine zAt (fun hc => ?_) (fun hc => ?_) <;> simp at hc
    ·have hcn2 := hckn c hc
     have hkm := zaj hk
     have hwok := zg5 hg (side := sd) hkm (cell := (c : Int)) ⟨by omega, by omega⟩
     have hlen := zfs hg sd hkm (c : Int)
     have hacl := zhD hg sd hkm (c : Int)
     have hlos := zly hg (side := sd) hkm (cell := (c : Int))
     have hmw : ∀ {i : Nat}, i < (zbw g.board sd (nth g.kinds k).progs c).length → nth (zbw g.board sd (nth g.kinds k).progs c) i ∈ zbw g.board sd (nth g.kinds k).progs c := fun h => zaj h
     have hpg := fun i h => zyE (g := g) (sd := sd) (p := p) (k := k) (c := c) (i := i) h
     have hpe := zuS (g := g) (sd := sd) (p := p) (k := k) (c := c)
     rw [zyC (by omega)] at c2
     have hcw := zjj hg (side := sd) (p := p) hk (show (c : Int) < g.cells by omega)
     generalize zbw g.board sd (nth g.kinds k).progs c = pt at *
     repeat first|refine wV fun _=>?_|simp [go_sem, hgl, hgk, hsd0, hsd2, hcl, hcs', hsl2, hk, hsnk, hckl, hc, hcn2]
     refine zAr (zAv (α := Nat × List zah) (fun a => ⟨[(2, .ref 0 0 9 0 0), (3, .ref 1 0 5 0 0), (5, .ref 3 0 2 0 0), (6, .sl 2 a.2.length 5 0 a.2.length), (7, .v (.int .i64 sd)), (8, .v (.int .i64 k)), (9, .v (.int .i64 c)), (10, .lst 2 (pt.map zaq)), (11, .v (.int .i64 a.1))], [(0, .rows true 0 9 [eg]), (1, .rows true 0 5 [zad p]), (2, .rows true a.2.length 5 (a.2.map zad)), (3, .rows true 0 2 [ec])], 4⟩)
      (fun d a => a.1 + d = pt.length ∧ a.2 ++ cPt g sd p k c a.1 = T) ?_ pt.length (0, out2) ?_) ?_ ?_
     ·rintro d3 ⟨i, out3⟩ ⟨i1, i2⟩ hrec3
      simp only at i1 i2
      have hol3 : out3.length ≤ 35831817 := by rw [← i2, List.length_append] at hTl; omega
      repeat first|refine wV fun _=>?_|simp [go_sem, hgl, hgk]
      refine zAt (fun hi => ?_) (fun hi => ?_) <;> simp at hi
      ·have hw := hwok _ (zaj hi)
       have hgi := zbl zaq pt i hi
       have hmw := hmw hi
       have hpg := hpg i hi
       unfold zfe at hpg
       have hal2 : (nth pt i).acts.length ≤ 1048576 := by have := hacl _ hmw; omega
       have hlo2 := hlos _ hmw
       have hlw := hcw _ hmw
       generalize nth pt i = w at *
       obtain ⟨hw1, hw2, hw3, hw4, hw5⟩ := hw
       have hto : w.to.toNat < p.at_.length := by omega
       have hto' : w.to.toNat < cn := by omega
       have hto0 := hw1.1
       have hMa := zdD (nth p.at_ w.to.toNat)
       have hW := ziT p hf w.to 0 hto0 hto
       have hlf : POk g ⟨p.at_.set w.to.toNat 0, p.h0, p.h1, p.rights, sd⟩ := by
        have := hp.setAt w.to.toNat (v := 0) (by omega)
        exact ⟨this.al, this.av, this.h0, this.h1, this.r0, this.r1, hsd⟩
       generalize p.at_.set w.to.toNat 0 = A at *
       have hA := hAll _ hlf w.acts hw2 hw3 hlo2 hal2
       have hro := zhj hg hsd hlf (l := w.acts.reverse) (fun a ha => hw2 a (List.mem_reverse.1 ha))
       replace hA : zaL Tryz.prog 144 [.agg eg, .agg (zad ⟨A, p.h0, p.h1, p.rights, sd⟩), zbj w.acts] (zaN (zcx g sd ⟨A, p.h0, p.h1, p.rights, sd⟩ w.acts.reverse)) := hA
       generalize zao (nth p.at_ w.to.toNat) = m at *
       obtain ⟨m1, m2⟩ := m
       replace hpg : cPt g sd p k c i = (if m2 = sd then _ else _) ++ _ := hpg
       repeat first|refine wV fun _=>?_|simp [go_sem, hgl, hgk, hi, hgi, hto, hto0]
       refine zAu hMa (by simp [go_sem]) ?_
       repeat first|refine wV fun _=>?_|simp [go_sem, hgl, hgk]
       refine zAt (fun hne => ?_) (fun hne => ?_) <;> simp at hne
       ·rw [if_neg hne, List.nil_append] at hpg
        rw [hpg] at i2
        repeat first|refine wV fun _=>?_|simp [go_sem]
        refine zAr (hrec3 (d3 - 1) (by omega) (i + 1, out3) ⟨by simp only; omega, i2⟩) ?_ (by simp)
        simp [go_sem, zaf, hgb, hecb]
       ·rw [if_pos hne] at hpg
        obtain ⟨fF, hfF⟩ : ∃ fF : List zah → List zah, ∀ ys, fF ys = ((ys.filter fun q => decide (nth q.at_ c = 0)).map fun q => { q with at_ := q.at_.set c (zaF k sd) }) ++ cPt g sd p k c (i + 1) := ⟨_, fun _ => rfl⟩
        rw [← hfF] at hpg
        rw [hpg] at i2
        have hfe : fF [] = cPt g sd p k c (i + 1) := by rw [hfF]; rfl
        have hfc : ∀ y ys, fF (y :: ys) = if nth y.at_ c = 0 then { y with at_ := y.at_.set c (zaF k sd) } :: fF ys else fF ys := fun y ys => by
         rw [hfF, hfF, List.filter_cons]
         by_cases hz : nth y.at_ c = 0
         ·rw [if_pos hz, if_pos (by simpa using hz)]
          rfl
         ·rw [if_neg hz, if_neg (by simpa using hz)]
        clear hfF hpg
        repeat first|refine wV fun _=>?_|simp [go_sem, hgl, hgk, hi, hgi, hto0]
        refine zAu hW (by simp [go_sem]) ?_
        repeat first|refine wV fun _=>?_|simp [go_sem, hgl, hgk, hi, hgi]
        refine zAu hA (by simp [go_sem, hgb]) ?_
        generalize zcx g sd ⟨A, p.h0, p.h1, p.rights, sd⟩ w.acts.reverse = ys at *
        repeat first|refine wV fun _=>?_|simp [go_sem, hgl, hgk]
        have hyl : ys.length ≤ 9216 := hlw
        refine zAr (zAv (α := Nat × List zah) (fun a => ⟨[(2, .ref 0 0 9 0 0), (3, .ref 1 0 5 0 0), (5, .ref 3 0 2 0 0), (6, .sl 2 a.2.length 5 0 a.2.length), (7, .v (.int .i64 sd)), (8, .v (.int .i64 k)), (9, .v (.int .i64 c)), (10, .lst 2 (pt.map zaq)), (11, .v (.int .i64 i)), (14, zaN ys), (15, .v (.int .i64 a.1))], [(0, .rows true 0 9 [eg]), (1, .rows true 0 5 [zad p]), (2, .rows true a.2.length 5 (a.2.map zad)), (3, .rows true 0 2 [ec])], 4⟩)
         (fun d a => a.1 + d = ys.length ∧ a.2 ++ fF (ys.drop a.1) = T) ?_ ys.length (0, out3) ?_) ?_ ?_
        ·rintro d4 ⟨j, out4⟩ ⟨j1, j2⟩ hrec4
         simp only at j1 j2
         have hol4 : out4.length ≤ 35831817 := by rw [← j2, List.length_append] at hTl; omega
         repeat first|refine wV fun _=>?_|simp [go_sem]
         refine zAt (fun hj => ?_) (fun hj => ?_) <;> simp at hj
         ·have hy := (hro _ (zaj hj)).1
          have hgy := zbl zad ys j hj
          rw [zaH hj, hfc] at j2
          have hCo := zc4 k sd
          generalize nth ys j = y at *
          have hyl2 := hy.al
          have hcy : c < y.at_.length := by omega
          have hWy := ziT y (hy.fits hg) c (zaF k sd) (by omega) (by rw [Int.toNat_natCast]; exact hcy)
          rw [Int.toNat_natCast] at hWy
          obtain ⟨Y, hY⟩ : ∃ Y, Y = { y with at_ := y.at_.set c (zaF k sd) } := ⟨_, rfl⟩
          rw [← hY] at hWy j2
          generalize zaF k sd = cd at *
          repeat first|refine wV fun _=>?_|simp [go_sem, hj, hgy, hcy]
          refine zAt (fun hz => ?_) (fun hz => ?_) <;> simp at hz
          ·rw [if_pos hz] at j2
           repeat first|refine wV fun _=>?_|simp [go_sem, hj, hgy]
           refine zAu hCo (by simp [go_sem]) ?_
           repeat first|refine wV fun _=>?_|simp [go_sem, hj, hgy]
           refine zAu hWy (by simp [go_sem]) ?_
           repeat first|refine wV fun _=>?_|simp [go_sem]
           refine zAr (hrec4 (d4 - 1) (by omega) (j + 1, out4 ++ [Y]) ⟨by simp only; omega, by simp only; rw [List.append_assoc]; exact j2⟩) ?_ (by simp)
           simp [go_sem, zaf, hgb, hecb]
          ·rw [if_neg hz] at j2
           repeat first|refine wV fun _=>?_|simp [go_sem]
           refine zAr (hrec4 (d4 - 1) (by omega) (j + 1, out4) ⟨by simp only; omega, j2⟩) ?_ (by simp)
           simp [go_sem, zaf, hgb, hecb]
         ·rw [List.drop_eq_nil_of_le hj, hfe] at j2
          repeat first|refine wV fun _=>?_|simp [go_sem]
          refine zAr (hrec3 (d3 - 1) (by omega) (i + 1, out4) ⟨by simp only; omega, j2⟩) ?_ (by simp)
          simp [go_sem, zaf, hgb, hecb]
        ·exact ⟨by omega, i2⟩
        ·simp [go_sem, zaf, hgb, hecb]
        ·simp
      ·obtain rfl : i = pt.length := by omega
       rw [hpe] at i2
       repeat first|refine wV fun _=>?_|simp [go_sem]
       refine zAr (hrec2 (d2 - 1) (by omega) (c + 1, out3) ⟨by simp only; omega, i2⟩) ?_ (by simp)
       simp [go_sem, zaf, hgb, hecb]
     ·exact ⟨by omega, c2⟩
     ·simp [go_sem, zaf, hgb, hecb]
     ·simp
    ·obtain rfl : c = cn := by omega
     rw [hcn, zuQ] at c2
     repeat first|refine wV fun _=>?_|simp [go_sem]
     refine zAr (hrec (d - 1) (by omega) (k + 1, out2) ⟨by simp only; omega, c2⟩) ?_ (by simp)
     simp [go_sem, zaf, hgb, hecb]
   ·exact ⟨by omega, k2⟩
   ·simp [go_sem, zaf, hgb, hecb]
   ·simp
  ·obtain rfl : k = g.kinds.length := by omega
   rw [hTe, hT] at k2
   have hoA := List.append_cancel_right k2
   obtain ⟨oF, hoF⟩ : ∃ oF : Nat → List zah, ∀ c, oF c = out ++ eLf sd p c := ⟨_, fun _ => rfl⟩
   have he0 : oF 0 = out := by rw [hoF]; exact List.append_nil _
   have hes : ∀ c, oF (c + 1) = if (zao (nth p.at_ c)).2 = sd then oF c ++ [ziw sd p c] else oF c := fun c => by
    rw [hoF, hoF, zxE]
    split
    ·rw [List.append_assoc]
    ·rfl
   have hel : ∀ c, (oF c).length ≤ 35831817 + c := fun c => by
    rw [hoF, List.length_append]
    have := zzJ sd p c
    omega
   rw [← hoA, hpl, ← hoF] at hR
   clear hsn hckl hckn hcs' hAll hT0 hTe hrec hT hoF
   repeat first|refine wV fun _=>?_|simp [go_sem]
   refine zAr (zAv (α := Nat) (fun c => ⟨[(3, .ref 1 0 5 0 0), (6, .sl 2 (oF c).length 5 0 (oF c).length), (7, .v (.int .i64 sd)), (16, .v (.int .i64 c))], [(1, .rows true 0 5 [zad p]), (2, .rows true (oF c).length 5 ((oF c).map zad))], 4⟩)
    (fun d c => c + d = cn) ?_ cn 0 ?_) ?_ ?_
   ·rintro d c c1' hrec
    have hol2 := hel c
    have hes := hes c
    repeat first|refine wV fun _=>?_|simp [go_sem, hpl]
    refine zAt (fun hc => ?_) (fun hc => ?_) <;> simp at hc
    ·have hv := hp.at (i := c) (by omega)
     have hman := zaR hv.1 hv.2 k6
     have hOf := zdD (nth p.at_ c)
     have hcp : c < p.at_.length := by omega
     have hP : zgi Tryz.prog 143 [.agg (zad p), .v (.int .i64 c), .v (.int .i64 0)] (fun n => zjY n { p with at_ := p.at_.set c 0 }) (fun n => zgz n { p with at_ := p.at_.set c 0 }) 11 := zrD p hf c 0 (by omega) (by rw [Int.toNat_natCast]; exact hcp)
     simp only [zjY, zgz] at hP
     have hAl : (p.at_.set c 0).length = p.at_.length := by simp
     have hlp : ziw sd p c = (⟨p.at_.set c 0, p.h0, p.h1, p.rights, sd⟩ : zah).withHand sd ((p.hand sd).set (zao (nth p.at_ c)).1.toNat (nth (p.hand sd) (zao (nth p.at_ c)).1.toNat + 1)) := by
      rcases hsd with h | h <;> rw [h] <;> rfl
     rw [hlp] at hes
     clear hlp
     generalize p.at_.set c 0 = A at *
     generalize zao (nth p.at_ c) = m at *
     obtain ⟨m1, m2⟩ := m
     simp only [Prod.mk.injEq] at hman
     simp only at hes
     repeat first|refine wV fun _=>?_|simp [go_sem, hcp]
     refine zAs hOf (by simp [go_sem]) ?_
     repeat first|refine wV fun _=>?_|simp [go_sem]
     refine zAt (fun hms => ?_) (fun hms => ?_) <;> simp at hms
     ·subst hms
      rw [if_pos rfl] at hes
      obtain ⟨hm0, hmk⟩ : 0 ≤ m1 ∧ m1 < g.kinds.length := by omega
      have hhl := (hp.hand m2).len
      have hkh : m1.toNat < (p.hand m2).length := by omega
      have hhv := (hp.hand m2).v m1.toNat hkh
      have hR1 : R.length = R.length := rfl
      rcases hsd with hs0 | hs0
      ·have hqh : p.hand m2 = p.h0 := by rw [hs0]; rfl
       rw [hqh] at hes hkh hhv
       have hQ : (⟨A, p.h0, p.h1, p.rights, m2⟩ : zah).withHand m2 (p.h0.set m1.toNat (nth p.h0 m1.toNat + 1)) = ⟨A, p.h0.set m1.toNat (nth p.h0 m1.toNat + 1), p.h1, p.rights, m2⟩ := by rw [hs0]; rfl
       rw [hQ] at hes
       generalize oF c = o2 at *
       repeat first|refine wV fun _=>?_|simp [go_sem]
       refine zAx hP (by simp [go_sem]) ?_
       repeat first|refine wV fun _=>?_|simp [go_sem, hs0, hkh, hm0]
       refine zAr (hrec (d - 1) (by omega) (c + 1) (by omega)) ?_ (by simp)
       rw [hs0] at hes
       simp [go_sem, zaf, hes, hs0]
       (first|done|exact rwX)
      ·have hqh : p.hand m2 = p.h1 := by rw [hs0]; rfl
       rw [hqh] at hes hkh hhv
       have hQ : (⟨A, p.h0, p.h1, p.rights, m2⟩ : zah).withHand m2 (p.h1.set m1.toNat (nth p.h1 m1.toNat + 1)) = ⟨A, p.h0, p.h1.set m1.toNat (nth p.h1 m1.toNat + 1), p.rights, m2⟩ := by rw [hs0]; rfl
       rw [hQ] at hes
       generalize oF c = o2 at *
       repeat first|refine wV fun _=>?_|simp [go_sem]
       refine zAx hP (by simp [go_sem]) ?_
       repeat first|refine wV fun _=>?_|simp [go_sem, hs0, hkh, hm0]
       refine zAr (hrec (d - 1) (by omega) (c + 1) (by omega)) ?_ (by simp)
       rw [hs0] at hes
       simp [go_sem, zaf, hes, hs0]
       (first|done|exact rwX)
     ·rw [if_neg hms] at hes
      repeat first|refine wV fun _=>?_|simp [go_sem]
      refine zAr (hrec (d - 1) (by omega) (c + 1) (by omega)) ?_ (by simp)
      simp [go_sem, zaf, hes]
    ·obtain rfl : c = cn := by omega
     rw [hR]
     generalize oF c = o3 at *
     repeat first|refine wV fun _=>?_|simp [go_sem]
     exact frX
   ·omega
   ·simp [go_sem, zaf, he0]
   ·simp
 ·exact ⟨by omega, by rw [List.nil_append]; exact hT0⟩
 ·simp [go_sem, zaf, hgb, hecb]
 ·simp
end Go.Av
end
