/- Texts of ours, part 12: our library and contracts of functions. -/
import Derived.Test.YtnjjmmhiaaplmaaGreatDoorB11
set_option linter.unusedSimpArgs false
set_option linter.unusedVariables false
set_option maxRecDepth 100000
set_option maxHeartbeats 40000000
section
open Go Go.Proofs
namespace Go.Av
theorem ztm {σ:Nat→Nat}{b c:List AV} (h:RnL σ b c):∀ {a:List AV},(∀e ∈ a,Bel 0 e)→RnL σ (a++b) (a++c)
 | [], _=>h
 |x::a,ha=> .cons (.same (ha x ad)) (ztm h fun e he=>ha e (by simp [he]))
theorem zdp {n:Nat} (x:zbh):∀c ∈ zaH x,Bel n c:=by
 intro c hc
 simp only [zaH,List.mem_cons,List.not_mem_nil,or_false] at hc
 rcases hc with rfl|rfl|rfl|rfl|rfl|rfl
 ·exact .v _
 ·simp [go_sem]
 ·exact of_eq_true zhJ
 ·exact of_eq_true zhJ
 ·exact of_eq_true zhJ
 ·exact .v _
theorem zkV {n:Nat} (g:zab):∀c ∈ zac g,Bel n c:=by
 have:Bel n (.agg (zac g)):=ae
 cases this
 assumption
theorem zAP {n l k:Nat}{g:zab}{x:zbh}{s now:Int} (hl:l<n):∀c ∈ zy8 g x s now l k,Bel n c:=by
 intro c hc
 unfold zy8 at hc
 rcases List.mem_append.1 hc with hc|hc
 ·exact zkV g c hc
 rcases List.mem_append.1 hc with hc|hc
 ·exact zdp x c hc
 simp only [List.mem_cons,List.not_mem_nil,or_false] at hc
 rcases hc with rfl|rfl|rfl
 ·exact .v _
 ·exact .v _
 ·exact .sl hl
theorem znL (g:zab) (hg:GOk g) (x:zbh) (hx:zkE g x) (s now c:Int) (hs:s=0∨s=1) (hnow:0≤now∧now≤2 * g.kinds.length) (hc:0≤c∧c<g.cells) (last:List Int) (hll:(last.length:Int)=g.rights)
  (w:zaT) (hw:0≤w.to∧w.to<g.cells) (hwl:w.acts.length≤1048576) (hwa:∀a ∈ w.acts,zc3 g.cells g.kinds.length g.rights a) {h:zaq} {n o l:Nat} {K:zcn} (hne:o≠l) (ho':o<n) (hl':l<n)
  (ho:h o=some (.rows true 0 18 [zy8 g x s now l last.length])) (hl:h l=some (.rows true 0 1 (last.map zaB)))
  (hK:K (.v (.bool (ze0 g x s w.to.toNat now last (zbQ x now c.toNat+zdw x s) w.acts))) (upd (upd h l none) o none) n):
  zah Tryz.prog 70 [.ref o 0 18 0 0, .int c, .agg (zaK w)] h n K:=by
 have hbp:∀m,Bel m (.agg (zaK w)):=fun m=>ae
 refine zEE (args':= [.ref o 0 18 0 0, .int c, .agg (zaK w)]) (HH:= []) [o,l] h (zv0 g hg x hx s now c hs hnow hc last hll w hw hwl hwa) (by simp [hne]) (by simp [ho',hl']) rfl (Nat.le_refl _) (.refl _) ?_ ?_ (.refl _ _ _ _) ?_
  (.cons (.ref rfl) (.cons (.same (.v _)) (.cons (.same (hbp _)) .nil))) ?_ (.same (.v _)) .nil hK
 ·intro j hj
  rcases (show j=0∨j=1 by omega) with rfl|rfl
  ·exact ⟨_, _,rfl,ho, .rows (.cons (ztm (ztm (.cons (.same (.v _)) (.cons (.same (.v _)) (.cons (.sl rfl) .nil))) (zdp x)) (zkV g)) .nil)⟩
  ·exact ⟨_, _,rfl,hl, .rows (.same (za4 _))⟩
 ·intro p hp
  simp only [List.mem_cons,List.not_mem_nil,or_false] at hp
  rcases hp with rfl|rfl
  ·refine ⟨ad,fun r hr=> ?_⟩
   simp only [List.mem_singleton] at hr
   subst hr
   exact zAP am
  ·exact ⟨ad,za4 _⟩
 ·intro y hy
  simp only [List.mem_cons,List.not_mem_nil,or_false] at hy
  rcases hy with rfl|rfl|rfl
  ·exact .ref ho'
  ·exact .v _
  ·exact hbp _
 ·intro y hy
  simp only [List.mem_cons,List.not_mem_nil,or_false] at hy
  rcases hy with rfl|rfl|rfl
  ·exact .ref am
  ·exact .v _
  ·exact hbp _
def drp1 (g:zab) (x:zbh) (s k c:Nat):Bool:= !(nth g.kinds k).keep||decide ((zjS x (zal k s) c - nth (x.hand s) k+zdw x s).tmod x.mod=0)
def drpK (g:zab) (x:zbh) (s k:Nat):Bool:=(List.range g.cells.toNat).all (drp1 g x s k)
def drpS (g:zab) (x:zbh) (s:Nat):Bool:=(List.range g.kinds.length).all (drpK g x s)
theorem zbd {p:Nat→Bool}{m i:Nat} (h:i<m):((List.range m).drop i).all p=(p i && ((List.range m).drop (i+1)).all p):=by
 rw [List.drop_eq_getElem_cons aK,List.all_cons]
 simp
theorem zpb {h:zaq}{n o:Nat}{mt:Bool}{g:zab}{x:zbh}{s now:Int}{L:AV} (ho:h o=some (.rows mt 0 18 [zac g++(zaH x++ [.int s, .int now,L])])):LeV h noH n (.ref o 0 18 0 0) (.fp (zdQ g x s now)):=by
 refine .frzP ho ad ad (fun g sz rs e=>by cases e) ?_
 simp only [zdy,List.drop_zero,zdQ]
 have h1:∀ {a b c:List AV},zav h noH n b c→zav h noH n (a++b) (a++c):=fun {a b c} hbc=>by
  induction a with
  |nil=>exact hbc
  |cons y a ih=>exact .cons (.refl y) ih
 exact h1 (h1 (.cons (.refl _) (.cons (.refl _) (.cons (.top _) .nil))))
theorem zvB (g:zab) (hg:GOk g) (x:zbh) (hx:zkE g x):zaD Tryz.prog 71 [.agg (zac g), .agg (zaH x)] (.v (.bool (zt4 g x))):=by
 have hP:=fun (s now n c:Int) hn hc=>zuB g hg x hx s now n c hn hc
 have hT:=fun (s now:Int) hs=>zrx g hg x hx s now hs
 have hC:=za5
 obtain ⟨B,hB⟩:∃B,B=zt4 g x:=⟨_,rfl⟩
 have hB2:B=((List.range 2).drop 0).all (drpS g x):=hB
 rw [← hB]
 clear hB
 have hm1:=hx.m1
 have hm2:=hx.m2
 have hm3:¬x.mod=0:=aa
 have hK:=hg.k6
 refine pF Tryz.func71 ?_
 refine J0 ?_
 refine zEp (zEs (α:=Nat) (fun s=>⟨[(2, .ref 0 0 9 0 0),(3, .ref 1 0 6 0 0),(11, .int s)], [(0, .rows true 0 9 [zac g]),(1, .rows true 0 6 [zaH x])],2⟩)
  (fun d s=>s+d=2∧B=((List.range 2).drop s).all (drpS g x)) ?_ 2 0 ?_) ?_ ?_
 ·rintro d s ⟨i1,i2⟩ hrec
  refine J0 ?_
  refine zEr (fun hs=> ?_) (fun hs=> ?_)<;>simp at hs
  ·rw [zbd aa] at i2
   rcases (show s=0∨s=1 by omega) with rfl|rfl
   ·obtain ⟨R2,hR2⟩:∃R2,R2=((List.range 2).drop (0+1)).all (drpS g x):=⟨_,rfl⟩
    rw [← hR2] at i2
    have hTs:=hT 0 0 aa
    have htb:=ztx hx (s:=0) aa
    have hd0:∀k c,drp1 g x 0 k c=(!(nth g.kinds k).keep||decide ((zjS x (zal k 0) c - nth x.h0 k+zdw x 0).tmod x.mod=0)):=fun _ _=>rfl
    generalize zdw x 0=tv at hTs htb hd0
    refine J0 ?_
    refine zEp (zEs (α:=Nat) (fun k=>⟨[(2, .ref 0 0 9 0 0),(3, .ref 1 0 6 0 0),(5, .int 0),(6, .ref 2 0 18 0 0),(11, .int 0),(19, .lst 3 (g.kinds.map zaV)),(20, .int g.kinds.length),(21, .int k)],
     [(0, .rows true 0 9 [zac g]),(1, .rows true 0 6 [zaH x]),(2, .rows true 0 18 [zac g++(zaH x++ [.int 0, .int 0, .v (.slice none 0 0)])])],3⟩)
     (fun d2 k=>k+d2=g.kinds.length∧B=(((List.range g.kinds.length).drop k).all (drpK g x 0) && R2)) ?_ g.kinds.length 0 ?_) ?_ ?_
    ·rintro d2 k ⟨j1,j2⟩ hrec2
     refine J0 ?_
     refine zEr (fun hk=> ?_) (fun hk=> ?_)<;>simp at hk
     ·rw [zbd hk,Bool.and_assoc] at j2
      obtain ⟨R3,hR3⟩:∃R3,R3=(((List.range g.kinds.length).drop (k+1)).all (drpK g x 0) && R2):=⟨_,rfl⟩
      rw [← hR3] at j2
      have hcd:=hC (k:Int) 0
      have hcl:=zdC (K:=g.kinds.length) (k:=(k:Int)) (s:=0) ⟨aa,aa⟩ aa
      have hd1:=hd0 k
      obtain ⟨cv,hcv⟩:∃cv,zal (k:Int) 0=cv:=⟨_,rfl⟩
      rw [hcv] at hcd hcl
      simp only [hcv] at hd1
      have hi0:k<x.h0.length:=by have:=hx.hl0;have:=hx.hl1;omega
      have hv:=zgj hx.hv0 hi0
      generalize hkp:nth g.kinds k=kd at hd1
      refine J2 hk hkp ?_
      refine zEp (zEs (α:=Nat) (fun c=>⟨[(2, .ref 0 0 9 0 0),(3, .ref 1 0 6 0 0),(5, .int 0),(6, .ref 2 0 18 0 0),(7, .int k),(8, .ref 3 0 3 0 0),(11, .int 0),(19, .lst 3 (g.kinds.map zaV)),(20, .int g.kinds.length),(21, .int k),(28, .int g.cells),(29, .int c)],
       [(0, .rows true 0 9 [zac g]),(1, .rows true 0 6 [zaH x]),(2, .rows true 0 18 [zac g++(zaH x++ [.int 0, .int 0, .v (.slice none 0 0)])]),(3, .rows true 0 3 [zaV kd])],4⟩)
       (fun d3 c=>c+d3=g.cells.toNat∧B=(((List.range g.cells.toNat).drop c).all (drp1 g x 0 k) && R3)) ?_ g.cells.toNat 0 ?_) ?_ ?_
      ·rintro d3 c ⟨l1,l2⟩ hrec3
       have hc1:=hg.c1
       have hc9:=hg.c9
       refine J0 ?_
       refine zEr (fun hc=> ?_) (fun hc=> ?_)<;>simp at hc
       ·rw [zbd aa,Bool.and_assoc,hd1] at l2
        have hpf:=hP 0 0 cv (c:Int) hcl ⟨aa,aa⟩
        have hlb:=zef hx hcl (c:=c) aa
        obtain ⟨pv,hpv⟩:∃pv,zjS x cv c=pv:=⟨_,rfl⟩
        have hpe:pv= - zbQ x cv c:=by rw [← hpv];rfl
        rw [Int.toNat_natCast,hpv] at hpf
        rw [hpv] at l2
        have hpb: -1000≤pv∧pv≤1000:=aa
        refine J0 ?_
        refine dP hcd ?_
        refine J0 ?_
        refine zEI [.fp (zdQ g x 0 0), .int cv, .int c] (.int pv) [2] hpf (.v _) (fun h₁ hS=> .cons (zpb (L:= .v (.slice none 0 0)) dJ) (.refl _ _ _ _)) ae ?_
        refine J1 hi0 ?_
        refine zEI [.fp (zdQ g x 0 0)] (.int tv) [2] hTs (.v _) (fun h₁ hS=> .cons (zpb (L:= .v (.slice none 0 0)) dJ) (.refl _ _ _ _)) ae ?_
        obtain ⟨kn,kps,kk⟩:=kd
        simp only at l2
        cases kk
        ·rw [Bool.not_false,Bool.true_or,Bool.true_and] at l2
         refine J0 ?_
         refine zEp (hrec3 (d3 - 1) aa (c+1) ⟨aa,l2⟩) ?_ ad
         simp [go_sem,zad]
        ·rw [Bool.not_true,Bool.false_or] at l2
         refine J1 hm3 ?_
         refine zEr (fun hne=> ?_) (fun hne=> ?_)
         ·have hz:¬(pv - nth x.h0 k+tv).tmod x.mod=0:=by simpa using hne
          rw [decide_eq_false hz,Bool.false_and] at l2
          rw [l2]
          exact K0
         ·have hz:(pv - nth x.h0 k+tv).tmod x.mod=0:=by simpa using hne
          rw [decide_eq_true hz,Bool.true_and] at l2
          refine J0 ?_
          refine zEp (hrec3 (d3 - 1) aa (c+1) ⟨aa,l2⟩) ?_ ad
          simp [go_sem,zad]
       ·obtain rfl:c=g.cells.toNat:=by omega
        rw [List.drop_eq_nil_of_le ad,List.all_nil,Bool.true_and] at l2
        refine J0 ?_
        refine zEp (hrec2 (d2 - 1) aa (k+1) ⟨aa,by rw [l2,hR3]⟩) ?_ ad
        simp [go_sem,zad]
      ·exact ⟨ad,by rw [j2];rfl⟩
      ·simp [go_sem,zad,hkp]
      ·simp
     ·obtain rfl:k=g.kinds.length:=by omega
      rw [List.drop_eq_nil_of_le ad,List.all_nil,Bool.true_and] at j2
      refine J0 ?_
      refine zEp (hrec (d - 1) aa (0+1) ⟨aa,by rw [j2,hR2]⟩) ?_ ad
      simp [go_sem,zad]
    ·exact ⟨ad,dd⟩
    ·simp [go_sem,zad]
    ·simp
   ·obtain ⟨R2,hR2⟩:∃R2,R2=((List.range 2).drop (1+1)).all (drpS g x):=⟨_,rfl⟩
    rw [← hR2] at i2
    have hTs:=hT 1 0 aa
    have htb:=ztx hx (s:=1) aa
    have hd0:∀k c,drp1 g x 1 k c=(!(nth g.kinds k).keep||decide ((zjS x (zal k 1) c - nth x.h1 k+zdw x 1).tmod x.mod=0)):=fun _ _=>rfl
    generalize zdw x 1=tv at hTs htb hd0
    refine J0 ?_
    refine zEp (zEs (α:=Nat) (fun k=>⟨[(2, .ref 0 0 9 0 0),(3, .ref 1 0 6 0 0),(5, .int 1),(6, .ref 2 0 18 0 0),(11, .int 1),(19, .lst 3 (g.kinds.map zaV)),(20, .int g.kinds.length),(21, .int k)],
     [(0, .rows true 0 9 [zac g]),(1, .rows true 0 6 [zaH x]),(2, .rows true 0 18 [zac g++(zaH x++ [.int 1, .int 0, .v (.slice none 0 0)])])],3⟩)
     (fun d2 k=>k+d2=g.kinds.length∧B=(((List.range g.kinds.length).drop k).all (drpK g x 1) && R2)) ?_ g.kinds.length 0 ?_) ?_ ?_
    ·rintro d2 k ⟨j1,j2⟩ hrec2
     refine J0 ?_
     refine zEr (fun hk=> ?_) (fun hk=> ?_)<;>simp at hk
     ·rw [zbd hk,Bool.and_assoc] at j2
      obtain ⟨R3,hR3⟩:∃R3,R3=(((List.range g.kinds.length).drop (k+1)).all (drpK g x 1) && R2):=⟨_,rfl⟩
      rw [← hR3] at j2
      have hcd:=hC (k:Int) 1
      have hcl:=zdC (K:=g.kinds.length) (k:=(k:Int)) (s:=1) ⟨aa,aa⟩ aa
      have hd1:=hd0 k
      obtain ⟨cv,hcv⟩:∃cv,zal (k:Int) 1=cv:=⟨_,rfl⟩
      rw [hcv] at hcd hcl
      simp only [hcv] at hd1
      have hi0:k<x.h1.length:=by have:=hx.hl0;have:=hx.hl1;omega
      have hv:=zgj hx.hv1 hi0
      generalize hkp:nth g.kinds k=kd at hd1
      refine J2 hk hkp ?_
      refine zEp (zEs (α:=Nat) (fun c=>⟨[(2, .ref 0 0 9 0 0),(3, .ref 1 0 6 0 0),(5, .int 1),(6, .ref 2 0 18 0 0),(7, .int k),(8, .ref 3 0 3 0 0),(11, .int 1),(19, .lst 3 (g.kinds.map zaV)),(20, .int g.kinds.length),(21, .int k),(28, .int g.cells),(29, .int c)],
       [(0, .rows true 0 9 [zac g]),(1, .rows true 0 6 [zaH x]),(2, .rows true 0 18 [zac g++(zaH x++ [.int 1, .int 0, .v (.slice none 0 0)])]),(3, .rows true 0 3 [zaV kd])],4⟩)
       (fun d3 c=>c+d3=g.cells.toNat∧B=(((List.range g.cells.toNat).drop c).all (drp1 g x 1 k) && R3)) ?_ g.cells.toNat 0 ?_) ?_ ?_
      ·rintro d3 c ⟨l1,l2⟩ hrec3
       have hc1:=hg.c1
       have hc9:=hg.c9
       refine J0 ?_
       refine zEr (fun hc=> ?_) (fun hc=> ?_)<;>simp at hc
       ·rw [zbd aa,Bool.and_assoc,hd1] at l2
        have hpf:=hP 1 0 cv (c:Int) hcl ⟨aa,aa⟩
        have hlb:=zef hx hcl (c:=c) aa
        obtain ⟨pv,hpv⟩:∃pv,zjS x cv c=pv:=⟨_,rfl⟩
        have hpe:pv= - zbQ x cv c:=by rw [← hpv];rfl
        rw [Int.toNat_natCast,hpv] at hpf
        rw [hpv] at l2
        have hpb: -1000≤pv∧pv≤1000:=aa
        refine J0 ?_
        refine dP hcd ?_
        refine J0 ?_
        refine zEI [.fp (zdQ g x 1 0), .int cv, .int c] (.int pv) [2] hpf (.v _) (fun h₁ hS=> .cons (zpb (L:= .v (.slice none 0 0)) dJ) (.refl _ _ _ _)) ae ?_
        refine J1 hi0 ?_
        refine zEI [.fp (zdQ g x 1 0)] (.int tv) [2] hTs (.v _) (fun h₁ hS=> .cons (zpb (L:= .v (.slice none 0 0)) dJ) (.refl _ _ _ _)) ae ?_
        obtain ⟨kn,kps,kk⟩:=kd
        simp only at l2
        cases kk
        ·rw [Bool.not_false,Bool.true_or,Bool.true_and] at l2
         refine J0 ?_
         refine zEp (hrec3 (d3 - 1) aa (c+1) ⟨aa,l2⟩) ?_ ad
         simp [go_sem,zad]
        ·rw [Bool.not_true,Bool.false_or] at l2
         refine J1 hm3 ?_
         refine zEr (fun hne=> ?_) (fun hne=> ?_)
         ·have hz:¬(pv - nth x.h1 k+tv).tmod x.mod=0:=by simpa using hne
          rw [decide_eq_false hz,Bool.false_and] at l2
          rw [l2]
          exact K0
         ·have hz:(pv - nth x.h1 k+tv).tmod x.mod=0:=by simpa using hne
          rw [decide_eq_true hz,Bool.true_and] at l2
          refine J0 ?_
          refine zEp (hrec3 (d3 - 1) aa (c+1) ⟨aa,l2⟩) ?_ ad
          simp [go_sem,zad]
       ·obtain rfl:c=g.cells.toNat:=by omega
        rw [List.drop_eq_nil_of_le ad,List.all_nil,Bool.true_and] at l2
        refine J0 ?_
        refine zEp (hrec2 (d2 - 1) aa (k+1) ⟨aa,by rw [l2,hR3]⟩) ?_ ad
        simp [go_sem,zad]
      ·exact ⟨ad,by rw [j2];rfl⟩
      ·simp [go_sem,zad,hkp]
      ·simp
     ·obtain rfl:k=g.kinds.length:=by omega
      rw [List.drop_eq_nil_of_le ad,List.all_nil,Bool.true_and] at j2
      refine J0 ?_
      refine zEp (hrec (d - 1) aa (1+1) ⟨aa,by rw [j2,hR2]⟩) ?_ ad
      simp [go_sem,zad]
    ·exact ⟨ad,dd⟩
    ·simp [go_sem,zad]
    ·simp
  ·obtain rfl:s=2:=by omega
   have:B=true:=i2
   rw [this]
   exact K0
 ·exact ⟨rfl,hB2⟩
 ·simp [go_sem,zad]
 ·simp
def kpC (g:zab) (x:zbh) (s k c:Nat):Bool:=(zbH g.board s (nth g.kinds k).progs c).all (zka g x s k c)
def kpK (g:zab) (x:zbh) (s k:Nat):Bool:=(List.range g.cells.toNat).all (kpC g x s k)
def kpS (g:zab) (x:zbh) (s:Nat):Bool:=(List.range g.kinds.length).all (kpK g x s)
theorem zqM (g:zab) (hg:GOk g) (hos:zcx g) (x:zbh) (hx:zkE g x):zaD Tryz.prog 32 [.agg (zac g), .agg (zbO (zcy g)), .agg (zaH x)] (.v (.bool (zca g x))):=by
 have hco:=zp3 hg hos
 have hC:=za5
 have hD:=zvB g hg x hx
 obtain ⟨B,hB⟩:∃B,B=zca g x:=⟨_,rfl⟩
 obtain ⟨DR,hDR⟩:∃DR,DR=zt4 g x:=⟨_,rfl⟩
 have hB2:B=(((List.range 2).drop 0).all (kpS g x) && DR):=by rw [hB,hDR];rfl
 rw [← hB]
 rw [← hDR] at hD
 clear hB hDR
 have hnc:∀s:Nat,s=0∨s=1→∀k c,k<g.kinds.length→c<g.cells.toNat→nth (nth (zbM g s) k) c=zbH g.board s (nth g.kinds k).progs c:=fun s hs k c hk hc=>zro g s hk hc
 have hcp:zcy g=(zbM g 0,zbM g 1):=rfl
 rw [hcp] at hco ⊢
 obtain ⟨S0,hS0⟩:∃S0,S0=zbM g 0:=⟨_,rfl⟩
 obtain ⟨S1,hS1⟩:∃S1,S1=zbM g 1:=⟨_,rfl⟩
 rw [← hS0,← hS1] at hco ⊢
 have hn0:=hnc 0 (.inl rfl)
 have hn1:=hnc 1 (.inr rfl)
 simp only [Int.natCast_zero,Int.natCast_one,Int.cast_ofNat_Int] at hn0 hn1
 rw [← hS0] at hn0
 rw [← hS1] at hn1
 clear hS0 hS1 hnc hcp
 obtain ⟨c0,c1,k0,k1,p0,p1⟩:=hco
 simp only at c0 c1 k0 k1 p0 p1
 have hK:=hg.k6
 have hgc1:=hg.c1
 have hgc9:=hg.c9
 have hr0:=hg.r0
 have hr4:=hg.r4
 refine pF Tryz.func32 ?_
 refine J0 ?_
 refine zEp (zEs (α:=Nat) (fun s=>⟨[(3, .ref 0 0 9 0 0),(5, .ref 2 0 6 0 0),(17, .agg [zaI S0,zaI S1]),(18, .int s)], [(0, .rows true 0 9 [zac g]),(2, .rows true 0 6 [zaH x])],3⟩)
  (fun d s=>s+d=2∧B=(((List.range 2).drop s).all (kpS g x) && DR)) ?_ 2 0 ?_) ?_ ?_
 ·rintro d s ⟨i1,i2⟩ hrec
  refine J0 ?_
  refine zEr (fun hs=> ?_) (fun hs=> ?_)<;>simp at hs
  ·rw [zbd aa,Bool.and_assoc] at i2
   rcases (show s=0∨s=1 by omega) with rfl|rfl
   ·obtain ⟨R2,hR2⟩:∃R2,R2=(((List.range 2).drop (0+1)).all (kpS g x) && DR):=⟨_,rfl⟩
    rw [← hR2] at i2
    refine J0 ?_
    refine zEp (zEs (α:=Nat) (fun k=>⟨[(3, .ref 0 0 9 0 0),(5, .ref 2 0 6 0 0),(7, .int 0),(17, .agg [zaI S0,zaI S1]),(18, .int 0),(22,zaI S0),(23, .int S0.length),(24, .int k)],
     [(0, .rows true 0 9 [zac g]),(2, .rows true 0 6 [zaH x])],3⟩)
     (fun d2 k=>k+d2=g.kinds.length∧B=(((List.range g.kinds.length).drop k).all (kpK g x 0) && R2)) ?_ g.kinds.length 0 ?_) ?_ ?_
    ·rintro d2 k ⟨j1,j2⟩ hrec2
     refine J1 c0 ?_
     refine zEr (fun hk=> ?_) (fun hk=> ?_)<;>simp at hk
     ·rw [zbd hk,Bool.and_assoc] at j2
      obtain ⟨R3,hR3⟩:∃R3,R3=(((List.range g.kinds.length).drop (k+1)).all (kpK g x 0) && R2):=⟨_,rfl⟩
      rw [← hR3] at j2
      have hks:k<S0.length:=aa
      have hkl:=k0 _ (zag hks)
      have hkp:=p0 _ (zag hks)
      have hkn:=fun c hc=>hn0 k c hk hc
      generalize hCS:nth S0 k=CS at hkl hkp hkn
      refine J2 hks hCS ?_
      refine zEp (zEs (α:=Nat) (fun c=>⟨[(3, .ref 0 0 9 0 0),(5, .ref 2 0 6 0 0),(7, .int 0),(9, .int k),(17, .agg [zaI S0,zaI S1]),(18, .int 0),(22,zaI S0),(23, .int S0.length),(24, .int k),(29,zbv CS),(30, .int CS.length),(31, .int c)],
       [(0, .rows true 0 9 [zac g]),(2, .rows true 0 6 [zaH x])],3⟩)
       (fun d3 c=>c+d3=g.cells.toNat∧B=(((List.range g.cells.toNat).drop c).all (kpC g x 0 k) && R3)) ?_ g.cells.toNat 0 ?_) ?_ ?_
      ·rintro d3 c ⟨l1,l2⟩ hrec3
       refine J0 ?_
       refine zEr (fun hc=> ?_) (fun hc=> ?_)<;>simp at hc
       ·have hcc:c<g.cells.toNat:=by omega
        rw [zbd hcc,Bool.and_assoc] at l2
        obtain ⟨R4,hR4⟩:∃R4,R4=(((List.range g.cells.toNat).drop (c+1)).all (kpC g x 0 k) && R3):=⟨_,rfl⟩
        rw [← hR4] at l2
        have hpl:=hkp _ (zag hc)
        have hke:kpC g x 0 k c=(nth CS c).all (zka g x 0 k c):=by
         unfold kpC
         rw [hkn c hcc]
         rfl
        rw [hke] at l2
        generalize hPL:nth CS c=pl at hpl l2
        refine J2 hc hPL ?_
        refine zEp (zEs (α:=Nat) (fun p=>⟨[(3, .ref 0 0 9 0 0),(5, .ref 2 0 6 0 0),(7, .int 0),(9, .int k),(11, .int c),(17, .agg [zaI S0,zaI S1]),(18, .int 0),(22,zaI S0),(23, .int S0.length),(24, .int k),(29,zbv CS),(30, .int CS.length),(31, .int c),(36,zc5 pl),(37, .int pl.length),(38, .int p)],
         [(0, .rows true 0 9 [zac g]),(2, .rows true 0 6 [zaH x])],3⟩)
         (fun d4 p=>p+d4=pl.length∧B=((pl.drop p).all (zka g x 0 k c) && R4)) ?_ pl.length 0 ?_) ?_ ?_
        ·rintro d4 p ⟨m1,m2⟩ hrec4
         refine J0 ?_
         refine zEr (fun hp=> ?_) (fun hp=> ?_)<;>simp at hp
         ·obtain ⟨w,hw⟩:∃w,nth pl p=w:=⟨_,rfl⟩
          obtain ⟨⟨w1,w2⟩,w3,w4⟩:=hpl.2 w (by rw [← hw];exact zag hp)
          have hpll:=hpl.1
          rw [zas hp,hw,List.all_cons,Bool.and_assoc] at m2
          have hcd:=hC (k:Int) 0
          have hcl:=zdC (K:=g.kinds.length) (k:=(k:Int)) (s:=0) ⟨aa,aa⟩ aa
          have hkw:zka g x 0 k c w=ze0 g x 0 w.to.toNat (zal k 0) (List.replicate g.rights.toNat 0) (zbQ x (zal k 0) c+zdw x 0) w.acts:=rfl
          generalize zal (k:Int) 0=cv at hcd hcl hkw
          refine J2 hp hw ?_
          refine dP hcd ?_
          refine J0 ?_
          obtain ⟨kb,hkb⟩:∃kb,zka g x 0 k c w=kb:=⟨_,rfl⟩
          rw [hkb] at hkw m2
          refine znL g hg x hx 0 cv c aa hcl ⟨aa,aa⟩ (List.replicate g.rights.toNat 0) ak w ⟨w1,w2⟩ w3 w4 (o:=14) (l:=12) am aa aa bB bB ?_
          rw [Int.toNat_natCast,← hkw]
          cases kb
          ·have:B=false:=m2
           rw [this]
           exact K0
          ·rw [Bool.true_and] at m2
           refine J0 ?_
           refine zEp (hrec4 (d4 - 1) aa (p+1) ⟨aa,m2⟩) ?_ ad
           simp [go_sem,zad]
         ·rw [List.drop_eq_nil_of_le hp,List.all_nil,Bool.true_and] at m2
          refine J0 ?_
          refine zEp (hrec3 (d3 - 1) aa (c+1) ⟨aa,by rw [m2,hR4]⟩) ?_ ad
          simp [go_sem,zad]
        ·exact ⟨ad,by rw [l2];rfl⟩
        ·simp [go_sem,zad,hPL]
        ·simp
       ·obtain rfl:c=g.cells.toNat:=by omega
        rw [List.drop_eq_nil_of_le ad,List.all_nil,Bool.true_and] at l2
        refine J0 ?_
        refine zEp (hrec2 (d2 - 1) aa (k+1) ⟨aa,by rw [l2,hR3]⟩) ?_ ad
        simp [go_sem,zad]
      ·exact ⟨ad,by rw [j2];rfl⟩
      ·simp [go_sem,zad,hCS,c0,c1]
      ·simp
     ·obtain rfl:k=g.kinds.length:=by omega
      rw [List.drop_eq_nil_of_le ad,List.all_nil,Bool.true_and] at j2
      refine J0 ?_
      refine zEp (hrec (d - 1) aa (0+1) ⟨aa,by rw [j2,hR2]⟩) ?_ ad
      simp [go_sem,zad]
    ·exact ⟨ad,dd⟩
    ·simp [go_sem,zad]
    ·simp
   ·obtain ⟨R2,hR2⟩:∃R2,R2=(((List.range 2).drop (1+1)).all (kpS g x) && DR):=⟨_,rfl⟩
    rw [← hR2] at i2
    refine J0 ?_
    refine zEp (zEs (α:=Nat) (fun k=>⟨[(3, .ref 0 0 9 0 0),(5, .ref 2 0 6 0 0),(7, .int 1),(17, .agg [zaI S0,zaI S1]),(18, .int 1),(22,zaI S1),(23, .int S1.length),(24, .int k)],
     [(0, .rows true 0 9 [zac g]),(2, .rows true 0 6 [zaH x])],3⟩)
     (fun d2 k=>k+d2=g.kinds.length∧B=(((List.range g.kinds.length).drop k).all (kpK g x 1) && R2)) ?_ g.kinds.length 0 ?_) ?_ ?_
    ·rintro d2 k ⟨j1,j2⟩ hrec2
     refine J1 c1 ?_
     refine zEr (fun hk=> ?_) (fun hk=> ?_)<;>simp at hk
     ·rw [zbd hk,Bool.and_assoc] at j2
      obtain ⟨R3,hR3⟩:∃R3,R3=(((List.range g.kinds.length).drop (k+1)).all (kpK g x 1) && R2):=⟨_,rfl⟩
      rw [← hR3] at j2
      have hks:k<S1.length:=aa
      have hkl:=k1 _ (zag hks)
      have hkp:=p1 _ (zag hks)
      have hkn:=fun c hc=>hn1 k c hk hc
      generalize hCS:nth S1 k=CS at hkl hkp hkn
      refine J2 hks hCS ?_
      refine zEp (zEs (α:=Nat) (fun c=>⟨[(3, .ref 0 0 9 0 0),(5, .ref 2 0 6 0 0),(7, .int 1),(9, .int k),(17, .agg [zaI S0,zaI S1]),(18, .int 1),(22,zaI S1),(23, .int S1.length),(24, .int k),(29,zbv CS),(30, .int CS.length),(31, .int c)],
       [(0, .rows true 0 9 [zac g]),(2, .rows true 0 6 [zaH x])],3⟩)
       (fun d3 c=>c+d3=g.cells.toNat∧B=(((List.range g.cells.toNat).drop c).all (kpC g x 1 k) && R3)) ?_ g.cells.toNat 0 ?_) ?_ ?_
      ·rintro d3 c ⟨l1,l2⟩ hrec3
       refine J0 ?_
       refine zEr (fun hc=> ?_) (fun hc=> ?_)<;>simp at hc
       ·have hcc:c<g.cells.toNat:=by omega
        rw [zbd hcc,Bool.and_assoc] at l2
        obtain ⟨R4,hR4⟩:∃R4,R4=(((List.range g.cells.toNat).drop (c+1)).all (kpC g x 1 k) && R3):=⟨_,rfl⟩
        rw [← hR4] at l2
        have hpl:=hkp _ (zag hc)
        have hke:kpC g x 1 k c=(nth CS c).all (zka g x 1 k c):=by
         unfold kpC
         rw [hkn c hcc]
         rfl
        rw [hke] at l2
        generalize hPL:nth CS c=pl at hpl l2
        refine J2 hc hPL ?_
        refine zEp (zEs (α:=Nat) (fun p=>⟨[(3, .ref 0 0 9 0 0),(5, .ref 2 0 6 0 0),(7, .int 1),(9, .int k),(11, .int c),(17, .agg [zaI S0,zaI S1]),(18, .int 1),(22,zaI S1),(23, .int S1.length),(24, .int k),(29,zbv CS),(30, .int CS.length),(31, .int c),(36,zc5 pl),(37, .int pl.length),(38, .int p)],
         [(0, .rows true 0 9 [zac g]),(2, .rows true 0 6 [zaH x])],3⟩)
         (fun d4 p=>p+d4=pl.length∧B=((pl.drop p).all (zka g x 1 k c) && R4)) ?_ pl.length 0 ?_) ?_ ?_
        ·rintro d4 p ⟨m1,m2⟩ hrec4
         refine J0 ?_
         refine zEr (fun hp=> ?_) (fun hp=> ?_)<;>simp at hp
         ·obtain ⟨w,hw⟩:∃w,nth pl p=w:=⟨_,rfl⟩
          obtain ⟨⟨w1,w2⟩,w3,w4⟩:=hpl.2 w (by rw [← hw];exact zag hp)
          have hpll:=hpl.1
          rw [zas hp,hw,List.all_cons,Bool.and_assoc] at m2
          have hcd:=hC (k:Int) 1
          have hcl:=zdC (K:=g.kinds.length) (k:=(k:Int)) (s:=1) ⟨aa,aa⟩ aa
          have hkw:zka g x 1 k c w=ze0 g x 1 w.to.toNat (zal k 1) (List.replicate g.rights.toNat 0) (zbQ x (zal k 1) c+zdw x 1) w.acts:=rfl
          generalize zal (k:Int) 1=cv at hcd hcl hkw
          refine J2 hp hw ?_
          refine dP hcd ?_
          refine J0 ?_
          obtain ⟨kb,hkb⟩:∃kb,zka g x 1 k c w=kb:=⟨_,rfl⟩
          rw [hkb] at hkw m2
          refine znL g hg x hx 1 cv c aa hcl ⟨aa,aa⟩ (List.replicate g.rights.toNat 0) ak w ⟨w1,w2⟩ w3 w4 (o:=14) (l:=12) am aa aa bB bB ?_
          rw [Int.toNat_natCast,← hkw]
          cases kb
          ·have:B=false:=m2
           rw [this]
           exact K0
          ·rw [Bool.true_and] at m2
           refine J0 ?_
           refine zEp (hrec4 (d4 - 1) aa (p+1) ⟨aa,m2⟩) ?_ ad
           simp [go_sem,zad]
         ·rw [List.drop_eq_nil_of_le hp,List.all_nil,Bool.true_and] at m2
          refine J0 ?_
          refine zEp (hrec3 (d3 - 1) aa (c+1) ⟨aa,by rw [m2,hR4]⟩) ?_ ad
          simp [go_sem,zad]
        ·exact ⟨ad,by rw [l2];rfl⟩
        ·simp [go_sem,zad,hPL]
        ·simp
       ·obtain rfl:c=g.cells.toNat:=by omega
        rw [List.drop_eq_nil_of_le ad,List.all_nil,Bool.true_and] at l2
        refine J0 ?_
        refine zEp (hrec2 (d2 - 1) aa (k+1) ⟨aa,by rw [l2,hR3]⟩) ?_ ad
        simp [go_sem,zad]
      ·exact ⟨ad,by rw [j2];rfl⟩
      ·simp [go_sem,zad,hCS,c0,c1]
      ·simp
     ·obtain rfl:k=g.kinds.length:=by omega
      rw [List.drop_eq_nil_of_le ad,List.all_nil,Bool.true_and] at j2
      refine J0 ?_
      refine zEp (hrec (d - 1) aa (1+1) ⟨aa,by rw [j2,hR2]⟩) ?_ ad
      simp [go_sem,zad]
    ·exact ⟨ad,dd⟩
    ·simp [go_sem,zad]
    ·simp
  ·obtain rfl:s=2:=by omega
   have:B=DR:=i2
   rw [this]
   refine J0 ?_
   refine zEJ hD (.v _) ?_ ae ?_
   ·simp [go_sem]
   ·exact K0
 ·exact ⟨rfl,hB2⟩
 ·simp [go_sem,zad]
 ·simp
theorem zq8 (x:zbh) (n:Int):zaD Tryz.prog 78 [.int n, .fp (zaH x)] (.v (.bool (decide (n<0)||decide (x.mod≤n)))):=by
 refine pF Tryz.func78 ?_
 exact K0
theorem zC9 {x:zbh}{l:List Int} (h:∀e ∈ l,0≤e∧e<x.mod):l.any (fun n=>decide (n<0)||decide (x.mod≤n))=false:=by
 refine List.any_eq_false.2 fun e he=> ?_
 have:=h e he
 simp
 omega
theorem ztl (x:zbh) (l:List Int) (n:Int) (hn:(l.length:Int)=n) (h:∀e ∈ l,0≤e∧e<x.mod) (hl:l.length≤1048576):
  zaD Tryz.prog 79 [zai l, .int n, .fp [.fn (.func 78) [] [.fp (zaH x)]]] (.v (.bool true)):=by
 have hcf:=zeO l (by unfold zfR;omega) 78 [] [.fp (zaH x)] _ (fun n _=>zq8 x n) ad ae
 rw [zC9 h] at hcf
 subst hn
 refine pF Tryz.func79 ?_
 refine J0 ?_
 refine Cx0 (hcf) ?_
 exact K0
theorem zCw {h:zaq}{n o:Nat}{mt:Bool}{x:zbh} (ho:h o=some (.rows mt 0 6 [zaH x])):LeV h noH n (.ref o 0 6 0 0) (.fp (zaH x)):=
 .frzP ho ad ad (fun g sz rs e=>by cases e) (.refl _ _ _ _)
theorem zpg {h:zaq}{n o q:Nat}{mt mt':Bool}{x:zbh}{f:FuncId} (ho:h o=some (.rows mt 0 1 [[.fn (.func f) [] [.ref q 0 6 0 0]]])) (hq:h q=some (.rows mt' 0 6 [zaH x])):
  LeV h noH n (.ref o 0 1 0 0) (.fp [.fn (.func f) [] [.fp (zaH x)]]):=
 .frzP ho ad ad (fun g sz rs e=>by cases e) (.cons (.fn .nil (.cons (zCw hq) .nil)) .nil)
theorem zsS (g:zab) (hg:GOk g) (x:zbh) (hx:zkE g x):zaD Tryz.prog 37 [.agg (zac g), .agg (zaH x)] (.v (.bool true)):=by
 obtain ⟨m2,m1,ml,s0,s1,row,mv,hl0,hv0,hl1,hv1,rl,rv⟩:=hx
 have hK:=hg.k6
 have hc9:=hg.c9
 have hr4:=hg.r4
 have ho:=zq8 x x.side
 rw [show (decide (x.side<0)||decide (x.mod≤x.side))=false by simp;omega] at ho
 have h2:=fun l n hn h hl=>ztl x l n hn h hl
 have e1:¬x.mod<2:=aa
 have e2:¬1000<x.mod:=aa
 have hr0:=h2 x.h0 g.kinds.length aa hv0 aa
 have hr1:=h2 x.h1 g.kinds.length aa hv1 aa
 have hr2:=h2 x.rights g.rights aa rv aa
 refine pF Tryz.func37 ?_
 refine J3 e1 e2 ml ?_
 refine zER [.int x.side, .fp (zaH x)] (.v (.bool false)) (fun _=>ho) (.v _) (.cons (.refl _) (.cons (zCw rfl) .nil)) ae ?_
 refine J0 ?_
 refine zEp (zEs (α:=Nat) (fun j=>⟨[(2, .ref 0 0 9 0 0),(3, .ref 1 0 6 0 0),(6, .fn (.func 79) [] [.ref 2 0 1 0 0]),(7, .int g.kinds.length),(39,zbe x.men),(40, .int x.men.length),(41, .int j)],
  [(0, .rows true 0 9 [zac g]),(1, .rows true 0 6 [zaH x]),(2, .rows true 0 1 [[.fn (.func 78) [] [.ref 1 0 6 0 0]]])],3⟩)
  (fun d j=>j+d=x.men.length) ?_ x.men.length 0 ?_) ?_ ?_
 ·rintro d j i1 hrec
  refine J0 ?_
  refine zEr (fun hj=> ?_) (fun hj=> ?_)<;>simp at hj
  ·have hrj:=h2 (nth x.men j) g.cells (row _ (zag hj)) (mv _ (zag hj)) (by have:=row _ (zag hj);omega)
   generalize hlj:nth x.men j=lj at hrj
   refine J2 hj hlj ?_
   refine zEJ hrj (.v _) (.cons (.refl _) (.cons (.refl _) (.cons (zpg rfl rfl) .nil))) ae ?_
   refine J0 ?_
   refine zEp (hrec (d - 1) aa (j+1) aa) ?_ ad
   simp [go_sem,zad]
  ·refine J0 ?_
   refine zEJ hr0 (.v _) (.cons (.refl _) (.cons (.refl _) (.cons (zpg rfl rfl) .nil))) ae ?_
   refine J0 ?_
   refine zER [zai x.h1, .int g.kinds.length, .fp [.fn (.func 78) [] [.fp (zaH x)]]] (.v (.bool true)) (fun _=>hr1) (.v _) (.cons (.refl _) (.cons (.refl _) (.cons (zpg rfl rfl) .nil))) ae ?_
   refine J0 ?_
   refine zER [zai x.rights, .int g.rights, .fp [.fn (.func 78) [] [.fp (zaH x)]]] (.v (.bool true)) (fun _=>hr2) (.v _) (.cons (.refl _) (.cons (.refl _) (.cons (zpg rfl rfl) .nil))) ae ?_
   exact K0
 ·simp
 ·simp [go_sem,zad,ml]
 ·simp
theorem zgs {f:Nat→Int}{B:Int}:∀ {n:Nat},(∀i,i<n→0≤f i∧f i≤B)→0≤zd6 f n∧zd6 f n≤B * n
 |0, _=>by simp [zd6]
 |n+1,e=>by
  have h1:=zgs (f:=f) (n:=n) fun i hi=>e i aa
  have h2:=e n aa
  rw [zd6,Int.natCast_add,Int.mul_add]
  simp only [Int.natCast_one,Int.mul_one]
  omega
theorem zun {a b A C:Int} (ha:0≤a∧a≤A) (hb:0≤b∧b≤C):0≤a * b∧a * b≤A * C:=
 ⟨Int.mul_nonneg ha.1 hb.1,Int.mul_le_mul ha.2 hb.2 hb.1 (Int.le_trans ha.1 ha.2)⟩
theorem zna (g:zab) (hg:GOk g) (x:zbh) (hx:zkE g x) (p:zaf) (hp:POk g p):zaD Tryz.prog 38 [.agg (zaH x), .agg (zae p)] (.int (zrA x p)):=by
 have hal:=hp.al
 have hl0:=hp.h0.len
 have hl1:=hp.h1.len
 have hx0:=hx.hl0
 have hx1:=hx.hl1
 have hxr:=hx.rl
 have hm1:=hx.m1
 have hm2:=hx.m2
 have hm3:¬x.mod=0:=aa
 have hml:=hx.ml
 have hs0:=hx.s0
 have hs1:=hx.s1
 have hc9:=hg.c9
 have hK:=hg.k6
 have hr4:=hg.r4
 have hps:0≤p.side∧p.side≤1:=by rcases hp.s with h|h<;>omega
 have h16:=zio hg hp
 have hsp:=zun (a:=x.side) (b:=p.side) (A:=1000) (C:=1) ⟨hs0,aa⟩ hps
 obtain ⟨z,hz⟩:∃z,x.side * p.side=z:=⟨_,rfl⟩
 rw [hz] at hsp
 obtain ⟨F1,hF1⟩:∃F1:Nat→Int,F1=fun c=>nth (nth x.men (nth p.at_ c).toNat) c:=⟨_,rfl⟩
 obtain ⟨F2,hF2'⟩:∃F2:Nat→Int,F2=fun k=>nth x.h0 k * nth p.h0 k:=⟨_,rfl⟩
 obtain ⟨F3,hF3'⟩:∃F3:Nat→Int,F3=fun k=>nth x.h1 k * nth p.h1 k:=⟨_,rfl⟩
 obtain ⟨F4,hF4⟩:∃F4:Nat→Int,F4=fun r=>nth x.rights r * zmF p.rights r:=⟨_,rfl⟩
 have hres:zrA x p=(z+zd6 F1 p.at_.length+(zd6 F2 p.h0.length+zd6 F3 p.h1.length)+zd6 F4 x.rights.length).tmod x.mod:=by
  unfold zrA zex atI hdI rtI
  rw [hz,hF1,hF2',hF3',hF4]
  rfl
 have hF1b:∀c,c<p.at_.length→0≤F1 c∧F1 c≤1000:=fun c hc=>by
  have hat:=hp.at (i:=c) aa
  have:=hx.wgt (n:=(nth p.at_ c).toNat) (c:=c) aa aa
  rw [hF1]
  simp only
  omega
 have hF2b:∀k,k<p.h0.length→0≤F2 k∧F2 k≤8000:=fun k hk=>by
  have h1:=zgj hx.hv0 (i:=k) aa
  have h2:=hp.h0.v k hk
  rw [hF2']
  exact zun (A:=1000) (C:=8) ⟨h1.1,aa⟩ ⟨h2.1,h2.2.1⟩
 have hF3b:∀k,k<p.h1.length→0≤F3 k∧F3 k≤8000:=fun k hk=>by
  have h1:=zgj hx.hv1 (i:=k) aa
  have h2:=hp.h1.v k hk
  rw [hF3']
  exact zun (A:=1000) (C:=8) ⟨h1.1,aa⟩ ⟨h2.1,h2.2.1⟩
 have hF4b:∀r,r<x.rights.length→0≤F4 r∧F4 r≤1000:=fun r hr=>by
  have h1:=zgj hx.rv hr
  have h2:=(ziL hp.r0 h16 (n:=0) (r:=r) aa aa).2
  rw [hF4]
  exact zun (A:=1000) (C:=1) ⟨h1.1,aa⟩ aa
 have hs1':=zgs (f:=F1) (B:=1000) hF1b
 have hs2':=zgs (f:=F2) (B:=8000) hF2b
 have hs3':=zgs (f:=F3) (B:=8000) hF3b
 obtain ⟨V,hV⟩:∃V,V=zrA x p:=⟨_,rfl⟩
 rw [← hV] at hres ⊢
 clear hV
 refine pF Tryz.func38 ?_
 refine J1 hz ?_
 refine zEp (zEs (α:=Nat) (fun c=>⟨[(2, .ref 0 0 6 0 0),(3, .ref 1 0 5 0 0),(5, .int (z+zd6 F1 c)),(20,zai p.at_),(21, .int p.at_.length),(22, .int c)],
  [(0, .rows true 0 6 [zaH x]),(1, .rows true 0 5 [zae p])],2⟩)
  (fun d c=>c+d=p.at_.length) ?_ p.at_.length 0 ?_) ?_ ?_
 rotate_left
 ·simp
 ·simp [go_sem,zad,zd6]
 ·simp
 rintro d c i1 hrec
 refine J0 ?_
 refine zEr (fun hc=> ?_) (fun hc=> ?_)<;>simp at hc
 ·have hat:=hp.at (i:=c) aa
  have hw:=hx.wgt (n:=(nth p.at_ c).toNat) (c:=c) aa aa
  have hsu:zd6 F1 (c+1)=zd6 F1 c+nth (nth x.men (nth p.at_ c).toNat) c:=by rw [hF1];rfl
  have hbs:=zgs (f:=F1) (B:=1000) (n:=c) fun i hi=>hF1b i aa
  have hnm:(nth p.at_ c).toNat<x.men.length:=aa
  refine J3 hc hnm hw.1 ?_
  refine zEp (hrec (d - 1) aa (c+1) aa) ?_ ad
  simp [go_sem,zad,hsu,Int.add_assoc]
 obtain rfl:c=p.at_.length:=aa
 clear hrec
 have hz1:0≤z+zd6 F1 p.at_.length∧z+zd6 F1 p.at_.length≤10000:=aa
 generalize z+zd6 F1 p.at_.length=z1 at *
 refine J0 ?_
 refine zEq ?_
 refine J0 ?_
 refine zEp (zEs (α:=Nat) (fun k=>⟨[(2, .ref 0 0 6 0 0),(3, .ref 1 0 5 0 0),(5, .int (z1+zd6 F2 k)),(8, .int 0),(39, .agg [zai p.h0,zai p.h1]),(40, .int 0),(44,zai p.h0),(45, .int p.h0.length),(46, .int k)],
  [(0, .rows true 0 6 [zaH x]),(1, .rows true 0 5 [zae p])],2⟩)
  (fun d k=>k+d=p.h0.length) ?_ p.h0.length 0 ?_) ?_ ?_
 rotate_left
 ·simp
 ·simp [go_sem,zad,zd6]
 ·simp
 rintro d k i1 hrec
 refine J0 ?_
 refine zEr (fun hk=> ?_) (fun hk=> ?_)<;>simp at hk
 ·have hkx:k<x.h0.length:=by omega
  have hsu:zd6 F2 (k+1)=zd6 F2 k+nth x.h0 k * nth p.h0 k:=by rw [hF2'];rfl
  have hbk:=hF2b k hk
  have hbs:=zgs (f:=F2) (B:=8000) (n:=k) fun i hi=>hF2b i aa
  rw [hF2'] at hbk
  simp only at hbk
  refine J2 hk hkx ?_
  refine zEp (hrec (d - 1) aa (k+1) aa) ?_ ad
  simp [go_sem,zad,hsu,Int.add_assoc]
 obtain rfl:k=p.h0.length:=aa
 clear hrec

 have hz2:0≤z1+zd6 F2 p.h0.length∧z1+zd6 F2 p.h0.length≤100000:=aa
 rw [← Int.add_assoc z1] at hres
 generalize z1+zd6 F2 p.h0.length=z2 at *
 refine J0 ?_
 refine zEq ?_
 refine J0 ?_
 refine zEp (zEs (α:=Nat) (fun k=>⟨[(2, .ref 0 0 6 0 0),(3, .ref 1 0 5 0 0),(5, .int (z2+zd6 F3 k)),(8, .int 1),(39, .agg [zai p.h0,zai p.h1]),(40, .int 1),(44,zai p.h1),(45, .int p.h1.length),(46, .int k)],
  [(0, .rows true 0 6 [zaH x]),(1, .rows true 0 5 [zae p])],2⟩)
  (fun d k=>k+d=p.h1.length) ?_ p.h1.length 0 ?_) ?_ ?_
 rotate_left
 ·simp
 ·simp [go_sem,zad,zd6]
 ·simp
 rintro d k i1 hrec
 refine J0 ?_
 refine zEr (fun hk=> ?_) (fun hk=> ?_)<;>simp at hk
 ·have hkx:k<x.h1.length:=by omega
  have hsu:zd6 F3 (k+1)=zd6 F3 k+nth x.h1 k * nth p.h1 k:=by rw [hF3'];rfl
  have hbk:=hF3b k hk
  have hbs:=zgs (f:=F3) (B:=8000) (n:=k) fun i hi=>hF3b i aa
  rw [hF3'] at hbk
  simp only at hbk
  refine J2 hk hkx ?_
  refine zEp (hrec (d - 1) aa (k+1) aa) ?_ ad
  simp [go_sem,zad,hsu,Int.add_assoc]
 obtain rfl:k=p.h1.length:=aa
 clear hrec

 have hz3:0≤z2+zd6 F3 p.h1.length∧z2+zd6 F3 p.h1.length≤1000000:=aa
 generalize z2+zd6 F3 p.h1.length=z3 at *
 refine J0 ?_
 refine zEq ?_
 refine J0 ?_
 refine zEp (zEs (α:=Nat) (fun r=>⟨[(2, .ref 0 0 6 0 0),(3, .ref 1 0 5 0 0),(5, .int (z3+zd6 F4 r)),(65,zai x.rights),(66, .int x.rights.length),(67, .int r)],
  [(0, .rows true 0 6 [zaH x]),(1, .rows true 0 5 [zae p])],2⟩)
  (fun d r=>r+d=x.rights.length) ?_ x.rights.length 0 ?_) ?_ ?_
 rotate_left
 ·simp
 ·simp [go_sem,zad,zd6]
 ·simp
 rintro d r i1 hrec
 refine J0 ?_
 refine zEr (fun hr=> ?_) (fun hr=> ?_)<;>simp at hr
 ·have hsu:zd6 F4 (r+1)=zd6 F4 r+nth x.rights r * zmF p.rights r:=by rw [hF4];rfl
  have hbs:=zgs (f:=F4) (B:=1000) (n:=r) fun i hi=>hF4b i aa
  have hbk:=hF4b r hr
  rw [hF4] at hbk
  simp only at hbk
  have hbe:ziI .i64 (p.rights.fdiv (2 ^ r)) 1=zmF p.rights r:=rfl
  refine J2 hr hbe ?_
  refine zEp (hrec (d - 1) aa (r+1) aa) ?_ ad
  simp [go_sem,zad,hsu,Int.add_assoc]
 obtain rfl:r=x.rights.length:=aa
 clear hrec
 rw [hres]
 generalize z3+zd6 F4 x.rights.length=z4 at *
 exact K1 hm3
theorem zgL {m:Int}{l:List Int}{n:Nat} (h1:l.length=n) (h2:∀e ∈ l,0≤e∧e<m):zqU m l n=true:=by
 unfold zqU
 rw [Bool.and_eq_true,decide_eq_true_eq]
 exact ⟨h1,List.all_eq_true.2 fun e he=>decide_eq_true (h2 e he)⟩
theorem ztA {g:zab} (hg:GOk g){x:zbh} (hx:zkE g x):ziA g x=true:=by
 obtain ⟨m2,m1,ml,s0,s1,row,mv,hl0,hv0,hl1,hv1,rl,rv⟩:=hx
 have:=hg.c1
 have:=hg.r0
 unfold ziA
 simp only [Bool.and_eq_true,decide_eq_true_eq]
 refine ⟨⟨⟨⟨⟨⟨⟨m2,m1⟩,ml⟩,s0,s1⟩,List.all_eq_true.2 fun l hl=>zgL ?_ (mv l hl)⟩,zgL hl0 hv0⟩,zgL hl1 hv1⟩,zgL ?_ rv⟩
 ·have:=row l hl
  omega
 ·omega
def zeE (l:List zbh):AV:= .lst 6 (l.map zaH)
attribute [go_sem] zeE
theorem ztV {n:Nat}{l:List zbh}:(∀r ∈ l.map zaH,∀c ∈ r,Bel n c)=True:=by
 refine eq_true ?_
 intro r hr c hc
 obtain ⟨x, _,rfl⟩:=List.mem_map.1 hr
 exact zdp x c hc
attribute [go_sem ↓] ztV
theorem zAM {n:Nat}{l:List zbh}:Bel n (.lst 6 (l.map zaH))=True:=by rw [zbt,ztV]
attribute [go_sem ↓] zAM
theorem zkU {n:Nat} (c:zkD):Bel n (.agg (zbO c)):=ae
instance:Inhabited zbh:=⟨⟨0, [], [], [], [],0⟩⟩
theorem zr9 (g:zab) (hg:GOk g) (hos:zcx g) (s goal:zaf) (hs:POk g s) (hgl:POk g goal) (l:List zbh) (hl:∀x ∈ l,zkE g x) (hll:l.length≤1048576):
  zaD Tryz.prog 14 [.agg (zac g), .agg (zae s), .agg (zae goal),zeE l] (.tup [.int (zfC g s goal 0 l).1, .int (zfC g s goal 0 l).2]):=by
 have hCo:=zfS g hg
 have hkp:=fun x hx=>zqM g hg hos x hx
 obtain ⟨ec,hec⟩:∃ec,ec=zbO (zcy g):=⟨_,rfl⟩
 have hecl:ec.length=2:=by rw [hec];rfl
 have hecb:∀n,(∀c ∈ ec,Bel n c)=True:=fun n=>eq_true (by
  have:=zkU (n:=n) (zcy g)
  rw [← hec] at this
  cases this
  assumption)
 simp only [← hec] at hCo hkp
 obtain ⟨R,hR⟩:∃R,R=zfC g s goal 0 l:=⟨_,rfl⟩
 rw [← hR]
 refine pF Tryz.func14 ?_
 refine J0 ?_
 refine aP hCo ?_
 refine J2 hecl hecb ?_
 refine zEp (zEs (α:=Nat) (fun i=>⟨[(4, .ref 0 0 9 0 0),(5, .ref 1 0 5 0 0),(6, .ref 2 0 5 0 0),(10, .ref 3 0 2 0 0),(15,zeE l),(16, .int l.length),(17, .int i)],
  [(0, .rows true 0 9 [zac g]),(1, .rows true 0 5 [zae s]),(2, .rows true 0 5 [zae goal]),(3, .rows true 0 2 [ec])],4⟩)
  (fun d i=>i+d=l.length∧R=zfC g s goal i (l.drop i)) ?_ l.length 0 ?_) ?_ ?_
 ·rintro d i ⟨i1,i2⟩ hrec
  refine J0 ?_
  refine zEr (fun hi=> ?_) (fun hi=> ?_)<;>simp at hi
  ·have hx:=hl _ (zag hi)
   rw [zas hi,zfC] at i2
   have hb:zme g s goal (nth l i)=(!decide (zrA (nth l i) s=zrA (nth l i) goal) && zca g (nth l i)):=by
    unfold zme
    rw [ztA hg hx,Bool.true_and]
   rw [hb] at i2
   have hV:=zsS g hg _ hx
   have hv1:=zna g hg _ hx s hs
   have hv2:=zna g hg _ hx goal hgl
   have hkx:=hkp _ hx
   clear hb
   generalize hxn:nth l i=x at *
   generalize zrA x s=a1 at *
   generalize zrA x goal=a2 at *
   generalize zca g x=kb at *
   refine J2 hi hxn ?_
   refine dP hV ?_
   refine J0 ?_
   refine zEx _ (fun _=>hv1) ae ?_
   refine J0 ?_
   refine zEx _ (fun _=>hv2) ae ?_
   by_cases he:a1=a2
   ·subst he
    rw [decide_eq_true rfl,Bool.not_true,Bool.false_and,if_neg ad] at i2
    refine J0 ?_
    refine dGC.skip (.v (.bool false)) ?_
    refine J0 ?_
    refine zEp (hrec (d - 1) aa (i+1) ⟨aa,i2⟩) ?_ ad
    simp [go_sem,zad,hecb]
   ·rw [decide_eq_false he,Bool.not_false,Bool.true_and] at i2
    refine J3 he hecl hecb ?_
    refine zEx _ (fun _=>hkx) (by simp [go_sem,hecb]) ?_
    cases kb
    ·rw [if_neg ad] at i2
     refine J1 he ?_
     refine zEp (hrec (d - 1) aa (i+1) ⟨aa,i2⟩) ?_ ad
     simp [go_sem,zad,hecb]
    ·rw [if_pos rfl] at i2
     rw [i2]
     exact K1 he
  ·rw [List.drop_eq_nil_of_le hi] at i2
   have i3:R=(0,270):=i2
   rw [i3]
   exact K0
 ·exact ⟨ad,hR⟩
 ·simp [go_sem,zad,hecb]
 ·simp
theorem and32 {n:Int} (h0:0≤n) (h1:n<4294967296):ziI .u64 n 4294967295=n:=by
 obtain ⟨m,rfl⟩:=Int.eq_ofNat_of_zero_le h0
 have hm:m<4294967296:=aa
 have e:(BitVec.ofInt IntKind.u64.bits (m:Int) &&& BitVec.ofInt IntKind.u64.bits 4294967295).toNat=m:=by
  rw [BitVec.toNat_and]
  have e1:(BitVec.ofInt IntKind.u64.bits (m:Int)).toNat=m:=by simp [BitVec.toNat_ofInt,IntKind.bits];omega
  have e2:(BitVec.ofInt IntKind.u64.bits 4294967295).toNat=2 ^ 32 - 1:=by rfl
  rw [e1,e2,Nat.and_two_pow_sub_one_eq_mod]
  exact Nat.mod_eq_of_lt hm
 unfold ziI
 rw [e]
 exact zd0 (by rw [zw7];omega)
theorem zyk {n:Int} (h0:0≤n) (h1:n<4294967296):n.fdiv 4294967296=0:=by rw [Int.fdiv_eq_ediv_of_nonneg _ aa];omega
theorem zuW (x y:Int) (x0:0≤x) (x1:x<4294967296) (y0:0≤y) (y1:y<4294967296) (h:x * y<4294967296):zaD Tryz.prog 157 [.v (.int .u64 x), .v (.int .u64 y)] (.tup [.v (.int .u64 0), .v (.int .u64 (x * y))]):=by
 refine pF Tryz.func157 ?_
 have m0:0≤x * y:=Int.mul_nonneg x0 y0
 generalize hz:x * y=z at *
 have a1:=and32 x0 x1
 have a2:=and32 y0 y1
 have a3:=zyk x0 x1
 have a4:=zyk y0 y1
 have a5:=zyk m0 h
 have a6:ziI .u64 0 4294967295=0:=by rfl
 exact K7 a1 a2 a3 a4 a5 a6 hz
theorem zAh (x y:Int) (x0:0≤x) (x1:x<4294967296) (y0:0≤y) (y1:y<4294967296) (h:x * y<4294967296):zaD Tryz.prog 108 [.v (.int .u64 x), .v (.int .u64 y)] (.tup [.v (.int .u64 0), .v (.int .u64 (x * y))]):=by
 refine pF Tryz.func108 ?_
 refine J0 ?_
 refine aP (zuW x y x0 x1 y0 y1 h) ?_
 generalize x * y=z at *
 exact K0
theorem zhc (x:Int) (n:Nat) (hn:n≤1048576):zhb Tryz.prog 63 [zai [x], .int n] (fun k=> .sl k 0 1 0 n) (fun k=> [(k, .rows true 0 1 ((List.replicate n x).map zaB))]) 1:=by
 refine ⟨aF Tryz.func63 ?_,fun n=>⟨ae,ae⟩⟩
 refine J0 ?_
 refine FxF ?_
 refine J0 ?_
 refine aP (zAh 1 n aa aa aa aa aa) ?_
 refine J0 ?_
 refine FxF ?_
 refine J0 ?_
 refine zEp (zEs (α:=Nat) (fun m=>⟨[(7, .sl 0 0 1 0 n),(8, .int m)], [(0, .rows true 0 1 (List.replicate m [.int x]++List.replicate (n - m) [.int 0]))],1⟩)
  (fun d m=>m+d=n∧(0<n→0<m)) ?_ (n - min 1 n) (min 1 n) ?_) ?_ ?_
 ·rintro d m ⟨i1,i2⟩ hrec
  refine J0 ?_
  refine zEr (fun hm=> ?_) (fun hm=> ?_)<;>simp at hm
  ·refine J0 ?_
   refine zEp (hrec (n - (m+min m (n - m))) (by have:=i2 aa;omega) (m+min m (n - m)) ⟨aa,by intros;have:=i2 aa;omega⟩) ?_ ad
   have e1:List.drop (m+min m (n - m)) (List.replicate m [AV.v (Value.int IntKind.i64 x)]++List.replicate (n - m) [AV.v (Value.int IntKind.i64 0)])=List.replicate (n - (m+min m (n - m))) [AV.v (Value.int IntKind.i64 0)]:=by
    rw [List.drop_append,List.drop_replicate,List.drop_replicate,List.length_replicate]
    rw [show m - (m+min m (n - m))=0 by omega,show n - m - (m+min m (n - m) - m)=n - (m+min m (n - m)) by omega];rfl
   simp [go_sem,zad,e1]
   (first|done|exact blX)
  ·obtain rfl:m=n:=by omega
   refine J0 ?_
   simp [go_sem,zad]
 ·exact ⟨aa,aa⟩
 ·have e1:List.take (min 1 n) [[AV.v (Value.int IntKind.i64 x)]]=List.replicate (min 1 n) [AV.v (Value.int IntKind.i64 x)]:=by
   rcases Nat.eq_zero_or_pos n with h|h
   ·subst h;rfl
   ·rw [show min 1 n=1 by omega];rfl
  simp [go_sem,zad,e1]
  (first|done|exact blX)
 ·simp
theorem zkN (x:Int) (n:Nat) (hn:n≤1048576):zaD Tryz.prog 63 [zai [x], .int n] (zai (List.replicate n x)):=
 (zhc x n hn).pure (zak rfl ad aV (by rw [List.drop_zero,List.take_of_length_le ad])) ae
theorem zEO {P:Program}{f:FuncId}{args args0:List AV}{R0 R:AV}{o n:Nat}{mt:Bool}{g g' sz:Nat}{rws rws':List (List AV)}{h:zaq}{K:zcn}
  (hp:zeC P f args0 [(0, .rows mt g sz rws)] 1 R0 [(0, .rows true g' sz rws')] 1) (ho:h o=some (.rows mt g sz rws)) (hn:o<n) (hcl:∀r ∈ rws,∀c ∈ r,Bel 0 c) (hcl':∀r ∈ rws',∀c ∈ r,Bel 0 c)
  (hargs:RnL (ren [o] n) args0 args) (hb0:∀c ∈ args0,Bel 1 c) (hb:∀c ∈ args,Bel n c)
  (hR:Rn (ren [o] n) R0 R) (hk:K R (upd h o (some (.rows true g' sz rws'))) n):zah P f args h n K:=by
 have r0:ren [o] n 0=o:=rfl
 refine zEE (args':=args) (HH:= [(o, .rows true g' sz rws')]) [o] h hp ad (by simpa using hn) rfl (Nat.le_refl _) (.refl _) ?_ ?_ (.refl _ _ _ _) hb hargs hb0 hR
  (.cons r0.symm (.rows (.same hcl')) .nil) ?_
 ·intro j hj
  obtain rfl:j=0:=aa
  exact ⟨.rows mt g sz rws, .rows mt g sz rws,by simp [mkH,zax],by rw [r0];exact ho, .rows (.same hcl)⟩
 ·intro p hp
  simp only [List.mem_singleton] at hp
  subst hp
  refine ⟨ad,fun r hr c hc=> ?_⟩
  exact Bel.mono (Nat.zero_le _) (hcl r hr c hc)
 ·have e:zel [(o, .rows true g' sz rws')] (zmI [o] h)=upd h o (some (.rows true g' sz rws')):=by
   funext a
   simp only [zel,zmI,upd]
   split<;>rfl
  rw [e]
  exact hk
def zrp:Nat→List Int→List Int
 |0,l=>l
 |j+1,l=>if nth l (j+1)<nth l j then zrp j ((l.set (j+1) (nth l j)).set j (nth l (j+1))) else l
def zeI:Nat→Nat→List Int→List Int
 |0, _,l=>l
 |d+1,i,l=>zeI d (i+1) (zrp i l)
def zjM (l:List Int):List Int:=zeI (l.length - 1) 1 l
theorem zmn:∀ (j:Nat) (l:List Int),(zrp j l).length=l.length
 |0, _=>rfl
 |j+1,l=>by
  rw [zrp]
  split
  ·rw [zmn j];simp
  ·rfl
theorem zlw:∀ (d i:Nat) (l:List Int),(zeI d i l).length=l.length
 |0, _, _=>rfl
 |d+1,i,l=>by rw [zeI,zlw d,zmn]
theorem znH (l:List Int):(zjM l).length=l.length:=zlw _ _ _
theorem zrq {x:Int}:∀ (j:Nat) (l:List Int),j<l.length→x ∈ zrp j l→x ∈ l
 |0, _, _,h=>h
 |j+1,l,hj,h=>by
  rw [zrp] at h
  split at h
  ·have h1:=zrq j _ ak h
   rcases List.mem_or_eq_of_mem_set h1 with h2|rfl
   ·rcases List.mem_or_eq_of_mem_set h2 with h3|rfl
    ·exact h3
    ·exact zag aa
   ·exact zag hj
  ·exact h
theorem zlx {x:Int}:∀ (d i:Nat) (l:List Int),i+d≤l.length→x ∈ zeI d i l→x ∈ l
 |0, _, _, _,h=>h
 |d+1,i,l,hi,h=>by
  rw [zeI] at h
  exact zrq i l aa (zlx d (i+1) _ (by rw [zmn];omega) h)
theorem znI {x:Int}{l:List Int} (h:x ∈ zjM l):x ∈ l:=by
 by_cases hl:l.length=0
 ·have:l= []:=List.length_eq_zero_iff.1 hl
  subst this
  exact h
 ·exact zlx _ _ _ aa h
theorem zvq (a b:Int):zaD Tryz.prog 232 [.int a, .int b] (.v (.bool (decide (a<b)))):=by
 have h1:=zgJ a
 have h2:=zgJ b
 refine pF Tryz.func232 ?_
 refine J0 ?_
 refine Cx0 (h1) ?_
 refine J0 ?_
 refine Cx0 (h2) ?_
 exact K0
theorem zsX (l:List Int) (gn:Nat) (hl:l.length≤12):
  zeC Tryz.prog 226 [.sl 0 gn 1 0 l.length, .int 0, .int l.length] [(0, .rows true gn 1 (l.map zaB))] 1 (.tup []) [(0, .rows true gn 1 ((zjM l).map zaB))] 1:=by
 unfold zeC
 obtain ⟨D,hD⟩:∃D,D=zjM l:=⟨_,rfl⟩
 rw [← hD]
 refine aF Tryz.func226 ?_
 refine J0 ?_
 refine zEp (zEs (α:=Nat×List Int) (fun a=>⟨[(0, .sl 0 gn 1 0 l.length),(1, .int 0),(2, .int l.length),(6, .int a.1)], [(0, .rows true gn 1 (a.2.map zaB))],1⟩)
  (fun d a=>d=l.length - a.1∧1≤a.1∧a.1≤l.length+1∧a.2.length=l.length∧D=zeI d a.1 a.2) ?_ (l.length - 1) (1,l) ?_) ?_ ?_
 ·rintro d ⟨i,L⟩ ⟨i1,i2,i3,i4,i5⟩ hrec
  simp only at i1 i2 i3 i4 i5
  refine J0 ?_
  refine zEr (fun hi=> ?_) (fun hi=> ?_)<;>simp at hi
  ·obtain ⟨d,rfl⟩:∃d',d=d'+1:=⟨d - 1,aa⟩
   rw [zeI] at i5
   refine J0 ?_
   refine zEp (zEs (α:=Nat×List Int) (fun a=>⟨[(0, .sl 0 gn 1 0 l.length),(1, .int 0),(2, .int l.length),(6, .int i),(7, .int a.1)], [(0, .rows true gn 1 (a.2.map zaB))],1⟩)
    (fun d2 a=>d2=a.1∧a.1<l.length∧a.2.length=l.length∧D=zeI d (i+1) (zrp a.1 a.2)) ?_ i (i,L) ?_) ?_ ?_
   ·rintro d2 ⟨j,R⟩ ⟨j1,j2,j3,j4⟩ hrec2
    simp only at j1 j2 j3 j4
    subst j1
    cases d2 with
    |zero=>
     refine J0 ?_
     refine dGC.skip (.v (.bool false)) ?_
     refine J0 ?_
     refine zEp (hrec d aa (i+1,R) ⟨ah,ah,ah,j3,j4⟩) ?_ ad
     simp [go_sem,zad]
    |succ j=>
     have hj1:j+1<l.length:=aa
     have hj0:j<l.length:=aa
     have hc:=zvq (nth R (j+1)) (nth R j)
     rw [zrp] at j4
     refine J3 hj1 hj0 j3 ?_
     refine Cx0 (hc) ?_
     refine J0 ?_
     refine zEr (fun hlt=> ?_) (fun hlt=> ?_)<;>simp at hlt
     ·rw [if_pos hlt] at j4
      refine J3 hj1 hj0 j3 ?_
      refine zEp (hrec2 j aa (j,(R.set (j+1) (nth R j)).set j (nth R (j+1))) ⟨rfl,hj0,by simpa using j3,j4⟩) ?_ ad
      simp [go_sem,zad,List.map_set]
      exact ztW (ztW (za4 _))
     ·rw [if_neg aa] at j4
      refine J0 ?_
      refine zEp (hrec d aa (i+1,R) ⟨ah,ah,ah,j3,j4⟩) ?_ ad
      simp [go_sem,zad]
   ·exact ⟨rfl,hi,i4,i5⟩
   ·simp [go_sem,zad]
   ·simp
  ·obtain rfl:d=0:=by omega
   rw [zeI] at i5
   refine J0 ?_
   simp [go_sem,zad,i5]
 ·exact ⟨rfl,Nat.le_refl _,aa,rfl,by rw [hD];rfl⟩
 ·simp [go_sem,zad]
 ·simp
def zz9 (n:Nat):Int:=if n=0 then 0 else if n<2 then 1 else if n<4 then 2 else if n<8 then 3 else 4
theorem zxx (n:Nat) (hn:n≤8):zaD Tryz.prog 104 [.v (.int .u64 n)] (.int (zz9 n)):=by
 refine pF Tryz.func104 ?_
 refine J0 ?_
 refine aF Tryz.func151 ?_
 refine J0 ?_
 rcases (show n=0∨n=1∨n=2∨n=3∨n=4∨n=5∨n=6∨n=7∨n=8 by omega) with rfl|rfl|rfl|rfl|rfl|rfl|rfl|rfl|rfl
 ·have f:∀h,Lib.len8tab.data[0]'h=(0:UInt8):=fun _=>by kernel_rfl
  have z:0<Lib.len8tab.size:=am
  repeat first|refine wV fun _=>?_|simp [go_sem,zz9,f,z]
 ·have f:∀h,Lib.len8tab.data[1]'h=(1:UInt8):=fun _=>by kernel_rfl
  have z:1<Lib.len8tab.size:=am
  repeat first|refine wV fun _=>?_|simp [go_sem,zz9,f,z]
 ·have f:∀h,Lib.len8tab.data[2]'h=(2:UInt8):=fun _=>by kernel_rfl
  have z:2<Lib.len8tab.size:=am
  repeat first|refine wV fun _=>?_|simp [go_sem,zz9,f,z]
 ·have f:∀h,Lib.len8tab.data[3]'h=(2:UInt8):=fun _=>by kernel_rfl
  have z:3<Lib.len8tab.size:=am
  repeat first|refine wV fun _=>?_|simp [go_sem,zz9,f,z]
 ·have f:∀h,Lib.len8tab.data[4]'h=(3:UInt8):=fun _=>by kernel_rfl
  have z:4<Lib.len8tab.size:=am
  repeat first|refine wV fun _=>?_|simp [go_sem,zz9,f,z]
 ·have f:∀h,Lib.len8tab.data[5]'h=(3:UInt8):=fun _=>by kernel_rfl
  have z:5<Lib.len8tab.size:=am
  repeat first|refine wV fun _=>?_|simp [go_sem,zz9,f,z]
 ·have f:∀h,Lib.len8tab.data[6]'h=(3:UInt8):=fun _=>by kernel_rfl
  have z:6<Lib.len8tab.size:=am
  repeat first|refine wV fun _=>?_|simp [go_sem,zz9,f,z]
 ·have f:∀h,Lib.len8tab.data[7]'h=(3:UInt8):=fun _=>by kernel_rfl
  have z:7<Lib.len8tab.size:=am
  repeat first|refine wV fun _=>?_|simp [go_sem,zz9,f,z]
 ·have f:∀h,Lib.len8tab.data[8]'h=(4:UInt8):=fun _=>by kernel_rfl
  have z:8<Lib.len8tab.size:=am
  repeat first|refine wV fun _=>?_|simp [go_sem,zz9,f,z]
theorem zvU (l:List Int) (gn:Nat) (hl:l.length≤8):
  zeC Tryz.prog 182 [.sl 0 gn 1 0 l.length] [(0, .rows true gn 1 (l.map zaB))] 1 (.tup []) [(0, .rows true gn 1 ((zjM l).map zaB))] 1:=by
 unfold zeC
 have hk:=zxx l.length hl
 have hi:=zsX l gn aa
 refine aF Tryz.func182 ?_
 refine J0 ?_
 refine aP hk ?_
 refine J0 ?_
 refine aF Tryz.func212 ?_
 refine J0 ?_
 refine zEq ?_
 refine J0 ?_
 refine FxT ?_
 refine J0 ?_
 refine zEO (o:=0) hi rfl am (za4 _) (za4 _) (.cons (.sl rfl) (.cons (.same (.v _)) (.cons (.same (.v _)) .nil))) ae ae (.same ae) ?_
 refine J0 ?_
 simp [go_sem,zad]
theorem zo0 (l:List Int) (gn:Nat) (hl:l.length≤1073741824):
  zeC Tryz.prog 183 [.sl 0 gn 1 0 l.length] [(0, .rows true gn 1 (l.map zaB))] 1
   (.sl 0 gn 1 0 (zbj l).length) [(0, .rows true gn 1 ((zbj l).map zaB++List.replicate (l.length - (zbj l).length) [.int 0]))] 1:=by
 unfold zeC
 by_cases h2:l.length<2
 ·rw [zhl h2]
  refine aF Tryz.func183 ?_
  refine J0 ?_
  refine FxT ?_
  refine J0 ?_
  simp [go_sem,zad]
 obtain ⟨D,hD⟩:∃D,D=zbj l:=⟨_,rfl⟩
 rw [← hD]
 refine aF Tryz.func183 ?_
 refine J0 ?_
 refine FxF ?_
 refine J0 ?_
 refine zEp (zEs (α:=Nat) (fun j=>⟨[(0, .sl 0 gn 1 0 l.length),(3, .int j)], [(0, .rows true gn 1 (l.map zaB))],1⟩)
  (fun d j=>1≤j∧j+d=l.length∧D=l.take j++zaZ (nth l (j - 1)) (l.drop j)) ?_ (l.length - 1) 1 ?_) ?_ ?_
 ·rintro d j ⟨i1,i2,i3⟩ hrec
  have e1:((j:Int) - 1).toNat=j - 1:=aa
  refine J0 ?_
  refine zEr (fun hj=> ?_) (fun hj=> ?_)<;>simp at hj
  ·have hj':j - 1<l.length:=by omega
   rw [zas hj,zaZ] at i3
   by_cases he:nth l j=nth l (j - 1)
   ·rw [if_pos he] at i3
    refine J4 he hj hj' e1 ?_
    refine zEp (zEs (α:=Nat×List Int×Nat) (fun a=>⟨[(0, .sl 0 gn 1 0 l.length),(3, .int a.2.2),(4, .sl 0 gn 1 j (l.length - j)),(5, .int a.1)], [(0, .rows true gn 1 (a.2.1.map zaB))],1⟩)
     (fun d a=>1≤a.1∧j+a.1+d=l.length∧a.2.1.length=l.length∧a.2.2≤j+a.1 - 1∧a.2.1.drop (j+a.1 - 1)=l.drop (j+a.1 - 1)∧D=a.2.1.take a.2.2++zaZ (nth l (j+a.1 - 1)) (l.drop (j+a.1))) ?_ (l.length - j - 1) (1,l,j) ?_) ?_ ?_
    ·rintro d2 ⟨k2,R,k⟩ ⟨j1,j2,j3,j4,j5,j6⟩ hrec2
     simp only at j1 j2 j3 j4 j5 j6
     have e2:((k2:Int) - 1).toNat=k2 - 1:=aa
     have e3:j+(k2 - 1)=j+k2 - 1:=aa
     have hRn:∀m,j+k2 - 1≤m→m<l.length→nth R m=nth l m:=fun m h1 h2=>by
      have h3:(R.drop (j+k2 - 1))[m - (j+k2 - 1)]? =(l.drop (j+k2 - 1))[m - (j+k2 - 1)]? :=by rw [j5]
      rw [List.getElem?_drop,List.getElem?_drop,show j+k2 - 1+(m - (j+k2 - 1))=m by omega,List.getElem?_eq_getElem aa,List.getElem?_eq_getElem h2] at h3
      rw [zap _ _ aa,zap _ _ h2]
      exact Option.some.inj h3
     refine J1 j3 ?_
     refine zEr (fun hk=> ?_) (fun hk=> ?_)<;>simp at hk
     ·have hk1:j+k2<l.length:=by omega
      have hk0:j+k2 - 1<l.length:=aa
      have hr1:=hRn (j+k2) aa hk1
      have hr0:=hRn (j+k2 - 1) aa hk0
      rw [zas hk1,zaZ] at j6
      have hk2:k2 - 1<l.length - j:=aa
      have hk3:k<l.length:=aa
      by_cases hc:nth l (j+k2)=nth l (j+k2 - 1)
      ·rw [if_pos hc] at j6
       refine J10 hc j3 hk hk1 hk0 hr1 hr0 e2 e3 hk2 ?_
       refine zEp (hrec2 (d2 - 1) aa (k2+1,R,k) ⟨ah,ah,j3,ah, ?_, ?_⟩) ?_ ad
       ·have:=congrArg (List.drop 1) j5
        rw [List.drop_drop,List.drop_drop] at this
        rw [show j+(k2+1) - 1=j+k2 - 1+1 by omega]
        exact this
       ·simp only
        rw [show j+(k2+1) - 1=j+k2 by omega,hc]
        exact j6
       ·simp [go_sem,zad]
      ·rw [if_neg hc] at j6
       refine J11 hc j3 hk hk1 hk0 hr1 hr0 e2 e3 hk2 hk3 ?_
       refine zEp (hrec2 (d2 - 1) aa (k2+1,R.set k (nth l (j+k2)),k+1) ⟨ah,ah,by simpa using j3,ah, ?_, ?_⟩) ?_ ad
       ·have:=congrArg (List.drop 1) j5
        rw [List.drop_drop,List.drop_drop] at this
        simp only
        rw [show j+(k2+1) - 1=j+k2 - 1+1 by omega,List.drop_set,if_pos aa]
        exact this
       ·simp only
        rw [show j+(k2+1) - 1=j+k2 by omega,List.take_add_one,List.take_set_of_le aa,List.getElem?_set_self aa,Option.toList_some,List.append_assoc]
        exact j6
       ·simp [go_sem,zad,List.map_set]
     ·rw [List.drop_eq_nil_of_le aa,zaZ,List.append_nil] at j6
      have hDl:D.length=k:=cG
      have hd0:List.drop (k+(l.length - k)) (R.map zaB)= []:=List.drop_eq_nil_of_le ak
      have hDm:D.map zaB=List.take k (R.map zaB):=by rw [j6,List.map_take]
      refine J0 ?_
      simp [go_sem,zad,hd0,hDl,hDm]
      exact fun x hx=>za4 R x (List.mem_of_mem_take hx)
    ·refine ⟨Nat.le_refl _,ah,rfl,ah,rfl, ?_⟩
     simp only
     rw [Nat.add_sub_cancel,he]
     exact i3
    ·simp [go_sem,zad]
    ·simp
   ·rw [if_neg he] at i3
    refine J4 he hj hj' e1 ?_
    refine zEp (hrec (d - 1) aa (j+1) ⟨aa,aa, ?_⟩) ?_ ad
    ·rw [i3,Nat.add_sub_cancel,List.take_add_one,List.getElem?_eq_getElem hj,zap _ _ hj,Option.toList_some,List.append_assoc];rfl
    ·simp [go_sem,zad]
  ·rw [List.drop_eq_nil_of_le hj,List.take_of_length_le hj,zaZ,List.append_nil] at i3
   rw [i3]
   refine J0 ?_
   simp [go_sem,zad]
 ·refine ⟨Nat.le_refl _,aa, ?_⟩
  cases l with
  |nil=>simp at h2
  |cons a l=>rw [hD];rfl
 ·simp [go_sem,zad]
 ·simp
def zpd (b:zay) (c:Int) (n:Nat):List Int:=((List.range n).map fun (d:Nat)=>toB b 0 d c).filter fun x=>decide (0≤x∧x≠c)
def zgW (b:zay) (c:Int):List Int:=zbj (zjM (zpd b c b.next.length))
theorem zwd (b:zay) (c:Int) (n:Nat):zpd b c (n+1)=zpd b c n++(if 0≤toB b 0 n c∧toB b 0 n c≠c then [toB b 0 n c] else []):=by
 unfold zpd
 rw [List.range_succ,List.map_append,List.filter_append]
 congr 1
 by_cases h:0≤toB b 0 n c∧toB b 0 n c≠c
 ·rw [if_pos h];simp [h]
 ·rw [if_neg h];simpa using h
theorem zq4 (b:zay) (c:Int) (n:Nat):(zpd b c n).length≤n:=by
 unfold zpd
 refine Nat.le_trans (List.length_filter_le _ _) ?_
 simp
theorem zk9 {α:Type} [DecidableEq α]:∀ (l:List α) (a:α),(zaZ a l).length≤l.length
 | [], _=>Nat.le_refl _
 |b::l,a=>by
  rw [zaZ]
  split
  ·exact Nat.le_succ_of_le (zk9 l a)
  ·simp only [List.length_cons]
   exact Nat.succ_le_succ (zk9 l b)
theorem zvA {α:Type} [DecidableEq α] (l:List α):(zbj l).length≤l.length:=by
 cases l with
 |nil=>exact Nat.le_refl _
 |cons a l=>exact Nat.succ_le_succ (zk9 l a)
theorem zih {b:zay} (hb:zaP b){c x:Int} (h:x ∈ zgW b c):0≤x∧x<b.cells:=by
 unfold zgW at h
 rw [zla] at h
 have h1:=znI h
 unfold zpd at h1
 rw [List.mem_filter,decide_eq_true_eq] at h1
 obtain ⟨d, _,rfl⟩:=List.mem_map.1 h1.1
 exact ⟨h1.2.1,zfe hb 0 d c⟩
theorem zlV (b:zay) (c:Int):(zgW b c).length≤b.next.length:=by
 unfold zgW
 exact Nat.le_trans (zvA _) (by rw [znH];exact zq4 b c _)
theorem zpG (b:zay) (hb:zaP b) (h8:b.next.length≤8) (c:Int):zaD Tryz.prog 158 [.agg (zco b), .int c] (zai (zgW b c)):=by
 refine pF Tryz.func158 ?_
 have hT:=fun (d:Nat)=>zhI b hb 0 d c
 obtain ⟨A,hA⟩:∃A,A=zpd b c:=⟨_,rfl⟩
 have hA0:A 0= []:=by rw [hA];rfl
 have hAs:=zwd b c
 have hAl:=zq4 b c
 rw [← hA] at hAs hAl
 have hres:zgW b c=zbj (zjM (A b.next.length)):=by rw [hA];rfl
 rw [hres]
 clear hA hres
 obtain ⟨eb,heb⟩:∃eb,eb=zco b:=⟨_,rfl⟩
 refine J0 ?_
 refine zEp (zEs (α:=Nat) (fun j=>⟨[(1, .int c),(2, .ref 0 0 3 0 0),(5, .sl 1 (A j).length 1 0 (A j).length),(10, .int b.next.length),(11, .int j)], [(0, .rows true 0 3 [zco b]),(1, .rows true (A j).length 1 ((A j).map zaB))],2⟩)
  (fun d j=>j+d=b.next.length) ?_ b.next.length 0 ?_) ?_ ?_
 ·rintro d j i1 hrec
  refine J0 ?_
  refine zEr (fun hj=> ?_) (fun hj=> ?_)<;>simp at hj
  ·have hTj:=hT j
   have hs:=hAs j
   have hl:=hAl j
   generalize toB b 0 j c=t at *
   refine J1 hj ?_
   refine aP hTj ?_
   by_cases ht:0≤t∧t≠c
   ·rw [if_pos ht] at hs
    obtain ⟨ht1,ht2⟩:=ht
    refine J2 ht1 ht2 ?_
    refine zEp (hrec (d - 1) aa (j+1) aa) ?_ ad
    simp [go_sem,zad,hs]
   ·rw [if_neg ht,List.append_nil] at hs
    by_cases h0:0≤t
    ·have hc:t=c:=Classical.byContradiction fun h2=>ht ⟨h0,h2⟩
     subst hc
     refine J1 h0 ?_
     refine zEp (hrec (d - 1) aa (j+1) aa) ?_ ad
     simp [go_sem,zad,hs]
    ·refine J1 h0 ?_
     refine zEp (hrec (d - 1) aa (j+1) aa) ?_ ad
     simp [go_sem,zad,hs]
  ·obtain rfl:j=b.next.length:=by omega
   have hAn:=hAl b.next.length
   obtain ⟨L,hL⟩:∃L,L=A b.next.length:=⟨_,rfl⟩
   rw [← hL] at hAn ⊢
   have hSo:=zvU L L.length aa
   have hil:=znH L
   have hCo:=zo0 (zjM L) L.length aa
   rw [hil] at hCo
   refine J0 ?_
   refine zEO (o:=1) hSo rfl am (za4 _) (za4 _) (.cons (.sl rfl) .nil) ae ae (.same ae) ?_
   refine J0 ?_
   refine zEO (o:=1) hCo rfl am (za4 _) ?_ (.cons (.sl rfl) .nil) ae ae (.sl rfl) ?_
   ·intro r hr c' hc'
    rcases List.mem_append.1 hr with hr|hr
    ·exact za4 _ r hr c' hc'
    ·rw [List.mem_replicate] at hr
     rw [hr.2] at hc'
     simp only [List.mem_singleton] at hc'
     subst hc'
     exact .v _
   ·refine J0 ?_
    refine zak rfl ad aV ?_
    rw [List.drop_zero,List.take_append_of_le_length ad,List.take_of_length_le ad]
 ·omega
 ·simp [go_sem,zad,hA0]
 ·simp
def zmH (F:List Int):Nat:=F.countP fun x=>decide (x<0)
theorem zBL {F:List Int}{i:Nat}{v:Int} (hi:i<F.length) (h:nth F i<0) (hv:0≤v):zmH (F.set i v)+1=zmH F:=by
 unfold zmH
 have hp:0<F.countP fun x=>decide (x<0):=List.countP_pos_iff.2 ⟨nth F i,zag hi,aK⟩
 rw [List.countP_set hi]
 rw [zap _ _ hi] at h
 simp only [h,decide_true,if_true]
 have:¬v<0:=aa
 simp only [this,decide_false]
 simp
 omega
def zhV (v:Int):List Int→List Int×List Int→List Int×List Int
 | [],s=>s
 |x::l,s=>zhV v l (if nth s.1 x.toNat<0 then (s.1.set x.toNat v,s.2++ [x]) else s)
structure FOk (m:Nat) (B:Int) (s:List Int×List Int):Prop where
 fl:s.1.length=m
 fv:∀e ∈ s.1, -1≤e∧e≤B
 qv:∀x ∈ s.2,0≤x∧x.toNat<m
 qf:∀x ∈ s.2,0≤nth s.1 x.toNat
theorem zdZ {l:List Int}{i j:Nat}{v:Int}:nth (l.set i v) j=if i=j∧j<l.length then v else nth l j:=by
 by_cases hj:j<l.length
 ·rw [zap _ _ bz,List.getElem_set,zap _ _ hj]
  by_cases e:i=j
  ·rw [if_pos e,if_pos ⟨e,hj⟩]
  ·rw [if_neg e,if_neg (fun h=>e h.1)]
 ·rw [if_neg (fun h=>hj h.2)]
  unfold nth
  rw [List.getD_eq_getElem?_getD,List.getD_eq_getElem?_getD,List.getElem?_eq_none bz,List.getElem?_eq_none aa]
def zeb (v:Int) (s:List Int×List Int) (x:Int):List Int×List Int:=if nth s.1 x.toNat<0 then (s.1.set x.toNat v,s.2++ [x]) else s
theorem ziV {m:Nat}{B v:Int}{s:List Int×List Int} (h:FOk m B s) (hv:0≤v∧v≤B){x:Int} (hx:0≤x∧x.toNat<m):
  FOk m B (zeb v s x)∧zmH (zeb v s x).1+(zeb v s x).2.length=zmH s.1+s.2.length∧∀j,0≤nth s.1 j→nth (zeb v s x).1 j=nth s.1 j:=by
 unfold zeb
 split
 ·rename_i hn
  have hxl:x.toNat<s.1.length:=by rw [h.fl];exact hx.2
  refine ⟨⟨by simp [h.fl],fun e he=> ?_,fun y hy=> ?_,fun y hy=> ?_⟩, ?_,fun j hj=> ?_⟩
  ·rcases List.mem_or_eq_of_mem_set he with he|rfl
   ·exact h.fv e he
   ·omega
  ·rcases List.mem_append.1 hy with hy|hy
   ·exact h.qv y hy
   ·simp only [List.mem_singleton] at hy
    subst hy
    exact hx
  ·simp only at hy ⊢
   rw [zdZ]
   split
   ·exact hv.1
   ·rename_i hc
    rcases List.mem_append.1 hy with hy|hy
    ·exact h.qf y hy
    ·simp only [List.mem_singleton] at hy
     subst hy
     exact absurd ⟨rfl,hxl⟩ hc
  ·have:=zBL hxl hn hv.1
   simp only [List.length_append,List.length_singleton]
   omega
  ·simp only
   rw [zdZ]
   split
   ·rename_i hc
    rw [hc.1] at hn
    omega
   ·rfl
 ·exact ⟨h,rfl,fun _ _=>rfl⟩
theorem ziU (v x:Int) (l:List Int) (s:List Int×List Int):zhV v (x::l) s=zhV v l (zeb v s x):=rfl
theorem zoR {m:Nat}{B v:Int} (hv:0≤v∧v≤B):∀ {l:List Int}{s:List Int×List Int},FOk m B s→(∀x ∈ l,0≤x∧x.toNat<m)→
  FOk m B (zhV v l s)∧zmH (zhV v l s).1+(zhV v l s).2.length=zmH s.1+s.2.length∧(∀j,0≤nth s.1 j→nth (zhV v l s).1 j=nth s.1 j)∧s.2.length≤(zhV v l s).2.length
 | [],s,h, _=>⟨h,rfl,fun _ _=>rfl,Nat.le_refl _⟩
 |x::l,s,h,hl=>by
  obtain ⟨a1,a2,a3⟩:=ziV h hv (hl x ad)
  obtain ⟨b1,b2,b3,b4⟩:=zoR hv a1 (fun y hy=>hl y (List.mem_cons_of_mem _ hy))
  rw [ziU]
  refine ⟨b1,aa,fun j hj=> ?_,Nat.le_trans ?_ b4⟩
  ·rw [b3 j (by rw [a3 j hj];exact hj),a3 j hj]
  ·unfold zeb
   split
   ·simp
   ·exact Nat.le_refl _
def zrF (nb:Nat→List Int) (val:Int→Int):Nat→List Int×List Int→List Int
 |0,s=>s.1
 |f+1,s=>match s.2 with
  | []=>s.1
  |q:: _=>zrF nb val f ((zhV (val (nth s.1 q.toNat)) (nb q.toNat) s).1,(zhV (val (nth s.1 q.toNat)) (nb q.toNat) s).2.drop 1)
def bfs (nb:Nat→List Int) (val:Int→Int) (s:List Int×List Int):List Int:=zrF nb val (zmH s.1+s.2.length) s
theorem FOk.mono {m:Nat}{B B':Int}{s:List Int×List Int} (h:FOk m B s) (hb:B≤B'):FOk m B' s:=⟨h.fl,fun e he=>⟨(h.fv e he).1,Int.le_trans (h.fv e he).2 hb⟩,h.qv,h.qf⟩
theorem FOk.drop {m:Nat}{B:Int}{s:List Int×List Int} (h:FOk m B s):FOk m B (s.1,s.2.drop 1):=⟨h.fl,h.fv,fun x hx=>h.qv x (List.mem_of_mem_drop hx),fun x hx=>h.qf x (List.mem_of_mem_drop hx)⟩
theorem zkW {m:Nat}{nb:Nat→List Int}{val:Int→Int} (hnb:∀q,q<m→∀x ∈ nb q,0≤x∧x.toNat<m) (hval:∀v,0≤v→0≤val v∧val v≤v+m):∀ (f:Nat){B:Int}{s:List Int×List Int},FOk m B s→
  (zrF nb val f s).length=m∧(∀e ∈ zrF nb val f s, -1≤e)∧∀j,0≤nth s.1 j→nth (zrF nb val f s) j=nth s.1 j
 |0,B,s,h=>⟨h.fl,fun e he=>(h.fv e he).1,fun _ _=>rfl⟩
 |f+1,B,s,h=>by
  rw [zrF]
  split
  ·exact ⟨h.fl,fun e he=>(h.fv e he).1,fun _ _=>rfl⟩
  ·rename_i q l hq
   have hqm:q ∈ s.2:=by rw [hq];simp
   have h1:=h.qf q hqm
   have h2:=hval _ h1
   have h3:=(h.fv _ (zag (l:=s.1) (i:=q.toNat) (by rw [h.fl];exact (h.qv q hqm).2))).2
   obtain ⟨a1,a2,a3,a4⟩:=zoR (m:=m) (B:=B+m) (v:=val (nth s.1 q.toNat)) ⟨h2.1,aa⟩ (h.mono aa) (hnb q.toNat (h.qv q hqm).2)
   obtain ⟨b1,b2,b3⟩:=zkW hnb hval f a1.drop
   refine ⟨b1,b2,fun j hj=> ?_⟩
   have:=a3 j hj
   rw [b3 j ah]
   exact this
def zlK (c:Int):List Int→List (List Int)→List (List Int)
 | [],ls=>ls
 |x::l,ls=>zlK c l ((ls.set c.toNat (nth ls c.toNat++ [x])).set x.toNat (nth (ls.set c.toNat (nth ls c.toNat++ [x])) x.toNat++ [c]))
structure zCQ (m N:Nat) (ls:List (List Int)):Prop where
 ll:ls.length=m
 lv:∀l ∈ ls,l.length≤N∧∀x ∈ l,0≤x∧x.toNat<m
def zif (ls:List (List Int)) (c:Nat) (x:Int):List (List Int):=ls.set c (nth ls c++ [x])
theorem zkx {m N:Nat}{ls:List (List Int)} (h:zCQ m N ls){c:Nat} (hc:c<m){x:Int} (hx:0≤x∧x.toNat<m):zCQ m (N+1) (zif ls c x):=by
 refine ⟨by unfold zif;simp [h.ll],fun l hl=> ?_⟩
 unfold zif at hl
 rcases List.mem_or_eq_of_mem_set hl with hl|rfl
 ·exact ⟨Nat.le_succ_of_le (h.lv l hl).1,(h.lv l hl).2⟩
 ·have:=h.lv _ (zag (l:=ls) (i:=c) (by rw [h.ll];exact hc))
  refine ⟨by simp;exact this.1,fun y hy=> ?_⟩
  rcases List.mem_append.1 hy with hy|hy
  ·exact this.2 y hy
  ·simp only [List.mem_singleton] at hy
   subst hy
   exact hx
theorem zlL (c x:Int) (l:List Int) (ls:List (List Int)):zlK c (x::l) ls=zlK c l (zif (zif ls c.toNat x) x.toNat c):=rfl
def zgg (nb:Nat→List Int):Nat→List (List Int)→List (List Int)
 |0,ls=>ls
 |n+1,ls=>zlK n (nb n) (zgg nb n ls)
theorem zqT {m:Nat}{c:Int} (hc:0≤c∧c.toNat<m):∀ {l:List Int}{N:Nat}{ls:List (List Int)},zCQ m N ls→(∀x ∈ l,0≤x∧x.toNat<m)→zCQ m (N+2 * l.length) (zlK c l ls)
 | [], _, _,h, _=>h
 |x::l,N,ls,h,hl=>by
  rw [zlL]
  have h1:=zkx (zkx h hc.2 (hl x ad)) (hl x ad).2 hc
  have h2:=zqT hc h1 (fun y hy=>hl y (List.mem_cons_of_mem _ hy))
  refine ⟨h2.ll,fun y hy=>⟨?_,(h2.lv y hy).2⟩⟩
  have:=(h2.lv y hy).1
  simp only [List.length_cons]
  omega
theorem zi4 {m K:Nat}{nb:Nat→List Int} (hnb:∀q,q<m→(nb q).length≤K∧∀x ∈ nb q,0≤x∧x.toNat<m):∀ {n:Nat},n≤m→zCQ m (2 * K * n) (zgg nb n (List.replicate m []))
 |0, _=>⟨by simp [zgg],fun l hl=>by simp only [zgg,List.mem_replicate] at hl;rw [hl.2];exact ⟨Nat.zero_le _,fun x hx=>by cases hx⟩⟩
 |n+1,hn=>by
  have h1:=zi4 hnb (n:=n) aa
  have h2:=hnb n aa
  have h3:=zqT (c:=(n:Int)) ⟨aa,aa⟩ h1 h2.2
  refine ⟨h3.ll,fun y hy=>⟨?_,(h3.lv y hy).2⟩⟩
  have h4:=(h3.lv y hy).1
  have h5:2 * K * (n+1)=2 * K * n+2 * K:=Nat.mul_succ _ _
  omega
def zbI (lk:Nat→List Int):Nat→List Int→List Int
 |0,F=>F
 |n+1,F=>if 0≤nth (zbI lk n F) n then zbI lk n F else bfs lk (fun _=>n) ((zbI lk n F).set n n, [(n:Int)])
theorem zgN {m:Nat}{lk:Nat→List Int} (hlk:∀q,q<m→∀x ∈ lk q,0≤x∧x.toNat<m):∀ {n:Nat},n≤m→
  (zbI lk n (List.replicate m (-1))).length=m∧(∀e ∈ zbI lk n (List.replicate m (-1)), -1≤e)∧(∀j,j<n→0≤nth (zbI lk n (List.replicate m (-1))) j)
 |0, _=>⟨by simp [zbI],fun e he=>by simp only [zbI,List.mem_replicate] at he;omega,fun j hj=>aa⟩
 |n+1,hn=>by
  obtain ⟨h1,h2,h3⟩:=zgN hlk (n:=n) aa
  rw [zbI]
  split
  ·rename_i hc
   refine ⟨h1,h2,fun j hj=> ?_⟩
   by_cases e:j=n
   ·subst e;exact hc
   ·exact h3 j aa
  ·rename_i hc
   obtain ⟨B,hB⟩:∃B:Int,∀e ∈ (zbI lk n (List.replicate m (-1))).set n (n:Int),e≤B:=by
    generalize (zbI lk n (List.replicate m (-1))).set n (n:Int)=L
    clear h1 h2 h3 hc
    induction L with
    |nil=>exact ⟨0,fun e he=>by cases he⟩
    |cons a l ih=>
     obtain ⟨B,hB⟩:=ih
     refine ⟨max a B,fun e he=> ?_⟩
     rcases List.mem_cons.1 he with rfl|he
     ·omega
     ·have:=hB e he;omega
   have hF:FOk m B ((zbI lk n (List.replicate m (-1))).set n n, [(n:Int)]):=by
    refine ⟨by simp [h1],fun e he=>⟨?_,hB e he⟩,fun x hx=> ?_,fun x hx=> ?_⟩
    ·rcases List.mem_or_eq_of_mem_set he with he|rfl
     ·exact h2 e he
     ·omega
    ·simp only [List.mem_singleton] at hx
     subst hx
     omega
    ·simp only [List.mem_singleton] at hx
     subst hx
     rw [zdZ,if_pos ⟨rfl,aa⟩]
     omega
   obtain ⟨b1,b2,b3⟩:=zkW hlk (val:=fun _=>(n:Int)) (fun v hv=>⟨aa,aa⟩) (zmH ((zbI lk n (List.replicate m (-1))).set n n)+ [(n:Int)].length) hF
   refine ⟨b1,b2,fun j hj=> ?_⟩
   by_cases e:j=n
   ·subst e
    have h4:0≤nth ((zbI lk j (List.replicate m (-1))).set j (j:Int)) j:=by rw [zdZ,if_pos ⟨rfl,aa⟩];omega
    unfold bfs
    rw [b3 j h4]
    exact h4
   ·have h4:0≤nth ((zbI lk n (List.replicate m (-1))).set n (n:Int)) j:=by rw [zdZ,if_neg aa];exact h3 j aa
    unfold bfs
    rw [b3 j h4]
    exact h4
theorem zxM {m:Nat}{B:Int}{nb:Nat→List Int}{val:Int→Int} (hnb:∀q,q<m→∀x ∈ nb q,0≤x∧x.toNat<m) (hval:∀v,0≤val v∧val v≤B):∀ (f:Nat){s:List Int×List Int},FOk m B s→∀e ∈ zrF nb val f s,e≤B
 |0,s,h=>fun e he=>(h.fv e he).2
 |f+1,s,h=>by
  rw [zrF]
  split
  ·exact fun e he=>(h.fv e he).2
  ·rename_i q l hq
   have hqm:q ∈ s.2:=by rw [hq];simp
   have a1:=(zoR (m:=m) (B:=B) (v:=val (nth s.1 q.toNat)) (hval _) h (hnb q.toNat (h.qv q hqm).2)).1
   exact zxM hnb hval f a1.drop
theorem zjd {m:Nat}{lk:Nat→List Int} (hlk:∀q,q<m→∀x ∈ lk q,0≤x∧x.toNat<m):∀ {n:Nat},n≤m→∀e ∈ zbI lk n (List.replicate m (-1)),e≤(m:Int) - 1
 |0, _=>fun e he=>by simp only [zbI,List.mem_replicate] at he;omega
 |n+1,hn=>by
  have h0:=zjd hlk (n:=n) aa
  obtain ⟨h1,h2, _⟩:=zgN hlk (n:=n) aa
  rw [zbI]
  split
  ·exact h0
  ·refine zxM hlk (val:=fun _=>(n:Int)) (fun v=>⟨aa,aa⟩) _ ⟨by simp [h1],fun e he=> ?_,fun x hx=> ?_,fun x hx=> ?_⟩
   ·rcases List.mem_or_eq_of_mem_set he with he|rfl
    ·exact ⟨h2 e he,h0 e he⟩
    ·omega
   ·simp only [List.mem_singleton] at hx
    subst hx
    omega
   ·simp only [List.mem_singleton] at hx
    subst hx
    rw [zdZ,if_pos ⟨rfl,aa⟩]
    omega
end Go.Av
end
section
/- Contracts, the law of layer 8: GenSides. -/
open Go Go.Proofs
namespace Go.Av
section
variable {α:Type} (f:α→α) (l:List α)
end
theorem znO {h h':zaq}{n:Nat}{x y:List AV} (hx:zav h h' n x y):∀ (l:List (List AV)) (k:Nat),zaN h h' n (l.set k x) (l.set k y)
 | [], _=> .refl _
 |z::l,0=> .cons hx (.refl _)
 |z::l,k+1=> .cons (.refl _ _ _ _) (znO hx l k)
end Go.Av
end
section
open Go Go.Proofs
namespace Go.Av
def zkq (f:Nat→List AV) (z:List AV) (m j:Nat):List (List AV):=(List.range m).map fun i=>if i<j then f i else z
@[go_sem] theorem zt8 (f:Nat→List AV) (z:List AV) (m j:Nat):(zkq f z m j).length=m:=by simp [zkq]
@[go_sem] theorem fllR_zero (f:Nat→List AV) (z:List AV) (m:Nat):zkq f z m 0=List.replicate m z:=by
 unfold zkq
 refine List.ext_getElem ad fun i h1 h2=>ad
theorem zt9 (f:Nat→List AV) (z:List AV) (m j:Nat):(zkq f z m j).set j (f j)=zkq f z m (j+1):=by
 refine List.ext_getElem (by simp [zkq]) fun i h1 h2=> ?_
 rw [List.getElem_set]
 simp only [zkq,List.getElem_map,List.getElem_range]
 split
 ·rename_i e;subst e;simp
 ·rename_i e
  by_cases h:i<j
  ·rw [if_pos h,if_pos aa]
  ·rw [if_neg h,if_neg aa]
theorem zBh (f:Nat→List AV) (z:List AV) (m:Nat):zkq f z m m=(List.range m).map f:=by
 refine List.ext_getElem (by simp [zkq]) fun i h1 h2=> ?_
 simp only [zkq,List.getElem_map,List.getElem_range]
 rw [if_pos (by simpa [zkq] using h1)]
theorem zBj {f:Nat→List AV}{z:List AV}{m j i:Nat} (h:i<m):nth (zkq f z m j) i=if i<j then f i else z:=by
 rw [zap _ _ (by rw [zt8];exact h)]
 simp [zkq]
theorem zBi {f:Nat→List AV}{z:List AV}{m j n:Nat} (hf:∀i,∀c ∈ f i,Bel n c) (hz:∀c ∈ z,Bel n c):∀r ∈ zkq f z m j,∀c ∈ r,Bel n c:=by
 intro r hr c hc
 obtain ⟨i, _,rfl⟩:=List.mem_map.1 hr
 split at hc
 ·exact hf i c hc
 ·exact hz c hc
def zw0:List AV:= [.v (.slice none 0 0)]
def isR (l:Nat→List Int) (i:Nat):List AV:= [zai (l i)]
theorem zpW {l:Nat→List Int}{m j n:Nat}:(∀r ∈ zkq (isR l) zw0 m j,∀c ∈ r,Bel n c)=True:=by
 refine eq_true (zBi (fun i c hc=> ?_) (fun c hc=> ?_))
 ·simp only [isR,List.mem_singleton] at hc
  subst hc
  exact of_eq_true zhJ
 ·simp only [zw0,List.mem_singleton] at hc
  subst hc
  exact .v _
attribute [go_sem ↓] zpW
def zlm (nb:Nat→List Int) (m a:Nat):List Int:=bfs nb (·+1) ((List.replicate m (-1)).set a 0, [(a:Int)])
def zrG (b:zay):List (List Int):=(List.range b.cells.toNat).map (zlm (fun (q:Nat)=>zgW b q) b.cells.toNat)
theorem zAf (b:zay) (hb:zaP b) (h8:b.next.length≤8) (h9:b.cells≤9):zaD Tryz.prog 109 [.agg (zco b)] (zbe (zrG b)):=by
 refine pF Tryz.func109 ?_
 have hN:=fun (c:Nat)=>zpG b hb h8 c
 obtain ⟨nb,hnb⟩:∃nb:Nat→List Int,nb=fun (q:Nat)=>zgW b q:=⟨_,rfl⟩
 have hnv:∀q,(nb q).length≤8∧∀x ∈ nb q,0≤x∧x<b.cells:=fun q=>by
  rw [hnb]
  exact ⟨Nat.le_trans (zlV b q) h8,fun x hx=>zih hb hx⟩
 have hres:zrG b=(List.range b.cells.toNat).map (zlm nb b.cells.toNat):=by rw [hnb];rfl
 have hN:∀c:Nat,zaD Tryz.prog 158 [.agg (zco b), .int c] (zai (nb c)):=fun c=>by rw [hnb];exact hN c
 rw [hres]
 clear hres hnb
 have hc0:=hb.c0
 obtain ⟨cells,next,turn⟩:=b
 simp only at h8 h9 hnv hN hc0 ⊢
 obtain ⟨m,rfl⟩:=Int.eq_ofNat_of_zero_le hc0
 simp only [Int.toNat_natCast]
 clear hb
 refine J0 ?_
 refine zEp (zEs (α:=Nat) (fun j=>⟨[(1, .ref 0 0 3 0 0),(3, .sl 1 0 1 0 m),(15, .int m),(16, .int j)], [(0, .rows true 0 3 [zco ⟨m,next,turn⟩]),(1, .rows true 0 1 (zkq (isR nb) zw0 m j))],2⟩)
  (fun d j=>j+d=m) ?_ m 0 ?_) ?_ ?_
 ·rintro d j i1 hrec
  refine J0 ?_
  refine zEr (fun hj=> ?_) (fun hj=> ?_)<;>simp at hj
  ·refine J1 hj ?_
   refine aP (hN j) ?_
   refine J1 hj ?_
   refine zEp (hrec (d - 1) aa (j+1) aa) ?_ ad
   have e:(zkq (isR nb) zw0 m j).set j [zai (nb j)]=zkq (isR nb) zw0 m (j+1):=zt9 _ _ _ _
   simp only [zai] at e
   simp [go_sem,zad,e]
  ·obtain rfl:j=m:=by omega
   have hnn:∀q,q<j→nth (zkq (isR nb) zw0 j j) q= [zai (nb q)]:=fun q hq=>by rw [zBj hq,if_pos hq];rfl
   obtain ⟨NR,hNR⟩:∃NR,NR=zkq (isR nb) zw0 j j:=⟨_,rfl⟩
   have hNl:NR.length=j:=by rw [hNR];exact zt8 _ _ _ _
   have hNb:∀n,(∀r ∈ NR,∀c ∈ r,Bel n c)=True:=fun n=>by rw [hNR];exact zpW
   rw [← hNR] at hnn ⊢
   refine J1 hNl ?_
   refine zEp (zEs (α:=Nat) (fun a=>⟨[(1, .ref 0 0 3 0 0),(3, .sl 1 0 1 0 j),(5, .sl 2 0 1 0 j),(30, .int j),(31, .int a)], [(0, .rows true 0 3 [zco ⟨j,next,turn⟩]),(1, .rows true 0 1 NR),(2, .rows true 0 1 (zkq (isR (zlm nb j)) zw0 j a))],3⟩)
    (fun d a=>a+d=j) ?_ j 0 ?_) ?_ ?_
   ·rintro d0 a i1' hrec
    refine J0 ?_
    refine zEr (fun ha=> ?_) (fun ha=> ?_)<;>simp at ha
    ·refine J1 ha ?_
     refine zEP (args':= [zai [-1], .int j]) (za6 _ [3]) (zhc (-1) j aa) (zbf _ _) (zav.cons (LeV.frz rfl ad aj (.refl _)) (.refl _ _ _ _)) ae ?_
     have hF0:(List.replicate j [AV.v (.int .i64 (-1))]).set a [.v (.int .i64 0)]=((List.replicate j (-1)).set a 0).map zaB:=by rw [List.map_set,List.map_replicate];rfl
     refine J1 ha ?_
     rw [hF0]
     obtain ⟨D,hD⟩:∃D,D=zlm nb j a:=⟨_,rfl⟩
     obtain ⟨F0,hF0⟩:∃F0,F0=(List.replicate j (-1:Int)).set a 0:=⟨_,rfl⟩
     have hF0l:F0.length=j:=by rw [hF0];simp
     have hneg:zmH F0+1≤j+1:=by
      have:zmH F0≤F0.length:=List.countP_le_length
      omega
     have hok0:FOk j (j+1 - (zmH F0+1:Nat)) (F0, [(a:Int)]):=by
      refine ⟨hF0l,fun e he=> ?_,fun x hx=> ?_,fun x hx=> ?_⟩
      ·rw [hF0] at he
       rcases List.mem_or_eq_of_mem_set he with he|rfl
       ·have:=List.eq_of_mem_replicate he
        omega
       ·omega
      ·simp only [List.mem_singleton] at hx
       subst hx
       omega
      ·simp only [List.mem_singleton] at hx
       subst hx
       simp only
       rw [hF0,zdZ,if_pos ⟨rfl,by simpa using ha⟩]
       exact Int.le_refl _
     have hD0:D=zrF nb (·+1) (zmH F0+1) (F0, [(a:Int)]):=by rw [hD,hF0];rfl
     rw [← hF0]
     refine zEp (zEs (α:=List Int×Nat×Nat×Nat×List Int) (fun s=>⟨[(1, .ref 0 0 3 0 0),(3, .sl 1 0 1 0 j),(5, .sl 2 0 1 0 j),(6, .int a),(7, .sl 4 0 1 0 j),(8, .sl 5 s.2.1 1 s.2.2.1 s.2.2.2.1),(30, .int j),(31, .int a)],
      [(0, .rows true 0 3 [zco ⟨j,next,turn⟩]),(1, .rows true 0 1 NR),(2, .rows true 0 1 (zkq (isR (zlm nb j)) zw0 j a)),(4, .rows true 0 1 (s.1.map zaB)),(5, .rows true s.2.1 1 (s.2.2.2.2.map zaB))],6⟩)
      (fun d s=>d=zmH s.1+s.2.2.2.1∧s.2.2.1+s.2.2.2.1=s.2.2.2.2.length∧d≤j+1∧FOk j (j+1 - (d:Int)) (s.1,s.2.2.2.2.drop s.2.2.1)∧D=zrF nb (·+1) d (s.1,s.2.2.2.2.drop s.2.2.1)) ?_ (zmH F0+1) (F0,0,0,1, [(a:Int)]) ?_) ?_ ?_
     ·rintro d ⟨F,gq,i,L,RQ⟩ ⟨k1,k2,k3,k4,k5⟩ hrec2
      simp only at k1 k2 k3 k4 k5
      have hFl:=k4.fl
      simp only at hFl
      refine J0 ?_
      refine zEr (fun hL=> ?_) (fun hL=> ?_)<;>simp at hL
      ·have hi:i<RQ.length:=by omega
       obtain ⟨q,hq⟩:∃q,nth RQ i=q:=⟨_,rfl⟩
       have hcons:RQ.drop i=q::RQ.drop (i+1):=by rw [zcs hi,hq]
       obtain ⟨d,rfl⟩:∃d',d=d'+1:=⟨d - 1,aa⟩
       have hqm:q ∈ (F,RQ.drop i).2:=by rw [hcons];simp
       obtain ⟨hq1,hq2⟩:=k4.qv q hqm
       have hqf:=k4.qf q hqm
       simp only at hqf
       have hqv:=(k4.fv _ (zag (l:=F) (i:=q.toNat) aa)).2
       obtain ⟨v,hv⟩:∃v,nth F q.toNat+1=v:=⟨_,rfl⟩
       have hnq:=hnn q.toNat hq2
       obtain ⟨nl,hnl⟩:∃nl,nl=nb q.toNat:=⟨_,rfl⟩
       have hnlv:=hnv q.toNat
       rw [← hnl] at hnq hnlv
       obtain ⟨S,hS⟩:∃S,S=zhV v nl (F,RQ.drop i):=⟨_,rfl⟩
       have hD2:D=zrF nb (·+1) d (S.1,S.2.drop 1):=by
        rw [k5,hcons,zrF]
        simp only
        rw [hv,← hnl,← hcons,← hS]
       refine J6 hi hq hq1 hq2 hnq hNl ?_
       refine zEp (zEs (α:=Nat×List Int×Nat×Nat×Nat×List Int) (fun s=>⟨[(1, .ref 0 0 3 0 0),(3, .sl 1 0 1 0 j),(5, .sl 2 0 1 0 j),(6, .int a),(7, .sl 4 0 1 0 j),(8, .sl 5 s.2.2.1 1 s.2.2.2.1 s.2.2.2.2.1),(30, .int j),(31, .int a),(53,zai nl),(54, .int nl.length),(55, .int s.1)],
        [(0, .rows true 0 3 [zco ⟨j,next,turn⟩]),(1, .rows true 0 1 NR),(2, .rows true 0 1 (zkq (isR (zlm nb j)) zw0 j a)),(4, .rows true 0 1 (s.2.1.map zaB)),(5, .rows true s.2.2.1 1 (s.2.2.2.2.2.map zaB))],6⟩)
        (fun d2 s=>s.1+d2=nl.length∧s.2.2.2.1+s.2.2.2.2.1=s.2.2.2.2.2.length∧0<s.2.2.2.2.1∧nth s.2.2.2.2.2 s.2.2.2.1=q∧FOk j (j+1 - (d:Int)) (s.2.1,s.2.2.2.2.2.drop s.2.2.2.1)∧nth s.2.1 q.toNat=nth F q.toNat∧
         zhV v (nl.drop s.1) (s.2.1,s.2.2.2.2.2.drop s.2.2.2.1)=S∧zmH s.2.1+s.2.2.2.2.1=d+1) ?_ nl.length (0,F,gq,i,L,RQ) ?_) ?_ ?_
       ·rintro d2 ⟨jj,F2,g2,i2,L2,R2⟩ ⟨l1,l2,l3,l4,l5,l6,l7,l8⟩ hrec3
        simp only at l1 l2 l3 l4 l5 l6 l7 l8
        have hF2:=l5.fl
        simp only at hF2
        have hi2:i2<R2.length:=aa
        refine J0 ?_
        refine zEr (fun hjj=> ?_) (fun hjj=> ?_)<;>simp at hjj
        ·obtain ⟨x,hx⟩:∃x,nth nl jj=x:=⟨_,rfl⟩
         obtain ⟨hx1,hx2⟩:=hnlv.2 x cZ
         have hx3:x.toNat<F2.length:=aa
         have hx4:x.toNat<j:=aa
         have hst:=ziV (v:=v) l5 ⟨aa,aa⟩ (x:=x) ⟨hx1,hx4⟩
         rw [zcs hjj,hx,ziU] at l7
         refine J5 hjj hx hx1 hx3 hx4 ?_
         refine zEr (fun hneg=> ?_) (fun hneg=> ?_)<;>simp at hneg
         ·have hes:zeb v (F2,R2.drop i2) x=(F2.set x.toNat v,R2.drop i2++ [x]):=if_pos hneg
          rw [hes] at l7 hst
          obtain ⟨s1,s2,s3⟩:=hst
          simp only at s1 s2 s3
          have hq4:nth F2 q.toNat+1=v:=by rw [l6,hv]
          have hq3:q.toNat<F2.length:=aa
          refine J10 hi2 l4 hq1 hq2 hq3 hx1 hx3 hx4 hF2 hq4 ?_
          refine zEp (hrec3 (d2 - 1) aa (jj+1,F2.set x.toNat v,g2+1,0,L2+1,R2.drop i2++ [x]) ⟨ah, ?_,ah, ?_, ?_, ?_,l7, ?_⟩) ?_ ad
          ·simp;omega
          ·simp only
           rw [zcs hi2,l4]
           rfl
          ·exact s1
          ·simp only
           rw [s3 q.toNat aa]
           exact l6
          ·simp only [List.length_append,List.length_drop,List.length_singleton] at s2
           simp only
           omega
          ·simp [go_sem,zad,List.map_set,hNb]
           exact fun x hx=>za4 _ x (List.mem_of_mem_drop hx)
         ·have hes:zeb v (F2,R2.drop i2) x=(F2,R2.drop i2):=if_neg ah
          rw [hes] at l7
          refine J0 ?_
          refine zEp (hrec3 (d2 - 1) aa (jj+1,F2,g2,i2,L2,R2) ⟨ah,l2,l3,l4,l5,l6,l7,l8⟩) ?_ ad
          simp [go_sem,zad,hNb]
        ·rw [List.drop_eq_nil_of_le hjj] at l7
         have hS2:S=(F2,R2.drop i2):=l7.symm
         rw [hS2] at hD2
         simp only [List.drop_drop] at hD2
         refine J1 l3 ?_
         refine zEp (hrec2 d aa (F2,g2,i2+1,L2 - 1,R2) ⟨ah,ah,aa, ?_,hD2⟩) ?_ ad
         ·have:=l5.drop
          simp only [List.drop_drop] at this
          exact this
         ·simp [go_sem,zad,hNb]
       ·refine ⟨ad,k2,hL,hq,k4.mono aa,rfl,hS.symm,ah⟩
       ·simp [go_sem,zad,hNb]
       ·simp
      ·obtain rfl:L=0:=by omega
       have hnil:RQ.drop i= []:=List.drop_eq_nil_of_le aa
       have hDF:D=F:=by
        rw [k5,hnil]
        cases d<;>rfl
       refine J1 ha ?_
       refine zEp (hrec (d0 - 1) aa (a+1) aa) ?_ ad
       simp [go_sem,zad,hNb]
       rw [← zt9]
       refine znO (.cons ?_ .nil) _ _
       refine zak rfl (by simp [hFl]) aR ?_
       rw [List.drop_zero,List.take_of_length_le (by simp [hFl]),← hD,hDF]
     ·exact ⟨rfl,rfl,hneg,hok0,hD0⟩
     ·simp [go_sem,zad,hNb,hF0l]
     ·simp
    ·obtain rfl:a=j:=by omega
     refine J0 ?_
     refine zak rfl ae aV ?_
     rw [List.drop_zero,List.take_of_length_le ae,zBh]
     try rw [List.map_map]
     rfl
   ·omega
   ·simp [go_sem,zad,zw0,hNb]
   ·simp
 ·omega
 ·simp [go_sem,zad,zw0]
 ·simp
def znx (b0:Nat) (ls:List (List Int)):List (List AV):=(List.range ls.length).map fun k=> [.sl (b0+k) (nth ls k).length 1 0 (nth ls k).length]
def zCv (ls:List (List Int)) (k:Nat):zbp:= .rows true (nth ls k).length 1 ((nth ls k).map zaB)
def zz7 (b0:Nat) (ls:List (List Int)):List (Nat×zbp):=(List.range ls.length).map fun k=>(b0+k,zCv ls k)
@[go_sem] theorem zBq (b0:Nat) (ls:List (List Int)):(znx b0 ls).length=ls.length:=by simp [znx]
theorem zug {b0:Nat}{ls:List (List Int)}{k:Nat} (h:k<ls.length):nth (znx b0 ls) k= [.sl (b0+k) (nth ls k).length 1 0 (nth ls k).length]:=by
 rw [zap _ _ (by rw [zBq];exact h)]
 simp [znx]
theorem zuf {b0:Nat}{ls:List (List Int)}{p:Nat×zbp} (h:p ∈ zz7 b0 ls):∃k,k<ls.length∧p=(b0+k,zCv ls k):=by
 obtain ⟨k,hk,rfl⟩:=List.mem_map.1 h
 exact ⟨k,List.mem_range.1 hk,rfl⟩
theorem zy7 {f:Nat→zbp}{b0:Nat}:∀ {l:List Nat}{k:Nat},k ∈ l→mkH (l.map fun k=>(b0+k,f k)) (b0+k)=some (f k)
 |a::l,k,h=>by
  simp only [List.map_cons,mkH,upd]
  by_cases e:k=a
  ·subst e;simp
  ·rw [if_neg aa]
   rcases List.mem_cons.1 h with h|h
   ·exact absurd h e
   ·exact zy7 h
theorem zhp {b0:Nat}{ls:List (List Int)}{k:Nat} (h:k<ls.length):mkH (zz7 b0 ls) (b0+k)=some (.rows true (nth ls k).length 1 ((nth ls k).map zaB)):=zy7 (List.mem_range.2 h)
theorem ze5 {ls:List (List Int)}{c k:Nat}{x:Int} (hc:c<ls.length):nth (zif ls c x) k=if c=k then nth ls c++ [x] else nth ls k:=by
 unfold zif
 by_cases hk:k<ls.length
 ·rw [zap _ _ aC,List.getElem_set,zap _ _ hk]
 ·have:c≠k:=by omega
  rw [if_neg this]
  unfold nth
  simp [List.getD_eq_getElem?_getD,List.getElem?_set,this]
theorem zgh (ls:List (List Int)) (c:Nat) (x:Int):(zif ls c x).length=ls.length:=by simp [zif]
theorem zoX {b0:Nat}{ls:List (List Int)}{c n:Nat} (hc:c<ls.length) (x:Int) (hn:n=(nth ls c).length+1):(znx b0 ls).set c [.sl (b0+c) n 1 0 n]=znx b0 (zif ls c x):=by
 subst hn
 refine List.ext_getElem (by simp [znx,zif]) fun i h1 h2=> ?_
 rw [List.getElem_set]
 simp only [znx,List.getElem_map,List.getElem_range,ze5 hc]
 by_cases e:c=i
 ·subst e;simp
 ·rw [if_neg e,if_neg e]
theorem zyx {b0 n n':Nat}{ls:List (List Int)}{h h':zaq} (hat:∀k,k<ls.length→h (b0+k)=some (zCv ls k)) (hn:b0+ls.length≤n'):∀p ∈ zz7 b0 ls,p.1<n'∧LeO h h' n p.1 (h p.1) p.2∧zCe n' p.2:=by
 intro p hp
 obtain ⟨k,hk,rfl⟩:=zuf hp
 refine ⟨ah, ?_,za4 _⟩
 rw [hat k hk]
 exact .same (fun h=>h) (.refl _)
theorem zDE {b0 n m:Nat}{h h':zaq} (hn:n≤b0) (hat:∀k,k<m→h' (b0+k)=some (.rows true 0 1 [])):zaN h h' n (List.replicate m [.v (.slice none 0 0)]) (znx b0 (List.replicate m [])):=by
 have key:∀ (d i:Nat),i+d=m→zaN h h' n (List.replicate d [.v (.slice none 0 0)]) ((List.range' i d).map fun k=> [.sl (b0+k) (nth (List.replicate m ([]:List Int)) k).length 1 0 (nth (List.replicate m ([]:List Int)) k).length]):=by
  intro d
  induction d with
  |zero=>intro i _;exact .nil
  |succ d ih=>
   intro i hi
   rw [List.replicate_succ,List.range'_succ,List.map_cons]
   have e:nth (List.replicate m ([]:List Int)) i= []:=by rw [zap _ _ ak];simp
   rw [e]
   exact .cons (.cons (.own aa (hat i aa)) .nil) (ih (i+1) aa)
 have:=key m 0 aa
 rw [← List.range_eq_range'] at this
 unfold znx
 rw [List.length_replicate]
 exact this
theorem zDD {b0 n:Nat}{ls:List (List Int)}{h h':zaq} (hat:∀k,k<ls.length→h (b0+k)=some (zCv ls k)) (hat':∀k,k<ls.length→h' (b0+k)=none):zaN h h' n (znx b0 ls) ((List.range ls.length).map (isR (nth ls))):=by
 unfold znx
 have key:∀ (l:List Nat),(∀k ∈ l,k<ls.length)→zaN h h' n (l.map fun k=> [.sl (b0+k) (nth ls k).length 1 0 (nth ls k).length]) (l.map (isR (nth ls))):=by
  intro l
  induction l with
  |nil=>intro _;exact .nil
  |cons k l ih=>
   intro hl
   rw [List.map_cons,List.map_cons]
   refine .cons (.cons ?_ .nil) (ih fun j hj=>hl j (by simp [hj]))
   have hk:=hl k ad
   refine zak (hat k hk) ad (fun g sz rs e=>by rw [hat' k hk] at e;cases e) ?_
   rw [List.drop_zero,List.take_of_length_le ad]
 exact key _ fun k hk=>List.mem_range.1 hk
theorem zkt {b0 n:Nat}{ls:List (List Int)} (hn:b0+ls.length≤n):∀r ∈ znx b0 ls,∀c ∈ r,Bel n c:=by
 intro r hr c hc
 obtain ⟨k,hk,rfl⟩:=List.mem_map.1 hr
 simp only [List.mem_singleton] at hc
 subst hc
 have:=List.mem_range.1 hk
 exact .sl aa
theorem zCB {h h':zaq}{n o g sz:Nat}{rs rs':List (List AV)} (ho:h o=some (.rows true g sz rs)) (hr:zaN h h' n rs rs'):LeO h h' n o (h o) (.rows true g sz rs'):=by
 rw [ho]
 exact .same (fun h=>h) hr
def zCC (b:zay):List (List Int):=zgg (fun (q:Nat)=>zgW b q) b.cells.toNat (List.replicate b.cells.toNat [])
def zdS (b:zay):List Int:=zbI (nth (zCC b)) b.cells.toNat (List.replicate b.cells.toNat (-1))
theorem zBK {b:zay}{c x:Int} (h:x ∈ zgW b c):x≠c:=by
 unfold zgW at h
 rw [zla] at h
 have h1:=znI h
 unfold zpd at h1
 rw [List.mem_filter,decide_eq_true_eq] at h1
 exact h1.2.2
theorem zuY (b:zay) (hb:zaP b) (h8:b.next.length≤8) (h9:b.cells≤9):zaD Tryz.prog 110 [.agg (zco b)] (zai (zdS b)):=by
 refine pF Tryz.func110 ?_
 have hN:=fun (c:Nat)=>zpG b hb h8 c
 obtain ⟨nb,hnb⟩:∃nb:Nat→List Int,nb=fun (q:Nat)=>zgW b q:=⟨_,rfl⟩
 have hnv:∀q:Nat,(nb q).length≤8∧∀x ∈ nb q,(0≤x∧x<b.cells)∧x≠q:=fun q=>by
  rw [hnb]
  exact ⟨Nat.le_trans (zlV b q) h8,fun x hx=>⟨zih hb hx,zBK hx⟩⟩
 have hres:zdS b=zbI (nth (zgg nb b.cells.toNat (List.replicate b.cells.toNat []))) b.cells.toNat (List.replicate b.cells.toNat (-1)):=by rw [hnb];rfl
 have hN:∀c:Nat,zaD Tryz.prog 158 [.agg (zco b), .int c] (zai (nb c)):=fun c=>by rw [hnb];exact hN c
 rw [hres]
 clear hres hnb
 have hc0:=hb.c0
 obtain ⟨cells,next,turn⟩:=b
 simp only at h8 h9 hnv hN hc0 ⊢
 obtain ⟨m,rfl⟩:=Int.eq_ofNat_of_zero_le hc0
 simp only [Int.toNat_natCast]
 clear hb
 have hnm:∀q,q<m→(nb q).length≤8∧∀x ∈ nb q,0≤x∧x.toNat<m:=fun q hq=>⟨(hnv q).1,fun x hx=>by have:=((hnv q).2 x hx).1;omega⟩
 obtain ⟨G,hG⟩:∃G:Nat→List (List Int),G=fun n=>zgg nb n (List.replicate m []):=⟨_,rfl⟩
 have hGok:∀n,n≤m→zCQ m (2 * 8 * n) (G n):=fun n hn=>by rw [hG];exact zi4 hnm hn
 have hG0:G 0=List.replicate m []:=by rw [hG];rfl
 have hGs:∀n,G (n+1)=zlK n (nb n) (G n):=fun n=>by rw [hG];rfl
 rw [show zgg nb m (List.replicate m [])=G m by rw [hG]]
 clear hG
 obtain ⟨D,hD⟩:∃D,D=zbI (nth (G m)) m (List.replicate m (-1)):=⟨_,rfl⟩
 rw [← hD]
 have n1:∀k,¬1=2+k:=aa
 have n2:∀k,¬0=2+k:=aa
 have n3:∀k,¬2+k=1:=aa
 have n4:∀k,¬2+k=0:=aa
 refine J0 ?_
 refine zEp (zEs (α:=Nat) (fun c=>⟨[(1, .ref 0 0 3 0 0),(3, .sl 1 0 1 0 m),(16, .int m),(17, .int c)],(0, .rows true 0 3 [zco ⟨m,next,turn⟩])::(1, .rows true 0 1 (znx 2 (G c)))::zz7 2 (G c),2+m⟩)
  (fun d c=>c+d=m) ?_ m 0 ?_) ?_ ?_
 ·rintro d c i1 hrec
  have hGl:=(hGok c aa).ll
  refine J1 hGl ?_
  refine zEr (fun hc=> ?_) (fun hc=> ?_)<;>simp at hc
  ·refine J1 hc ?_
   refine aP (hN c) ?_
   have hnlv:=hnv c
   have hGc:=hGs c
   generalize nb c=nl at hnlv hGc ⊢
   refine J0 ?_
   refine zEp (zEs (α:=Nat×List (List Int)) (fun s=>⟨[(1, .ref 0 0 3 0 0),(3, .sl 1 0 1 0 m),(4, .int c),(16, .int m),(17, .int c),(22,zai nl),(23, .int nl.length),(24, .int s.1)],(0, .rows true 0 3 [zco ⟨m,next,turn⟩])::(1, .rows true 0 1 (znx 2 s.2))::zz7 2 s.2,2+m⟩)
    (fun d2 s=>s.1+d2=nl.length∧zCQ m (2 * 8 * c+2 * s.1) s.2∧zlK c (nl.drop s.1) s.2=G (c+1)) ?_ nl.length (0,G c) ?_) ?_ ?_
   ·rintro d2 ⟨jj,ls⟩ ⟨l1,l2,l3⟩ hrec2
    simp only at l1 l2 l3
    have hll:=l2.ll
    refine J0 ?_
    refine zEr (fun hjj=> ?_) (fun hjj=> ?_)<;>simp at hjj
    ·obtain ⟨x,hx⟩:∃x,nth nl jj=x:=⟨_,rfl⟩
     obtain ⟨⟨hx1,hx2⟩,hx3⟩:=hnlv.2 x cZ
     have hx4:x.toNat<m:=aa
     have hx5:x.toNat≠c:=aa
     have hx6:c≠x.toNat:=aa
     have hr1:nth (znx 2 ls) c= [.sl (2+c) (nth ls c).length 1 0 (nth ls c).length]:=zug aa
     have hh1:mkH (zz7 2 ls) (2+c)=some (.rows true (nth ls c).length 1 ((nth ls c).map zaB)):=zhp aa
     have hr2:nth ((znx 2 ls).set c [.sl (2+c) ((nth ls c).length+1) 1 0 ((nth ls c).length+1)]) x.toNat= [.sl (2+x.toNat) (nth ls x.toNat).length 1 0 (nth ls x.toNat).length]:=by
      rw [zoX aa x rfl,zug (by rw [zgh];omega),ze5 aa,if_neg hx6]
     have hh2:mkH (zz7 2 ls) (2+x.toNat)=some (.rows true (nth ls x.toNat).length 1 ((nth ls x.toNat).map zaB)):=zhp aa
     have hb1:=(l2.lv _ (zag (l:=ls) (i:=c) aa)).1
     have hb2:=(l2.lv _ (zag (l:=ls) (i:=x.toNat) aa)).1
     rw [zcs hjj,hx,zlL] at l3
     have a1:¬c=m:=aa
     have a2:¬x.toNat=m:=aa
     have a3:¬m=c:=aa
     have a4:¬m=x.toNat:=aa
     have a5:¬1000000≤2+(m+1):=aa
     have a6:¬1000000≤2+(m+2):=aa
     have a7:¬x.toNat=m+1:=aa
     have a8:((nth ls c).length+1) * 8≤17592186044416:=aa
     have a9:((nth ls x.toNat).length+1) * 8≤17592186044416:=aa
     repeat first|refine wV fun _=>?_|simp [go_sem,hjj,hx,hc,hx1,hx4,hx5,hx6,hr1,hh1,hr2,hh2,hll,a1,a2,a3,a4,a5,a6,a7,a8,a9,n1,n2,n3,n4]
     have hp1:=zkx l2 hc (x:=x) ⟨hx1,hx4⟩
     have hp2:=zkx hp1 hx4 (x:=(c:Int)) ⟨aa,by simpa using hc⟩
     have e1:=zoX (b0:=2) (ls:=ls) (c:=c) aa x rfl
     have e2:=zoX (b0:=2) (ls:=zif ls c x) (c:=x.toNat) (n:=(nth ls x.toNat).length+1) (by rw [zgh];omega) (c:Int) (by rw [ze5 aa,if_neg hx6])
     rw [← e1] at e2
     simp only [Int.toNat_natCast] at l3
     obtain ⟨ls2,hls2⟩:∃ls2,ls2=zif (zif ls c x) x.toNat c:=⟨_,rfl⟩
     have hl2:ls2.length=m:=by rw [hls2,zgh,zgh,hll]
     have hn2:∀k,nth ls2 k=if x.toNat=k then nth ls x.toNat++ [(c:Int)] else if c=k then nth ls c++ [x] else nth ls k:=fun k=>by
      rw [hls2,ze5 (by rw [zgh];omega),ze5 aa,ze5 aa,if_neg hx6]
     rw [← hls2] at e2 l3 hp2
     refine zEp (hrec2 (d2 - 1) aa (jj+1,ls2) ⟨ah,⟨hp2.ll,fun l hl=>⟨by have:=(hp2.lv l hl).1;simp only;omega,(hp2.lv l hl).2⟩⟩,l3⟩) ?_ ad
     refine ⟨by simp [go_sem];omega,fun p hp=> ?_⟩
     simp only at hp ⊢
     rcases List.mem_cons.1 hp with rfl|hp
     ·simp [go_sem,n1,n2]
      omega
     rcases List.mem_cons.1 hp with rfl|hp
     ·simp [go_sem,n1,n2,e2]
      refine ⟨aa,zkt aa⟩
     ·refine zyx (ls:=ls2) (fun k hk=> ?_) aa p hp
      have hkm:¬m=k:=aa
      have hkm1:¬k=m+1:=aa
      have hkm2:¬k=m:=aa
      have hk1:mkH (zz7 2 ls) (2+k)=some (.rows true (nth ls k).length 1 ((nth ls k).map zaB)):=zhp aa
      have q0:¬k=m+1:=aa
      simp only [zCv,hn2,upd,n3,n4,hkm1,hkm2,if_false]
      by_cases q1:x.toNat=k
      ·have q3:¬c=k:=by omega
       subst q1
       simp [q3,zaB,n3,n4]
      ·by_cases q2:c=k
       ·subst q2
        simp [q1,zaB,n3,n4,hx5,Ne.symm q1]
        omega
       ·simp [q1,q2,n3,n4,Ne.symm q1,Ne.symm q2,hkm2,hkm1,hk1]
    ·rw [List.drop_eq_nil_of_le hjj] at l3
     have l3':ls=G (c+1):=l3
     subst l3'
     refine J4 n1 n2 n3 n4 ?_
     refine zEp (hrec (d - 1) aa (c+1) aa) ?_ ad
     refine ⟨dx,fun p hp=> ?_⟩
     simp only at hp ⊢
     rcases List.mem_cons.1 hp with rfl|hp
     ·simp [go_sem,n1,n2]
      try omega
     rcases List.mem_cons.1 hp with rfl|hp
     ·simp [go_sem,n1,n2]
      refine ⟨aa,zkt aa⟩
     ·refine zyx (ls:=G (c+1)) (fun k hk=> ?_) aa p hp
      simp only [upd,n3,n4,if_false]
      exact zhp hk
   ·exact ⟨ad,hGok c aa,hGc.symm⟩
   ·refine ⟨dx,fun p hp=> ?_⟩
    simp only at hp ⊢
    rcases List.mem_cons.1 hp with rfl|hp
    ·simp [go_sem,n1,n2]
     try omega
    rcases List.mem_cons.1 hp with rfl|hp
    ·simp [go_sem,n1,n2]
     refine ⟨aa,zkt aa⟩
    ·refine zyx (ls:=G c) (fun k hk=> ?_) aa p hp
     simp only [upd,n3,n4,if_false]
     exact zhp hk
   ·simp
  ·obtain rfl:c=m:=by omega
   have hNl:((List.range c).map (isR (nth (G c)))).length=c:=ad
   have hnn:∀q,q<c→nth ((List.range c).map (isR (nth (G c)))) q= [zai (nth (G c) q)]:=fun q hq=>by rw [zap _ _ (by simpa using hq)];simp [isR]
   have hNb:∀n,(∀r ∈ (List.range c).map (isR (nth (G c))),∀e ∈ r,Bel n e)=True:=fun n=>by
    refine eq_true fun r hr e he=> ?_
    obtain ⟨k, _,rfl⟩:=List.mem_map.1 hr
    simp only [isR,List.mem_singleton] at he
    subst he
    exact of_eq_true zhJ
   have hGo:=hGok c (Nat.le_refl _)
   have hlkv:∀q,q<c→∀x ∈ nth (G c) q,0≤x∧x.toNat<c:=fun q hq=>(hGo.lv _ (zag (by rw [hGl];exact hq))).2
   have hlkl:∀q,q<c→(nth (G c) q).length≤144:=fun q hq=>by have:=(hGo.lv _ (zag (l:=G c) (i:=q) (by rw [hGl];exact hq))).1;omega
   refine J4 n1 n2 n3 n4 ?_
   refine zEP (args':= [zai [-1], .int c]) (za6 _ [2+c]) (zhc (-1) c aa) (zbf _ _) (zav.cons (LeV.frz (zax _ _ _) ad aj (.refl _)) (.refl _ _ _ _)) ae ?_
   refine J4 n1 n2 n3 n4 ?_
   have n5:1<2+(c+2):=aa
   have n6:1<2+(c+3):=aa
   obtain ⟨NR,hNR⟩:∃NR,NR=(List.range c).map (isR (nth (G c))):=⟨_,rfl⟩
   obtain ⟨lk,hlk⟩:∃lk,lk=nth (G c):=⟨_,rfl⟩
   obtain ⟨Pf,hPf⟩:∃Pf:Nat→List Int,Pf=fun k=>zbI (nth (G c)) k (List.replicate c (-1)):=⟨_,rfl⟩
   have hP0:Pf 0=List.replicate c (-1):=by rw [hPf];rfl
   have hPs:∀k,Pf (k+1)=if 0≤nth (Pf k) k then Pf k else bfs lk (fun _=>k) ((Pf k).set k k, [(k:Int)]):=fun k=>by rw [hPf,hlk];rfl
   have hPo:∀k,k≤c→(Pf k).length=c∧(∀e ∈ Pf k, -1≤e)∧∀e ∈ Pf k,e≤c:=fun k hk=>by
    have hlkv':∀q,q<c→∀x ∈ nth (G c) q,0≤x∧x.toNat<c:=hlkv
    have h1:=zgN hlkv' hk
    have h2:=zjd hlkv' hk
    rw [hPf]
    exact ⟨h1.1,h1.2.1,fun e he=>by have:=h2 e he;omega⟩
   have hDP:D=Pf c:=by rw [hD,hPf]
   clear hD
   rw [← hlk] at hlkv hlkl
   have hle:∀h h':zaq,(∀k,k<c→h (2+k)=some (zCv (G c) k))→(∀k,k<c→h' (2+k)=none)→∀n,zaN h h' n (znx 2 (G c)) NR:=fun h h' h1 h2 n=>by
    have:=zDD (n:=n) (ls:=G c) (b0:=2) (h:=h) (h':=h') (by rw [hGl];exact h1) (by rw [hGl];exact h2)
    rw [hGl] at this
    rw [hNR]
    exact this
   have hgat:∀k,k<c→mkH (zz7 2 (G c)) (2+k)=some (zCv (G c) k):=fun k hk=>zhp (by rw [hGl];exact hk)
   rw [← hNR] at hNb hNl hnn
   rw [← hlk] at hnn
   clear hPf hlk hNR
   refine zEp (zEs (α:=Nat) (fun k=>⟨[(3, .sl 1 0 1 0 c),(7, .sl (2+(c+1)) 0 1 0 c),(55, .int c),(56, .int k)], [(1, .rows true 0 1 NR),(2+(c+1), .rows true 0 1 ((Pf k).map zaB))],2+(c+2)⟩)
    (fun d k=>k+d=c) ?_ c 0 ?_) ?_ ?_
   ·rintro d1 k j1 hrec1
    obtain ⟨hPl,hPn,hPb⟩:=hPo k aa
    have hPk:=hPs k
    generalize hF0:Pf k=F0 at hPl hPn hPb hPk ⊢
    refine J4 n1 n2 n3 n4 ?_
    refine zEr (fun hk=> ?_) (fun hk=> ?_)<;>simp at hk
    ·refine J6 hk hPl n1 n2 n3 n4 ?_
     refine zEr (fun hneg=> ?_) (fun hneg=> ?_)<;>simp at hneg
     ·rw [if_pos hneg] at hPk
      refine J4 n1 n2 n3 n4 ?_
      refine zEp (hrec1 (d1 - 1) aa (k+1) aa) ?_ ad
      simp [go_sem,zad,hPk,hNb,n5,n6,n1,n2,n3,n4]
     ·rw [if_neg aa] at hPk
      refine J6 hk hPl n1 n2 n3 n4 ?_
      have hF1:(F0.map zaB).set k [.int k]=(F0.set k (k:Int)).map zaB:=by rw [List.map_set];rfl
      simp only [hF1]
      obtain ⟨F1,hF1'⟩:∃F1,F1=F0.set k (k:Int):=⟨_,rfl⟩
      have hF1l:F1.length=c:=by rw [hF1',List.length_set];exact hPl
      have hok0:FOk c c (F1, [(k:Int)]):=by
       refine ⟨hF1l,fun e he=> ?_,fun x hx=> ?_,fun x hx=> ?_⟩
       ·rw [hF1'] at he
        rcases List.mem_or_eq_of_mem_set he with he|rfl
        ·exact ⟨hPn e he,hPb e he⟩
        ·omega
       ·simp only [List.mem_singleton] at hx
        subst hx
        omega
       ·simp only [List.mem_singleton] at hx
        subst hx
        simp only
        rw [hF1',zdZ,if_pos ⟨rfl,aa⟩]
        omega
      have hneg1:zmH F1+1≤c+1:=by
       have:zmH F1≤F1.length:=List.countP_le_length
       omega
      obtain ⟨E,hE⟩:∃E,E=bfs lk (fun _=>(k:Int)) (F1, [(k:Int)]):=⟨_,rfl⟩
      rw [← hF1',← hE] at hPk
      have hE0:E=zrF lk (fun _=>(k:Int)) (zmH F1+1) (F1, [(k:Int)]):=hE
      rw [← hF1']
      refine zEp (zEs (α:=List Int×Nat×Nat×Nat×List Int) (fun s=>⟨[(3, .sl 1 0 1 0 c),(7, .sl (2+(c+1)) 0 1 0 c),(8, .int k),(9, .sl (2+(c+2)) s.2.1 1 s.2.2.1 s.2.2.2.1),(55, .int c),(56, .int k)],
       [(1, .rows true 0 1 NR),(2+(c+1), .rows true 0 1 (s.1.map zaB)),(2+(c+2), .rows true s.2.1 1 (s.2.2.2.2.map zaB))],2+(c+3)⟩)
       (fun d s=>d=zmH s.1+s.2.2.2.1∧s.2.2.1+s.2.2.2.1=s.2.2.2.2.length∧d≤c+1∧FOk c c (s.1,s.2.2.2.2.drop s.2.2.1)∧E=zrF lk (fun _=>(k:Int)) d (s.1,s.2.2.2.2.drop s.2.2.1)) ?_ (zmH F1+1) (F1,0,0,1, [(k:Int)]) ?_) ?_ ?_
      ·rintro d ⟨F,gq,i,L,RQ⟩ ⟨k1,k2,k3,k4,k5⟩ hrec2
       simp only at k1 k2 k3 k4 k5
       have hFl:=k4.fl
       simp only at hFl
       refine J4 n1 n2 n3 n4 ?_
       refine zEr (fun hL=> ?_) (fun hL=> ?_)<;>simp at hL
       ·have hi:i<RQ.length:=by omega
        obtain ⟨q,hq⟩:∃q,nth RQ i=q:=⟨_,rfl⟩
        have hcons:RQ.drop i=q::RQ.drop (i+1):=by rw [zcs hi,hq]
        obtain ⟨d,rfl⟩:∃d',d=d'+1:=⟨d - 1,aa⟩
        have hqm:q ∈ (F,RQ.drop i).2:=by rw [hcons];simp
        obtain ⟨hq1,hq2⟩:=k4.qv q hqm
        have hnq:=hnn q.toNat hq2
        have hnlv:=hlkv q.toNat hq2
        have hnll:=hlkl q.toNat hq2
        obtain ⟨nl,hnl⟩:∃nl,nl=lk q.toNat:=⟨_,rfl⟩
        rw [← hnl] at hnq hnlv hnll
        obtain ⟨S,hS⟩:∃S,S=zhV (k:Int) nl (F,RQ.drop i):=⟨_,rfl⟩
        have hD2:E=zrF lk (fun _=>(k:Int)) d (S.1,S.2.drop 1):=by
         rw [k5,hcons,zrF]
         simp only
         rw [← hnl,← hcons,← hS]
        refine J10 hi hq hq1 hq2 hnq hNl n1 n2 n3 n4 ?_
        refine zEp (zEs (α:=Nat×List Int×Nat×Nat×Nat×List Int) (fun s=>⟨[(3, .sl 1 0 1 0 c),(7, .sl (2+(c+1)) 0 1 0 c),(8, .int k),(9, .sl (2+(c+2)) s.2.2.1 1 s.2.2.2.1 s.2.2.2.2.1),(55, .int c),(56, .int k),(80,zai nl),(81, .int nl.length),(82, .int s.1)],
         [(1, .rows true 0 1 NR),(2+(c+1), .rows true 0 1 (s.2.1.map zaB)),(2+(c+2), .rows true s.2.2.1 1 (s.2.2.2.2.2.map zaB))],2+(c+3)⟩)
         (fun d2 s=>s.1+d2=nl.length∧s.2.2.2.1+s.2.2.2.2.1=s.2.2.2.2.2.length∧0<s.2.2.2.2.1∧FOk c c (s.2.1,s.2.2.2.2.2.drop s.2.2.2.1)∧
          zhV (k:Int) (nl.drop s.1) (s.2.1,s.2.2.2.2.2.drop s.2.2.2.1)=S∧zmH s.2.1+s.2.2.2.2.1=d+1) ?_ nl.length (0,F,gq,i,L,RQ) ?_) ?_ ?_
        ·rintro d2 ⟨jj,F2,g2,i2,L2,R2⟩ ⟨l1,l2,l3,l5,l7,l8⟩ hrec3
         simp only at l1 l2 l3 l5 l7 l8
         have hF2:=l5.fl
         simp only at hF2
         have hi2:i2<R2.length:=aa
         refine J4 n1 n2 n3 n4 ?_
         refine zEr (fun hjj=> ?_) (fun hjj=> ?_)<;>simp at hjj
         ·obtain ⟨x,hx⟩:∃x,nth nl jj=x:=⟨_,rfl⟩
          obtain ⟨hx1,hx4⟩:=hnlv x cZ
          have hx3:x.toNat<F2.length:=aa
          have hst:=ziV (v:=(k:Int)) l5 ⟨aa,aa⟩ (x:=x) ⟨hx1,hx4⟩
          rw [zcs hjj,hx,ziU] at l7
          refine J9 hjj hx hx1 hx3 hx4 n1 n2 n3 n4 ?_
          refine zEr (fun hng=> ?_) (fun hng=> ?_)<;>simp at hng
          ·have hes:zeb (k:Int) (F2,R2.drop i2) x=(F2.set x.toNat k,R2.drop i2++ [x]):=if_pos hng
           rw [hes] at l7 hst
           obtain ⟨s1,s2,s3⟩:=hst
           simp only at s1 s2 s3
           have a5:¬1000000≤2+(c+3):=aa
           have a6:¬1000000≤2+(c+4):=aa
           have a7:L2≤100:=aa
           have a8:(L2+1) * 8≤17592186044416:=aa
           refine J12 hi2 hx1 hx3 hx4 hF2 a5 a6 a8 n1 n2 n3 n4 ?_
           refine zEp (hrec3 (d2 - 1) aa (jj+1,F2.set x.toNat k,g2+1,0,L2+1,R2.drop i2++ [x]) ⟨ah, ?_,ah, ?_,l7, ?_⟩) ?_ ad
           ·simp;omega
           ·exact s1
           ·simp only [List.length_append,List.length_drop,List.length_singleton] at s2
            simp only
            omega
           ·simp [go_sem,zad,List.map_set,hNb,n5,n6,n1,n2,n3,n4]
            exact fun x hx=>za4 _ x (List.mem_of_mem_drop hx)
          ·have hes:zeb (k:Int) (F2,R2.drop i2) x=(F2,R2.drop i2):=if_neg ah
           rw [hes] at l7
           refine J4 n1 n2 n3 n4 ?_
           refine zEp (hrec3 (d2 - 1) aa (jj+1,F2,g2,i2,L2,R2) ⟨ah,l2,l3,l5,l7,l8⟩) ?_ ad
           simp [go_sem,zad,hNb,n5,n6,n1,n2,n3,n4]
         ·rw [List.drop_eq_nil_of_le hjj] at l7
          have hS2:S=(F2,R2.drop i2):=l7.symm
          rw [hS2] at hD2
          simp only [List.drop_drop] at hD2
          refine J5 l3 n1 n2 n3 n4 ?_
          refine zEp (hrec2 d aa (F2,g2,i2+1,L2 - 1,R2) ⟨ah,ah,aa, ?_,hD2⟩) ?_ ad
          ·have:=l5.drop
           simp only [List.drop_drop] at this
           exact this
          ·simp [go_sem,zad,hNb,n5,n6,n1,n2,n3,n4]
        ·refine ⟨ad,k2,hL,k4,hS.symm,ah⟩
        ·simp [go_sem,zad,hNb,n5,n6,n1,n2,n3,n4]
        ·simp
       ·obtain rfl:L=0:=by omega
        have hnil:RQ.drop i= []:=List.drop_eq_nil_of_le aa
        have hDF:E=F:=by
         rw [k5,hnil]
         cases d<;>rfl
        refine J5 hk n1 n2 n3 n4 ?_
        refine zEp (hrec1 (d1 - 1) aa (k+1) aa) ?_ ad
        simp [go_sem,zad,hNb,n5,n6,n1,n2,n3,n4,hPk,hDF]
      ·exact ⟨rfl,rfl,hneg1,hok0,hE0⟩
      ·simp [go_sem,zad,hNb,hF1l,n5,n6,n1,n2,n3,n4]
      ·simp
    ·obtain rfl:k=c:=by omega
     rw [hDP,hF0]
     refine J4 n1 n2 n3 n4 ?_
     refine zak (mt:=true) (rs:=F0.map zaB) (by simp [upd,n3]) (by simp [hPl]) aV ?_
     rw [List.drop_zero,List.take_of_length_le (by simp [hPl])]
   ·omega
   ·refine ⟨by simp [go_sem,n5],fun p hp=> ?_⟩
    rcases List.mem_cons.1 hp with rfl|hp
    ·refine ⟨ah, ?_,fun r hr e he=>of_eq_true (hNb _) r hr e he⟩
     refine zCB (rs:=znx 2 (G c)) (by simp [upd,za6,n1,n2,n3,n4]) (hle _ _ (fun k hk=> ?_) (fun k hk=> ?_) _)
     ·have q1:¬k=c+1:=by omega
      have q2:¬k=c:=aa
      simp [upd,za6,n1,n2,n3,n4,q1,q2,hgat k hk]
     ·have q1:¬k=c+1:=by omega
      simp [mkH,upd,n1,n2,n3,n4,q1]
    ·rcases List.mem_cons.1 hp with rfl|hp
     ·simp [go_sem,n1,n2,n3,n4,hP0]
     ·cases hp
   ·simp
 ·omega
 ·refine ⟨dx,fun p hp=> ?_⟩
  simp only [hG0] at hp ⊢
  rcases List.mem_cons.1 hp with rfl|hp
  ·simp [go_sem]
   try omega
  rcases List.mem_cons.1 hp with rfl|hp
  ·refine ⟨ah,zCB (rs:=List.replicate m [.v (.slice none 0 0)]) aR (zDE (Nat.le_refl _) fun k hk=> ?_),zkt ad⟩
   have:=zhp (b0:=2) (ls:=List.replicate m []) (k:=k) aC
   have e:nth (List.replicate m ([]:List Int)) k= []:=by rw [zap _ _ aC];simp
   rw [e] at this
   simp [mkH,upd,n3,n4,this]
  ·obtain ⟨k,hk,rfl⟩:=zuf hp
   have hk:k<m:=aC
   have e:nth (List.replicate m ([]:List Int)) k= []:=by rw [zap _ _ aC];simp
   refine ⟨ah, ?_,za4 _⟩
   simp only [zCv,e,List.map_nil,List.length_nil]
   have:∀h:zaq,h (2+k)=none→LeO h (mkH ((0, .rows true 0 3 [zco ⟨m,next,turn⟩])::(1, .rows true 0 1 (znx 2 (List.replicate m [])))::zz7 2 (List.replicate m []))) 2 (2+k) (h (2+k)) (.rows true 0 1 []):=fun h hh=>by rw [hh];exact .own aa
   exact this _ (by simp [upd,n3,n4,noH])
 ·simp
theorem zyW {b:zay} (hb:zaP b) (h8:b.next.length≤8):∀q,q<b.cells.toNat→∀x ∈ nth (zCC b) q,0≤x∧x.toNat<b.cells.toNat:=by
 have hc0:=hb.c0
 have hnm:∀q,q<b.cells.toNat→(zgW b (q:Nat)).length≤8∧∀x ∈ zgW b (q:Nat),0≤x∧x.toNat<b.cells.toNat:=fun q hq=>⟨Nat.le_trans (zlV b q) h8,fun x hx=>by have:=zih hb hx;omega⟩
 have h1:=zi4 (nb:=fun (q:Nat)=>zgW b q) hnm (Nat.le_refl _)
 intro q hq
 have h2:=h1.ll
 exact (h1.lv _ (zag (i:=q) aa)).2
theorem zzl {b:zay} (hb:zaP b) (h8:b.next.length≤8):(zdS b).length=b.cells.toNat∧∀c,c<b.cells.toNat→0≤nth (zdS b) c∧(nth (zdS b) c).toNat<b.cells.toNat:=by
 have hl:=zyW hb h8
 obtain ⟨h1, _,h3⟩:=zgN hl (Nat.le_refl _)
 have h2:=zjd hl (Nat.le_refl _)
 refine ⟨h1,fun c hc=>⟨h3 c hc, ?_⟩⟩
 have h4:=h2 _ (zag (i:=c) (by rw [h1];exact hc))
 have h5:=h3 c hc
 unfold zdS
 omega
theorem zvJ {m a:Nat}{nb:Nat→List Int} (hnb:∀q,q<m→∀x ∈ nb q,0≤x∧x.toNat<m) (ha:a<m):(zlm nb m a).length=m:=by
 refine (zkW (B:=0) hnb (val:=(·+1)) (fun v hv=>⟨aa,aa⟩) _ ⟨ad,fun e he=> ?_,fun x hx=> ?_,fun x hx=> ?_⟩).1
 ·rcases List.mem_or_eq_of_mem_set he with he|rfl
  ·have:=List.eq_of_mem_replicate he
   omega
  ·omega
 ·simp only [List.mem_singleton] at hx
  subst hx
  omega
 ·simp only [List.mem_singleton] at hx
  subst hx
  simp only
  rw [zdZ,if_pos ⟨rfl,by simpa using ha⟩]
  exact Int.le_refl _
def zmN (F:List (List Int)) (P:List Int) (c:Nat):Int:=(if nth (nth F (nth P c).toNat) c<0 then 0 else nth (nth F (nth P c).toNat) c).tmod 2
def zdN (b:zay):List Int:=(List.range b.cells.toNat).map (zmN (zrG b) (zdS b))
theorem zAY (F:List (List Int)) (P:List Int) (c:Nat):0≤zmN F P c∧zmN F P c≤1:=by
 unfold zmN
 generalize nth (nth F (nth P c).toNat) c=v
 split
 ·exact ⟨am,am⟩
 ·rw [Int.tmod_eq_emod_of_nonneg aa]
  omega
theorem zk4 (b:zay) (hb:zaP b) (h8:b.next.length≤8) (h9:b.cells≤9):zaD Tryz.prog 69 [.agg (zco b)] (zai (zdN b)):=by
 have hF:=zAf b hb h8 h9
 have hP:=zuY b hb h8 h9
 obtain ⟨hPl,hPv⟩:=zzl hb h8
 have hnm:∀q,q<b.cells.toNat→∀x ∈ zgW b (q:Nat),0≤x∧x.toNat<b.cells.toNat:=fun q hq x hx=>by have:=zih hb hx;omega
 have hFl:(zrG b).length=b.cells.toNat:=by simp [zrG]
 have hFr:∀a,a<b.cells.toNat→(nth (zrG b) a).length=b.cells.toNat:=fun a ha=>by
  rw [zap _ _ (by rw [hFl];exact ha)]
  simp only [zrG,List.getElem_map,List.getElem_range]
  exact zvJ hnm ha
 have hres:∀n,(List.range (n+1)).map (zmN (zrG b) (zdS b))=(List.range n).map (zmN (zrG b) (zdS b))++ [zmN (zrG b) (zdS b) n]:=fun n=>by rw [List.range_succ,List.map_append];rfl
 have hcv:∀c,zmN (zrG b) (zdS b) c=(if nth (nth (zrG b) (nth (zdS b) c).toNat) c<0 then 0 else nth (nth (zrG b) (nth (zdS b) c).toNat) c).tmod 2:=fun c=>rfl
 obtain ⟨R,hR⟩:∃R:Nat→List Int,R=fun n=>(List.range n).map (zmN (zrG b) (zdS b)):=⟨_,rfl⟩
 have hcB:zdN b=R b.cells.toNat:=de
 have hRs:∀n,R (n+1)=R n++ [zmN (zrG b) (zdS b) n]:=fun n=>by rw [hR];exact hres n
 have hRl:∀n,(R n).length=n:=fun n=>by rw [hR];simp
 have hR0:R 0= []:=de
 rw [hcB]
 clear hcB hR hres
 generalize zrG b=F at *
 generalize zdS b=P at *
 obtain ⟨m,hm⟩:∃m,m=b.cells.toNat:=⟨_,rfl⟩
 rw [← hm] at hPl hPv hFl hFr ⊢
 have hm9:m≤9:=aa
 refine pF Tryz.func69 ?_
 refine J0 ?_
 refine aP hF ?_
 refine J0 ?_
 refine aP hP ?_
 refine J0 ?_
 refine zEp (zEs (α:=Nat) (fun j=>⟨[(3,zbe F),(4, .sl 1 (R j).length 1 0 (R j).length),(10,zai P),(11, .int m),(12, .int j)], [(1, .rows true (R j).length 1 ((R j).map zaB))],2⟩)
  (fun d j=>j+d=m) ?_ m 0 ?_) ?_ ?_
 ·rintro d j i1 hrec
  refine J0 ?_
  refine zEr (fun hj=> ?_) (fun hj=> ?_)<;>simp at hj
  ·obtain ⟨p1,p2⟩:=hPv j hj
   have hfr:=hFr _ p2
   have hRj:=hRs j
   have hRn:=hRl j
   rw [hcv] at hRj
   refine J6 hj hPl hFl hfr p1 p2 ?_
   refine zEp (hrec (d - 1) aa (j+1) aa) ?_ ad
   simp [go_sem,zad,hRj]
  ·obtain rfl:j=m:=by omega
   refine J0 ?_
   refine zak rfl ad aV ?_
   rw [List.drop_zero,List.take_of_length_le ad]
 ·omega
 ·simp [go_sem,zad,hR0,hPl]
 ·simp
end Go.Av
end
