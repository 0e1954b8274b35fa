/- Texts of ours, part 9: our library and contracts of functions. -/
import Derived.Test.YtgdfnfffibhkjaaGreatDoorB08
import Derived.Test.YtgdfnfffibhkjaaGreatDoorProg
import Derived.Shelf.SlSortCmp.NoneTotal
set_option linter.unusedSimpArgs false
set_option linter.unusedVariables false
set_option maxRecDepth 100000
set_option maxHeartbeats 40000000
set_option linter.unusedSectionVars false
section
open Go Go.Proofs
namespace Go.Av
def ld (g:ae) (p:aa) (cell i:Int):List ck:=(lg g p cell (dz g p cell i)).filterMap (iC p.side)
theorem zcQ (g:ae) (hg:bN g) (p:aa) (hp:bw g p) (cell i:Int) (hc:je g p cell i):
  dD Tryz.prog 244 [.agg (ai g), .agg (ak p), .int cell, .int i, .fn (.func 245) [] [.ref 0 0 5 0 0, .ref 1 0 1 0 0]]
   [(0, .rows true 0 5 [ak p]),(1, .rows true 0 1 [[AV.nils]])] 2 (.int 0)
   [(0, .rows true 0 5 [ak p]),(1, .rows true 0 1 [[.sl 247 (ld g p cell i).length 6 0 (ld g p cell i).length]]),(247, .rows true (ld g p cell i).length 6 ((ld g p cell i).map cu))] 248:=by
 unfold dD;refine aF Tryz.func244 ?_;have hal:=hp.al;obtain ⟨c0,c1,cm,cs,i0,i1⟩:=hc;have hcur:cell.toNat<p.at_.length:=ge;have hat:=hp.at (i:=cell.toNat) ge;have hO:=Do (ac p.at_ cell.toNat);have hman:=cT hat.1 hat.2 hg.k6;have hV:=FU g W2 ⟨hg.r0,Xn⟩ p (hp.fits hg);rw [zq.2 hp] at hV;have hkl:(aA (ac p.at_ cell.toNat)).1.toNat<g.kinds.length:=by
  grind
 have hil:i.toNat<(ac g.kinds (aA (ac p.at_ cell.toNat)).1.toNat).progs.length:=ge;have hpg:=hg.pr _ (am hkl) _ (am hil);have hst:=λ n hn=>zx hg hp c0 c1 cm (prog:=dz g p cell i) hpg.st n hn;have hz:=yU g p cell (dz g p cell i);have hsu:=λ n hn=>yT g p cell (dz g p cell i) (n:=n) hn;have hla:=yS g p cell (dz g p cell i);have hp8:=hpg.len;have hpst:=hpg.st;have hpe:dz g p cell i=ac (ac g.kinds (aA (ac p.at_ cell.toNat)).1.toNat).progs i.toNat:=rfl;rw [<- hpe] at hp8 hpst;have hlo:ld g p cell i=(lg g p cell (dz g p cell i)).filterMap (iC p.side):=rfl;rw [hlo];obtain ⟨prog,hprog⟩:∃q,q=dz g p cell i:=⟨_,rfl⟩
 rw [<- hprog] at hst hz hsu hp8 hpst hpe hla ⊢;have hcp:=yD ⟨p,(aA (ac p.at_ cell.toNat)).1,cell,false⟩ (hp.fits hg);generalize hm:aA (ac p.at_ cell.toNat)=m at *;obtain ⟨mk,ms⟩:=m;simp only at cm cs i1 hkl hil hpe hcp;refine J0 ?_;refine aP hV ?_;refine J1 hcur ?_;refine DX ?_;refine J1 hcur ?_;refine aP hO ?_;refine J3 hkl hil cs ?_;refine DX ?_;refine J0 ?_;refine zg8 hcp no ?_;refine J3 hcur hkl hil ?_;rw [<- hpe];have hsz:∀n,n<=prog.length->(gj g p cell prog n).length<=100000000:=λ n hn=>Nat.le_trans (hst n hn).2 (CD ge);have hst0:fK (gj g p cell prog 0)= .lst 8 [[.lst 1 ((p.at_.map dR).set cell.toNat [.int 0]),aS p.h0,aS p.h1, .int p.rights, .int p.side, .int mk, .int cell, .v (.bool false)]]:=by
  grind [fK,kS,bC,clr,aS,dR,List.map_set]
 refine zg3 (zg5 (α:=Nat) (λ k=>⟨[(4, .fn (.func 245) [] [.ref 0 0 5 0 0, .ref 1 0 1 0 0]),(5, .ref 2 0 9 0 0),(14,fK (gj g p cell prog k)),(87,bE prog),(88, .int prog.length),(89, .int k)],
   [(0, .rows true 0 5 [ak p]),(1, .rows true 0 1 [[.sl 247 0 6 0 0]]),(2, .rows true 0 9 [ai g]),(247, .rows true 0 6 [])],248⟩)
  (λ d k=>k+d=prog.length) ?_ prog.length 0 ?_) ?_ ?_
 ·rintro d k k1 hrec;refine J0 ?_;refine zg4 (λ hk=> ?_) (λ hk=> ?_)<;>simp at hk
  ·have hkk:=hst k ge;have hks:=hsz k ge;have hks':=hsz (k+1) ge;have hsk:=hsu k hk;have hxs:=hpst _ (am hk);have hpo:=λ n hn=>HP hg hxs hkk.1 n hn;have hpa:=DF g (gj g p cell prog k) (ac prog k);have hpz:=HQ g (gj g p cell prog k) (ac prog k);have hps:=λ n hn=>A8 g (gj g p cell prog k) (ac prog k) (n:=n) hn;rw [<- hsk] at hpa;obtain ⟨now,hnow⟩:∃now,now=gj g p cell prog k:=⟨_,rfl⟩
   rw [<- hnow] at hkk hks hpo hpa hpz hps ⊢;obtain ⟨x,hx⟩:∃x,x=ac prog k:=⟨_,rfl⟩
   rw [<- hx] at hxs hpo hpa hpz hps;repeat first|refine wV λ _=>?_|simp [go_sem,hk,<- hx]
   refine zg3 (zg5 (α:=Nat) (λ n=>⟨[(4, .fn (.func 245) [] [.ref 0 0 5 0 0, .ref 1 0 1 0 0]),(5, .ref 2 0 9 0 0),(16, .ref 248 0 2 0 0),(17, .sl 250 (jI g now x n).length 8 0 (jI g now x n).length),(18, .mp 249),(87,bE prog),(88, .int prog.length),(89, .int k),(94,fK now),(95, .int now.length),(96, .int n)],
     [(0, .rows true 0 5 [ak p]),(1, .rows true 0 1 [[.sl 247 0 6 0 0]]),(2, .rows true 0 9 [ai g]),(247, .rows true 0 6 []),(248, .rows true 0 2 [dC x]),(249, .rows true 0 2 ((jI g now x n).map rP)),(250, .rows true (jI g now x n).length 8 ((jI g now x n).map bC))],251⟩)
    (λ d n=>n+d=now.length) ?_ now.length 0 ?_) ?_ ?_
   ·rintro d2 n n1 hrec2;refine J0 ?_;refine zg4 (λ hn=> ?_) (λ hn=> ?_)<;>simp at hn
    ·have hsn:=hkk.1 _ (am hn);have hpn:=hps n hn;have hpoN:=hpo n ge;have hpoS:=hpo (n+1) ge;have hSt:=zae g hg (ac now n) hsn.1 x hxs;have hsl:=DQ hg (ac now n) x;have hso:=rG hg hsn.1 hxs;have hlk:pN p.side x (ac now n) []= []:=by unfold pN;rw [if_neg (by have:=hxs.1;omega)]
     obtain ⟨s,hs⟩:∃s,s=ac now n:=⟨_,rfl⟩
     rw [<- hs] at hsn hpn hSt hsl hso hlk;obtain ⟨more,hmore⟩:∃more,more=di g s x:=⟨_,rfl⟩
     rw [<- hmore] at hpn hSt hsl hso;have hat:=λ j hj=>Jl (jI g now x n) more (i:=j) hj;have hal':=λ j=>xE (more.take j) (jI g now x n);have haok:∀j,∀u ∈ ii (jI g now x n) (more.take j),jx g u:=λ j=>Bp (λ u hu=>(hpoN.1 u hu).1) (λ u hu=>(hso u (List.mem_of_mem_take hu)).1);have haz:ii (jI g now x n) (more.take 0)=jI g now x n:=by simp [No]
     have haa:ii (jI g now x n) (more.take more.length)=jI g now x (n+1):=by rw [List.take_length,hpn]
     obtain ⟨nx,hnx⟩:∃nx:Nat->List dM,nx=λ j=>ii (jI g now x n) (more.take j):=⟨_,rfl⟩
     have hnx':∀j,ii (jI g now x n) (more.take j)=nx j:=λ j=>by rw [hnx]
     simp only [hnx'] at hat hal' haok haz haa;clear hnx hnx';repeat first|refine wV λ _=>?_|simp [go_sem,hn,<- hs]
     refine Kl g hg p hp s hsn.1 hsn.2 x [] gt (a:=0) (b:=1) (c:=247) Wm gt (by simp [aC,ak,aS]) Wp Wp ?_;rw [hlk];simp only [Ht];refine J0 ?_;refine aP hSt ?_;refine J0 ?_;refine zg3 (zg5 (α:=Nat) (λ j=>⟨[(4, .fn (.func 245) [] [.ref 0 0 5 0 0, .ref 1 0 1 0 0]),(5, .ref 2 0 9 0 0),(16, .ref 248 0 2 0 0),(17, .sl 250 (nx j).length 8 0 (nx j).length),(18, .mp 249),(87,bE prog),(88, .int prog.length),(89, .int k),(94,fK now),(95, .int now.length),(96, .int n),(107,fK more),(108, .int more.length),(109, .int j)],
       [(0, .rows true 0 5 [ak p]),(1, .rows true 0 1 [[.sl 247 0 6 0 0]]),(2, .rows true 0 9 [ai g]),(247, .rows true 0 6 []),(248, .rows true 0 2 [dC x]),(249, .rows true 0 2 ((nx j).map rP)),(250, .rows true (nx j).length 8 ((nx j).map bC))],252⟩)
      (λ d j=>j+d=more.length) ?_ more.length 0 ?_) ?_ ?_
     ·rintro d3 j j1 hrec3;refine J0 ?_;refine zg4 (λ hj=> ?_) (λ hj=> ?_)<;>simp at hj
      ·have htj:=(hso _ (am hj)).1;have hatj:=hat j hj;have halj:=hal' j;have hmj:(more.take j).length<=10:=by rw [List.length_take];omega
       obtain ⟨t,ht⟩:∃t,t=ac more j:=⟨_,rfl⟩
       rw [<- ht] at htj hatj;have hk6:=hg.k6;have hc9:=hg.c9;have hta:=htj.p.al;have ht0:=htj.p.h0.len;have ht1:=htj.p.h1.len;have htk:=htj.k;have htc0:=htj.c0;have htc1:=htj.c1;have hKey:=zcb t ge ge ge ge ge (Bs hg htj.p);have hin:∀u ∈ nx j,rQ t=rQ u->t=u:=λ u hu e=>zca hg htj (haok j u hu) e;have hfind:=JN t (nx j) hin;have hput:=Pr t (nx j) hin;repeat first|refine wV λ _=>?_|simp [go_sem,hj,<- ht]
       refine aP hKey ?_;by_cases hmem:t ∈ nx j
       ·rw [if_pos hmem] at hatj hfind;refine J1 hfind ?_;refine zg3 (hrec3 (d3 - 1) ge (j+1) ge) ?_ gt;simp [go_sem,aj,hatj]
       ·rw [if_neg hmem] at hatj hfind;have hput:=hput hmem;refine J2 hfind hput ?_;refine zg3 (hrec3 (d3 - 1) ge (j+1) ge) ?_ gt;simp [go_sem,aj,hatj];intro c hc;simp only [rP,List.mem_cons,List.not_mem_nil,or_false] at hc;rcases hc with rfl|rfl<;>exact .v _
      ·have hnl:j=more.length:=by omega
       subst hnl;rw [haa];refine J0 ?_;refine zg3 (hrec2 (d2 - 1) ge (n+1) ge) ?_ gt;simp [go_sem,aj]
     ·omega
     ·simp [go_sem,aj,haz]
     ·simp
    ·have hnl:n=now.length:=by omega
     subst hnl;rw [hpa];refine J0 ?_;refine zg3 (hrec (d - 1) ge (k+1) ge) ?_ gt;simp [go_sem,aj];exact BY
   ·omega
   ·simp [go_sem,aj,hpz]
   ·simp
  ·have hkl':k=prog.length:=by omega
   subst hkl';rw [hla];have hl8:=hsz prog.length (Nat.le_refl _);have hlok:=(hst prog.length (Nat.le_refl _)).1;rw [hla] at hl8 hlok;generalize lg g p cell prog=last at *;refine J0 ?_;refine zg3 (zg5 (α:=Nat) (λ j=>⟨[(4, .fn (.func 245) [] [.ref 0 0 5 0 0, .ref 1 0 1 0 0]),(129,fK last),(130, .int last.length),(131, .int j)],
     [(0, .rows true 0 5 [ak p]),(1, .rows true 0 1 [[.sl 247 ((last.take j).filterMap (iC p.side)).length 6 0 ((last.take j).filterMap (iC p.side)).length]]),(247, .rows true ((last.take j).filterMap (iC p.side)).length 6 (((last.take j).filterMap (iC p.side)).map cu))],248⟩)
    (λ d j=>j+d=last.length) ?_ last.length 0 ?_) ?_ ?_
   ·rintro d4 j j1 hrec4;refine J0 ?_;refine zg4 (λ hj=> ?_) (λ hj=> ?_)<;>simp at hj
    ·have hsj:=hlok _ (am hj);have hol:((last.take j).filterMap (iC p.side)).length<=100000000:=Nat.le_trans (List.length_filterMap_le _ _) pi;have hse:(last.take (j+1)).filterMap (iC p.side)=pN p.side (0,0) (ac last j) ((last.take j).filterMap (iC p.side)):=by
      rw [List.take_add_one,List.getElem?_eq_getElem hj,dT _ _ hj,List.filterMap_append];cases iC p.side last[j]<;>rfl
     obtain ⟨out,hout⟩:∃out,out=(last.take j).filterMap (iC p.side):=⟨_,rfl⟩
     rw [<- hout] at hol hse ⊢;obtain ⟨t,ht⟩:∃t,t=ac last j:=⟨_,rfl⟩
     rw [<- ht] at hsj hse;repeat first|refine wV λ _=>?_|simp [go_sem,hj,<- ht]
     refine Kl g hg p hp t hsj.1 hsj.2 (0,0) out hol (a:=0) (b:=1) (c:=247) Wm gt (by simp [aC,ak,aS]) Wp Wp ?_;rw [<- hse];simp only [Ht];refine J0 ?_;refine zg3 (hrec4 (d4 - 1) ge (j+1) ge) ?_ gt;simp [go_sem,aj]
    ·have hnl:j=last.length:=by omega
     subst hnl;rw [List.take_length];refine J0 ?_;simp [go_sem,aj]
   ·omega
   ·simp [go_sem,aj]
   ·simp
 ·omega
 ·simp [go_sem,aj];rw [show AV.lst 8 (List.map bC (gj g p cell prog 0))= _ from hst0];(first|done|exact zd1)
 ·simp
theorem zbw (a b:ck):zc9 [bi a.pos b.pos,dy (if a.took then 1 else 0) (if b.took then 1 else 0)]=na a b:=by
 grind [na,RE,zc9]
theorem yL (a b:ck) (ha:bH a.pos) (hb:bH b.pos):aq Tryz.prog 247 [.agg (cu a), .agg (cu b)] (.int (na a b)):=by
 refine pF Tryz.func247 ?_;rw [<- zbw];have c1:=jD _ _ ha hb;obtain ⟨pa,ta⟩:=a;obtain ⟨pb,tb⟩:=b;have c4:=qG (if ta then 1 else 0) (if tb then 1 else 0);simp only at c1 c4 ⊢;generalize hx1:bi pa pb=x1 at *;generalize hx2:dy (if ta then 1 else 0) (if tb then 1 else 0)=x2 at *;cases ta<;>cases tb<;>simp only [if_true,Bool.false_eq_true,if_false] at c4<;>
 ·refine J0 ?_;refine dP c1 ?_;refine J0 ?_;refine dP c4 ?_;refine J0 ?_;refine cX.frz [aS [x1,x2]] _ [17] [(17,some (.rows false 0 1 ([x1,x2].map dR)))] (NS _ (by unfold kn;simp)) ?_ ?_ no ?_
  ·grind [aC,dR]
  ·intro h₁ hS;have h7:=hS 17 gt;simp [go_sem] at h7;exact .cons (aI h7.symm gt XR no) .nil
  ·exact K0
theorem Sw (a b:ck) (ha:bH a.pos) (hb:bH b.pos):aq Tryz.prog 249 [.agg (cu a), .agg (cu b)] (.v (.bool (decide (a=b)))):=by
 refine pF Tryz.func249 ?_;have c1:=yL a b ha hb;have e:decide (a=b)=decide (na a b=0):=by rw [decide_eq_decide];exact (gH.eq a b).symm
 rw [e];generalize na a b=x at *;refine J0 ?_;refine aP c1 ?_;exact K0
theorem Po (a b:aa) (ha:bH a) (hb:bH b):aq Tryz.prog 206 [.agg (ak a), .agg (ak b)] (.v (.bool (decide (a=b)))):=by
 refine pF Tryz.func206 ?_;have c1:=jD a b ha hb;have e:decide (a=b)=decide (bi a b=0):=by rw [decide_eq_decide];exact (bp.eq a b).symm
 rw [e];generalize bi a b=x at *;refine J0 ?_;refine aP c1 ?_;exact K0
theorem Iw (l:List ck) (gn:Nat) (hl:l.length<=17179869184) (hf:∀o ∈ l,bH o.pos):
  dD Tryz.prog 248 [.sl 0 gn 6 0 l.length, .fn (.func 249) [] []] [(0, .rows true gn 6 (l.map cu))] 1
   (.sl 0 gn 6 0 (eC l).length) [(0, .rows true gn 6 ((eC l).map cu++List.replicate (l.length - (eC l).length) CV))] 1:=by
 unfold dD;by_cases h2:l.length<2
 ·rw [D8 h2];refine aF Tryz.func248 ?_;refine J0 ?_;refine zeM ?_;refine J0 ?_;simp [go_sem,aj]
 obtain ⟨D,hD⟩:∃D,D=eC l:=⟨_,rfl⟩
 rw [<- hD];have hE:∀i j,i<l.length->j<l.length->aq Tryz.prog 249 [.agg (cu (ac l i)), .agg (cu (ac l j))] (.v (.bool (decide (ac l i=ac l j)))):=
  λ i j hi hj=>Sw _ _ (hf _ (am hi)) (hf _ (am hj))
 refine aF Tryz.func248 ?_;refine J0 ?_;refine DX ?_;refine J0 ?_;refine zg3 (zg5 (α:=Nat) (λ j=>⟨[(0, .sl 0 gn 6 0 l.length),(1, .fn (.func 249) [] []),(5, .int j)], [(0, .rows true gn 6 (l.map cu))],1⟩)
  (λ d j=>1<=j∧j+d=l.length∧D=l.take j++ei (ac l (j - 1)) (l.drop j)) ?_ (l.length - 1) 1 ?_) ?_ ?_
 ·rintro d j ⟨i1,i2,i3⟩ hrec;have e1:((j:Int) - 1).toNat=j - 1:=ge;refine J0 ?_;refine zg4 (λ hj=> ?_) (λ hj=> ?_)<;>simp at hj
  ·have hj':j - 1<l.length:=by omega
   rw [bQ hj,ei] at i3;refine J3 hj hj' e1 ?_;refine dP (hE j (j - 1) hj hj') ?_;refine J3 hj hj' e1 ?_;by_cases he:ac l j=ac l (j - 1)
   ·rw [if_pos he] at i3;refine J4 he hj hj' e1 ?_;refine zg3 (zg5 (α:=Nat×List ck×Nat) (λ a=>⟨[(0, .sl 0 gn 6 0 l.length),(1, .fn (.func 249) [] []),(5, .int a.2.2),(6, .sl 0 gn 6 j (l.length - j)),(7, .int a.1)], [(0, .rows true gn 6 (a.2.1.map cu))],1⟩)
     (λ d a=>1<=a.1∧j+a.1+d=l.length∧a.2.1.length=l.length∧a.2.2<=j+a.1 - 1∧a.2.1.drop (j+a.1 - 1)=l.drop (j+a.1 - 1)∧D=a.2.1.take a.2.2++ei (ac l (j+a.1 - 1)) (l.drop (j+a.1))) ?_ (l.length - j - 1) (1,l,j) ?_) ?_ ?_
    ·rintro d2 ⟨k2,R,k⟩ ⟨j1,j2,j3,j4,j5,j6⟩ hrec2;simp only at j1 j2 j3 j4 j5 j6;have e2:((k2:Int) - 1).toNat=k2 - 1:=ge;have e3:j+(k2 - 1)=j+k2 - 1:=ge;have hRn:∀m,j+k2 - 1<=m->m<l.length->ac R m=ac l m:=λ m h1 h2=>by
      have h3:(R.drop (j+k2 - 1))[m - (j+k2 - 1)]? =(l.drop (j+k2 - 1))[m - (j+k2 - 1)]? :=by rw [j5]
      rw [List.getElem?_drop,List.getElem?_drop,show j+k2 - 1+(m - (j+k2 - 1))=m by omega,List.getElem?_eq_getElem ge,List.getElem?_eq_getElem h2] at h3;grind [ac]
     refine J1 j3 ?_;refine zg4 (λ hk=> ?_) (λ hk=> ?_)<;>simp at hk
     ·have hk1:j+k2<l.length:=by omega
      have hk0:j+k2 - 1<l.length:=ge;have hr1:=hRn (j+k2) ge hk1;have hr0:=hRn (j+k2 - 1) ge hk0;rw [bQ hk1,ei] at j6;have hk2:k2 - 1<l.length - j:=ge;have hk3:k<l.length:=ge;refine J9 j3 hk hk1 hk0 hr1 hr0 e2 e3 hk2 ?_;refine dP (hE (j+k2) (j+k2 - 1) hk1 hk0) ?_;refine J9 j3 hk hk1 hk0 hr1 hr0 e2 e3 hk2 ?_;by_cases hc:ac l (j+k2)=ac l (j+k2 - 1)
      ·rw [if_pos hc] at j6;refine J1 hc ?_;refine zg3 (hrec2 (d2 - 1) ge (k2+1,R,k) ⟨ge,ge,j3,pi, ?_, ?_⟩) ?_ gt
       ·have:=congrArg (List.drop 1) j5;grind [List.drop_drop]
       ·grind
       ·simp [go_sem,aj]
      ·rw [if_neg hc] at j6;refine J11 hc j3 hk hk1 hk0 hr1 hr0 e2 e3 hk2 hk3 ?_;refine zg3 (hrec2 (d2 - 1) ge (k2+1,R.set k (ac l (j+k2)),k+1) ⟨ge,ge,pi,pi, ?_, ?_⟩) ?_ gt
       ·have:=congrArg (List.drop 1) j5;grind [List.drop_drop,List.drop_set]
       ·grind [List.take_add_one,List.take_set_of_le]
       ·have hb:∀n,∀r ∈ ((R.set k (ac l (j+k2))).map cu),∀c ∈ r,aN n c:=λ n=>of_eq_true Lw;rw [List.map_set] at hb;simp [go_sem,aj,List.map_set];exact hb 1
     ·rw [List.drop_eq_nil_of_le ge,ei,List.append_nil] at j6;have hDl:D.length=k:=pi;have hd0:List.drop (k+(l.length - k)) (R.map cu)= []:=List.drop_eq_nil_of_le pi;have hDm:D.map cu=List.take k (R.map cu):=by rw [j6,List.map_take]
      refine J0 ?_;simp [go_sem,aj,hd0,hDl,hDm,CV];exact λ x hx=>of_eq_true (Lw (n:=1) (l:=R)) x (List.mem_of_mem_take hx)
    ·grind
    ·simp [go_sem,aj]
    ·simp
   ·rw [if_neg he] at i3;refine J4 he hj hj' e1 ?_;refine zg3 (hrec (d - 1) ge (j+1) ⟨ge,ge, ?_⟩) ?_ gt
    ·grind [List.take_add_one,ac]
    ·simp [go_sem,aj]
  ·rw [List.drop_eq_nil_of_le hj,List.take_of_length_le hj,ei,List.append_nil] at i3;rw [i3];refine J0 ?_;simp [go_sem,aj]
 ·refine ⟨Nat.le_refl _,ge, ?_⟩;cases l with
  |nil=>simp at h2
  |cons a l=>rw [hD];rfl
 ·simp [go_sem,aj]
 ·simp
variable {n o:Nat}
theorem IQ (l:List ck) (gn:Nat) (hl:l.length<=17179869184) (hf:∀o ∈ l,bH o.pos){h:au} (ho:h o=some (.rows true gn 6 (l.map cu))) (hon:o<n){K:cI}
  (hK:K (.sl o gn 6 0 (eC l).length) (aC h o (some (.rows true gn 6 ((eC l).map cu++List.replicate (l.length - (eC l).length) CV)))) n):
  ap Tryz.prog 248 [.sl o gn 6 0 l.length, .fn (.func 249) [] []] h n K:=by
 have hz:∀m,∀r ∈ (eC l).map cu++List.replicate (l.length - (eC l).length) CV,∀c ∈ r,aN m c:=by
  intro m r hr c hc;rcases List.mem_append.1 hr with hr|hr
  ·grind [lT]
  ·rw [List.eq_of_mem_replicate hr] at hc;simp only [CV,List.mem_cons,List.not_mem_nil,or_false] at hc;rcases hc with rfl|rfl|rfl|rfl|rfl|rfl<;>exact .v _
 refine zhf (args':= [.sl o gn 6 0 l.length, .fn (.func 249) [] []]) (HH:= [(o, .rows true gn 6 ((eC l).map cu++List.replicate (l.length - (eC l).length) CV))])
  [o] h (Iw l gn hl hf) gt pi rfl (Nat.le_refl _) (.refl _) ?_ ?_ (.refl _ _ _ _) ?_ ?_ ?_ (.sl rfl) ?_ ?_
 ·intro j hj;obtain rfl:j=0:=ge;exact ⟨_, _,rfl,ho, .rows (.same (lT _))⟩
 ·grind [lT,se]
 ·intro y hy;simp only [List.mem_cons,List.not_mem_nil,or_false] at hy;rcases hy with rfl|rfl
  ·exact .sl hon
  ·simp [go_sem]
 ·exact .cons (.sl rfl) (.cons (.same no) .nil)
 ·intro y hy;simp only [List.mem_cons,List.not_mem_nil,or_false] at hy;rcases hy with rfl|rfl
  ·exact .sl Wm
  ·simp [go_sem]
 ·exact .cons rfl (.rows (.same (hz 0))) .nil
 ·have e:dL [(o, .rows true gn 6 ((eC l).map cu++List.replicate (l.length - (eC l).length) CV))] (iZ [o] h)=aC h o (some (.rows true gn 6 ((eC l).map cu++List.replicate (l.length - (eC l).length) CV))):=by
   funext j;simp_all [dL,iZ,aC]
  grind [kF]
theorem Gx (l:List ck) (gn m:Nat) (hm:l.length=m) (hl:m<=17179869184) (hf:∀o ∈ l,bH o.pos){h:au} (ho:h o=some (.rows true gn 6 (l.map cu))) (hon:o<n){K:cI}
  (hK:K (.sl o gn 6 0 (eC l).length) (aC h o (some (.rows true gn 6 ((eC l).map cu++List.replicate (l.length - (eC l).length) CV)))) n):
  ap Tryz.prog 248 [.sl o gn 6 0 m, .fn (.func 249) [] []] h n K:=by
 subst hm;exact IQ l gn hl hf ho hon hK
theorem zcX:Go.Sort.SWO (λ a b:ck=>decide (na a b<0)):=by
 refine ⟨λ x=> ?_,λ x y z h1 h2=> ?_,λ x y z h1 h2=> ?_⟩
 ·have:=gH.swap x x;grind
 ·simp only [decide_eq_true_eq] at h1 h2 ⊢;have t:=gH.tr x y z ge ge;rcases Int.lt_or_eq_of_le t with h|h
  ·exact h
  ·have e:=(gH.eq _ _).1 h;subst e;have:=gH.swap x y;omega
 ·simp only [decide_eq_false_iff_not] at h1 h2 ⊢;have s1:=gH.swap x y;have s2:=gH.swap y z;have s3:=gH.swap x z;have t:=gH.tr z y x ge ge;omega
theorem SG (l:List ck) (hf:∀o ∈ l,bH o.pos) (hl:l.length<4611686018427387904){h:au}{gn:Nat} (ho:h o=some (.rows true gn 6 (l.map cu))){K:cI}
  (hK:K (.tup []) (aC h o (some (.rows true gn 6 ((iW na l).map cu)))) n):
  ap Tryz.prog 246 [.sl o gn 6 0 l.length, .fn (.func 247) [] []] h n K:=by
 refine zhs zg2 (k:=6) ge Tryz.isAgg145 Tryz.sizeOf145 cu (λ _=>rfl) ?_ (λ o=>bH o.pos) na zcX _ (λ x y hx hy=>yL x y hx hy) ?_ l hf hl ho ?_
 ·simp [go_sem]
 ·exact (yL default default X2 X2).1
 ·intro l' hp hs;have:iW na l=l':=wR gH hp (hs.imp λ {a b} hab=>by
   have:=gH.swap a b;grind [E9])
  grind
end Go.Av
end
section
namespace Go.Proofs
open Go.Shelf
def SX:Go.Shelf.Ren:=⟨fun|6=>204|15=>222|14=>250|28=>265|29=>266|20=>283|21=>284|22=>285|23=>286|24=>287|25=>288|26=>289|27=>290|46=>320|47=>292|48=>293|49=>321|50=>322|57=>334|n=>n,fun|22=>81|24=>44|25=>69|3=>3|39=>319|0=>0|53=>372|55=>374|4=>4|46=>366|45=>365|50=>233|5=>5|9=>9|66=>395|70=>172|76=>414|77=>310|n=>n,λ n=>n⟩
theorem zgm:Go.Proofs.SlLaysF0.n6 Tryz.prog SX:={
 mixed:=Pi
 f6:=⟨Tryz.f204.name,Wm,Tryz.func204.trans (congrArg some Pi)⟩
 f14:=⟨Tryz.f250.name,Wm,Tryz.func250.trans (congrArg some Pi)⟩
 f15:=Tryz.func222.trans (congrArg some Pi)
 f20:=⟨Tryz.f283.name,Wm,Tryz.func283.trans (congrArg some Pi)⟩
 f21:=⟨Tryz.f284.name,Wm,Tryz.func284.trans (congrArg some Pi)⟩
 f22:=⟨Tryz.f285.name,Wm,Tryz.func285.trans (congrArg some Pi)⟩
 f23:=⟨Tryz.f286.name,Wm,Tryz.func286.trans (congrArg some Pi)⟩
 f24:=⟨Tryz.f287.name,Wm,Tryz.func287.trans (congrArg some Pi)⟩
 f25:=⟨Tryz.f288.name,Wm,Tryz.func288.trans (congrArg some Pi)⟩
 f26:=⟨Tryz.f289.name,Wm,Tryz.func289.trans (congrArg some Pi)⟩
 f27:=⟨Tryz.f290.name,Wm,Tryz.func290.trans (congrArg some Pi)⟩
 f28:=Tryz.func265.trans (congrArg some Pi)
 f29:=Tryz.func266.trans (congrArg some Pi)
 f46:=⟨Tryz.f320.name,Wm,Tryz.func320.trans (congrArg some Pi)⟩
 f47:=Tryz.func292.trans (congrArg some Pi)
 f48:=Tryz.func293.trans (congrArg some Pi)
 f49:=⟨Tryz.f321.name,Wm,Tryz.func321.trans (congrArg some Pi)⟩
 f50:=⟨Tryz.f322.name,Wm,Tryz.func322.trans (congrArg some Pi)⟩
 f57:=⟨Tryz.f334.name,Wm,Tryz.func334.trans (congrArg some Pi)⟩
 t0:=Tryz.underlying0
 a0:=Tryz.isAgg0
 z0:=Tryz.sizeOf0
 v0:=Tryz.zeroValue0
 t3:=Tryz.underlying3
 a3:=Tryz.isAgg3
 z3:=Tryz.sizeOf3
 v3:=Tryz.zeroValue3
 t4:=Tryz.underlying4
 a4:=Tryz.isAgg4
 z4:=Tryz.sizeOf4
 v4:=Tryz.zeroValue4
 t5:=Tryz.underlying5
 a5:=Tryz.isAgg5
 z5:=Tryz.sizeOf5
 v5:=Tryz.zeroValue5
 t9:=Tryz.underlying9
 a9:=Tryz.isAgg9
 z9:=Tryz.sizeOf9
 v9:=Tryz.zeroValue9
 t22:=Tryz.underlying81
 a22:=Tryz.isAgg81
 z22:=Tryz.sizeOf81
 v22:=Tryz.zeroValue81
 t25:=Tryz.underlying69
 a25:=Tryz.isAgg69
 z25:=Tryz.sizeOf69
 v25:=Tryz.zeroValue69
 t39:=Tryz.underlying319
 a39:=Tryz.isAgg319
 z39:=Tryz.sizeOf319
 v39:=Tryz.zeroValue319
 t45:=Tryz.underlying365
 a45:=Tryz.isAgg365
 z45:=Tryz.sizeOf365
 v45:=Tryz.zeroValue365
 t46:=Tryz.underlying366
 a46:=Tryz.isAgg366
 z46:=Tryz.sizeOf366
 v46:=Tryz.zeroValue366
 t50:=Tryz.underlying233
 a50:=Tryz.isAgg233
 z50:=Tryz.sizeOf233
 v50:=Tryz.zeroValue233
 t53:=Tryz.underlying372
 a53:=Tryz.isAgg372
 z53:=Tryz.sizeOf372
 v53:=Tryz.zeroValue372
 t55:=Tryz.underlying374
 a55:=Tryz.isAgg374
 z55:=Tryz.sizeOf374
 v55:=Tryz.zeroValue374
 t66:=Tryz.underlying395
 a66:=Tryz.isAgg395
 z66:=Tryz.sizeOf395
 v66:=Tryz.zeroValue395
 t70:=Tryz.underlying172
 a70:=Tryz.isAgg172
 z70:=Tryz.sizeOf172
 v70:=Tryz.zeroValue172
 t76:=Tryz.underlying414
 a76:=Tryz.isAgg414
 z76:=Tryz.sizeOf414
 v76:=Tryz.zeroValue414
 t77:=Tryz.underlying310
 a77:=Tryz.isAgg310
 z77:=Tryz.sizeOf310
 v77:=Tryz.zeroValue310}
end Go.Proofs
end
section
open Go Go.Proofs
namespace Go.Av
def CW:List AV:= [.v (.slice none 0 0), .v (.slice none 0 0), .v (.slice none 0 0), .int 0, .int 0]
theorem Iv (l:List aa) (gn:Nat) (hl:l.length<=17179869184) (hf:∀o ∈ l,bH o):
  dD Tryz.prog 205 [.sl 0 gn 5 0 l.length, .fn (.func 206) [] []] [(0, .rows true gn 5 (l.map ak))] 1
   (.sl 0 gn 5 0 (eC l).length) [(0, .rows true gn 5 ((eC l).map ak++List.replicate (l.length - (eC l).length) CW))] 1:=by
 unfold dD;by_cases h2:l.length<2
 ·rw [D8 h2];refine aF Tryz.func205 ?_;refine J0 ?_;refine zeM ?_;refine J0 ?_;simp [go_sem,aj]
 obtain ⟨D,hD⟩:∃D,D=eC l:=⟨_,rfl⟩
 rw [<- hD];have hE:∀i j,i<l.length->j<l.length->aq Tryz.prog 206 [.agg (ak (ac l i)), .agg (ak (ac l j))] (.v (.bool (decide (ac l i=ac l j)))):=
  λ i j hi hj=>Po _ _ (hf _ (am hi)) (hf _ (am hj))
 refine aF Tryz.func205 ?_;refine J0 ?_;refine DX ?_;refine J0 ?_;refine zg3 (zg5 (α:=Nat) (λ j=>⟨[(0, .sl 0 gn 5 0 l.length),(1, .fn (.func 206) [] []),(5, .int j)], [(0, .rows true gn 5 (l.map ak))],1⟩)
  (λ d j=>1<=j∧j+d=l.length∧D=l.take j++ei (ac l (j - 1)) (l.drop j)) ?_ (l.length - 1) 1 ?_) ?_ ?_
 ·rintro d j ⟨i1,i2,i3⟩ hrec;have e1:((j:Int) - 1).toNat=j - 1:=ge;refine J0 ?_;refine zg4 (λ hj=> ?_) (λ hj=> ?_)<;>simp at hj
  ·have hj':j - 1<l.length:=by omega
   rw [bQ hj,ei] at i3;refine J3 hj hj' e1 ?_;refine dP (hE j (j - 1) hj hj') ?_;refine J3 hj hj' e1 ?_;by_cases he:ac l j=ac l (j - 1)
   ·rw [if_pos he] at i3;refine J4 he hj hj' e1 ?_;refine zg3 (zg5 (α:=Nat×List aa×Nat) (λ a=>⟨[(0, .sl 0 gn 5 0 l.length),(1, .fn (.func 206) [] []),(5, .int a.2.2),(6, .sl 0 gn 5 j (l.length - j)),(7, .int a.1)], [(0, .rows true gn 5 (a.2.1.map ak))],1⟩)
     (λ d a=>1<=a.1∧j+a.1+d=l.length∧a.2.1.length=l.length∧a.2.2<=j+a.1 - 1∧a.2.1.drop (j+a.1 - 1)=l.drop (j+a.1 - 1)∧D=a.2.1.take a.2.2++ei (ac l (j+a.1 - 1)) (l.drop (j+a.1))) ?_ (l.length - j - 1) (1,l,j) ?_) ?_ ?_
    ·rintro d2 ⟨k2,R,k⟩ ⟨j1,j2,j3,j4,j5,j6⟩ hrec2;simp only at j1 j2 j3 j4 j5 j6;have e2:((k2:Int) - 1).toNat=k2 - 1:=ge;have e3:j+(k2 - 1)=j+k2 - 1:=ge;have hRn:∀m,j+k2 - 1<=m->m<l.length->ac R m=ac l m:=λ m h1 h2=>by
      have h3:(R.drop (j+k2 - 1))[m - (j+k2 - 1)]? =(l.drop (j+k2 - 1))[m - (j+k2 - 1)]? :=by rw [j5]
      rw [List.getElem?_drop,List.getElem?_drop,show j+k2 - 1+(m - (j+k2 - 1))=m by omega,List.getElem?_eq_getElem ge,List.getElem?_eq_getElem h2] at h3;grind [ac]
     refine J1 j3 ?_;refine zg4 (λ hk=> ?_) (λ hk=> ?_)<;>simp at hk
     ·have hk1:j+k2<l.length:=by omega
      have hk0:j+k2 - 1<l.length:=ge;have hr1:=hRn (j+k2) ge hk1;have hr0:=hRn (j+k2 - 1) ge hk0;rw [bQ hk1,ei] at j6;have hk2:k2 - 1<l.length - j:=ge;have hk3:k<l.length:=ge;refine J9 j3 hk hk1 hk0 hr1 hr0 e2 e3 hk2 ?_;refine dP (hE (j+k2) (j+k2 - 1) hk1 hk0) ?_;refine J9 j3 hk hk1 hk0 hr1 hr0 e2 e3 hk2 ?_;by_cases hc:ac l (j+k2)=ac l (j+k2 - 1)
      ·rw [if_pos hc] at j6;refine J1 hc ?_;refine zg3 (hrec2 (d2 - 1) ge (k2+1,R,k) ⟨ge,ge,j3,pi, ?_, ?_⟩) ?_ gt
       ·have:=congrArg (List.drop 1) j5;grind [List.drop_drop]
       ·grind
       ·simp [go_sem,aj]
      ·rw [if_neg hc] at j6;refine J11 hc j3 hk hk1 hk0 hr1 hr0 e2 e3 hk2 hk3 ?_;refine zg3 (hrec2 (d2 - 1) ge (k2+1,R.set k (ac l (j+k2)),k+1) ⟨ge,ge,pi,pi, ?_, ?_⟩) ?_ gt
       ·have:=congrArg (List.drop 1) j5;grind [List.drop_drop,List.drop_set]
       ·grind [List.take_add_one,List.take_set_of_le]
       ·have hb:∀n,∀r ∈ ((R.set k (ac l (j+k2))).map ak),∀c ∈ r,aN n c:=λ n=>of_eq_true Jn;rw [List.map_set] at hb;simp [go_sem,aj,List.map_set];exact hb 1
     ·rw [List.drop_eq_nil_of_le ge,ei,List.append_nil] at j6;have hDl:D.length=k:=pi;have hd0:List.drop (k+(l.length - k)) (R.map ak)= []:=List.drop_eq_nil_of_le pi;have hDm:D.map ak=List.take k (R.map ak):=by rw [j6,List.map_take]
      refine J0 ?_;simp [go_sem,aj,hd0,hDl,hDm,CW];exact λ x hx=>of_eq_true (Jn (n:=1) (l:=R)) x (List.mem_of_mem_take hx)
    ·grind
    ·simp [go_sem,aj]
    ·simp
   ·rw [if_neg he] at i3;refine J4 he hj hj' e1 ?_;refine zg3 (hrec (d - 1) ge (j+1) ⟨ge,ge, ?_⟩) ?_ gt
    ·grind [List.take_add_one,ac]
    ·simp [go_sem,aj]
  ·rw [List.drop_eq_nil_of_le hj,List.take_of_length_le hj,ei,List.append_nil] at i3;rw [i3];refine J0 ?_;simp [go_sem,aj]
 ·refine ⟨Nat.le_refl _,ge, ?_⟩;cases l with
  |nil=>simp at h2
  |cons a l=>rw [hD];rfl
 ·simp [go_sem,aj]
 ·simp
variable {K j n o:Nat}
theorem xP  (l:List aa):∀r ∈ l.map ak,∀c ∈ r,aN n c:=of_eq_true Jn
theorem IP (l:List aa) (gn:Nat) (hl:l.length<=17179869184) (hf:∀o ∈ l,bH o){h:au} (ho:h o=some (.rows true gn 5 (l.map ak))) (hon:o<n){K:cI}
  (hK:K (.sl o gn 5 0 (eC l).length) (aC h o (some (.rows true gn 5 ((eC l).map ak++List.replicate (l.length - (eC l).length) CW)))) n):
  ap Tryz.prog 205 [.sl o gn 5 0 l.length, .fn (.func 206) [] []] h n K:=by
 have hz:∀m,∀r ∈ (eC l).map ak++List.replicate (l.length - (eC l).length) CW,∀c ∈ r,aN m c:=by
  intro m r hr c hc;rcases List.mem_append.1 hr with hr|hr
  ·grind [xP]
  ·rw [List.eq_of_mem_replicate hr] at hc;simp only [CW,List.mem_cons,List.not_mem_nil,or_false] at hc;rcases hc with rfl|rfl|rfl|rfl|rfl<;>exact .v _
 refine zhf (args':= [.sl o gn 5 0 l.length, .fn (.func 206) [] []]) (HH:= [(o, .rows true gn 5 ((eC l).map ak++List.replicate (l.length - (eC l).length) CW))])
  [o] h (Iv l gn hl hf) gt pi rfl (Nat.le_refl _) (.refl _) ?_ ?_ (.refl _ _ _ _) ?_ ?_ ?_ (.sl rfl) ?_ ?_
 ·intro j hj;obtain rfl:j=0:=ge;exact ⟨_, _,rfl,ho, .rows (.same (xP _))⟩
 ·grind [xP,se]
 ·intro y hy;simp only [List.mem_cons,List.not_mem_nil,or_false] at hy;rcases hy with rfl|rfl
  ·exact .sl hon
  ·simp [go_sem]
 ·exact .cons (.sl rfl) (.cons (.same no) .nil)
 ·intro y hy;simp only [List.mem_cons,List.not_mem_nil,or_false] at hy;rcases hy with rfl|rfl
  ·exact .sl Wm
  ·simp [go_sem]
 ·exact .cons rfl (.rows (.same (hz 0))) .nil
 ·have e:dL [(o, .rows true gn 5 ((eC l).map ak++List.replicate (l.length - (eC l).length) CW))] (iZ [o] h)=aC h o (some (.rows true gn 5 ((eC l).map ak++List.replicate (l.length - (eC l).length) CW))):=by
   funext j;simp_all [dL,iZ,aC]
  grind [kF]
theorem Gw (l:List aa) (gn m:Nat) (hm:l.length=m) (hl:m<=17179869184) (hf:∀o ∈ l,bH o){h:au} (ho:h o=some (.rows true gn 5 (l.map ak))) (hon:o<n){K:cI}
  (hK:K (.sl o gn 5 0 (eC l).length) (aC h o (some (.rows true gn 5 ((eC l).map ak++List.replicate (l.length - (eC l).length) CW)))) n):
  ap Tryz.prog 205 [.sl o gn 5 0 m, .fn (.func 206) [] []] h n K:=by
 subst hm;exact IP l gn hl hf ho hon hK
theorem zeE:Go.Sort.SWO (λ a b:aa=>decide (bi a b<0)):=by
 refine ⟨λ x=> ?_,λ x y z h1 h2=> ?_,λ x y z h1 h2=> ?_⟩
 ·have:=bp.swap x x;grind
 ·simp only [decide_eq_true_eq] at h1 h2 ⊢;have t:=bp.tr x y z ge ge;rcases Int.lt_or_eq_of_le t with h|h
  ·exact h
  ·have e:=(bp.eq _ _).1 h;subst e;have:=bp.swap x y;omega
 ·simp only [decide_eq_false_iff_not] at h1 h2 ⊢;have s1:=bp.swap x y;have s2:=bp.swap y z;have s3:=bp.swap x z;have t:=bp.tr z y x ge ge;omega
theorem SF (l:List aa) (hf:∀o ∈ l,bH o) (hl:l.length<4611686018427387904){h:au}{gn:Nat} (ho:h o=some (.rows true gn 5 (l.map ak))){K:cI}
  (hK:K (.tup []) (aC h o (some (.rows true gn 5 ((iW bi l).map ak)))) n):
  ap Tryz.prog 204 [.sl o gn 5 0 l.length, .fn (.func 158) [] []] h n K:=by
 refine zhs zgm (k:=5) ge Tryz.isAgg44 Tryz.sizeOf44 ak (λ _=>rfl) ?_ (λ o=>bH o) bi zeE _ (λ x y hx hy=>jD x y hx hy) ?_ l hf hl ho ?_
 ·simp [go_sem]
 ·exact (jD default default X2 X2).1
 ·intro l' hp hs;have:iW bi l=l':=wR bp hp (hs.imp λ {a b} hab=>by
   have:=bp.swap a b;grind [E9])
  grind
theorem MD (l:List aa) (hl:l.length<=17179869184):uR Tryz.prog 203 [aO l] (λ n=> .sl n 1 5 0 l.length) (λ n=> [(n, .rows true 1 5 (l.map ak))]) 1:=by
 refine ⟨?_,λ n=>⟨no,no⟩⟩;refine zhA (λ hne=> ?_) (λ he A c=> ?_)
 ·obtain ⟨x,l,rfl⟩:=List.exists_cons_of_ne_nil (show l≠ [] by grind);simp only [List.length_cons] at hl;refine aF Tryz.func203 ?_;refine J0 ?_;simp [go_sem,aj]
 ·obtain rfl:l= []:=by simp_all
  refine aF Tryz.func203 ?_;refine J0 ?_;refine zg4 (λ h=> ?_) (λ h=> ?_)
  ·simp at h;subst h;simp [go_sem,aj]
  ·simp [go_sem,aj]
theorem tD (l:List aa) (hl:l.length<=17179869184) (hf:∀p ∈ l,bH p):aq Tryz.prog 151 [aO l] (aO (bd bi l)):=by
 refine pF Tryz.func151 ?_;have hC:=MD l hl;refine J0 ?_;refine zg8 hC no ?_;refine J0 ?_;refine SF l hf ge (o:=0) (gn:=1) Wp ?_;refine J0 ?_;refine Gw (iW bi l) 1 l.length (sG l) ge (λ p hp=>hf p (sH.1 hp)) (o:=0) Wp ge ?_;refine J0 ?_;exact aI rfl gt Ws (by rw [List.drop_zero];exact List.take_left' gt)
theorem V5 (g:ae) (hg:bN g) (p:aa) (hp:bw g p) (cell i:Int) (hc:je g p cell i){h:au}{a b:Nat} (hd: [a,b].Nodup) (hlt:∀j ∈ [a,b],j<n)
  (ha:h a=some (.rows true 0 5 [ak p])) (hb:h b=some (.rows true 0 1 [[AV.nils]])) {K:cI}
  (hK:K (.int 0) (aC (aC (aC h a (some (.rows true 0 5 [ak p]))) b (some (.rows true 0 1 [[.sl (n+245) (ld g p cell i).length 6 0 (ld g p cell i).length]]))) (n+245) (some (.rows true (ld g p cell i).length 6 ((ld g p cell i).map cu)))) (n+246)):
  ap Tryz.prog 244 [.agg (ai g), .agg (ak p), .int cell, .int i, .fn (.func 245) [] [.ref a 0 5 0 0, .ref b 0 1 0 0]] h n K:=by
 have hbg:∀m,aN m (.agg (ai g)):=λ m=>no;have hbp:∀m,∀c ∈ ak p,aN m c:=λ m=>no;have hbq:∀m,aN m (.agg (ak p)):=λ m=>no;have han:=hlt a gt;have hbn:=hlt b gt;have hrows:∀m,∀r ∈ [ak p],∀c ∈ r,aN m c:=λ m r hr=>pi;refine zhf (args':= [.agg (ai g), .agg (ak p), .int cell, .int i, .fn (.func 245) [] [.ref a 0 5 0 0, .ref b 0 1 0 0]])
  (HH:= [(a, .rows true 0 5 [ak p]),(b, .rows true 0 1 [[.sl (n+245) (ld g p cell i).length 6 0 (ld g p cell i).length]]),(n+245, .rows true (ld g p cell i).length 6 ((ld g p cell i).map cu))])
  [a,b] h (zcQ g hg p hp cell i hc) hd hlt rfl ge (.refl _) ?_ ?_ (.refl _ _ _ _) ?_ ?_ ?_ (.same (.v _)) ?_ ?_
 ·intro j hj;rcases (show j=0∨j=1 by omega) with rfl|rfl
  ·exact ⟨_, _,rfl,ha, .rows (.same (hrows _))⟩
  ·exact ⟨_, _,rfl,hb, .rows (.same no)⟩
 ·intro q hq;simp only [List.mem_cons,List.not_mem_nil,or_false] at hq;rcases hq with rfl|rfl
  ·grind [se]
  ·exact ⟨Nat.le_of_ble_eq_true rfl,by simp [go_sem,se]⟩
 ·simp [go_sem,han,hbn]
 ·exact .cons (.same (hbg _)) (.cons (.same (hbq _)) (.cons (.same (.v _)) (.cons (.same (.v _)) (.cons (.fn .nil (.cons (.ref rfl) (.cons (.ref rfl) .nil))) .nil))))
 ·simp [go_sem]
 ·exact .cons rfl (.rows (.same (hrows _))) (.cons rfl (.rows (.cons (.cons (.sl rfl) .nil) .nil)) (.cons rfl (.rows (.same (lT _))) .nil))
 ·have e:dL [(a, .rows true 0 5 [ak p]),(b, .rows true 0 1 [[.sl (n+245) (ld g p cell i).length 6 0 (ld g p cell i).length]]),(n+245, .rows true (ld g p cell i).length 6 ((ld g p cell i).map cu))] (iZ [a,b] h)=
    aC (aC (aC h a (some (.rows true 0 5 [ak p]))) b (some (.rows true 0 1 [[.sl (n+245) (ld g p cell i).length 6 0 (ld g p cell i).length]]))) (n+245) (some (.rows true (ld g p cell i).length 6 ((ld g p cell i).map cu))):=by
   funext j;simp only [dL,iZ,aC];grind
  grind
theorem Sq (g:ae) (hg:bN g) (p:aa) (hp:bw g p) (cell i:Int) (hc:je g p cell i):
  aq Tryz.prog 202 [.agg (ai g), .agg (ak p), .int cell, .int i] (.tup [oj (gG g p cell i), .int 0]):=by
 refine pF Tryz.func202 ?_;have hl:=(Ch hg hp hc)
 have hll:(ld g p cell i).length<=100000000:=Nat.le_trans (List.length_filterMap_le _ _) hl.2;have hf:∀o ∈ ld g p cell i,bH o.pos:=by
  intro o ho;obtain ⟨s,hs,h⟩:=List.mem_filterMap.1 ho;exact (TS hg (hl.1 s hs).1 hp.s h).1.fits hg
 have hr:gG g p cell i=bd na (ld g p cell i):=rfl;rw [hr];refine J0 ?_;refine V5 g hg p hp cell i hc (a:=1) (b:=2) Wm gt (by simp [aC,ak,aS]) Wp ?_;generalize ld g p cell i=l at *;refine J0 ?_;refine SG l hf ge (o:=248) (gn:=l.length) Wp ?_;refine J0 ?_;refine Gx (iW na l) l.length l.length (sG l) ge (λ o ho=>hf o (sH.1 ho)) (o:=248) Wp ge ?_;refine J0 ?_;exact aI rfl gt Ws (by grind [bd])
theorem Pt (g:ae) (hg:bN g) (p:aa) (hp:bw g p):aq Tryz.prog 152 [.agg (ai g), .agg (ak p)] (aO (fJ g p)):=by
 refine pF Tryz.func152 ?_;have hal:=hp.al;have c9:=hg.c9;have k6:=hg.k6;have hcp:=yD ⟨p,0,0,false⟩ (hp.fits hg);have hl0:=hp.h0.len;have hl1:=hp.h1.len;have hps:=hp.s;rcases hp.s with hsd|hsd
 ·have hsn:p.side.toNat=0:=by omega
  refine J2 hsn hsd ?_;refine zg3 (zg5 (α:=Nat) (λ k=>⟨[(3, .ref 1 0 5 0 0),(5, .sl 2 (fG g p k).length 5 0 (fG g p k).length),(15,aS p.h0),(16, .int p.h0.length),(17, .int k)], [(1, .rows true 0 5 [ak p]),(2, .rows true (fG g p k).length 5 ((fG g p k).map ak))],3⟩)
   (λ d k=>k+d=g.kinds.length) ?_ g.kinds.length 0 ?_) ?_ ?_
  ·rintro d k k1 hrec;refine J0 ?_;refine zg4 (λ hk=> ?_) (λ hk=> ?_)<;>simp at hk
   ·have hz:=x6 g p k;have ha:=AC g p k;have hkh:k<p.h0.length:=ge;have hhv:=hp.h0.v k hkh;refine J1 hkh ?_;refine zg3 (zg5 (α:=Nat) (λ c=>⟨[(3, .ref 1 0 5 0 0),(5, .sl 2 (jy g p k c).length 5 0 (jy g p k c).length),(6, .int k),(7, .int (ac p.h0 k)),(15,aS p.h0),(16, .int p.h0.length),(17, .int k),(23,aS p.at_),(24, .int p.at_.length),(25, .int c)], [(1, .rows true 0 5 [ak p]),(2, .rows true (jy g p k c).length 5 ((jy g p k c).map ak))],3⟩)
     (λ d c=>c+d=p.at_.length) ?_ p.at_.length 0 ?_) ?_ ?_
    ·rintro d2 c c1 hrec2;refine J0 ?_;refine zg4 (λ hci=> ?_) (λ hci=> ?_)<;>simp at hci
     ·have hD:qW g p k c=if ac (p.hand p.side) k=0∨ac p.at_ c≠0 then none
       else some {({ p with at_:=p.at_.set c (gQ k p.side)}.withHand p.side ((p.hand p.side).set k (ac (p.hand p.side) k - 1))) with side:=1 - p.side}:=rfl
      have hD':qW g p k c=if ac p.h0 k=0∨ac p.at_ c≠0 then none else some { p with at_:=p.at_.set c (gQ k p.side),h0:=p.h0.set k (ac p.h0 k - 1),side:=1 - p.side}:=by
       grind [aa.hand,aa.withHand]
      have hCd:=wC (k:Int) p.side;rw [hsd] at hCd hD';refine J1 hci ?_;refine zg4 (λ hcc=> ?_) (λ hcc=> ?_)<;>simp at hcc
      ·rw [if_pos ge] at hD';have hsu:=kz g p k c;rw [hD'] at hsu;simp only [Option.toList_none,List.append_nil] at hsu;refine J0 ?_;refine zg3 (hrec2 (d2 - 1) ge (c+1) ge) ?_ gt;simp [go_sem,aj,hsd,hsu]
      ·rw [if_neg ge] at hD';have hsu:=kz g p k c;rw [hD'] at hsu;simp only [Option.toList_some] at hsu;have hcl:=wv g p k c;have hkm:k * p.at_.length<=6 * 9:=Nat.mul_le_mul ge ge;refine J1 hci ?_;refine zg8 hcp no ?_;refine J2 hci hsd ?_;refine dP hCd ?_;refine J4 hsn hsd hci hkh ?_;refine zg3 (hrec2 (d2 - 1) ge (c+1) ge) ?_ gt;simp [go_sem,aj,hsd,hsu];(first|done|exact zgu)
     ·have hcl:c=p.at_.length:=by omega
      subst hcl;rw [ha];refine J0 ?_;refine zg3 (hrec (d - 1) ge (k+1) ge) ?_ gt;simp [go_sem,aj,hsd]
    ·omega
    ·simp [go_sem,aj,hsd,hz]
    ·simp
   ·have hkl:k=g.kinds.length:=by omega
    subst hkl;have hdl:=s7 g p g.kinds.length;have hkm:g.kinds.length * p.at_.length<=6 * 9:=Nat.mul_le_mul k6 ge;have hS:=tD (fG g p g.kinds.length) ge (λ q hq=>by
     obtain ⟨k,hk,hq⟩:=List.mem_flatMap.1 hq;obtain ⟨c,hc,hq⟩:=List.mem_filterMap.1 hq;exact (BI hg hp pi hq).1.fits hg)
    rw [show bd bi (fG g p g.kinds.length)=fJ g p from rfl] at hS;generalize fG g p g.kinds.length=l at *;generalize fJ g p=r at *;refine J0 ?_;refine zha [2] hS ?_ (xN (eK _)) ?_
    ·(first|done|exact S2)
    ·exact K0
  ·omega
  ·simp [go_sem,aj,hsd,show fG g p 0= [] from rfl]
  ·simp
 ·have hsn:p.side.toNat=1:=by omega
  refine J2 hsn hsd ?_;refine zg3 (zg5 (α:=Nat) (λ k=>⟨[(3, .ref 1 0 5 0 0),(5, .sl 2 (fG g p k).length 5 0 (fG g p k).length),(15,aS p.h1),(16, .int p.h1.length),(17, .int k)], [(1, .rows true 0 5 [ak p]),(2, .rows true (fG g p k).length 5 ((fG g p k).map ak))],3⟩)
   (λ d k=>k+d=g.kinds.length) ?_ g.kinds.length 0 ?_) ?_ ?_
  ·rintro d k k1 hrec;refine J0 ?_;refine zg4 (λ hk=> ?_) (λ hk=> ?_)<;>simp at hk
   ·have hz:=x6 g p k;have ha:=AC g p k;have hkh:k<p.h1.length:=ge;have hhv:=hp.h1.v k hkh;refine J1 hkh ?_;refine zg3 (zg5 (α:=Nat) (λ c=>⟨[(3, .ref 1 0 5 0 0),(5, .sl 2 (jy g p k c).length 5 0 (jy g p k c).length),(6, .int k),(7, .int (ac p.h1 k)),(15,aS p.h1),(16, .int p.h1.length),(17, .int k),(23,aS p.at_),(24, .int p.at_.length),(25, .int c)], [(1, .rows true 0 5 [ak p]),(2, .rows true (jy g p k c).length 5 ((jy g p k c).map ak))],3⟩)
     (λ d c=>c+d=p.at_.length) ?_ p.at_.length 0 ?_) ?_ ?_
    ·rintro d2 c c1 hrec2;refine J0 ?_;refine zg4 (λ hci=> ?_) (λ hci=> ?_)<;>simp at hci
     ·have hD:qW g p k c=if ac (p.hand p.side) k=0∨ac p.at_ c≠0 then none
       else some {({ p with at_:=p.at_.set c (gQ k p.side)}.withHand p.side ((p.hand p.side).set k (ac (p.hand p.side) k - 1))) with side:=1 - p.side}:=rfl
      have hD':qW g p k c=if ac p.h1 k=0∨ac p.at_ c≠0 then none else some { p with at_:=p.at_.set c (gQ k p.side),h1:=p.h1.set k (ac p.h1 k - 1),side:=1 - p.side}:=by
       grind [aa.hand,aa.withHand]
      have hCd:=wC (k:Int) p.side;rw [hsd] at hCd hD';refine J1 hci ?_;refine zg4 (λ hcc=> ?_) (λ hcc=> ?_)<;>simp at hcc
      ·rw [if_pos ge] at hD';have hsu:=kz g p k c;rw [hD'] at hsu;simp only [Option.toList_none,List.append_nil] at hsu;refine J0 ?_;refine zg3 (hrec2 (d2 - 1) ge (c+1) ge) ?_ gt;simp [go_sem,aj,hsd,hsu]
      ·rw [if_neg ge] at hD';have hsu:=kz g p k c;rw [hD'] at hsu;simp only [Option.toList_some] at hsu;have hcl:=wv g p k c;have hkm:k * p.at_.length<=6 * 9:=Nat.mul_le_mul ge ge;refine J1 hci ?_;refine zg8 hcp no ?_;refine J2 hci hsd ?_;refine dP hCd ?_;refine J4 hsn hsd hci hkh ?_;refine zg3 (hrec2 (d2 - 1) ge (c+1) ge) ?_ gt;simp [go_sem,aj,hsd,hsu];(first|done|exact zgu)
     ·have hcl:c=p.at_.length:=by omega
      subst hcl;rw [ha];refine J0 ?_;refine zg3 (hrec (d - 1) ge (k+1) ge) ?_ gt;simp [go_sem,aj,hsd]
    ·omega
    ·simp [go_sem,aj,hsd,hz]
    ·simp
   ·have hkl:k=g.kinds.length:=by omega
    subst hkl;have hdl:=s7 g p g.kinds.length;have hkm:g.kinds.length * p.at_.length<=6 * 9:=Nat.mul_le_mul k6 ge;have hS:=tD (fG g p g.kinds.length) ge (λ q hq=>by
     obtain ⟨k,hk,hq⟩:=List.mem_flatMap.1 hq;obtain ⟨c,hc,hq⟩:=List.mem_filterMap.1 hq;exact (BI hg hp pi hq).1.fits hg)
    rw [show bd bi (fG g p g.kinds.length)=fJ g p from rfl] at hS;generalize fG g p g.kinds.length=l at *;generalize fJ g p=r at *;refine J0 ?_;refine zha [2] hS ?_ (xN (eK _)) ?_
    ·(first|done|exact S2)
    ·exact K0
  ·omega
  ·simp [go_sem,aj,hsd,show fG g p 0= [] from rfl]
  ·simp
def tZ (p:aa) (side:Int) (K:Nat) (j:Nat):List Int:=(List.range K).map λ (k:Nat)=>(((p.at_.take j).countP (pK p side k):Nat):Int)
theorem NY (p:aa) (side:Int) (K j:Nat):(tZ p side K j).length=K:=by simp [tZ]
theorem zcv (p:aa) (side:Int) (K j:Nat){k:Nat} (hk:k<K):ac (tZ p side K j) k=(((p.at_.take j).countP (pK p side k):Nat):Int):=by
 grind [tZ,ac]
variable {side:Int}
theorem Jz {p:aa} (hj:j<p.at_.length):tZ p side K (j+1)=(List.range K).map λ (k:Nat)=>(((p.at_.take j).countP (pK p side k)+(if pK p side k (ac p.at_ j) then 1 else 0):Nat):Int):=by
 grind [tZ,D6]
theorem zdV {p:aa} (hj:j<p.at_.length) (h:∀k:Nat,pK p side k (ac p.at_ j)=false):tZ p side K (j+1)=tZ p side K j:=by
 grind [Jz,tZ]
theorem zbx {p:aa}{m:Nat} (hj:j<p.at_.length) (hm:m<K) (h:∀k:Nat,pK p side k (ac p.at_ j)=decide (k=m)):
  tZ p side K (j+1)=(tZ p side K j).set m (ac (tZ p side K j) m+1):=by
 rw [Jz hj];refine List.ext_getElem (by simp [tZ]) λ k h1 h2=> ?_;grind [tZ,ac]
def sk (g:ae) (p:aa) (side:Int):List Int:=tZ p side g.kinds.length p.at_.length
theorem EC (g:ae) (p:aa) (side:Int){k:Nat} (hk:k<g.kinds.length):ac (sk g p side) k=Cm p side k:=by
 grind [sk,zcv,Cm]
theorem zai {m s:Int} (h0:0<=m) (hs:s=0∨s=1):(1+2 * m+s - 1).tmod 2=s∧(1+2 * m+s - 1).tdiv 2=m:=by
 grind
theorem FG (g:ae) (hg:bN g) (p:aa) (hp:bw g p) (side:Int) (hsd:side=0∨side=1):
  aq Tryz.prog 367 [.agg (ai g), .agg (ak p), .int side] (aS (sk g p side)):=by
 refine pF Tryz.func367 ?_;have hal:=hp.al;have c9:=hg.c9;have k6:=hg.k6;have hall:=λ j=>NY p side g.kinds.length j;have hz:List.replicate g.kinds.length [AV.v (.int .i64 0)]=(tZ p side g.kinds.length 0).map dR:=by
  refine List.ext_getElem pi λ k h1 h2=> ?_;simp [tZ,dR]
 refine J0 ?_;refine zg3 (zg5 (α:=Nat) (λ j=>⟨[(2, .int side),(7, .sl 2 0 1 0 g.kinds.length),(15,aS p.at_),(16, .int p.at_.length),(17, .int j)], [(2, .rows true 0 1 ((tZ p side g.kinds.length j).map dR))],3⟩)
  (λ d j=>j+d=p.at_.length) ?_ p.at_.length 0 ?_) ?_ ?_
 ·rintro d j j1 hrec;refine J0 ?_;refine zg4 (λ hj=> ?_) (λ hj=> ?_)<;>simp at hj
  ·have hat:=hp.at (i:=j) ge;have hman:=cT hat.1 hat.2 hg.k6;have hM:∀k:Nat,pK p side k (ac p.at_ j)=(decide (0<=(aA (ac p.at_ j)).1) && decide ((aA (ac p.at_ j)).2=side) && (decide ((k:Int)<0)||decide ((aA (ac p.at_ j)).1=k))):=λ k=>rfl;have hno:=zdV (p:=p) (side:=side) (K:=g.kinds.length) hj;have hyes:=λ m=>zbx (p:=p) (side:=side) (K:=g.kinds.length) (m:=m) hj;rcases hman with ⟨h0,hm⟩|⟨h0,hm0,hmk,hms,he⟩
   ·rw [hm] at hM;have hno:=hno (λ k=>by grind);refine J2 hj h0 ?_;refine zg3 (hrec (d - 1) ge (j+1) ge) ?_ gt;simp [go_sem,aj,hno]
   ·have ht:=zai hm0 hms;rw [<- he] at ht;have hpos:0<ac p.at_ j:=ge;by_cases hs:(aA (ac p.at_ j)).2=side
    ·obtain ⟨m,hmm⟩:∃m:Nat,(aA (ac p.at_ j)).1=m:=⟨(aA (ac p.at_ j)).1.toNat,ge⟩
     rw [hmm] at ht hmk;have hmk':m<g.kinds.length:=ge;have hyes:=hyes m hmk' (λ k=>by grind);have hb:0<=ac (tZ p side g.kinds.length j) m∧ac (tZ p side g.kinds.length j) m<=9:=by
      grind [List.length_take,ac,tZ]
     have hlm:m<(tZ p side g.kinds.length j).length:=pi;rw [hs] at ht;refine J7 hj hpos ht.1 ht.2 hlm hall hmk' ?_;refine zg3 (hrec (d - 1) ge (j+1) ge) ?_ gt;simp [go_sem,aj,hyes,List.map_set,dR]
    ·have hno:=hno (λ k=>by grind);refine J5 hj hpos ht.1 ht.2 hs ?_;refine zg3 (hrec (d - 1) ge (j+1) ge) ?_ gt;simp [go_sem,aj,hno]
  ·have e:j=p.at_.length:=by omega
   subst e;refine J0 ?_;grind [aI,dO,aC,sk]
 ·omega
 ·simp [go_sem,aj,hz]
 ·simp
end Go.Av
end
section
/- Contracts: play.conditions, play.ended. -/
open Go Go.Proofs
namespace Go.Av
theorem zeh {g:ae} (hg:bN g){p:aa} (hp:bw g p) (s k:Int):Cm p s k<=9:=Nat.le_trans List.countP_le_length (by have:=hg.c9;have:=hp.al;omega)
theorem D7 (g:ae) (p:aa) (side:Int):(sk g p side).length=g.kinds.length:=NY _ _ _ _
theorem Pa (m:Int) (s side:Int):∀K:Nat,0<=m->((List.range K).map λ (k:Nat)=>if (decide (0<=m) && decide (s=side) && (decide ((k:Int)<0)||decide (m=k)))=true then (1:Nat) else 0).sum=if m<K∧s=side then 1 else 0
 |0,h=>pi
 |K+1,h=>by
  rw [List.range_succ,List.map_append,List.sum_append,Pa m s side K h];have e:(if (decide (0<=m) && decide (s=side) && (decide ((K:Int)<0)||decide (m=K)))=true then (1:Nat) else 0)=if s=side∧m=K then 1 else 0:=by
   grind
  grind
theorem Ie:∀l:List Nat,(l.map λ _=>0).sum=0
 | []=>rfl
 | _::l=>by simp [Ie l]
theorem T4 (f h:Nat->Nat):∀l:List Nat,(l.map λ k=>f k+h k).sum=(l.map f).sum+(l.map h).sum
 | []=>rfl
 |k::l=>by simp [T4 f h l];omega
theorem TJ {K:Nat} (hK:K<=6) (side:Int):∀l:List Int,(∀c ∈ l,0<=c∧c<=2 * K)->
  ((List.range K).map λ (k:Nat)=>l.countP λ c=>decide (0<=(aA c).1) && decide ((aA c).2=side) && (decide ((k:Int)<0)||decide ((aA c).1=k))).sum=
   l.countP λ c=>decide (0<=(aA c).1) && decide ((aA c).2=side) && (decide ((-1:Int)<0)||decide ((aA c).1= -1))
 | [], _=>by simp [Ie]
 |c::l,h=>by
  have ih:=TJ hK side l (λ x hx=>h x WY);simp only [List.countP_cons];rw [T4,ih];have hc:=h c gt;rcases cT hc.1 hc.2 hK with ⟨h0,hm⟩|⟨h0,hm0,hmk,hms,he⟩
  ·rw [hm];simp [Ie]
  ·rw [Pa _ _ _ _ hm0];grind
theorem zei {g:ae} (hg:bN g){p:aa} (hp:bw g p) (side:Int):((List.range g.kinds.length).map λ (k:Nat)=>Cm p side k).sum=Cm p side (-1):=
 TJ hg.k6 side p.at_ hp.av
section
variable (g:ae) (hg:bN g) (p:aa) (hp:bw g p) (c:Int×Int×Int×Int) (hc:qN g.cells g.kinds.length c)
theorem QN (hg:bN g) (hp:bw g p) (hc:qN g.cells g.kinds.length c) (h1:c.1=1):aq Tryz.prog 366 [.agg (ai g), .agg (ak p), .agg (cd c)] (.v (.bool (nk c p))):=by
 refine pF Tryz.func366 ?_;have hC:=FG g hg p hp p.side hp.s;have hl:=D7 g p p.side;have hk:=hc.kind;have hck:c.2.1.toNat<(sk g p p.side).length:=ge;have hn:=EC g p p.side (k:=c.2.1.toNat) ge;rw [show ((c.2.1.toNat:Nat):Int)=c.2.1 by omega] at hn;have he:nk c p=decide (ac (sk g p p.side) c.2.1.toNat=0):=by
  grind [nk]
 rw [he];generalize sk g p p.side=l at *;obtain ⟨c0,c1,c2,c3⟩:=c;simp only at hk hck;refine J0 ?_;refine dP hC ?_;exact K1 hck
theorem QO (hg:bN g) (hp:bw g p) (hc:qN g.cells g.kinds.length c) (h1:c.1=2):aq Tryz.prog 368 [.agg (ai g), .agg (ak p), .agg (cd c)] (.v (.bool (nk c p))):=by
 refine pF Tryz.func368 ?_;have hal:=hp.al;have hps:=hp.s;have hn:=hc.n;have hcd:=hn.2.1 h1;have hci:c.2.2.1.toNat<p.at_.length:=ge;have he:nk c p=decide (ac p.at_ c.2.2.1.toNat=gQ c.2.1 (1 - p.side)):=by
  grind [nk]
 rw [he];have hC:=wC c.2.1 (1 - p.side);obtain ⟨c0,c1,c2,c3⟩:=c;simp only at hcd hci hC hn;generalize gQ c1 (1 - p.side)=code at *;refine J1 hci ?_;refine dP hC ?_;exact K1 hci
theorem QP (hg:bN g) (hp:bw g p) (hc:qN g.cells g.kinds.length c) (h1:c.1=3):aq Tryz.prog 369 [.agg (ai g), .agg (ak p), .agg (cd c)] (.v (.bool (nk c p))):=by
 refine pF Tryz.func369 ?_;have hC:=FG g hg p hp p.side hp.s;have hl:=D7 g p p.side;have k6:=hg.k6;have hnn:=λ (k:Nat) hk=>EC g p p.side (k:=k) hk;have hle:=λ k:Nat=>zeh hg hp p.side k;have hall:=zei hg hp p.side;obtain ⟨S,hS⟩:∃S:Nat->Nat,S=λ i=>((List.range i).map λ (k:Nat)=>Cm p p.side k).sum:=⟨_,rfl⟩
 have hS0:S 0=0:=pi;have hSs:∀i,S (i+1)=S i+Cm p p.side i:=λ i=>YB;have hSK:S g.kinds.length=Cm p p.side (-1):=pi;have hSb:∀i,S i<=9 * i:=λ i=>by
  induction i<;>grind
 have he:nk c p=decide ((S g.kinds.length:Int)<=c.2.2.1):=by
  simp_all [nk]
 rw [he];clear hS;generalize sk g p p.side=l at *;obtain ⟨c0,c1,c2,c3⟩:=c;refine J0 ?_;refine aP hC ?_;refine J0 ?_;refine zg3 (zg5 (α:=Nat) (λ i=>⟨[(5, .ref 2 0 4 0 0),(7, .int (S i)),(14,aS l),(15, .int l.length),(16, .int i)], [(2, .rows true 0 4 [cd (c0,c1,c2,c3)])],3⟩)
  (λ d i=>i+d=l.length) ?_ l.length 0 ?_) ?_ ?_
 ·rintro d i i1 hrec;refine J0 ?_;refine zg4 (λ hi=> ?_) (λ hi=> ?_)<;>simp at hi
  ·have h2:=hnn i ge;have h3:=hle i;have h4:=hSb i;have h5:=hSs i;refine J1 hi ?_;refine zg3 (hrec (d - 1) ge (i+1) ge) ?_ gt;simp [go_sem,aj,h5,h2]
  ·have e:i=l.length:=by omega
   subst e;rw [hl];exact K0
 ·omega
 ·simp [go_sem,aj,hS0]
 ·simp
end
def jS (g:ae) (p:aa):Int×Bool:=if 0<=cq g p then ((ac g.clauses (cq g p).toNat).2.2.2,true) else (0,false)
theorem G2:zb2.lookup 0=some [.v .nilFunc, .fn (.func 366) [] [], .fn (.func 368) [] [], .fn (.func 369) [] []]:=rfl
theorem GG (g:ae) (hg:bN g) (p:aa) (hp:bw g p):aq Tryz.prog 149 [.agg (ai g), .agg (ak p)] (.tup [.int (jS g p).1, .v (.bool (jS g p).2)]):=by
 refine pF Tryz.func149 ?_;have hcn:=hg.cn;refine J0 ?_;refine zg3 (zg5 (α:=Nat) (λ i=>⟨[(2, .ref 0 0 9 0 0),(3, .ref 1 0 5 0 0),(9, .lst 4 (g.clauses.map cd)),(10, .int g.clauses.length),(11, .int i)], [(0, .rows true 0 9 [ai g]),(1, .rows true 0 5 [ak p])],2⟩)
  (λ d i=>i+d=g.clauses.length∧∀j,j<i->nk (ac g.clauses j) p=false) ?_ g.clauses.length 0 ?_) ?_ ?_
 ·rintro d i ⟨i1,i2⟩ hrec;refine J0 ?_;refine zg4 (λ hi=> ?_) (λ hi=> ?_)<;>simp at hi
  ·have hcl:=hg.cl _ (am hi);have hfi:nk (ac g.clauses i) p=true->jS g p=((ac g.clauses i).2.2.2,true):=λ hc=>by
    have he:cq g p=i:=by unfold cq;rw [BT (λ c=>nk c p) g.clauses hi i2 hc]
    grind [jS]
   have h1:=QN g p _ hg hp hcl;have h2:=QO g p _ hg hp hcl;have h3:=QP g p _ hg hp hcl;have hcond:=hcl.cond;obtain ⟨c,hcc⟩:∃c,c=ac g.clauses i:=⟨_,rfl⟩
   rw [<- hcc] at hfi h1 h2 h3 hcond;have fin:∀b,nk c p=b->b=false->∀j,j<i+1->nk (ac g.clauses j) p=false:=by
    grind
   obtain ⟨c0,c1,c2,c3⟩:=c;generalize hcb:nk (c0,c1,c2,c3) p=b at *;simp only at hcond hfi;rcases hcond with rfl|rfl|rfl
   ·have hC:=h1 rfl;repeat first|refine wV λ _=>?_|simp [go_sem,hi,<- hcc,G2]
    refine dP hC ?_;refine J0 ?_;cases b
    ·refine J0 ?_;refine zg3 (hrec (d - 1) ge (i+1) ⟨ge,fin _ rfl rfl⟩) ?_ gt;simp [go_sem,aj]
    ·rw [hfi rfl];exact K0
   ·have hC:=h2 rfl;repeat first|refine wV λ _=>?_|simp [go_sem,hi,<- hcc,G2]
    refine dP hC ?_;refine J0 ?_;cases b
    ·refine J0 ?_;refine zg3 (hrec (d - 1) ge (i+1) ⟨ge,fin _ rfl rfl⟩) ?_ gt;simp [go_sem,aj]
    ·rw [hfi rfl];exact K0
   ·have hC:=h3 rfl;repeat first|refine wV λ _=>?_|simp [go_sem,hi,<- hcc,G2]
    refine dP hC ?_;refine J0 ?_;cases b
    ·refine J0 ?_;refine zg3 (hrec (d - 1) ge (i+1) ⟨ge,fin _ rfl rfl⟩) ?_ gt;simp [go_sem,aj]
    ·rw [hfi rfl];exact K0
  ·have he:cq g p= -1:=by grind [cq,BS]
   have he':jS g p=(0,false):=by grind [jS]
   rw [he'];exact K0
 ·grind
 ·simp [go_sem,aj]
 ·simp
end Go.Av
end
section
open Go Go.Proofs
namespace Go.Av
def DL (o:ck):List AV:= [.agg (cu o)]
variable {n:Nat}
theorem GC {j:Nat} (h:j<n):(List.range n).drop j=j::(List.range n).drop (j+1):=by
 grind [List.drop_eq_getElem_cons]
theorem VW (g:ae) (hg:bN g) (p:aa) (hp:bw g p):K8 Tryz.prog 200 [.fp (ak p), .fp (ai g)] 0 ((kf g p).map DL):=by
 refine zhy Pi Tryz.func200 rfl rfl (Nat.le_of_ble_eq_true rfl) Pi (λ l=> ?_) (hm2:=by decide);have hal:=hp.al;have c9:=hg.c9;have k6:=hg.k6;have hgb:∀ (n:Nat) (L:List ck),aN n (dY l 0 (L.map DL)):=λ n L=>by
  simp only [dY,P0,KU,List.forall_mem_cons,zaz,jd];simp [go_sem,DL]
 obtain ⟨oF,hoF⟩:∃oF:Nat->List ck,oF=λ j=>((List.range p.at_.length).drop j).flatMap (lF g p):=⟨_,rfl⟩
 have ho0:kf g p=oF 0:=by rw [hoF];rfl
 have hos:∀j,j<p.at_.length->oF j=lF g p j++oF (j+1):=λ j hj=>by grind [GC]
 have hon:oF p.at_.length= []:=by grind [List.drop_eq_nil_of_le]
 rw [ho0];clear hoF ho0;refine PX ?_;refine zg3 (zg5 (α:=Nat) (λ j=>⟨[(0, .fn (.yield l) [] []),(1, .fp (ak p)),(2, .fp (ai g)),(14,aS p.at_),(15, .int p.at_.length),(16, .int j),(1000000007,dY l 0 ((oF j).map DL))], [],0⟩)
  (λ d j=>j+d=p.at_.length) ?_ p.at_.length 0 ?_) ?_ ?_
 ·rintro d j j1 hrec;refine PX ?_;refine zg4 (λ hj=> ?_) (λ hj=> ?_)<;>simp at hj
  ·have hat:=hp.at (i:=j) ge;have hman:=cT hat.1 hat.2 hg.k6;have hO:=Do (ac p.at_ j);have hoj:=hos j hj;have hoa:lF g p j=if 0<=(aA (ac p.at_ j)).1∧(aA (ac p.at_ j)).2=p.side then (List.range (ac g.kinds (aA (ac p.at_ j)).1.toNat).progs.length).flatMap λ (i:Nat)=>gG g p j i else []:=rfl
   have hrp:∀i:Nat,i<(ac g.kinds (aA (ac p.at_ j)).1.toNat).progs.length->0<=(aA (ac p.at_ j)).1->(aA (ac p.at_ j)).2=p.side->je g p j i:=λ i hi h1 h2=>
    ⟨ge,ge,h1,h2,ge,WW⟩
   have hRun:∀i:Nat,i<(ac g.kinds (aA (ac p.at_ j)).1.toNat).progs.length->0<=(aA (ac p.at_ j)).1->(aA (ac p.at_ j)).2=p.side-> _:=λ i hi h1 h2=>Sq g hg p hp j i (hrp i hi h1 h2);have hrl:=λ (i:Nat) hi h1 h2=>DN hg hp (hrp i hi h1 h2);clear hrp;generalize aA (ac p.at_ j)=m at *;obtain ⟨mk,ms⟩:=m;simp only at hoa hRun hman hO hrl;refine zgz hj ?_;refine aP hO ?_;refine PX ?_;refine zg4 (λ hc=> ?_) (λ hc=> ?_)<;>simp at hc
   ·have hz:lF g p j= []:=by rw [hoa,if_neg ge]
    rw [hz,List.nil_append] at hoj;rw [hoj];refine PX ?_;refine zg3 (hrec (d - 1) ge (j+1) ge) ?_ gt;simp [go_sem,aj,hgb,GH]
   ·rw [if_pos ge] at hoa;have hmk:mk.toNat<g.kinds.length:=by
     simp only [Prod.mk.injEq] at hman;omega
    have hn8:=hg.pn _ (am hmk);obtain ⟨np,hnp⟩:∃np,np=(ac g.kinds mk.toNat).progs.length:=⟨_,rfl⟩
    rw [<- hnp] at hoa hRun hn8 hrl;obtain ⟨pF,hpF⟩:∃pF:Nat->List ck,pF=λ i=>((List.range np).drop i).flatMap (λ (i:Nat)=>gG g p j i)++oF (j+1):=⟨_,rfl⟩
    have hp0:oF j=pF 0:=pi;have hps:∀i,i<np->pF i=gG g p j i++pF (i+1):=λ i hi=>by grind [GC]
    have hpn:pF np=oF (j+1):=by simp_all [List.drop_eq_nil_of_le]
    rw [hp0];clear hpF hp0 hoa hoj;repeat first|refine wV λ _=>?_|simp [go_sem,GH,hmk,<- hnp]
    refine zg3 (zg5 (α:=Nat) (λ i=>⟨[(0, .fn (.yield l) [] []),(1, .fp (ak p)),(2, .fp (ai g)),(4, .int j),(14,aS p.at_),(15, .int p.at_.length),(16, .int j),(40, .int np),(41, .int i),(1000000007,dY l 0 ((pF i).map DL))], [],0⟩)
     (λ d i=>i+d=np) ?_ np 0 ?_) ?_ ?_
    ·rintro d2 i i1 hrec2;refine PX ?_;refine zg4 (λ hi=> ?_) (λ hi=> ?_)<;>simp at hi
     ·have hR:=hRun i hi ge ge;have hpi:=hps i hi;obtain ⟨rs,hrs⟩:∃rs,rs=gG g p j i:=⟨_,rfl⟩
      have hrl':=hrl i hi ge ge;rw [<- hrs] at hR hpi hrl';obtain ⟨rF,hrF⟩:∃rF:Nat->List ck,rF=λ t=>rs.drop t++pF (i+1):=⟨_,rfl⟩
      have hr0:pF i=rF 0:=pi;have hrt:∀t,t<rs.length->rF t=ac rs t::rF (t+1):=λ t ht=>by grind [bQ]
      have hrn:rF rs.length=pF (i+1):=pi;rw [hr0];clear hrF hr0;refine PX ?_;refine aP hR ?_;refine PX ?_;refine zg3 (zg5 (α:=Nat) (λ t=>⟨[(0, .fn (.yield l) [] []),(1, .fp (ak p)),(2, .fp (ai g)),(4, .int j),(14,aS p.at_),(15, .int p.at_.length),(16, .int j),(40, .int np),(41, .int i),(52,oj rs),(53, .int rs.length),(54, .int t),(1000000007,dY l 0 ((rF t).map DL))], [],0⟩)
       (λ d t=>t+d=rs.length) ?_ rs.length 0 ?_) ?_ ?_
      ·rintro d3 t t1 hrec3;refine PX ?_;refine zg4 (λ ht=> ?_) (λ ht=> ?_)<;>simp at ht
       ·rw [hrt t ht];refine zgz ht ?_;refine Qp.mk (more:=0) (xs:=DL (ac rs t)) (rs:=(rF (t+1)).map DL) _ (by simp [aC,GH]) (.refl _) (.refl _ _ _ _) (by simp [go_sem,DL]) ?_ ?_
        ·refine PX ?_;refine zg3 (hrec3 (d3 - 1) ge (t+1) ge) ?_ gt;simp [go_sem,aj,hgb,GH]
        ·exact Kg0
       ·have e:t=rs.length:=by omega
        subst e;rw [hrn];refine PX ?_;refine zg3 (hrec2 (d2 - 1) ge (i+1) ge) ?_ gt;simp [go_sem,aj,hgb,GH]
      ·omega
      ·simp [go_sem,aj,hgb,GH]
      ·simp
     ·have e:i=np:=by omega
      subst e;rw [hpn];refine PX ?_;refine zg3 (hrec (d - 1) ge (j+1) ge) ?_ gt;simp [go_sem,aj,hgb,GH]
    ·omega
    ·simp [go_sem,aj,hgb,GH]
    ·simp
  ·have e:j=p.at_.length:=by omega
   subst e;rw [hon];exact Kg0
 ·omega
 ·simp [go_sem,aj,hgb,GH]
 ·simp
def Pe (n:Nat):AV:= .fn (.func 200) [] [.ref (n+1) 0 5 0 0, .ref n 0 9 0 0]
def Pc (g:ae) (p:aa) (n:Nat):List (Nat×cB):= [(n, .rows true 0 9 [ai g]),(n+1, .rows true 0 5 [ak p])]
theorem I8 (g:ae) (p:aa):uR Tryz.prog 150 [.agg (ai g), .agg (ak p)] Pe (Pc g p) 2:=by
 refine ⟨?_,λ n=>⟨by simp [go_sem,Pe],by simp [go_sem,Pc]⟩⟩;refine aF Tryz.func150 ?_;repeat first|refine wV λ _=>?_|simp [go_sem,Pe,Pc]
 simp [go_sem,aj]
theorem Oa (g:ae) (p:aa):(jS g p).2=decide (0<=cq g p):=by
 grind [jS]
theorem S3 {α:Type} (f:α->Bool):∀l:List α,l.any f=decide (0<(l.filter f).length)
 | []=>rfl
 |x::l=>by cases h:f x<;>simp [h,S3 f l]
theorem pQ (g:ae) (hg:bN g) (p:aa) (hp:bw g p):aq Tryz.prog 97 [.agg (ai g), .agg (ak p)] (aO (an g p)):=by
 refine pF Tryz.func97 ?_;have hE:=GG g hg p hp;have hD:=Pt g hg p hp;have hdl:=AD hg hp;have hdo:=λ q hq=>((JE hg hp) q hq).1.fits hg;have hol:=KA hg hp;have hoo:=λ o ho=>((Pd hg hp) o ho).1.fits hg;have hS:uR Tryz.prog 150 [.agg (ai g), .agg (ak p)] (λ n=>Pe n) (λ n=>Pc g p n) 2:=I8 g p;have hQ:=VW g hg p hp;simp only [Pe,Pc] at hS;have e2:=Oa g p;have hMv:an g p=if 0<=cq g p then [] else bd bi (kM g p):=rfl
 have hML:kM g p=((kf g p).filter λ o=> !iQ g p||o.took).map (·.pos)++(if iQ g p then [] else fJ g p):=rfl;have hMu:iQ g p=(g.must && (kf g p).any (·.took)):=rfl;rw [e2] at hE;rw [hMv];generalize cq g p=ep at *;generalize (jS g p).1=ev1 at *;generalize kf g p=outs at *;generalize fJ g p=drops at *;generalize iQ g p=must at *;generalize kM g p=mvl at *;clear hMv e2;refine J0 ?_;refine aP hE ?_;refine J0 ?_;refine zg4 (λ he=> ?_) (λ he=> ?_)<;>simp at he
 ·rw [if_pos he];exact K0
 ·rw [if_neg ge];refine PX ?_;refine zg8 hS no ?_;refine PX ?_;refine wo.mk [.fp (ak p), .fp (ai g)] (io _ [4,5]) hQ (ri _ _) ?_ no (by simp [DL]) ?_
  ·refine aY.cons (.frzP rfl ?_ ?_ ?_ ?_) (aY.cons (.frzP rfl ?_ ?_ ?_ ?_) .nil)<;>first|exact aY.refl _ _ _ _|simp [io,kq,aC]
  obtain ⟨al,hal⟩:∃al:Nat->List aa,al=λ k=>(outs.take k).map (·.pos):=⟨_,rfl⟩
  obtain ⟨tk,htk⟩:∃tk:Nat->List aa,tk=λ k=>((outs.take k).filter (·.took)).map (·.pos):=⟨_,rfl⟩
  have hall:∀k,(al k).length<=7200000000:=λ k=>pi;have htkl:∀k,(tk k).length<=7200000000:=λ k=>pi;have hals:∀k,k<outs.length->al (k+1)=al k++ [(ac outs k).pos]:=λ k hk=>X9;have htks:∀k,k<outs.length->tk (k+1)=if (ac outs k).took=true then tk k++ [(ac outs k).pos] else tk k:=λ k hk=>by
   grind [List.take_add_one,ac]
  have hal0:al 0= []:=pi;have htk0:tk 0= []:=pi;have halE:al outs.length=outs.map (·.pos):=pi;have htkE:tk outs.length=(outs.filter (·.took)).map (·.pos):=pi;clear hal htk;refine EO.to (zhv (α:=Nat) (λ k=>([(2, .ref 0 0 9 0 0),(3, .ref 1 0 5 0 0),(7, .ref 2 0 1 0 0),(8, .ref 3 0 1 0 0)], [(0, .rows true 0 9 [ai g]),(1, .rows true 0 5 [ak p]),(2, .rows true 0 1 [[.sl 6 (al k).length 5 0 (al k).length]]),(3, .rows true 0 1 [[.sl 7 (tk k).length 5 0 (tk k).length]]),
    (6, .rows true (al k).length 5 ((al k).map ak)),(7, .rows true (tk k).length 5 ((tk k).map ak))],8))
   (λ rows k=>rows=(outs.drop k).map DL∧k<=outs.length) ?_ ?_ _ 0 ?_) ?_ ?_
  ·rintro k ⟨i1,i2⟩;have hk:k=outs.length:=by
    have:=congrArg List.length i1;grind
   subst hk;refine ⟨rfl, ?_⟩;have hmu:must=(g.must && decide (0<(tk outs.length).length)):=by
    grind [S3]
   have hft:∀q ∈ tk outs.length,bH q:=λ q hq=>by
    grind
   have hfa:∀q ∈ al outs.length,bH q:=λ q hq=>by
    grind
   have hla:=hall outs.length;have hlt:=htkl outs.length;by_cases hm:must=true
   ·rw [hm] at hmu hML;have hgm:g.must=true:=pi;have hpos:0<(tk outs.length).length:=pi;have hpos':(0:Int)<(tk outs.length).length:=ge;have e:mvl=tk outs.length:=by rw [hML,htkE];simp
    rw [e];generalize tk outs.length=tks at *;have hS1:=tD tks ge hft;repeat first|refine wV λ _=>?_|simp [go_sem,GH,<- hmu]
    refine zha [7] hS1 ?_ (xN (eK _)) ?_
    ·(first|done|exact S2)
    ·exact Kg0
   ·have e:mvl=al outs.length++drops:=by
     grind [List.filter_eq_self]
    rw [e];have hS1:=tD (al outs.length++drops) pi (λ q hq=>by
     grind)
    simp only [Bool.not_eq_true] at hm;rw [hm] at hmu;generalize al outs.length=als at *;generalize tk outs.length=tks at *;generalize bd bi (als++drops)=res at *;repeat first|refine wV λ _=>?_|simp [go_sem,GH,<- hmu]
    refine dP hD ?_;refine PX ?_;refine cX.frz [aO (als++drops)] _ [6] [(6,some (.rows false (als.length+1) 5 ((als++drops).map ak)))] hS1 ?_ ?_ (xN (eK _)) ?_
    ·grind [aC]
    ·intro h₁ hS;have h6:=hS 6 gt;simp [aC] at h6;exact .cons (aI h6.symm gt XR Wz) .nil
    ·exact Kg0
  ·rintro xs rs k ⟨i1,i2⟩ hrec;have hk:k<outs.length:=by
    grind
   rw [bQ hk,List.map_cons,List.cons.injEq] at i1;obtain ⟨rfl,rfl⟩:=i1;have hals:=hals k hk;have htks:=htks k hk;have h1:=hall k;have h2:=htkl k;obtain ⟨o,ho⟩:∃o,o=ac outs k:=⟨_,rfl⟩
   rw [<- ho] at hals htks ⊢;obtain ⟨op,ot⟩:=o;simp only at hals htks;generalize hrs:(outs.drop (k+1)).map DL=rs at *;refine ic.go (Nat.zero_le _) ?_;repeat first|refine wV λ _=>?_|simp [go_sem,GH,DL]
   cases ot
   ·rw [if_neg gt] at htks;refine PX ?_;refine EO.to (hrec (k+1) ⟨hrs.symm,ge⟩) ?_ gt;simp [go_sem,aj,GH,hals,htks]
   ·rw [if_pos rfl] at htks;refine PX ?_;refine EO.to (hrec (k+1) ⟨hrs.symm,ge⟩) ?_ gt;simp [go_sem,aj,GH,hals,htks]
  ·grind
  ·simp [go_sem,aj,hal0,htk0]
  ·simp
def cE (g:ae) (p:aa):Int×Bool:=if 0<=cq g p then jS g p else if an g p= [] then (g.blocked,true) else (0,false)
theorem Nh (g:ae) (hg:bN g) (p:aa) (hp:bw g p):aq Tryz.prog 155 [.agg (ai g), .agg (ak p)] (.tup [.int (cE g p).1, .v (.bool (cE g p).2)]):=by
 refine pF Tryz.func155 ?_;have hE:=GG g hg p hp;have hM:=pQ g hg p hp;have hS:cE g p=if 0<=cq g p then jS g p else if an g p= [] then (g.blocked,true) else (0,false):=rfl
 have e2:=Oa g p;rw [hS];obtain ⟨ev,hev⟩:∃ev,ev=jS g p:=⟨_,rfl⟩
 rw [<- hev] at hE e2 ⊢;obtain ⟨e1,b⟩:=ev;simp only at hE e2 ⊢;generalize cq g p=ep at *;generalize an g p=l at *;clear hS hev;subst e2;refine J0 ?_;refine aP hE ?_;refine J0 ?_;refine zg4 (λ he=> ?_) (λ he=> ?_)<;>simp at he
 ·rw [if_pos he];exact K1 he
 ·rw [if_neg ge];refine J0 ?_;refine aP hM ?_;refine J0 ?_;by_cases hl:l= []
  ·subst hl;rw [if_pos rfl];exact K0
  ·rw [if_neg hl];have hl':¬(l.length:Int)=0:=by
    grind [List.length_pos_iff]
   exact K2 hl hl'
def AP (p:aa->Bool) (l:List aa):Int:=match l.findIdx? p with|some i=>(i:Int)|none=> -1
theorem Vr {p:aa->Bool}{l:List aa}{j:Nat} (hj:j<l.length) (h:∀i,i<j->p (ac l i)=false) (hp:p (ac l j)=true):AP p l=j:=by
 have:l.findIdx? p=some j:=by
  grind [List.findIdx?_eq_some_iff_getElem,ac]
 simp [AP,this]
theorem OC {p:aa->Bool}{l:List aa} (h:∀i,i<l.length->p (ac l i)=false):AP p l= -1:=by
 grind [List.getElem_of_mem,AP,ac]
theorem Rk {p:aa->Bool}{l:List aa}:decide (0<=AP p l)=l.any p:=by
 grind [AP]
theorem EQ (l:List aa) (hl:l.length<=17179869184) (f:FuncId) (first caps:List AV) (p:aa->Bool) (hp:∀x ∈ l,aq Tryz.prog f (first++ .agg (ak x)::caps) (.v (.bool (p x)))) (hb:∀c ∈ first,aN 0 c) (hb':∀c ∈ caps,aN 0 c):
  aq Tryz.prog 254 [aO l, .fn (.func f) first caps] (.int (AP p l)):=by
 refine pF Tryz.func254 ?_;simp [go_sem];refine zg3 (zg5 (α:=Nat) (λ j=>⟨[(0,aO l),(1, .fn (.func f) first caps),(7, .int l.length),(8, .int j)], [],0⟩)
  (λ d j=>j+d=l.length∧(∀i<j,p (ac l i)=false)) ?_ l.length 0 ?_) ?_ ?_
 ·rintro d j ⟨i1,i2⟩ hrec;simp [go_sem];refine zg4 (λ hj=> ?_) (λ hj=> ?_)
  ·simp at hj;simp [go_sem];refine zhl hj λ _=> ?_;simp [go_sem,hj];refine zg7 (hp _ (am hj)) (λ c hc=>by
    rcases List.mem_append.1 hc with h|h
    ·grind
    ·rcases List.mem_cons.1 h with rfl|h
     ·exact of_eq_true no
     grind) ?_
   simp [go_sem];refine zg4 (λ h=> ?_) (λ h=> ?_)
   ·simp [go_sem,Vr hj i2 h]
   ·simp [go_sem];refine zhl ge λ _=> ?_;simp [go_sem];refine zg3 (hrec (d - 1) ge (j+1) ⟨ge,λ i hi=> ?_⟩) ?_ gt
    ·grind
    ·simp [go_sem,aj];grind
  ·simp at hj;simp [go_sem,OC λ i hi=>i2 i ge]
 ·simp
 ·simp [go_sem,aj];grind
 ·simp
theorem Ai (l:List aa) (hl:l.length<=17179869184) (f:FuncId) (first caps:List AV) (p:aa->Bool) (hp:∀x ∈ l,aq Tryz.prog f (first++ .agg (ak x)::caps) (.v (.bool (p x)))) (hb:∀c ∈ first,aN 0 c) (hb':∀c ∈ caps,aN 0 c):
  aq Tryz.prog 211 [aO l, .fn (.func f) first caps] (.v (.bool (l.any p))):=by
 refine pF Tryz.func211 ?_;simp [go_sem];refine zg7 (EQ l hl f first caps p hp hb hb') (by simp [go_sem];grind) ?_;simp [go_sem,Rk]
def zaY (known nx:List aa) (q:aa):List aa:=if q ∈ known++nx then nx else nx++ [q]
def dK (g:ae) (known now:List aa):List aa:=(now.flatMap (an g)).foldl (zaY known) []
theorem zQ (known:List aa):∀ (l nx:List aa) (q:aa),q ∈ l.foldl (zaY known) nx↔q ∈ nx∨q ∈ l∧q ∉ known
 | [],nx,q=>gt
 |r::l,nx,q=>by
  rw [List.foldl_cons,zQ known l];unfold zaY;by_cases hr:r ∈ known++nx
  ·rw [if_pos hr];rw [List.mem_append] at hr;constructor
   ·rintro (h|⟨h1,h2⟩)
    ·exact .inl h
    ·exact .inr ⟨List.mem_cons_of_mem _ h1,h2⟩
   ·rintro (h|⟨h1,h2⟩)
    ·exact .inl h
    ·rcases List.mem_cons.1 h1 with rfl|h1
     ·rcases hr with hr|hr
      ·exact absurd hr h2
      ·exact .inl hr
     ·exact .inr ⟨h1,h2⟩
  ·rw [if_neg hr];rw [List.mem_append,not_or] at hr;constructor
   ·rintro (h|⟨h1,h2⟩)
    ·rcases List.mem_append.1 h with h|h
     ·exact .inl h
     ·simp only [List.mem_singleton] at h;subst h;exact .inr ⟨gt,hr.1⟩
    ·exact .inr ⟨List.mem_cons_of_mem _ h1,h2⟩
   ·rintro (h|⟨h1,h2⟩)
    ·exact .inl (List.mem_append.2 (.inl h))
    ·rcases List.mem_cons.1 h1 with rfl|h1
     ·exact .inl gt
     ·exact .inr ⟨h1,h2⟩
theorem wX (known:List aa):∀ (l nx:List aa),nx.Nodup->(l.foldl (zaY known) nx).Nodup
 | [],nx,h=>h
 |r::l,nx,h=>by
  refine wX known l _ ?_;unfold zaY;split
  ·exact h
  ·rename_i hr;rw [List.mem_append,not_or] at hr;refine List.nodup_append.2 ⟨h,gt, ?_⟩;intro a ha b hb e;simp only [List.mem_singleton] at hb;subst hb;subst e;exact hr.2 ha
theorem vX {g:ae}{known now:List aa}{q:aa}:q ∈ dK g known now↔(∃r ∈ now,q ∈ an g r)∧q ∉ known:=by
 grind [dK,zQ]
theorem O6 (g:ae) (known now:List aa):(dK g known now).Nodup:=wX known _ [] gt
theorem OS {g:ae}{known now:List aa} (h:known.Nodup):(known++dK g known now).Nodup:=
 List.nodup_append.2 ⟨h,O6 g known now,λ a ha b hb e=>(vX.1 hb).2 (e▸ha)⟩
theorem zcu {g:ae} (hg:bN g){known now:List aa} (hn:∀p ∈ now,bw g p):∀q ∈ dK g known now,bw g q:=λ q hq=>by
 obtain ⟨⟨r,hr,hm⟩, _⟩:=vX.1 hq;exact (bD hg (hn r hr) q hm).1
structure gM (g:ae) (known now:List aa):Prop where
 nd:known.Nodup
 sub:∀q ∈ now,q ∈ known
 inc:lm now
 ok:∀q ∈ known,bw g q
theorem zhp {g:ae}{p:aa} (hp:bw g p):gM g [p] [p]:=
 ⟨gt,λ q hq=>hq,XG,λ q hq=>pi⟩
theorem gM.next {g:ae} (hg:bN g){known now:List aa} (h:gM g known now):gM g (known++dK g known now) (bd bi (dK g known now)):=
 ⟨OS h.nd,λ q hq=>List.mem_append.2 (.inr (ax.1 hq)),cU bp _,λ q hq=>by
  rcases List.mem_append.1 hq with hq|hq
  ·exact h.ok q hq
  ·exact zcu hg (λ r hr=>h.ok r (h.sub r hr)) q hq⟩
theorem KT (l:List aa) (hi:lm l) (hl:l.length<=17179869184) (hf:∀q ∈ l,bH q) (p:aa) (hp:bH p):
  aq Tryz.prog 157 [aO l, .agg (ak p), .fn (.func 158) [] []] (.tup [.int (xp l p), .v (.bool (decide (p ∈ l)))]):=by
 refine pF Tryz.func157 ?_;have hle:=TH l p;have hmem:=OY hi p;have hiff:=λ h hn=>OX hi p (h:=h) hn;generalize xp l p=w at *;refine J0 ?_;refine zg3 (zg5 (α:=Nat×Nat) (λ a=>⟨[(0,aO l),(2, .fn (.func 158) [] []),(4, .ref 0 0 5 0 0),(8, .int l.length),(9, .int a.1),(10, .int a.2)], [(0, .rows true 0 5 [ak p])],1⟩)
  (λ d a=>a.2 - a.1<=d∧a.1<=w∧w<=a.2∧a.2<=l.length) ?_ l.length (0,l.length) ?_) ?_ ?_
 ·rintro d ⟨i,j⟩ ⟨i1,i2,i3,i4⟩ hrec;simp only at i1 i2 i3 i4;have hdiv:((i:Int)+j).fdiv 2=((i+j) / 2:Nat):=pi;refine J0 ?_;refine zg4 (λ hlt=> ?_) (λ hlt=> ?_)<;>simp at hlt
  ·have hm:(i+j) / 2<l.length:=by omega
   have hm2:i<=(i+j) / 2∧(i+j) / 2<j:=ge;generalize hmid:(i+j) / 2=mid at *;refine J2 hdiv hm ?_;refine dP (jD (ac l mid) p (hf _ (am hm)) hp) ?_;have hi2:=hiff mid hm;generalize bi (ac l mid) p=c at *;refine J0 ?_;refine zg4 (λ hc=> ?_) (λ hc=> ?_)<;>simp at hc
   ·have:=hi2.1 hc;refine J0 ?_;refine zg3 (hrec (d - 1) ge (mid+1,j) ⟨ge,ge,ge,ge⟩) ?_ gt;simp [go_sem,aj]
   ·have:¬mid<w:=λ h=>by omega
    refine J0 ?_;refine zg3 (hrec (d - 1) ge (i,mid) ⟨ge,ge,ge,ge⟩) ?_ gt;simp [go_sem,aj]
  ·obtain rfl:i=w:=by omega
   by_cases hw:i<l.length
   ·have hC:=jD (ac l i) p (hf _ (am hw)) hp;have e:decide (p ∈ l)=decide (bi (ac l i) p=0):=by
     rw [decide_eq_decide,hmem,bp.eq];grind
    rw [e];generalize bi (ac l i) p=c at *;refine J1 hw ?_;refine zg9 _ (λ _=>hC) no ?_;exact K1 hw
   ·have e:decide (p ∈ l)=false:=decide_eq_false λ h=>hw (hmem.1 h).1;rw [e];refine J1 hw ?_;refine oK.skip (.int 0) ?_;exact K1 hw
 ·omega
 ·simp [go_sem,aj]
 ·simp
theorem Sd (l:List aa) (hi:lm l) (hl:l.length<=17179869184) (hf:∀q ∈ l,bH q) (p:aa) (hp:bH p):
  aq Tryz.prog 101 [aO l, .agg (ak p)] (.int (sn l p)):=by
 refine pF Tryz.func101 ?_;have hB:=KT l hi hl hf p hp;rw [zbX hi];refine J0 ?_;refine aP hB ?_;refine J0 ?_;by_cases h:p ∈ l
 ·rw [if_pos h];exact K1 h
 ·rw [if_neg h];exact K1 h
theorem OQ (p:aa):(lM p).data.toList=(xj p).map λ n=>UInt8.ofNat n.toNat:=by
 grind [lM,wT]
theorem ym {g:ae} (hg:bN g){a b:aa} (ha:bw g a) (hb:bw g b) (h:lM a=lM b):a=b:=by
 have h2:xj a=xj b:=AX (Bs hg ha) (Bs hg hb) (by grind [OQ]);have a1:=ha.al;have b1:=hb.al;have a2:=ha.h0.len;have b2:=hb.h0.len;have a3:=ha.h1.len;have b3:=hb.h1.len;obtain ⟨pat,ph0,ph1,pr,ps⟩:=a;obtain ⟨qat,qh0,qh1,qr,qs⟩:=b;simp only [xj,List.append_assoc] at h2 a1 b1 a2 b2 a3 b3;grind [List.append_inj]
def vN (q:aa):List AV:= [.v (.string (lM q)), .v (.bool true)]
theorem UL {l:List aa}:(∀r ∈ l.map vN,∀c ∈ r,aN n c)=True:=by
 refine eq_true ?_;intro r hr c hc;obtain ⟨x, _,rfl⟩:=List.mem_map.1 hr;simp only [vN,List.mem_cons,List.not_mem_nil,or_false] at hc;rcases hc with rfl|rfl<;>exact .v _
attribute [go_sem ↓] UL
theorem GS (t:aa):∀ (next:List aa),(∀s ∈ next,lM t=lM s->t=s)->eM .string (.v (.string (lM t))) (next.map vN)=some (if t ∈ next then some (.v (.bool true)) else none)
 | [], _=>by simp [eM]
 |s::next,h=>by
  rw [List.map_cons,eM];have e:mi .string (.v (.string (lM t))) (mZ (vN s) 0)=some (lM t==lM s):=rfl;rw [e,sx];by_cases hk:lM t=lM s
  ·have:=h s gt hk;subst this;simp [vN,mZ]
  ·have hne:t≠s:=λ e=>hk (by rw [e]);rw [decide_eq_false hk];rw [GS t next (λ u hu=>h u Yo)];simp [hne]
theorem KG (t:aa):∀ (next:List aa),(∀s ∈ next,lM t=lM s->t=s)->t ∉ next->gz .string (.v (.string (lM t))) (.v (.bool true)) (next.map vN)=some ((next++ [t]).map vN)
 | [], _, _=>by simp [gz,vN]
 |s::next,h,hn=>by
  rw [List.map_cons,gz];have e:mi .string (.v (.string (lM t))) (mZ (vN s) 0)=some (lM t==lM s):=rfl;rw [e,sx];have hk:lM t≠lM s:=λ e=>hn (by rw [h s gt e];simp);rw [decide_eq_false hk];rw [KG t next (λ u hu=>h u Yo) (λ hm=>hn (by simp [hm]))];simp
def zgT (x:List aa×Bool):List AV:= [aO x.1, .v (.bool x.2)]
theorem zbl {L:List (List aa×Bool)}:(∀r ∈ L.map zgT,∀c ∈ r,aN n c)=True:=by
 refine eq_true ?_;intro r hr c hc;obtain ⟨x, _,rfl⟩:=List.mem_map.1 hr;simp only [zgT,List.mem_cons,List.not_mem_nil,or_false] at hc;rcases hc with rfl|rfl
 ·exact of_eq_true Qz
 ·exact .v _
attribute [go_sem ↓] zbl
theorem qj {g:ae} (hg:bN g){p:aa} (hp:bw g p):aq Tryz.prog 138 [.agg (ak p)] (.v (.string (lM p))):=by
 have:=hp.al;have:=hg.c9;have:=hg.k6;have:=hp.h0.len;have:=hp.h1.len;exact MK p ge ge ge (Bs hg hp)
def zd2 (D:List (List aa)):List (List AV):=D.map λ l=> [aO l]
theorem zbj {D:List (List aa)}:(∀r ∈ zd2 D,∀c ∈ r,aN n c)=True:=by
 grind [eK,zd2]
attribute [go_sem ↓] zbj
@[go_sem] theorem zgK (D:List (List aa)):(zd2 D).length=D.length:=by simp [zd2]
def zbc (N:Nat) (G:List (List aa)) (m:Nat):List (List AV):=(List.range N).map λ j=>if m<=j then [aO (ac G j)] else [AV.nils]
@[go_sem] theorem zgs (N:Nat) (G:List (List aa)) (m:Nat):(zbc N G m).length=N:=by simp [zbc]
theorem UH {N:Nat}{G:List (List aa)}{m:Nat}:(∀r ∈ zbc N G m,∀c ∈ r,aN n c)=True:=by
 refine eq_true ?_;intro r hr c hc;obtain ⟨j, _,rfl⟩:=List.mem_map.1 hr;split at hc
 ·grind [eK]
 ·simp only [List.mem_cons,List.not_mem_nil,or_false] at hc;subst hc;exact .v _
attribute [go_sem ↓] UH
end Go.Av
end
section
open Go Go.Proofs
namespace Go.Av
section Ways
variable {g:ae} (hg:bN g) {p:aa} (hp:bw g p)
end Ways
end Go.Av
end
section
open Go Go.Proofs
namespace Go.Av
def mn (side kind:Int) (c:Int):Bool:=pK default side kind c
def cnt (l:List Int) (side kind:Int):Nat:=l.countP (mn side kind)
theorem L0 (side kind:Int):mn side kind 0=false:=by
 grind [mn,pK,aA]
theorem Tl:∀ (l:List Int){i:Nat} (hi:i<l.length) (v side kind:Int),cnt (l.set i v) side kind+(if mn side kind (ac l i) then 1 else 0)=cnt l side kind+(if mn side kind v then 1 else 0)
 | [],i,hi, _, _, _=>by simp at hi
 |a::l,0, _,v,side,kind=>by
  grind [cnt,ac]
 |a::l,i+1,hi,v,side,kind=>by
  grind [cnt,ac]
variable {side:Int}
theorem zfW {c kind:Int} (h:(aA c).2≠side):mn side kind c=false:=by
 grind [mn,pK]
theorem zfV {c:Int} (h:(aA c).2=side) (h0:0<=(aA c).1):mn side (-1) c=true:=by
 grind [mn,pK]
structure FM (a:List Int) (side:Int) (l:List Int):Prop where
 len:l.length=a.length
 own:cnt l side (-1)+1=cnt a side (-1)
 foe:∀k,cnt l (1 - side) k<=cnt a (1 - side) k
variable {i j:Nat} {a l:List Int}
theorem zhP  (hi:i<a.length) (h0:0<=(aA (ac a i)).1) (h:(aA (ac a i)).2=side):FM a side (a.set i 0):=by
 refine ⟨gt, ?_,λ k=> ?_⟩;all_goals grind [L0,zfV,cnt,ac]
theorem FM.take  (h:FM a side l) (hi:i<l.length) (hs:(aA (ac l i)).2≠side):FM a side (l.set i 0):=by
 refine ⟨by simpa using h.len, ?_,λ k=> ?_⟩
 ·have:=Tl l hi 0 side (-1);rw [L0,zfW hs] at this;have:=h.own;omega
 ·have:=Tl l hi 0 (1 - side) k;rw [L0] at this;have:=h.foe k;grind
theorem NZ  (hi:i<l.length) (hj:j<l.length) (h0:ac l j=0) (h1:ac l i≠0) (side kind:Int):cnt ((l.set j (ac l i)).set i 0) side kind=cnt l side kind:=by
 grind [ac,cnt]
theorem FM.push  (h:FM a side l) (hi:i<l.length) (hj:j<l.length) (h0:ac l j=0) (h1:ac l i≠0):FM a side ((l.set j (ac l i)).set i 0):=
 ⟨by simpa using h.len,by rw [NZ hi hj h0 h1];exact h.own,λ k=>by rw [NZ hi hj h0 h1];exact h.foe k⟩
theorem H7 {s:dM}:∀ {l:List Int},∀t ∈ dQ s l,t.p=s.p
 | [],t,h=>by simp [dQ] at h
 |c::l,t,h=>by
  rw [dQ,List.mem_cons] at h;rcases h with rfl|h
  ·rfl
  ·split at h
   ·exact H7 t h
   ·simp at h
theorem FM.step {g:ae} (hg:bN g){s:dM} (hs:jx g s) (h:FM a s.p.side s.p.at_){x:Int×Int}:∀t ∈ di g s x,FM a s.p.side t.p.at_:=by
 intro t ht;have hal:=hs.p.al;have c0:=hs.c0;have c1:=hs.c1;have hcl:s.cursor.toNat<s.p.at_.length:=ge;unfold di at ht;simp only at ht;repeat' split at ht
 ·grind [dF]
 ·grind [H7,tQ]
 ·grind [dF]
 ·grind [dF]
 ·grind [dF]
 ·unfold wi at ht;simp only at ht;split at ht
  ·simp at ht
  ·rename_i hm;have hm2:(aA (ac s.p.at_ s.cursor.toNat)).2≠s.p.side:=λ e=>hm (.inr e);have key:=h.take hcl hm2;grind [aa.withHand,clr]
 ·unfold v7 at ht;simp only at ht;split at ht
  ·simp at ht
  ·rename_i hm;simp only [not_or,Decidable.not_not,Int.not_lt] at hm;simp only [List.mem_singleton] at ht;subst ht;have hto:=tU hg.board s.p.side x.2 s.cursor;have e:g.board.cells=g.cells:=rfl;exact h.push hcl ge hm.2.2 hm.1
 all_goals grind [dF]
def dV (l:List aa) (q:aa):List aa:=if q ∈ l then l else l++ [q]
def uh (g:ae):Nat->Nat->List aa->List aa×Int
 |0, _, _=>([],2)
 |f+1,i,l=>if i<l.length then (if 4000<((an g (ac l i)).foldl dV l).length then ([],2) else uh g f (i+1) ((an g (ac l i)).foldl dV l)) else (bd bi l,0)
def xJ (g:ae) (p:aa):List aa×Int:=uh g 4002 0 [p]
theorem gu:∀ (m l:List aa){q:aa},q ∈ m.foldl dV l↔q ∈ l∨q ∈ m
 | [],l,q=>gt
 |r::m,l,q=>by
  rw [List.foldl_cons,gu m];unfold dV;split
  ·rename_i h;simp only [List.mem_cons];constructor
   ·rintro (h1|h1)
    ·exact .inl h1
    ·exact .inr (.inr h1)
   ·rintro (h1|rfl|h1)
    ·exact .inl h1
    ·exact .inl h
    ·exact .inr h1
  ·simp only [List.mem_append,List.mem_cons,List.not_mem_nil,or_false];exact or_assoc
theorem pT:∀ (m l:List aa),l.Nodup->(m.foldl dV l).Nodup
 | [],l,h=>h
 |r::m,l,h=>by
  refine pT m _ ?_;unfold dV;split
  ·exact h
  ·rename_i hr;refine List.nodup_append.2 ⟨h,gt, ?_⟩;intro a ha b hb e;simp only [List.mem_singleton] at hb;subst hb;subst e;exact hr ha
theorem kU:∀ (m l:List aa),∃r,m.foldl dV l=l++r
 | [],l=>⟨[],gt⟩
 |x::m,l=>by
  obtain ⟨r,hr⟩:=kU m (dV l x);grind [dV]
def dZ:List aa->aa->Nat
 | [], _=>0
 |x::l,q=>if x=q then 0 else dZ l q+1
theorem dm:∀ {P:List aa}{q:aa},q ∈ P->dZ P q<P.length∧ac P (dZ P q)=q
 |x::l,q,h=>by
  rw [dZ];by_cases e:x=q
  ·rw [if_pos e];exact ⟨gt,e⟩
  ·rw [if_neg e];have hq:q ∈ l:=(List.mem_cons.1 h).resolve_left λ h=>e h.symm;obtain ⟨h1,h2⟩:=dm hq;exact ⟨XY,h2⟩
theorem wH:∀ {P:List aa}{q:aa} (r:List aa),q ∈ P->dZ (P++r) q=dZ P q
 |x::l,q,r,h=>by
  rw [List.cons_append,dZ,dZ];by_cases e:x=q
  ·rw [if_pos e,if_pos e]
  ·rw [if_neg e,if_neg e,wH r ((List.mem_cons.1 h).resolve_left λ h=>e h.symm)]
theorem RP {α:Type} [Inhabited α] {l:List α} (h:l.Nodup) (hi:i<l.length) (hj:j<l.length) (e:ac l i=ac l j):i=j:=by
 grind [List.pairwise_iff_getElem,ac]
theorem Tx {P:List aa} (hn:P.Nodup) (hi:i<P.length):dZ P (ac P i)=i:=by
 obtain ⟨h1,h2⟩:=dm (am hi);grind [RP]
def Fg (P:List aa) (ms:List aa):List aa×List Nat:=ms.foldl (λ s q=>(dV s.1 q,s.2++ [dZ (dV s.1 q) q])) (P, [])
theorem Ur (P:List aa) (q:aa):q ∈ dV P q:=by
 grind [dV]
theorem DA:∀ (ms:List aa) (P:List aa) (o:List Nat) (r:List aa),ms.foldl (λ s q=>(dV s.1 q,s.2++ [dZ (dV s.1 q) q])) (P,o)=(ms.foldl dV P,o++ms.map (dZ (ms.foldl dV P++r)))
 | [],P,o,r=>gt
 |q::ms,P,o,r=>by
  rw [List.foldl_cons,List.foldl_cons];rw [DA ms (dV P q) _ r,List.map_cons];obtain ⟨t,ht⟩:=kU ms (dV P q);have e:dZ (ms.foldl dV (dV P q)++r) q=dZ (dV P q) q:=by
   rw [ht,List.append_assoc];exact wH _ (Ur P q)
  rw [e,List.append_assoc];rfl
theorem TO (ms P r:List aa):Fg P ms=(ms.foldl dV P,ms.map (dZ (ms.foldl dV P++r))):=by
 grind [Fg,DA]
def b9 (g:ae) (limit:Nat):Nat->Nat->List aa->List (List Nat)->List (List Nat)->Option (List aa×List (List Nat)×List (List Nat))
 |0, _, _, _, _=>none
 |f+1,i,P,L,R=>
  if i<P.length then
   (if limit<((bV g (ac P i) 1).foldl dV ((bV g (ac P i) 0).foldl dV P)).length then none
   else b9 g limit f (i+1) ((bV g (ac P i) 1).foldl dV ((bV g (ac P i) 0).foldl dV P)) (L++ [(Fg P (bV g (ac P i) 0)).2]) (R++ [(Fg ((bV g (ac P i) 0).foldl dV P) (bV g (ac P i) 1)).2]))
  else some (P,L,R)
structure xi (g:ae) (P:List aa) (L R:List (List Nat)) (k:Nat):Prop where
 nd:P.Nodup
 l:L.length=k
 r:R.length=k
 mem:∀i,i<k->∀s:Int,s=0∨s=1->∀q ∈ bV g (ac P i) s,q ∈ P
 ol:∀i,i<k->ac L i=(bV g (ac P i) 0).map (dZ P)
 or:∀i,i<k->ac R i=(bV g (ac P i) 1).map (dZ P)
theorem Ct {α:Type} [Inhabited α] {l:List α}{x:α}:ac (l++ [x]) i=if i<l.length then ac l i else if i=l.length then x else default:=by
 grind [ac]
theorem xi.step {g:ae}{P:List aa}{L R:List (List Nat)}{k:Nat} (h:xi g P L R k) (hk:k<P.length):
  xi g ((bV g (ac P k) 1).foldl dV ((bV g (ac P k) 0).foldl dV P)) (L++ [(Fg P (bV g (ac P k) 0)).2]) (R++ [(Fg ((bV g (ac P k) 0).foldl dV P) (bV g (ac P k) 1)).2]) (k+1):=by
 obtain ⟨r1,e1⟩:=kU (bV g (ac P k) 0) P;obtain ⟨r2,e2⟩:=kU (bV g (ac P k) 1) ((bV g (ac P k) 0).foldl dV P);have hl:=h.l;have hr:=h.r;have hP:(bV g (ac P k) 1).foldl dV ((bV g (ac P k) 0).foldl dV P)=P++(r1++r2):=pi;have hm1:∀q ∈ bV g (ac P k) 0,q ∈ (bV g (ac P k) 1).foldl dV ((bV g (ac P k) 0).foldl dV P):=λ q hq=>(gu _ _).2 (.inl ((gu _ _).2 (.inr hq)));have hm2:∀q ∈ bV g (ac P k) 1,q ∈ (bV g (ac P k) 1).foldl dV ((bV g (ac P k) 0).foldl dV P):=λ q hq=>(gu _ _).2 (.inr hq);have o1:(Fg P (bV g (ac P k) 0)).2=(bV g (ac P k) 0).map (dZ ((bV g (ac P k) 1).foldl dV ((bV g (ac P k) 0).foldl dV P))):=by grind [TO]
 have o2:(Fg ((bV g (ac P k) 0).foldl dV P) (bV g (ac P k) 1)).2=(bV g (ac P k) 1).map (dZ ((bV g (ac P k) 1).foldl dV ((bV g (ac P k) 0).foldl dV P))):=by rw [TO _ _ [],List.append_nil]
 have hnd:=pT (bV g (ac P k) 1) _ (pT (bV g (ac P k) 0) P h.nd);generalize hG:(bV g (ac P k) 1).foldl dV ((bV g (ac P k) 0).foldl dV P)=G at *;have hnth:∀i,i<P.length->ac G i=ac P i:=λ i hi=>Wx;have hix:∀q ∈ P,dZ G q=dZ P q:=λ q hq=>by grind [wH]
 refine ⟨hnd,by simp [hl],XV,λ i hi s hs q hq=> ?_,λ i hi=> ?_,λ i hi=> ?_⟩
 ·rw [hnth i ge] at hq;by_cases e:i=k
  ·grind
  ·rw [hP];exact List.mem_append.2 (.inl (h.mem i ge s hs q hq))
 ·rw [hnth i ge,Ct];by_cases e:i=k
  ·grind
  ·rw [if_pos ge,h.ol i ge];exact List.map_congr_left λ q hq=>(hix q (h.mem i ge 0 (.inl rfl) q hq)).symm
 ·rw [hnth i ge,Ct];by_cases e:i=k
  ·grind
  ·rw [if_pos ge,h.or i ge];exact List.map_congr_left λ q hq=>(hix q (h.mem i ge 1 (.inr rfl) q hq)).symm
theorem JH {g:ae}{limit:Nat}{p0:aa}:∀ (f k:Nat){P:List aa}{L R:List (List Nat)},xi g P L R k->k<=P.length->ac P 0=p0->P≠ []->∀ {P':List aa}{L' R':List (List Nat)},
  b9 g limit f k P L R=some (P',L',R')->xi g P' L' R' P'.length∧ac P' 0=p0∧P'≠ []
 |0, _, _, _, _, _, _, _, _, _, _, _,h=>WP
 |f+1,k,P,L,R,hg,hk,h0,hne,P',L',R',h=>by
  rw [b9] at h;split at h
  ·rename_i hlt;split at h
   ·cases h
   ·obtain ⟨r1,e1⟩:=kU (bV g (ac P k) 0) P;obtain ⟨r2,e2⟩:=kU (bV g (ac P k) 1) ((bV g (ac P k) 0).foldl dV P);refine JH f (k+1) (hg.step hlt) ?_ ?_ ?_ h;all_goals grind [ac]
  grind
theorem Rh (g:ae) (p:aa):xi g [p] [] [] 0:=⟨gt,rfl,rfl,λ i hi=>ge,λ i hi=>ge,λ i hi=>ge⟩
def jV (L R:List (List Nat)):Nat->Nat->af
 |0, _=> .zero
 |f+1,i=> .mk ((ac L i).map (jV L R f)) ((ac R i).map (jV L R f))
def lp (p:aa) (t:List aa):List aa:=p::t
theorem nX (p:aa) (t:List aa):(lp p t).length=t.length+1:=rfl
theorem Dv (p:aa) (t:List aa) (q:aa):lp p (t++ [q])=lp p t++ [q]:=rfl
theorem RH (p:aa):lp p []= [p]:=rfl
def oR (p:aa) (t:List aa) (q:aa):List aa:=if q ∈ lp p t then t else t++ [q]
theorem S1 (p:aa) (t:List aa) (q:aa):dV (lp p t) q=lp p (oR p t q):=by
 grind [dV,oR,lp]
theorem yf (p:aa):∀ (m t:List aa),m.foldl dV (lp p t)=lp p (m.foldl (oR p) t)
 | [],t=>rfl
 |q::m,t=>by
  rw [List.foldl_cons,List.foldl_cons,S1,yf p m]
theorem GV (p:aa) (t l:List aa) (hj:j<l.length):(l.take (j+1)).foldl (oR p) t=oR p ((l.take j).foldl (oR p) t) (ac l j):=by
 grind [List.take_add_one,ac]
theorem Dl (p:aa):∀ (m t:List aa),(m.foldl (oR p) t).length<=t.length+m.length
 | [],t=>gt
 |q::m,t=>by
  rw [List.foldl_cons];have h1:=Dl p m (oR p t q);have h2:(oR p t q).length<=t.length+1:=by unfold oR;split<;>simp
  simp only [List.length_cons];omega
theorem AK (p:aa):∀ (m t:List aa),t.length<=(m.foldl (oR p) t).length
 | [],t=>gt
 |q::m,t=>by
  rw [List.foldl_cons];have h1:=AK p m (oR p t q);have h2:t.length<=(oR p t q).length:=by unfold oR;split<;>simp
  omega
theorem vG (p:aa) (m t:List aa){q:aa}:q ∈ lp p (m.foldl (oR p) t)↔q ∈ lp p t∨q ∈ m:=by
 rw [<- yf,gu]
theorem zay (g:ae) (hg:bN g) (p:aa) (hp:bw g p):aq Tryz.prog 99 [.agg (ai g), .agg (ak p)] (.tup [aO (xJ g p).1, .int (xJ g p).2]):=by
 have hK0:=qj hg hp;obtain ⟨R,hR⟩:∃R,R=xJ g p:=⟨_,rfl⟩
 rw [<- hR];have hR0:R=uh g 4002 0 (lp p []):=hR;clear hR;have hegl:(ai g).length=9:=rfl;have hegb:∀n,(∀c ∈ ai g,aN n c)=True:=λ n=>no;refine pF Tryz.func99 ?_;refine J0 ?_;refine aP hK0 ?_;repeat first|refine wV λ _=>?_|simp [go_sem,gz]
 refine zg3 (zg5 (α:=Nat×List aa) (λ a=>⟨[(2, .ref 0 0 9 0 0),(6, .mp 2),(7, .sl 3 a.2.length 5 0 (a.2.length+1)),(8, .int a.1)], [(0, .rows true 0 9 [ai g]),(2, .rows true 0 2 ((lp p a.2).map vN)),(3, .rows true a.2.length 5 ((lp p a.2).map ak))],4⟩)
  (λ d a=>a.1+d=4002∧a.2.length<=3999∧a.1<=a.2.length+1∧(∀q ∈ lp p a.2,bw g q)∧R=uh g d a.1 (lp p a.2)) ?_ 4002 (0, []) ?_) ?_ ?_
 rotate_left
 ·grind [lp]
 ·simp [go_sem,aj,RH,vN]
 ·simp
 rintro d ⟨i,t⟩ ⟨i1,i2,i3,i4,i5⟩ hrec;simp only at i1 i2 i3 i4 i5;obtain ⟨d,rfl⟩:∃d',d=d'+1:=⟨d - 1,ge⟩
 have hl:=nX p t;rw [uh,yf] at i5;refine J1 hl ?_;refine zg4 (λ hi=> ?_) (λ hi=> ?_)<;>simp at hi
 ·have hil:i<(lp p t).length:=by omega
  rw [if_pos hil,nX] at i5;have hp0:=i4 _ (am hil);have hM:=pQ g hg _ hp0;have hml:=cG hg hp0;have hmo:=λ m hm=>(bD hg hp0 m hm).1;generalize hn:ac (lp p t) i=p0 at *;generalize hmv:an g p0=mv at *;obtain ⟨T,hT⟩:∃T:Nat->List aa,∀j,T j=(mv.take j).foldl (oR p) t:=⟨_,λ _=>rfl⟩
  have hT0:T 0=t:=pi;have hTs:∀j,j<mv.length->T (j+1)=oR p (T j) (ac mv j):=λ j hj=>by grind [GV]
  have hTn:T mv.length=mv.foldl (oR p) t:=pi;have hTl:∀j,(T j).length<=3999+472446:=λ j=>by
   rw [hT];have h1:=Dl p (mv.take j) t;have h2:(mv.take j).length<=mv.length:=pi;omega
  have hTg:∀j,t.length<=(T j).length:=λ j=>by grind [AK]
  have hTo:∀j,∀q ∈ lp p (T j),bw g q:=λ j q hq=>by
   grind [vG]
  rw [<- hTn] at i5;clear hT;have hnm:ac ((lp p t).map ak) i=ak p0:=Wx;refine J2 hl hnm ?_;refine dP hM ?_;refine J1 hl ?_;refine zg3 (zg5 (α:=Nat) (λ j=>⟨[(2, .ref 0 0 9 0 0),(6, .mp 2),(7, .sl 3 (T j).length 5 0 ((T j).length+1)),(8, .int i),(29,aO mv),(30, .int mv.length),(31, .int j)], [(0, .rows true 0 9 [ai g]),(2, .rows true 0 2 ((lp p (T j)).map vN)),(3, .rows true (T j).length 5 ((lp p (T j)).map ak))],4⟩)
   (λ d j=>j+d=mv.length) ?_ mv.length 0 ?_) ?_ ?_
  ·rintro d3 j j1 hrec3;refine J0 ?_;refine zg4 (λ hj=> ?_) (λ hj=> ?_)<;>simp at hj
   ·have hqo:=hmo _ (am hj);have hKq:=qj hg hqo;have hTj:=hTs j hj;have hTb:=hTl j;have hin:∀u ∈ lp p (T j),lM (ac mv j)=lM u->ac mv j=u:=λ u hu e=>ym hg hqo (hTo j u hu) e;have hfind:=GS _ _ hin;have hput:=KG _ _ hin;unfold oR at hTj;generalize hq:ac mv j=q at *;generalize T j=tj at *;have hl2:=nX p tj;have hla:=Dv p tj q;rw [<- hla] at hput;refine J2 hj hq ?_;refine aP hKq ?_;by_cases hmem:q ∈ lp p tj
    ·rw [if_pos hmem] at hTj hfind;refine J1 hfind ?_;refine zg3 (hrec3 (d3 - 1) ge (j+1) ge) ?_ gt;simp [go_sem,aj,hTj]
    ·rw [if_neg hmem] at hTj hfind;have hput:=hput hmem;refine J3 hfind hput hl2 ?_;refine zg3 (hrec3 (d3 - 1) ge (j+1) ge) ?_ gt;simp [go_sem,aj,hTj,hla];intro c hc;simp only [vN,List.mem_cons,List.not_mem_nil,or_false] at hc;rcases hc with rfl|rfl<;>exact .v _
   ·obtain rfl:j=mv.length:=by omega
    have hb:=hTl mv.length;have ho:=hTo mv.length;have hgr:=hTg mv.length;generalize T mv.length=t2 at *;have hl2:=nX p t2;refine J1 hl2 ?_;refine zg4 (λ h4=> ?_) (λ h4=> ?_)<;>simp at h4
    ·rw [if_pos ge] at i5;rw [i5];exact K0
    ·rw [if_neg ge] at i5;refine J0 ?_;refine zg3 (hrec d ge (i+1,t2) ⟨ge,pi,pi,ho,i5⟩) ?_ gt;simp [go_sem,aj]
  ·simp
  ·simp [go_sem,aj,hT0]
  ·simp
 ·rw [if_neg ge] at i5;have hSo:=tD (lp p t) ge (λ q hq=>(i4 q hq).fits hg);rw [i5];generalize lp p t=l at *;refine J1 hl ?_;rw [<- hl];refine zha [3] hSo ?_ (xN (eK _)) ?_
  ·(first|done|exact S2)
  ·exact K0
end Go.Av
end
section
open Go Go.Proofs
namespace Go.Av
open af
def bu (n:Nat):List AV:= [.int n]
def aX (l:List Nat):AV:= .lst 1 (l.map bu)
def cC (l:List Nat):List AV:= [aX l]
def aG (l:List (List Nat)):AV:= .lst 1 (l.map cC)
theorem lU (n:Nat) (l:List Nat):(∀r ∈ l.map bu,∀c ∈ r,aN n c)=True:=eq_true λ r hr c hc=>by
 obtain ⟨x, _,rfl⟩:=List.mem_map.1 hr;simp only [bu,List.mem_singleton] at hc;subst hc;exact .v _
theorem nS (n:Nat) (l:List Nat):aN n (aX l):= .lst (of_eq_true (lU n l))
theorem ob (n:Nat) (l:List (List Nat)):(∀r ∈ l.map cC,∀c ∈ r,aN n c)=True:=eq_true λ r hr c hc=>by
 grind [cC,nS]
theorem vm (n:Nat) (l:List (List Nat)):aN n (aG l):= .lst (of_eq_true (ob n l))
theorem sW (n:Nat) (l:List (List Nat)):aN n (aG l)=True:=eq_true (vm n l)
theorem NE (n:Nat) (l:List Nat):aN n (aX l)=True:=eq_true (nS n l)
attribute [go_sem ↓] lU ob sW NE
theorem Kf {P:List aa}{q:aa}{j:Nat} (hj:j<P.length) (hq:ac P j=q) (hne:∀i,i<j->ac P i≠q):dZ P q=j:=by
 induction P generalizing j with
 |nil=>simp at hj
 |cons x l ih=>
  rw [dZ];cases j with
  |zero=>grind [ac]
  |succ j=>
   have h0:=hne 0 ge;grind [dv,ac]
theorem O8 {P:List aa}{q:aa} (hne:∀i,i<P.length->ac P i≠q):q ∉ P:=λ h=>by
 obtain ⟨h1,h2⟩:=dm h;grind
theorem Fv {P:List aa}{q:aa} (h:q ∉ P):dZ (P++ [q]) q=P.length:=by
 refine Kf gt ?_ λ i hi e=> ?_;all_goals grind [Ct,am]
def w7 (a l r:Nat) (t:List aa) (gl gr:Nat) (nl nr:Nat):List AV:= [.sl a t.length 5 0 (t.length+1), .sl l gl 1 0 nl, .sl r gr 1 0 nr, .bool false]
theorem Oq (p0:aa) (t:List aa) (hP:t.length<=1048576) (hf:∀q ∈ lp p0 t,bH q) (Lr Rr:List (List AV)) (gl gr nl nr:Nat) (hL:∀r ∈ Lr,∀c ∈ r,aN 0 c) (hR:∀r ∈ Rr,∀c ∈ r,aN 0 c) (p:aa) (hp:bH p) (t':List aa) (ht:oR p0 t (bv p 0)=t'):
  dD Tryz.prog 78 [.agg (w7 0 1 2 t gl gr nl nr), .agg (ak p)] [(0, .rows true t.length 5 ((lp p0 t).map ak)),(1, .rows true gl 1 Lr),(2, .rows true gr 1 Rr)] 3
   (.tup [.agg (w7 0 1 2 t' gl gr nl nr), .int (dZ (lp p0 t') (bv p 0))]) [(0, .rows true t'.length 5 ((lp p0 t').map ak)),(1, .rows true gl 1 Lr),(2, .rows true gr 1 Rr)] 3:=by
 have hT:aq Tryz.prog 30 [.agg (ak p), .int 0] (.agg (ak (bv p 0))):=lq p hp 0;have hE:=S1 p0 t (bv p 0);rw [ht] at hE;clear ht;obtain ⟨q,hq⟩:∃q,q=bv p 0:=⟨_,rfl⟩
 have hqf:bH q:=by rw [hq];exact hp
 rw [<- hq] at hT hE ⊢;clear hq;have hl:=nX p0 t;have bL:∀n,(∀r ∈ Lr,∀c ∈ r,aN n c)=True:=λ n=>eq_true λ r hr c hc=>(hL r hr c hc).mono (Nat.zero_le _);have bR:∀n,(∀r ∈ Rr,∀c ∈ r,aN n c)=True:=λ n=>eq_true λ r hr c hc=>(hR r hr c hc).mono (Nat.zero_le _);unfold dD;rw [w7];refine aF Tryz.func78 ?_;refine J1 hl ?_;refine aP hT ?_;refine J1 hl ?_;refine zg3 (zg5 (α:=Nat) (λ j=>⟨[(2, .ref 3 0 4 0 0),(4, .ref 5 0 4 0 0),(6, .ref 6 0 5 0 0),(7, .int j)],
   [(0, .rows true t.length 5 ((lp p0 t).map ak)),(1, .rows true gl 1 Lr),(2, .rows true gr 1 Rr),(3, .rows true 0 4 [[.sl 0 t.length 5 0 (t.length+1), .sl 1 gl 1 0 nl, .sl 2 gr 1 0 nr, .bool false]]),(5, .rows true 0 4 [[AV.nils,AV.nils,AV.nils, .bool false]]),(6, .rows true 0 5 [ak q])],7⟩)
  (λ d j=>j+d=t.length+1∧∀i,i<j->ac (lp p0 t) i≠q) ?_ (t.length+1) 0 ?_) ?_ ?_
 ·rintro d j ⟨i1,i2⟩ hrec;refine J1 hl ?_;refine zg4 (λ hj=> ?_) (λ hj=> ?_)<;>simp at hj
  ·have hj':j<(lp p0 t).length:=by omega
   have hj2:j<t.length+1:=ge;have hC:=fj (ac (lp p0 t) j) q (hf _ (am hj')) hqf;refine J3 hj' hj2 hl ?_;refine dP hC ?_;refine J1 hl ?_;refine zg4 (λ he=> ?_) (λ he=> ?_)<;>simp at he
   ·have he':ac (lp p0 t) j=q:=oW.1 ge;have e1:dV (lp p0 t) q=lp p0 t:=if_pos (he'▸am hj');have e2:dZ (lp p0 t) q=j:=Kf hj' he' i2;obtain rfl:t=t':=by
     grind [lp]
    rw [e2,w7];refine J1 hl ?_;simp [go_sem,aj,hl,bL,bR]
   ·have he':ac (lp p0 t) j≠q:=λ e=>he (by grind [oW]);refine J1 hl ?_;refine zg3 (hrec (d - 1) ge (j+1) ⟨ge,λ i hi=> ?_⟩) ?_ gt
    ·grind
    ·simp [go_sem,aj,hl,bL,bR]
  ·obtain rfl:j=t.length+1:=by omega
   have hn:q ∉ lp p0 t:=O8 pi;have e1:dV (lp p0 t) q=lp p0 t++ [q]:=if_neg hn;have e2:=Fv hn;rw [hl] at e2;obtain rfl:t++ [q]=t':=by
    grind [lp]
   rw [Dv,e2,w7];refine J1 hl ?_;have e5:(t.length:Int)+2 - 1=t.length+1:=ge;simp [go_sem,aj,hl,bL,bR,e5]
 ·grind
 ·simp [go_sem,aj,hl,bL,bR]
 ·simp
end Go.Av
end
