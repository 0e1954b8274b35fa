/- Texts of ours, part 9: our library and contracts of functions. -/
import Derived.Test.YtgdfnfffibhkjaaGreatDoorB08
import Derived.Test.YtgdfnfffibhkjaaGreatDoorProg
import Derived.Shelf.SlSortCmp.NoneTotal
set_option linter.unusedSimpArgs false
set_option linter.unusedVariables false
set_option maxRecDepth 100000
set_option maxHeartbeats 40000000
section
open Go Go.Proofs
namespace Go.Av
def zhq (g:zaa) (p:zae) (cell i:Int):List zca:=(zhr g p cell (zb2 g p cell i)).filterMap (zhP p.side)
theorem zK7 (g:zaa) (hg:GOk g) (p:zae) (hp:POk g p) (cell i:Int) (hc:zd8 g p cell i):
  zcj Tryz.prog 244 [.agg (zad g), .agg (zag p), .int cell, .int i, .fn (.func 245) [] [.ref 0 0 5 0 0, .ref 1 0 1 0 0]]
   [(0, .rows true 0 5 [zag p]),(1, .rows true 0 1 [[AV.nils]])] 2 (.int 0)
   [(0, .rows true 0 5 [zag p]),(1, .rows true 0 1 [[.sl 247 (zhq g p cell i).length 6 0 (zhq g p cell i).length]]),(247, .rows true (zhq g p cell i).length 6 ((zhq g p cell i).map zbm))] 248:=by
 unfold zcj;refine aF Tryz.func244 ?_;have hal:=hp.al;obtain ⟨c0,c1,cm,cs,i0,i1⟩:=hc;have hcur:cell.toNat<p.at_.length:=aa;have hat:=hp.at (i:=cell.toNat) aa;have hO:=zsa (nth p.at_ cell.toNat);have hman:=zbn hat.1 hat.2 hg.k6;have hV:=zub g bi ⟨hg.r0,bZ⟩ p (hp.fits hg);rw [zpz.2 hp] at hV;have hkl:(zat (nth p.at_ cell.toNat)).1.toNat<g.kinds.length:=by
  grind
 have hil:i.toNat<(nth g.kinds (zat (nth p.at_ cell.toNat)).1.toNat).progs.length:=aa;have hpg:=hg.pr _ (zah hkl) _ (zah hil);have hst:=λ n hn=>zoN hg hp c0 c1 cm (prog:=zb2 g p cell i) hpg.st n hn;have hz:=znB g p cell (zb2 g p cell i);have hsu:=λ n hn=>znA g p cell (zb2 g p cell i) (n:=n) hn;have hla:=znz g p cell (zb2 g p cell i);have hp8:=hpg.len;have hpst:=hpg.st;have hpe:zb2 g p cell i=nth (nth g.kinds (zat (nth p.at_ cell.toNat)).1.toNat).progs i.toNat:=rfl;rw [<- hpe] at hp8 hpst;have hlo:zhq g p cell i=(zhr g p cell (zb2 g p cell i)).filterMap (zhP p.side):=rfl;rw [hlo];obtain ⟨prog,hprog⟩:∃q,q=zb2 g p cell i:=⟨_,rfl⟩
 rw [<- hprog] at hst hz hsu hp8 hpst hpe hla ⊢;have hcp:=zoC ⟨p,(zat (nth p.at_ cell.toNat)).1,cell,false⟩ (hp.fits hg);generalize hm:zat (nth p.at_ cell.toNat)=m at *;obtain ⟨mk,ms⟩:=m;simp only at cm cs i1 hkl hil hpe hcp;refine J0 ?_;refine aP hV ?_;refine J1 hcur ?_;refine FxF ?_;refine J1 hcur ?_;refine aP hO ?_;refine J3 hkl hil cs ?_;refine FxF ?_;refine J0 ?_;refine zN1 hcp ae ?_;refine J3 hcur hkl hil ?_;rw [<- hpe];have hsz:∀n,n<=prog.length->(zdp g p cell prog n).length<=100000000:=λ n hn=>Nat.le_trans (hst n hn).2 (zq0 aa);have hst0:zdJ (zdp g p cell prog 0)= .lst 8 [[.lst 1 ((p.at_.map zd2).set cell.toNat [.int 0]),zaG p.h0,zaG p.h1, .int p.rights, .int p.side, .int mk, .int cell, .v (.bool false)]]:=by
  grind [zdJ,zf9,zaO,clr,zaG,zd2,List.map_set]
 refine zNW (zNY (α:=Nat) (λ k=>⟨[(4, .fn (.func 245) [] [.ref 0 0 5 0 0, .ref 1 0 1 0 0]),(5, .ref 2 0 9 0 0),(14,zdJ (zdp g p cell prog k)),(87,zaT prog),(88, .int prog.length),(89, .int k)],
   [(0, .rows true 0 5 [zag p]),(1, .rows true 0 1 [[.sl 247 0 6 0 0]]),(2, .rows true 0 9 [zad g]),(247, .rows true 0 6 [])],248⟩)
  (λ d k=>k+d=prog.length) ?_ prog.length 0 ?_) ?_ ?_
 ·rintro d k k1 hrec;refine J0 ?_;refine zNX (λ hk=> ?_) (λ hk=> ?_)<;>simp at hk
  ·have hkk:=hst k aa;have hks:=hsz k aa;have hks':=hsz (k+1) aa;have hsk:=hsu k hk;have hxs:=hpst _ (zah hk);have hpo:=λ n hn=>zwD hg hxs hkk.1 n hn;have hpa:=zsS g (zdp g p cell prog k) (nth prog k);have hpz:=zu3 g (zdp g p cell prog k) (nth prog k);have hps:=λ n hn=>zpA g (zdp g p cell prog k) (nth prog k) (n:=n) hn;rw [<- hsk] at hpa;obtain ⟨now,hnow⟩:∃now,now=zdp g p cell prog k:=⟨_,rfl⟩
   rw [<- hnow] at hkk hks hpo hpa hpz hps ⊢;obtain ⟨x,hx⟩:∃x,x=nth prog k:=⟨_,rfl⟩
   rw [<- hx] at hxs hpo hpa hpz hps;repeat first|refine wV λ _=>?_|simp [go_sem,hk,<- hx]
   refine zNW (zNY (α:=Nat) (λ n=>⟨[(4, .fn (.func 245) [] [.ref 0 0 5 0 0, .ref 1 0 1 0 0]),(5, .ref 2 0 9 0 0),(16, .ref 248 0 2 0 0),(17, .sl 250 (zgf g now x n).length 8 0 (zgf g now x n).length),(18, .mp 249),(87,zaT prog),(88, .int prog.length),(89, .int k),(94,zdJ now),(95, .int now.length),(96, .int n)],
     [(0, .rows true 0 5 [zag p]),(1, .rows true 0 1 [[.sl 247 0 6 0 0]]),(2, .rows true 0 9 [zad g]),(247, .rows true 0 6 []),(248, .rows true 0 2 [zbT x]),(249, .rows true 0 2 ((zgf g now x n).map zk0)),(250, .rows true (zgf g now x n).length 8 ((zgf g now x n).map zaO))],251⟩)
    (λ d n=>n+d=now.length) ?_ now.length 0 ?_) ?_ ?_
   ·rintro d2 n n1 hrec2;refine J0 ?_;refine zNX (λ hn=> ?_) (λ hn=> ?_)<;>simp at hn
    ·have hsn:=hkk.1 _ (zah hn);have hpn:=hps n hn;have hpoN:=hpo n aa;have hpoS:=hpo (n+1) aa;have hSt:=zIO g hg (nth now n) hsn.1 x hxs;have hsl:=ztd hg (nth now n) x;have hso:=zjf hg hsn.1 hxs;have hlk:zkG p.side x (nth now n) []= []:=by unfold zkG;rw [if_neg (by have:=hxs.1;omega)]
     obtain ⟨s,hs⟩:∃s,s=nth now n:=⟨_,rfl⟩
     rw [<- hs] at hsn hpn hSt hsl hso hlk;obtain ⟨more,hmore⟩:∃more,more=zck g s x:=⟨_,rfl⟩
     rw [<- hmore] at hpn hSt hsl hso;have hat:=λ j hj=>zxl (zgf g now x n) more (i:=j) hj;have hal':=λ j=>znR (more.take j) (zgf g now x n);have haok:∀j,∀u ∈ zhw (zgf g now x n) (more.take j),zjk g u:=λ j=>zqu (λ u hu=>(hpoN.1 u hu).1) (λ u hu=>(hso u (List.mem_of_mem_take hu)).1);have haz:zhw (zgf g now x n) (more.take 0)=zgf g now x n:=by simp [zBI]
     have haa:zhw (zgf g now x n) (more.take more.length)=zgf g now x (n+1):=by rw [List.take_length,hpn]
     obtain ⟨nx,hnx⟩:∃nx:Nat->List StD,nx=λ j=>zhw (zgf g now x n) (more.take j):=⟨_,rfl⟩
     have hnx':∀j,zhw (zgf g now x n) (more.take j)=nx j:=λ j=>by rw [hnx]
     simp only [hnx'] at hat hal' haok haz haa;clear hnx hnx';repeat first|refine wV λ _=>?_|simp [go_sem,hn,<- hs]
     refine zyA g hg p hp s hsn.1 hsn.2 x [] ac (a:=0) (b:=1) (c:=247) ai ac (by simp [upd,zag,zaG]) aj aj ?_;rw [hlk];simp only [zyz];refine J0 ?_;refine aP hSt ?_;refine J0 ?_;refine zNW (zNY (α:=Nat) (λ j=>⟨[(4, .fn (.func 245) [] [.ref 0 0 5 0 0, .ref 1 0 1 0 0]),(5, .ref 2 0 9 0 0),(16, .ref 248 0 2 0 0),(17, .sl 250 (nx j).length 8 0 (nx j).length),(18, .mp 249),(87,zaT prog),(88, .int prog.length),(89, .int k),(94,zdJ now),(95, .int now.length),(96, .int n),(107,zdJ more),(108, .int more.length),(109, .int j)],
       [(0, .rows true 0 5 [zag p]),(1, .rows true 0 1 [[.sl 247 0 6 0 0]]),(2, .rows true 0 9 [zad g]),(247, .rows true 0 6 []),(248, .rows true 0 2 [zbT x]),(249, .rows true 0 2 ((nx j).map zk0)),(250, .rows true (nx j).length 8 ((nx j).map zaO))],252⟩)
      (λ d j=>j+d=more.length) ?_ more.length 0 ?_) ?_ ?_
     ·rintro d3 j j1 hrec3;refine J0 ?_;refine zNX (λ hj=> ?_) (λ hj=> ?_)<;>simp at hj
      ·have htj:=(hso _ (zah hj)).1;have hatj:=hat j hj;have halj:=hal' j;have hmj:(more.take j).length<=10:=by rw [List.length_take];omega
       obtain ⟨t,ht⟩:∃t,t=nth more j:=⟨_,rfl⟩
       rw [<- ht] at htj hatj;have hk6:=hg.k6;have hc9:=hg.c9;have hta:=htj.p.al;have ht0:=htj.p.h0.len;have ht1:=htj.p.h1.len;have htk:=htj.k;have htc0:=htj.c0;have htc1:=htj.c1;have hKey:=zKz t aa aa aa aa aa (zrt hg htj.p);have hin:∀u ∈ nx j,zqj t=zqj u->t=u:=λ u hu e=>zKy hg htj (haok j u hu) e;have hfind:=zx5 t (nx j) hin;have hput:=zCA t (nx j) hin;repeat first|refine wV λ _=>?_|simp [go_sem,hj,<- ht]
       refine aP hKey ?_;by_cases hmem:t ∈ nx j
       ·rw [if_pos hmem] at hatj hfind;refine J1 hfind ?_;refine zNW (hrec3 (d3 - 1) aa (j+1) aa) ?_ ac;simp [go_sem,zaf,hatj]
       ·rw [if_neg hmem] at hatj hfind;have hput:=hput hmem;refine J2 hfind hput ?_;refine zNW (hrec3 (d3 - 1) aa (j+1) aa) ?_ ac;simp [go_sem,zaf,hatj];intro c hc;simp only [zk0,List.mem_cons,List.not_mem_nil,or_false] at hc;rcases hc with rfl|rfl<;>exact .v _
      ·have hnl:j=more.length:=by omega
       subst hnl;rw [haa];refine J0 ?_;refine zNW (hrec2 (d2 - 1) aa (n+1) aa) ?_ ac;simp [go_sem,zaf]
     ·omega
     ·simp [go_sem,zaf,haz]
     ·simp
    ·have hnl:n=now.length:=by omega
     subst hnl;rw [hpa];refine J0 ?_;refine zNW (hrec (d - 1) aa (k+1) aa) ?_ ac;simp [go_sem,zaf];exact frX
   ·omega
   ·simp [go_sem,zaf,hpz]
   ·simp
  ·have hkl':k=prog.length:=by omega
   subst hkl';rw [hla];have hl8:=hsz prog.length (Nat.le_refl _);have hlok:=(hst prog.length (Nat.le_refl _)).1;rw [hla] at hl8 hlok;generalize zhr g p cell prog=last at *;refine J0 ?_;refine zNW (zNY (α:=Nat) (λ j=>⟨[(4, .fn (.func 245) [] [.ref 0 0 5 0 0, .ref 1 0 1 0 0]),(129,zdJ last),(130, .int last.length),(131, .int j)],
     [(0, .rows true 0 5 [zag p]),(1, .rows true 0 1 [[.sl 247 ((last.take j).filterMap (zhP p.side)).length 6 0 ((last.take j).filterMap (zhP p.side)).length]]),(247, .rows true ((last.take j).filterMap (zhP p.side)).length 6 (((last.take j).filterMap (zhP p.side)).map zbm))],248⟩)
    (λ d j=>j+d=last.length) ?_ last.length 0 ?_) ?_ ?_
   ·rintro d4 j j1 hrec4;refine J0 ?_;refine zNX (λ hj=> ?_) (λ hj=> ?_)<;>simp at hj
    ·have hsj:=hlok _ (zah hj);have hol:((last.take j).filterMap (zhP p.side)).length<=100000000:=Nat.le_trans (List.length_filterMap_le _ _) af;have hse:(last.take (j+1)).filterMap (zhP p.side)=zkG p.side (0,0) (nth last j) ((last.take j).filterMap (zhP p.side)):=by
      rw [List.take_add_one,List.getElem?_eq_getElem hj,zcp _ _ hj,List.filterMap_append];simp only [Option.toList_some,List.filterMap_cons,List.filterMap_nil,zkG,if_true];cases zhP p.side last[j]<;>rfl
     obtain ⟨out,hout⟩:∃out,out=(last.take j).filterMap (zhP p.side):=⟨_,rfl⟩
     rw [<- hout] at hol hse ⊢;obtain ⟨t,ht⟩:∃t,t=nth last j:=⟨_,rfl⟩
     rw [<- ht] at hsj hse;repeat first|refine wV λ _=>?_|simp [go_sem,hj,<- ht]
     refine zyA g hg p hp t hsj.1 hsj.2 (0,0) out hol (a:=0) (b:=1) (c:=247) ai ac (by simp [upd,zag,zaG]) aj aj ?_;rw [<- hse];simp only [zyz];refine J0 ?_;refine zNW (hrec4 (d4 - 1) aa (j+1) aa) ?_ ac;simp [go_sem,zaf]
    ·have hnl:j=last.length:=by omega
     subst hnl;rw [List.take_length];refine J0 ?_;simp [go_sem,zaf]
   ·omega
   ·simp [go_sem,zaf]
   ·simp
 ·omega
 ·simp [go_sem,zaf];rw [show AV.lst 8 (List.map zaO (zdp g p cell prog 0))= _ from hst0];(first|done|exact dpX)
 ·simp
theorem zJ7 (a b:zca):orI [zbp a.pos b.pos,zb1 (if a.took then 1 else 0) (if b.took then 1 else 0)]=zmN a b:=by
 grind [zmN,zNc,orI]
theorem znv (a b:zca) (ha:zbc a.pos) (hb:zbc b.pos):zav Tryz.prog 247 [.agg (zbm a), .agg (zbm b)] (.int (zmN a b)):=by
 refine pF Tryz.func247 ?_;rw [<- zJ7];have c1:=zdO _ _ ha hb;obtain ⟨pa,ta⟩:=a;obtain ⟨pb,tb⟩:=b;have c4:=zhC (if ta then 1 else 0) (if tb then 1 else 0);simp only at c1 c4 ⊢;generalize hx1:zbp pa pb=x1 at *;generalize hx2:zb1 (if ta then 1 else 0) (if tb then 1 else 0)=x2 at *;cases ta<;>cases tb<;>simp only [if_true,Bool.false_eq_true,if_false] at c4<;>
 ·refine J0 ?_;refine dP c1 ?_;refine J0 ?_;refine dP c4 ?_;refine J0 ?_;refine zbV.frz [zaG [x1,x2]] _ [17] [(17,some (.rows false 0 1 ([x1,x2].map zd2)))] (zB1 _ (by unfold zkq;simp)) ?_ ?_ ae ?_
  ·grind [upd,zd2]
  ·intro h₁ hS;have h7:=hS 17 ac;simp [go_sem] at h7;exact .cons (zaq h7.symm ac cy ae) .nil
  ·exact K0
theorem zE2 (a b:zca) (ha:zbc a.pos) (hb:zbc b.pos):zav Tryz.prog 249 [.agg (zbm a), .agg (zbm b)] (.v (.bool (decide (a=b)))):=by
 refine pF Tryz.func249 ?_;have c1:=znv a b ha hb;have e:decide (a=b)=decide (zmN a b=0):=by rw [decide_eq_decide];exact (zdk.eq a b).symm
 rw [e];generalize zmN a b=x at *;refine J0 ?_;refine aP c1 ?_;exact K0
theorem zBa (a b:zae) (ha:zbc a) (hb:zbc b):zav Tryz.prog 206 [.agg (zag a), .agg (zag b)] (.v (.bool (decide (a=b)))):=by
 refine pF Tryz.func206 ?_;have c1:=zdO a b ha hb;have e:decide (a=b)=decide (zbp a b=0):=by rw [decide_eq_decide];exact (zaK.eq a b).symm
 rw [e];generalize zbp a b=x at *;refine J0 ?_;refine aP c1 ?_;exact K0
theorem zvs (l:List zca) (gn:Nat) (hl:l.length<=17179869184) (hf:∀o ∈ l,zbc o.pos):
  zcj Tryz.prog 248 [.sl 0 gn 6 0 l.length, .fn (.func 249) [] []] [(0, .rows true gn 6 (l.map zbm))] 1
   (.sl 0 gn 6 0 (zcT l).length) [(0, .rows true gn 6 ((zcT l).map zbm++List.replicate (l.length - (zcT l).length) zwT))] 1:=by
 unfold zcj;by_cases h2:l.length<2
 ·rw [zrL h2];refine aF Tryz.func248 ?_;refine J0 ?_;refine FxT ?_;refine J0 ?_;simp [go_sem,zaf]
 obtain ⟨D,hD⟩:∃D,D=zcT l:=⟨_,rfl⟩
 rw [<- hD];have hE:∀i j,i<l.length->j<l.length->zav Tryz.prog 249 [.agg (zbm (nth l i)), .agg (zbm (nth l j))] (.v (.bool (decide (nth l i=nth l j)))):=
  λ i j hi hj=>zE2 _ _ (hf _ (zah hi)) (hf _ (zah hj))
 refine aF Tryz.func248 ?_;refine J0 ?_;refine FxF ?_;refine J0 ?_;refine zNW (zNY (α:=Nat) (λ j=>⟨[(0, .sl 0 gn 6 0 l.length),(1, .fn (.func 249) [] []),(5, .int j)], [(0, .rows true gn 6 (l.map zbm))],1⟩)
  (λ d j=>1<=j∧j+d=l.length∧D=l.take j++zco (nth l (j - 1)) (l.drop j)) ?_ (l.length - 1) 1 ?_) ?_ ?_
 ·rintro d j ⟨i1,i2,i3⟩ hrec;have e1:((j:Int) - 1).toNat=j - 1:=aa;refine J0 ?_;refine zNX (λ hj=> ?_) (λ hj=> ?_)<;>simp at hj
  ·have hj':j - 1<l.length:=by omega
   rw [zaV hj,zco] at i3;refine J3 hj hj' e1 ?_;refine dP (hE j (j - 1) hj hj') ?_;refine J3 hj hj' e1 ?_;by_cases he:nth l j=nth l (j - 1)
   ·rw [if_pos he] at i3;refine J4 he hj hj' e1 ?_;refine zNW (zNY (α:=Nat×List zca×Nat) (λ a=>⟨[(0, .sl 0 gn 6 0 l.length),(1, .fn (.func 249) [] []),(5, .int a.2.2),(6, .sl 0 gn 6 j (l.length - j)),(7, .int a.1)], [(0, .rows true gn 6 (a.2.1.map zbm))],1⟩)
     (λ d a=>1<=a.1∧j+a.1+d=l.length∧a.2.1.length=l.length∧a.2.2<=j+a.1 - 1∧a.2.1.drop (j+a.1 - 1)=l.drop (j+a.1 - 1)∧D=a.2.1.take a.2.2++zco (nth l (j+a.1 - 1)) (l.drop (j+a.1))) ?_ (l.length - j - 1) (1,l,j) ?_) ?_ ?_
    ·rintro d2 ⟨k2,R,k⟩ ⟨j1,j2,j3,j4,j5,j6⟩ hrec2;simp only at j1 j2 j3 j4 j5 j6;have e2:((k2:Int) - 1).toNat=k2 - 1:=aa;have e3:j+(k2 - 1)=j+k2 - 1:=aa;have hRn:∀m,j+k2 - 1<=m->m<l.length->nth R m=nth l m:=λ m h1 h2=>by
      have h3:(R.drop (j+k2 - 1))[m - (j+k2 - 1)]? =(l.drop (j+k2 - 1))[m - (j+k2 - 1)]? :=by rw [j5]
      rw [List.getElem?_drop,List.getElem?_drop,show j+k2 - 1+(m - (j+k2 - 1))=m by omega,List.getElem?_eq_getElem aa,List.getElem?_eq_getElem h2] at h3;grind [nth]
     refine J1 j3 ?_;refine zNX (λ hk=> ?_) (λ hk=> ?_)<;>simp at hk
     ·have hk1:j+k2<l.length:=by omega
      have hk0:j+k2 - 1<l.length:=aa;have hr1:=hRn (j+k2) aa hk1;have hr0:=hRn (j+k2 - 1) aa hk0;rw [zaV hk1,zco] at j6;have hk2:k2 - 1<l.length - j:=aa;have hk3:k<l.length:=aa;refine J9 j3 hk hk1 hk0 hr1 hr0 e2 e3 hk2 ?_;refine dP (hE (j+k2) (j+k2 - 1) hk1 hk0) ?_;refine J9 j3 hk hk1 hk0 hr1 hr0 e2 e3 hk2 ?_;by_cases hc:nth l (j+k2)=nth l (j+k2 - 1)
      ·rw [if_pos hc] at j6;refine J1 hc ?_;refine zNW (hrec2 (d2 - 1) aa (k2+1,R,k) ⟨aa,aa,j3,af, ?_, ?_⟩) ?_ ac
       ·have:=congrArg (List.drop 1) j5;grind [List.drop_drop]
       ·grind
       ·simp [go_sem,zaf]
      ·rw [if_neg hc] at j6;refine J11 hc j3 hk hk1 hk0 hr1 hr0 e2 e3 hk2 hk3 ?_;refine zNW (hrec2 (d2 - 1) aa (k2+1,R.set k (nth l (j+k2)),k+1) ⟨aa,aa,af,af, ?_, ?_⟩) ?_ ac
       ·have:=congrArg (List.drop 1) j5;grind [List.drop_drop,List.drop_set]
       ·grind [List.take_add_one,List.take_set_of_le]
       ·have hb:∀n,∀r ∈ ((R.set k (nth l (j+k2))).map zbm),∀c ∈ r,Bel n c:=λ n=>of_eq_true zBR;rw [List.map_set] at hb;simp [go_sem,zaf,List.map_set];exact hb 1
     ·rw [List.drop_eq_nil_of_le aa,zco,List.append_nil] at j6;have hDl:D.length=k:=af;have hd0:List.drop (k+(l.length - k)) (R.map zbm)= []:=List.drop_eq_nil_of_le af;have hDm:D.map zbm=List.take k (R.map zbm):=by rw [j6,List.map_take]
      refine J0 ?_;simp [go_sem,zaf,hd0,hDl,hDm,zwT];exact λ x hx=>of_eq_true (zBR (n:=1) (l:=R)) x (List.mem_of_mem_take hx)
    ·grind
    ·simp [go_sem,zaf]
    ·simp
   ·rw [if_neg he] at i3;refine J4 he hj hj' e1 ?_;refine zNW (hrec (d - 1) aa (j+1) ⟨aa,aa, ?_⟩) ?_ ac
    ·grind [List.take_add_one,nth]
    ·simp [go_sem,zaf]
  ·rw [List.drop_eq_nil_of_le hj,List.take_of_length_le hj,zco,List.append_nil] at i3;rw [i3];refine J0 ?_;simp [go_sem,zaf]
 ·refine ⟨Nat.le_refl _,aa, ?_⟩;cases l with
  |nil=>simp at h2
  |cons a l=>rw [hD];rfl
 ·simp [go_sem,zaf]
 ·simp
variable {K:zbH} {n o:Nat} {h:zay}
theorem zvW (l:List zca) (gn:Nat) (hl:l.length<=17179869184) (hf:∀o ∈ l,zbc o.pos) (ho:h o=some (.rows true gn 6 (l.map zbm))) (hon:o<n)
  (hK:K (.sl o gn 6 0 (zcT l).length) (upd h o (some (.rows true gn 6 ((zcT l).map zbm++List.replicate (l.length - (zcT l).length) zwT)))) n):
  zaj Tryz.prog 248 [.sl o gn 6 0 l.length, .fn (.func 249) [] []] h n K:=by
 have hz:∀m,∀r ∈ (zcT l).map zbm++List.replicate (l.length - (zcT l).length) zwT,∀c ∈ r,Bel m c:=by
  intro m r hr c hc;rcases List.mem_append.1 hr with hr|hr
  ·grind [zfa]
  ·rw [List.eq_of_mem_replicate hr] at hc;simp only [zwT,List.mem_cons,List.not_mem_nil,or_false] at hc;rcases hc with rfl|rfl|rfl|rfl|rfl|rfl<;>exact .v _
 refine zN8 (args':= [.sl o gn 6 0 l.length, .fn (.func 249) [] []]) (HH:= [(o, .rows true gn 6 ((zcT l).map zbm++List.replicate (l.length - (zcT l).length) zwT))])
  [o] h (zvs l gn hl hf) ac af rfl (Nat.le_refl _) (.refl _) ?_ ?_ (.refl _ _ _ _) ?_ ?_ ?_ (.sl rfl) ?_ ?_
 ·intro j hj;obtain rfl:j=0:=aa;exact ⟨_, _,rfl,ho, .rows (.same (zfa _))⟩
 ·grind [zfa,zqr]
 ·intro y hy;simp only [List.mem_cons,List.not_mem_nil,or_false] at hy;rcases hy with rfl|rfl
  ·exact .sl hon
  ·simp [go_sem]
 ·exact .cons (.sl rfl) (.cons (.same ae) .nil)
 ·intro y hy;simp only [List.mem_cons,List.not_mem_nil,or_false] at hy;rcases hy with rfl|rfl
  ·exact .sl ai
  ·simp [go_sem]
 ·exact .cons rfl (.rows (.same (hz 0))) .nil
 ·have e:zdU [(o, .rows true gn 6 ((zcT l).map zbm++List.replicate (l.length - (zcT l).length) zwT))] (ziM [o] h)=upd h o (some (.rows true gn 6 ((zcT l).map zbm++List.replicate (l.length - (zcT l).length) zwT))):=by
   funext j;simp_all [zdU,ziM,upd]
  grind [ren]
theorem ztF (l:List zca) (gn m:Nat) (hm:l.length=m) (hl:m<=17179869184) (hf:∀o ∈ l,zbc o.pos) (ho:h o=some (.rows true gn 6 (l.map zbm))) (hon:o<n)
  (hK:K (.sl o gn 6 0 (zcT l).length) (upd h o (some (.rows true gn 6 ((zcT l).map zbm++List.replicate (l.length - (zcT l).length) zwT)))) n):
  zaj Tryz.prog 248 [.sl o gn 6 0 m, .fn (.func 249) [] []] h n K:=by
 subst hm;exact zvW l gn hl hf ho hon hK
theorem zLf:Go.Sort.SWO (λ a b:zca=>decide (zmN a b<0)):=by
 refine ⟨λ x=> ?_,λ x y z h1 h2=> ?_,λ x y z h1 h2=> ?_⟩
 ·have:=zdk.swap x x;grind
 ·simp only [decide_eq_true_eq] at h1 h2 ⊢;have t:=zdk.tr x y z aa aa;rcases Int.lt_or_eq_of_le t with h|h
  ·exact h
  ·have e:=(zdk.eq _ _).1 h;subst e;have:=zdk.swap x y;omega
 ·simp only [decide_eq_false_iff_not] at h1 h2 ⊢;have s1:=zdk.swap x y;have s2:=zdk.swap y z;have s3:=zdk.swap x z;have t:=zdk.tr z y x aa aa;omega
theorem zFc (l:List zca) (hf:∀o ∈ l,zbc o.pos) (hl:l.length<4611686018427387904){gn:Nat} (ho:h o=some (.rows true gn 6 (l.map zbm)))
  (hK:K (.tup []) (upd h o (some (.rows true gn 6 ((zfi zmN l).map zbm)))) n):
  zaj Tryz.prog 246 [.sl o gn 6 0 l.length, .fn (.func 247) [] []] h n K:=by
 refine zOj zsort (k:=6) aa Tryz.isAgg145 Tryz.sizeOf145 zbm (λ _=>rfl) ?_ (λ o=>zbc o.pos) zmN zLf _ (λ x y hx hy=>znv x y hx hy) ?_ l hf hl ho ?_
 ·intro x;simp [go_sem]
 ·exact (znv default default cJ cJ).1
 ·intro l' hp hs;have:zfi zmN l=l':=zmg zdk hp (hs.imp λ {a b} hab=>by
   have:=zdk.swap a b;grind [leC])
  grind
end Go.Av
end
section
namespace Go.Proofs
open Go.Shelf
def zFr:Go.Shelf.Ren:=⟨fun|6=>204|15=>222|14=>250|28=>265|29=>266|20=>283|21=>284|22=>285|23=>286|24=>287|25=>288|26=>289|27=>290|46=>320|47=>292|48=>293|49=>321|50=>322|57=>334|n=>n,fun|22=>81|24=>44|25=>69|3=>3|39=>319|0=>0|53=>372|55=>374|4=>4|46=>366|45=>365|50=>233|5=>5|9=>9|66=>395|70=>172|76=>414|77=>310|n=>n,λ n=>n⟩
theorem zsortP:Go.Proofs.SlLaysF0.n6 Tryz.prog zFr:={
 mixed:=ah
 f6:=⟨Tryz.f204.name,ai,Tryz.func204.trans (congrArg some ah)⟩
 f14:=⟨Tryz.f250.name,ai,Tryz.func250.trans (congrArg some ah)⟩
 f15:=Tryz.func222.trans (congrArg some ah)
 f20:=⟨Tryz.f283.name,ai,Tryz.func283.trans (congrArg some ah)⟩
 f21:=⟨Tryz.f284.name,ai,Tryz.func284.trans (congrArg some ah)⟩
 f22:=⟨Tryz.f285.name,ai,Tryz.func285.trans (congrArg some ah)⟩
 f23:=⟨Tryz.f286.name,ai,Tryz.func286.trans (congrArg some ah)⟩
 f24:=⟨Tryz.f287.name,ai,Tryz.func287.trans (congrArg some ah)⟩
 f25:=⟨Tryz.f288.name,ai,Tryz.func288.trans (congrArg some ah)⟩
 f26:=⟨Tryz.f289.name,ai,Tryz.func289.trans (congrArg some ah)⟩
 f27:=⟨Tryz.f290.name,ai,Tryz.func290.trans (congrArg some ah)⟩
 f28:=Tryz.func265.trans (congrArg some ah)
 f29:=Tryz.func266.trans (congrArg some ah)
 f46:=⟨Tryz.f320.name,ai,Tryz.func320.trans (congrArg some ah)⟩
 f47:=Tryz.func292.trans (congrArg some ah)
 f48:=Tryz.func293.trans (congrArg some ah)
 f49:=⟨Tryz.f321.name,ai,Tryz.func321.trans (congrArg some ah)⟩
 f50:=⟨Tryz.f322.name,ai,Tryz.func322.trans (congrArg some ah)⟩
 f57:=⟨Tryz.f334.name,ai,Tryz.func334.trans (congrArg some ah)⟩
 t0:=Tryz.underlying0
 a0:=Tryz.isAgg0
 z0:=Tryz.sizeOf0
 v0:=Tryz.zeroValue0
 t3:=Tryz.underlying3
 a3:=Tryz.isAgg3
 z3:=Tryz.sizeOf3
 v3:=Tryz.zeroValue3
 t4:=Tryz.underlying4
 a4:=Tryz.isAgg4
 z4:=Tryz.sizeOf4
 v4:=Tryz.zeroValue4
 t5:=Tryz.underlying5
 a5:=Tryz.isAgg5
 z5:=Tryz.sizeOf5
 v5:=Tryz.zeroValue5
 t9:=Tryz.underlying9
 a9:=Tryz.isAgg9
 z9:=Tryz.sizeOf9
 v9:=Tryz.zeroValue9
 t22:=Tryz.underlying81
 a22:=Tryz.isAgg81
 z22:=Tryz.sizeOf81
 v22:=Tryz.zeroValue81
 t25:=Tryz.underlying69
 a25:=Tryz.isAgg69
 z25:=Tryz.sizeOf69
 v25:=Tryz.zeroValue69
 t39:=Tryz.underlying319
 a39:=Tryz.isAgg319
 z39:=Tryz.sizeOf319
 v39:=Tryz.zeroValue319
 t45:=Tryz.underlying365
 a45:=Tryz.isAgg365
 z45:=Tryz.sizeOf365
 v45:=Tryz.zeroValue365
 t46:=Tryz.underlying366
 a46:=Tryz.isAgg366
 z46:=Tryz.sizeOf366
 v46:=Tryz.zeroValue366
 t50:=Tryz.underlying233
 a50:=Tryz.isAgg233
 z50:=Tryz.sizeOf233
 v50:=Tryz.zeroValue233
 t53:=Tryz.underlying372
 a53:=Tryz.isAgg372
 z53:=Tryz.sizeOf372
 v53:=Tryz.zeroValue372
 t55:=Tryz.underlying374
 a55:=Tryz.isAgg374
 z55:=Tryz.sizeOf374
 v55:=Tryz.zeroValue374
 t66:=Tryz.underlying395
 a66:=Tryz.isAgg395
 z66:=Tryz.sizeOf395
 v66:=Tryz.zeroValue395
 t70:=Tryz.underlying172
 a70:=Tryz.isAgg172
 z70:=Tryz.sizeOf172
 v70:=Tryz.zeroValue172
 t76:=Tryz.underlying414
 a76:=Tryz.isAgg414
 z76:=Tryz.sizeOf414
 v76:=Tryz.zeroValue414
 t77:=Tryz.underlying310
 a77:=Tryz.isAgg310
 z77:=Tryz.sizeOf310
 v77:=Tryz.zeroValue310}
end Go.Proofs
end
section
open Go Go.Proofs
namespace Go.Av
def zwU:List AV:= [.v (.slice none 0 0), .v (.slice none 0 0), .v (.slice none 0 0), .int 0, .int 0]
theorem zvr (l:List zae) (gn:Nat) (hl:l.length<=17179869184) (hf:∀o ∈ l,zbc o):
  zcj Tryz.prog 205 [.sl 0 gn 5 0 l.length, .fn (.func 206) [] []] [(0, .rows true gn 5 (l.map zag))] 1
   (.sl 0 gn 5 0 (zcT l).length) [(0, .rows true gn 5 ((zcT l).map zag++List.replicate (l.length - (zcT l).length) zwU))] 1:=by
 unfold zcj;by_cases h2:l.length<2
 ·rw [zrL h2];refine aF Tryz.func205 ?_;refine J0 ?_;refine FxT ?_;refine J0 ?_;simp [go_sem,zaf]
 obtain ⟨D,hD⟩:∃D,D=zcT l:=⟨_,rfl⟩
 rw [<- hD];have hE:∀i j,i<l.length->j<l.length->zav Tryz.prog 206 [.agg (zag (nth l i)), .agg (zag (nth l j))] (.v (.bool (decide (nth l i=nth l j)))):=
  λ i j hi hj=>zBa _ _ (hf _ (zah hi)) (hf _ (zah hj))
 refine aF Tryz.func205 ?_;refine J0 ?_;refine FxF ?_;refine J0 ?_;refine zNW (zNY (α:=Nat) (λ j=>⟨[(0, .sl 0 gn 5 0 l.length),(1, .fn (.func 206) [] []),(5, .int j)], [(0, .rows true gn 5 (l.map zag))],1⟩)
  (λ d j=>1<=j∧j+d=l.length∧D=l.take j++zco (nth l (j - 1)) (l.drop j)) ?_ (l.length - 1) 1 ?_) ?_ ?_
 ·rintro d j ⟨i1,i2,i3⟩ hrec;have e1:((j:Int) - 1).toNat=j - 1:=aa;refine J0 ?_;refine zNX (λ hj=> ?_) (λ hj=> ?_)<;>simp at hj
  ·have hj':j - 1<l.length:=by omega
   rw [zaV hj,zco] at i3;refine J3 hj hj' e1 ?_;refine dP (hE j (j - 1) hj hj') ?_;refine J3 hj hj' e1 ?_;by_cases he:nth l j=nth l (j - 1)
   ·rw [if_pos he] at i3;refine J4 he hj hj' e1 ?_;refine zNW (zNY (α:=Nat×List zae×Nat) (λ a=>⟨[(0, .sl 0 gn 5 0 l.length),(1, .fn (.func 206) [] []),(5, .int a.2.2),(6, .sl 0 gn 5 j (l.length - j)),(7, .int a.1)], [(0, .rows true gn 5 (a.2.1.map zag))],1⟩)
     (λ d a=>1<=a.1∧j+a.1+d=l.length∧a.2.1.length=l.length∧a.2.2<=j+a.1 - 1∧a.2.1.drop (j+a.1 - 1)=l.drop (j+a.1 - 1)∧D=a.2.1.take a.2.2++zco (nth l (j+a.1 - 1)) (l.drop (j+a.1))) ?_ (l.length - j - 1) (1,l,j) ?_) ?_ ?_
    ·rintro d2 ⟨k2,R,k⟩ ⟨j1,j2,j3,j4,j5,j6⟩ hrec2;simp only at j1 j2 j3 j4 j5 j6;have e2:((k2:Int) - 1).toNat=k2 - 1:=aa;have e3:j+(k2 - 1)=j+k2 - 1:=aa;have hRn:∀m,j+k2 - 1<=m->m<l.length->nth R m=nth l m:=λ m h1 h2=>by
      have h3:(R.drop (j+k2 - 1))[m - (j+k2 - 1)]? =(l.drop (j+k2 - 1))[m - (j+k2 - 1)]? :=by rw [j5]
      rw [List.getElem?_drop,List.getElem?_drop,show j+k2 - 1+(m - (j+k2 - 1))=m by omega,List.getElem?_eq_getElem aa,List.getElem?_eq_getElem h2] at h3;grind [nth]
     refine J1 j3 ?_;refine zNX (λ hk=> ?_) (λ hk=> ?_)<;>simp at hk
     ·have hk1:j+k2<l.length:=by omega
      have hk0:j+k2 - 1<l.length:=aa;have hr1:=hRn (j+k2) aa hk1;have hr0:=hRn (j+k2 - 1) aa hk0;rw [zaV hk1,zco] at j6;have hk2:k2 - 1<l.length - j:=aa;have hk3:k<l.length:=aa;refine J9 j3 hk hk1 hk0 hr1 hr0 e2 e3 hk2 ?_;refine dP (hE (j+k2) (j+k2 - 1) hk1 hk0) ?_;refine J9 j3 hk hk1 hk0 hr1 hr0 e2 e3 hk2 ?_;by_cases hc:nth l (j+k2)=nth l (j+k2 - 1)
      ·rw [if_pos hc] at j6;refine J1 hc ?_;refine zNW (hrec2 (d2 - 1) aa (k2+1,R,k) ⟨aa,aa,j3,af, ?_, ?_⟩) ?_ ac
       ·have:=congrArg (List.drop 1) j5;grind [List.drop_drop]
       ·grind
       ·simp [go_sem,zaf]
      ·rw [if_neg hc] at j6;refine J11 hc j3 hk hk1 hk0 hr1 hr0 e2 e3 hk2 hk3 ?_;refine zNW (hrec2 (d2 - 1) aa (k2+1,R.set k (nth l (j+k2)),k+1) ⟨aa,aa,af,af, ?_, ?_⟩) ?_ ac
       ·have:=congrArg (List.drop 1) j5;grind [List.drop_drop,List.drop_set]
       ·grind [List.take_add_one,List.take_set_of_le]
       ·have hb:∀n,∀r ∈ ((R.set k (nth l (j+k2))).map zag),∀c ∈ r,Bel n c:=λ n=>of_eq_true zDq;rw [List.map_set] at hb;simp [go_sem,zaf,List.map_set];exact hb 1
     ·rw [List.drop_eq_nil_of_le aa,zco,List.append_nil] at j6;have hDl:D.length=k:=af;have hd0:List.drop (k+(l.length - k)) (R.map zag)= []:=List.drop_eq_nil_of_le af;have hDm:D.map zag=List.take k (R.map zag):=by rw [j6,List.map_take]
      refine J0 ?_;simp [go_sem,zaf,hd0,hDl,hDm,zwU];exact λ x hx=>of_eq_true (zDq (n:=1) (l:=R)) x (List.mem_of_mem_take hx)
    ·grind
    ·simp [go_sem,zaf]
    ·simp
   ·rw [if_neg he] at i3;refine J4 he hj hj' e1 ?_;refine zNW (hrec (d - 1) aa (j+1) ⟨aa,aa, ?_⟩) ?_ ac
    ·grind [List.take_add_one,nth]
    ·simp [go_sem,zaf]
  ·rw [List.drop_eq_nil_of_le hj,List.take_of_length_le hj,zco,List.append_nil] at i3;rw [i3];refine J0 ?_;simp [go_sem,zaf]
 ·refine ⟨Nat.le_refl _,aa, ?_⟩;cases l with
  |nil=>simp at h2
  |cons a l=>rw [hD];rfl
 ·simp [go_sem,zaf]
 ·simp
variable {j n o:Nat}
theorem znd  (l:List zae):∀r ∈ l.map zag,∀c ∈ r,Bel n c:=of_eq_true zDq
variable {K:zbH} {h:zay}
theorem zvV (l:List zae) (gn:Nat) (hl:l.length<=17179869184) (hf:∀o ∈ l,zbc o) (ho:h o=some (.rows true gn 5 (l.map zag))) (hon:o<n)
  (hK:K (.sl o gn 5 0 (zcT l).length) (upd h o (some (.rows true gn 5 ((zcT l).map zag++List.replicate (l.length - (zcT l).length) zwU)))) n):
  zaj Tryz.prog 205 [.sl o gn 5 0 l.length, .fn (.func 206) [] []] h n K:=by
 have hz:∀m,∀r ∈ (zcT l).map zag++List.replicate (l.length - (zcT l).length) zwU,∀c ∈ r,Bel m c:=by
  intro m r hr c hc;rcases List.mem_append.1 hr with hr|hr
  ·grind [znd]
  ·rw [List.eq_of_mem_replicate hr] at hc;simp only [zwU,List.mem_cons,List.not_mem_nil,or_false] at hc;rcases hc with rfl|rfl|rfl|rfl|rfl<;>exact .v _
 refine zN8 (args':= [.sl o gn 5 0 l.length, .fn (.func 206) [] []]) (HH:= [(o, .rows true gn 5 ((zcT l).map zag++List.replicate (l.length - (zcT l).length) zwU))])
  [o] h (zvr l gn hl hf) ac af rfl (Nat.le_refl _) (.refl _) ?_ ?_ (.refl _ _ _ _) ?_ ?_ ?_ (.sl rfl) ?_ ?_
 ·intro j hj;obtain rfl:j=0:=aa;exact ⟨_, _,rfl,ho, .rows (.same (znd _))⟩
 ·grind [znd,zqr]
 ·intro y hy;simp only [List.mem_cons,List.not_mem_nil,or_false] at hy;rcases hy with rfl|rfl
  ·exact .sl hon
  ·simp [go_sem]
 ·exact .cons (.sl rfl) (.cons (.same ae) .nil)
 ·intro y hy;simp only [List.mem_cons,List.not_mem_nil,or_false] at hy;rcases hy with rfl|rfl
  ·exact .sl ai
  ·simp [go_sem]
 ·exact .cons rfl (.rows (.same (hz 0))) .nil
 ·have e:zdU [(o, .rows true gn 5 ((zcT l).map zag++List.replicate (l.length - (zcT l).length) zwU))] (ziM [o] h)=upd h o (some (.rows true gn 5 ((zcT l).map zag++List.replicate (l.length - (zcT l).length) zwU))):=by
   funext j;simp_all [zdU,ziM,upd]
  grind [ren]
theorem ztE (l:List zae) (gn m:Nat) (hm:l.length=m) (hl:m<=17179869184) (hf:∀o ∈ l,zbc o) (ho:h o=some (.rows true gn 5 (l.map zag))) (hon:o<n)
  (hK:K (.sl o gn 5 0 (zcT l).length) (upd h o (some (.rows true gn 5 ((zcT l).map zag++List.replicate (l.length - (zcT l).length) zwU)))) n):
  zaj Tryz.prog 205 [.sl o gn 5 0 m, .fn (.func 206) [] []] h n K:=by
 subst hm;exact zvV l gn hl hf ho hon hK
theorem zNB:Go.Sort.SWO (λ a b:zae=>decide (zbp a b<0)):=by
 refine ⟨λ x=> ?_,λ x y z h1 h2=> ?_,λ x y z h1 h2=> ?_⟩
 ·have:=zaK.swap x x;grind
 ·simp only [decide_eq_true_eq] at h1 h2 ⊢;have t:=zaK.tr x y z aa aa;rcases Int.lt_or_eq_of_le t with h|h
  ·exact h
  ·have e:=(zaK.eq _ _).1 h;subst e;have:=zaK.swap x y;omega
 ·simp only [decide_eq_false_iff_not] at h1 h2 ⊢;have s1:=zaK.swap x y;have s2:=zaK.swap y z;have s3:=zaK.swap x z;have t:=zaK.tr z y x aa aa;omega
theorem zFb (l:List zae) (hf:∀o ∈ l,zbc o) (hl:l.length<4611686018427387904){gn:Nat} (ho:h o=some (.rows true gn 5 (l.map zag)))
  (hK:K (.tup []) (upd h o (some (.rows true gn 5 ((zfi zbp l).map zag)))) n):
  zaj Tryz.prog 204 [.sl o gn 5 0 l.length, .fn (.func 158) [] []] h n K:=by
 refine zOj zsortP (k:=5) aa Tryz.isAgg44 Tryz.sizeOf44 zag (λ _=>rfl) ?_ (λ o=>zbc o) zbp zNB _ (λ x y hx hy=>zdO x y hx hy) ?_ l hf hl ho ?_
 ·intro x;simp [go_sem]
 ·exact (zdO default default cJ cJ).1
 ·intro l' hp hs;have:zfi zbp l=l':=zmg zaK hp (hs.imp λ {a b} hab=>by
   have:=zaK.swap a b;grind [leC])
  grind
theorem zzp (l:List zae) (hl:l.length<=17179869184):ztr Tryz.prog 203 [zaC l] (λ n=> .sl n 1 5 0 l.length) (λ n=> [(n, .rows true 1 5 (l.map zag))]) 1:=by
 refine ⟨?_,λ n=>⟨ae,ae⟩⟩;refine zOu (λ hne=> ?_) (λ he A c=> ?_)
 ·obtain ⟨x,l,rfl⟩:=List.exists_cons_of_ne_nil (show l≠ [] by grind);simp only [List.length_cons] at hl;refine aF Tryz.func203 ?_;refine J0 ?_;simp [go_sem,zaf]
 ·obtain rfl:l= []:=by simp_all
  refine aF Tryz.func203 ?_;refine J0 ?_;refine zNX (λ h=> ?_) (λ h=> ?_)
  ·simp at h;subst h;simp [go_sem,zaf]
  ·simp [go_sem,zaf]
theorem zj9 (l:List zae) (hl:l.length<=17179869184) (hf:∀p ∈ l,zbc p):zav Tryz.prog 151 [zaC l] (zaC (zaS zbp l)):=by
 refine pF Tryz.func151 ?_;have hC:=zzp l hl;refine J0 ?_;refine zN1 hC ae ?_;refine J0 ?_;refine zFb l hf aa (o:=0) (gn:=1) aj ?_;refine J0 ?_;refine ztE (zfi zbp l) 1 l.length (zki l) aa (λ p hp=>hf p (zkj.1 hp)) (o:=0) aj aa ?_;refine J0 ?_;exact zaq rfl ac ap (by rw [List.drop_zero];exact List.take_left' ac)
theorem zIn (g:zaa) (hg:GOk g) (p:zae) (hp:POk g p) (cell i:Int) (hc:zd8 g p cell i){a b:Nat} (hd: [a,b].Nodup) (hlt:∀j ∈ [a,b],j<n)
  (ha:h a=some (.rows true 0 5 [zag p])) (hb:h b=some (.rows true 0 1 [[AV.nils]])) 
  (hK:K (.int 0) (upd (upd (upd h a (some (.rows true 0 5 [zag p]))) b (some (.rows true 0 1 [[.sl (n+245) (zhq g p cell i).length 6 0 (zhq g p cell i).length]]))) (n+245) (some (.rows true (zhq g p cell i).length 6 ((zhq g p cell i).map zbm)))) (n+246)):
  zaj Tryz.prog 244 [.agg (zad g), .agg (zag p), .int cell, .int i, .fn (.func 245) [] [.ref a 0 5 0 0, .ref b 0 1 0 0]] h n K:=by
 have hbg:∀m,Bel m (.agg (zad g)):=λ m=>ae;have hbp:∀m,∀c ∈ zag p,Bel m c:=λ m=>ae;have hbq:∀m,Bel m (.agg (zag p)):=λ m=>ae;have han:=hlt a ac;have hbn:=hlt b ac;have hrows:∀m,∀r ∈ [zag p],∀c ∈ r,Bel m c:=λ m r hr=>af;refine zN8 (args':= [.agg (zad g), .agg (zag p), .int cell, .int i, .fn (.func 245) [] [.ref a 0 5 0 0, .ref b 0 1 0 0]])
  (HH:= [(a, .rows true 0 5 [zag p]),(b, .rows true 0 1 [[.sl (n+245) (zhq g p cell i).length 6 0 (zhq g p cell i).length]]),(n+245, .rows true (zhq g p cell i).length 6 ((zhq g p cell i).map zbm))])
  [a,b] h (zK7 g hg p hp cell i hc) hd hlt rfl aa (.refl _) ?_ ?_ (.refl _ _ _ _) ?_ ?_ ?_ (.same (.v _)) ?_ ?_
 ·intro j hj;rcases (show j=0∨j=1 by omega) with rfl|rfl
  ·exact ⟨_, _,rfl,ha, .rows (.same (hrows _))⟩
  ·exact ⟨_, _,rfl,hb, .rows (.same ae)⟩
 ·intro q hq;simp only [List.mem_cons,List.not_mem_nil,or_false] at hq;rcases hq with rfl|rfl
  ·grind [zqr]
  ·exact ⟨Nat.le_of_ble_eq_true rfl,by simp [go_sem,zqr]⟩
 ·simp [go_sem,han,hbn]
 ·exact .cons (.same (hbg _)) (.cons (.same (hbq _)) (.cons (.same (.v _)) (.cons (.same (.v _)) (.cons (.fn .nil (.cons (.ref rfl) (.cons (.ref rfl) .nil))) .nil))))
 ·simp [go_sem]
 ·exact .cons rfl (.rows (.same (hrows _))) (.cons rfl (.rows (.cons (.cons (.sl rfl) .nil) .nil)) (.cons rfl (.rows (.same (zfa _))) .nil))
 ·have e:zdU [(a, .rows true 0 5 [zag p]),(b, .rows true 0 1 [[.sl (n+245) (zhq g p cell i).length 6 0 (zhq g p cell i).length]]),(n+245, .rows true (zhq g p cell i).length 6 ((zhq g p cell i).map zbm))] (ziM [a,b] h)=
    upd (upd (upd h a (some (.rows true 0 5 [zag p]))) b (some (.rows true 0 1 [[.sl (n+245) (zhq g p cell i).length 6 0 (zhq g p cell i).length]]))) (n+245) (some (.rows true (zhq g p cell i).length 6 ((zhq g p cell i).map zbm))):=by
   simp only [List.nodup_cons,List.mem_cons,List.not_mem_nil,or_false,not_or,List.nodup_nil,and_true,not_false_eq_true] at hd;have na:a≠n+245:=aa;have nb:b≠n+245:=aa;funext j;simp only [zdU,ziM,upd];grind
  grind
theorem zEW (g:zaa) (hg:GOk g) (p:zae) (hp:POk g p) (cell i:Int) (hc:zd8 g p cell i):
  zav Tryz.prog 202 [.agg (zad g), .agg (zag p), .int cell, .int i] (.tup [zjT (zej g p cell i), .int 0]):=by
 refine pF Tryz.func202 ?_;have hl:=(zqU hg hp hc)
 have hll:(zhq g p cell i).length<=100000000:=Nat.le_trans (List.length_filterMap_le _ _) hl.2;have hf:∀o ∈ zhq g p cell i,zbc o.pos:=by
  intro o ho;obtain ⟨s,hs,h⟩:=List.mem_filterMap.1 ho;exact (zIl hg (hl.1 s hs).1 hp.s h).1.fits hg
 have hr:zej g p cell i=zaS zmN (zhq g p cell i):=rfl;rw [hr];refine J0 ?_;refine zIn g hg p hp cell i hc (a:=1) (b:=2) ai ac (by simp [upd,zag,zaG]) aj ?_;generalize zhq g p cell i=l at *;refine J0 ?_;refine zFc l hf aa (o:=248) (gn:=l.length) aj ?_;refine J0 ?_;refine ztF (zfi zmN l) l.length l.length (zki l) aa (λ o ho=>hf o (zkj.1 ho)) (o:=248) aj aa ?_;refine J0 ?_;exact zaq rfl ac ap (by grind [zaS])
theorem zBd (g:zaa) (hg:GOk g) (p:zae) (hp:POk g p):zav Tryz.prog 152 [.agg (zad g), .agg (zag p)] (zaC (zc8 g p)):=by
 refine pF Tryz.func152 ?_;have hal:=hp.al;have c9:=hg.c9;have k6:=hg.k6;have hcp:=zoC ⟨p,0,0,false⟩ (hp.fits hg);have hl0:=hp.h0.len;have hl1:=hp.h1.len;have hps:=hp.s;rcases hp.s with hsd|hsd
 ·have hsn:p.side.toNat=0:=by omega
  refine J2 hsn hsd ?_;refine zNW (zNY (α:=Nat) (λ k=>⟨[(3, .ref 1 0 5 0 0),(5, .sl 2 (zc1 g p k).length 5 0 (zc1 g p k).length),(15,zaG p.h0),(16, .int p.h0.length),(17, .int k)], [(1, .rows true 0 5 [zag p]),(2, .rows true (zc1 g p k).length 5 ((zc1 g p k).map zag))],3⟩)
   (λ d k=>k+d=g.kinds.length) ?_ g.kinds.length 0 ?_) ?_ ?_
  ·rintro d k k1 hrec;refine J0 ?_;refine zNX (λ hk=> ?_) (λ hk=> ?_)<;>simp at hk
   ·have hz:=znf g p k;have ha:=zpb g p k;have hkh:k<p.h0.length:=aa;have hhv:=hp.h0.v k hkh;refine J1 hkh ?_;refine zNW (zNY (α:=Nat) (λ c=>⟨[(3, .ref 1 0 5 0 0),(5, .sl 2 (zeY g p k c).length 5 0 (zeY g p k c).length),(6, .int k),(7, .int (nth p.h0 k)),(15,zaG p.h0),(16, .int p.h0.length),(17, .int k),(23,zaG p.at_),(24, .int p.at_.length),(25, .int c)], [(1, .rows true 0 5 [zag p]),(2, .rows true (zeY g p k c).length 5 ((zeY g p k c).map zag))],3⟩)
     (λ d c=>c+d=p.at_.length) ?_ p.at_.length 0 ?_) ?_ ?_
    ·rintro d2 c c1 hrec2;refine J0 ?_;refine zNX (λ hci=> ?_) (λ hci=> ?_)<;>simp at hci
     ·have hD:zly g p k c=if nth (p.hand p.side) k=0∨nth p.at_ c≠0 then none
       else some {({ p with at_:=p.at_.set c (zdF k p.side)}.withHand p.side ((p.hand p.side).set k (nth (p.hand p.side) k - 1))) with side:=1 - p.side}:=rfl
      have hD':zly g p k c=if nth p.h0 k=0∨nth p.at_ c≠0 then none else some { p with at_:=p.at_.set c (zdF k p.side),h0:=p.h0.set k (nth p.h0 k - 1),side:=1 - p.side}:=by
       grind [zae.hand,zae.withHand]
      have hCd:=zmB (k:Int) p.side;rw [hsd] at hCd hD';refine J1 hci ?_;refine zNX (λ hcc=> ?_) (λ hcc=> ?_)<;>simp at hcc
      ·rw [if_pos aa] at hD';have hsu:=zeq g p k c;rw [hD'] at hsu;simp only [Option.toList_none,List.append_nil] at hsu;refine J0 ?_;refine zNW (hrec2 (d2 - 1) aa (c+1) aa) ?_ ac;simp [go_sem,zaf,hsd,hsu]
      ·rw [if_neg aa] at hD';have hsu:=zeq g p k c;rw [hD'] at hsu;simp only [Option.toList_some] at hsu;have hcl:=zmv g p k c;have hkm:k * p.at_.length<=6 * 9:=Nat.mul_le_mul aa aa;refine J1 hci ?_;refine zN1 hcp ae ?_;refine J2 hci hsd ?_;refine dP hCd ?_;refine J4 hsn hsd hci hkh ?_;refine zNW (hrec2 (d2 - 1) aa (c+1) aa) ?_ ac;simp [go_sem,zaf,hsd,hsu];(first|done|exact rwX)
     ·have hcl:c=p.at_.length:=by omega
      subst hcl;rw [ha];refine J0 ?_;refine zNW (hrec (d - 1) aa (k+1) aa) ?_ ac;simp [go_sem,zaf,hsd]
    ·omega
    ·simp [go_sem,zaf,hsd,hz]
    ·simp
   ·have hkl:k=g.kinds.length:=by omega
    subst hkl;have hdl:=zjR g p g.kinds.length;have hkm:g.kinds.length * p.at_.length<=6 * 9:=Nat.mul_le_mul k6 aa;have hS:=zj9 (zc1 g p g.kinds.length) aa (λ q hq=>by
     rw [zmw] at hq;obtain ⟨k,hk,hq⟩:=List.mem_flatMap.1 hq;obtain ⟨c,hc,hq⟩:=List.mem_filterMap.1 hq;exact (zqE hg hp af hq).1.fits hg)
    rw [show zaS zbp (zc1 g p g.kinds.length)=zc8 g p from rfl] at hS;generalize zc1 g p g.kinds.length=l at *;generalize zc8 g p=r at *;refine J0 ?_;refine zN3 [2] hS ?_ (zxv (zcb _)) ?_
    ·(first|done|exact agX)
    ·exact K0
  ·omega
  ·simp [go_sem,zaf,hsd,show zc1 g p 0= [] from rfl]
  ·simp
 ·have hsn:p.side.toNat=1:=by omega
  refine J2 hsn hsd ?_;refine zNW (zNY (α:=Nat) (λ k=>⟨[(3, .ref 1 0 5 0 0),(5, .sl 2 (zc1 g p k).length 5 0 (zc1 g p k).length),(15,zaG p.h1),(16, .int p.h1.length),(17, .int k)], [(1, .rows true 0 5 [zag p]),(2, .rows true (zc1 g p k).length 5 ((zc1 g p k).map zag))],3⟩)
   (λ d k=>k+d=g.kinds.length) ?_ g.kinds.length 0 ?_) ?_ ?_
  ·rintro d k k1 hrec;refine J0 ?_;refine zNX (λ hk=> ?_) (λ hk=> ?_)<;>simp at hk
   ·have hz:=znf g p k;have ha:=zpb g p k;have hkh:k<p.h1.length:=aa;have hhv:=hp.h1.v k hkh;refine J1 hkh ?_;refine zNW (zNY (α:=Nat) (λ c=>⟨[(3, .ref 1 0 5 0 0),(5, .sl 2 (zeY g p k c).length 5 0 (zeY g p k c).length),(6, .int k),(7, .int (nth p.h1 k)),(15,zaG p.h1),(16, .int p.h1.length),(17, .int k),(23,zaG p.at_),(24, .int p.at_.length),(25, .int c)], [(1, .rows true 0 5 [zag p]),(2, .rows true (zeY g p k c).length 5 ((zeY g p k c).map zag))],3⟩)
     (λ d c=>c+d=p.at_.length) ?_ p.at_.length 0 ?_) ?_ ?_
    ·rintro d2 c c1 hrec2;refine J0 ?_;refine zNX (λ hci=> ?_) (λ hci=> ?_)<;>simp at hci
     ·have hD:zly g p k c=if nth (p.hand p.side) k=0∨nth p.at_ c≠0 then none
       else some {({ p with at_:=p.at_.set c (zdF k p.side)}.withHand p.side ((p.hand p.side).set k (nth (p.hand p.side) k - 1))) with side:=1 - p.side}:=rfl
      have hD':zly g p k c=if nth p.h1 k=0∨nth p.at_ c≠0 then none else some { p with at_:=p.at_.set c (zdF k p.side),h1:=p.h1.set k (nth p.h1 k - 1),side:=1 - p.side}:=by
       grind [zae.hand,zae.withHand]
      have hCd:=zmB (k:Int) p.side;rw [hsd] at hCd hD';refine J1 hci ?_;refine zNX (λ hcc=> ?_) (λ hcc=> ?_)<;>simp at hcc
      ·rw [if_pos aa] at hD';have hsu:=zeq g p k c;rw [hD'] at hsu;simp only [Option.toList_none,List.append_nil] at hsu;refine J0 ?_;refine zNW (hrec2 (d2 - 1) aa (c+1) aa) ?_ ac;simp [go_sem,zaf,hsd,hsu]
      ·rw [if_neg aa] at hD';have hsu:=zeq g p k c;rw [hD'] at hsu;simp only [Option.toList_some] at hsu;have hcl:=zmv g p k c;have hkm:k * p.at_.length<=6 * 9:=Nat.mul_le_mul aa aa;refine J1 hci ?_;refine zN1 hcp ae ?_;refine J2 hci hsd ?_;refine dP hCd ?_;refine J4 hsn hsd hci hkh ?_;refine zNW (hrec2 (d2 - 1) aa (c+1) aa) ?_ ac;simp [go_sem,zaf,hsd,hsu];(first|done|exact rwX)
     ·have hcl:c=p.at_.length:=by omega
      subst hcl;rw [ha];refine J0 ?_;refine zNW (hrec (d - 1) aa (k+1) aa) ?_ ac;simp [go_sem,zaf,hsd]
    ·omega
    ·simp [go_sem,zaf,hsd,hz]
    ·simp
   ·have hkl:k=g.kinds.length:=by omega
    subst hkl;have hdl:=zjR g p g.kinds.length;have hkm:g.kinds.length * p.at_.length<=6 * 9:=Nat.mul_le_mul k6 aa;have hS:=zj9 (zc1 g p g.kinds.length) aa (λ q hq=>by
     rw [zmw] at hq;obtain ⟨k,hk,hq⟩:=List.mem_flatMap.1 hq;obtain ⟨c,hc,hq⟩:=List.mem_filterMap.1 hq;exact (zqE hg hp af hq).1.fits hg)
    rw [show zaS zbp (zc1 g p g.kinds.length)=zc8 g p from rfl] at hS;generalize zc1 g p g.kinds.length=l at *;generalize zc8 g p=r at *;refine J0 ?_;refine zN3 [2] hS ?_ (zxv (zcb _)) ?_
    ·(first|done|exact agX)
    ·exact K0
  ·omega
  ·simp [go_sem,zaf,hsd,show zc1 g p 0= [] from rfl]
  ·simp
def ztl (p:zae) (side:Int) (K:Nat) (j:Nat):List Int:=(List.range K).map λ (k:Nat)=>(((p.at_.take j).countP (zk9 p side k):Nat):Int)
theorem zB4 (p:zae) (side:Int) (K j:Nat):(ztl p side K j).length=K:=by simp [ztl]
theorem zKT (p:zae) (side:Int) (K j:Nat){k:Nat} (hk:k<K):nth (ztl p side K j) k=(((p.at_.take j).countP (zk9 p side k):Nat):Int):=by
 grind [ztl,nth]
variable {side:Int} {p:zae}
theorem zxG {K:Nat} (hj:j<p.at_.length):ztl p side K (j+1)=(List.range K).map λ (k:Nat)=>(((p.at_.take j).countP (zk9 p side k)+(if zk9 p side k (nth p.at_ j) then 1 else 0):Nat):Int):=by
 grind [ztl,zrJ]
theorem zMM {K:Nat} (hj:j<p.at_.length) (h:∀k:Nat,zk9 p side k (nth p.at_ j)=false):ztl p side K (j+1)=ztl p side K j:=by
 grind [zxG,ztl]
theorem zJ8 {K m:Nat} (hj:j<p.at_.length) (hm:m<K) (h:∀k:Nat,zk9 p side k (nth p.at_ j)=decide (k=m)):
  ztl p side K (j+1)=(ztl p side K j).set m (nth (ztl p side K j) m+1):=by
 rw [zxG hj];refine List.ext_getElem (by simp [ztl]) λ k h1 h2=> ?_;grind [ztl,nth]
def zkA (g:zaa) (p:zae) (side:Int):List Int:=ztl p side g.kinds.length p.at_.length
theorem zsI (g:zaa) (p:zae) (side:Int){k:Nat} (hk:k<g.kinds.length):nth (zkA g p side) k=zCr p side k:=by
 grind [zkA,zKT,zCr]
theorem zIT {m s:Int} (h0:0<=m) (hs:s=0∨s=1):(1+2 * m+s - 1).tmod 2=s∧(1+2 * m+s - 1).tdiv 2=m:=by
 grind
theorem zt7 (g:zaa) (hg:GOk g) (p:zae) (hp:POk g p) (side:Int) (hsd:side=0∨side=1):
  zav Tryz.prog 367 [.agg (zad g), .agg (zag p), .int side] (zaG (zkA g p side)):=by
 refine pF Tryz.func367 ?_;have hal:=hp.al;have c9:=hg.c9;have k6:=hg.k6;have hall:=λ j=>zB4 p side g.kinds.length j;have hz:List.replicate g.kinds.length [AV.v (.int .i64 0)]=(ztl p side g.kinds.length 0).map zd2:=by
  refine List.ext_getElem af λ k h1 h2=> ?_;simp [ztl,zd2]
 refine J0 ?_;refine zNW (zNY (α:=Nat) (λ j=>⟨[(2, .int side),(7, .sl 2 0 1 0 g.kinds.length),(15,zaG p.at_),(16, .int p.at_.length),(17, .int j)], [(2, .rows true 0 1 ((ztl p side g.kinds.length j).map zd2))],3⟩)
  (λ d j=>j+d=p.at_.length) ?_ p.at_.length 0 ?_) ?_ ?_
 ·rintro d j j1 hrec;refine J0 ?_;refine zNX (λ hj=> ?_) (λ hj=> ?_)<;>simp at hj
  ·have hat:=hp.at (i:=j) aa;have hman:=zbn hat.1 hat.2 hg.k6;have hM:∀k:Nat,zk9 p side k (nth p.at_ j)=(decide (0<=(zat (nth p.at_ j)).1) && decide ((zat (nth p.at_ j)).2=side) && (decide ((k:Int)<0)||decide ((zat (nth p.at_ j)).1=k))):=λ k=>rfl;have hno:=zMM (p:=p) (side:=side) (K:=g.kinds.length) hj;have hyes:=λ m=>zJ8 (p:=p) (side:=side) (K:=g.kinds.length) (m:=m) hj;rcases hman with ⟨h0,hm⟩|⟨h0,hm0,hmk,hms,he⟩
   ·rw [hm] at hM;have hno:=hno (λ k=>by grind);refine J2 hj h0 ?_;refine zNW (hrec (d - 1) aa (j+1) aa) ?_ ac;simp [go_sem,zaf,hno]
   ·have ht:=zIT hm0 hms;rw [<- he] at ht;have hpos:0<nth p.at_ j:=aa;by_cases hs:(zat (nth p.at_ j)).2=side
    ·obtain ⟨m,hmm⟩:∃m:Nat,(zat (nth p.at_ j)).1=m:=⟨(zat (nth p.at_ j)).1.toNat,aa⟩
     rw [hmm] at ht hmk;have hmk':m<g.kinds.length:=aa;have hyes:=hyes m hmk' (λ k=>by rw [hM,hmm,decide_eq_true hs];grind);have hb:0<=nth (ztl p side g.kinds.length j) m∧nth (ztl p side g.kinds.length j) m<=9:=by
      grind [List.length_take,nth,ztl]
     have hlm:m<(ztl p side g.kinds.length j).length:=af;rw [hs] at ht;refine J7 hj hpos ht.1 ht.2 hlm hall hmk' ?_;refine zNW (hrec (d - 1) aa (j+1) aa) ?_ ac;simp [go_sem,zaf,hyes,List.map_set,zd2]
    ·have hno:=hno (λ k=>by grind);refine J5 hj hpos ht.1 ht.2 hs ?_;refine zNW (hrec (d - 1) aa (j+1) aa) ?_ ac;simp [go_sem,zaf,hno]
  ·have e:j=p.at_.length:=by omega
   subst e;refine J0 ?_;grind [zaq,noH,upd,zkA]
 ·omega
 ·simp [go_sem,zaf,hz]
 ·simp
end Go.Av
end
section
/- Contracts: play.conditions, play.ended. -/
open Go Go.Proofs
namespace Go.Av
theorem zNe {g:zaa} (hg:GOk g){p:zae} (hp:POk g p) (s k:Int):zCr p s k<=9:=Nat.le_trans List.countP_le_length (by have:=hg.c9;have:=hp.al;omega)
theorem zrK (g:zaa) (p:zae) (side:Int):(zkA g p side).length=g.kinds.length:=zB4 _ _ _ _
theorem zCt (m:Int) (s side:Int):∀K:Nat,0<=m->((List.range K).map λ (k:Nat)=>if (decide (0<=m) && decide (s=side) && (decide ((k:Int)<0)||decide (m=k)))=true then (1:Nat) else 0).sum=if m<K∧s=side then 1 else 0
 |0,h=>af
 |K+1,h=>by
  rw [List.range_succ,List.map_append,List.sum_append,zCt m s side K h];have e:(if (decide (0<=m) && decide (s=side) && (decide ((K:Int)<0)||decide (m=K)))=true then (1:Nat) else 0)=if s=side∧m=K then 1 else 0:=by
   grind
  simp only [List.map_cons,List.map_nil,List.sum_cons,List.sum_nil,e,Nat.add_zero];grind
theorem zwJ:∀l:List Nat,(l.map λ _=>0).sum=0
 | []=>rfl
 | _::l=>by simp [zwJ l]
theorem zIP (f h:Nat->Nat):∀l:List Nat,(l.map λ k=>f k+h k).sum=(l.map f).sum+(l.map h).sum
 | []=>rfl
 |k::l=>by simp [zIP f h l];omega
theorem zHR {K:Nat} (hK:K<=6) (side:Int):∀l:List Int,(∀c ∈ l,0<=c∧c<=2 * K)->
  ((List.range K).map λ (k:Nat)=>l.countP λ c=>decide (0<=(zat c).1) && decide ((zat c).2=side) && (decide ((k:Int)<0)||decide ((zat c).1=k))).sum=
   l.countP λ c=>decide (0<=(zat c).1) && decide ((zat c).2=side) && (decide ((-1:Int)<0)||decide ((zat c).1= -1))
 | [], _=>by simp [zwJ]
 |c::l,h=>by
  have ih:=zHR hK side l (λ x hx=>h x aZ);simp only [List.countP_cons];rw [zIP,ih];congr 1;have hc:=h c ac;rcases zbn hc.1 hc.2 hK with ⟨h0,hm⟩|⟨h0,hm0,hmk,hms,he⟩
  ·rw [hm];simp [zwJ]
  ·rw [zCt _ _ _ _ hm0];grind
theorem zNf {g:zaa} (hg:GOk g){p:zae} (hp:POk g p) (side:Int):((List.range g.kinds.length).map λ (k:Nat)=>zCr p side k).sum=zCr p side (-1):=
 zHR hg.k6 side p.at_ hp.av
section
variable (g:zaa) (hg:GOk g) (p:zae) (hp:POk g p) (c:Int×Int×Int×Int) (hc:ziP g.cells g.kinds.length c)
theorem zDD (hg:GOk g) (hp:POk g p) (hc:ziP g.cells g.kinds.length c) (h1:c.1=1):zav Tryz.prog 366 [.agg (zad g), .agg (zag p), .agg (zaZ c)] (.v (.bool (zjo c p))):=by
 refine pF Tryz.func366 ?_;have hC:=zt7 g hg p hp p.side hp.s;have hl:=zrK g p p.side;have hk:=hc.kind;have hck:c.2.1.toNat<(zkA g p p.side).length:=aa;have hn:=zsI g p p.side (k:=c.2.1.toNat) aa;rw [show ((c.2.1.toNat:Nat):Int)=c.2.1 by omega] at hn;have he:zjo c p=decide (nth (zkA g p p.side) c.2.1.toNat=0):=by
  grind [zjo]
 rw [he];generalize zkA g p p.side=l at *;obtain ⟨c0,c1,c2,c3⟩:=c;simp only at hk hck;refine J0 ?_;refine dP hC ?_;exact K1 hck
theorem zDE (hg:GOk g) (hp:POk g p) (hc:ziP g.cells g.kinds.length c) (h1:c.1=2):zav Tryz.prog 368 [.agg (zad g), .agg (zag p), .agg (zaZ c)] (.v (.bool (zjo c p))):=by
 refine pF Tryz.func368 ?_;have hal:=hp.al;have hps:=hp.s;have hn:=hc.n;have hcd:=hn.2.1 h1;have hci:c.2.2.1.toNat<p.at_.length:=aa;have he:zjo c p=decide (nth p.at_ c.2.2.1.toNat=zdF c.2.1 (1 - p.side)):=by
  grind [zjo]
 rw [he];have hC:=zmB c.2.1 (1 - p.side);obtain ⟨c0,c1,c2,c3⟩:=c;simp only at hcd hci hC hn;generalize zdF c1 (1 - p.side)=code at *;refine J1 hci ?_;refine dP hC ?_;exact K1 hci
theorem zDF (hg:GOk g) (hp:POk g p) (hc:ziP g.cells g.kinds.length c) (h1:c.1=3):zav Tryz.prog 369 [.agg (zad g), .agg (zag p), .agg (zaZ c)] (.v (.bool (zjo c p))):=by
 refine pF Tryz.func369 ?_;have hC:=zt7 g hg p hp p.side hp.s;have hl:=zrK g p p.side;have k6:=hg.k6;have hnn:=λ (k:Nat) hk=>zsI g p p.side (k:=k) hk;have hle:=λ k:Nat=>zNe hg hp p.side k;have hall:=zNf hg hp p.side;obtain ⟨S,hS⟩:∃S:Nat->Nat,S=λ i=>((List.range i).map λ (k:Nat)=>zCr p p.side k).sum:=⟨_,rfl⟩
 have hS0:S 0=0:=af;have hSs:∀i,S (i+1)=S i+zCr p p.side i:=λ i=>dM;have hSK:S g.kinds.length=zCr p p.side (-1):=af;have hSb:∀i,S i<=9 * i:=λ i=>by
  induction i<;>grind
 have he:zjo c p=decide ((S g.kinds.length:Int)<=c.2.2.1):=by
  simp_all [zjo]
 rw [he];clear hS;generalize zkA g p p.side=l at *;obtain ⟨c0,c1,c2,c3⟩:=c;refine J0 ?_;refine aP hC ?_;refine J0 ?_;refine zNW (zNY (α:=Nat) (λ i=>⟨[(5, .ref 2 0 4 0 0),(7, .int (S i)),(14,zaG l),(15, .int l.length),(16, .int i)], [(2, .rows true 0 4 [zaZ (c0,c1,c2,c3)])],3⟩)
  (λ d i=>i+d=l.length) ?_ l.length 0 ?_) ?_ ?_
 ·rintro d i i1 hrec;refine J0 ?_;refine zNX (λ hi=> ?_) (λ hi=> ?_)<;>simp at hi
  ·have h2:=hnn i aa;have h3:=hle i;have h4:=hSb i;have h5:=hSs i;refine J1 hi ?_;refine zNW (hrec (d - 1) aa (i+1) aa) ?_ ac;simp [go_sem,zaf,h5,h2]
  ·have e:i=l.length:=by omega
   subst e;rw [hl];exact K0
 ·omega
 ·simp [go_sem,zaf,hS0]
 ·simp
end
def zfs (g:zaa) (p:zae):Int×Bool:=if 0<=zbi g p then ((nth g.clauses (zbi g p).toNat).2.2.2,true) else (0,false)
theorem zwf:glbs.lookup 0=some [.v .nilFunc, .fn (.func 366) [] [], .fn (.func 368) [] [], .fn (.func 369) [] []]:=rfl
theorem zus (g:zaa) (hg:GOk g) (p:zae) (hp:POk g p):zav Tryz.prog 149 [.agg (zad g), .agg (zag p)] (.tup [.int (zfs g p).1, .v (.bool (zfs g p).2)]):=by
 refine pF Tryz.func149 ?_;have hcn:=hg.cn;refine J0 ?_;refine zNW (zNY (α:=Nat) (λ i=>⟨[(2, .ref 0 0 9 0 0),(3, .ref 1 0 5 0 0),(9, .lst 4 (g.clauses.map zaZ)),(10, .int g.clauses.length),(11, .int i)], [(0, .rows true 0 9 [zad g]),(1, .rows true 0 5 [zag p])],2⟩)
  (λ d i=>i+d=g.clauses.length∧∀j,j<i->zjo (nth g.clauses j) p=false) ?_ g.clauses.length 0 ?_) ?_ ?_
 ·rintro d i ⟨i1,i2⟩ hrec;refine J0 ?_;refine zNX (λ hi=> ?_) (λ hi=> ?_)<;>simp at hi
  ·have hcl:=hg.cl _ (zah hi);have hfi:zjo (nth g.clauses i) p=true->zfs g p=((nth g.clauses i).2.2.2,true):=λ hc=>by
    have he:zbi g p=i:=by unfold zbi;rw [zp1 (λ c=>zjo c p) g.clauses hi i2 hc]
    grind [zfs]
   have h1:=zDD g p _ hg hp hcl;have h2:=zDE g p _ hg hp hcl;have h3:=zDF g p _ hg hp hcl;have hcond:=hcl.cond;obtain ⟨c,hcc⟩:∃c,c=nth g.clauses i:=⟨_,rfl⟩
   rw [<- hcc] at hfi h1 h2 h3 hcond;have fin:∀b,zjo c p=b->b=false->∀j,j<i+1->zjo (nth g.clauses j) p=false:=by
    grind
   obtain ⟨c0,c1,c2,c3⟩:=c;generalize hcb:zjo (c0,c1,c2,c3) p=b at *;simp only at hcond hfi;rcases hcond with rfl|rfl|rfl
   ·have hC:=h1 rfl;repeat first|refine wV λ _=>?_|simp [go_sem,hi,<- hcc,zwf]
    refine dP hC ?_;refine J0 ?_;cases b
    ·refine J0 ?_;refine zNW (hrec (d - 1) aa (i+1) ⟨aa,fin _ rfl rfl⟩) ?_ ac;simp [go_sem,zaf]
    ·rw [hfi rfl];exact K0
   ·have hC:=h2 rfl;repeat first|refine wV λ _=>?_|simp [go_sem,hi,<- hcc,zwf]
    refine dP hC ?_;refine J0 ?_;cases b
    ·refine J0 ?_;refine zNW (hrec (d - 1) aa (i+1) ⟨aa,fin _ rfl rfl⟩) ?_ ac;simp [go_sem,zaf]
    ·rw [hfi rfl];exact K0
   ·have hC:=h3 rfl;repeat first|refine wV λ _=>?_|simp [go_sem,hi,<- hcc,zwf]
    refine dP hC ?_;refine J0 ?_;cases b
    ·refine J0 ?_;refine zNW (hrec (d - 1) aa (i+1) ⟨aa,fin _ rfl rfl⟩) ?_ ac;simp [go_sem,zaf]
    ·rw [hfi rfl];exact K0
  ·have he:zbi g p= -1:=by grind [zbi,zp0]
   have he':zfs g p=(0,false):=by grind [zfs]
   rw [he'];exact K0
 ·grind
 ·simp [go_sem,zaf]
 ·simp
end Go.Av
end
section
open Go Go.Proofs
namespace Go.Av
def zEZ (o:zca):List AV:= [.agg (zbm o)]
variable {n:Nat}
theorem zuq {j:Nat} (h:j<n):(List.range n).drop j=j::(List.range n).drop (j+1):=by
 grind [List.drop_eq_getElem_cons]
theorem zH7 (g:zaa) (hg:GOk g) (p:zae) (hp:POk g p):zJs Tryz.prog 200 [.fp (zag p), .fp (zad g)] 0 ((zgt g p).map zEZ):=by
 refine zOr ah Tryz.func200 rfl rfl (Nat.le_of_ble_eq_true rfl) ah (λ l=> ?_) (hm2:=by decide);have hal:=hp.al;have c9:=hg.c9;have k6:=hg.k6;have hgb:∀ (n:Nat) (L:List zca),Bel n (zcN l 0 (L.map zEZ)):=λ n L=>by
  simp only [zcN,zFC,zzo,List.forall_mem_cons,zL5,zel];simp [go_sem,zEZ]
 obtain ⟨oF,hoF⟩:∃oF:Nat->List zca,oF=λ j=>((List.range p.at_.length).drop j).flatMap (zgj g p):=⟨_,rfl⟩
 have ho0:zgt g p=oF 0:=by rw [hoF];rfl
 have hos:∀j,j<p.at_.length->oF j=zgj g p j++oF (j+1):=λ j hj=>by grind [zuq]
 have hon:oF p.at_.length= []:=by grind [List.drop_eq_nil_of_le]
 rw [ho0];clear hoF ho0;refine Jg0 ?_;refine zNW (zNY (α:=Nat) (λ j=>⟨[(0, .fn (.yield l) [] []),(1, .fp (zag p)),(2, .fp (zad g)),(14,zaG p.at_),(15, .int p.at_.length),(16, .int j),(1000000007,zcN l 0 ((oF j).map zEZ))], [],0⟩)
  (λ d j=>j+d=p.at_.length) ?_ p.at_.length 0 ?_) ?_ ?_
 ·rintro d j j1 hrec;refine Jg0 ?_;refine zNX (λ hj=> ?_) (λ hj=> ?_)<;>simp at hj
  ·have hat:=hp.at (i:=j) aa;have hman:=zbn hat.1 hat.2 hg.k6;have hO:=zsa (nth p.at_ j);have hoj:=hos j hj;have hoa:zgj g p j=if 0<=(zat (nth p.at_ j)).1∧(zat (nth p.at_ j)).2=p.side then (List.range (nth g.kinds (zat (nth p.at_ j)).1.toNat).progs.length).flatMap λ (i:Nat)=>zej g p j i else []:=rfl
   have hrp:∀i:Nat,i<(nth g.kinds (zat (nth p.at_ j)).1.toNat).progs.length->0<=(zat (nth p.at_ j)).1->(zat (nth p.at_ j)).2=p.side->zd8 g p j i:=λ i hi h1 h2=>
    ⟨aa,aa,h1,h2,aa,bg⟩
   have hRun:∀i:Nat,i<(nth g.kinds (zat (nth p.at_ j)).1.toNat).progs.length->0<=(zat (nth p.at_ j)).1->(zat (nth p.at_ j)).2=p.side-> _:=λ i hi h1 h2=>zEW g hg p hp j i (hrp i hi h1 h2);have hrl:=λ (i:Nat) hi h1 h2=>zs6 hg hp (hrp i hi h1 h2);clear hrp;generalize zat (nth p.at_ j)=m at *;obtain ⟨mk,ms⟩:=m;simp only at hoa hRun hman hO hrl;refine Jg1 hj ?_;refine aP hO ?_;refine Jg0 ?_;refine zNX (λ hc=> ?_) (λ hc=> ?_)<;>simp at hc
   ·have hz:zgj g p j= []:=by rw [hoa,if_neg aa]
    rw [hz,List.nil_append] at hoj;rw [hoj];refine Jg0 ?_;refine zNW (hrec (d - 1) aa (j+1) aa) ?_ ac;simp [go_sem,zaf,hgb,GH]
   ·rw [if_pos aa] at hoa;have hmk:mk.toNat<g.kinds.length:=by
     simp only [Prod.mk.injEq] at hman;omega
    have hn8:=hg.pn _ (zah hmk);obtain ⟨np,hnp⟩:∃np,np=(nth g.kinds mk.toNat).progs.length:=⟨_,rfl⟩
    rw [<- hnp] at hoa hRun hn8 hrl;obtain ⟨pF,hpF⟩:∃pF:Nat->List zca,pF=λ i=>((List.range np).drop i).flatMap (λ (i:Nat)=>zej g p j i)++oF (j+1):=⟨_,rfl⟩
    have hp0:oF j=pF 0:=af;have hps:∀i,i<np->pF i=zej g p j i++pF (i+1):=λ i hi=>by grind [zuq]
    have hpn:pF np=oF (j+1):=by simp_all [List.drop_eq_nil_of_le]
    rw [hp0];clear hpF hp0 hoa hoj;repeat first|refine wV λ _=>?_|simp [go_sem,GH,hmk,<- hnp]
    refine zNW (zNY (α:=Nat) (λ i=>⟨[(0, .fn (.yield l) [] []),(1, .fp (zag p)),(2, .fp (zad g)),(4, .int j),(14,zaG p.at_),(15, .int p.at_.length),(16, .int j),(40, .int np),(41, .int i),(1000000007,zcN l 0 ((pF i).map zEZ))], [],0⟩)
     (λ d i=>i+d=np) ?_ np 0 ?_) ?_ ?_
    ·rintro d2 i i1 hrec2;refine Jg0 ?_;refine zNX (λ hi=> ?_) (λ hi=> ?_)<;>simp at hi
     ·have hR:=hRun i hi aa aa;have hpi:=hps i hi;obtain ⟨rs,hrs⟩:∃rs,rs=zej g p j i:=⟨_,rfl⟩
      have hrl':=hrl i hi aa aa;rw [<- hrs] at hR hpi hrl';obtain ⟨rF,hrF⟩:∃rF:Nat->List zca,rF=λ t=>rs.drop t++pF (i+1):=⟨_,rfl⟩
      have hr0:pF i=rF 0:=af;have hrt:∀t,t<rs.length->rF t=nth rs t::rF (t+1):=λ t ht=>by grind [zaV]
      have hrn:rF rs.length=pF (i+1):=af;rw [hr0];clear hrF hr0;refine Jg0 ?_;refine aP hR ?_;refine Jg0 ?_;refine zNW (zNY (α:=Nat) (λ t=>⟨[(0, .fn (.yield l) [] []),(1, .fp (zag p)),(2, .fp (zad g)),(4, .int j),(14,zaG p.at_),(15, .int p.at_.length),(16, .int j),(40, .int np),(41, .int i),(52,zjT rs),(53, .int rs.length),(54, .int t),(1000000007,zcN l 0 ((rF t).map zEZ))], [],0⟩)
       (λ d t=>t+d=rs.length) ?_ rs.length 0 ?_) ?_ ?_
      ·rintro d3 t t1 hrec3;refine Jg0 ?_;refine zNX (λ ht=> ?_) (λ ht=> ?_)<;>simp at ht
       ·rw [hrt t ht];refine Jg1 ht ?_;refine zMr.mk (more:=0) (xs:=zEZ (nth rs t)) (rs:=(rF (t+1)).map zEZ) _ (by simp [upd,GH]) (.refl _) (.refl _ _ _ _) (by simp [go_sem,zEZ]) ?_ ?_
        ·refine Jg0 ?_;refine zNW (hrec3 (d3 - 1) aa (t+1) aa) ?_ ac;simp [go_sem,zaf,hgb,GH]
        ·exact Kg0
       ·have e:t=rs.length:=by omega
        subst e;rw [hrn];refine Jg0 ?_;refine zNW (hrec2 (d2 - 1) aa (i+1) aa) ?_ ac;simp [go_sem,zaf,hgb,GH]
      ·omega
      ·simp [go_sem,zaf,hgb,GH]
      ·simp
     ·have e:i=np:=by omega
      subst e;rw [hpn];refine Jg0 ?_;refine zNW (hrec (d - 1) aa (j+1) aa) ?_ ac;simp [go_sem,zaf,hgb,GH]
    ·omega
    ·simp [go_sem,zaf,hgb,GH]
    ·simp
  ·have e:j=p.at_.length:=by omega
   subst e;rw [hon];exact Kg0
 ·omega
 ·simp [go_sem,zaf,hgb,GH]
 ·simp
def zH9 (n:Nat):AV:= .fn (.func 200) [] [.ref (n+1) 0 5 0 0, .ref n 0 9 0 0]
def zH8 (g:zaa) (p:zae) (n:Nat):List (Nat×zcr):= [(n, .rows true 0 9 [zad g]),(n+1, .rows true 0 5 [zag p])]
theorem zwC (g:zaa) (p:zae):ztr Tryz.prog 150 [.agg (zad g), .agg (zag p)] zH9 (zH8 g p) 2:=by
 refine ⟨?_,λ n=>⟨by simp [go_sem,zH9],by simp [go_sem,zH8]⟩⟩;refine aF Tryz.func150 ?_;repeat first|refine wV λ _=>?_|simp [go_sem,zH9,zH8]
 simp [go_sem,zaf]
theorem zB8 (g:zaa) (p:zae):(zfs g p).2=decide (0<=zbi g p):=by
 grind [zfs]
theorem zF1 {α:Type} (f:α->Bool):∀l:List α,l.any f=decide (0<(l.filter f).length)
 | []=>rfl
 |x::l=>by cases h:f x<;>simp [h,zF1 f l]
theorem zhJ (g:zaa) (hg:GOk g) (p:zae) (hp:POk g p):zav Tryz.prog 97 [.agg (zad g), .agg (zag p)] (zaC (zai g p)):=by
 refine pF Tryz.func97 ?_;have hE:=zus g hg p hp;have hD:=zBd g hg p hp;have hdl:=zpc hg hp;have hdo:=λ q hq=>((zxP hg hp) q hq).1.fits hg;have hol:=zyU hg hp;have hoo:=λ o ho=>((zCw hg hp) o ho).1.fits hg;have hS:ztr Tryz.prog 150 [.agg (zad g), .agg (zag p)] (λ n=>zH9 n) (λ n=>zH8 g p n) 2:=zwC g p;have hQ:=zH7 g hg p hp;simp only [zH9,zH8] at hS;have e2:=zB8 g p;have hMv:zai g p=if 0<=zbi g p then [] else zaS zbp (zfY g p):=rfl
 have hML:zfY g p=((zgt g p).filter λ o=> !zff g p||o.took).map (·.pos)++(if zff g p then [] else zc8 g p):=rfl;have hMu:zff g p=(g.must && (zgt g p).any (·.took)):=rfl;rw [e2] at hE;rw [hMv];generalize zbi g p=ep at *;generalize (zfs g p).1=ev1 at *;generalize zgt g p=outs at *;generalize zc8 g p=drops at *;generalize zff g p=must at *;generalize zfY g p=mvl at *;clear hMv e2;refine J0 ?_;refine aP hE ?_;refine J0 ?_;refine zNX (λ he=> ?_) (λ he=> ?_)<;>simp at he
 ·rw [if_pos he];exact K0
 ·rw [if_neg aa];refine Jg0 ?_;refine zN1 hS ae ?_;refine Jg0 ?_;refine znP.mk [.fp (zag p), .fp (zad g)] (zhF _ [4,5]) hQ (zi2 _ _) ?_ ae (by simp [zEZ]) ?_
  ·refine zaL.cons (.frzP rfl ?_ ?_ ?_ ?_) (zaL.cons (.frzP rfl ?_ ?_ ?_ ?_) .nil)<;>first|exact zaL.refl _ _ _ _|simp [zhF,zkt,upd]
  obtain ⟨al,hal⟩:∃al:Nat->List zae,al=λ k=>(outs.take k).map (·.pos):=⟨_,rfl⟩
  obtain ⟨tk,htk⟩:∃tk:Nat->List zae,tk=λ k=>((outs.take k).filter (·.took)).map (·.pos):=⟨_,rfl⟩
  have hall:∀k,(al k).length<=7200000000:=λ k=>af;have htkl:∀k,(tk k).length<=7200000000:=λ k=>af;have hals:∀k,k<outs.length->al (k+1)=al k++ [(nth outs k).pos]:=λ k hk=>c8;have htks:∀k,k<outs.length->tk (k+1)=if (nth outs k).took=true then tk k++ [(nth outs k).pos] else tk k:=λ k hk=>by
   grind [List.take_add_one,nth]
  have hal0:al 0= []:=af;have htk0:tk 0= []:=af;have halE:al outs.length=outs.map (·.pos):=af;have htkE:tk outs.length=(outs.filter (·.took)).map (·.pos):=af;clear hal htk;refine Fgt.to (zOo (α:=Nat) (λ k=>([(2, .ref 0 0 9 0 0),(3, .ref 1 0 5 0 0),(7, .ref 2 0 1 0 0),(8, .ref 3 0 1 0 0)], [(0, .rows true 0 9 [zad g]),(1, .rows true 0 5 [zag p]),(2, .rows true 0 1 [[.sl 6 (al k).length 5 0 (al k).length]]),(3, .rows true 0 1 [[.sl 7 (tk k).length 5 0 (tk k).length]]),
    (6, .rows true (al k).length 5 ((al k).map zag)),(7, .rows true (tk k).length 5 ((tk k).map zag))],8))
   (λ rows k=>rows=(outs.drop k).map zEZ∧k<=outs.length) ?_ ?_ _ 0 ?_) ?_ ?_
  ·rintro k ⟨i1,i2⟩;have hk:k=outs.length:=by
    have:=congrArg List.length i1;grind
   subst hk;refine ⟨rfl, ?_⟩;have hmu:must=(g.must && decide (0<(tk outs.length).length)):=by
    grind [zF1]
   have hft:∀q ∈ tk outs.length,zbc q:=λ q hq=>by
    grind
   have hfa:∀q ∈ al outs.length,zbc q:=λ q hq=>by
    grind
   have hla:=hall outs.length;have hlt:=htkl outs.length;by_cases hm:must=true
   ·rw [hm] at hmu hML;have hgm:g.must=true:=af;have hpos:0<(tk outs.length).length:=af;have hpos':(0:Int)<(tk outs.length).length:=aa;have e:mvl=tk outs.length:=by rw [hML,htkE];simp
    rw [e];generalize tk outs.length=tks at *;have hS1:=zj9 tks aa hft;repeat first|refine wV λ _=>?_|simp [go_sem,GH,<- hmu]
    refine zN3 [7] hS1 ?_ (zxv (zcb _)) ?_
    ·(first|done|exact agX)
    ·exact Kg0
   ·have e:mvl=al outs.length++drops:=by
     grind [List.filter_eq_self]
    rw [e];have hS1:=zj9 (al outs.length++drops) af (λ q hq=>by
     grind)
    simp only [Bool.not_eq_true] at hm;rw [hm] at hmu;generalize al outs.length=als at *;generalize tk outs.length=tks at *;generalize zaS zbp (als++drops)=res at *;repeat first|refine wV λ _=>?_|simp [go_sem,GH,<- hmu]
    refine dP hD ?_;refine Jg0 ?_;refine zbV.frz [zaC (als++drops)] _ [6] [(6,some (.rows false (als.length+1) 5 ((als++drops).map zag)))] hS1 ?_ ?_ (zxv (zcb _)) ?_
    ·grind [upd]
    ·intro h₁ hS;have h6:=hS 6 ac;simp [upd] at h6;exact .cons (zaq h6.symm ac cy az) .nil
    ·exact Kg0
  ·rintro xs rs k ⟨i1,i2⟩ hrec;have hk:k<outs.length:=by
    grind
   rw [zaV hk,List.map_cons,List.cons.injEq] at i1;obtain ⟨rfl,rfl⟩:=i1;have hals:=hals k hk;have htks:=htks k hk;have h1:=hall k;have h2:=htkl k;obtain ⟨o,ho⟩:∃o,o=nth outs k:=⟨_,rfl⟩
   rw [<- ho] at hals htks ⊢;obtain ⟨op,ot⟩:=o;simp only at hals htks;generalize hrs:(outs.drop (k+1)).map zEZ=rs at *;refine zdV.go (Nat.zero_le _) ?_;repeat first|refine wV λ _=>?_|simp [go_sem,GH,zEZ]
   cases ot
   ·rw [if_neg ac] at htks;refine Jg0 ?_;refine Fgt.to (hrec (k+1) ⟨hrs.symm,aa⟩) ?_ ac;simp [go_sem,zaf,GH,hals,htks]
   ·rw [if_pos rfl] at htks;refine Jg0 ?_;refine Fgt.to (hrec (k+1) ⟨hrs.symm,aa⟩) ?_ ac;simp [go_sem,zaf,GH,hals,htks]
  ·grind
  ·simp [go_sem,zaf,hal0,htk0]
  ·simp
def zbo (g:zaa) (p:zae):Int×Bool:=if 0<=zbi g p then zfs g p else if zai g p= [] then (g.blocked,true) else (0,false)
theorem zzS (g:zaa) (hg:GOk g) (p:zae) (hp:POk g p):zav Tryz.prog 155 [.agg (zad g), .agg (zag p)] (.tup [.int (zbo g p).1, .v (.bool (zbo g p).2)]):=by
 refine pF Tryz.func155 ?_;have hE:=zus g hg p hp;have hM:=zhJ g hg p hp;have hS:zbo g p=if 0<=zbi g p then zfs g p else if zai g p= [] then (g.blocked,true) else (0,false):=rfl
 have e2:=zB8 g p;rw [hS];obtain ⟨ev,hev⟩:∃ev,ev=zfs g p:=⟨_,rfl⟩
 rw [<- hev] at hE e2 ⊢;obtain ⟨e1,b⟩:=ev;simp only at hE e2 ⊢;generalize zbi g p=ep at *;generalize zai g p=l at *;clear hS hev;subst e2;refine J0 ?_;refine aP hE ?_;refine J0 ?_;refine zNX (λ he=> ?_) (λ he=> ?_)<;>simp at he
 ·rw [if_pos he];exact K1 he
 ·rw [if_neg aa];refine J0 ?_;refine aP hM ?_;refine J0 ?_;by_cases hl:l= []
  ·subst hl;rw [if_pos rfl];exact K0
  ·rw [if_neg hl];have hl':¬(l.length:Int)=0:=by
    grind [List.length_pos_iff]
   exact K2 hl hl'
def zse (p:zae->Bool) (l:List zae):Int:=match l.findIdx? p with|some i=>(i:Int)|none=> -1
variable {known l now:List zae} {p:zae->Bool}
theorem zHp {j:Nat} (hj:j<l.length) (h:∀i,i<j->p (nth l i)=false) (hp:p (nth l j)=true):zse p l=j:=by
 have:l.findIdx? p=some j:=by
  grind [List.findIdx?_eq_some_iff_getElem,nth]
 simp [zse,this]
theorem zAA  (h:∀i,i<l.length->p (nth l i)=false):zse p l= -1:=by
 grind [List.getElem_of_mem,zse,nth]
theorem zD4 :decide (0<=zse p l)=l.any p:=by
 grind [zse]
theorem zq8 (l:List zae) (hl:l.length<=17179869184) (f:FuncId) (first caps:List AV) (p:zae->Bool) (hp:∀x ∈ l,zav Tryz.prog f (first++ .agg (zag x)::caps) (.v (.bool (p x)))) (hb:∀c ∈ first,Bel 0 c) (hb':∀c ∈ caps,Bel 0 c):
  zav Tryz.prog 254 [zaC l, .fn (.func f) first caps] (.int (zse p l)):=by
 refine pF Tryz.func254 ?_;simp [go_sem];refine zNW (zNY (α:=Nat) (λ j=>⟨[(0,zaC l),(1, .fn (.func f) first caps),(7, .int l.length),(8, .int j)], [],0⟩)
  (λ d j=>j+d=l.length∧(∀i<j,p (nth l i)=false)) ?_ l.length 0 ?_) ?_ ?_
 ·rintro d j ⟨i1,i2⟩ hrec;simp [go_sem];refine zNX (λ hj=> ?_) (λ hj=> ?_)
  ·simp at hj;simp [go_sem];refine zOg hj λ _=> ?_;simp [go_sem,hj];refine zN0 (hp _ (zah hj)) (λ c hc=>by
    rcases List.mem_append.1 hc with h|h
    ·grind
    ·rcases List.mem_cons.1 h with rfl|h
     ·exact of_eq_true ae
     grind) ?_
   simp [go_sem];refine zNX (λ h=> ?_) (λ h=> ?_)
   ·simp [go_sem,zHp hj i2 h]
   ·simp [go_sem];refine zOg aa λ _=> ?_;simp [go_sem];refine zNW (hrec (d - 1) aa (j+1) ⟨aa,λ i hi=> ?_⟩) ?_ ac
    ·grind
    ·simp [go_sem,zaf];grind
  ·simp at hj;simp [go_sem,zAA λ i hi=>i2 i aa]
 ·simp
 ·simp [go_sem,zaf];grind
 ·simp
theorem znJ (l:List zae) (hl:l.length<=17179869184) (f:FuncId) (first caps:List AV) (p:zae->Bool) (hp:∀x ∈ l,zav Tryz.prog f (first++ .agg (zag x)::caps) (.v (.bool (p x)))) (hb:∀c ∈ first,Bel 0 c) (hb':∀c ∈ caps,Bel 0 c):
  zav Tryz.prog 211 [zaC l, .fn (.func f) first caps] (.v (.bool (l.any p))):=by
 refine pF Tryz.func211 ?_;simp [go_sem];refine zN0 (zq8 l hl f first caps p hp hb hb') (by simp [go_sem];grind) ?_;simp [go_sem,zD4]
def addK (known nx:List zae) (q:zae):List zae:=if q ∈ known++nx then nx else nx++ [q]
def zcB (g:zaa) (known now:List zae):List zae:=(now.flatMap (zai g)).foldl (addK known) []
theorem znQ (known:List zae):∀ (l nx:List zae) (q:zae),q ∈ l.foldl (addK known) nx↔q ∈ nx∨q ∈ l∧q ∉ known
 | [],nx,q=>ac
 |r::l,nx,q=>by
  rw [List.foldl_cons,znQ known l];unfold addK;by_cases hr:r ∈ known++nx
  ·rw [if_pos hr];rw [List.mem_append] at hr;constructor
   ·rintro (h|⟨h1,h2⟩)
    ·exact .inl h
    ·exact .inr ⟨List.mem_cons_of_mem _ h1,h2⟩
   ·rintro (h|⟨h1,h2⟩)
    ·exact .inl h
    ·rcases List.mem_cons.1 h1 with rfl|h1
     ·rcases hr with hr|hr
      ·exact absurd hr h2
      ·exact .inl hr
     ·exact .inr ⟨h1,h2⟩
  ·rw [if_neg hr];rw [List.mem_append,not_or] at hr;constructor
   ·rintro (h|⟨h1,h2⟩)
    ·rcases List.mem_append.1 h with h|h
     ·exact .inl h
     ·simp only [List.mem_singleton] at h;subst h;exact .inr ⟨ac,hr.1⟩
    ·exact .inr ⟨List.mem_cons_of_mem _ h1,h2⟩
   ·rintro (h|⟨h1,h2⟩)
    ·exact .inl (List.mem_append.2 (.inl h))
    ·rcases List.mem_cons.1 h1 with rfl|h1
     ·exact .inl ac
     ·exact .inr ⟨h1,h2⟩
theorem zlm (known:List zae):∀ (l nx:List zae),nx.Nodup->(l.foldl (addK known) nx).Nodup
 | [],nx,h=>h
 |r::l,nx,h=>by
  rw [List.foldl_cons];refine zlm known l _ ?_;unfold addK;split
  ·exact h
  ·rename_i hr;rw [List.mem_append,not_or] at hr;refine List.nodup_append.2 ⟨h,ac, ?_⟩;intro a ha b hb e;simp only [List.mem_singleton] at hb;subst hb;subst e;exact hr.2 ha
variable {g:zaa}
theorem zl1 {q:zae}:q ∈ zcB g known now↔(∃r ∈ now,q ∈ zai g r)∧q ∉ known:=by
 grind [zcB,znQ]
theorem zAW (g:zaa) (known now:List zae):(zcB g known now).Nodup:=zlm known _ [] ac
theorem zAL  (h:known.Nodup):(known++zcB g known now).Nodup:=
 List.nodup_append.2 ⟨h,zAW g known now,λ a ha b hb e=>(zl1.1 hb).2 (e▸ha)⟩
theorem zKR  (hg:GOk g) (hn:∀p ∈ now,POk g p):∀q ∈ zcB g known now,POk g q:=λ q hq=>by
 obtain ⟨⟨r,hr,hm⟩, _⟩:=zl1.1 hq;exact (zaE hg (hn r hr) q hm).1
structure zc6 (g:zaa) (known now:List zae):Prop where
 nd:known.Nodup
 sub:∀q ∈ now,q ∈ known
 inc:Inc now
 ok:∀q ∈ known,POk g q
theorem zOi {p:zae} (hp:POk g p):zc6 g [p] [p]:=
 ⟨ac,λ q hq=>hq,cu,λ q hq=>af⟩
theorem zc6.next  (hg:GOk g) (h:zc6 g known now):zc6 g (known++zcB g known now) (zaS zbp (zcB g known now)):=
 ⟨zAL h.nd,λ q hq=>List.mem_append.2 (.inr (zal.1 hq)),zbw zaK _,λ q hq=>by
  rcases List.mem_append.1 hq with hq|hq
  ·exact h.ok q hq
  ·exact zKR hg (λ r hr=>h.ok r (h.sub r hr)) q hq⟩
theorem zw3 (l:List zae) (hi:Inc l) (hl:l.length<=17179869184) (hf:∀q ∈ l,zbc q) (p:zae) (hp:zbc p):
  zav Tryz.prog 157 [zaC l, .agg (zag p), .fn (.func 158) [] []] (.tup [.int (zwZ l p), .v (.bool (decide (p ∈ l)))]):=by
 refine pF Tryz.func157 ?_;have hle:=zHM l p;have hmem:=zCp hi p;have hiff:=λ h hn=>zCo hi p (h:=h) hn;generalize zwZ l p=w at *;refine J0 ?_;refine zNW (zNY (α:=Nat×Nat) (λ a=>⟨[(0,zaC l),(2, .fn (.func 158) [] []),(4, .ref 0 0 5 0 0),(8, .int l.length),(9, .int a.1),(10, .int a.2)], [(0, .rows true 0 5 [zag p])],1⟩)
  (λ d a=>a.2 - a.1<=d∧a.1<=w∧w<=a.2∧a.2<=l.length) ?_ l.length (0,l.length) ?_) ?_ ?_
 ·rintro d ⟨i,j⟩ ⟨i1,i2,i3,i4⟩ hrec;simp only at i1 i2 i3 i4;have hdiv:((i:Int)+j).fdiv 2=((i+j) / 2:Nat):=af;refine J0 ?_;refine zNX (λ hlt=> ?_) (λ hlt=> ?_)<;>simp at hlt
  ·have hm:(i+j) / 2<l.length:=by omega
   have hm2:i<=(i+j) / 2∧(i+j) / 2<j:=aa;generalize hmid:(i+j) / 2=mid at *;refine J2 hdiv hm ?_;refine dP (zdO (nth l mid) p (hf _ (zah hm)) hp) ?_;have hi2:=hiff mid hm;generalize zbp (nth l mid) p=c at *;refine J0 ?_;refine zNX (λ hc=> ?_) (λ hc=> ?_)<;>simp at hc
   ·have:=hi2.1 hc;refine J0 ?_;refine zNW (hrec (d - 1) aa (mid+1,j) ⟨aa,aa,aa,aa⟩) ?_ ac;simp [go_sem,zaf]
   ·have:¬mid<w:=λ h=>by omega
    refine J0 ?_;refine zNW (hrec (d - 1) aa (i,mid) ⟨aa,aa,aa,aa⟩) ?_ ac;simp [go_sem,zaf]
  ·obtain rfl:i=w:=by omega
   by_cases hw:i<l.length
   ·have hC:=zdO (nth l i) p (hf _ (zah hw)) hp;have e:decide (p ∈ l)=decide (zbp (nth l i) p=0):=by
     rw [decide_eq_decide,hmem,zaK.eq];grind
    rw [e];generalize zbp (nth l i) p=c at *;refine J1 hw ?_;refine zN2 _ (λ _=>hC) ae ?_;exact K1 hw
   ·have e:decide (p ∈ l)=false:=decide_eq_false λ h=>hw (hmem.1 h).1;rw [e];refine J1 hw ?_;refine dGC.skip (.int 0) ?_;exact K1 hw
 ·omega
 ·simp [go_sem,zaf]
 ·simp
theorem zEM (l:List zae) (hi:Inc l) (hl:l.length<=17179869184) (hf:∀q ∈ l,zbc q) (p:zae) (hp:zbc p):
  zav Tryz.prog 101 [zaC l, .agg (zag p)] (.int (zqL l p)):=by
 refine pF Tryz.func101 ?_;have hB:=zw3 l hi hl hf p hp;rw [zKm hi];refine J0 ?_;refine aP hB ?_;refine J0 ?_;by_cases h:p ∈ l
 ·rw [if_pos h];exact K1 h
 ·rw [if_neg h];exact K1 h
theorem zAJ (p:zae):(zld p).data.toList=(zwX p).map λ n=>UInt8.ofNat n.toNat:=by
 grind [zld,zmk]
theorem zom  (hg:GOk g){a b:zae} (ha:POk g a) (hb:POk g b) (h:zld a=zld b):a=b:=by
 have h2:zwX a=zwX b:=zpt (zrt hg ha) (zrt hg hb) (by grind [zAJ]);have a1:=ha.al;have b1:=hb.al;have a2:=ha.h0.len;have b2:=hb.h0.len;have a3:=ha.h1.len;have b3:=hb.h1.len;obtain ⟨pat,ph0,ph1,pr,ps⟩:=a;obtain ⟨qat,qh0,qh1,qr,qs⟩:=b;simp only [zwX,List.append_assoc] at h2 a1 b1 a2 b2 a3 b3;obtain ⟨e3,h3⟩:=List.append_inj h2 aa;grind [List.append_inj]
def zpr (q:zae):List AV:= [.v (.string (zld q)), .v (.bool true)]
theorem zGn :(∀r ∈ l.map zpr,∀c ∈ r,Bel n c)=True:=by
 refine eq_true ?_;intro r hr c hc;obtain ⟨x, _,rfl⟩:=List.mem_map.1 hr;simp only [zpr,List.mem_cons,List.not_mem_nil,or_false] at hc;rcases hc with rfl|rfl<;>exact .v _
attribute [go_sem ↓] zGn
theorem zux (t:zae):∀ (next:List zae),(∀s ∈ next,zld t=zld s->t=s)->zct .string (.v (.string (zld t))) (next.map zpr)=some (if t ∈ next then some (.v (.bool true)) else none)
 | [], _=>by simp [zct]
 |s::next,h=>by
  rw [List.map_cons,zct];have e:zir .string (.v (.string (zld t))) (cel (zpr s) 0)=some (zld t==zld s):=rfl;rw [e,zjP];by_cases hk:zld t=zld s
  ·have:=h s ac hk;subst this;simp [zpr,cel]
  ·have hne:t≠s:=λ e=>hk (by rw [e]);rw [decide_eq_false hk];simp only;rw [zux t next (λ u hu=>h u dB)];simp [hne]
theorem zy2 (t:zae):∀ (next:List zae),(∀s ∈ next,zld t=zld s->t=s)->t ∉ next->zdv .string (.v (.string (zld t))) (.v (.bool true)) (next.map zpr)=some ((next++ [t]).map zpr)
 | [], _, _=>by simp [zdv,zpr]
 |s::next,h,hn=>by
  rw [List.map_cons,zdv];have e:zir .string (.v (.string (zld t))) (cel (zpr s) 0)=some (zld t==zld s):=rfl;rw [e,zjP];have hk:zld t≠zld s:=λ e=>hn (by rw [h s ac e];simp);rw [decide_eq_false hk];simp only;rw [zy2 t next (λ u hu=>h u dB) (λ hm=>hn (by simp [hm]))];simp
def rowL (x:List zae×Bool):List AV:= [zaC x.1, .v (.bool x.2)]
theorem zJX {L:List (List zae×Bool)}:(∀r ∈ L.map rowL,∀c ∈ r,Bel n c)=True:=by
 refine eq_true ?_;intro r hr c hc;obtain ⟨x, _,rfl⟩:=List.mem_map.1 hr;simp only [rowL,List.mem_cons,List.not_mem_nil,or_false] at hc;rcases hc with rfl|rfl
 ·exact of_eq_true zGf
 ·exact .v _
attribute [go_sem ↓] zJX
theorem ziq  (hg:GOk g){p:zae} (hp:POk g p):zav Tryz.prog 138 [.agg (zag p)] (.v (.string (zld p))):=by
 have:=hp.al;have:=hg.c9;have:=hg.k6;have:=hp.h0.len;have:=hp.h1.len;exact zBE p aa aa aa (zrt hg hp)
def encD (D:List (List zae)):List (List AV):=D.map λ l=> [zaC l]
theorem zJV {D:List (List zae)}:(∀r ∈ encD D,∀c ∈ r,Bel n c)=True:=by
 grind [zcb,encD]
attribute [go_sem ↓] zJV
@[go_sem] theorem encD_len (D:List (List zae)):(encD D).length=D.length:=by simp [encD]
def zMv (N:Nat) (G:List (List zae)) (m:Nat):List (List AV):=(List.range N).map λ j=>if m<=j then [zaC (nth G j)] else [AV.nils]
@[go_sem] theorem backR_len (N:Nat) (G:List (List zae)) (m:Nat):(zMv N G m).length=N:=by simp [zMv]
theorem zGh {N:Nat}{G:List (List zae)}{m:Nat}:(∀r ∈ zMv N G m,∀c ∈ r,Bel n c)=True:=by
 refine eq_true ?_;intro r hr c hc;obtain ⟨j, _,rfl⟩:=List.mem_map.1 hr;split at hc
 ·grind [zcb]
 ·simp only [List.mem_cons,List.not_mem_nil,or_false] at hc;subst hc;exact .v _
attribute [go_sem ↓] zGh
end Go.Av
end
section
open Go Go.Proofs
namespace Go.Av
section Ways
variable {g:zaa} (hg:GOk g) {p:zae} (hp:POk g p)
end Ways
end Go.Av
end
section
open Go Go.Proofs
namespace Go.Av
def mn (side kind:Int) (c:Int):Bool:=zk9 default side kind c
def cnt (l:List Int) (side kind:Int):Nat:=l.countP (mn side kind)
theorem zAQ (side kind:Int):mn side kind 0=false:=by
 grind [mn,zk9,zat]
theorem zGQ:∀ (l:List Int){i:Nat} (hi:i<l.length) (v side kind:Int),cnt (l.set i v) side kind+(if mn side kind (nth l i) then 1 else 0)=cnt l side kind+(if mn side kind v then 1 else 0)
 | [],i,hi, _, _, _=>by simp at hi
 |a::l,0, _,v,side,kind=>by
  grind [cnt,nth]
 |a::l,i+1,hi,v,side,kind=>by
  grind [cnt,nth]
variable {side:Int}
theorem mn_foe {c kind:Int} (h:(zat c).2≠side):mn side kind c=false:=by
 grind [mn,zk9]
theorem mn_any {c:Int} (h:(zat c).2=side) (h0:0<=(zat c).1):mn side (-1) c=true:=by
 grind [mn,zk9]
structure zFL (a:List Int) (side:Int) (l:List Int):Prop where
 len:l.length=a.length
 own:cnt l side (-1)+1=cnt a side (-1)
 foe:∀k,cnt l (1 - side) k<=cnt a (1 - side) k
variable {i j:Nat} {a l:List Int}
theorem zOI  (hi:i<a.length) (h0:0<=(zat (nth a i)).1) (h:(zat (nth a i)).2=side):zFL a side (a.set i 0):=by
 refine ⟨ac, ?_,λ k=> ?_⟩;all_goals grind [zAQ,mn_any,cnt,nth]
theorem zFL.take  (h:zFL a side l) (hi:i<l.length) (hs:(zat (nth l i)).2≠side):zFL a side (l.set i 0):=by
 refine ⟨by simpa using h.len, ?_,λ k=> ?_⟩
 ·have:=zGQ l hi 0 side (-1);rw [zAQ,mn_foe hs] at this;have:=h.own;omega
 ·have:=zGQ l hi 0 (1 - side) k;rw [zAQ] at this;have:=h.foe k;grind
theorem zB5  (hi:i<l.length) (hj:j<l.length) (h0:nth l j=0) (h1:nth l i≠0) (side kind:Int):cnt ((l.set j (nth l i)).set i 0) side kind=cnt l side kind:=by
 grind [nth,cnt]
theorem zFL.push  (h:zFL a side l) (hi:i<l.length) (hj:j<l.length) (h0:nth l j=0) (h1:nth l i≠0):zFL a side ((l.set j (nth l i)).set i 0):=
 ⟨by simpa using h.len,by rw [zB5 hi hj h0 h1];exact h.own,λ k=>by rw [zB5 hi hj h0 h1];exact h.foe k⟩
theorem zvg {s:StD}:∀ {l:List Int},∀t ∈ zb9 s l,t.p=s.p
 | [],t,h=>by simp [zb9] at h
 |c::l,t,h=>by
  rw [zb9,List.mem_cons] at h;rcases h with rfl|h
  ·rfl
  ·split at h
   ·exact zvg t h
   ·simp at h
theorem zFL.step {g:zaa} (hg:GOk g){s:StD} (hs:zjk g s) (h:zFL a s.p.side s.p.at_){x:Int×Int}:∀t ∈ zck g s x,zFL a s.p.side t.p.at_:=by
 intro t ht;have hal:=hs.p.al;have c0:=hs.c0;have c1:=hs.c1;have hcl:s.cursor.toNat<s.p.at_.length:=aa;unfold zck at ht;simp only at ht;repeat' split at ht
 ·grind [zcy]
 ·grind [zvg,zmf]
 ·grind [zcy]
 ·grind [zcy]
 ·grind [zcy]
 ·unfold zpK at ht;simp only at ht;split at ht
  ·simp at ht
  ·rename_i hm;have hm2:(zat (nth s.p.at_ s.cursor.toNat)).2≠s.p.side:=λ e=>hm (.inr e);have key:=h.take hcl hm2;grind [zae.withHand,clr]
 ·unfold zpB at ht;simp only at ht;split at ht
  ·simp at ht
  ·rename_i hm;simp only [not_or,Decidable.not_not,Int.not_lt] at hm;simp only [List.mem_singleton] at ht;subst ht;have hto:=ziJ hg.board s.p.side x.2 s.cursor;have e:g.board.cells=g.cells:=rfl;exact h.push hcl aa hm.2.2 hm.1
 all_goals grind [zcy]
def zd1 (l:List zae) (q:zae):List zae:=if q ∈ l then l else l++ [q]
def znU (g:zaa):Nat->Nat->List zae->List zae×Int
 |0, _, _=>([],2)
 |f+1,i,l=>if i<l.length then (if 4000<((zai g (nth l i)).foldl zd1 l).length then ([],2) else znU g f (i+1) ((zai g (nth l i)).foldl zd1 l)) else (zaS zbp l,0)
def zxo (g:zaa) (p:zae):List zae×Int:=znU g 4002 0 [p]
theorem zcZ:∀ (m l:List zae){q:zae},q ∈ m.foldl zd1 l↔q ∈ l∨q ∈ m
 | [],l,q=>ac
 |r::m,l,q=>by
  rw [List.foldl_cons,zcZ m];unfold zd1;split
  ·rename_i h;simp only [List.mem_cons];constructor
   ·rintro (h1|h1)
    ·exact .inl h1
    ·exact .inr (.inr h1)
   ·rintro (h1|rfl|h1)
    ·exact .inl h1
    ·exact .inl h
    ·exact .inr h1
  ·simp only [List.mem_append,List.mem_cons,List.not_mem_nil,or_false];exact or_assoc
theorem zhK:∀ (m l:List zae),l.Nodup->(m.foldl zd1 l).Nodup
 | [],l,h=>h
 |r::m,l,h=>by
  rw [List.foldl_cons];refine zhK m _ ?_;unfold zd1;split
  ·exact h
  ·rename_i hr;refine List.nodup_append.2 ⟨h,ac, ?_⟩;intro a ha b hb e;simp only [List.mem_singleton] at hb;subst hb;subst e;exact hr ha
theorem ze4:∀ (m l:List zae),∃r,m.foldl zd1 l=l++r
 | [],l=>⟨[],ac⟩
 |x::m,l=>by
  rw [List.foldl_cons];obtain ⟨r,hr⟩:=ze4 m (zd1 l x);grind [zd1]
def ixP:List zae->zae->Nat
 | [], _=>0
 |x::l,q=>if x=q then 0 else ixP l q+1
theorem zbM:∀ {P:List zae}{q:zae},q ∈ P->ixP P q<P.length∧nth P (ixP P q)=q
 |x::l,q,h=>by
  rw [ixP];by_cases e:x=q
  ·rw [if_pos e];exact ⟨ac,e⟩
  ·rw [if_neg e];have hq:q ∈ l:=(List.mem_cons.1 h).resolve_left λ h=>e h.symm;obtain ⟨h1,h2⟩:=zbM hq;exact ⟨cX,h2⟩
theorem zmD:∀ {P:List zae}{q:zae} (r:List zae),q ∈ P->ixP (P++r) q=ixP P q
 |x::l,q,r,h=>by
  rw [List.cons_append,ixP,ixP];by_cases e:x=q
  ·rw [if_pos e,if_pos e]
  ·rw [if_neg e,if_neg e,zmD r ((List.mem_cons.1 h).resolve_left λ h=>e h.symm)]
theorem zHY {α:Type} [Inhabited α] {l:List α} (h:l.Nodup) (hi:i<l.length) (hj:j<l.length) (e:nth l i=nth l j):i=j:=by
 grind [List.pairwise_iff_getElem,nth]
variable {P:List zae}
theorem zHw  (hn:P.Nodup) (hi:i<P.length):ixP P (nth P i)=i:=by
 obtain ⟨h1,h2⟩:=zbM (zah hi);grind [zHY]
def zFx (P:List zae) (ms:List zae):List zae×List Nat:=ms.foldl (λ s q=>(zd1 s.1 q,s.2++ [ixP (zd1 s.1 q) q])) (P, [])
theorem zFV (P:List zae) (q:zae):q ∈ zd1 P q:=by
 grind [zd1]
theorem zsL:∀ (ms:List zae) (P:List zae) (o:List Nat) (r:List zae),ms.foldl (λ s q=>(zd1 s.1 q,s.2++ [ixP (zd1 s.1 q) q])) (P,o)=(ms.foldl zd1 P,o++ms.map (ixP (ms.foldl zd1 P++r)))
 | [],P,o,r=>ac
 |q::ms,P,o,r=>by
  rw [List.foldl_cons,List.foldl_cons];simp only;rw [zsL ms (zd1 P q) _ r,List.map_cons];obtain ⟨t,ht⟩:=ze4 ms (zd1 P q);have e:ixP (ms.foldl zd1 (zd1 P q)++r) q=ixP (zd1 P q) q:=by
   rw [ht,List.append_assoc];exact zmD _ (zFV P q)
  rw [e,List.append_assoc];rfl
theorem zH2 (ms P r:List zae):zFx P ms=(ms.foldl zd1 P,ms.map (ixP (ms.foldl zd1 P++r))):=by
 grind [zFx,zsL]
def zbe (g:zaa) (limit:Nat):Nat->Nat->List zae->List (List Nat)->List (List Nat)->Option (List zae×List (List Nat)×List (List Nat))
 |0, _, _, _, _=>none
 |f+1,i,P,L,R=>
  if i<P.length then
   (if limit<((zbP g (nth P i) 1).foldl zd1 ((zbP g (nth P i) 0).foldl zd1 P)).length then none
   else zbe g limit f (i+1) ((zbP g (nth P i) 1).foldl zd1 ((zbP g (nth P i) 0).foldl zd1 P)) (L++ [(zFx P (zbP g (nth P i) 0)).2]) (R++ [(zFx ((zbP g (nth P i) 0).foldl zd1 P) (zbP g (nth P i) 1)).2]))
  else some (P,L,R)
structure zwW (g:zaa) (P:List zae) (L R:List (List Nat)) (k:Nat):Prop where
 nd:P.Nodup
 l:L.length=k
 r:R.length=k
 mem:∀i,i<k->∀s:Int,s=0∨s=1->∀q ∈ zbP g (nth P i) s,q ∈ P
 ol:∀i,i<k->nth L i=(zbP g (nth P i) 0).map (ixP P)
 or:∀i,i<k->nth R i=(zbP g (nth P i) 1).map (ixP P)
theorem zqY {α:Type} [Inhabited α] {l:List α}{x:α}:nth (l++ [x]) i=if i<l.length then nth l i else if i=l.length then x else default:=by
 grind [nth]
theorem zwW.step {g:zaa}{L R:List (List Nat)}{k:Nat} (h:zwW g P L R k) (hk:k<P.length):
  zwW g ((zbP g (nth P k) 1).foldl zd1 ((zbP g (nth P k) 0).foldl zd1 P)) (L++ [(zFx P (zbP g (nth P k) 0)).2]) (R++ [(zFx ((zbP g (nth P k) 0).foldl zd1 P) (zbP g (nth P k) 1)).2]) (k+1):=by
 obtain ⟨r1,e1⟩:=ze4 (zbP g (nth P k) 0) P;obtain ⟨r2,e2⟩:=ze4 (zbP g (nth P k) 1) ((zbP g (nth P k) 0).foldl zd1 P);have hl:=h.l;have hr:=h.r;have hP:(zbP g (nth P k) 1).foldl zd1 ((zbP g (nth P k) 0).foldl zd1 P)=P++(r1++r2):=af;have hm1:∀q ∈ zbP g (nth P k) 0,q ∈ (zbP g (nth P k) 1).foldl zd1 ((zbP g (nth P k) 0).foldl zd1 P):=λ q hq=>(zcZ _ _).2 (.inl ((zcZ _ _).2 (.inr hq)));have hm2:∀q ∈ zbP g (nth P k) 1,q ∈ (zbP g (nth P k) 1).foldl zd1 ((zbP g (nth P k) 0).foldl zd1 P):=λ q hq=>(zcZ _ _).2 (.inr hq);have o1:(zFx P (zbP g (nth P k) 0)).2=(zbP g (nth P k) 0).map (ixP ((zbP g (nth P k) 1).foldl zd1 ((zbP g (nth P k) 0).foldl zd1 P))):=by grind [zH2]
 have o2:(zFx ((zbP g (nth P k) 0).foldl zd1 P) (zbP g (nth P k) 1)).2=(zbP g (nth P k) 1).map (ixP ((zbP g (nth P k) 1).foldl zd1 ((zbP g (nth P k) 0).foldl zd1 P))):=by rw [zH2 _ _ [],List.append_nil]
 have hnd:=zhK (zbP g (nth P k) 1) _ (zhK (zbP g (nth P k) 0) P h.nd);rw [o1,o2];generalize hG:(zbP g (nth P k) 1).foldl zd1 ((zbP g (nth P k) 0).foldl zd1 P)=G at *;have hnth:∀i,i<P.length->nth G i=nth P i:=λ i hi=>ax;have hix:∀q ∈ P,ixP G q=ixP P q:=λ q hq=>by grind [zmD]
 refine ⟨hnd,by simp [hl],cN,λ i hi s hs q hq=> ?_,λ i hi=> ?_,λ i hi=> ?_⟩
 ·rw [hnth i aa] at hq;by_cases e:i=k
  ·grind
  ·rw [hP];exact List.mem_append.2 (.inl (h.mem i aa s hs q hq))
 ·rw [hnth i aa,zqY];by_cases e:i=k
  ·grind
  ·rw [if_pos aa,h.ol i aa];exact List.map_congr_left λ q hq=>(hix q (h.mem i aa 0 (.inl rfl) q hq)).symm
 ·rw [hnth i aa,zqY];by_cases e:i=k
  ·grind
  ·rw [if_pos aa,h.or i aa];exact List.map_congr_left λ q hq=>(hix q (h.mem i aa 1 (.inr rfl) q hq)).symm
theorem zxY {g:zaa}{limit:Nat}{p0:zae}:∀ (f k:Nat){P:List zae}{L R:List (List Nat)},zwW g P L R k->k<=P.length->nth P 0=p0->P≠ []->∀ {P':List zae}{L' R':List (List Nat)},
  zbe g limit f k P L R=some (P',L',R')->zwW g P' L' R' P'.length∧nth P' 0=p0∧P'≠ []
 |0, _, _, _, _, _, _, _, _, _, _, _,h=>aV
 |f+1,k,P,L,R,hg,hk,h0,hne,P',L',R',h=>by
  rw [zbe] at h;split at h
  ·rename_i hlt;split at h
   ·cases h
   ·obtain ⟨r1,e1⟩:=ze4 (zbP g (nth P k) 0) P;obtain ⟨r2,e2⟩:=ze4 (zbP g (nth P k) 1) ((zbP g (nth P k) 0).foldl zd1 P);have hP:(zbP g (nth P k) 1).foldl zd1 ((zbP g (nth P k) 0).foldl zd1 P)=P++(r1++r2):=af;have hpos:=List.length_pos_iff.2 hne;refine zxY f (k+1) (hg.step hlt) ?_ ?_ ?_ h;all_goals grind [nth]
  grind
theorem zD1 (g:zaa) (p:zae):zwW g [p] [] [] 0:=⟨ac,rfl,rfl,λ i hi=>aa,λ i hi=>aa,λ i hi=>aa⟩
def zgq (L R:List (List Nat)):Nat->Nat->zab
 |0, _=> .zero
 |f+1,i=> .mk ((nth L i).map (zgq L R f)) ((nth R i).map (zgq L R f))
def lp (p:zae) (t:List zae):List zae:=p::t
theorem ziv (p:zae) (t:List zae):(lp p t).length=t.length+1:=rfl
theorem zuV (p:zae) (t:List zae) (q:zae):lp p (t++ [q])=lp p t++ [q]:=rfl
theorem zHN (p:zae):lp p []= [p]:=rfl
def znS (p:zae) (t:List zae) (q:zae):List zae:=if q ∈ lp p t then t else t++ [q]
theorem zFW (p:zae) (t:List zae) (q:zae):zd1 (lp p t) q=lp p (znS p t q):=by
 grind [zd1,znS,lp]
theorem zof (p:zae):∀ (m t:List zae),m.foldl zd1 (lp p t)=lp p (m.foldl (znS p) t)
 | [],t=>rfl
 |q::m,t=>by
  rw [List.foldl_cons,List.foldl_cons,zFW,zof p m]
theorem zuz (p:zae) (t l:List zae) (hj:j<l.length):(l.take (j+1)).foldl (znS p) t=znS p ((l.take j).foldl (znS p) t) (nth l j):=by
 grind [List.take_add_one,nth]
theorem zr7 (p:zae):∀ (m t:List zae),(m.foldl (znS p) t).length<=t.length+m.length
 | [],t=>ac
 |q::m,t=>by
  rw [List.foldl_cons];have h1:=zr7 p m (znS p t q);have h2:(znS p t q).length<=t.length+1:=by unfold znS;split<;>simp
  simp only [List.length_cons];omega
theorem zpj (p:zae):∀ (m t:List zae),t.length<=(m.foldl (znS p) t).length
 | [],t=>ac
 |q::m,t=>by
  rw [List.foldl_cons];have h1:=zpj p m (znS p t q);have h2:t.length<=(znS p t q).length:=by unfold znS;split<;>simp
  omega
theorem zlK (p:zae) (m t:List zae){q:zae}:q ∈ lp p (m.foldl (znS p) t)↔q ∈ lp p t∨q ∈ m:=by
 rw [<- zof,zcZ]
theorem zJk (g:zaa) (hg:GOk g) (p:zae) (hp:POk g p):zav Tryz.prog 99 [.agg (zad g), .agg (zag p)] (.tup [zaC (zxo g p).1, .int (zxo g p).2]):=by
 have hK0:=ziq hg hp;obtain ⟨R,hR⟩:∃R,R=zxo g p:=⟨_,rfl⟩
 rw [<- hR];have hR0:R=znU g 4002 0 (lp p []):=hR;clear hR;have hegl:(zad g).length=9:=rfl;have hegb:∀n,(∀c ∈ zad g,Bel n c)=True:=λ n=>ae;refine pF Tryz.func99 ?_;refine J0 ?_;refine aP hK0 ?_;repeat first|refine wV λ _=>?_|simp [go_sem,zdv]
 refine zNW (zNY (α:=Nat×List zae) (λ a=>⟨[(2, .ref 0 0 9 0 0),(6, .mp 2),(7, .sl 3 a.2.length 5 0 (a.2.length+1)),(8, .int a.1)], [(0, .rows true 0 9 [zad g]),(2, .rows true 0 2 ((lp p a.2).map zpr)),(3, .rows true a.2.length 5 ((lp p a.2).map zag))],4⟩)
  (λ d a=>a.1+d=4002∧a.2.length<=3999∧a.1<=a.2.length+1∧(∀q ∈ lp p a.2,POk g q)∧R=znU g d a.1 (lp p a.2)) ?_ 4002 (0, []) ?_) ?_ ?_
 rotate_left
 ·grind [lp]
 ·simp [go_sem,zaf,zHN,zpr]
 ·simp
 rintro d ⟨i,t⟩ ⟨i1,i2,i3,i4,i5⟩ hrec;simp only at i1 i2 i3 i4 i5;obtain ⟨d,rfl⟩:∃d',d=d'+1:=⟨d - 1,aa⟩
 have hl:=ziv p t;rw [znU,zof] at i5;refine J1 hl ?_;refine zNX (λ hi=> ?_) (λ hi=> ?_)<;>simp at hi
 ·have hil:i<(lp p t).length:=by omega
  rw [if_pos hil,ziv] at i5;have hp0:=i4 _ (zah hil);have hM:=zhJ g hg _ hp0;have hml:=zbf hg hp0;have hmo:=λ m hm=>(zaE hg hp0 m hm).1;generalize hn:nth (lp p t) i=p0 at *;generalize hmv:zai g p0=mv at *;obtain ⟨T,hT⟩:∃T:Nat->List zae,∀j,T j=(mv.take j).foldl (znS p) t:=⟨_,λ _=>rfl⟩
  have hT0:T 0=t:=af;have hTs:∀j,j<mv.length->T (j+1)=znS p (T j) (nth mv j):=λ j hj=>by grind [zuz]
  have hTn:T mv.length=mv.foldl (znS p) t:=af;have hTl:∀j,(T j).length<=3999+472446:=λ j=>by
   rw [hT];have h1:=zr7 p (mv.take j) t;have h2:(mv.take j).length<=mv.length:=af;omega
  have hTg:∀j,t.length<=(T j).length:=λ j=>by grind [zpj]
  have hTo:∀j,∀q ∈ lp p (T j),POk g q:=λ j q hq=>by
   grind [zlK]
  rw [<- hTn] at i5;clear hT;have hnm:nth ((lp p t).map zag) i=zag p0:=ax;refine J2 hl hnm ?_;refine dP hM ?_;refine J1 hl ?_;refine zNW (zNY (α:=Nat) (λ j=>⟨[(2, .ref 0 0 9 0 0),(6, .mp 2),(7, .sl 3 (T j).length 5 0 ((T j).length+1)),(8, .int i),(29,zaC mv),(30, .int mv.length),(31, .int j)], [(0, .rows true 0 9 [zad g]),(2, .rows true 0 2 ((lp p (T j)).map zpr)),(3, .rows true (T j).length 5 ((lp p (T j)).map zag))],4⟩)
   (λ d j=>j+d=mv.length) ?_ mv.length 0 ?_) ?_ ?_
  ·rintro d3 j j1 hrec3;refine J0 ?_;refine zNX (λ hj=> ?_) (λ hj=> ?_)<;>simp at hj
   ·have hqo:=hmo _ (zah hj);have hKq:=ziq hg hqo;have hTj:=hTs j hj;have hTb:=hTl j;have hin:∀u ∈ lp p (T j),zld (nth mv j)=zld u->nth mv j=u:=λ u hu e=>zom hg hqo (hTo j u hu) e;have hfind:=zux _ _ hin;have hput:=zy2 _ _ hin;unfold znS at hTj;generalize hq:nth mv j=q at *;generalize T j=tj at *;have hl2:=ziv p tj;have hla:=zuV p tj q;rw [<- hla] at hput;refine J2 hj hq ?_;refine aP hKq ?_;by_cases hmem:q ∈ lp p tj
    ·rw [if_pos hmem] at hTj hfind;refine J1 hfind ?_;refine zNW (hrec3 (d3 - 1) aa (j+1) aa) ?_ ac;simp [go_sem,zaf,hTj]
    ·rw [if_neg hmem] at hTj hfind;have hput:=hput hmem;refine J3 hfind hput hl2 ?_;refine zNW (hrec3 (d3 - 1) aa (j+1) aa) ?_ ac;simp [go_sem,zaf,hTj,hla];intro c hc;simp only [zpr,List.mem_cons,List.not_mem_nil,or_false] at hc;rcases hc with rfl|rfl<;>exact .v _
   ·obtain rfl:j=mv.length:=by omega
    have hb:=hTl mv.length;have ho:=hTo mv.length;have hgr:=hTg mv.length;generalize T mv.length=t2 at *;have hl2:=ziv p t2;refine J1 hl2 ?_;refine zNX (λ h4=> ?_) (λ h4=> ?_)<;>simp at h4
    ·rw [if_pos aa] at i5;rw [i5];exact K0
    ·rw [if_neg aa] at i5;refine J0 ?_;refine zNW (hrec d aa (i+1,t2) ⟨aa,af,af,ho,i5⟩) ?_ ac;simp [go_sem,zaf]
  ·simp
  ·simp [go_sem,zaf,hT0]
  ·simp
 ·rw [if_neg aa] at i5;have hSo:=zj9 (lp p t) aa (λ q hq=>(i4 q hq).fits hg);rw [i5];generalize lp p t=l at *;refine J1 hl ?_;rw [<- hl];refine zN3 [3] hSo ?_ (zxv (zcb _)) ?_
  ·(first|done|exact agX)
  ·exact K0
end Go.Av
end
section
open Go Go.Proofs
namespace Go.Av
open zab
def zaR (n:Nat):List AV:= [.int n]
def zaB (l:List Nat):AV:= .lst 1 (l.map zaR)
def zbD (l:List Nat):List AV:= [zaB l]
def zax (l:List (List Nat)):AV:= .lst 1 (l.map zbD)
theorem zfo (n:Nat) (l:List Nat):(∀r ∈ l.map zaR,∀c ∈ r,Bel n c)=True:=eq_true λ r hr c hc=>by
 obtain ⟨x, _,rfl⟩:=List.mem_map.1 hr;simp only [zaR,List.mem_singleton] at hc;subst hc;exact .v _
theorem zgm (n:Nat) (l:List Nat):Bel n (zaB l):= .lst (of_eq_true (zfo n l))
theorem zgN (n:Nat) (l:List (List Nat)):(∀r ∈ l.map zbD,∀c ∈ r,Bel n c)=True:=eq_true λ r hr c hc=>by
 grind [zbD,zgm]
theorem zlr (n:Nat) (l:List (List Nat)):Bel n (zax l):= .lst (of_eq_true (zgN n l))
theorem zjJ (n:Nat) (l:List (List Nat)):Bel n (zax l)=True:=eq_true (zlr n l)
theorem zz9 (n:Nat) (l:List Nat):Bel n (zaB l)=True:=eq_true (zgm n l)
attribute [go_sem ↓] zfo zgN zjJ zz9
variable {q:zae} {P:List zae}
theorem zys {j:Nat} (hj:j<P.length) (hq:nth P j=q) (hne:∀i,i<j->nth P i≠q):ixP P q=j:=by
 induction P generalizing j with
 |nil=>simp at hj
 |cons x l ih=>
  rw [ixP];cases j with
  |zero=>grind [nth]
  |succ j=>
   have h0:=hne 0 aa;grind [za6,nth]
theorem zAY  (hne:∀i,i<P.length->nth P i≠q):q ∉ P:=λ h=>by
 obtain ⟨h1,h2⟩:=zbM h;grind
theorem zwm  (h:q ∉ P):ixP (P++ [q]) q=P.length:=by
 refine zys ac ?_ λ i hi e=> ?_;all_goals grind [zqY,zah]
def grR (a l r:Nat) (t:List zae) (gl gr:Nat) (nl nr:Nat):List AV:= [.sl a t.length 5 0 (t.length+1), .sl l gl 1 0 nl, .sl r gr 1 0 nr, .bool false]
theorem zAu (p0:zae) (t:List zae) (hP:t.length<=1048576) (hf:∀q ∈ lp p0 t,zbc q) (Lr Rr:List (List AV)) (gl gr nl nr:Nat) (hL:∀r ∈ Lr,∀c ∈ r,Bel 0 c) (hR:∀r ∈ Rr,∀c ∈ r,Bel 0 c) (p:zae) (hp:zbc p) (t':List zae) (ht:znS p0 t (sdP p 0)=t'):
  zcj Tryz.prog 78 [.agg (grR 0 1 2 t gl gr nl nr), .agg (zag p)] [(0, .rows true t.length 5 ((lp p0 t).map zag)),(1, .rows true gl 1 Lr),(2, .rows true gr 1 Rr)] 3
   (.tup [.agg (grR 0 1 2 t' gl gr nl nr), .int (ixP (lp p0 t') (sdP p 0))]) [(0, .rows true t'.length 5 ((lp p0 t').map zag)),(1, .rows true gl 1 Lr),(2, .rows true gr 1 Rr)] 3:=by
 have hT:zav Tryz.prog 30 [.agg (zag p), .int 0] (.agg (zag (sdP p 0))):=zeK p hp 0;have hE:=zFW p0 t (sdP p 0);rw [ht] at hE;clear ht;obtain ⟨q,hq⟩:∃q,q=sdP p 0:=⟨_,rfl⟩
 have hqf:zbc q:=by rw [hq];exact hp
 rw [<- hq] at hT hE ⊢;clear hq;have hl:=ziv p0 t;have bL:∀n,(∀r ∈ Lr,∀c ∈ r,Bel n c)=True:=λ n=>eq_true λ r hr c hc=>(hL r hr c hc).mono (Nat.zero_le _);have bR:∀n,(∀r ∈ Rr,∀c ∈ r,Bel n c)=True:=λ n=>eq_true λ r hr c hc=>(hR r hr c hc).mono (Nat.zero_le _);unfold zcj;rw [grR];refine aF Tryz.func78 ?_;refine J1 hl ?_;refine aP hT ?_;refine J1 hl ?_;refine zNW (zNY (α:=Nat) (λ j=>⟨[(2, .ref 3 0 4 0 0),(4, .ref 5 0 4 0 0),(6, .ref 6 0 5 0 0),(7, .int j)],
   [(0, .rows true t.length 5 ((lp p0 t).map zag)),(1, .rows true gl 1 Lr),(2, .rows true gr 1 Rr),(3, .rows true 0 4 [[.sl 0 t.length 5 0 (t.length+1), .sl 1 gl 1 0 nl, .sl 2 gr 1 0 nr, .bool false]]),(5, .rows true 0 4 [[AV.nils,AV.nils,AV.nils, .bool false]]),(6, .rows true 0 5 [zag q])],7⟩)
  (λ d j=>j+d=t.length+1∧∀i,i<j->nth (lp p0 t) i≠q) ?_ (t.length+1) 0 ?_) ?_ ?_
 ·rintro d j ⟨i1,i2⟩ hrec;refine J1 hl ?_;refine zNX (λ hj=> ?_) (λ hj=> ?_)<;>simp at hj
  ·have hj':j<(lp p0 t).length:=by omega
   have hj2:j<t.length+1:=aa;have hC:=zcm (nth (lp p0 t) j) q (hf _ (zah hj')) hqf;refine J3 hj' hj2 hl ?_;refine dP hC ?_;refine J1 hl ?_;refine zNX (λ he=> ?_) (λ he=> ?_)<;>simp at he
   ·have he':nth (lp p0 t) j=q:=zh3.1 aa;have e1:zd1 (lp p0 t) q=lp p0 t:=if_pos (he'▸zah hj');have e2:ixP (lp p0 t) q=j:=zys hj' he' i2;obtain rfl:t=t':=by
     grind [lp]
    rw [e2,grR];refine J1 hl ?_;simp [go_sem,zaf,hl,bL,bR]
   ·have he':nth (lp p0 t) j≠q:=λ e=>he (by grind [zh3]);refine J1 hl ?_;refine zNW (hrec (d - 1) aa (j+1) ⟨aa,λ i hi=> ?_⟩) ?_ ac
    ·grind
    ·simp [go_sem,zaf,hl,bL,bR]
  ·obtain rfl:j=t.length+1:=by omega
   have hn:q ∉ lp p0 t:=zAY af;have e1:zd1 (lp p0 t) q=lp p0 t++ [q]:=if_neg hn;have e2:=zwm hn;rw [hl] at e2;obtain rfl:t++ [q]=t':=by
    grind [lp]
   rw [zuV,e2,grR];refine J1 hl ?_;have e5:(t.length:Int)+2 - 1=t.length+1:=aa;simp [go_sem,zaf,hl,bL,bR,e5]
 ·grind
 ·simp [go_sem,zaf,hl,bL,bR]
 ·simp
end Go.Av
end
