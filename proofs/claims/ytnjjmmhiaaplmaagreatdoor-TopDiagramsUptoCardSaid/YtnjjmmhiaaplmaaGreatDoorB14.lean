/- Texts of ours, part 14: our library and contracts of functions. -/
import Derived.Test.YtnjjmmhiaaplmaaGreatDoorB13
import Derived.Test.YtnjjmmhiaaplmaaGreatDoorChecked
import Derived.Shelf.GgClosure.StringsIndexFunc
import GoSem.ClaimJoined
import Derived.Test.YtnjjmmhiaaplmaaGreatDoorCards
import Derived.Test.YtnjjmmhiaaplmaaGreatDoorTie
import Derived.Deep.DeepHandedRow
import Derived.LaidHandle
import Derived.LaidMore
import Derived.OpenShut
import Derived.Test.YtnjjmmhiaaplmaaGreatDoorRows
set_option linter.unusedSimpArgs false
set_option linter.unusedVariables false
set_option maxRecDepth 100000
set_option maxHeartbeats 40000000
section
open Go Go.Proofs
namespace Go.Av
def zmz (n:Nat):AV:= .fn (.func 164) [] [.ref (n+2) 0 1 0 0, .ref (n+1) 0 5 0 0, .ref n 0 9 0 0]
def zmA (g:zab) (p:zaf) (l:List zc7) (n:Nat):List (Nat×zbp):= [(n, .rows true 0 9 [zac g]),(n+1, .rows true 0 5 [zae p]),(n+2, .rows true 0 1 [[zdi l]])]
theorem zj0 (g:zab) (p:zaf) (l:List zc7):zhb Tryz.prog 120 [.agg (zac g), .agg (zae p),zdi l] zmz (zmA g p l) 3:=by
 refine ⟨?_,fun n=>⟨by simp [go_sem,zmz],by simp [go_sem,zmA]⟩⟩
 refine aF Tryz.func120 ?_
 repeat first|refine wV fun _=>?_|simp [go_sem,zmz,zmA]
 simp [go_sem,zad]
theorem zty (g:zab) (hg:GOk g):∀ (n:Nat) (acts:List zc7) (p:zaf),acts.length=n→n≤1048576→POk g p→(∀a ∈ acts,zc3 g.cells g.kinds.length g.rights a)→
  zgA Tryz.prog 164 [.fp [zdi acts], .fp (zae p), .fp (zac g)] 0 ((zdx g p.side p acts.reverse).map za2):=by
 intro n
 induction n with
 |zero=>
  intro acts p hn _ hp _
  obtain rfl:=List.eq_nil_of_length_eq_zero hn
  refine zEz ai Tryz.func164 rfl rfl (Nat.le_of_ble_eq_true rfl) ai (fun l=> ?_) (hm2:=by decide)
  have e:(zdx g p.side p ([]:List zc7).reverse).map za2= [za2 p]:=rfl
  rw [e]
  refine Jg0 ?_
  refine zfn.mk (more:=0) (xs:=za2 p) (rs:= []) _ ay (.refl _) (.refl _ _ _ _) aU ?_ ?_
  ·exact Kg0
  ·exact Kg0
 |succ n ih=>
  intro acts p hn hn2 hp hacts
  obtain ⟨init,x,he⟩:∃init x,acts=init++ [x]:=by
   rcases List.eq_nil_or_concat acts with h|⟨i,x,h⟩
   ·rw [h] at hn;cases hn
   ·exact ⟨i,x,by rw [h,List.concat_eq_append]⟩
  have hin:init.length=n:=by rw [he,List.length_append,List.length_singleton] at hn;omega
  have hx:=hacts x (by rw [he];simp)
  have hacts':∀a ∈ init,zc3 g.cells g.kinds.length g.rights a:=fun a ha=>hacts a (by rw [he];simp [ha])
  have er:zdx g p.side p acts.reverse=(zgu g p.side p x).flatMap fun q=>zdx g p.side q init.reverse:=by rw [he,List.reverse_append];rfl
  have hnt:nth (acts.map zcC) n=zcC x:=by
   rw [za9 _ _ _ aa,zap _ _ aa]
   simp [he,← hin]
  have htk:(acts.map zcC).take n=init.map zcC:=by rw [he,List.map_append,List.take_left' (by simp [hin])]
  clear he
  have hU:zhb Tryz.prog 165 [.agg (zac g), .agg (zae p), .agg (zcC x)] (fun n=>zzN n) (fun n=>zzO g p x n) 3:=zzR g p x
  simp only [zzN,zzO] at hU
  have hQ:=zzS g hg p hp x hx
  have hok:=zuK hg hp.s hp hx
  have hAll:∀q,POk g q→zhb Tryz.prog 120 [.agg (zac g), .agg (zae q),zdi init] (fun n=>zmz n) (fun n=>zmA g q init n) 3:=fun q _=>zj0 g q init
  simp only [zmz,zmA] at hAll
  have hSeq:=fun (q:zaf) (hq:POk g q)=>ih init q hin aa hq hacts'
  refine zEz ai Tryz.func164 rfl rfl (Nat.le_of_ble_eq_true rfl) ai (fun l=> ?_) (hm2:=by decide)
  have hgh:∀ (n:Nat) (L:List zaf),Bel n (zaR l 0 (L.map za2))=True:=fun n (L:List zaf)=>eq_true zxI
  have hgh2:∀ (n:Nat) (a b:List zaf),Bel n (zaR l 0 (a.map za2++b.map za2))=True:=fun n a b=>by rw [← List.map_append];exact hgh n _
  have hegl:(zac g).length=9:=rfl
  have hegb:∀n,(∀c ∈ zac g,Bel n c)=True:=fun n=>ae
  rw [er]
  generalize zgu g p.side p x=qs at *
  have hlt:n<acts.length:=aa
  have hzero:((n:Int)+1=0)=False:=eq_false aa
  (repeat (first|with_reducible (first|refine wL fun _=>?_|refine wD fun _=>?_|refine wE ?_)|simp [go_sem,GH,hn,hnt,hlt,hzero]))
  refine zrE.split 6 ?_
  refine Jg4 hn hnt hlt hzero ?_
  refine zEu hU ae ?_
  refine Jg0 ?_
  have hep:zae p= [zai p.at_,zai p.h0,zai p.h1, .int p.rights, .int p.side]:=rfl
  refine zdj.give [.fp (zcC x), .fp (zac g), .ref 0 0 5 0 0] (za6 _ [11,9]) 10 [zae p] hQ (zbf _ _) (by simp [za6,zbr,upd];rfl) (.refl _) ae ?_ (fun xs hx=>by obtain ⟨y, _,rfl⟩:=List.mem_map.1 hx;rfl) ?_
  ·simp only [ztH,zpD,zpC,and_true]
   refine ⟨.frzP rfl ?_ ?_ ?_ ?_, ?_, .frzP rfl ?_ ?_ ?_ ?_, ?_⟩<;>first|exact zav.refl _ _ _ _|(simp [za6,zbr,upd];done)|(simp [go_sem];done)
  ·refine Fgt.to (zEA (α:=List zaf) (fun qs=>([(1, .fp [zdi acts]),(3, .fp (zac g)),(4, .ref 0 0 1 0 0),(5, .ref 1 0 1 0 0),(1000000007,zaR l 0 ((qs.flatMap fun q=>zdx g p.side q init.reverse).map za2))], [(0, .rows true 0 1 [[.fn (.yield l) [] []]]),(1, .rows true 0 1 [[.int n]])],2))
    (fun rows qs=>rows=qs.map za2∧∀q ∈ qs,POk g q∧q.side=p.side) ?_ ?_ _ qs ?_) ?_ ?_
   ·rintro qs ⟨i1,i2⟩
    obtain rfl:qs= []:=by
     cases qs with
     |nil=>rfl
     |cons=>cases i1
    refine ⟨rfl, ?_⟩
    exact Kg0
   ·rintro xs rs qs ⟨i1,i2⟩ hrec
    obtain ⟨q,qs,rfl⟩:∃q t,qs=q::t:=by
     cases qs with
     |nil=>cases i1
     |cons q t=>exact ⟨q,t,rfl⟩
    rw [List.map_cons,List.cons.injEq] at i1
    obtain ⟨rfl,rfl⟩:=i1
    obtain ⟨hq,hqs⟩:=i2 q ad
    have hA:=hAll q hq
    have hS:=hSeq q hq
    rw [hqs] at hS
    rw [List.flatMap_cons]
    refine zEF (Nat.zero_le _) ?_
    (repeat (first|with_reducible (first|refine wL fun _=>?_|refine wD fun _=>?_|refine wE ?_)|simp [go_sem,GH,za2]))
    refine zrE.split 5 ?_
    have hcn:((n:Int)).toNat=n:=aa
    refine Jg3 hn htk hcn ?_
    refine zEu hA ae ?_
    refine Jg0 ?_
    refine zdj.mk [.fp [zdi init], .fp (zae q), .fp (zac g)] (za6 _ [9,10,11]) hS (zbf _ _) ?_ ae (fun xs hx=>by obtain ⟨y, _,rfl⟩:=List.mem_map.1 hx;rfl) ?_
    ·refine zav.cons (.frzP rfl ?_ ?_ ?_ ?_) (zav.cons (.frzP rfl ?_ ?_ ?_ ?_) (zav.cons (.frzP rfl ?_ ?_ ?_ ?_) .nil))<;>first|exact zav.refl _ _ _ _|(simp [za6,zbr,upd];done)
    generalize hrest:(qs.flatMap fun q=>zdx g p.side q init.reverse)=rest at *
    generalize zdx g p.side q init.reverse=ys at *
    refine Fgt.to (zEA (α:=List zaf) (fun ys=>([(1, .fp [zdi acts]),(3, .fp (zac g)),(4, .ref 0 0 1 0 0),(5, .ref 1 0 1 0 0),(1000000007,zaR l 0 ((ys++rest).map za2))], [(0, .rows true 0 1 [[.fn (.yield l) [] []]]),(1, .rows true 0 1 [[.int n]])],2))
     (fun rows ys=>rows=ys.map za2) ?_ ?_ _ ys rfl) ?_ ?_
    ·rintro ys i1
     obtain rfl:ys= []:=by
      cases ys with
      |nil=>rfl
      |cons=>cases i1
     refine ⟨rfl, ?_⟩
     refine Jg0 ?_
     refine Fgt.to (hrec qs ⟨rfl,fun z hz=>i2 z cU⟩) ?_ ad
     simp [go_sem,zad,hgh,GH,hrest]
    ·rintro xs rs ys i1 hrec2
     obtain ⟨y,ys,rfl⟩:∃q t,ys=q::t:=by
      cases ys with
      |nil=>cases i1
      |cons q t=>exact ⟨q,t,rfl⟩
     rw [List.map_cons,List.cons.injEq] at i1
     obtain ⟨rfl,rfl⟩:=i1
     rw [List.cons_append]
     refine zEF (Nat.le_refl _) ?_
     repeat first|refine wV fun _=>?_|simp [go_sem,GH,za2]
     refine zfn.mk (more:=0) (xs:=za2 y) (rs:=(ys++rest).map za2) _ (by simp [upd,GH];rfl) (.refl _) (.refl _ _ _ _) aU ?_ ?_
     ·refine Jg0 ?_
      refine Fgt.to (hrec2 ys rfl) ?_ ad
      simp [go_sem,zad,hgh,hgh2,GH]
     ·exact Kg0
    ·simp [go_sem,zad,hgh,hgh2,GH]
    ·simp
   ·exact ⟨rfl,hok⟩
   ·simp [go_sem,zad,hgh,GH]
   ·simp
def zpZ (n:Nat):AV:= .fn (.func 118) [] [.ref (n+1) 0 2 0 0, .ref (n+3) 0 1 0 0, .ref (n+2) 0 5 0 0, .ref n 0 9 0 0]
theorem zvt (g:zab) (c:zkD) (p:zaf) (hs:p.side=0∨p.side=1):zhb Tryz.prog 87 [.agg (zac g), .agg (zbO c), .agg (zae p)] zpZ (fun n=> [(n, .rows true 0 9 [zac g]),(n+1, .rows true 0 2 [zbO c]),(n+2, .rows true 0 5 [zae p]),(n+3, .rows true 0 1 [[.int (1 - p.side)]])]) 4:=by
 refine ⟨?_,fun n=>⟨by simp [go_sem,zpZ],ae⟩⟩
 refine aF Tryz.func87 ?_
 repeat first|refine wV fun _=>?_|simp [go_sem,zpZ]
 simp [go_sem,zad]

def cKd (g:zab) (sd:Int) (p:zaf) (k:Nat):List zaf:=((List.range g.kinds.length).drop k).flatMap (fun (k:Nat)=>(List.range g.cells.toNat).flatMap fun (c:Nat)=>(zbH g.board sd (nth g.kinds k).progs c).flatMap (zj8 g sd p k c))++zkZ g sd p
def cCl (g:zab) (sd:Int) (p:zaf) (k c:Nat):List zaf:=((List.range g.cells.toNat).drop c).flatMap (fun (c:Nat)=>(zbH g.board sd (nth g.kinds k).progs c).flatMap (zj8 g sd p k c))++cKd g sd p (k+1)
def cPt (g:zab) (sd:Int) (p:zaf) (k c i:Nat):List zaf:=((zbH g.board sd (nth g.kinds k).progs c).drop i).flatMap (zj8 g sd p k c)++cCl g sd p k (c+1)
theorem zhm {n j:Nat} (h:j<n):(List.range n).drop j=j::(List.range n).drop (j+1):=by
 rw [List.drop_eq_getElem_cons aK];simp
theorem cKd_go {g:zab}{sd:Int}{p:zaf}{k:Nat} (h:k<g.kinds.length):cKd g sd p k=cCl g sd p k 0:=by
 unfold cCl cKd
 rw [zhm h,List.flatMap_cons,List.append_assoc]
 rfl
theorem zDm {g:zab}{sd:Int}{p:zaf}:cKd g sd p g.kinds.length=zkZ g sd p:=by
 unfold cKd
 rw [List.drop_eq_nil_of_le ad]
 rfl
theorem cCl_go {g:zab}{sd:Int}{p:zaf}{k c:Nat} (h:c<g.cells.toNat):cCl g sd p k c=cPt g sd p k c 0:=by
 unfold cPt cCl
 rw [zhm h,List.flatMap_cons,List.append_assoc]
 rfl
theorem zDk {g:zab}{sd:Int}{p:zaf}{k:Nat}:cCl g sd p k g.cells.toNat=cKd g sd p (k+1):=by
 unfold cCl
 rw [List.drop_eq_nil_of_le ad]
 rfl
theorem cPt_go {g:zab}{sd:Int}{p:zaf}{k c i:Nat} (h:i<(zbH g.board sd (nth g.kinds k).progs c).length):cPt g sd p k c i=zj8 g sd p k c (nth (zbH g.board sd (nth g.kinds k).progs c) i)++cPt g sd p k c (i+1):=by
 unfold cPt
 rw [List.drop_eq_getElem_cons h,← zap _ _ h,List.flatMap_cons,List.append_assoc]
theorem zDn {g:zab}{sd:Int}{p:zaf}{k c:Nat}:cPt g sd p k c (zbH g.board sd (nth g.kinds k).progs c).length=cCl g sd p k (c+1):=by
 unfold cPt
 rw [List.drop_eq_nil_of_le (Nat.le_refl _)]
 rfl
def cDr (g:zab) (sd:Int) (p:zaf) (c:Nat):List zaf:=(((List.range p.at_.length).drop c).filter fun c=>decide ((zan (nth p.at_ c)).2=sd) && (nth g.kinds (zan (nth p.at_ c)).1.toNat).keep).map (zqR sd p)
theorem zAS (g:zab) (sd:Int) (p:zaf):cDr g sd p 0=zkZ g sd p:=rfl
theorem cDr_go {g:zab}{sd:Int}{p:zaf}{c:Nat} (h:c<p.at_.length):cDr g sd p c=if (zan (nth p.at_ c)).2=sd∧(nth g.kinds (zan (nth p.at_ c)).1.toNat).keep=true then zqR sd p c::cDr g sd p (c+1) else cDr g sd p (c+1):=by
 unfold cDr
 rw [zhm h,List.filter_cons]
 by_cases h1:(zan (nth p.at_ c)).2=sd∧(nth g.kinds (zan (nth p.at_ c)).1.toNat).keep=true
 ·rw [if_pos h1,if_pos (by simp [h1.1,h1.2])]
  rfl
 ·rw [if_neg h1,if_neg (by
   intro h2
   rw [Bool.and_eq_true,decide_eq_true_eq] at h2
   exact h1 h2)]
theorem zDl (g:zab) (sd:Int) (p:zaf):cDr g sd p p.at_.length= []:=by
 unfold cDr
 rw [List.drop_eq_nil_of_le ad]
 rfl
theorem zxT (g:zab) (hg:GOk g) (p:zaf) (hp:POk g p) (sd:Int) (hsd:sd=0∨sd=1):
  zgA Tryz.prog 118 [.fp (zbO (zcy g)), .fp [.int sd], .fp (zae p), .fp (zac g)] 0 ((zj7 g sd p++zkZ g sd p).map za2):=by
 refine zEz ai Tryz.func118 rfl rfl (Nat.le_of_ble_eq_true rfl) ai (fun l=> ?_) (hm2:=by decide)
 have hgh:∀ (n:Nat) (L:List zaf),Bel n (zaR l 0 (L.map za2))=True:=fun n (L:List zaf)=>eq_true zxI
 have hf:=hp.fits hg
 have hal:=hp.al
 have c9:=hg.c9
 have c1:=hg.c1
 have k6:=hg.k6
 obtain ⟨cn,hcn⟩:∃cn:Nat,cn=g.cells.toNat:=⟨_,rfl⟩
 have hF:=zqv hg
 have hegl:(zac g).length=9:=rfl
 have hegk:cel (zac g) 3= .lst 3 (g.kinds.map zaV):=rfl
 have hegb:∀n,(∀c ∈ zac g,Bel n c)=True:=fun n=>ae
 have hcl:(zbO (zcy g)).length=2:=rfl
 have hcs:cel ((zbO (zcy g)).drop sd.toNat) 0=zaI (zbM g sd):=by rcases hsd with rfl|rfl<;>rfl
 have hsl:(zbM g sd).length=g.kinds.length:=by
  rcases hsd with rfl|rfl
  ·exact hF.sh.l1
  ·exact hF.sh.l2
 have hz:zj7 g sd p++zkZ g sd p=cKd g sd p 0:=rfl
 rw [hz]
 have hecb:∀n,(∀c ∈ zbO (zcy g),Bel n c)=True:=fun n=>ae
 generalize zbO (zcy g)=ec at *
 obtain ⟨ck,hck⟩:∃ck:Nat→List (List AV),∀k,ck k=(nth (zbM g sd) k).map fun y=> [zc5 y]:=⟨_,fun _=>rfl⟩
 have hckl:∀k,k<g.kinds.length→(ck k).length=cn:=fun k hk=>by
  rw [hck,List.length_map]
  have hm:nth (zbM g sd) k ∈ (zcy g).1++(zcy g).2:=by
   have:=zag (l:=zbM g sd) (i:=k) aa
   rcases hsd with rfl|rfl
   ·exact List.mem_append_left _ this
   ·exact List.mem_append_right _ this
  rcases List.mem_append.1 hm with h|h
  ·have:=hF.sh.c1 _ h;omega
  ·have:=hF.sh.c2 _ h;omega
 have hckn:∀k,k<g.kinds.length→∀c,c<cn→nth (ck k) c= [.lst 2 ((zbH g.board sd (nth g.kinds k).progs c).map zaK)]:=fun k hk c hc=>by
  have h1:=hckl k hk
  rw [hck,List.length_map] at h1
  rw [hck,za9 _ _ _ aa,zro _ _ hk aa]
  rfl
 have hckb:∀k n,(∀r ∈ ck k,∀c ∈ r,Bel n c)=True:=fun k n=>eq_true fun r hr c hc=>by
  rw [hck] at hr
  obtain ⟨y, _,rfl⟩:=List.mem_map.1 hr
  simp only [List.mem_singleton] at hc
  subst hc
  simp [go_sem]
 have hsn:∀k,k<g.kinds.length→nth ((zbM g sd).map fun x=> [zbv x]) k= [.lst 1 (ck k)]:=fun k hk=>by rw [hck];exact za9 _ _ _ aa
 have hsl2:((zbM g sd).map fun x=> [zbv x]).length=g.kinds.length:=by rw [List.length_map];exact hsl
 obtain ⟨es,hes⟩:∃es,es=(zbM g sd).map fun x=> [zbv x]:=⟨_,rfl⟩
 have hcs':cel (ec.drop sd.toNat) 0= .lst 1 es:=by rw [hcs,hes];rfl
 have heb:∀n,(∀r ∈ es,∀c ∈ r,Bel n c)=True:=fun n=>eq_true fun r hr c hc=>by
  rw [hes] at hr
  obtain ⟨y, _,rfl⟩:=List.mem_map.1 hr
  simp only [List.mem_singleton] at hc
  subst hc
  simp [go_sem]
 rw [← hes] at hsn hsl2
 clear hcs hes hck hsl hF
 have hsd0:0≤sd:=aa
 have hsd2:sd<2:=aa
 have hsd3:sd.toNat≤2:=aa
 refine Jg3 hcl hcs' hsl2 ?_
 refine zEp (zEs (α:=Nat) (fun k=>⟨[(2, .fp [.int sd]),(3, .fp (zae p)),(4, .fp (zac g)),(5, .ref 0 0 1 0 0),(24, .lst 1 es),(25, .int g.kinds.length),(26, .int k),(1000000007,zaR l 0 ((cKd g sd p k).map za2))], [(0, .rows true 0 1 [[.fn (.yield l) [] []]])],1⟩)
  (fun d k=>k+d=g.kinds.length) ?_ g.kinds.length 0 ?_) ?_ ?_
 ·rintro d k k1 hrec
  refine Jg1 hsl2 ?_
  refine zEr (fun hk=> ?_) (fun hk=> ?_)<;>simp at hk
  ·have hsnk:=hsn k hk
   have hckl:=hckl k hk
   have hckn:=hckn k hk
   have hckb:=hckb k
   generalize ck k=ce at *
   rw [cKd_go hk]
   refine Jg4 hsl2 hk hsnk hckl ?_
   refine zEp (zEs (α:=Nat) (fun c=>⟨[(2, .fp [.int sd]),(3, .fp (zae p)),(4, .fp (zac g)),(5, .ref 0 0 1 0 0),(6, .ref 1 0 1 0 0),(24, .lst 1 es),(25, .int g.kinds.length),(26, .int k),(31, .lst 1 ce),(32, .int cn),(33, .int c),(1000000007,zaR l 0 ((cCl g sd p k c).map za2))],
     [(0, .rows true 0 1 [[.fn (.yield l) [] []]]),(1, .rows true 0 1 [[.int k]])],2⟩)
    (fun d c=>c+d=cn) ?_ cn 0 ?_) ?_ ?_
   ·rintro d2 c c1' hrec2
    refine Jg1 hckl ?_
    refine zEr (fun hc=> ?_) (fun hc=> ?_)<;>simp at hc
    ·have hcn2:=hckn c hc
     have hkm:=zag hk
     have hwok:=zgK hg (side:=sd) hkm (cell:=(c:Int)) ⟨aa,aa⟩
     have hlen:=zia hg sd hkm (c:Int)
     have hacl:=zi3 hg sd hkm (c:Int)
     have hmw:∀ {i:Nat},i<(zbH g.board sd (nth g.kinds k).progs c).length→nth (zbH g.board sd (nth g.kinds k).progs c) i ∈ zbH g.board sd (nth g.kinds k).progs c:=fun h=>zag h
     have hpg:=fun i h=>cPt_go (g:=g) (sd:=sd) (p:=p) (k:=k) (c:=c) (i:=i) h
     have hpe:=zDn (g:=g) (sd:=sd) (p:=p) (k:=k) (c:=c)
     rw [cCl_go aa]
     generalize zbH g.board sd (nth g.kinds k).progs c=pt at *
     refine Jg3 hckl hc hcn2 ?_
     refine zEp (zEs (α:=Nat) (fun i=>⟨[(2, .fp [.int sd]),(3, .fp (zae p)),(4, .fp (zac g)),(5, .ref 0 0 1 0 0),(6, .ref 1 0 1 0 0),(8, .ref 2 0 1 0 0),(24, .lst 1 es),(25, .int g.kinds.length),(26, .int k),(31, .lst 1 ce),(32, .int cn),(33, .int c),(38, .lst 2 (pt.map zaK)),(39, .int pt.length),(40, .int i),(1000000007,zaR l 0 ((cPt g sd p k c i).map za2))],
       [(0, .rows true 0 1 [[.fn (.yield l) [] []]]),(1, .rows true 0 1 [[.int k]]),(2, .rows true 0 1 [[.int c]])],3⟩)
      (fun d i=>i+d=pt.length) ?_ pt.length 0 ?_) ?_ ?_
     ·rintro d3 i i1 hrec3
      refine Jg0 ?_
      refine zEr (fun hi=> ?_) (fun hi=> ?_)<;>simp at hi
      ·have hw:=hwok _ (zag hi)
       have hgi:=za9 zaK pt i hi
       have hmw:=hmw hi
       have hpg:=hpg i hi
       unfold zj8 at hpg
       generalize nth pt i=w at *
       obtain ⟨hw1,hw2,hw3,hw4,hw5⟩:=hw
       have hto:w.to.toNat<p.at_.length:=aa
       have hto0:=hw1.1
       have hMa:=zf9 (nth p.at_ w.to.toNat)
       have hal2:w.acts.length≤1048576:=by have:=hacl w hmw;omega
       have hW:=zff p hf w.to 0 hto0 hto
       have hlf:POk g ⟨p.at_.set w.to.toNat 0,p.h0,p.h1,p.rights,sd⟩:=by
        have:=hp.setAt w.to.toNat (v:=0) aa
        exact ⟨this.al,this.av,this.h0,this.h1,this.r0,this.r1,hsd⟩
       generalize p.at_.set w.to.toNat 0=A at *
       have hA:zhb Tryz.prog 120 [.agg (zac g), .agg (zae ⟨A,p.h0,p.h1,p.rights,sd⟩),zdi w.acts] (fun n=>zmz n) (fun n=>zmA g ⟨A,p.h0,p.h1,p.rights,sd⟩ w.acts n) 3:=zj0 _ _ _
       have hS:=zty g hg w.acts.length w.acts _ rfl hal2 hlf hw2
       have hro:=zpp hg hsd hlf (l:=w.acts.reverse) (fun a ha=>hw2 a (List.mem_reverse.1 ha))
       simp only [zmz,zmA] at hA
       simp only at hS
       refine Jg4 hi hgi hto hto0 ?_
       refine aP hMa ?_
       generalize zan (nth p.at_ w.to.toNat)=m at *
       obtain ⟨m1,m2⟩:=m
       replace hpg:cPt g sd p k c i=(if m2=sd then _ else _)++ _:=hpg
       refine Jg0 ?_
       refine zEr (fun hne=> ?_) (fun hne=> ?_)<;>simp at hne
       ·rw [if_neg hne,List.nil_append] at hpg
        rw [hpg]
        refine Jg0 ?_
        refine zEp (hrec3 (d3 - 1) aa (i+1) aa) ?_ ad
        simp [go_sem,zad,GH,hgh,heb,hckb]
       ·subst hne
        rw [if_pos rfl] at hpg
        obtain ⟨fF,hfF⟩:∃fF:List zaf→List zaf,∀ys,fF ys=((ys.filter fun q=>decide (nth q.at_ c=0)).map fun q=>{ q with at_:=q.at_.set c (zal k m2)})++cPt g m2 p k c (i+1):=⟨_,fun _=>rfl⟩
        rw [← hfF] at hpg
        rw [hpg]
        refine Jg1 hto0 ?_
        refine aP hW ?_
        refine Jg0 ?_
        refine zEu hA ae ?_
        refine Jg0 ?_
        refine zdj.mk [.fp [zdi w.acts], .fp (zae ⟨A,p.h0,p.h1,p.rights,m2⟩), .fp (zac g)] (za6 _ [5,6,7]) hS (zbf _ _) ?_ ae (fun xs hx=>by obtain ⟨y, _,rfl⟩:=List.mem_map.1 hx;rfl) ?_
        ·refine zav.cons (.frzP rfl ?_ ?_ ?_ ?_) (zav.cons (.frzP rfl ?_ ?_ ?_ ?_) (zav.cons (.frzP rfl ?_ ?_ ?_ ?_) .nil))<;>first|exact zav.refl _ _ _ _|(simp [za6,zbr,upd];done)
        generalize zdx g m2 ⟨A,p.h0,p.h1,p.rights,m2⟩ w.acts.reverse=ys at *
        clear hS
        refine Fgt.to (zEA (α:=List zaf) (fun ys=>([(2, .fp [.int m2]),(3, .fp (zae p)),(4, .fp (zac g)),(5, .ref 0 0 1 0 0),(6, .ref 1 0 1 0 0),(8, .ref 2 0 1 0 0),(24, .lst 1 es),(25, .int g.kinds.length),(26, .int k),(31, .lst 1 ce),(32, .int cn),(33, .int c),(38, .lst 2 (pt.map zaK)),(39, .int pt.length),(40, .int i),(1000000007,zaR l 0 ((fF ys).map za2))],
          [(0, .rows true 0 1 [[.fn (.yield l) [] []]]),(1, .rows true 0 1 [[.int k]]),(2, .rows true 0 1 [[.int c]])],3))
         (fun rows ys=>rows=ys.map za2∧∀q ∈ ys,POk g q) ?_ ?_ _ ys ⟨rfl,fun q hq=>(hro q hq).1⟩) ?_ ?_
        ·rintro ys ⟨i1,i2⟩
         obtain rfl:ys= []:=by
          cases ys with
          |nil=>rfl
          |cons=>cases i1
         refine ⟨rfl, ?_⟩
         rw [show fF []=cPt g m2 p k c (i+1) from by rw [hfF];rfl]
         refine Jg0 ?_
         refine zEp (hrec3 (d3 - 1) aa (i+1) aa) ?_ ad
         simp [go_sem,zad,GH,hgh,heb,hckb]
        ·rintro xs rs ys ⟨i1,i2⟩ hrec4
         obtain ⟨y,ys,rfl⟩:∃q t,ys=q::t:=by
          cases ys with
          |nil=>cases i1
          |cons q t=>exact ⟨q,t,rfl⟩
         rw [List.map_cons,List.cons.injEq] at i1
         obtain ⟨rfl,rfl⟩:=i1
         have hy:=i2 y ad
         have hyl:=hy.al
         have hcy:c<y.at_.length:=aa
         have hCo:=za5 k m2
         have hWy:=zff y (hy.fits hg) c (zal k m2) aa (by rw [Int.toNat_natCast];exact hcy)
         rw [Int.toNat_natCast] at hWy
         have hfy:fF (y::ys)=if nth y.at_ c=0 then { y with at_:=y.at_.set c (zal k m2)}::fF ys else fF ys:=by
          rw [hfF,hfF,List.filter_cons]
          by_cases hz:nth y.at_ c=0
          ·rw [if_pos hz,if_pos bq]
           rfl
          ·rw [if_neg hz,if_neg bq]
         obtain ⟨Y,hY⟩:∃Y,Y={ y with at_:=y.at_.set c (zal k m2)}:=⟨_,rfl⟩
         rw [← hY] at hWy hfy
         generalize zal k m2=cd at *
         refine zEF (Nat.zero_le _) ?_
         by_cases hz:nth y.at_ c=0
         ·rw [if_pos hz] at hfy
          rw [hfy]
          (repeat (first|with_reducible (first|refine wL fun _=>?_|refine wD fun _=>?_|refine wE ?_)|simp [go_sem,GH,za2]))
          refine zrE.split 14 ?_
          refine Jg2 hcy hz ?_
          refine zEx (.int cd) (fun _=>hCo) ae ?_
          refine Jg1 hcy ?_
          refine zEx (.agg (zae Y)) (fun _=>hWy) ae ?_
          refine Jg0 ?_
          refine aGC.yld (more:=0) (xs:=za2 Y) (rs:=(fF ys).map za2) _ (by simp [upd,GH,za2,zae,zai]) (.refl _) (.refl _ _ _ _) aU ?_ ?_
          ·refine Jg0 ?_
           refine Fgt.to (hrec4 ys ⟨rfl,fun z hz=>i2 z cU⟩) ?_ ad
           simp [go_sem,zad,GH,hgh,heb,hckb]
          ·exact Kg0
         ·rw [if_neg hz] at hfy
          rw [hfy]
          (repeat (first|with_reducible (first|refine wL fun _=>?_|refine wD fun _=>?_|refine wE ?_)|simp [go_sem,GH,za2]))
          refine zrE.split 14 ?_
          refine Jg2 hcy hz ?_
          refine zEx (.int cd) (fun _=>hCo) ae ?_
          refine Jg1 hcy ?_
          refine zEx (.agg (zae Y)) (fun h=>by cases h) ae ?_
          refine Jg0 ?_
          refine aGC.skip (.v (.bool true)) ?_
          refine Jg0 ?_
          refine Fgt.to (hrec4 ys ⟨rfl,fun z hz=>i2 z cU⟩) ?_ ad
          simp [go_sem,zad,GH,hgh,heb,hckb]
        ·simp [go_sem,zad,GH,hgh,heb,hckb]
        ·simp
      ·obtain rfl:i=pt.length:=by omega
       rw [hpe]
       refine Jg0 ?_
       refine zEp (hrec2 (d2 - 1) aa (c+1) aa) ?_ ad
       simp [go_sem,zad,GH,hgh,heb,hckb]
     ·omega
     ·simp [go_sem,zad,GH,hgh,heb,hckb]
     ·simp
    ·obtain rfl:c=cn:=by omega
     rw [hcn,zDk]
     refine Jg0 ?_
     refine zEp (hrec (d - 1) aa (k+1) aa) ?_ ad
     simp [go_sem,zad,GH,hgh,heb]
   ·omega
   ·simp [go_sem,zad,GH,hgh,heb,hckb]
   ·simp
  ·obtain rfl:k=g.kinds.length:=by omega
   rw [zDm,← zAS]
   clear hrec heb hckb hckn hckl hsn hsl2 hcs'
   refine Jg0 ?_
   refine zEp (zEs (α:=Nat) (fun c=>⟨[(2, .fp [.int sd]),(3, .fp (zae p)),(4, .fp (zac g)),(5, .ref 0 0 1 0 0),(90,zai p.at_),(91, .int p.at_.length),(92, .int c),(1000000007,zaR l 0 ((cDr g sd p c).map za2))], [(0, .rows true 0 1 [[.fn (.yield l) [] []]])],1⟩)
    (fun d c=>c+d=p.at_.length) ?_ p.at_.length 0 ?_) ?_ ?_
   ·rintro d c c1' hrec
    refine Jg0 ?_
    refine zEr (fun hc=> ?_) (fun hc=> ?_)<;>simp at hc
    ·have hgo:=cDr_go (g:=g) (sd:=sd) (p:=p) hc
     have hv:=hp.at (i:=c) aa
     have hman:=zaO hv.1 hv.2 k6
     have hMa:=zf9 (nth p.at_ c)
     have hW:=zff p hf c 0 aa (by rw [Int.toNat_natCast];exact hc)
     rw [Int.toNat_natCast] at hW
     have hlp:zqR sd p c={(({ p with at_:=p.at_.set c 0}:zaf).withHand sd ((p.hand sd).set (zan (nth p.at_ c)).1.toNat (nth (p.hand sd) (zan (nth p.at_ c)).1.toNat+1))) with side:=sd}:=by
      rcases hsd with rfl|rfl<;>rfl
     rw [hlp] at hgo
     clear hlp
     have hfA:zaQ { p with at_:=p.at_.set c 0}:=⟨by simpa [zfR] using hf.1,hf.2⟩
     have hCt:=fun (kd:Int) h0 h1 h2=>zjF { p with at_:=p.at_.set c 0} hfA sd kd 1 hsd h0 h1 h2
     generalize p.at_.set c 0=A at *
     generalize zan (nth p.at_ c)=m at *
     obtain ⟨m1,m2⟩:=m
     refine Jg1 hc ?_
     refine aP hMa ?_
     replace hgo:cDr g sd p c=if m2=sd∧(nth g.kinds m1.toNat).keep=true then _ else _:=hgo
     by_cases hms:m2=sd
     ·subst hms
      simp only [Prod.mk.injEq] at hman
      obtain ⟨hm0,hmk⟩:0≤m1∧m1<g.kinds.length:=aa
      have hmk':m1.toNat<g.kinds.length:=aa
      have hgk:nth (g.kinds.map zaV) m1.toNat=zaV (nth g.kinds m1.toNat):=za9 _ _ _ hmk'
      by_cases hkp:(nth g.kinds m1.toNat).keep=true
      ·rw [if_pos ⟨rfl,hkp⟩] at hgo
       have hhl:=(hp.hand m2).len
       have hhv:=(hp.hand m2).v m1.toNat aa
       have hCt:=hCt m1 hm0 (by show m1.toNat<(p.hand m2).length;omega) (by
        show -1000≤nth (p.hand m2) m1.toNat+1∧nth (p.hand m2) m1.toNat+1≤1000
        omega)
       obtain ⟨Q,hQ⟩:∃Q,Q=(⟨A,p.h0,p.h1,p.rights,p.side⟩:zaf).withHand m2 ((p.hand m2).set m1.toNat (nth (p.hand m2) m1.toNat+1)):=⟨_,rfl⟩
       rw [← hQ] at hgo
       replace hCt:zaD Tryz.prog 121 [.agg (zae ⟨A,p.h0,p.h1,p.rights,p.side⟩), .int m2, .int m1, .int 1] (.agg (zae Q)):=by rw [hQ];exact hCt
       rw [hgo]
       refine Jg4 hm0 hmk' hgk hkp ?_
       refine dP hW ?_
       refine Jg0 ?_
       refine dP hCt ?_
       refine Jg0 ?_
       refine zfn.mk (more:=0) (xs:=za2 { Q with side:=m2}) (rs:=(cDr g m2 p (c+1)).map za2) _ ay (.refl _) (.refl _ _ _ _) aU ?_ ?_
       ·refine Jg0 ?_
        refine zEp (hrec (d - 1) aa (c+1) aa) ?_ ad
        simp [go_sem,zad,GH,hgh]
       ·exact Kg0
      ·rw [if_neg (fun h=>hkp h.2)] at hgo
       rw [hgo]
       refine Jg4 hm0 hmk' hgk hkp ?_
       refine zEp (hrec (d - 1) aa (c+1) aa) ?_ ad
       simp [go_sem,zad,GH,hgh]
     ·rw [if_neg (fun h=>hms h.1)] at hgo
      rw [hgo]
      simp only [Prod.mk.injEq] at hman
      have hmk':m1.toNat<g.kinds.length:=by have:=hg.k1;omega
      have hgk:nth (g.kinds.map zaV) m1.toNat=zaV (nth g.kinds m1.toNat):=za9 _ _ _ hmk'
      refine Jg2 hms hgk ?_
      refine zEp (hrec (d - 1) aa (c+1) aa) ?_ ad
      simp [go_sem,zad,GH,hgh]
    ·obtain rfl:c=p.at_.length:=by omega
     rw [zDl]
     exact Kg0
   ·omega
   ·simp [go_sem,zad,GH,hgh]
   ·simp
 ·omega
 ·simp [go_sem,zad,GH,hgh,heb]
 ·simp
theorem zwL {α:Type} [Inhabited α] {l:List α}{i:Nat} (h:i<l.length):l.take (i+1)=l.take i++ [nth l i]:=by
 rw [List.take_add_one,List.getElem?_eq_getElem h,zap _ _ h];rfl
theorem zmJ (l:List zaf) (hl:l.length≤17179869184) (f:FuncId) (caps:List AV) (C:zgA Tryz.prog f caps 0 (l.map za2)) (hb':∀c ∈ caps,Bel 0 c):
  zaD Tryz.prog 117 [AV.nils, .fn (.func f) [] caps] (zaC l):=by
 refine pF Tryz.func117 ?_
 have hbn:∀n,(∀c ∈ caps,Bel n c)=True:=fun n=>eq_true fun c hc=>(hb' c hc).mono (Nat.zero_le n)
 obtain ⟨tk,htk⟩:∃tk:Nat→List zaf,∀k,tk k=l.take k:=⟨_,fun _=>rfl⟩
 have htl:∀k,k≤l.length→(tk k).length=k:=fun k hk=>by rw [htk];simp;omega
 have hts:∀k,k<l.length→tk (k+1)=tk k++ [nth l k]:=fun k hk=>by rw [htk,htk];exact zwL hk
 have ht0:tk 0= []:=by rw [htk];rfl
 have hta:tk l.length=l:=by rw [htk,List.take_length]
 clear htk
 refine Jg0 ?_
 refine zdj.mk caps _ C (.refl _) (.refl _ _ _ _) hb' (fun xs hx=>by obtain ⟨y, _,rfl⟩:=List.mem_map.1 hx;rfl) ?_
 refine Fgt.to (zEA (α:=Nat) (fun k=>([(2, .ref 0 0 1 0 0)], [(0, .rows true 0 1 [[.sl 1 k 5 0 k]]),(1, .rows true k 5 ((tk k).map zae))],2))
  (fun rows k=>rows=(l.drop k).map za2∧k≤l.length) ?_ ?_ _ 0 ?_) ?_ ?_
 ·rintro k ⟨i1,i2⟩
  have hk:k=l.length:=by
   have:=congrArg List.length i1
   simp at this
   omega
  subst hk
  refine ⟨rfl, ?_⟩
  rw [hta]
  refine Jg0 ?_
  exact frX
 ·rintro xs rs k ⟨i1,i2⟩ hrec
  have hk:k<l.length:=by
   have:=congrArg List.length i1
   simp at this
   omega
  rw [zas hk,List.map_cons,List.cons.injEq] at i1
  obtain ⟨rfl,rfl⟩:=i1
  have hts:=hts k hk
  have hkl:=htl k i2
  generalize hrs:(l.drop (k+1)).map za2=rs at *
  refine zEF (Nat.zero_le _) ?_
  repeat first|refine wV fun _=>?_|simp [go_sem,GH,za2,hkl]
  refine Fgt.to (hrec (k+1) ⟨hrs.symm,aa⟩) ?_ ad
  simp [go_sem,zad,GH,hts,hkl]
 ·exact ⟨ad,aa⟩
 ·simp [go_sem,zad,GH,ht0]
 ·simp
theorem zpz (l:List zaf) (hl:l.length≤17179869184) (f:FuncId) (caps:List AV) (C:zgA Tryz.prog f caps 0 (l.map za2)) (hb':∀c ∈ caps,Bel 0 c):
  zaD Tryz.prog 86 [.fn (.func f) [] caps] (zaC l):=by
 refine pF Tryz.func86 ?_
 have hA:=zmJ l hl f caps C hb'
 have hbn:∀n,(∀c ∈ caps,Bel n c)=True:=fun n=>eq_true fun c hc=>(hb' c hc).mono (Nat.zero_le n)
 refine J0 ?_
 refine zEt hA (by simp [go_sem,hbn]) ?_
 exact K0
theorem SzP.fits {g:zab} (hg:GOk g){q:zaf} (h:SzP g q):zaQ q:=by
 have:=hg.c9
 have:=hg.k6
 obtain ⟨h1,h2,h3⟩:=h
 refine ⟨?_, ?_, ?_⟩<;>unfold zfR<;>omega
theorem zsq (g:zab) (hg:GOk g) (hs:zcx g) (p:zaf) (hp:POk g p):zaD Tryz.prog 45 [.agg (zac g), .agg (zbO (zcy g)), .agg (zae p)] (.tup [zaC (zj6 g p).1, .int (zj6 g p).2]):=by
 refine pF Tryz.func45 ?_
 have hO:zhb Tryz.prog 87 [.agg (zac g), .agg (zbO (zcy g)), .agg (zae p)] (fun n=>zpZ n) (fun n=> [(n, .rows true 0 9 [zac g]),(n+1, .rows true 0 2 [zbO (zcy g)]),(n+2, .rows true 0 5 [zae p]),(n+3, .rows true 0 1 [[.int (1 - p.side)]])]) 4:=zvt g (zcy g) p hp.s
 simp only [zpZ] at hO
 have hQ:=zxT g hg p hp (1 - p.side) (by have:=hp.s;omega)
 change zgA _ _ _ _ ((zdB g p).map za2) at hQ
 have hcl:=zvs hg hs hp
 have hsz:=(zAV hg hp).1
 have hCo:=zpz (zdB g p) aa _ _ hQ ae
 have hSo:=zc0 (zdB g p) aa (fun q hq=>(hsz q hq).fits hg)
 have hsl:(za3 zbi (zdB g p)).length≤35831817:=Nat.le_trans (zdz _ _) hcl
 have hszS:∀q ∈ za3 zbi (zdB g p),zaQ q:=fun q hq=>(hsz q (zaG.1 hq)).fits hg
 have hall:=zAJ g p
 have hbs:=fun i h=>zxA (g:=g) (p:=p) (l:=za3 zbi (zdB g p)) (i:=i) h
 have hb0:=zxB g p (za3 zbi (zdB g p))
 have hbl:=zAK g p (za3 zbi (zdB g p))
 have hV:=fun q hq=>zm9 g cM ⟨hg.r0,by have:=hg.r4;omega⟩ q (hszS q hq)
 have hL:=fun q (hq:zgl g q=true)=>ziG g hg q (zpi.1 hq) p (hp.fits hg)
 have hBe:zj6 g p=if 4000<(zdo g p).length then ([],2) else (zdo g p,0):=rfl
 rw [← hall] at hBe
 rw [hBe]
 clear hall hBe hsz
 generalize zxz g p (za3 zbi (zdB g p))=bI at *
 generalize za3 zbi (zdB g p)=S at *
 refine J0 ?_
 refine zEu hO ae ?_
 refine J0 ?_
 refine zEv [3,4,5,6] hCo ?_ ae ?_
 ·refine zav.cons (.fn .nil (zav.cons (.frzP rfl ?_ ?_ ?_ ?_) (zav.cons (.frzP rfl ?_ ?_ ?_ ?_) (zav.cons (.frzP rfl ?_ ?_ ?_ ?_) (zav.cons (.frzP rfl ?_ ?_ ?_ ?_) .nil))))) .nil<;>first|exact zav.refl _ _ _ _|(simp [za6,zbr,upd];done)
 refine J0 ?_
 refine aP hSo ?_
 refine J0 ?_
 refine zEp (zEs (α:=Nat) (fun i=>⟨[(3, .ref 0 0 9 0 0),(5, .ref 2 0 5 0 0),(8, .sl 7 (bI i).length 5 0 (bI i).length),(16,zaC S),(17, .int S.length),(18, .int i)], [(0, .rows true 0 9 [zac g]),(2, .rows true 0 5 [zae p]),(7, .rows true (bI i).length 5 ((bI i).map zae))],8⟩)
  (fun d i=>i+d=S.length) ?_ S.length 0 ?_) ?_ ?_
 ·rintro d i i1 hrec
  have hbli:=hbl i
  refine J0 ?_
  refine zEr (fun hi=> ?_) (fun hi=> ?_)<;>simp at hi
  ·have hVi:=hV _ (zag hi)
   have hLi:=hL (nth S i)
   have hbs:=hbs i hi
   have hbls:=hbl (i+1)
   have hgi:=za9 zae S i hi
   generalize nth S i=q at *
   generalize hok:zgl g q=ok at *
   refine J2 hi hgi ?_
   refine aP hVi ?_
   refine J0 ?_
   refine zEy (.v (.bool (decide (p ∈ zar g q)))) (fun h=>hLi h) ae ?_
   by_cases hm:p ∈ zar g q
   ·cases ok
    ·rw [if_neg ad] at hbs
     refine J1 hm ?_
     refine zEp (hrec (d - 1) aa (i+1) aa) ?_ ad
     simp [go_sem,zad,hbs]
    ·rw [if_pos ⟨rfl,hm⟩] at hbs
     refine J1 hm ?_
     refine zEp (hrec (d - 1) aa (i+1) aa) ?_ ad
     simp [go_sem,zad,hbs]
   ·rw [if_neg (fun h=>hm h.2)] at hbs
    cases ok
    ·refine J1 hm ?_
     refine zEp (hrec (d - 1) aa (i+1) aa) ?_ ad
     simp [go_sem,zad,hbs]
    ·refine J1 hm ?_
     refine zEp (hrec (d - 1) aa (i+1) aa) ?_ ad
     simp [go_sem,zad,hbs]
  ·obtain rfl:i=S.length:=by omega
   generalize bI S.length=bl at *
   refine J0 ?_
   refine zEr (fun hbig=> ?_) (fun hbig=> ?_)<;>simp at hbig
   ·rw [if_pos aa]
    exact K0
   ·rw [if_neg aa]
    refine J0 ?_
    exact frX
 ·omega
 ·simp [go_sem,zad,hb0]
 ·simp
theorem zw2 (g:zab) (hg:GOk g) (hs:zcx g) (p:zaf) (hp:POk g p):zaD Tryz.prog 17 [.agg (zac g), .agg (zae p)] (.tup [zaC (zj6 g p).1, .int (zj6 g p).2]):=by
 refine pF Tryz.func17 ?_
 have hC:=zfS g hg
 have hB:=zsq g hg hs p hp
 generalize zj6 g p=v at *
 generalize zcy g=cd at *
 refine J0 ?_
 refine dP hC ?_
 refine J0 ?_
 refine dP hB ?_
 exact K0
theorem zv3 (g:zab) (hg:GOk g) (q:zaf) (hq:POk g q) (p:zaf) (hp:zaQ p):zaD Tryz.prog 44 [.agg (zae q), .fp (zac g), .fp (zae p)] (.v (.bool (decide (p ∈ zar g q)))):=by
 refine pF Tryz.func44 ?_
 have hL:=ziG g hg q hq p hp
 generalize decide (p ∈ zar g q)=b at *
 refine J0 ?_
 refine aP hL ?_
 exact K0
theorem zyG (l:List zaf) (hl:l.length≤17179869184) (f:FuncId) (caps:List AV) (p:zaf→Bool) (hp:∀x ∈ l,zaD Tryz.prog f (.agg (zae x)::caps) (.v (.bool (p x)))) (hb':∀c ∈ caps,Bel 0 c):
  zaD Tryz.prog 43 [zaC l, .fn (.func f) [] caps] (zaC (l.filter p)):=by
 refine pF Tryz.func43 ?_
 have hbn:∀n,(∀c ∈ caps,Bel n c)=True:=fun n=>eq_true fun c hc=>(hb' c hc).mono (Nat.zero_le n)
 obtain ⟨fl,hfl⟩:∃fl:Nat→List zaf,∀k,fl k=(l.take k).filter p:=⟨_,fun _=>rfl⟩
 have hfll:∀k,(fl k).length≤17179869184:=fun k=>by
  have h1:(fl k).length≤(l.take k).length:=by rw [hfl];exact List.length_filter_le _ _
  have h2:(l.take k).length≤l.length:=ak
  omega
 have hfl0:fl 0= []:=by rw [hfl];rfl
 have hfls:∀k,k<l.length→fl (k+1)=if p (nth l k)=true then fl k++ [nth l k] else fl k:=fun k hk=>by
  rw [hfl,hfl,List.take_add_one,List.getElem?_eq_getElem hk,zap _ _ hk,Option.toList_some,List.filter_append]
  by_cases h:p l[k]=true<;>simp [h]
 have hflE:fl l.length=l.filter p:=by rw [hfl,List.take_length]
 rw [← hflE]
 clear hfl hflE
 refine J0 ?_
 refine zEp (zEs (α:=Nat) (fun k=>⟨[(1, .fn (.func f) [] caps),(5, .sl 0 (fl k).length 5 0 (fl k).length),(8,zaC l),(9, .int l.length),(10, .int k)], [(0, .rows true (fl k).length 5 ((fl k).map zae))],1⟩)
  (fun d k=>k+d=l.length) ?_ l.length 0 ?_) ?_ ?_
 ·rintro d k k1 hrec
  refine J0 ?_
  refine zEr (fun hk=> ?_) (fun hk=> ?_)<;>simp at hk
  ·have hpk:=hp _ (zag hk)
   have hfls:=hfls k hk
   have h1:=hfll k
   have h2:=hfll (k+1)
   generalize p (nth l k)=b at *
   refine J1 hk ?_
   refine zEt hpk (by simp [go_sem,hbn]) ?_
   cases b
   ·refine J1 hk ?_
    refine zEp (hrec (d - 1) aa (k+1) aa) ?_ ad
    simp [go_sem,zad,hfls,hbn]
   ·refine J1 hk ?_
    refine zEp (hrec (d - 1) aa (k+1) aa) ?_ ad
    simp [go_sem,zad,hfls,hbn]
  ·obtain rfl:k=l.length:=by omega
   have h1:=hfll l.length
   refine J0 ?_
   exact frX
 ·show 0+l.length=l.length
  omega
 ·simp [go_sem,zad,hfl0,hbn]
 ·simp
theorem zwA {g:zab} (hg:GOk g){s:zaf} (hs:POk g s) (n:Int):(zbE g s n).length≤1889788001:=Nat.le_trans (zdz _ _) (zfF hg hs n)
theorem zmk {g:zab} (hg:GOk g){s:zaf} (hs:POk g s) (n:Int):∀z ∈ zbE g s n,POk g z:=fun z hz=>zoy hg hs n z (zaG.1 hz)
theorem zpF (g:zab) (hg:GOk g) (s:zaf) (hs:POk g s) (p:zaf) (hp:zaQ p) (n:Int):
  zaD Tryz.prog 16 [.agg (zac g), .agg (zae s), .agg (zae p), .int n] (.tup [zaC (ze1 g s p n).1, .int (ze1 g s p n).2]):=by
 refine pF Tryz.func16 ?_
 have hSn:=zxc g hg s hs n
 have hl:=zwA hg hs n
 have hok:=zmk hg hs n
 have hinc:=zdL g s n
 have hBS:=zjt (zbE g s n) hinc aa (fun q hq=>(hok q hq).fits hg) p hp
 have hK:=zyG (zbE g s n) aa 44 [.fp (zac g), .fp (zae p)] (fun q=>decide (p ∈ zar g q)) (fun q hq=>zv3 g hg q (hok q hq) p hp) ae
 have hkl:((zbE g s n).filter fun q=>decide (p ∈ zar g q)).length≤1889788001:=Nat.le_trans (List.length_filter_le _ _) hl
 unfold ze1
 obtain ⟨kp,hkp⟩:∃kp,kp=(zbE g s n).filter fun q=>decide (p ∈ zar g q):=⟨_,rfl⟩
 rw [← hkp] at hK hkl ⊢
 clear hkp
 by_cases hin:p ∈ zbE g s n
 ·rw [if_pos hin]
  rw [decide_eq_true hin] at hBS
  clear hin
  generalize zmW (zbE g s n) p=lw at *
  generalize zbE g s n=sn at *
  generalize zc6 (zau g s n)=fu at *
  have hegl:(zac g).length=9:=rfl
  have hegb:∀n,(∀c ∈ zac g,Bel n c)=True:=fun n=>ae
  generalize zac g=eg at *
  cases fu
  ·refine J1 hegl ?_
   refine zEt hSn aX ?_
   exact K1 hegl
  ·refine J1 hegl ?_
   refine zEt hSn aX ?_
   refine J1 hegl ?_
   refine zEt hBS aX ?_
   refine J1 hegl ?_
   refine zEv [0,2] hK ?_ aX ?_
   ·(first|done|exact leX)
   ·exact K1 hegl
 ·rw [if_neg hin]
  rw [decide_eq_false hin] at hBS
  clear hin
  generalize zmW (zbE g s n) p=lw at *
  generalize zbE g s n=sn at *
  generalize zc6 (zau g s n)=fu at *
  have hegl:(zac g).length=9:=rfl
  have hegb:∀n,(∀c ∈ zac g,Bel n c)=True:=fun n=>ae
  generalize zac g=eg at *
  cases fu
  ·refine J1 hegl ?_
   refine zEt hSn aX ?_
   exact K1 hegl
  ·refine J1 hegl ?_
   refine zEt hSn aX ?_
   refine J1 hegl ?_
   refine zEt hBS aX ?_
   exact K1 hegl
theorem zzx:zaD Tryz.prog 19 [.int 3] (.agg (zac zcL)):=by
 refine pF Tryz.func19 ?_
 refine J0 ?_
 refine zEq ?_
 refine J0 ?_
 refine zEq ?_
 refine J0 ?_
 refine zEq ?_
 refine J0 ?_
 refine zEq ?_
 refine J0 ?_
 simp only [zcL,zaV,zaW,zbw,zaB,List.map_cons,List.map_nil]
 refine ⟨?_, ?_, ?_, ?_, ?_, ?_, ?_, ?_, ?_⟩
 all_goals (first|done|exact leX)
theorem zsL:zaD Tryz.prog 20 [.int 3] (.agg (zae (at9 1 0 2 0))):=by
 refine pF Tryz.func20 ?_
 refine J0 ?_
 simp only [at9,zaB,List.map_cons,List.map_nil]
 refine ⟨?_, ?_, ?_, ?_, ?_⟩
 all_goals (first|done|exact leX)
theorem zBn:zcW zcL (at9 1 0 2 0) (at9 1 0 2 1) 100=([],270):=ai
theorem zB3:zbE zcL (at9 1 0 2 0) 100=za3 zbi [at9 1 0 2 0,at9 0 1 2 1,at9 0 2 0 0]:=ai
theorem zBm:zc6 (zau zcL (at9 1 0 2 0) 100)=true:=ai
theorem zBM:decide (at9 1 0 2 0 ∈ zar zcL (at9 1 0 2 0))=false:=ai
theorem zBN:decide (at9 1 0 2 0 ∈ zar zcL (at9 0 1 2 1))=false:=ai
theorem zBO:decide (at9 1 0 2 0 ∈ zar zcL (at9 0 2 0 0))=false:=ai
theorem zBw:ze1 zcL (at9 1 0 2 0) (at9 1 0 2 0) 100=([],0):=by
 unfold ze1
 rw [zBm,if_neg ad,zB3,if_pos (zaG.2 ad)]
 rw [List.filter_eq_nil_iff.2 fun q hq=> ?_]
 rw [zaG] at hq
 simp only [List.mem_cons,List.not_mem_nil,or_false] at hq
 rcases hq with rfl|rfl|rfl
 ·rw [zBM];simp
 ·rw [zBN];simp
 ·rw [zBO];simp
theorem zpl:zaD Tryz.prog 4 [] (.v (.bool true)):=by
 have ka:=zCk 1 0 2 0 aa aa aa (.inl rfl)
 have kd:=zCk 1 0 2 1 aa aa aa (.inr rfl)
 have hG:=zpB zcL ziu _ ka _ (kd.fits ziu) 100
 have hL:=zpF zcL ziu _ ka _ (ka.fits ziu) 100
 rw [zBn] at hG
 rw [zBw] at hL
 have hr:=zzx
 have hf:=zsL
 clear ka kd
 generalize hs:zcL=g at *
 have hegl:(zac g).length=9:=rfl
 have hegb:∀n,(∀c ∈ zac g,Bel n c)=True:=fun n=>ae
 refine pF Tryz.func4 ?_
 refine J0 ?_
 refine aP hr ?_
 refine J0 ?_
 refine aP hf ?_
 refine J0 ?_
 refine zEt hG (by simp [go_sem,at9]) ?_
 refine J0 ?_
 refine aP hL ?_
 exact K0
theorem zuQ (p:zaT) (more:List zc7) (to:Int) (hp:p.acts.length≤1048576) (hm:more.length≤1048576):zhb Tryz.prog 96 [.agg (zaK p),zdi more, .int to]
  (fun n=> .agg [.sl (n+2) 2 3 0 (p.acts.length+more.length), .int to]) (fun n=> [(n+2, .rows true 2 3 ((p.acts++more).map zcC))]) 3:=by
 refine ⟨aF Tryz.func96 ?_,fun n=>⟨ae,ae⟩⟩
 obtain ⟨acts,t⟩:=p
 simp only at hp
 refine J0 ?_
 simp [go_sem,zad]
theorem zuR (p:zaT) (more:List zc7) (to:Int) (hp:p.acts.length≤1048576) (hm:more.length≤1048576):zaD Tryz.prog 96 [.agg (zaK p),zdi more, .int to] (.agg (zaK (onP p to more))):=by
 refine (zuQ p more to hp hm).pure ?_ ae
 unfold onP
 (first|done|exact leX)
theorem zqn (b:zay) (hb:zaP b) (h9:b.cells≤9) (side:Int) (p:zaT) (hp:p.acts.length≤1000000) (x:Int×Int) (hx:1≤x.1∧x.1≤10):
  zaD Tryz.prog 50 [.agg (zco b), .int side, .agg (zaK p), .agg (zbw x)] (zc5 (zko b side p x)):=by
 refine pF Tryz.func50 ?_
 have hT:=zhF b hb side x.2 p.to
 have hL:=zkH b hb side x.2 p.to
 have hwg:∀to,zaD Tryz.prog 96 [.agg (zaK p),zdi [], .int to] (.agg (zaK (onP p to []))):=fun to=>zuR p [] to aa ad
 have hw1:∀to a,zaD Tryz.prog 96 [.agg (zaK p),zdi [a], .int to] (.agg (zaK (onP p to [a]))):=fun to a=>zuR p [a] to aa ad
 have hbl:∀n,(∀c' ∈ zco b,Bel n c')=True:=fun n=>ae
 have hel:(zco b).length=3:=rfl
 generalize zco b=eb at *
 obtain ⟨op,N⟩:=x
 simp only at hx hT hL
 unfold zko
 simp only
 by_cases h1:op=1
 ·subst h1
  rw [if_pos (.inl rfl)]
  generalize toB b side N p.to=T at *
  by_cases ht:T<0
  ·rw [if_pos ht]
   refine J1 hel ?_
   refine zEt hT aH ?_
   refine J2 hel ht ?_
   (first|done|exact leX)
  ·rw [if_neg ht,if_pos rfl]
   refine J1 hel ?_
   refine zEt hT aH ?_
   refine J2 hel ht ?_
   refine zEv [] (hwg T) (.cons (.refl _) (.cons (.nil _) (.refl _ _ _ _))) ae ?_
   refine J0 ?_
   (first|done|exact leX)
 by_cases h7:op=7
 ·subst h7
  rw [if_pos (.inr rfl)]
  generalize toB b side N p.to=T at *
  by_cases ht:T<0
  ·rw [if_pos ht]
   refine J1 hel ?_
   refine zEt hT aH ?_
   refine J2 hel ht ?_
   (first|done|exact leX)
  ·rw [if_neg ht,if_neg aa]
   refine J1 hel ?_
   refine zEt hT aH ?_
   refine J2 hel ht ?_
   refine zEv [3] (hw1 p.to (7,p.to,T)) ?_ ae ?_
   ·(first|done|exact leX)
   refine J0 ?_
   (first|done|exact leX)
 rw [if_neg aa]
 by_cases h2:op=2
 ·subst h2
  rw [if_pos rfl]
  have hll:(zgf b side N p.to).length≤9:=by have:=zkw hb (side:=side) (d:=N) (c:=p.to);omega
  generalize zgf b side N p.to=line at *
  refine J1 hel ?_
  refine zEt hL aH ?_
  refine J1 hel ?_
  refine zEp (zEs (α:=Nat×List zc7×List zaT) (fun a=>⟨[(6, .ref 1 0 2 0 0),(10, .sl 3 a.1 2 0 a.2.2.length),(11, .sl 4 a.1 3 0 a.2.1.length),(12,zai line),(13, .int a.1)],
    [(1, .rows true 0 2 [zaK p]),(3, .rows true a.1 2 (a.2.2.map zaK)),(4, .rows true a.1 3 (a.2.1.map zcC))],5⟩)
   (fun d a=>a.1+d=line.length∧a.2.1.length=a.1∧a.2.2.length=a.1∧a.2.2++zcd p (line.drop a.1) a.2.1=zcd p line []) ?_ line.length (0, [], []) ?_) ?_ ?_
  ·rintro d ⟨i,passed,out⟩ ⟨i1,i2,i3,i4⟩ hrec
   simp only at i1 i2 i3 i4
   have hw:=zuQ p passed (nth line i) aa aa
   refine J0 ?_
   refine zEr (fun hi=> ?_) (fun hi=> ?_)<;>simp at hi
   ·rw [zas hi,zcd] at i4
    have hgo:=hrec (d - 1) aa (i+1,passed++ [(3,nth line i,0)],out++ [onP p (nth line i) passed]) ⟨ah,ak,ak,by simp only;rw [← i4,List.append_assoc];rfl⟩
    refine J1 hi ?_
    refine zE0 [4] 128 (by rfl) hw am ae ae ?_ ae ae ?_
    ·intro h₁ hh
     exact zav.cons (.refl _) (zav.cons (zak ((hh 4 ad).symm.trans rfl) ad aV (by rw [List.drop_zero,List.take_of_length_le ad])) (.refl _ _ _ _))
    ((repeat (first|with_reducible (first|refine wL fun _=>?_|refine wD fun _=>?_|refine wZ ?_)|simp [go_sem,hi]));refine zEW ai ?_)
    refine J1 hi ?_
    refine zEp hgo ?_ ad
    simp [go_sem,zad]
    unfold onP
    (first|done|exact rwX)
   ·rw [List.drop_eq_nil_of_le hi,zcd,List.append_nil] at i4
    rw [← i4]
    refine J0 ?_
    (first|done|exact leX)
  ·exact ⟨ad,rfl,rfl,rfl⟩
  ·simp [go_sem,zad]
  ·simp
 rw [if_neg h2]
 by_cases h8:op=8∨op=9∨op=10
 ·rw [if_pos h8]
  rcases h8 with rfl|rfl|rfl
  ·refine J0 ?_
   refine zEv [3] (hw1 p.to (8,N,0)) ?_ ae ?_
   ·(first|done|exact leX)
   refine J0 ?_
   (first|done|exact leX)
  ·refine J0 ?_
   refine zEv [3] (hw1 p.to (9,N,0)) ?_ ae ?_
   ·(first|done|exact leX)
   refine J0 ?_
   (first|done|exact leX)
  ·refine J0 ?_
   refine zEv [3] (hw1 p.to (10,N,0)) ?_ ae ?_
   ·(first|done|exact leX)
   refine J0 ?_
   (first|done|exact leX)
 ·rw [if_neg h8]
  rcases (show op=3∨op=4∨op=5∨op=6 by omega) with rfl|rfl|rfl|rfl
  ·refine J0 ?_
   refine zEv [3] (hw1 p.to (3,p.to,0)) ?_ ae ?_
   ·(first|done|exact leX)
   refine J0 ?_
   (first|done|exact leX)
  ·refine J0 ?_
   refine zEv [3] (hw1 p.to (4,p.to,0)) ?_ ae ?_
   ·(first|done|exact leX)
   refine J0 ?_
   (first|done|exact leX)
  ·refine J0 ?_
   refine zEv [3] (hw1 p.to (5,p.to,0)) ?_ ae ?_
   ·(first|done|exact leX)
   refine J0 ?_
   (first|done|exact leX)
  ·refine J0 ?_
   refine zEv [3] (hw1 p.to (6,p.to,0)) ?_ ae ?_
   ·(first|done|exact leX)
   refine J0 ?_
   (first|done|exact leX)
theorem zrO (b:zay) (hb:zaP b) (h1:1≤b.cells) (h9:b.cells≤9) (side:Int) (prog:List (Int×Int)) (hp:prog.length≤8) (hpo:∀x ∈ prog,1≤x.1∧x.1≤10) (cell:Int):
  zaD Tryz.prog 23 [.agg (zco b), .int side,zaW prog, .int cell] (zc5 (zbC b side prog cell)):=by
 refine pF Tryz.func23 ?_
 have hR:zbC b side prog cell=zdK b side prog cell prog.length:=by unfold zdK;rw [List.take_length]
 have hl:=zjf hb h1 h9 side prog hp cell
 have ha:=zfz hb h9 side prog cell
 have hs:=fun (i:Nat) (h:i<prog.length)=>zhv b side prog cell h
 have h0:zdK b side prog cell 0= [⟨[],cell⟩]:=rfl
 have hE:∀p x,p.acts.length≤1000000→(1≤x.1∧x.1≤10)→zaD Tryz.prog 50 [.agg (zco b), .int side, .agg (zaK p), .agg (zbw x)] (zc5 (zko b side p x)):=fun p x hp hx=>zqn b hb h9 side p hp x hx
 have hbl:∀n,(∀c' ∈ zco b,Bel n c')=True:=fun n=>ae
 have hel:(zco b).length=3:=rfl
 rw [hR]
 generalize zco b=eb at *
 generalize zdK b side prog cell=K at *
 generalize zko b side=X at *
 clear hR
 refine J1 hel ?_
 refine zEp (zEs (α:=Nat) (fun i=>⟨[(1, .int side),(2,zaW prog),(4, .ref 0 0 3 0 0),(9,zc5 (K i)),(10, .int i)], [(0, .rows true 0 3 [eb])],1⟩)
  (fun d i=>i+d=prog.length) ?_ prog.length 0 ?_) ?_ ?_
 ·rintro d i i1 hrec
  have hli:=hl i
  refine J0 ?_
  refine zEr (fun hi=> ?_) (fun hi=> ?_)<;>simp at hi
  ·have hai:=ha i aa
   have hsi:=hs i hi
   have hx:=hpo _ (zag hi)
   have hl1:=hl (i+1)
   have hgo:=hrec (d - 1) aa (i+1) aa
   rw [hsi] at hgo hl1
   generalize K i=now at *
   obtain ⟨R,hR⟩:∃R,R=now.flatMap fun w=>X w (nth prog i):=⟨_,rfl⟩
   rw [← hR] at hgo hl1
   refine J0 ?_
   refine zEp (zEs (α:=Nat×List zaT) (fun a=>⟨[(1, .int side),(2,zaW prog),(4, .ref 0 0 3 0 0),(9,zc5 now),(10, .int i),(11, .sl 1 a.1 2 0 a.2.length),(12, .int a.1)],
     [(0, .rows true 0 3 [eb]),(1, .rows true a.1 2 (a.2.map zaK))],2⟩)
    (fun d a=>a.1+d=now.length∧a.2++((now.drop a.1).flatMap fun w=>X w (nth prog i))=R) ?_ now.length (0, []) ?_) ?_ ?_
   ·rintro d2 ⟨j,l⟩ ⟨j1,j2⟩ hrec2
    simp only at j1 j2
    refine J0 ?_
    refine zEr (fun hj=> ?_) (fun hj=> ?_)<;>simp at hj
    ·have haj:=hai _ (zag hj)
     have hlR:l.length+(X (nth now j) (nth prog i)).length≤43046721:=by
      rw [zas hj] at j2
      rw [← j2] at hl1
      simp only [List.flatMap_cons,List.length_append] at hl1
      omega
     rw [zas hj,List.flatMap_cons,← List.append_assoc] at j2
     have hgo2:=hrec2 (d2 - 1) aa (j+1,l++X (nth now j) (nth prog i)) ⟨ah,j2⟩
     have hEj:=hE (nth now j) (nth prog i) aa hx
     simp only [List.length_append] at hgo2
     refine J3 hel hi hj ?_
     refine zEB hEj aH ?_
     refine J0 ?_
     refine zEp hgo2 ?_ ad
     simp [go_sem,zad,hbl]
    ·rw [List.drop_eq_nil_of_le hj,List.flatMap_nil,List.append_nil] at j2
     subst j2
     refine J0 ?_
     refine zEp hgo ?_ ad
     simp [go_sem,zad]
     refine ⟨?_,of_eq_true (hbl 1)⟩
     (first|done|exact leX)
   ·exact ⟨ad,de⟩
   ·simp [go_sem,zad,hbl]
   ·simp
  ·have hil:i=prog.length:=by omega
   subst hil
   exact K0
 ·simp
 ·simp [go_sem,zad,hbl,h0]
  (first|done|exact leX)
 ·simp
theorem zrM (c:zkD) (hc:zk5 c≤4611686018427387904) (h1:c.1.length≤1048576) (h2:c.2.length≤1048576) (hl:∀x ∈ c.1++c.2,x.length≤1048576):
  zaD Tryz.prog 6 [.agg (zbO c)] (.int (zk5 c)):=by
 refine pF Tryz.func6 ?_
 obtain ⟨a,b⟩:=c
 simp only at h1 h2 hl
 have hT:zk5 (a,b)=zb3 a+zb3 b:=rfl
 rw [hT] at hc ⊢
 refine J0 ?_
 refine zEp (zEs (α:=Nat×Nat) (fun x=>⟨[(1, .ref 0 0 2 0 0),(3, .int x.2),(4, .int x.1)], [(0, .rows true 0 2 [[zaI a,zaI b]])],1⟩)
  (fun d x=>x.1+d=2∧x.2=(if x.1=0 then 0 else if x.1=1 then zb3 a else zb3 a+zb3 b)) ?_ 2 (0,0) ?_) ?_ ?_
 ·rintro d ⟨s,n⟩ ⟨s1,s2⟩ hrec
  simp only at s1 s2
  rcases (show s=2∨s<2 by omega) with rfl|hs2
  ·simp at s2
   subst s2
   exact K0
  ·obtain ⟨l,hl0,hl1,hl2,hl3⟩:∃l:List (List (List zaT)),cel [zaI a,zaI b] s=zaI l∧l.length≤1048576∧(∀x ∈ l,x.length≤1048576)∧(if s+1=0 then 0 else if s+1=1 then zb3 a else zb3 a+zb3 b)=n+zb3 l:=by
    rcases (show s=0∨s=1 by omega) with rfl|rfl
    ·simp at s2
     exact ⟨a,rfl,h1,fun x hx=>hl x bZ,by simp [s2]⟩
    ·simp at s2
     exact ⟨b,rfl,h2,fun x hx=>hl x bZ,by simp [s2]⟩
   have hcap:n+zb3 l≤4611686018427387904:=by rw [← hl3];split<;>(try split)<;>omega
   simp only [zaI,zbv,zc5] at hl0
   refine J1 hl0 ?_
   refine FxT ?_
   refine J1 hl0 ?_
   refine zEp (zEs (α:=Nat×Nat) (fun x=>⟨[(1, .ref 0 0 2 0 0),(3, .int x.2),(4, .int s),(5, .int x.1)], [(0, .rows true 0 2 [[zaI a,zaI b]])],1⟩)
    (fun d x=>x.1+d=l.length∧x.2+zb3 (l.drop x.1)=n+zb3 l) ?_ l.length (0,n) ?_) ?_ ?_
   ·rintro d2 ⟨j,m⟩ ⟨j1,j2⟩ hrec2
    simp only at j1 j2
    refine J1 hl0 ?_
    refine zEr (fun hj=> ?_) (fun hj=> ?_)<;>simp at hj
    ·have hll:=hl2 _ (zag hj)
     rw [zp1 l hj] at j2
     refine J2 hj hl0 ?_
     refine zEp (zEs (α:=Nat×Nat) (fun x=>⟨[(1, .ref 0 0 2 0 0),(3, .int x.2),(4, .int s),(5, .int j),(6, .int x.1)], [(0, .rows true 0 2 [[zaI a,zaI b]])],1⟩)
      (fun d x=>x.1+d=(nth l j).length∧x.2+zcO ((nth l j).drop x.1)=m+zcO (nth l j)) ?_ (nth l j).length (0,m) ?_) ?_ ?_
     ·rintro d3 ⟨k,q⟩ ⟨k1,k2⟩ hrec3
      simp only at k1 k2
      refine J2 hl0 hj ?_
      refine zEr (fun hk=> ?_) (fun hk=> ?_)<;>simp at hk
      ·rw [zoE _ hk] at k2
       refine J3 hk hl0 hj ?_
       refine zEp (hrec3 (d3 - 1) aa (k+1,q+(nth (nth l j) k).length) ⟨ah,ah⟩) ?_ ad
       simp [go_sem,zad]
      ·rw [List.drop_eq_nil_of_le hk] at k2
       simp [zcO] at k2
       refine J0 ?_
       refine zEp (hrec2 (d2 - 1) aa (j+1,q) ⟨ah,by simp only [zcO] at j2 ⊢;omega⟩) ?_ ad
       simp [go_sem,zad]
     ·exact ⟨ad,ad⟩
     ·simp [go_sem,zad]
     ·simp
    ·rw [List.drop_eq_nil_of_le hj] at j2
     simp [zb3] at j2
     refine J0 ?_
     refine zEp (hrec (d - 1) aa (s+1,m) ⟨ah, ?_⟩) ?_ ad
     ·simp only
      rw [hl3,j2]
      rfl
     ·simp [go_sem,zad]
   ·exact ⟨ad,ad⟩
   ·simp [go_sem,zad]
   ·simp
 ·exact ⟨rfl,rfl⟩
 ·simp [go_sem,zad]
 ·simp
def zrJ (a:AV) (s:Nat) (x:AV):List AV:=if s=0 then [x, .v (.slice none 0 0)] else [a,x]
theorem zBZ (a:AV) (s:Nat) (x:AV):(zrJ a s x).length=2:=by unfold zrJ;split<;>rfl
theorem zBY (a:AV){s:Nat} (hs:s<2) (x:AV):cel (zrJ a s x) s=x:=by
 rcases (show s=0∨s=1 by omega) with rfl|rfl<;>rfl
theorem zB0 (a:AV){s:Nat} (hs:s<2) (x y:AV):(zrJ a s x).set s y=zrJ a s y:=by
 rcases (show s=0∨s=1 by omega) with rfl|rfl<;>rfl
theorem zD8 {h h':zaq}{n:Nat}{a:AV}{s:Nat}{x y:AV} (hx:LeV h h' n x y):zav h h' n (zrJ a s x) (zrJ a s y):=by
 unfold zrJ
 split
 ·exact .cons hx (.refl _ _ _ _)
 ·exact .cons (.refl _) (.cons hx .nil)
theorem zgQ {n:Nat}{a:AV}{s:Nat}{x:AV} (ha:Bel n a) (hx:Bel n x):∀c ∈ zrJ a s x,Bel n c:=by
 unfold zrJ
 split<;>intro c hc<;>simp only [List.mem_cons,List.not_mem_nil,or_false] at hc<;>rcases hc with rfl|rfl
 ·exact hx
 ·exact .v _
 ·exact ha
 ·exact hx
def zhN (b:zay) (s:Int) (ps:List (List (Int×Int))) (c:Nat):List (List zaT):=(List.range c).map fun (c:Nat)=>zbH b s ps c
theorem zsw (b:zay) (s:Int) (ps:List (List (Int×Int))) (c:Nat):zhN b s ps (c+1)=zhN b s ps c++ [zbH b s ps c]:=by simp [zhN,List.range_succ]
theorem zvu (b:zay) (s:Int) (ps:List (List (Int×Int))) (c:Nat):(zhN b s ps c).length=c:=by simp [zhN]
def zD7 (a b:AV) (s:Nat):List AV:= [if s=0 then AV.v (.slice none 0 0) else a,if s<2 then AV.v (.slice none 0 0) else b]
theorem zon (g:zab) (hg:GOk g):zaD Tryz.prog 7 [.agg (zac g)] (.agg (zbO (zcy g))):=by
 refine pF Tryz.func7 ?_
 have hc1:=hg.c1
 have hc9:=hg.c9
 have hk6:=hg.k6
 have hP:∀k ∈ g.kinds,∀p ∈ k.progs,∀ (side c:Int),zaD Tryz.prog 23 [.agg (zco g.board), .int side,zaW p, .int c] (zc5 (zbC g.board side p c)):=
  fun k hk p hp side c=>by
   have hpo:=hg.pr k hk p hp
   exact zrO g.board hg.board hg.c1 hg.c9 side p hpo.len (fun x hx=>(hpo.st x hx).op) c
 have hR:zbO (zcy g)= [zaI (zbM g 0),zaI (zbM g 1)]:=rfl
 rw [hR]
 clear hR
 obtain ⟨C,hC⟩:∃C:Nat,g.cells=C:=⟨g.cells.toNat,aa⟩
 have hcells:∀ (s:Int) (j:Nat),zf0 g.board s (nth g.kinds j).progs=zhN g.board s (nth g.kinds j).progs C:=fun s j=>by
  unfold zf0 zhN
  rw [show g.board.cells.toNat=C by have:g.board.cells=g.cells:=rfl;omega]
 have hbl:∀n,(∀c' ∈ zac g,Bel n c')=True:=fun n=>ae
 have hel:(zac g).length=9:=rfl
 obtain ⟨eB,heB⟩:∃eB,eB=zco g.board:=⟨_,rfl⟩
 have hg1:(zac g).take 3=eB:=by rw [heB];rfl
 have hg2:cel (zac g) 3= .lst 3 (g.kinds.map zaV):=rfl
 have hg3:cel (zac g) 0= .int C:=by rw [← hC];rfl
 have heBb:∀n,(∀c' ∈ eB,Bel n c')=True:=fun n=>by rw [heB];simp [go_sem]
 rw [← heB] at hP
 clear heB
 generalize zac g=eg at *
 obtain ⟨S0,hS0⟩:∃S0,S0=zaI (zbM g 0):=⟨_,rfl⟩
 obtain ⟨S1,hS1⟩:∃S1,S1=zaI (zbM g 1):=⟨_,rfl⟩
 have hSb0:∀n,Bel n S0=True:=fun n=>by rw [hS0];simp [go_sem]
 have hSb1:∀n,Bel n S1=True:=fun n=>by rw [hS1];simp [go_sem]
 rw [← hS0,← hS1]
 refine J1 hel ?_
 refine zEp (zEs (α:=Nat) (fun s=>⟨[(1, .ref 0 0 9 0 0),(2, .ref 1 0 2 0 0),(3, .ref 2 0 2 0 0),(4, .int s)],
   [(0, .rows true 0 9 [eg]),(1, .rows true 0 2 [[AV.v (.slice none 0 0),AV.v (.slice none 0 0)]]),(2, .rows true 0 2 [zD7 S0 S1 s])],3⟩)
  (fun d s=>s+d=2) ?_ 2 0 ?_) ?_ ?_
 ·rintro d0 s s1 hrec
  rcases (show s=2∨s<2 by omega) with rfl|hs2
  ·simp only [zD7]
   refine J0 ?_
   exact ⟨of_eq_true (hSb0 0),of_eq_true (hSb1 0)⟩
  have hAS:zD7 S0 S1 s=zrJ S0 s (.v (.slice none 0 0)):=by rcases (show s=0∨s=1 by omega) with rfl|rfl<;>rfl
  rw [hAS]
  have hrl:=zBZ S0 s
  have hrc:=zBY S0 hs2
  have hrs:=zB0 S0 hs2
  refine J1 hel ?_
  refine FxT ?_
  refine J1 hel ?_
  refine zEp (zEs (α:=Nat) (fun j=>⟨[(1, .ref 0 0 9 0 0),(2, .ref 1 0 2 0 0),(3, .ref 2 0 2 0 0),(4, .int s),(5, .int j)],
    [(0, .rows true 0 9 [eg]),(1, .rows true 0 2 [[AV.v (.slice none 0 0),AV.v (.slice none 0 0)]]),(2, .rows true 0 2 [zrJ S0 s (.sl 3 j 1 0 j)]),(3, .rows true j 1 ((zjl g s j).map fun x=> [zbv x]))],4⟩)
   (fun d j=>j+d=g.kinds.length) ?_ g.kinds.length 0 ?_) ?_ ?_
  ·rintro d j j1 hrec2
   have hlj:=zmm g s (show j≤g.kinds.length by omega)
   refine J2 hel hg2 ?_
   refine zEr (fun hj=> ?_) (fun hj=> ?_)<;>simp at hj
   ·have hkm:=zag hj
    have hpn:=hg.pn _ hkm
    have hPk:=hP _ hkm
    have hsj:=zob g s hj
    have hcj:=hcells s j
    have hlj1:=zmm g s (show j+1≤g.kinds.length by omega)
    have hkl:=zia hg s hkm
    have hks:∀c:Nat,zbH g.board s (nth g.kinds j).progs c=(nth g.kinds j).progs.flatMap fun p=>zbC g.board s p c:=fun c=>rfl
    obtain ⟨k,hk⟩:∃k,k=nth g.kinds j:=⟨_,rfl⟩
    rw [← hk] at hpn hPk hsj hcj hkl hks
    rw [hcj] at hsj
    have hcs:=zsw g.board s k.progs
    have hcl:=zvu g.board s k.progs
    have hc0:zhN g.board s k.progs 0= []:=rfl
    generalize zhN g.board s k.progs=CK at *
    generalize zbH g.board s k.progs=KP at *
    refine J2 hel hg2 ?_
    refine zEp (zEs (α:=Nat) (fun c=>⟨[(1, .ref 0 0 9 0 0),(2, .ref 1 0 2 0 0),(3, .ref 2 0 2 0 0),(4, .int s),(5, .int j),(6, .sl 4 c 1 0 c),(7, .int c)],
      [(0, .rows true 0 9 [eg]),(1, .rows true 0 2 [[AV.v (.slice none 0 0),AV.v (.slice none 0 0)]]),(2, .rows true 0 2 [zrJ S0 s (.sl 3 j 1 0 j)]),(3, .rows true j 1 ((zjl g s j).map fun x=> [zbv x])),(4, .rows true c 1 ((CK c).map fun x=> [zc5 x]))],5⟩)
     (fun d c=>c+d=C) ?_ C 0 ?_) ?_ ?_
    ·rintro d2 c c1' hrec3
     have hclc:=hcl c
     refine J2 hel hg3 ?_
     refine zEr (fun hc=> ?_) (fun hc=> ?_)<;>simp at hc
     ·have hklc:=hkl c
      have hcsc:=hcs c
      rw [hks c] at hcsc
      have hks':((k.progs.flatMap fun p=>zbC g.board s p c)).length≤8589934592:=by rw [← hks c];exact hklc
      obtain ⟨R,hR⟩:∃R,R=k.progs.flatMap fun p=>zbC g.board s p c:=⟨_,rfl⟩
      rw [← hR] at hcsc hks'
      refine J1 hel ?_
      refine zEp (zEs (α:=Nat×List zaT) (fun a=>⟨[(1, .ref 0 0 9 0 0),(2, .ref 1 0 2 0 0),(3, .ref 2 0 2 0 0),(4, .int s),(5, .int j),(6, .sl 4 c 1 0 c),(7, .int c),(8, .sl 5 a.1 2 0 a.2.length),(9, .int a.1)],
        [(0, .rows true 0 9 [eg]),(1, .rows true 0 2 [[AV.v (.slice none 0 0),AV.v (.slice none 0 0)]]),(2, .rows true 0 2 [zrJ S0 s (.sl 3 j 1 0 j)]),(3, .rows true j 1 ((zjl g s j).map fun x=> [zbv x])),(4, .rows true c 1 ((CK c).map fun x=> [zc5 x])),(5, .rows true a.1 2 (a.2.map zaK))],6⟩)
       (fun d a=>a.1+d=k.progs.length∧a.2++((k.progs.drop a.1).flatMap fun p=>zbC g.board s p c)=R) ?_ k.progs.length (0, []) ?_) ?_ ?_
      ·rintro d3 ⟨i,l⟩ ⟨i1,i2⟩ hrec4
       simp only at i1 i2
       repeat first|refine wV fun _=>?_|simp [go_sem,hel,hg2,hj,← hk]
       refine zEr (fun hi=> ?_) (fun hi=> ?_)<;>simp at hi
       ·rw [zas hi,List.flatMap_cons,← List.append_assoc] at i2
        have hlR:l.length+(zbC g.board s (nth k.progs i) c).length≤8589934592:=by
         have:=hks'
         rw [← i2] at this
         simp only [List.length_append] at this
         omega
        have hPi:=hPk _ (zag hi) s c
        have hgo:=hrec4 (d3 - 1) aa (i+1,l++zbC g.board s (nth k.progs i) c) ⟨ah,i2⟩
        simp only [List.length_append] at hgo
        generalize zbC g.board s (nth k.progs i) c=X at *
        repeat first|refine wV fun _=>?_|simp [go_sem,hel,hg1,hg2,hj,hi,← hk]
        refine zEB hPi (by simp [go_sem,heBb]) ?_
        refine J0 ?_
        refine zEp hgo ?_ ad
        simp [go_sem,zad,hbl]
        exact zgQ (of_eq_true (hSb0 _)) (.sl aa)
       ·rw [List.drop_eq_nil_of_le hi,List.flatMap_nil,List.append_nil] at i2
        subst i2
        refine J0 ?_
        refine zEp (hrec3 (d2 - 1) aa (c+1) aa) ?_ ad
        simp [go_sem,zad,hbl,hcsc]
        refine ⟨zgQ (of_eq_true (hSb0 _)) (.sl aa), ?_⟩
        (first|done|exact leX)
      ·exact ⟨ad,de⟩
      ·simp [go_sem,zad,hbl]
       exact zgQ (of_eq_true (hSb0 _)) (.sl aa)
      ·simp
     ·have hcC:c=C:=by omega
      subst hcC
      refine J5 hel hrl hrc hrs hlj ?_
      refine zEp (hrec2 (d - 1) aa (j+1) aa) ?_ ad
      simp [go_sem,zad,hbl,hsj]
      refine ⟨zgQ (of_eq_true (hSb0 _)) (.sl aa), ?_⟩
      (first|done|exact Lx1 hclc)
    ·simp
    ·simp [go_sem,zad,hbl,hc0]
     exact zgQ (of_eq_true (hSb0 _)) (.sl aa)
    ·simp
   ·have hjk:j=g.kinds.length:=by omega
    subst hjk
    rw [zrn] at *
    refine J0 ?_
    refine zEp (hrec (d0 - 1) aa (s+1) aa) ?_ ad
    simp [go_sem,zad,hbl]
    refine ⟨?_, ?_⟩
    ·rcases (show s=0∨s=1 by omega) with rfl|rfl
     ·have hl0:(zbM g 0).length=g.kinds.length:=by simp [zbM]
      simp only [zD7,zrJ,hS0,zaI,zbv,zc5]
      simp
      (first|done|exact Lx1 hl0)
     ·have hl0:(zbM g 1).length=g.kinds.length:=by simp [zbM]
      simp only [zD7,zrJ,hS1,zaI,zbv,zc5]
      simp
      (first|done|exact Lx1 hl0)
    ·intro x hx
     unfold zD7 at hx
     simp only [List.mem_cons,List.not_mem_nil,or_false] at hx
     rcases hx with rfl|rfl
     ·exact of_eq_true (hSb0 _)
     ·split
      ·exact .v _
      ·exact of_eq_true (hSb1 _)
  ·simp
  ·have h0:=zoc g s
   simp [go_sem,zad,h0]
   refine ⟨of_eq_true (hbl _),zD8 ?_,zgQ (of_eq_true (hSb0 _)) (.sl aa)⟩
   simp [go_sem]
  ·simp
 ·simp
 ·simp [go_sem,zad,hbl,zD7]
 ·simp
def idxG {α:Type} (p:α→Bool) (l:List α):Int:=match l.findIdx? p with|some i=>(i:Int)|none=> -1
theorem zDG {α:Type} [Inhabited α] {p:α→Bool}{l:List α}{j:Nat} (hj:j<l.length) (h:∀i,i<j→p (nth l i)=false) (hp:p (nth l j)=true):idxG p l=j:=by
 have:l.findIdx? p=some j:=by
  rw [List.findIdx?_eq_some_iff_getElem]
  refine ⟨hj,cL,fun i hi=> ?_⟩
  have:=h i hi
  rw [zap _ _ aa] at this
  simp [this]
 simp [idxG,this]
end Go.Av
end
section
open Go Go.Proofs Go.RowKit Go.Lib
namespace Go.Av
end Go.Av
end
section
open Go Go.Proofs
namespace Go.Av
def zop (g:zab):Prop:=g.kinds.map (·.name)= [zlU]∨g.kinds.map (·.name)= [zlU,zmZ]
theorem zop.name {g:zab} (h:zop g):∀k ∈ g.kinds,k.name=zlU∨k.name=zmZ:=by
 intro k hk
 have hm:k.name ∈ g.kinds.map (·.name):=List.mem_map.2 ⟨k,hk,rfl⟩
 rcases h with h|h<;>rw [h] at hm<;>simp at hm
 ·exact .inl hm
 ·exact hm
theorem zs9:(zlU.toList==zmZ.toList)=false:=by decide+kernel
theorem zop.find {g:zab} (h:zop g){i:Nat} (hi:i<g.kinds.length):idxG (fun k:zfM=>k.name.toList==(nth g.kinds i).name.toList) g.kinds=i:=by
 refine zDG hi (fun j hj=> ?_) ad
 have hn:∀j,j<g.kinds.length→(nth g.kinds j).name=nth (g.kinds.map (·.name)) j:=fun j hj=>(za9 _ _ _ hj).symm
 have hl:(g.kinds.map (·.name)).length=g.kinds.length:=ad
 rw [hn i hi,hn j aa]
 rcases h with h|h<;>rw [h] at hl ⊢<;>simp at hl
 ·omega
 ·obtain rfl:j=0:=by omega
  obtain rfl:i=1:=aa
  exact zs9
theorem znn {α:Type} [Inhabited α] {l:List α}{j:Nat} (h:j<l.length):l.drop j=nth l j::l.drop (j+1):=bH
theorem zuV (a b:List zaf) (ha:a.length≤1099511627776) (hb:b.length≤1099511627776) (hfa:∀p ∈ a,zaQ p) (hfb:∀p ∈ b,zaQ p):
  zaD Tryz.prog 9 [zaC a,zaC b] (.v (.bool (decide (a=b)))):=by
 refine pF Tryz.func9 ?_
 refine J0 ?_
 refine zEr (fun hl=> ?_) (fun hl=> ?_)<;>simp at hl
 ·have e:decide (a=b)=false:=by simp;rintro rfl;exact hl rfl
  exact K1 e
 ·refine J0 ?_
  refine zEp (zEs (α:=Nat) (fun j=>⟨[(0,zaC a),(1,zaC b),(5, .int j)], [],0⟩)
   (fun d j=>j+d=a.length∧((a=b)↔(a.drop j=b.drop j))) ?_ a.length 0 ?_) ?_ ?_
  ·rintro d j ⟨i1,i3⟩ hrec
   refine J0 ?_
   refine zEr (fun hj=> ?_) (fun hj=> ?_)<;>simp at hj
   ·have hj2:j<b.length:=by omega
    have hC:=zkK _ _ (hfa _ (zag hj)) (hfb _ (zag hj2))
    rw [znn hj,znn hj2,List.cons.injEq] at i3
    refine J2 hj hj2 ?_
    refine dP hC ?_
    refine J0 ?_
    refine zEr (fun he=> ?_) (fun he=> ?_)<;>simp at he
    ·have e:decide (a=b)=false:=by simp;intro h;exact he (zhi.2 (i3.1 h).1)
     exact K1 e
    ·refine J0 ?_
     refine zEp (hrec (d - 1) aa (j+1) ⟨aa,i3.trans ⟨fun h=>h.2,fun h=>⟨zhi.1 he,h⟩⟩⟩) ?_ ad
     simp [go_sem,zad]
   ·rw [List.drop_eq_nil_of_le hj,List.drop_eq_nil_of_le aa] at i3
    have e:decide (a=b)=true:=by simpa using i3.2 rfl
    exact K1 e
  ·simp
  ·simp [go_sem,zad]
  ·simp
theorem zqN {g:zab}{p:zaf}:∀ {d:Nat},zee g p d≠ []→d+1≤(zfh g p d).length
 |0, _=>by rw [zyN];simp
 |d+1,h=>by
  have h1:zee g p d≠ []:=fun e=>h (zlC e 1)
  have h2:=zqN h1
  have h3:zbY g (zfh g p d) (zee g p d)≠ []:=fun e=>h (by rw [zib,e];exact List.eq_nil_iff_forall_not_mem.2 fun q hq=>by rw [zaG] at hq;cases hq)
  have h4:=List.length_pos_iff.2 h3
  rw [zlB,List.length_append]
  omega
theorem zBo {g:zab} (hg:GOk g){p:zaf} (hp:POk g p){goal:zaf}{n:Int} (h:goal ∈ zbE g p n):(zcW g p goal n).1.length≤(zbE g p n).length:=by
 obtain ⟨d,hd,hk⟩:=zbn.1 (zb6.1 h)
 rw [zyu hd hk,zzz hg hp n]
 have h1:=zqN (List.ne_nil_of_mem hk)
 exact Nat.le_trans h1 (zdc (zlD hg hp d).nd fun q hq=>zqO hd hq)
theorem zDB {g:zab}{p goal:zaf}{n:Int} (hf:zc6 (zau g p n)=true):(zcW g p goal n).2=if goal ∈ zbE g p n then 0 else 270:=by
 by_cases h:goal ∈ zbE g p n
 ·rw [if_pos h]
  exact zga.2 (zb6.1 h)
 ·rw [if_neg h,znv (fun h2=>h (zb6.2 h2)),hf]
  rfl
theorem zrr {l:List zaf} (h:Inc l):zen l=true:=by
 induction l with
 |nil=>rfl
 |cons a l ih=>
  cases l with
  |nil=>rfl
  |cons b l=>
   unfold Inc at h
   rw [List.pairwise_cons] at h
   have h1:=h.1 b ad
   have h2:=ih h.2
   simp [zen,h1,h2]
theorem zyv {g:zab} (hg:GOk g){p:zaf} (hp:POk g p) (goal:zaf) (n:Int):(zcW g p goal n).1.length≤4002∧∀q ∈ (zcW g p goal n).1,POk g q:=by
 unfold zcW
 cases hf:(zau g p n).findIdx? (fun x=>decide (goal ∈ x.1)) with
 |none=>simp
 |some d=>
  obtain ⟨hd,hin, _⟩:=List.findIdx?_eq_some_iff_getElem.1 hf
  simp only
  obtain ⟨h1,h2,h3⟩:=zjW hg hp n d
  have hc:=zir g p n d
  have hgl:goal ∈ nth (((zau g p n).take (d+1)).map (·.1)) ((((zau g p n).take (d+1)).map (·.1)).length - 1):=by
   have hl:(((zau g p n).take (d+1)).map (·.1)).length=d+1:=ak
   rw [hl,Nat.add_sub_cancel,za9 _ _ _ ak,zap _ _ ak]
   simpa using hin
  generalize ((zau g p n).take (d+1)).map (·.1)=past at *
  refine ⟨by simpa [zgt] using h1,fun q hq=> ?_⟩
  obtain ⟨i,hi,rfl⟩:=List.mem_map.1 hq
  have hi:=List.mem_range.1 hi
  exact h2 _ (zag hi) _ (zh1 hi hgl _ (ziB hc hgl i hi))
structure GoalF (g:zab) (s:zaf) (Z:List zaf) (I:List zbh) (q:zaf) (gr:List zaf×Int) (rf:Int×Int) (la bk:List zaf×Int):Prop where
 game:zaD Tryz.prog 12 [.agg (zac g), .agg (zae s), .agg (zae q), .int 50] (.tup [zaC gr.1, .int gr.2])
 gr2:gr.2=if q ∈ Z then 0 else 270
 gr1:q ∈ Z→0<gr.1.length∧gr.1.length≤50
 ref:zaD Tryz.prog 14 [.agg (zac g), .agg (zae s), .agg (zae q),zeE I] (.tup [.int rf.1, .int rf.2])
 ref2:q ∈ Z→rf.2=270
 find:zaD Tryz.prog 13 [zaC Z, .agg (zae q)] (.int (zrH Z q))
 fnd:0≤zrH Z q↔q ∈ Z
 chk:q ∈ Z→zaD Tryz.prog 15 [.agg (zac g), .agg (zae s), .agg (zae q),zaC gr.1] (.v (.bool true))
 last:zaD Tryz.prog 16 [.agg (zac g), .agg (zae s), .agg (zae q), .int 50] (.tup [zaC la.1, .int la.2])
 la2:q ∈ Z→la.2=0
 back:zaD Tryz.prog 17 [.agg (zac g), .agg (zae q)] (.tup [zaC bk.1, .int bk.2])
 bk2:bk.2=0∨bk.2=2
 srt:q ∈ Z→zaD Tryz.prog 18 [zaC la.1] (.v (.bool true))
 pre:q ∈ Z→1<gr.1.length→∃k:Int,0≤k∧zaD Tryz.prog 13 [zaC la.1, .agg (zae (nth gr.1 (gr.1.length - 2)))] (.int k)
 lal:la.1.length≤4000
 anf:∀i,i<gr.1.length→∃k:Int,zaD Tryz.prog 13 [zaC la.1, .agg (zae (nth gr.1 i))] (.int k)
 inb:q ∈ Z→∀i,i<la.1.length→∃k:Int,(bk.2=0→0≤k)∧zaD Tryz.prog 13 [zaC bk.1, .agg (zae (nth la.1 i))] (.int k)
 inz:q ∈ Z→∀i,i<la.1.length→∃k:Int,0≤k∧zaD Tryz.prog 13 [zaC Z, .agg (zae (nth la.1 i))] (.int k)
theorem goalF {g:zab} (hg:GOk g) (hos:zcx g){s:zaf} (hs:POk g s) (hf:zc6 (zau g s 50)=true) (hz:(zbE g s 50).length≤50){I:List zbh} (hI:∀x ∈ I,zkE g x) (hIl:I.length≤1048576){q:zaf} (hq:POk g q):
  GoalF g s (zbE g s 50) I q (zcW g s q 50) (zfC g s q 0 I) (ze1 g s q 50) (zj6 g q):=by
 have hso:=zmk hg hs 50
 have hsi:=zdL g s 50
 have hgi:=zDB (goal:=q) hf
 have hgo:=zyv hg hs q 50
 have hlm:=fun z (hz:z ∈ (ze1 g s q 50).1)=>zyR hz
 have hli:=zyQ g s q 50
 have hll:(ze1 g s q 50).1.length≤50:=Nat.le_trans (zdc (zh6 hli) fun z hz=>(hlm z hz).1) hz
 have hlo:∀z ∈ (ze1 g s q 50).1,zaQ z:=fun z hz=>(hso z (hlm z hz).1).fits hg
 have hz0:q ∈ zbE g s 50→(zcW g s q 50).2=0:=fun h=>by rw [hgi,if_pos h]
 refine ⟨zpB g hg s hs q (hq.fits hg) 50,hgi,fun h=>⟨List.length_pos_iff.2 (of_decide_eq_true (zi0 (hz0 h))).1,Nat.le_trans (zBo hg hs h) hz⟩,zr9 g hg hos s q hs hq I hI hIl,fun h=>by rw [zmf hg hs h],zdt _ hsi aa (fun z hz=>(hso z hz).fits hg) q (hq.fits hg),zfu hsi,fun h=> ?_,
  zpF g hg s hs q (hq.fits hg) 50,fun h=>zBv.2 ⟨hf,h⟩,zw2 g hg hos q hq, ?_,fun h=> ?_,fun h h2=> ?_,aa,fun i hi=>⟨_,zdt _ hli aa hlo _ ((hgo.2 _ (zag hi)).fits hg)⟩,fun h i hi=> ?_,fun h i hi=> ?_⟩
 ·have:=zuS g hg s q (hs.fits hg) (hq.fits hg) (zcW g s q 50).1 aa hgo.2
  rw [zi0 (hz0 h)] at this
  exact this
 ·unfold zj6
  split
  ·exact .inr rfl
  ·exact .inl rfl
 ·have:=zsc (ze1 g s q 50).1 aa hlo
  rw [zrr hli] at this
  exact this
 ·have hm:=zsZ hf (hz0 h) aa
  exact ⟨_,(zfu hli).2 hm,zdt _ hli aa hlo _ (hlo _ hm)⟩
 ·have hm:=zag hi
  have hzf:=hlo _ hm
  rw [zgd hg hs hf h] at hm
  have hm2:=(List.mem_filter.1 hm).1
  by_cases h2:4000<(zdo g q).length
  ·have e:zj6 g q=([],2):=by unfold zj6;rw [if_pos h2]
   rw [e]
   exact ⟨_,(fun h=>absurd h am),zdt [] (by simp [Inc]) ad ad _ hzf⟩
  ·have e:zj6 g q=(zdo g q,0):=by unfold zj6;rw [if_neg h2]
   rw [e]
   rw [← zgd hg hs hf h] at hm
   exact ⟨_,fun _=>(zfu (zhg g q)).2 (by rw [zgd hg hs hf h];rw [zgd hg hs hf h] at hm;exact (List.mem_filter.1 (zag (by rw [← zgd hg hs hf h];exact hi))).1),zdt _ (zhg g q) aa (fun z hz=>(zvl hg hz).fits hg) _ hzf⟩
 ·have hm:=(hlm _ (zag hi)).1
  exact ⟨_,(zfu hsi).2 hm,zdt _ hsi aa (fun z hz=>(hso z hz).fits hg) _ ((hso _ hm).fits hg)⟩
theorem zBf {g:zab} (hg:GOk g) (hk:g.kinds.length=1∨g.kinds.length=2):(∀x ∈ zvK g,zkE g x)∧(zvK g).length≤1048576:=by
 have o1:=zp8 hg
 have o2:=zrd hg
 have o3:=znk hg (zg4 g)
 obtain ⟨n1,n2,n3⟩:=zqu hg hk
 unfold zvK
 refine ⟨fun x hx=> ?_, ?_⟩
 ·simp only [List.mem_append,List.mem_filter] at hx
  rcases hx with hx|hx|hx
  ·exact o1 x hx.1
  ·exact o2 x hx.1
  ·exact o3 x hx.1
 ·have h1:=List.length_filter_le (zca g) (zcU g)
  have h2:=List.length_filter_le (zca g) (zdP g)
  have h3:=List.length_filter_le (zca g) (zcP g (zg4 g))
  simp only [List.length_append]
  omega
theorem goalS {g:zab}{s:zaf}{Z:List zaf}{I:List zbh}{q:zaf}{gr:List zaf×Int}{rf:Int×Int}{la bk:List zaf×Int} (h:GoalF g s Z I q gr rf la bk):
  (∃ (fz r1 b2:Int) (l m b:List zaf),0≤fz∧(b2=0∨b2=2)∧(0<l.length∧l.length≤50)∧m.length≤4000∧
   zaD Tryz.prog 12 [.agg (zac g), .agg (zae s), .agg (zae q), .int 50] (.tup [zaC l, .int 0])∧
   zaD Tryz.prog 13 [zaC Z, .agg (zae q)] (.int fz)∧
   zaD Tryz.prog 14 [.agg (zac g), .agg (zae s), .agg (zae q),zeE I] (.tup [.int r1, .int 270])∧
   zaD Tryz.prog 15 [.agg (zac g), .agg (zae s), .agg (zae q),zaC l] (.v (.bool true))∧
   zaD Tryz.prog 16 [.agg (zac g), .agg (zae s), .agg (zae q), .int 50] (.tup [zaC m, .int 0])∧
   zaD Tryz.prog 17 [.agg (zac g), .agg (zae q)] (.tup [zaC b, .int b2])∧
   zaD Tryz.prog 18 [zaC m] (.v (.bool true))∧
   (1<l.length→∃k:Int,0≤k∧zaD Tryz.prog 13 [zaC m, .agg (zae (nth l (l.length - 2)))] (.int k))∧
   (∀i,i<l.length→∃k:Int,zaD Tryz.prog 13 [zaC m, .agg (zae (nth l i))] (.int k))∧
   (∀i,i<m.length→∃k:Int,(b2=0→0≤k)∧zaD Tryz.prog 13 [zaC b, .agg (zae (nth m i))] (.int k))∧
   (∀i,i<m.length→∃k:Int,0≤k∧zaD Tryz.prog 13 [zaC Z, .agg (zae (nth m i))] (.int k)))∨
  (∃ (fz r1 r2:Int) (l:List zaf),fz<0∧
   zaD Tryz.prog 12 [.agg (zac g), .agg (zae s), .agg (zae q), .int 50] (.tup [zaC l, .int 270])∧
   zaD Tryz.prog 13 [zaC Z, .agg (zae q)] (.int fz)∧
   zaD Tryz.prog 14 [.agg (zac g), .agg (zae s), .agg (zae q),zeE I] (.tup [.int r1, .int r2])):=by
 have h1:=h.game
 have h2:=h.gr2
 have h3:=h.ref
 by_cases hin:q ∈ Z
 ·rw [h2,if_pos hin] at h1
  rw [h.ref2 hin] at h3
  have h4:=h.last
  rw [h.la2 hin] at h4
  exact .inl ⟨_, _, _, _, _, _,h.fnd.2 hin,h.bk2,h.gr1 hin,h.lal,h1,h.find,h3,h.chk hin,h4,h.back,h.srt hin,h.pre hin,h.anf,h.inb hin,h.inz hin⟩
 ·rw [h2,if_neg hin] at h1
  have:¬0≤zrH Z q:=fun e=>hin (h.fnd.1 e)
  exact .inr ⟨_, _, _, _,aa,h1,h.find,h3⟩
theorem zwS {α:Type} [Inhabited α] {l:List α} (h:0<l.length){w:Int} (hw:0≤w):0≤w.tmod l.length∧(w.tmod l.length).toNat<l.length:=by
 have h2:=Int.tmod_nonneg (l.length:Int) hw
 have h3:=Int.tmod_lt_of_pos w (show (0:Int)<(l.length:Int) by omega)
 omega
theorem zj5 (x:zwW) (hx:zjw x) (y:zmE) (hy:zjx y) (w:Int) (hw:0≤w∧w≤65535):
  zaD Tryz.prog 3 [.agg (zd9 x), .agg (zcV y), .v (.int .u16 w)] (.v (.bool true)):=by
 have hg:=zks hx
 have hs:=zD5 hx
 have hos:zcx (zcp x):=zs6 x.g
 have hk:(zcp x).kinds.length=1∨(zcp x).kinds.length=2:=by
  have e:(zcp x).kinds.length=zdb x.g:=by simp [zcp,zig]
  rw [e]
  unfold zdb
  split<;>simp
 have hM:=zr7 x hx 50 aa hg hs
 have hC:=zon (zcp x) hg
 have hcnt:=zxZ hg hos
 have hF:=zqv hg
 have hk6:=hg.k6
 have hc9:=hg.c9
 have hN:=zrM (zcy (zcp x)) aa (by rw [hF.sh.l1];omega) (by rw [hF.sh.l2];omega) (fun y hy=>by
  rcases List.mem_append.1 hy with h|h
  ·have:=hF.sh.c1 y h;omega
  ·have:=hF.sh.c2 y h;omega)
 have hA:=zAe (zcp x) hg _ hs
 have hI:=zqI (zcp x) hg hos hk
 obtain ⟨hIo,hIl⟩:=zBf hg hk
 have hR:=zkJ (zcp x) hg y hy
 have hq1:=zi6 hg hy
 obtain ⟨er,her⟩:∃er,er=zd9 x:=⟨_,rfl⟩
 have herl:er.length=31:=by rw [her];exact zuD hx
 have herb:∀n,(∀c ∈ er,Bel n c)=True:=fun n=>by rw [her];exact zuC hx n
 obtain ⟨ey,hey⟩:∃ey,ey=zcV y:=⟨_,rfl⟩
 obtain ⟨yl, _, _, _, _, _,yb⟩:=zri hy
 have heyl:ey.length=18:=by rw [hey];exact yl
 have heyb:∀n,(∀c ∈ ey,Bel n c)=True:=fun n=>by rw [hey];exact yb n
 rw [← her] at hM ⊢
 rw [← hey] at hR ⊢
 generalize zcp x=g at *
 generalize zAb x=s at *
 generalize zei g y=q1 at *
 have hS:=zpl
 obtain ⟨ec,hec⟩:∃ec,ec=zbO (zcy g):=⟨_,rfl⟩
 have hecl:ec.length=2:=by rw [hec];rfl
 have hecb:∀n,(∀c ∈ ec,Bel n c)=True:=fun n=>eq_true (by
  have:=zkU (n:=n) (zcy g)
  rw [← hec] at this
  cases this
  assumption)
 simp only [← hec] at hC hN
 have hegl:(zac g).length=9:=rfl
 have hegb:∀n,(∀c ∈ zac g,Bel n c)=True:=fun n=>ae
 have hfull:=ztE hg hs (most:=50) aa aa
 have hsz:s ∈ zbE g s 50:=zb6.2 (zbn.2 ⟨0,aa,by rw [ze2];simp⟩)
 have hall:=fun h=>zxo (g:=g) (p:=s) (n:=50) h
 have hgl:=fun h1 h2 q=>goalF hg hos hs h1 h2 hIo hIl (q:=q)
 have hzo:=zmk hg hs 50
 have hZi:=zdL g s 50
 unfold zoK at hM
 generalize hct:zk5 (zcy g)=ct at *
 generalize zvK g=I at *
 generalize zbE g s 50=Z at *
 generalize allV g s=al at *
 generalize zeM g s 50=W at *
 obtain ⟨W1,W2⟩:=W
 simp only at hfull hM
 refine pF Tryz.func3 ?_
 refine J2 herl heyl ?_
 refine aP hS ?_
 refine J2 herl heyl ?_
 refine zEt hM (by simp [go_sem,herb]) ?_
 by_cases hW:W2=0
 rotate_left
 ·refine J3 herl heyl hW ?_
  refine Cx5 (hC) herl heyl hW hecl hecb ?_
  refine J5 herl heyl hW hecl hecb ?_
  refine Cx5 (hN) herl heyl hW hecl hecb ?_
  exact K5 herl heyl hW hecl hecb
 subst hW
 obtain ⟨hfu,hw1,hwl⟩:=hfull rfl
 subst hw1
 rw [hall hfu aa hsz] at hA
 have hgl:=hgl hfu aa
 clear hall hfull
 refine J2 herl heyl ?_
 refine Cx4 (hC) herl heyl hecl hecb ?_
 refine J4 herl heyl hecl hecb ?_
 refine Cx4 (hN) herl heyl hecl hecb ?_
 refine J4 herl heyl hecl hecb ?_
 refine zEr (fun hc3=> ?_) (fun hc3=> ?_)<;>simp at hc3
 ·exact K4 herl heyl hecl hecb
 have hLs:=zuV W1 W1 aa aa (fun q hq=>(hzo q hq).fits hg) (fun q hq=>(hzo q hq).fits hg)
 rw [decide_eq_true rfl] at hLs
 have hln:0<W1.length:=List.length_pos_iff.2 (List.ne_nil_of_mem hsz)
 obtain ⟨hj0,hj⟩:=zwS hln hw.1
 obtain ⟨hw0,hw1⟩:=hw
 have hw64: -9223372036854775808≤w∧w≤9223372036854775807:=aa
 have hgj:=za9 zae W1 _ hj
 have hln2:¬W1= []:=fun h=>by rw [h] at hln;exact absurd hln ad
 have hq0:=hzo _ (zag hj)
 generalize nth W1 (w.tmod W1.length).toNat=q0 at *
 refine J2 herl heyl ?_
 refine Cx2 (hA) herl heyl ?_
 refine J2 herl heyl ?_
 refine Cx2 (hLs) herl heyl ?_
 refine J7 herl heyl hj0 hj hgj hln2 hw64 ?_
 have hp0:=hgl q0 hq0
 have hp1:=hgl q1 hq1
 refine Cx3 (hR) herl heyl heyb ?_
 refine J7 herl heyl hj0 hj hgj hln2 hw64 ?_
 refine Cx2 (hI) herl heyl ?_
 refine J2 herl heyl ?_
 have hp0:=goalS hp0
 have hp1:=goalS hp1
 refine zEp (zEs (α:=Nat) (fun i=>⟨[(7, .v (.bool true)),(8, .ref 2 0 16 0 0),(9,zaC W1),(11, .ref 18 0 10 0 0),(12,zeE I),(13, .int i)], [(2, .rows true 0 16 [zac g++(zae s++ [zaC W1, .v (.bool true)])]),(18, .rows true 0 10 [zae q0++zae q1])],20⟩)
  (fun d i=>i+d=2) ?_ 2 0 ?_) ?_ ?_
 rotate_left
 ·rfl
 ·simp [go_sem,zad]
 ·simp
 rintro d i i1 hrec
 obtain ⟨hi,h2⟩:i≤2∧(i=2→d=0):=aa
 by_cases h3:i=2
 ·subst h3
  exact K0
 rcases (show i=0∨i=1 by omega) with hi|hi
 ·have hp:=hp0
  clear hp0 hp1
  refine J1 hi ?_
  rcases hp with ⟨fz,r1,b2,l,m,b,p1,p2,⟨p3,p4⟩,p5,c1,c2,c3,c4,c5,c6,c7,c8,c11,c9,c10⟩|⟨fz,r1,r2,l,p1,c1,c2,c3⟩
  ·have pl:l≠ []:=List.length_pos_iff.1 p3
   have p4':¬((50:Int)<(l.length:Int)):=aa
   obtain ⟨ix,k,t,ht1,ht,hnm,k2,k1⟩:∃ (ix:Nat) (k:Int) (t:Bool),decide ((1:Int)<(l.length:Int))=t∧((l.length:Int) - 2).toNat=ix∧nth (l.map zae) ix=zae (nth l ix)∧zaD Tryz.prog 13 [zaC m, .agg (zae (nth l ix))] (.int k)∧(t=true→¬(k<0)):=by
    by_cases hl1:1<l.length
    ·obtain ⟨k,k1,k2⟩:=c8 hl1
     exact ⟨_,k,true,ak,aa,za9 zae l (l.length - 2) aa,k2,fun _=>aa⟩
    ·obtain ⟨k,k2⟩:=c11 0 p3
     exact ⟨0,k,false,ak,aa,za9 zae l 0 p3,k2,fun h=>cc⟩
   refine aP c1 ?_
   refine J0 ?_
   refine aP c2 ?_
   refine J0 ?_
   refine aP c3 ?_
   refine J2 p1 pl ?_
   refine zEy _ (fun _=>c4) ae ?_
   refine J3 p1 pl p4' ?_
   refine aP c5 ?_
   refine J1 p1 ?_
   refine aP c6 ?_
   rcases p2 with hb|hb<;>cases t
   all_goals
    simp only [decide_eq_true_eq,decide_eq_false_iff_not] at ht1
    refine J1 hb ?_
    refine zEy _ (fun _=>c7) ae ?_
    refine J4 hb ht hnm ht1 ?_
    first|refine zEy _ (fun _=>k2) ae ?_|refine zEt k2 ae ?_
    refine J3 hb ht1 k1 ?_
    refine zEp (zEs (α:=Nat) (fun j=>⟨[(7, .v (.bool true)),(8, .ref 2 0 16 0 0),(9,zaC W1),(11, .ref 18 0 10 0 0),(12,zeE I),(13, .int i),(20,zaC m),(22,zaC b),(23, .int b2),(24, .int j)], [(2, .rows true 0 16 [zac g++(zae s++ [zaC W1, .v (.bool true)])]),(18, .rows true 0 10 [zae q0++zae q1])],20⟩)
     (fun d j=>j+d=m.length) ?_ m.length 0 ?_) ?_ ?_
    rotate_left
    ·simp
    ·simp [go_sem,zad,hb,hi]
    ·simp
    rintro d2 j j1 hrec2
    refine J0 ?_
    refine zEr (fun hj=> ?_) (fun hj=> ?_)<;>simp at hj
    ·obtain ⟨e1,e2,e3⟩:=c9 j hj
     obtain ⟨f1,f2,f3⟩:=c10 j hj
     have hmj:=za9 zae m j hj
     have e2':b2=0→¬(e1<0):=fun h=>by have:=e2 h;omega
     have f2':¬(f1<0):=aa
     simp only [hb] at e2'
     refine J2 hmj hb ?_
     refine zEy _ (fun _=>e3) ae ?_
     refine J3 hmj hb e2' ?_
     refine zEy _ (fun _=>f3) ae ?_
     refine J4 hmj hb e2' f2' ?_
     refine zEp (hrec2 (d2 - 1) aa (j+1) aa) ?_ ad
     simp [go_sem,zad,hb,hi]
    ·refine J1 hi ?_
     refine zEp (hrec (d - 1) aa (i+1) aa) ?_ ad
     simp [go_sem,zad,hb,hi]
  ·refine aP c1 ?_
   refine J0 ?_
   refine aP c2 ?_
   refine J0 ?_
   refine aP c3 ?_
   have hn:¬(0≤fz):=aa
   refine J1 hn ?_
   refine zEp (hrec (d - 1) aa (i+1) aa) ?_ ad
   simp [go_sem,zad,hi]
 ·have hp:=hp1
  clear hp0 hp1
  refine J1 hi ?_
  rcases hp with ⟨fz,r1,b2,l,m,b,p1,p2,⟨p3,p4⟩,p5,c1,c2,c3,c4,c5,c6,c7,c8,c11,c9,c10⟩|⟨fz,r1,r2,l,p1,c1,c2,c3⟩
  ·have pl:l≠ []:=List.length_pos_iff.1 p3
   have p4':¬((50:Int)<(l.length:Int)):=aa
   obtain ⟨ix,k,t,ht1,ht,hnm,k2,k1⟩:∃ (ix:Nat) (k:Int) (t:Bool),decide ((1:Int)<(l.length:Int))=t∧((l.length:Int) - 2).toNat=ix∧nth (l.map zae) ix=zae (nth l ix)∧zaD Tryz.prog 13 [zaC m, .agg (zae (nth l ix))] (.int k)∧(t=true→¬(k<0)):=by
    by_cases hl1:1<l.length
    ·obtain ⟨k,k1,k2⟩:=c8 hl1
     exact ⟨_,k,true,ak,aa,za9 zae l (l.length - 2) aa,k2,fun _=>aa⟩
    ·obtain ⟨k,k2⟩:=c11 0 p3
     exact ⟨0,k,false,ak,aa,za9 zae l 0 p3,k2,fun h=>cc⟩
   refine aP c1 ?_
   refine J0 ?_
   refine aP c2 ?_
   refine J0 ?_
   refine aP c3 ?_
   refine J2 p1 pl ?_
   refine zEy _ (fun _=>c4) ae ?_
   refine J3 p1 pl p4' ?_
   refine aP c5 ?_
   refine J1 p1 ?_
   refine aP c6 ?_
   rcases p2 with hb|hb<;>cases t
   all_goals
    simp only [decide_eq_true_eq,decide_eq_false_iff_not] at ht1
    refine J1 hb ?_
    refine zEy _ (fun _=>c7) ae ?_
    refine J4 hb ht hnm ht1 ?_
    first|refine zEy _ (fun _=>k2) ae ?_|refine zEt k2 ae ?_
    refine J3 hb ht1 k1 ?_
    refine zEp (zEs (α:=Nat) (fun j=>⟨[(7, .v (.bool true)),(8, .ref 2 0 16 0 0),(9,zaC W1),(11, .ref 18 0 10 0 0),(12,zeE I),(13, .int i),(20,zaC m),(22,zaC b),(23, .int b2),(24, .int j)], [(2, .rows true 0 16 [zac g++(zae s++ [zaC W1, .v (.bool true)])]),(18, .rows true 0 10 [zae q0++zae q1])],20⟩)
     (fun d j=>j+d=m.length) ?_ m.length 0 ?_) ?_ ?_
    rotate_left
    ·simp
    ·simp [go_sem,zad,hb,hi]
    ·simp
    rintro d2 j j1 hrec2
    refine J0 ?_
    refine zEr (fun hj=> ?_) (fun hj=> ?_)<;>simp at hj
    ·obtain ⟨e1,e2,e3⟩:=c9 j hj
     obtain ⟨f1,f2,f3⟩:=c10 j hj
     have hmj:=za9 zae m j hj
     have e2':b2=0→¬(e1<0):=fun h=>by have:=e2 h;omega
     have f2':¬(f1<0):=aa
     simp only [hb] at e2'
     refine J2 hmj hb ?_
     refine zEy _ (fun _=>e3) ae ?_
     refine J3 hmj hb e2' ?_
     refine zEy _ (fun _=>f3) ae ?_
     refine J4 hmj hb e2' f2' ?_
     refine zEp (hrec2 (d2 - 1) aa (j+1) aa) ?_ ad
     simp [go_sem,zad,hb,hi]
    ·refine J1 hi ?_
     refine zEp (hrec (d - 1) aa (i+1) aa) ?_ ad
     simp [go_sem,zad,hb,hi]
  ·refine aP c1 ?_
   refine J0 ?_
   refine aP c2 ?_
   refine J0 ?_
   refine aP c3 ?_
   have hn:¬(0≤fz):=aa
   refine J1 hn ?_
   refine zEp (hrec (d - 1) aa (i+1) aa) ?_ ad
   simp [go_sem,zad,hi]
theorem zB9 {P:Program}{t:TypeId}{fn:Fn}{first caps:Array Value}{l:List UInt8} (hl:l≠ []) (h:funcToken P (t, .func fn first caps)=l):
  ∃f F,fn= .func f∧first= #[]∧caps= #[]∧P.funcs[f]? =some F∧P.funcNamed F.name=some f∧F.name.toUTF8.data.toList=l:=by
 unfold funcToken at h
 cases fn with
 |func f=>
  simp only at h
  split at h
  ·rename_i hc
   simp only [Bool.and_eq_true,Array.isEmpty_iff] at hc
   split at h
   ·rename_i F hF
    split at h
    ·rename_i hn
     exact ⟨f,F,rfl,hc.1,hc.2,hF,by simpa using hn,h⟩
    ·exact absurd h.symm hl
   ·exact absurd h.symm hl
  ·exact absurd h.symm hl
 | _=>exact absurd h.symm hl
theorem ztw {P:Program}{w:World}{sp:Nat→Bool}{fuel:Nat}{e:TypeId}{d:TypeDesc}{v:Value}{l:List UInt8}{q:List MemPlace} (hd:P.underlying e=some d) (hf:∃a b c,d= .func a b c) (h:DataW.trod (funcToken P) P w 0 sp true fuel e [v]=some (.held l,q)):
  ∃fn first caps,v= .func fn first caps∧funcToken P (e, .func fn first caps)=l:=by
 obtain ⟨a,b,c,rfl⟩:=hf
 cases fuel with
 |zero=>simp [DataW.trod] at h
 |succ fuel=>
  simp only [DataW.trod,hd] at h
  cases v<;>simp at h
  exact ⟨_, _, _,rfl,h.1⟩
theorem zzM {P:Program}{w:World}{sp:Nat→Bool}{fuel:Nat}{e:TypeId}{d:TypeDesc}{v:Value}{q:List MemPlace} (hd:P.underlying e=some d) (hf:∃a b c,d= .func a b c) (h:DataW.trod (funcToken P) P w 0 sp true fuel e [v]=some (.nil,q)):v= .nilFunc:=by
 obtain ⟨a,b,c,rfl⟩:=hf
 cases fuel with
 |zero=>simp [DataW.trod] at h
 |succ fuel=>
  simp only [DataW.trod,hd] at h
  cases v<;>simp at h
  rfl
theorem zvp {a b:String} (h:a.toUTF8.data.toList=b.toUTF8.data.toList):a=b:=by
 have h1:a.toUTF8=b.toUTF8:=ByteArray.ext (Array.toList_inj.1 h)
 exact String.toByteArray_inj.1 h1
theorem zoU {n:String}{k:FuncId}{l:List UInt8}{t:TypeId}{fn:Fn}{first caps:Array Value} (hk:Tryz.prog.funcNamed n=some k) (hl:n.toUTF8.data.toList=l) (hne:l≠ []) (h:funcToken Tryz.prog (t, .func fn first caps)=l):fn= .func k∧first= #[]∧caps= #[]:=by
 obtain ⟨f,F,h1,h2,h3,h4,h5,h6⟩:=zB9 hne h
 have e:F.name=n:=zvp (h6.trans hl.symm)
 rw [e,hk] at h5
 cases h5
 exact ⟨h1,h2,h3⟩
def zt3:DataW Unit:= .agg [.nil, .iface "func" (.lit (.string [115,107,101,119,101,114,47,112,108,97,121,46,99,111,110,100,105,116,105,111,110,115,36,49])), .iface "func" (.lit (.string [115,107,101,119,101,114,47,112,108,97,121,46,99,111,110,100,105,116,105,111,110,115,36,50])), .iface "func" (.lit (.string [115,107,101,119,101,114,47,112,108,97,121,46,99,111,110,100,105,116,105,111,110,115,36,51]))]
theorem zsx {W:World} (h:funcsAt Tryz.prog W "skewer/play.conditions" zt3):
  ∃cs T fz,W.heap[0]? =some (.cells cs T fz)∧cs.toList= [.nilFunc, .func (.func 268) #[] #[], .func (.func 270) #[] #[], .func (.func 271) #[] #[]]:=by
 obtain ⟨g,t,cs,fuel,p,hg,ht,hcs,htr⟩:=h
 obtain rfl:g=0:=(Option.some.inj ((show Tryz.prog.globalNamed "skewer/play.conditions" =some 0 by kernel_rfl).symm.trans hg)).symm
 obtain rfl:t=172:=(Option.some.inj ((show (Tryz.prog.globals[0]?).map (·.type)=some 172 by kernel_rfl).symm.trans ht)).symm
 have hu:Tryz.prog.underlying 172=some (.array 4 171):=ai
 have hc1:Tryz.prog.cellsOf 171=1:=ai
 have hc4:Tryz.prog.cellsOf 172=4:=ai
 have hheap:∃T fz,W.heap[0]? =some (.cells cs T fz):=by
  unfold World.var? at hcs
  rw [show Tryz.prog.globalNamed "skewer/play.conditions" =some 0 by kernel_rfl] at hcs
  simp only [Option.bind_some] at hcs
  split at hcs
  ·rename_i c T fz hb
   cases hcs
   exact ⟨T,fz,hb⟩
  ·cases hcs
 obtain ⟨T,fz,hb⟩:=hheap
 refine ⟨cs,T,fz,hb, ?_⟩
 cases fuel with
 |zero=>simp [DataW.trod] at htr
 |succ fuel=>
  simp only [DataW.trod,hu,hc1,hc4,Nat.mul_one] at htr
  split at htr
  ·rename_i hl
   match hcl:cs.toList,hl with
   | [a,b,c,d], _=>
    rw [hcl] at htr
    obtain ⟨xs,hm,hx⟩:=Option.map_eq_some_iff.1 htr
    simp only [show List.range 4= [0,1,2,3] from rfl,List.mapM_cons,List.mapM_nil,List.drop_zero,List.drop_succ_cons,List.take_succ_cons,List.take_zero,Option.bind_eq_bind,Option.bind_eq_some_iff,Option.pure_def,Option.some.injEq] at hm
    obtain ⟨⟨y0,q0⟩,h0,l1,⟨⟨y1,q1⟩,h1,l2,⟨⟨y2,q2⟩,h2,l3,⟨⟨y3,q3⟩,h3,l4,rfl,rfl⟩,rfl⟩,rfl⟩,rfl⟩:=hm
    have hx1:=congrArg Prod.fst hx
    simp only [zt3,DataW.funcsOut,DataW.funcsOutAll,List.map_cons,List.map_nil,DataW.agg.injEq,List.cons.injEq,and_true] at hx1
    simp at hx1
    obtain ⟨rfl,rfl,rfl,rfl⟩:=hx1
    have hd:Tryz.prog.underlying 171=some (.func #[42,45,162] #[4] false):=ai
    have hf:∃a b c,TypeDesc.func #[42,45,162] #[4] false= .func a b c:=⟨_, _, _,rfl⟩
    obtain rfl:=zzM hd hf h0
    obtain ⟨f1,i1,c1,rfl,t1⟩:=ztw hd hf h1
    obtain ⟨f2,i2,c2,rfl,t2⟩:=ztw hd hf h2
    obtain ⟨f3,i3,c3,rfl,t3⟩:=ztw hd hf h3
    obtain ⟨rfl,rfl,rfl⟩:=zoU (n:= "skewer/play.conditions$1") (k:=268) ai (by decide+kernel) ad t1
    obtain ⟨rfl,rfl,rfl⟩:=zoU (n:= "skewer/play.conditions$2") (k:=270) ai (by decide+kernel) ad t2
    obtain ⟨rfl,rfl,rfl⟩:=zoU (n:= "skewer/play.conditions$3") (k:=271) ai (by decide+kernel) ad t3
    rfl
  ·cases htr
theorem zqE {W:World} (h:funcsAt Tryz.prog W "skewer/play.conditions" zt3):ziF W (fun _=>False):=by
 obtain ⟨cs,T,fz,hb,hcs⟩:=zsx h
 have hsz:cs.size=4:=by rw [← Array.length_toList,hcs];rfl
 intro q hq
 have e:q=(0, [AV.v .nilFunc, .fn (.func 268) [] [], .fn (.func 270) [] [], .fn (.func 271) [] []]):=by simpa [glbs] using hq
 subst e
 refine Rel.fp (C:=cs) (T:=T) (fz:=fz) rfl (fun h=>h) hb (by simp [hsz]) ?_ ?_
 ·intro u hu
  simp only [hcs,List.drop_zero] at hu
  simp at hu
  rcases hu with rfl|rfl|rfl|rfl<;>rfl
 ·simp only [hcs,List.drop_zero]
  exact .cons (.v _) (.cons (.fn .nil .nil) (.cons (.fn .nil .nil) (.cons (.fn .nil .nil) .nil)))
end Go.Av
end
section
open Go Go.Proofs Go.Av Go.ChangeShapes Go.RowKit
namespace Go.Proofs.YtnjjmmhiaaplmaaGreatDoor
theorem zBa:ownKnob Tryz.prog.godebug=none:=ai
theorem zDy:laidOutB Tryz.prog=true:=ai
abbrev zA8:List (String×DataW Unit):= [("math/bits.deBruijn32tab",Rows.laid_math_bits_deBruijn32tab),("math/bits.deBruijn64tab",Rows.laid_math_bits_deBruijn64tab),("internal/strconv.uint64pow10",Rows.laid_internal_strconv_uint64pow10),("skewer/play.conditions",Rows.laid_skewer_play_conditions)]
theorem zA9 (os:Os) (args:Array Value):laidMetH Tryz.prog zA8 ((World.doorLaid Tryz.prog 29 os).forCall (fun _ _=>0) ⟨#[],args, []⟩).memory:=
 laidMetH_of_parts3 (fuel:=8) (laidMet_of_run' 8 ai ai) ai ai
theorem zx7 (os:Os) (args:Array Value):((World.doorLaid Tryz.prog 29 os).forCall (fun _ _=>0) ⟨#[],args, []⟩).variablesB Tryz.prog=true:=ai
theorem zx6 (os:Os) (args:Array Value):(((World.doorLaid Tryz.prog 29 os).forCall (fun _ _=>0) ⟨#[],args, []⟩).heap.toList.drop Tryz.prog.globals.size).take ((begin Tryz.prog (fun _ _=>0) default).world.heap.size - Tryz.prog.globals.size)=
  (begin Tryz.prog (fun _ _=>0) default).world.heap.toList.drop Tryz.prog.globals.size:=ai
end Go.Proofs.YtnjjmmhiaaplmaaGreatDoor
end
section
/- Our library, part 14: arguments, as the statements read them, are values of the abstract domain. -/
namespace Go.Av
open Go

abbrev NoM:Nat→Prop:=fun _=>False

structure zpu (B:Nat) (bk:∀ {H:Type},DataW H→Nat):Prop where
 len:∀ {H:Type} (l r:List (DataW H)),bk (.slice l r)≤B→l.length≤maxLen→l.length≤B
 elem:∀ {H:Type} (l r:List (DataW H)) d,d ∈ l→bk (.slice l r)≤B→bk d≤B
 part:∀ {H:Type} (l:List (DataW H)) d,d ∈ l→bk (.agg l)≤B→bk d≤B
 str:∀ {H:Type} (l:List UInt8),bk (DataW.lit (H:=H) (.string l))≤B→l.length≤maxLen→l.length≤B

theorem zpu.any:zpu maxLen (fun _=>0):=⟨fun _ _ _ h=>h,fun _ _ _ _ _=>Nat.zero_le _,fun _ _ _ _=>Nat.zero_le _,fun _ _ h=>h⟩

def Opn (P:Program) (B:Nat) (bk:∀ {H:Type},DataW H→Nat){α:Type} (t:TypeId) (en:α→List AV) (Q:α→Prop):Prop:=
 ∀ {H:Type} (enc:TypeId×Value→H) (w:World) (fuel:Nat) (cs:List Value) (d:DataW H) (ps:List MemPlace),
  DataW.trod enc P w 0 (fun _=>true) true fuel t cs=some (d,ps)→bk d≤B→∃x,zaJ noP w NoM (en x) cs∧(∀c ∈ cs,zch c=true)∧cs.length=P.cellsOf t∧Q x

section
variable {P:Program} {B:Nat} {bk:∀ {H:Type},DataW H→Nat}
theorem Opn.int {t:TypeId}{k:IntKind} (ht:P.underlying t=some (.int k)) (hc:P.cellsOf t=1):Opn P B bk t (fun n:Int=> [.v (.int k n)]) (fun n=>(Lit.int k n).wf=true):=by
 intro H enc w fuel cs d ps h _
 obtain ⟨n,rfl, _,hw⟩:=DataW.trod_int ht h
 exact ⟨n, .cons (.v _) .nil,br,bc,hw⟩
theorem Opn.bool {t:TypeId} (ht:P.underlying t=some .bool) (hc:P.cellsOf t=1):Opn P B bk t (fun b:Bool=> [.v (.bool b)]) (fun _=>True):=by
 intro H enc w fuel cs d ps h _
 obtain ⟨n,rfl, _⟩:=DataW.trod_bool ht h
 exact ⟨n, .cons (.v _) .nil,br,bc,trivial⟩
theorem Opn.string {t:TypeId} (hB:zpu B bk) (ht:P.underlying t=some .string) (hc:P.cellsOf t=1):Opn P B bk t (fun s:ByteArray=> [.v (.string s)]) (fun s=>s.size≤B):=by
 intro H enc w fuel cs d ps h hb
 obtain ⟨n,rfl,hx,hm⟩:=DataW.trod_string ht h
 simp only [Prod.mk.injEq] at hx
 obtain ⟨rfl, _⟩:=hx
 refine ⟨n, .cons (.v _) .nil,br,bc, ?_⟩
 have:=hB.str _ hb (by simpa using hm)
 simpa using this
theorem Opn.imp {α:Type}{t:TypeId}{en:α→List AV}{Q Q':α→Prop} (h:Opn P B bk t en Q) (hq:∀x,Q x→Q' x):Opn P B bk t en Q':=by
 intro H enc w fuel cs d ps h1 h2
 obtain ⟨x,a,b,c,e⟩:=h enc w fuel cs d ps h1 h2
 exact ⟨x,a,b,c,hq x e⟩
theorem Opn.map {α β:Type}{t:TypeId}{en:α→List AV}{en':β→List AV}{Q:α→Prop}{Q':β→Prop} (h:Opn P B bk t en Q) (f:α→β) (hq:∀x,Q x→Q' (f x)) (he:∀x,Q x→en' (f x)=en x):Opn P B bk t en' Q':=by
 intro H enc w fuel cs d ps h1 h2
 obtain ⟨x,a,b,c,e⟩:=h enc w fuel cs d ps h1 h2
 exact ⟨f x,by rw [he x e];exact a,b,c,hq x e⟩
theorem ziN {w:World}{a:Addr}{n:Nat}{cs:List Value} (h:w.cells? 0 a n=some cs):cs.length=n∧∀i,i<n→w.cell? (a.add i)=cs[i]? :=by
 unfold World.cells? at h
 rw [if_pos (Nat.zero_le _)] at h
 exact ⟨by simpa using mapM_some_length h,fun i hi=>mapM_some_get h i i (by simp [hi])⟩
theorem zk0 {w:World}{a:Addr}{v:Value} (h:w.cell? a=some v):∃C T fz,w.heap[a.block]? =some (.cells C T fz)∧a.spot=none∧C[a.off]? =some v:=by
 unfold World.cell? at h
 split at h
 ·rename_i C T fz hb
  split at h
  ·cases h
  ·rename_i hs
   refine ⟨C,T,fz,hb, ?_,h⟩
   cases hsp:a.spot with
   |none=>rfl
   |some x=>simp [hsp] at hs
 ·cases h
theorem zkO (a:Addr) (n:Nat):(a.add n).block=a.block:=by unfold Addr.add;split<;>rfl
theorem zsk (a:Addr) (n:Nat):(a.add n).off=a.off+n:=by
 unfold Addr.add
 split
 ·rename_i h;subst h;rfl
 ·rfl
theorem zjT {φ:zaz}{w:World}{M:Nat→Prop}{rows:List (List AV)}{L:List Value}{sz:Nat} (hl:L.length=rows.length * sz)
  (h:∀i (hi:i<rows.length),zaJ φ w M rows[i] ((L.drop (i * sz)).take sz)):zaJ φ w M rows.flatten L:=by
 induction rows generalizing L with
 |nil=>simp at hl;subst hl;exact .nil
 |cons r rows ih=>
  have h0:=h 0 ad
  simp only [List.getElem_cons_zero,Nat.zero_mul,List.drop_zero] at h0
  rw [List.flatten_cons,← List.take_append_drop sz L]
  refine zaJ.append h0 (ih (by simp at hl ⊢;rw [hl,Nat.add_mul];omega) fun i hi=> ?_)
  have:=h (i+1) aJ
  simp only [List.getElem_cons_succ] at this
  rw [List.drop_drop,show sz+i * sz=(i+1) * sz by rw [Nat.add_mul];omega]
  exact this
theorem zll {α:Type} (n:Nat) (p:Nat→α→Prop) (h:∀i,i<n→∃x,p i x):∃l:List α,l.length=n∧∀i (hi:i<l.length),p i l[i]:=by
 induction n with
 |zero=>exact ⟨[],rfl,fun i hi=>by simp at hi⟩
 |succ n ih=>
  obtain ⟨l,hl,hp⟩:=ih fun i hi=>h i aa
  obtain ⟨x,hx⟩:=h n aa
  refine ⟨l++ [x],by simp [hl],fun i hi=> ?_⟩
  rcases Nat.lt_or_ge i l.length with h1|h1
  ·rw [List.getElem_append_left h1];exact hp i h1
  ·have:i=n:=by simp at hi;omega
   subst this
   simp [List.getElem_append_right,hl,hx]
theorem Opn.slice {α:Type}{t e:TypeId}{en:α→List AV}{Q:α→Prop}{sz:Nat} (hB:zpu B bk) (ht:P.underlying t=some (.slice e)) (hc:P.cellsOf t=1) (hz:P.cellsOf e=sz) (hp:0<sz)
  (he:Opn P B bk e en Q):Opn P B bk t (fun l:List α=> [.lst sz (l.map en)]) (fun l=>l.length≤B∧∀x ∈ l,Q x):=by
 intro H enc w fuel cs d ps h hb
 rcases DataW.trod_slice ht h with ⟨rfl, _⟩|⟨a,len,cap,zvC,rest,n,rfl,rfl,hx, _,hlen,hmax,hel,hget, _, _⟩
 ·exact ⟨[], .cons (.nil _ _ _) .nil,br,bc,ad,ad⟩
 ·simp only [Prod.mk.injEq] at hx
  obtain ⟨rfl, _⟩:=hx
  rw [hz] at hget
  have key:∀i (hi:i<len),∃x ci,w.cells? 0 (a.add (i * sz)) sz=some ci∧zaJ noP w NoM (en x) ci∧(∀c ∈ ci,zch c=true)∧Q x:=by
   intro i hi
   have h1:=hget i hi
   rw [List.getElem?_eq_getElem aa,Option.bind_eq_some_iff] at h1
   obtain ⟨ci,h2,h3⟩:=h1
   obtain ⟨x,a1,a2, _,a4⟩:=he enc w n ci zvC[i].1 zvC[i].2 h3 (hB.elem _ _ _ (List.mem_map.2 ⟨zvC[i],List.getElem_mem _,rfl⟩) hb)
   exact ⟨x,ci,h2,a1,a2,a4⟩
  have hlb:len≤B:=by have:=hB.len _ _ hb ak;simp at this;omega
  obtain ⟨l,hl,hx⟩:=zll len _ key
  refine ⟨l, ?_,br,bc,aa,fun x hxm=> ?_⟩
  ·rcases Nat.eq_zero_or_pos len with h0|h0
   ·have:l= []:=List.eq_nil_of_length_eq_zero aa
    subst this
    rw [h0]
    exact .cons (.nil _ _ _) .nil
   ·have cellI:∀i,i<len→∀j,j<sz→∃v,w.cell? (a.add (i * sz+j))=some v∧zch v=true:=by
     intro i hi j hj
     obtain ⟨x,ci,h2,a1,a2,a3⟩:=key i hi
     obtain ⟨hcl,hcg⟩:=ziN h2
     refine ⟨ci[j], ?_,a2 _ (List.getElem_mem aa)⟩
     have:=hcg j hj
     rw [List.getElem?_eq_getElem aa] at this
     rw [← this]
     simp only [World.cell?,zkO,zsk,Nat.add_assoc]
     by_cases hj0:j=0
     ·subst hj0;simp [Addr.add]
     ·simp [Addr.add,hj0]
    obtain ⟨v0,hv0, _⟩:=cellI 0 h0 0 hp
    obtain ⟨C,T,fz,hC,hs, _⟩:=zk0 hv0
    simp only [Nat.zero_mul,Nat.zero_add,Addr.add,if_true] at hC hs
    have cellC:∀k,k<len * sz→∃v,C[a.off+k]? =some v∧w.cell? (a.add k)=some v∧zch v=true:=by
     intro k hk
     have hi:k / sz<len:=Nat.div_lt_of_lt_mul (by rw [Nat.mul_comm];exact hk)
     have hj:k % sz<sz:=Nat.mod_lt _ hp
     obtain ⟨v,h1,h2⟩:=cellI _ hi _ hj
     rw [show k / sz * sz+k % sz=k by rw [Nat.mul_comm];exact Nat.div_add_mod k sz] at h1
     obtain ⟨C',T',fz',hC',hs',hv'⟩:=zk0 h1
     rw [zkO,hC] at hC'
     simp only [Option.some.injEq,Obj.cells.injEq] at hC'
     obtain ⟨rfl, _, _⟩:=hC'
     rw [zsk] at hv'
     exact ⟨v,hv',h1,h2⟩
    have hsz:a.off+len * sz≤C.size:=by
     have hpos:0<len * sz:=Nat.mul_pos h0 hp
     obtain ⟨v,h1, _⟩:=cellC (len * sz - 1) aa
     have:=(Array.getElem?_eq_some_iff.1 h1).1
     omega
    have hL:((C.toList.drop a.off).take (len * sz)).length=len * sz:=ak
    have hget:∀k,k<len * sz→((C.toList.drop a.off).take (len * sz))[k]? =C[a.off+k]? :=by
     intro k hk
     rw [List.getElem?_take,if_pos hk,List.getElem?_drop];simp
    have hrl:∀i (hi:i<l.length),∃ci,w.cells? 0 (a.add (i * sz)) sz=some ci∧zaJ noP w NoM (en l[i]) ci:=fun i hi=>by
     obtain ⟨ci,h2,a1, _⟩:=hx i hi
     exact ⟨ci,h2,a1⟩
    refine .cons (.lst (C:=C) (T:=T) (fz:=fz) hs (fun h=>h) hC (fun r hr=> ?_) ak (by rw [List.length_map,hl];exact hsz) aa (fun u hu=> ?_) ?_) .nil
    ·obtain ⟨x,hxm,rfl⟩:=List.mem_map.1 hr
     obtain ⟨i,hi,rfl⟩:=List.getElem_of_mem hxm
     obtain ⟨ci,h2,a1⟩:=hrl i hi
     rw [a1.length,(ziN h2).1]
    ·rw [List.length_map,hl] at hu
     obtain ⟨k,hk,rfl⟩:=List.getElem_of_mem hu
     rw [hL] at hk
     obtain ⟨v,h1, _,h3⟩:=cellC k hk
     have:=hget k hk
     rw [List.getElem?_eq_getElem aa,h1] at this
     simp only [Option.some.injEq] at this
     rw [this];exact h3
    ·rw [List.length_map,hl]
     refine zjT (sz:=sz) (by rw [hL,List.length_map,hl]) fun i hi=> ?_
     rw [List.length_map] at hi
     obtain ⟨ci,h2,a1⟩:=hrl i hi
     rw [List.getElem_map]
     obtain ⟨hcl,hcg⟩:=ziN h2
     have hle:(i+1) * sz≤len * sz:=Nat.mul_le_mul_right _ aa
     rw [Nat.add_mul] at hle
     have:ci=(((C.toList.drop a.off).take (len * sz)).drop (i * sz)).take sz:=by
      refine List.ext_getElem? fun j=> ?_
      rcases Nat.lt_or_ge j sz with hj|hj
      ·rw [← hcg j hj,List.getElem?_take,if_pos hj,List.getElem?_drop,hget _ aa]
       obtain ⟨v,h1,h3, _⟩:=cellC (i * sz+j) aa
       rw [h1,← h3]
       simp only [World.cell?,zkO,zsk,Nat.add_assoc]
       by_cases hj0:j=0
       ·subst hj0;simp [Addr.add]
       ·simp [Addr.add,hj0]
      ·rw [List.getElem?_eq_none aa,List.getElem?_eq_none ak]
     rw [← this];exact a1
  ·obtain ⟨i,hi,rfl⟩:=List.getElem_of_mem hxm
   obtain ⟨ci, _, _, _,a4⟩:=hx i hi
   exact a4
theorem Opn.array {α:Type}{t e:TypeId}{en:α→List AV}{Q:α→Prop}{n sz:Nat} (hB:zpu B bk) (ht:P.underlying t=some (.array n e)) (hz:P.cellsOf e=sz) (hc:P.cellsOf t=n * sz)
  (he:Opn P B bk e en Q):Opn P B bk t (fun l:List α=>(l.map en).flatten) (fun l=>l.length=n∧∀x ∈ l,Q x):=by
 intro H enc w fuel cs d ps h hb
 obtain ⟨xs,m, _,hx,hl,hxl,hget⟩:=DataW.trod_array ht h
 simp only [Prod.mk.injEq] at hx
 obtain ⟨rfl, _⟩:=hx
 rw [hz] at hget
 have key:∀i,i<n→∃x,zaJ noP w NoM (en x) ((cs.drop (i * sz)).take sz)∧(∀c ∈ (cs.drop (i * sz)).take sz,zch c=true)∧Q x:=by
  intro i hi
  have h1:=hget i hi
  rw [List.getElem?_eq_getElem aa] at h1
  obtain ⟨x,a1,a2, _,a4⟩:=he enc w m _ xs[i].1 xs[i].2 h1 (hB.part _ _ (List.mem_map.2 ⟨xs[i],List.getElem_mem _,rfl⟩) hb)
  exact ⟨x,a1,a2,a4⟩
 obtain ⟨l,hll,hx⟩:=zll n _ key
 rw [hc] at hl
 refine ⟨l,zjT (sz:=sz) (by rw [List.length_map,hll];exact hl) (fun i hi=> ?_),fun c hcm=> ?_,by rw [hc];exact hl,hll,fun x hxm=> ?_⟩
 ·rw [List.length_map] at hi
  rw [List.getElem_map];exact (hx i hi).1
 ·obtain ⟨k,hk,rfl⟩:=List.getElem_of_mem hcm
  have hp:0<sz:=Nat.pos_of_ne_zero fun h0=>by subst h0;simp at hl;subst hl;simp at hk
  have hi:k / sz<n:=Nat.div_lt_of_lt_mul (by rw [Nat.mul_comm,← hl];exact hk)
  have hj:k % sz<sz:=Nat.mod_lt _ hp
  have e:k / sz * sz+k % sz=k:=by rw [Nat.mul_comm];exact Nat.div_add_mod k sz
  refine (hx (k / sz) aa).2.1 _ (List.mem_iff_getElem?.2 ⟨k % sz, ?_⟩)
  rw [List.getElem?_take,if_pos hj,List.getElem?_drop,e]
  exact List.getElem?_eq_getElem hk
 ·obtain ⟨i,hi,rfl⟩:=List.getElem_of_mem hxm
  exact (hx i hi).2.2
def zju (P:Program) (B:Nat) (bk:∀ {H:Type},DataW H→Nat){α:Type} (ts:List TypeId) (en:α→List AV) (Q:α→Prop):Prop:=
 ∀ {H:Type} (enc:TypeId×Value→H) (w:World) (fuel:Nat) (cs:List Value),cs.length=(ts.map P.cellsOf).sum→
  (∀i (hi:i<ts.length),∃d ps,DataW.trod enc P w 0 (fun _=>true) true fuel ts[i] ((cs.drop ((ts.take i).map P.cellsOf).sum).take (P.cellsOf ts[i]))=some (d,ps)∧bk d≤B)→
  ∃x,zaJ noP w NoM (en x) cs∧(∀c ∈ cs,zch c=true)∧Q x
theorem zju.nil:zju P B bk [] (fun _:Unit=> []) (fun _=>True):=by
 intro H enc w fuel cs hl _
 have:cs= []:=List.eq_nil_of_length_eq_zero cC
 subst this
 exact ⟨(), .nil,ad,trivial⟩
theorem zju.cons {α β:Type}{t:TypeId}{ts:List TypeId}{en:α→List AV}{Q:α→Prop}{en':β→List AV}{Q':β→Prop} (h:Opn P B bk t en Q) (h':zju P B bk ts en' Q'):
  zju P B bk (t::ts) (fun x:α×β=>en x.1++en' x.2) (fun x=>Q x.1∧Q' x.2):=by
 intro H enc w fuel cs hl hd
 obtain ⟨d,ps,h1,h2⟩:=hd 0 ad
 simp only [List.getElem_cons_zero,List.take_zero,List.map_nil,List.sum_nil,List.drop_zero] at h1
 obtain ⟨x,a1,a2,a3,a4⟩:=h enc w fuel _ d ps h1 h2
 obtain ⟨y,b1,b2,b3⟩:=h' enc w fuel (cs.drop (P.cellsOf t)) (by simp at hl ⊢;omega) (fun i hi=>by
  obtain ⟨d,ps,k1,k2⟩:=hd (i+1) aJ
  simp only [List.getElem_cons_succ,List.take_succ_cons,List.map_cons,List.sum_cons] at k1
  exact ⟨d,ps,by rw [List.drop_drop];exact k1,k2⟩)
 refine ⟨(x,y), ?_,fun c hc=> ?_,a4,b3⟩
 ·rw [← List.take_append_drop (P.cellsOf t) cs]
  exact zaJ.append a1 b1
 ·rw [← List.take_append_drop (P.cellsOf t) cs] at hc
  rcases List.mem_append.1 hc with hc|hc
  ·exact a2 c hc
  ·exact b2 c hc
def zt6 (P:Program) (t:TypeId) (ts:List TypeId):Bool:=match P.underlying t with
 |some (.struct fs)=>decide (fs.toList.map (·.type)=ts) && decide (fs.toList.map (·.offset)=(List.range ts.length).map fun i=>((ts.take i).map P.cellsOf).sum) && decide (P.cellsOf t=(ts.map P.cellsOf).sum)
 | _=>false
theorem Opn.struct {α:Type}{t:TypeId}{ts:List TypeId}{en:α→List AV}{Q:α→Prop} (hB:zpu B bk) (ht:zt6 P t ts=true) (h:zju P B bk ts en Q):Opn P B bk t en Q:=by
 unfold zt6 at ht
 split at ht
 ·rename_i fs hfs
  simp only [Bool.and_eq_true,decide_eq_true_eq] at ht
  obtain ⟨⟨h1,h2⟩,h3⟩:=ht
  intro H enc w fuel cs d ps hd hb
  obtain ⟨xs,n, _,hx,hl,hxl,hget⟩:=DataW.trod_struct hfs hd
  simp only [Prod.mk.injEq] at hx
  obtain ⟨rfl, _⟩:=hx
  have hlen:fs.size=ts.length:=by rw [← h1];simp
  obtain ⟨x,a1,a2,a3⟩:=h enc w n cs (by rw [hl,h3]) (fun i hi=>by
   have hi':i<fs.size:=aa
   have e1:fs[i].type=ts[i]:=by
    have:=congrArg (fun l=>l[i]?) h1
    simp [hi',List.getElem?_eq_getElem hi] at this
    exact this
   have e2:fs[i].offset=((ts.take i).map P.cellsOf).sum:=by
    have:=congrArg (fun l=>l[i]?) h2
    simp [hi',hi] at this
    rw [this,List.map_take]
   have:=hget i fs[i] (Array.getElem?_eq_getElem hi')
   rw [e1,e2,List.getElem?_eq_getElem aa] at this
   exact ⟨xs[i].1,xs[i].2,this,hB.part _ _ (List.mem_map.2 ⟨xs[i],List.getElem_mem _,rfl⟩) hb⟩)
  exact ⟨x,a1,a2,hl,a3⟩
 ·cases ht
def outer (P:Program) (t:TypeId):Bool:=match P.underlying t with
 |some (.struct _)|some (.array _ _)=>true
 | _=>false
def wrapAV (agg:Bool) (cs:List AV):AV:=if agg then .agg cs else cel cs 0
theorem zEZ {α:Type}{t:TypeId}{en:α→List AV}{Q:α→Prop} (h:Opn P B bk t en Q){ag:Bool} (ho:outer P t=ag) (h1:ag=false→P.cellsOf t=1){H:Type}{enc:TypeId×Value→H}{W:World}{base:Nat}{r:Reach}{v:Value}{d:DataW H}{ps:List MemPlace}
  (hval:Value.okWide P W r base t v) (hd:DataW.Trod enc P W 0 (fun _=>true) true t v d ps) (hb:bk d≤B):∃x,Rel noP W NoM (wrapAV ag (en x)) v∧Q x:=by
 obtain ⟨fuel,hd⟩:=hd
 obtain ⟨x,a1,a2,a3,a4⟩:=h enc W fuel _ d ps hd hb
 refine ⟨x, ?_,a4⟩
 unfold outer at ho
 unfold Value.okWide at hval
 split at ho
 ·rename_i hu
  subst ho
  rw [hu] at hval
  obtain ⟨cs,rfl, _, _⟩:=hval
  exact .agg (vs:=cs.toList) a2 a1
 ·rename_i hu
  subst ho
  rw [hu] at hval
  obtain ⟨cs,rfl, _, _⟩:=hval
  exact .agg (vs:=cs.toList) a2 a1
 ·subst ho
  rw [h1 rfl] at a3
  have hv:v.cells.toList= [v]:=by
   unfold Value.cells at a3 a2 ⊢
   split
   ·rename_i cs
    exfalso
    split at hval
    ·simp_all
    ·simp_all
    ·unfold Cell.okWide at hval
     split at hval<;>simp_all [Cell.ok]
   ·rfl
  rw [hv] at a1
  cases he:en x with
  |nil=>rw [he] at a1;cases a1
  |cons y ys=>
   rw [he] at a1
   cases a1 with
   |cons a1 _=>exact a1

theorem zwr {f:Func}{s:ChangeSpec}{apart fresh handsOn again:Bool}{H:Type}{enc:TypeId×Value→H}{W W':World}{args:Array Value}{v:Value}{ds gs:List (DataW H)}{before:List MemPlace}
  (hlo:laidOutB P=true) (hts:f.params.toList.all (fun t=>P.readableRec t && decide (t<P.types.size))=true) (hv:s.vars= [])
  (hW:DataW.Whole enc P f.params.toList s.vars apart W args.toList ds gs before)
  (hres:∀ (b:Nat) (sp:Nat→Bool) (hd:Bool),DataW.TrodAll enc P W' b sp hd f.resultTypes.toList (v.resultList f.resultTypes.size) (s.fn H (ds++gs)).results [])
  (hargs:(s.fn H (ds++gs)).args=ds) (hvars:(s.fn H (ds++gs)).vars= [])
  (hfr:Fr W (fun _=>False) W')
  (hok:∀ (j:Nat) (t:TypeId) (r:Value),f.resultTypes[j]? =some t→(v.resultList f.resultTypes.size)[j]? =some r→Value.okWide P W' .any 0 t r):
  s.post enc P f apart fresh handsOn again W args v W':=by
 have hlt:∀p ∈ before,p.block<W.heap.size:=fun p hp=>hW.lt p hp
 have hsame:∀p:MemPlace,p.block<W.heap.size→W.sameAt W' p:=fun p hp=>(Go.RowKit.Below.same ⟨hfr.os,hfr.tape,hfr.output,hfr.size,fun k hk=>hfr.block k hk (fun h=>h)⟩ hp)
 obtain ⟨p,q,hA,hV,hpq,hz,hn⟩:=id hW
 rw [hv] at hV
 have hq:q= []∧gs= []:=by
  cases gs with
  |nil=>exact ⟨hV,rfl⟩
  |cons g gs=>exact hV.elim
 obtain ⟨rfl,rfl⟩:=hq
 rw [List.append_nil] at hpq
 subst hpq
 have key:∀ (sp:Nat→Bool) (ts:List TypeId) (vs:List Value) (ds:List (DataW H)) (ps:List MemPlace),ts.all (fun t=>P.readableRec t && decide (t<P.types.size))=true→(∀x ∈ ps,x.block<W.heap.size)→(∀x ∈ ps,sp x.block=true)→
   DataW.TrodAll enc P W 0 (fun _=>true) true ts vs ds ps→DataW.TrodAll enc P W' 0 sp true ts vs ds ps:=by
  intro sp ts
  induction ts with
  |nil=>
   intro vs ds ps _ _ _ h
   cases vs<;>cases ds<;>simp [DataW.TrodAll] at h ⊢
   exact h
  |cons t ts ih=>
   intro vs ds ps ht hlt hsp h
   obtain ⟨v,vs',d,ds',a,b,rfl,rfl,rfl,h1,h2⟩:=ChangeShapes.trodAll_cons h
   simp only [List.all_cons,Bool.and_eq_true,decide_eq_true_eq] at ht
   obtain ⟨⟨hr,hs⟩,hts⟩:=ht
   exact ⟨a,b,WideElems.Trod_stays hlo hr hs h1 (fun x hx=>hsame x (hlt x (List.mem_append_left _ hx))) (fun x hx=>hsp x (List.mem_append_left _ hx)),
    ih _ _ _ (by simpa using hts) (fun x hx=>hlt x (List.mem_append_right _ hx)) (fun x hx=>hsp x (List.mem_append_right _ hx)) h2,rfl⟩
 have key':∀sp:Nat→Bool,(∀x ∈ before,sp x.block=true)→DataW.TrodAll enc P W' 0 sp true f.params.toList args.toList (s.fn H (ds++ [])).args before:=fun sp hsp=>by
  rw [hargs];exact key sp _ _ _ _ hts hlt hsp hA
 have kv:∀sp:Nat→Bool,DataW.TrodVars enc P W' sp s.vars (s.fn H (ds++ [])).vars []:=fun sp=>by rw [hv,hvars];rfl
 refine ⟨ds, [],before, [],before, [],hW,hres _ _ _,key' _ (fun x hx=>by simpa using hlt x hx),kv _, ?_,fun _=>⟨hok, _, _,([]++before)++ [],⟨[]++before, [],ChangeShapes.trodAll_append (key' _ fun _ _=>rfl) (hres _ _ _),kv _,rfl, ?_, ?_⟩, ?_⟩⟩
 ·refine ⟨hfr.os,hfr.output,fun i hi=> ?_⟩
  rw [hfr.block i hi (fun h=>h)]
  cases h:W.heap[i]? with
  |none=>simp
  |some o=>cases o<;>simp
 ·intro b off hp
  have hp':MemPlace.cell b off ∈ before:=by simpa using hp
  have hb:=hlt _ hp'
  have:=hz b off hp'
  unfold World.frozen? at this ⊢
  simp only [MemPlace.block] at hb
  rw [show W'.heap[b]? =W.heap[b]? from hfr.block b hb (fun h=>h)]
  exact this
 ·intro ha
  simpa using hn ha
 ·intro x hx _
  simpa using hx
theorem zj9 {f:FuncId}{fn:Func}{tb:TypeId}{s:ChangeSpec}{apart fresh handsOn again:Bool}{H:Type}{enc:TypeId×Value→H}{W:World}{args:Array Value}{ds gs:List (DataW H)}{before:List MemPlace}
  (hlo:laidOutB P=true) (hts:fn.params.toList.all (fun t=>P.readableRec t && decide (t<P.types.size))=true) (hv:s.vars= []) (hrt:fn.resultTypes= #[tb]) (hb:P.underlying tb=some .bool)
  (hW:DataW.Whole enc P fn.params.toList s.vars apart W args.toList ds gs before)
  (hfn:gs= []→s.fn H (ds++gs)={ results:= [.lit (.bool true)],args:=ds}) {avs:List AV} (hp:zaD P f avs (.v (.bool true))) (hr:zaJ noP W NoM avs args.toList) (hg:ziF W NoM:=by intro p hp;simp [glbs] at hp):
  Calls P f args W fun e W'=>∃v,e= .returned v∧s.post enc P fn apart fresh handsOn again W args v W':=by
 have hgs:gs= []:=by
  obtain ⟨p,q,hA,hV, _⟩:=hW
  rw [hv] at hV
  cases gs with
  |nil=>rfl
  |cons g gs=>exact hV.elim
 have:=hp.2 NoM W args.toList (fun k hk=>hk.elim) hg hr
 rw [show (⟨args.toList⟩:Array Value)=args from rfl] at this
 refine this.mono ?_
 rintro e W' ⟨v,rfl,hv',hfr⟩
 cases hv'
 refine ⟨_,rfl,zwr hlo hts hv hW (fun b sp hd=> ?_) (by rw [hfn hgs]) (by rw [hfn hgs]) hfr ?_⟩
 ·rw [hfn hgs,hrt]
  exact trodAll_cons_mk (RowKit.shut_bool hb _) ChangeShapes.trodAll_mk0
 ·exact RowKit.ok_one hrt rfl (RowKit.okWide_bool_mk hb true)
end
end Go.Av
end
section
open Go Go.Proofs
namespace Go.Av
open Go.Proofs.YtnjjmmhiaaplmaaGreatDoor
theorem zCc {H:Type} (d:DataW H):1≤Rows.uptoBulk d:=by
 cases d with
 |lit l=>cases l<;>simp [Rows.uptoBulk]
 | _=>simp [Rows.uptoBulk]
theorem zmB {H:Type}{d:DataW H}{l:List (DataW H)} (h:d ∈ l):Rows.uptoBulk d≤Rows.uptoBulkAll l:=by
 induction l with
 |nil=>cases h
 |cons x r ih=>
  simp only [Rows.uptoBulkAll]
  rcases List.mem_cons.1 h with e|e
  ·subst e;omega
  ·have:=ih e;omega
theorem ztz {H:Type} (l:List (DataW H)):l.length≤Rows.uptoBulkAll l:=by
 induction l with
 |nil=>simp [Rows.uptoBulkAll]
 |cons x r ih=>have:=zCc x;simp only [Rows.uptoBulkAll,List.length_cons];omega
theorem zpu.upto {B:Nat}:zpu B (fun d=>Rows.uptoBulk d) where
 len:=fun l r h _=>by
  have:=ztz l
  simp only [Rows.uptoBulk] at h;omega
 elem:=fun l r d hd h=>by
  have:=zmB hd
  simp only [Rows.uptoBulk] at h;omega
 part:=fun l d hd h=>by
  have:=zmB hd
  simp only [Rows.uptoBulk] at h;omega
 str:=fun l h _=>by
  simp only [Rows.uptoBulk] at h;omega
theorem zjr {H:Type}{l:List (DataW H)} (hk:Rows.uptoSmall H l=true){d:DataW H} (hd:d ∈ l):Rows.uptoBulk d≤1048576:=by
 have:=zmB hd
 have h:=of_decide_eq_true hk
 omega
end Go.Av
end
