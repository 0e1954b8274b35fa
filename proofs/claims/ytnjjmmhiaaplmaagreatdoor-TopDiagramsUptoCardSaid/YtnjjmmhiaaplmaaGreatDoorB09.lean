/- Texts of ours, part 9: our library and contracts of functions. -/
import Derived.Test.YtnjjmmhiaaplmaaGreatDoorB08
set_option linter.unusedSimpArgs false
set_option linter.unusedVariables false
set_option maxRecDepth 100000
set_option maxHeartbeats 40000000
section
open Go Go.Proofs
namespace Go.Av
theorem zrK (l:List zaf) (hl:l.length≤17179869184):zhb Tryz.prog 55 [zaC l] (fun n=> .sl n 1 5 0 l.length) (fun n=> [(n, .rows true 1 5 (l.map zae))]) 1:=by
 refine ⟨?_,fun n=>⟨ae,ae⟩⟩
 refine zEU (fun hne=> ?_) (fun he A c=> ?_)
 ·obtain ⟨x,l,rfl⟩:=List.exists_cons_of_ne_nil (show l≠ [] by intro h;subst h;exact hne rfl)
  simp only [List.length_cons] at hl
  refine aF Tryz.func55 ?_
  refine J0 ?_
  simp [go_sem,zad]
 ·obtain rfl:l= []:=by simpa using he
  refine aF Tryz.func55 ?_
  refine J0 ?_
  refine zEr (fun h=> ?_) (fun h=> ?_)
  ·simp at h
   subst h
   simp [go_sem,zad]
  ·simp [go_sem,zad]
theorem zc0 (l:List zaf) (hl:l.length≤17179869184) (hf:∀p ∈ l,zaQ p):zaD Tryz.prog 26 [zaC l] (zaC (za3 zbi l)):=by
 refine pF Tryz.func26 ?_
 have hC:=zrK l hl
 refine J0 ?_
 refine zEu hC ae ?_
 refine J0 ?_
 refine zwC l hf aa (o:=0) (gn:=1) aR ?_
 refine J0 ?_
 refine zmO (zcM zbi l) 1 l.length (ze9 l) aa (fun p hp=>hf p (zfa.1 hp)) (o:=0) aR aa ?_
 refine J0 ?_
 exact zak rfl ad aB (by rw [List.drop_zero];exact List.take_left' ad)
theorem zzv (g:zab) (hg:GOk g) (p:zaf) (hp:POk g p) (cell i:Int) (hc:zcj g p cell i){h:zaq}{n a b:Nat} (hd: [a,b].Nodup) (hlt:∀j ∈ [a,b],j<n)
  (ha:h a=some (.rows true 0 5 [zae p])) (hb:h b=some (.rows true 0 1 [[AV.nils]])) {K:zcn}
  (hK:K (.int 0) (upd (upd (upd h a (some (.rows true 0 5 [zae p]))) b (some (.rows true 0 1 [[.sl (n+245) (zdO g p cell i).length 6 0 (zdO g p cell i).length]]))) (n+245) (some (.rows true (zdO g p cell i).length 6 ((zdO g p cell i).map zaS)))) (n+246)):
  zah Tryz.prog 135 [.agg (zac g), .agg (zae p), .int cell, .int i, .fn (.func 136) [] [.ref a 0 5 0 0, .ref b 0 1 0 0]] h n K:=by
 have hbg:∀m,Bel m (.agg (zac g)):=fun m=>ae
 have hbp:∀m,∀c ∈ zae p,Bel m c:=fun m=>ae
 have hbq:∀m,Bel m (.agg (zae p)):=fun m=>ae
 have han:=hlt a ad
 have hbn:=hlt b ad
 have hrows:∀m,∀r ∈ [zae p],∀c ∈ r,Bel m c:=fun m r hr=>by simp only [List.mem_singleton] at hr;subst hr;exact hbp m
 refine zEE (args':= [.agg (zac g), .agg (zae p), .int cell, .int i, .fn (.func 136) [] [.ref a 0 5 0 0, .ref b 0 1 0 0]])
  (HH:= [(a, .rows true 0 5 [zae p]),(b, .rows true 0 1 [[.sl (n+245) (zdO g p cell i).length 6 0 (zdO g p cell i).length]]),(n+245, .rows true (zdO g p cell i).length 6 ((zdO g p cell i).map zaS))])
  [a,b] h (zB1 g hg p hp cell i hc) hd hlt rfl aa (.refl _) ?_ ?_ (.refl _ _ _ _) ?_ ?_ ?_ (.same (.v _)) ?_ ?_
 ·intro j hj
  rcases (show j=0∨j=1 by omega) with rfl|rfl
  ·exact ⟨_, _,rfl,ha, .rows (.same (hrows _))⟩
  ·exact ⟨_, _,rfl,hb, .rows (.same ae)⟩
 ·intro q hq
  simp only [List.mem_cons,List.not_mem_nil,or_false] at hq
  rcases hq with rfl|rfl
  ·exact ⟨Nat.le_of_ble_eq_true rfl,hrows _⟩
  ·exact ⟨Nat.le_of_ble_eq_true rfl,by simp [go_sem,zCe]⟩
 ·simp [go_sem,han,hbn]
 ·exact .cons (.same (hbg _)) (.cons (.same (hbq _)) (.cons (.same (.v _)) (.cons (.same (.v _)) (.cons (.fn .nil (.cons (.ref rfl) (.cons (.ref rfl) .nil))) .nil))))
 ·simp [go_sem]
 ·exact .cons rfl (.rows (.same (hrows _))) (.cons rfl (.rows (.cons (.cons (.sl rfl) .nil) .nil)) (.cons rfl (.rows (.same (zcT _))) .nil))
 ·have e:zel [(a, .rows true 0 5 [zae p]),(b, .rows true 0 1 [[.sl (n+245) (zdO g p cell i).length 6 0 (zdO g p cell i).length]]),(n+245, .rows true (zdO g p cell i).length 6 ((zdO g p cell i).map zaS))] (zmI [a,b] h)=
    upd (upd (upd h a (some (.rows true 0 5 [zae p]))) b (some (.rows true 0 1 [[.sl (n+245) (zdO g p cell i).length 6 0 (zdO g p cell i).length]]))) (n+245) (some (.rows true (zdO g p cell i).length 6 ((zdO g p cell i).map zaS))):=by
   simp only [List.nodup_cons,List.mem_cons,List.not_mem_nil,or_false,not_or,List.nodup_nil,and_true,not_false_eq_true] at hd
   have na:a≠n+245:=aa
   have nb:b≠n+245:=aa
   funext j
   simp only [zel,zmI,upd]
   by_cases j1:j=a
   ·subst j1;simp [hd,na]
   ·by_cases j2:j=b
    ·subst j2;simp [j1,nb]
    ·by_cases j3:j=n+245
     ·subst j3;simp [j1,j2]
     ·simp [j1,j2,j3]
  rw [e]
  exact hK
theorem zwt (g:zab) (hg:GOk g) (p:zaf) (hp:POk g p) (cell i:Int) (hc:zcj g p cell i):
  zaD Tryz.prog 101 [.agg (zac g), .agg (zae p), .int cell, .int i] (.tup [zhR (zdu g p cell i), .int 0]):=by
 refine pF Tryz.func101 ?_
 have hl:=(zkv hg hp hc)
 have hll:(zdO g p cell i).length≤100000000:=Nat.le_trans (List.length_filterMap_le _ _) hl.2
 have hf:∀o ∈ zdO g p cell i,zaQ o.pos:=by
  intro o ho
  obtain ⟨s,hs,h⟩:=List.mem_filterMap.1 ho
  exact (zzu hg (hl.1 s hs).1 hp.s h).1.fits hg
 have hr:zdu g p cell i=za3 zjC (zdO g p cell i):=rfl
 rw [hr]
 refine J0 ?_
 refine zzv g hg p hp cell i hc (a:=1) (b:=2) am ad (by simp [upd,zae,zai]) aR ?_
 generalize zdO g p cell i=l at *
 refine J0 ?_
 refine zwD l hf aa (o:=248) (gn:=l.length) aR ?_
 refine J0 ?_
 refine zmP (zcM zjC l) l.length l.length (ze9 l) aa (fun o ho=>hf o (zfa.1 ho)) (o:=248) aR aa ?_
 refine J0 ?_
 exact zak rfl ad aB (by rw [List.drop_zero];exact List.take_left' ad)
theorem ztj (g:zab) (hg:GOk g) (p:zaf) (hp:POk g p):zaD Tryz.prog 54 [.agg (zac g), .agg (zae p)] (zaC (zcI g p)):=by
 refine pF Tryz.func54 ?_
 have hal:=hp.al
 have c9:=hg.c9
 have k6:=hg.k6
 have hcp:=zik ⟨p,0,0,false⟩ (hp.fits hg)
 have hl0:=hp.h0.len
 have hl1:=hp.h1.len
 have hps:=hp.s
 rcases hp.s with hsd|hsd
 ·have hsn:p.side.toNat=0:=by omega
  refine J2 hsn hsd ?_
  refine zEp (zEs (α:=Nat) (fun k=>⟨[(3, .ref 1 0 5 0 0),(5, .sl 2 (zbF g p k).length 5 0 (zbF g p k).length),(15,zai p.h0),(16, .int p.h0.length),(17, .int k)], [(1, .rows true 0 5 [zae p]),(2, .rows true (zbF g p k).length 5 ((zbF g p k).map zae))],3⟩)
   (fun d k=>k+d=g.kinds.length) ?_ g.kinds.length 0 ?_) ?_ ?_
  ·rintro d k k1 hrec
   refine J0 ?_
   refine zEr (fun hk=> ?_) (fun hk=> ?_)<;>simp at hk
   ·have hz:=zhn g p k
    have ha:=ziQ g p k
    have hkh:k<p.h0.length:=aa
    have hhv:=hp.h0.v k hkh
    refine J1 hkh ?_
    refine zEp (zEs (α:=Nat) (fun c=>⟨[(3, .ref 1 0 5 0 0),(5, .sl 2 (zcH g p k c).length 5 0 (zcH g p k c).length),(6, .int k),(7, .int (nth p.h0 k)),(15,zai p.h0),(16, .int p.h0.length),(17, .int k),(23,zai p.at_),(24, .int p.at_.length),(25, .int c)], [(1, .rows true 0 5 [zae p]),(2, .rows true (zcH g p k c).length 5 ((zcH g p k c).map zae))],3⟩)
     (fun d c=>c+d=p.at_.length) ?_ p.at_.length 0 ?_) ?_ ?_
    ·rintro d2 c c1 hrec2
     refine J0 ?_
     refine zEr (fun hci=> ?_) (fun hci=> ?_)<;>simp at hci
     ·have hD:zf2 g p k c=if nth (p.hand p.side) k=0∨nth p.at_ c≠0 then none
       else some {({ p with at_:=p.at_.set c (zal k p.side)}.withHand p.side ((p.hand p.side).set k (nth (p.hand p.side) k - 1))) with side:=1 - p.side}:=rfl
      have hD':zf2 g p k c=if nth p.h0 k=0∨nth p.at_ c≠0 then none else some { p with at_:=p.at_.set c (zal k p.side),h0:=p.h0.set k (nth p.h0 k - 1),side:=1 - p.side}:=by
       rw [hD];simp [zaf.hand,zaf.withHand,hsd]
      have hCd:=za5 (k:Int) p.side
      rw [hsd] at hCd hD'
      refine J1 hci ?_
      refine zEr (fun hcc=> ?_) (fun hcc=> ?_)<;>simp at hcc
      ·rw [if_pos aa] at hD'
       have hsu:=zct g p k c
       rw [hD'] at hsu
       simp only [Option.toList_none,List.append_nil] at hsu
       refine J0 ?_
       refine zEp (hrec2 (d2 - 1) aa (c+1) aa) ?_ ad
       simp [go_sem,zad,hsd,hsu]
      ·rw [if_neg aa] at hD'
       have hsu:=zct g p k c
       rw [hD'] at hsu
       simp only [Option.toList_some] at hsu
       have hcl:=zgC g p k c
       have hkm:k * p.at_.length≤6 * 9:=Nat.mul_le_mul aa aa
       refine J1 hci ?_
       refine zEu hcp ae ?_
       refine J2 hci hsd ?_
       refine dP hCd ?_
       refine J4 hsn hsd hci hkh ?_
       refine zEp (hrec2 (d2 - 1) aa (c+1) aa) ?_ ad
       simp [go_sem,zad,hsd,hsu]
       (first|done|exact rwX)
     ·have hcl:c=p.at_.length:=by omega
      subst hcl
      rw [ha]
      refine J0 ?_
      refine zEp (hrec (d - 1) aa (k+1) aa) ?_ ad
      simp [go_sem,zad,hsd]
    ·omega
    ·simp [go_sem,zad,hsd,hz]
    ·simp
   ·have hkl:k=g.kinds.length:=by omega
    subst hkl
    have hdl:=zeT g p g.kinds.length
    have hkm:g.kinds.length * p.at_.length≤6 * 9:=Nat.mul_le_mul k6 aa
    have hS:=zc0 (zbF g p g.kinds.length) aa (fun q hq=>by
     rw [zgD] at hq
     obtain ⟨k,hk,hq⟩:=List.mem_flatMap.1 hq
     obtain ⟨c,hc,hq⟩:=List.mem_filterMap.1 hq
     exact (zkm hg hp aC hq).1.fits hg)
    rw [show za3 zbi (zbF g p g.kinds.length)=zcI g p from rfl] at hS
    generalize zbF g p g.kinds.length=l at *
    generalize zcI g p=r at *
    refine J0 ?_
    refine zEv [2] hS ?_ (zsr (zbk _)) ?_
    ·(first|done|exact agX)
    ·exact K0
  ·omega
  ·simp [go_sem,zad,hsd,show zbF g p 0= [] from rfl]
  ·simp
 ·have hsn:p.side.toNat=1:=by omega
  refine J2 hsn hsd ?_
  refine zEp (zEs (α:=Nat) (fun k=>⟨[(3, .ref 1 0 5 0 0),(5, .sl 2 (zbF g p k).length 5 0 (zbF g p k).length),(15,zai p.h1),(16, .int p.h1.length),(17, .int k)], [(1, .rows true 0 5 [zae p]),(2, .rows true (zbF g p k).length 5 ((zbF g p k).map zae))],3⟩)
   (fun d k=>k+d=g.kinds.length) ?_ g.kinds.length 0 ?_) ?_ ?_
  ·rintro d k k1 hrec
   refine J0 ?_
   refine zEr (fun hk=> ?_) (fun hk=> ?_)<;>simp at hk
   ·have hz:=zhn g p k
    have ha:=ziQ g p k
    have hkh:k<p.h1.length:=aa
    have hhv:=hp.h1.v k hkh
    refine J1 hkh ?_
    refine zEp (zEs (α:=Nat) (fun c=>⟨[(3, .ref 1 0 5 0 0),(5, .sl 2 (zcH g p k c).length 5 0 (zcH g p k c).length),(6, .int k),(7, .int (nth p.h1 k)),(15,zai p.h1),(16, .int p.h1.length),(17, .int k),(23,zai p.at_),(24, .int p.at_.length),(25, .int c)], [(1, .rows true 0 5 [zae p]),(2, .rows true (zcH g p k c).length 5 ((zcH g p k c).map zae))],3⟩)
     (fun d c=>c+d=p.at_.length) ?_ p.at_.length 0 ?_) ?_ ?_
    ·rintro d2 c c1 hrec2
     refine J0 ?_
     refine zEr (fun hci=> ?_) (fun hci=> ?_)<;>simp at hci
     ·have hD:zf2 g p k c=if nth (p.hand p.side) k=0∨nth p.at_ c≠0 then none
       else some {({ p with at_:=p.at_.set c (zal k p.side)}.withHand p.side ((p.hand p.side).set k (nth (p.hand p.side) k - 1))) with side:=1 - p.side}:=rfl
      have hD':zf2 g p k c=if nth p.h1 k=0∨nth p.at_ c≠0 then none else some { p with at_:=p.at_.set c (zal k p.side),h1:=p.h1.set k (nth p.h1 k - 1),side:=1 - p.side}:=by
       rw [hD];simp [zaf.hand,zaf.withHand,hsd]
      have hCd:=za5 (k:Int) p.side
      rw [hsd] at hCd hD'
      refine J1 hci ?_
      refine zEr (fun hcc=> ?_) (fun hcc=> ?_)<;>simp at hcc
      ·rw [if_pos aa] at hD'
       have hsu:=zct g p k c
       rw [hD'] at hsu
       simp only [Option.toList_none,List.append_nil] at hsu
       refine J0 ?_
       refine zEp (hrec2 (d2 - 1) aa (c+1) aa) ?_ ad
       simp [go_sem,zad,hsd,hsu]
      ·rw [if_neg aa] at hD'
       have hsu:=zct g p k c
       rw [hD'] at hsu
       simp only [Option.toList_some] at hsu
       have hcl:=zgC g p k c
       have hkm:k * p.at_.length≤6 * 9:=Nat.mul_le_mul aa aa
       refine J1 hci ?_
       refine zEu hcp ae ?_
       refine J2 hci hsd ?_
       refine dP hCd ?_
       refine J4 hsn hsd hci hkh ?_
       refine zEp (hrec2 (d2 - 1) aa (c+1) aa) ?_ ad
       simp [go_sem,zad,hsd,hsu]
       (first|done|exact rwX)
     ·have hcl:c=p.at_.length:=by omega
      subst hcl
      rw [ha]
      refine J0 ?_
      refine zEp (hrec (d - 1) aa (k+1) aa) ?_ ad
      simp [go_sem,zad,hsd]
    ·omega
    ·simp [go_sem,zad,hsd,hz]
    ·simp
   ·have hkl:k=g.kinds.length:=by omega
    subst hkl
    have hdl:=zeT g p g.kinds.length
    have hkm:g.kinds.length * p.at_.length≤6 * 9:=Nat.mul_le_mul k6 aa
    have hS:=zc0 (zbF g p g.kinds.length) aa (fun q hq=>by
     rw [zgD] at hq
     obtain ⟨k,hk,hq⟩:=List.mem_flatMap.1 hq
     obtain ⟨c,hc,hq⟩:=List.mem_filterMap.1 hq
     exact (zkm hg hp aC hq).1.fits hg)
    rw [show za3 zbi (zbF g p g.kinds.length)=zcI g p from rfl] at hS
    generalize zbF g p g.kinds.length=l at *
    generalize zcI g p=r at *
    refine J0 ?_
    refine zEv [2] hS ?_ (zsr (zbk _)) ?_
    ·(first|done|exact agX)
    ·exact K0
  ·omega
  ·simp [go_sem,zad,hsd,show zbF g p 0= [] from rfl]
  ·simp
theorem zk6 (f:Int→Bool) (l:List Int){i:Nat} (h:i<l.length):(l.take (i+1)).countP f=(l.take i).countP f+(if f (nth l i) then 1 else 0):=by
 rw [List.take_add_one,List.getElem?_eq_getElem h,zap _ _ h,Option.toList_some,List.countP_append]
 simp [List.countP_cons]
theorem zu8 (p:zaf) (hp:zaQ p) (side kind:Int):zaD Tryz.prog 167 [.agg (zae p), .int side, .int kind] (.int (zwZ p side kind)):=by
 refine pF Tryz.func167 ?_
 obtain ⟨f1, _, _⟩:=hp
 unfold zfR at f1
 refine J0 ?_
 refine zEp (zEs (α:=Nat) (fun i=>⟨[(1, .int side),(2, .int kind),(3, .ref 0 0 5 0 0),(7, .int ((p.at_.take i).countP (zeZ p side kind):Nat)),(8, .int i)], [(0, .rows true 0 5 [zae p])],1⟩)
  (fun d i=>i+d=p.at_.length) ?_ p.at_.length 0 ?_) ?_ ?_
 ·rintro d i i1 hrec
  refine J0 ?_
  refine zEr (fun hi=> ?_) (fun hi=> ?_)<;>simp at hi
  ·have hO:=zfX (nth p.at_ i)
   have hcs:=zk6 (zeZ p side kind) p.at_ hi
   have hle:(p.at_.take i).countP (zeZ p side kind)≤i:=Nat.le_trans List.countP_le_length ak
   have hM:zeZ p side kind (nth p.at_ i)=(decide (0≤(zan (nth p.at_ i)).1) && decide ((zan (nth p.at_ i)).2=side) && (decide (kind<0)||decide ((zan (nth p.at_ i)).1=kind))):=rfl
   generalize zan (nth p.at_ i)=m at *
   refine J1 hi ?_
   refine aP hO ?_
   refine J0 ?_
   by_cases hm:zeZ p side kind (nth p.at_ i)=true
   ·have hm':=hm
    rw [hM] at hm'
    rw [if_pos hm] at hcs
    simp only [hm']
    refine J0 ?_
    refine zEp (hrec (d - 1) aa (i+1) aa) ?_ ad
    simp [go_sem,zad,hcs]
   ·have hm':=hm
    rw [hM] at hm'
    rw [if_neg hm] at hcs
    simp only [Bool.not_eq_true] at hm'
    simp only [hm']
    refine J0 ?_
    refine zEp (hrec (d - 1) aa (i+1) aa) ?_ ad
    simp [go_sem,zad,hcs]
  ·have hil:i=p.at_.length:=by omega
   subst hil
   have hM:zwZ p side kind=(p.at_.take p.at_.length).countP (zeZ p side kind):=by rw [List.take_length];rfl
   rw [hM]
   exact K0
 ·omega
 ·simp [go_sem,zad]
 ·simp
theorem zj3 (g:zab) (hg:GOk g) (p:zaf) (hp:POk g p) (c:Int×Int×Int×Int) (hc:zgy g.cells g.kinds.length c):
  zaD Tryz.prog 129 [.agg (za0 c), .agg (zae p)] (.v (.bool (zd7 c p))):=by
 refine pF Tryz.func129 ?_
 have hps:=hp.s
 have hal:=hp.al
 have hM:=fun s k=>zu8 p (hp.fits hg) s k
 have hml:∀s k,zwZ p s k≤9:=fun s k=>Nat.le_trans List.countP_le_length (by have:=hg.c9;omega)
 obtain ⟨c0,c1,c2,c3⟩:=c
 obtain ⟨k1,k2,k3,k4,k5⟩:=hc
 simp only at k1 k2 k3 k4 k5
 unfold zd7
 rcases k1 with rfl|rfl|rfl
 ·have h1:=hM p.side c1
  refine J0 ?_
  refine aP h1 ?_
  exact K0
 ·have hci:c2.toNat<p.at_.length:=by omega
  refine J1 hci ?_
  refine dP (zfl c1 (1 - p.side)) ?_
  exact K1 hci
 ·have h1:=hM p.side (-1)
  have:=hml p.side (-1)
  refine J0 ?_
  refine dP h1 ?_
  exact K0
theorem zjJ {α:Type} [Inhabited α] (f:α→Bool) (l:List α){i:Nat} (hi:i<l.length) (hb:∀j,j<i→f (nth l j)=false) (h:f (nth l i)=true):l.findIdx? f=some i:=by
 rw [List.findIdx?_eq_some_iff_getElem]
 refine ⟨hi,by rw [← zap _ _ hi];exact h,fun j hj=> ?_⟩
 have:=hb j hj
 rw [zap _ _ aa] at this
 simp [this]
theorem zjI {α:Type} [Inhabited α] (f:α→Bool) (l:List α) (hb:∀j,j<l.length→f (nth l j)=false):l.findIdx? f=none:=by
 rw [List.findIdx?_eq_none_iff]
 intro x hx
 obtain ⟨j,hj,rfl⟩:=List.getElem_of_mem hx
 have:=hb j hj
 rwa [zap _ _ hj] at this
theorem zpN (g:zab) (hg:GOk g) (p:zaf) (hp:POk g p):zaD Tryz.prog 91 [.agg (zac g), .agg (zae p)] (.int (zdl g p)):=by
 refine pF Tryz.func91 ?_
 have hcn:=hg.cn
 refine J0 ?_
 refine zEp (zEs (α:=Nat) (fun i=>⟨[(2, .ref 0 0 9 0 0),(3, .ref 1 0 5 0 0),(5, .int i)], [(0, .rows true 0 9 [zac g]),(1, .rows true 0 5 [zae p])],2⟩)
  (fun d i=>i+d=g.clauses.length∧∀j,j<i→zd7 (nth g.clauses j) p=false) ?_ g.clauses.length 0 ?_) ?_ ?_
 ·rintro d i ⟨i1,i2⟩ hrec
  refine J0 ?_
  refine zEr (fun hi=> ?_) (fun hi=> ?_)<;>simp at hi
  ·have hC:=zj3 g hg p hp _ (hg.cl _ (zag hi))
   refine J1 hi ?_
   refine dP hC ?_
   refine J0 ?_
   by_cases hc:zd7 (nth g.clauses i) p=true
   ·have he:zdl g p=i:=by unfold zdl;rw [zjJ (fun c=>zd7 c p) g.clauses hi i2 hc]
    exact K2 hc he
   ·refine J1 hc ?_
    refine zEp (hrec (d - 1) aa (i+1) ⟨aa,fun j hj=> ?_⟩) ?_ ad
    ·rcases Nat.lt_or_ge j i with h|h
     ·exact i2 j h
     ·obtain rfl:j=i:=by omega
      simpa using hc
    ·simp [go_sem,zad]
  ·have he:zdl g p= -1:=by unfold zdl;rw [zjI (fun c=>zd7 c p) g.clauses (fun j hj=>i2 j aa)]
   exact K1 he
 ·exact ⟨ad,fun j hj=>aa⟩
 ·simp [go_sem,zad]
 ·simp
def zmG (p:zaf) (side:Int) (K:Nat) (j:Nat):List Int:=(List.range K).map fun (k:Nat)=>(((p.at_.take j).countP (zeZ p side k):Nat):Int)
theorem zoF (p:zaf) (side:Int) (K j:Nat):(zmG p side K j).length=K:=by simp [zmG]
theorem zpf (p:zaf) (side:Int) (K j:Nat){k:Nat} (hk:k<K):nth (zmG p side K j) k=(((p.at_.take j).countP (zeZ p side k):Nat):Int):=by
 rw [zap _ _ (by rw [zoF];exact hk)];simp [zmG]
theorem zp0 {p:zaf}{side:Int}{K j:Nat} (hj:j<p.at_.length):zmG p side K (j+1)=(List.range K).map fun (k:Nat)=>(((p.at_.take j).countP (zeZ p side k)+(if zeZ p side k (nth p.at_ j) then 1 else 0):Nat):Int):=by
 unfold zmG
 refine List.map_congr_left fun k _=> ?_
 rw [zk6 _ _ hj]
theorem zDq {p:zaf}{side:Int}{K j:Nat} (hj:j<p.at_.length) (h:∀k:Nat,zeZ p side k (nth p.at_ j)=false):zmG p side K (j+1)=zmG p side K j:=by
 rw [zp0 hj]
 unfold zmG
 refine List.map_congr_left fun k _=> ?_
 rw [h k];simp
theorem zA0 {p:zaf}{side:Int}{K j m:Nat} (hj:j<p.at_.length) (hm:m<K) (h:∀k:Nat,zeZ p side k (nth p.at_ j)=decide (k=m)):
  zmG p side K (j+1)=(zmG p side K j).set m (nth (zmG p side K j) m+1):=by
 rw [zp0 hj]
 refine List.ext_getElem (by simp [zmG]) fun k h1 h2=> ?_
 have hk:k<K:=bi
 rw [List.getElem_set]
 by_cases e:m=k
 ·subst e
  rw [if_pos rfl,zpf _ _ _ _ hk]
  simp [h]
 ·rw [if_neg e]
  simp [zmG,h,Ne.symm e]
def zfp (g:zab) (p:zaf) (side:Int):List Int:=zmG p side g.kinds.length p.at_.length
theorem zl0 (g:zab) (p:zaf) (side:Int){k:Nat} (hk:k<g.kinds.length):nth (zfp g p side) k=zwZ p side k:=by
 unfold zfp;rw [zpf _ _ _ _ hk,List.take_length];rfl
theorem zzK {m s:Int} (h0:0≤m) (hs:s=0∨s=1):(1+2 * m+s - 1).tmod 2=s∧(1+2 * m+s - 1).tdiv 2=m:=by
 rw [Int.tmod_eq_emod_of_nonneg aa,Int.tdiv_eq_ediv_of_nonneg aa]
 omega
theorem zm5 (g:zab) (hg:GOk g) (p:zaf) (hp:POk g p) (side:Int) (hsd:side=0∨side=1):
  zaD Tryz.prog 269 [.agg (zac g), .agg (zae p), .int side] (zai (zfp g p side)):=by
 refine pF Tryz.func269 ?_
 have hal:=hp.al
 have c9:=hg.c9
 have k6:=hg.k6
 have hall:=fun j=>zoF p side g.kinds.length j
 have hz:List.replicate g.kinds.length [AV.v (.int .i64 0)]=(zmG p side g.kinds.length 0).map zaB:=by
  refine List.ext_getElem (by simp [zmG]) fun k h1 h2=> ?_
  simp [zmG,zaB]
 refine J0 ?_
 refine zEp (zEs (α:=Nat) (fun j=>⟨[(2, .int side),(7, .sl 2 0 1 0 g.kinds.length),(15,zai p.at_),(16, .int p.at_.length),(17, .int j)], [(2, .rows true 0 1 ((zmG p side g.kinds.length j).map zaB))],3⟩)
  (fun d j=>j+d=p.at_.length) ?_ p.at_.length 0 ?_) ?_ ?_
 ·rintro d j j1 hrec
  refine J0 ?_
  refine zEr (fun hj=> ?_) (fun hj=> ?_)<;>simp at hj
  ·have hat:=hp.at (i:=j) aa
   have hman:=zaO hat.1 hat.2 hg.k6
   have hM:∀k:Nat,zeZ p side k (nth p.at_ j)=(decide (0≤(zan (nth p.at_ j)).1) && decide ((zan (nth p.at_ j)).2=side) && (decide ((k:Int)<0)||decide ((zan (nth p.at_ j)).1=k))):=fun k=>rfl
   have hno:=zDq (p:=p) (side:=side) (K:=g.kinds.length) hj
   have hyes:=fun m=>zA0 (p:=p) (side:=side) (K:=g.kinds.length) (m:=m) hj
   rcases hman with ⟨h0,hm⟩|⟨h0,hm0,hmk,hms,he⟩
   ·rw [hm] at hM
    have hno:=hno (fun k=>by rw [hM];simp)
    refine J2 hj h0 ?_
    refine zEp (hrec (d - 1) aa (j+1) aa) ?_ ad
    simp [go_sem,zad,hno]
   ·have ht:=zzK hm0 hms
    rw [← he] at ht
    have hpos:0<nth p.at_ j:=aa
    by_cases hs:(zan (nth p.at_ j)).2=side
    ·obtain ⟨m,hmm⟩:∃m:Nat,(zan (nth p.at_ j)).1=m:=⟨(zan (nth p.at_ j)).1.toNat,aa⟩
     rw [hmm] at ht hmk
     have hmk':m<g.kinds.length:=aa
     have hyes:=hyes m hmk' (fun k=>by rw [hM,hmm,decide_eq_true hs];by_cases e:k=m<;>simp [e]<;>omega)
     have hb:0≤nth (zmG p side g.kinds.length j) m∧nth (zmG p side g.kinds.length j) m≤9:=by
      rw [zpf _ _ _ _ hmk']
      have:(p.at_.take j).countP (zeZ p side m)≤(p.at_.take j).length:=List.countP_le_length
      rw [List.length_take] at this
      omega
     have hlm:m<(zmG p side g.kinds.length j).length:=by rw [hall];exact hmk'
     rw [hs] at ht
     refine J7 hj hpos ht.1 ht.2 hlm hall hmk' ?_
     refine zEp (hrec (d - 1) aa (j+1) aa) ?_ ad
     simp [go_sem,zad,hyes,List.map_set,zaB]
    ·have hno:=hno (fun k=>by rw [hM,decide_eq_false hs];simp)
     refine J5 hj hpos ht.1 ht.2 hs ?_
     refine zEp (hrec (d - 1) aa (j+1) aa) ?_ ad
     simp [go_sem,zad,hno]
  ·have e:j=p.at_.length:=by omega
   subst e
   refine J0 ?_
   exact zak rfl (by simp [hall]) aB (by simp [zfp];exact List.take_of_length_le (by simp [hall]))
 ·omega
 ·simp [go_sem,zad,hz]
 ·simp
end Go.Av
end
section
/- Contracts: play.conditions, play.ended. -/
open Go Go.Proofs
namespace Go.Av
theorem zDS {g:zab} (hg:GOk g){p:zaf} (hp:POk g p) (s k:Int):zwZ p s k≤9:=Nat.le_trans List.countP_le_length (by have:=hg.c9;have:=hp.al;omega)
theorem zk7 (g:zab) (p:zaf) (side:Int):(zfp g p side).length=g.kinds.length:=zoF _ _ _ _
theorem zup (m:Int) (s side:Int):∀K:Nat,0≤m→((List.range K).map fun (k:Nat)=>if (decide (0≤m) && decide (s=side) && (decide ((k:Int)<0)||decide (m=k)))=true then (1:Nat) else 0).sum=if m<K∧s=side then 1 else 0
 |0,h=>ak
 |K+1,h=>by
  rw [List.range_succ,List.map_append,List.sum_append,zup m s side K h]
  have e:(if (decide (0≤m) && decide (s=side) && (decide ((K:Int)<0)||decide (m=K)))=true then (1:Nat) else 0)=if s=side∧m=K then 1 else 0:=by
   have:¬(K:Int)<0:=aa
   simp [h,this]
  simp only [List.map_cons,List.map_nil,List.sum_cons,List.sum_nil,e,Nat.add_zero]
  by_cases hs:s=side
  ·by_cases h1:m<K
   ·rw [if_pos ⟨h1,hs⟩,if_neg aa,if_pos ⟨aa,hs⟩]
   ·by_cases h2:m=K
    ·rw [if_neg aa,if_pos ⟨hs,h2⟩,if_pos ⟨aa,hs⟩,Nat.zero_add]
    ·rw [if_neg aa,if_neg aa,if_neg aa]
  ·rw [if_neg (by simp [hs]),if_neg (by simp [hs]),if_neg (by simp [hs])]
theorem zpo:∀l:List Nat,(l.map fun _=>0).sum=0
 | []=>rfl
 | _::l=>by simp [zpo l]
theorem zzI (f h:Nat→Nat):∀l:List Nat,(l.map fun k=>f k+h k).sum=(l.map f).sum+(l.map h).sum
 | []=>rfl
 |k::l=>by simp [zzI f h l];omega
theorem zy5 {K:Nat} (hK:K≤6) (side:Int):∀l:List Int,(∀c ∈ l,0≤c∧c≤2 * K)→
  ((List.range K).map fun (k:Nat)=>l.countP fun c=>decide (0≤(zan c).1) && decide ((zan c).2=side) && (decide ((k:Int)<0)||decide ((zan c).1=k))).sum=
   l.countP fun c=>decide (0≤(zan c).1) && decide ((zan c).2=side) && (decide ((-1:Int)<0)||decide ((zan c).1= -1))
 | [], _=>by simp [zpo]
 |c::l,h=>by
  have ih:=zy5 hK side l (fun x hx=>h x bZ)
  simp only [List.countP_cons]
  rw [zzI,ih]
  congr 1
  have hc:=h c ad
  rcases zaO hc.1 hc.2 hK with ⟨h0,hm⟩|⟨h0,hm0,hmk,hms,he⟩
  ·rw [hm];simp [zpo]
  ·rw [zup _ _ _ _ hm0]
   by_cases hs:(zan c).2=side
   ·simp [hs,hm0,hmk]
   ·simp [hs]
theorem zDT {g:zab} (hg:GOk g){p:zaf} (hp:POk g p) (side:Int):((List.range g.kinds.length).map fun (k:Nat)=>zwZ p side k).sum=zwZ p side (-1):=
 zy5 hg.k6 side p.at_ hp.av
section
variable (g:zab) (hg:GOk g) (p:zaf) (hp:POk g p) (c:Int×Int×Int×Int) (hc:zgy g.cells g.kinds.length c)
theorem zvw (hg:GOk g) (hp:POk g p) (hc:zgy g.cells g.kinds.length c) (h1:c.1=1):zaD Tryz.prog 268 [.agg (zac g), .agg (zae p), .agg (za0 c)] (.v (.bool (zd7 c p))):=by
 refine pF Tryz.func268 ?_
 have hC:=zm5 g hg p hp p.side hp.s
 have hl:=zk7 g p p.side
 have hk:=hc.kind
 have hck:c.2.1.toNat<(zfp g p p.side).length:=aa
 have hn:=zl0 g p p.side (k:=c.2.1.toNat) aa
 rw [show ((c.2.1.toNat:Nat):Int)=c.2.1 by omega] at hn
 have he:zd7 c p=decide (nth (zfp g p p.side) c.2.1.toNat=0):=by
  unfold zd7;rw [if_pos h1,hn];simp
 rw [he]
 generalize zfp g p p.side=l at *
 obtain ⟨c0,c1,c2,c3⟩:=c
 simp only at hk hck
 refine J0 ?_
 refine dP hC ?_
 exact K1 hck
theorem zvx (hg:GOk g) (hp:POk g p) (hc:zgy g.cells g.kinds.length c) (h1:c.1=2):zaD Tryz.prog 270 [.agg (zac g), .agg (zae p), .agg (za0 c)] (.v (.bool (zd7 c p))):=by
 refine pF Tryz.func270 ?_
 have hal:=hp.al
 have hps:=hp.s
 have hn:=hc.n
 have hcd:=hn.2.1 h1
 have hci:c.2.2.1.toNat<p.at_.length:=aa
 have he:zd7 c p=decide (nth p.at_ c.2.2.1.toNat=zal c.2.1 (1 - p.side)):=by
  unfold zd7;rw [if_neg aa,if_pos h1]
 rw [he]
 have hC:=za5 c.2.1 (1 - p.side)
 obtain ⟨c0,c1,c2,c3⟩:=c
 simp only at hcd hci hC hn
 generalize zal c1 (1 - p.side)=code at *
 refine J1 hci ?_
 refine dP hC ?_
 exact K1 hci
theorem zvy (hg:GOk g) (hp:POk g p) (hc:zgy g.cells g.kinds.length c) (h1:c.1=3):zaD Tryz.prog 271 [.agg (zac g), .agg (zae p), .agg (za0 c)] (.v (.bool (zd7 c p))):=by
 refine pF Tryz.func271 ?_
 have hC:=zm5 g hg p hp p.side hp.s
 have hl:=zk7 g p p.side
 have k6:=hg.k6
 have hnn:=fun (k:Nat) hk=>zl0 g p p.side (k:=k) hk
 have hle:=fun k:Nat=>zDS hg hp p.side k
 have hall:=zDT hg hp p.side
 obtain ⟨S,hS⟩:∃S:Nat→Nat,S=fun i=>((List.range i).map fun (k:Nat)=>zwZ p p.side k).sum:=⟨_,rfl⟩
 have hS0:S 0=0:=by rw [hS];rfl
 have hSs:∀i,S (i+1)=S i+zwZ p p.side i:=fun i=>by rw [hS];simp [List.range_succ]
 have hSK:S g.kinds.length=zwZ p p.side (-1):=by rw [hS];exact hall
 have hSb:∀i,S i≤9 * i:=fun i=>by
  induction i with
  |zero=>omega
  |succ i ih=>rw [hSs];have:=hle i;omega
 have he:zd7 c p=decide ((S g.kinds.length:Int)≤c.2.2.1):=by
  unfold zd7;rw [if_neg aa,if_neg aa,hSK]
 rw [he]
 clear hS
 generalize zfp g p p.side=l at *
 obtain ⟨c0,c1,c2,c3⟩:=c
 refine J0 ?_
 refine aP hC ?_
 refine J0 ?_
 refine zEp (zEs (α:=Nat) (fun i=>⟨[(5, .ref 2 0 4 0 0),(7, .int (S i)),(14,zai l),(15, .int l.length),(16, .int i)], [(2, .rows true 0 4 [za0 (c0,c1,c2,c3)])],3⟩)
  (fun d i=>i+d=l.length) ?_ l.length 0 ?_) ?_ ?_
 ·rintro d i i1 hrec
  refine J0 ?_
  refine zEr (fun hi=> ?_) (fun hi=> ?_)<;>simp at hi
  ·have h2:=hnn i aa
   have h3:=hle i
   have h4:=hSb i
   have h5:=hSs i
   refine J1 hi ?_
   refine zEp (hrec (d - 1) aa (i+1) aa) ?_ ad
   simp [go_sem,zad,h5,h2]
  ·have e:i=l.length:=by omega
   subst e
   rw [hl]
   exact K0
 ·omega
 ·simp [go_sem,zad,hS0]
 ·simp
end
def zhS (g:zab) (p:zaf):Int×Bool:=if 0≤zdl g p then ((nth g.clauses (zdl g p).toNat).2.2.2,true) else (0,false)
theorem zoW:glbs.lookup 0=some [.v .nilFunc, .fn (.func 268) [] [], .fn (.func 270) [] [], .fn (.func 271) [] []]:=rfl
theorem zvF (g:zab) (hg:GOk g) (p:zaf) (hp:POk g p):zaD Tryz.prog 52 [.agg (zac g), .agg (zae p)] (.tup [.int (zhS g p).1, .v (.bool (zhS g p).2)]):=by
 refine pF Tryz.func52 ?_
 have hcn:=hg.cn
 refine J0 ?_
 refine zEp (zEs (α:=Nat) (fun i=>⟨[(2, .ref 0 0 9 0 0),(3, .ref 1 0 5 0 0),(9, .lst 4 (g.clauses.map za0)),(10, .int g.clauses.length),(11, .int i)], [(0, .rows true 0 9 [zac g]),(1, .rows true 0 5 [zae p])],2⟩)
  (fun d i=>i+d=g.clauses.length∧∀j,j<i→zd7 (nth g.clauses j) p=false) ?_ g.clauses.length 0 ?_) ?_ ?_
 ·rintro d i ⟨i1,i2⟩ hrec
  refine J0 ?_
  refine zEr (fun hi=> ?_) (fun hi=> ?_)<;>simp at hi
  ·have hcl:=hg.cl _ (zag hi)
   have hfi:zd7 (nth g.clauses i) p=true→zhS g p=((nth g.clauses i).2.2.2,true):=fun hc=>by
    have he:zdl g p=i:=by unfold zdl;rw [zjJ (fun c=>zd7 c p) g.clauses hi i2 hc]
    unfold zhS
    rw [he,if_pos aa];simp
   have h1:=zvw g p _ hg hp hcl
   have h2:=zvx g p _ hg hp hcl
   have h3:=zvy g p _ hg hp hcl
   have hcond:=hcl.cond
   obtain ⟨c,hcc⟩:∃c,c=nth g.clauses i:=⟨_,rfl⟩
   rw [← hcc] at hfi h1 h2 h3 hcond
   have fin:∀b,zd7 c p=b→b=false→∀j,j<i+1→zd7 (nth g.clauses j) p=false:=by
    intro b hb hf j hj
    rcases Nat.lt_or_ge j i with h|h
    ·exact i2 j h
    ·obtain rfl:j=i:=by omega
     rw [← hcc,hb,hf]
   obtain ⟨c0,c1,c2,c3⟩:=c
   generalize hcb:zd7 (c0,c1,c2,c3) p=b at *
   simp only at hcond hfi
   rcases hcond with rfl|rfl|rfl
   ·have hC:=h1 rfl
    repeat first|refine wV fun _=>?_|simp [go_sem,hi,← hcc,zoW]
    refine dP hC ?_
    refine J0 ?_
    cases b
    ·refine J0 ?_
     refine zEp (hrec (d - 1) aa (i+1) ⟨aa,fin _ rfl rfl⟩) ?_ ad
     simp [go_sem,zad]
    ·rw [hfi rfl]
     exact K0
   ·have hC:=h2 rfl
    repeat first|refine wV fun _=>?_|simp [go_sem,hi,← hcc,zoW]
    refine dP hC ?_
    refine J0 ?_
    cases b
    ·refine J0 ?_
     refine zEp (hrec (d - 1) aa (i+1) ⟨aa,fin _ rfl rfl⟩) ?_ ad
     simp [go_sem,zad]
    ·rw [hfi rfl]
     exact K0
   ·have hC:=h3 rfl
    repeat first|refine wV fun _=>?_|simp [go_sem,hi,← hcc,zoW]
    refine dP hC ?_
    refine J0 ?_
    cases b
    ·refine J0 ?_
     refine zEp (hrec (d - 1) aa (i+1) ⟨aa,fin _ rfl rfl⟩) ?_ ad
     simp [go_sem,zad]
    ·rw [hfi rfl]
     exact K0
  ·have he:zdl g p= -1:=by unfold zdl;rw [zjI (fun c=>zd7 c p) g.clauses (fun j hj=>i2 j aa)]
   have he':zhS g p=(0,false):=by unfold zhS;rw [he];rfl
   rw [he']
   exact K0
 ·exact ⟨ad,fun j hj=>aa⟩
 ·simp [go_sem,zad]
 ·simp
end Go.Av
end
section
open Go Go.Proofs
namespace Go.Av
def zl3 (g:zab) (p:zaf) (c:Nat):List zcq:=(List.range c).flatMap (zdm g p)
theorem zwm (g:zab) (p:zaf) (c:Nat):zl3 g p (c+1)=zl3 g p c++zdm g p c:=by simp [zl3,List.range_succ,List.flatMap_append]
theorem zwn (g:zab) (p:zaf):zl3 g p 0= []:=rfl
def zm0 (g:zab) (p:zaf) (c i:Nat):List zcq:=zl3 g p c++(List.range i).flatMap fun (i:Nat)=>zdu g p c i
theorem zwk (g:zab) (p:zaf) (c:Nat):zm0 g p c 0=zl3 g p c:=by simp [zm0]
theorem zwj (g:zab) (p:zaf) (c i:Nat):zm0 g p c (i+1)=zm0 g p c i++zdu g p c i:=by simp [zm0,List.range_succ,List.flatMap_append]
theorem zkM (g:zab) (hg:GOk g) (p:zaf) (hp:POk g p):zaD Tryz.prog 92 [.agg (zac g), .agg (zae p)] (zhR (zdJ g p)):=by
 refine pF Tryz.func92 ?_
 have hal:=hp.al
 have c9:=hg.c9
 have k6:=hg.k6
 have hU:∀c i,c<p.at_.length→0≤(zan (nth p.at_ c)).1∧(zan (nth p.at_ c)).2=p.side→i≤(nth g.kinds (zan (nth p.at_ c)).1.toNat).progs.length→(zm0 g p c i).length≤8000000000:=fun c i hc hm hi=>by
  have h1:(zl3 g p c).length≤7200000000:=zq9 hg hp aa
  have hk:=zo7 hg hp (cell:=c) aa aa (by simpa using hm.1)
  simp only [Int.toNat_natCast] at hk
  have h8:=hg.pn _ (zag hk)
  have h2:=zbJ (fun (i:Nat)=>zdu g p c i) 100000000 i (fun j hj=>zmj hg hp (zf1 hp hc hm aa))
  have h3:i * 100000000≤8 * 100000000:=Nat.mul_le_mul_right _ aa
  simp only [zm0,List.length_append]
  omega
 refine J0 ?_
 refine zEp (zEs (α:=Nat×Nat) (fun a=>⟨[(2, .ref 0 0 9 0 0),(3, .ref 1 0 5 0 0),(5, .sl 2 a.2 6 0 (zl3 g p a.1).length),(6, .int a.1)], [(0, .rows true 0 9 [zac g]),(1, .rows true 0 5 [zae p]),(2, .rows true a.2 6 ((zl3 g p a.1).map zaS))],3⟩)
  (fun d a=>a.1+d=p.at_.length) ?_ p.at_.length (0,0) ?_) ?_ ?_
 ·rintro d ⟨c,G⟩ c1 hrec
  simp only at c1
  refine J0 ?_
  refine zEr (fun hc=> ?_) (fun hc=> ?_)<;>simp at hc
  ·have hO:=zfX (nth p.at_ c)
   have hsu:=zwm g p c
   have hat:=hp.at (i:=c) aa
   have hman:=zaO hat.1 hat.2 hg.k6
   have hAt:zdm g p c=if 0≤(zan (nth p.at_ c)).1∧(zan (nth p.at_ c)).2=p.side then (List.range (nth g.kinds (zan (nth p.at_ c)).1.toNat).progs.length).flatMap fun (i:Nat)=>zdu g p c i else []:=rfl
   have hU':=fun i=>hU c i hc
   have hCh:=fun i=>zf1 (g:=g) (i:=i) hp hc
   generalize zan (nth p.at_ c)=m at *
   obtain ⟨mk,ms⟩:=m
   simp only [Prod.mk.injEq] at hman hAt hU' hCh
   refine J1 hc ?_
   refine aP hO ?_
   refine J0 ?_
   refine zEr (fun hm=> ?_) (fun hm=> ?_)<;>simp at hm
   ·rw [if_neg aa] at hAt
    rw [hAt,List.append_nil] at hsu
    refine J0 ?_
    refine zEp (hrec (d - 1) aa (c+1,G) ah) ?_ ad
    simp [go_sem,zad,hsu]
   ·have hm':0≤mk∧ms=p.side:=by omega
    rw [if_pos hm'] at hAt
    have hkl:mk.toNat<g.kinds.length:=aa
    have hpn:=hg.pn _ (zag hkl)
    have hz:=zwk g p c
    refine J0 ?_
    refine zEp (zEs (α:=Nat×Nat) (fun a=>⟨[(2, .ref 0 0 9 0 0),(3, .ref 1 0 5 0 0),(5, .sl 2 a.2 6 0 (zm0 g p c a.1).length),(6, .int c),(7, .ref 3 0 2 0 0),(8, .int a.1)],
      [(0, .rows true 0 9 [zac g]),(1, .rows true 0 5 [zae p]),(2, .rows true a.2 6 ((zm0 g p c a.1).map zaS)),(3, .rows true 0 2 [[.int mk, .int ms]])],4⟩)
     (fun d a=>a.1+d=(nth g.kinds mk.toNat).progs.length) ?_ (nth g.kinds mk.toNat).progs.length (0,G) ?_) ?_ ?_
    ·rintro d2 ⟨i,G'⟩ i1 hrec2
     simp only at i1
     refine J1 hkl ?_
     refine zEr (fun hi=> ?_) (fun hi=> ?_)<;>simp at hi
     ·have hR:=zrZ g hg p hp c i (hCh i hm' hi)
      have hsi:=zwj g p c i
      have hUi:=hU' i hm' aa
      have hUj:=hU' (i+1) hm' aa
      rw [hsi,List.length_append] at hUj
      refine J0 ?_
      refine aP hR ?_
      refine J0 ?_
      refine zEp (hrec2 (d2 - 1) aa (i+1,G'+1) ah) ?_ ad
      simp [go_sem,zad,hsi]
     ·have hil:i=(nth g.kinds mk.toNat).progs.length:=by omega
      subst hil
      have hfin:zm0 g p c (nth g.kinds mk.toNat).progs.length=zl3 g p (c+1):=by rw [hsu,hAt];rfl
      rw [hfin]
      refine J0 ?_
      refine zEp (hrec (d - 1) aa (c+1,G') ah) ?_ ad
      simp [go_sem,zad]
    ·simp
    ·simp [go_sem,zad,hz]
    ·simp
  ·have hcl:c=p.at_.length:=by omega
   subst hcl
   have e:zdJ g p=zl3 g p p.at_.length:=rfl
   rw [e]
   refine J0 ?_
   exact frX
 ·simp
 ·simp [go_sem,zad,zwn]
 ·simp
def zwv (o:zcq):List AV:= [.agg (zaS o)]
theorem zno {n j:Nat} (h:j<n):(List.range n).drop j=j::(List.range n).drop (j+1):=by
 rw [List.drop_eq_getElem_cons aK];simp
theorem zzg (g:zab) (hg:GOk g) (p:zaf) (hp:POk g p):zgA Tryz.prog 99 [.fp (zae p), .fp (zac g)] 0 ((zdJ g p).map zwv):=by
 refine zEz ai Tryz.func99 rfl rfl (Nat.le_of_ble_eq_true rfl) ai (fun l=> ?_) (hm2:=by decide)
 have hal:=hp.al
 have c9:=hg.c9
 have k6:=hg.k6
 have hgb:∀ (n:Nat) (L:List zcq),Bel n (zaR l 0 (L.map zwv)):=fun n L=>by
  simp only [zaR,zhB,zfi,List.forall_mem_cons,zok,zbt]
  simp [go_sem,zwv]
 obtain ⟨oF,hoF⟩:∃oF:Nat→List zcq,oF=fun j=>((List.range p.at_.length).drop j).flatMap (zdm g p):=⟨_,rfl⟩
 have ho0:zdJ g p=oF 0:=by rw [hoF];rfl
 have hos:∀j,j<p.at_.length→oF j=zdm g p j++oF (j+1):=fun j hj=>by rw [hoF];simp only;rw [zno hj,List.flatMap_cons]
 have hon:oF p.at_.length= []:=by rw [hoF];simp only;rw [List.drop_eq_nil_of_le ad];rfl
 rw [ho0]
 clear hoF ho0
 refine Jg0 ?_
 refine zEp (zEs (α:=Nat) (fun j=>⟨[(0, .fn (.yield l) [] []),(1, .fp (zae p)),(2, .fp (zac g)),(14,zai p.at_),(15, .int p.at_.length),(16, .int j),(1000000007,zaR l 0 ((oF j).map zwv))], [],0⟩)
  (fun d j=>j+d=p.at_.length) ?_ p.at_.length 0 ?_) ?_ ?_
 ·rintro d j j1 hrec
  refine Jg0 ?_
  refine zEr (fun hj=> ?_) (fun hj=> ?_)<;>simp at hj
  ·have hat:=hp.at (i:=j) aa
   have hman:=zaO hat.1 hat.2 hg.k6
   have hO:=zf9 (nth p.at_ j)
   have hoj:=hos j hj
   have hoa:zdm g p j=if 0≤(zan (nth p.at_ j)).1∧(zan (nth p.at_ j)).2=p.side then (List.range (nth g.kinds (zan (nth p.at_ j)).1.toNat).progs.length).flatMap fun (i:Nat)=>zdu g p j i else []:=rfl
   have hrp:∀i:Nat,i<(nth g.kinds (zan (nth p.at_ j)).1.toNat).progs.length→0≤(zan (nth p.at_ j)).1→(zan (nth p.at_ j)).2=p.side→zcj g p j i:=fun i hi h1 h2=>
    ⟨aa,aa,h1,h2,aa,aJ⟩
   have hRun:∀i:Nat,i<(nth g.kinds (zan (nth p.at_ j)).1.toNat).progs.length→0≤(zan (nth p.at_ j)).1→(zan (nth p.at_ j)).2=p.side→ _:=fun i hi h1 h2=>zwt g hg p hp j i (hrp i hi h1 h2)
   have hrl:=fun (i:Nat) hi h1 h2=>zmj hg hp (hrp i hi h1 h2)
   clear hrp
   generalize zan (nth p.at_ j)=m at *
   obtain ⟨mk,ms⟩:=m
   simp only at hoa hRun hman hO hrl
   refine Jg1 hj ?_
   refine aP hO ?_
   refine Jg0 ?_
   refine zEr (fun hc=> ?_) (fun hc=> ?_)<;>simp at hc
   ·have hz:zdm g p j= []:=by rw [hoa,if_neg aa]
    rw [hz,List.nil_append] at hoj
    rw [hoj]
    refine Jg0 ?_
    refine zEp (hrec (d - 1) aa (j+1) aa) ?_ ad
    simp [go_sem,zad,hgb,GH]
   ·rw [if_pos aa] at hoa
    have hmk:mk.toNat<g.kinds.length:=by
     simp only [Prod.mk.injEq] at hman
     omega
    have hn8:=hg.pn _ (zag hmk)
    obtain ⟨np,hnp⟩:∃np,np=(nth g.kinds mk.toNat).progs.length:=⟨_,rfl⟩
    rw [← hnp] at hoa hRun hn8 hrl
    obtain ⟨pF,hpF⟩:∃pF:Nat→List zcq,pF=fun i=>((List.range np).drop i).flatMap (fun (i:Nat)=>zdu g p j i)++oF (j+1):=⟨_,rfl⟩
    have hp0:oF j=pF 0:=by rw [hpF,hoj,hoa];rfl
    have hps:∀i,i<np→pF i=zdu g p j i++pF (i+1):=fun i hi=>by rw [hpF];simp only;rw [zno hi,List.flatMap_cons,List.append_assoc]
    have hpn:pF np=oF (j+1):=by rw [hpF];simp only;rw [List.drop_eq_nil_of_le ad];rfl
    rw [hp0]
    clear hpF hp0 hoa hoj
    repeat first|refine wV fun _=>?_|simp [go_sem,GH,hmk,← hnp]
    refine zEp (zEs (α:=Nat) (fun i=>⟨[(0, .fn (.yield l) [] []),(1, .fp (zae p)),(2, .fp (zac g)),(4, .int j),(14,zai p.at_),(15, .int p.at_.length),(16, .int j),(40, .int np),(41, .int i),(1000000007,zaR l 0 ((pF i).map zwv))], [],0⟩)
     (fun d i=>i+d=np) ?_ np 0 ?_) ?_ ?_
    ·rintro d2 i i1 hrec2
     refine Jg0 ?_
     refine zEr (fun hi=> ?_) (fun hi=> ?_)<;>simp at hi
     ·have hR:=hRun i hi aa aa
      have hpi:=hps i hi
      obtain ⟨rs,hrs⟩:∃rs,rs=zdu g p j i:=⟨_,rfl⟩
      have hrl':=hrl i hi aa aa
      rw [← hrs] at hR hpi hrl'
      obtain ⟨rF,hrF⟩:∃rF:Nat→List zcq,rF=fun t=>rs.drop t++pF (i+1):=⟨_,rfl⟩
      have hr0:pF i=rF 0:=by rw [hrF,hpi];rfl
      have hrt:∀t,t<rs.length→rF t=nth rs t::rF (t+1):=fun t ht=>by rw [hrF];simp only;rw [zas ht];rfl
      have hrn:rF rs.length=pF (i+1):=by rw [hrF];simp
      rw [hr0]
      clear hrF hr0
      refine Jg0 ?_
      refine aP hR ?_
      refine Jg0 ?_
      refine zEp (zEs (α:=Nat) (fun t=>⟨[(0, .fn (.yield l) [] []),(1, .fp (zae p)),(2, .fp (zac g)),(4, .int j),(14,zai p.at_),(15, .int p.at_.length),(16, .int j),(40, .int np),(41, .int i),(52,zhR rs),(53, .int rs.length),(54, .int t),(1000000007,zaR l 0 ((rF t).map zwv))], [],0⟩)
       (fun d t=>t+d=rs.length) ?_ rs.length 0 ?_) ?_ ?_
      ·rintro d3 t t1 hrec3
       refine Jg0 ?_
       refine zEr (fun ht=> ?_) (fun ht=> ?_)<;>simp at ht
       ·rw [hrt t ht]
        refine Jg1 ht ?_
        refine zfn.mk (more:=0) (xs:=zwv (nth rs t)) (rs:=(rF (t+1)).map zwv) _ ay (.refl _) (.refl _ _ _ _) (by simp [go_sem,zwv]) ?_ ?_
        ·refine Jg0 ?_
         refine zEp (hrec3 (d3 - 1) aa (t+1) aa) ?_ ad
         simp [go_sem,zad,hgb,GH]
        ·exact Kg0
       ·have e:t=rs.length:=by omega
        subst e
        rw [hrn]
        refine Jg0 ?_
        refine zEp (hrec2 (d2 - 1) aa (i+1) aa) ?_ ad
        simp [go_sem,zad,hgb,GH]
      ·omega
      ·simp [go_sem,zad,hgb,GH]
      ·simp
     ·have e:i=np:=by omega
      subst e
      rw [hpn]
      refine Jg0 ?_
      refine zEp (hrec (d - 1) aa (j+1) aa) ?_ ad
      simp [go_sem,zad,hgb,GH]
    ·omega
    ·simp [go_sem,zad,hgb,GH]
    ·simp
  ·have e:j=p.at_.length:=by omega
   subst e
   rw [hon]
   exact Kg0
 ·omega
 ·simp [go_sem,zad,hgb,GH]
 ·simp
def zzj (n:Nat):AV:= .fn (.func 99) [] [.ref (n+1) 0 5 0 0, .ref n 0 9 0 0]
def zzh (g:zab) (p:zaf) (n:Nat):List (Nat×zbp):= [(n, .rows true 0 9 [zac g]),(n+1, .rows true 0 5 [zae p])]
theorem zph (g:zab) (p:zaf):zhb Tryz.prog 53 [.agg (zac g), .agg (zae p)] zzj (zzh g p) 2:=by
 refine ⟨?_,fun n=>⟨by simp [go_sem,zzj],by simp [go_sem,zzh]⟩⟩
 refine aF Tryz.func53 ?_
 repeat first|refine wV fun _=>?_|simp [go_sem,zzj,zzh]
 simp [go_sem,zad]
theorem zBc (g:zab) (p:zaf):(zhS g p).2=decide (0≤zdl g p):=by
 unfold zhS;split<;>simp_all
theorem zxp {α:Type} (f:α→Bool):∀l:List α,l.any f=decide (0<(l.filter f).length)
 | []=>rfl
 |x::l=>by cases h:f x<;>simp [h,zxp f l]
theorem zgz (g:zab) (hg:GOk g) (p:zaf) (hp:POk g p):zaD Tryz.prog 25 [.agg (zac g), .agg (zae p)] (zaC (zar g p)):=by
 refine pF Tryz.func25 ?_
 have hE:=zvF g hg p hp
 have hD:=ztj g hg p hp
 have hdl:=zgE hg hp
 have hdo:=fun q hq=>((zqb hg hp) q hq).1.fits hg
 have hol:=zl4 hg hp
 have hoo:=fun o ho=>((zuq hg hp) o ho).1.fits hg
 have hS:zhb Tryz.prog 53 [.agg (zac g), .agg (zae p)] (fun n=>zzj n) (fun n=>zzh g p n) 2:=zph g p
 have hQ:=zzg g hg p hp
 simp only [zzj,zzh] at hS
 have e2:=zBc g p
 have hMv:zar g p=if 0≤zdl g p then [] else za3 zbi (zdR g p):=rfl
 have hML:zdR g p=((zdJ g p).filter fun o=> !zgV g p||o.took).map (·.pos)++(if zgV g p then [] else zcI g p):=rfl
 have hMu:zgV g p=(g.must && (zdJ g p).any (·.took)):=rfl
 rw [e2] at hE
 rw [hMv]
 generalize zdl g p=ep at *
 generalize (zhS g p).1=ev1 at *
 generalize zdJ g p=outs at *
 generalize zcI g p=drops at *
 generalize zgV g p=must at *
 generalize zdR g p=mvl at *
 clear hMv e2
 refine J0 ?_
 refine aP hE ?_
 refine J0 ?_
 refine zEr (fun he=> ?_) (fun he=> ?_)<;>simp at he
 ·rw [if_pos he]
  exact K0
 ·rw [if_neg aa]
  refine Jg0 ?_
  refine zEu hS ae ?_
  refine Jg0 ?_
  refine zdj.mk [.fp (zae p), .fp (zac g)] (za6 _ [4,5]) hQ (zbf _ _) ?_ ae (by simp [zwv]) ?_
  ·refine zav.cons (.frzP rfl ?_ ?_ ?_ ?_) (zav.cons (.frzP rfl ?_ ?_ ?_ ?_) .nil)<;>first|exact zav.refl _ _ _ _|simp [za6,zbr,upd]
  obtain ⟨al,hal⟩:∃al:Nat→List zaf,al=fun k=>(outs.take k).map (·.pos):=⟨_,rfl⟩
  obtain ⟨tk,htk⟩:∃tk:Nat→List zaf,tk=fun k=>((outs.take k).filter (·.took)).map (·.pos):=⟨_,rfl⟩
  have hall:∀k,(al k).length≤7200000000:=fun k=>by rw [hal];simp;omega
  have htkl:∀k,(tk k).length≤7200000000:=fun k=>by rw [htk];simp only [List.length_map];have:=List.length_filter_le (·.took) (outs.take k);simp at this;omega
  have hals:∀k,k<outs.length→al (k+1)=al k++ [(nth outs k).pos]:=fun k hk=>by rw [hal];simp only;rw [List.take_add_one,List.getElem?_eq_getElem hk,zap _ _ hk,Option.toList_some,List.map_append];rfl
  have htks:∀k,k<outs.length→tk (k+1)=if (nth outs k).took=true then tk k++ [(nth outs k).pos] else tk k:=fun k hk=>by
   rw [htk];simp only;rw [List.take_add_one,List.getElem?_eq_getElem hk,zap _ _ hk,Option.toList_some,List.filter_append]
   cases hq:outs[k].took<;>simp [hq]
  have hal0:al 0= []:=by rw [hal];rfl
  have htk0:tk 0= []:=by rw [htk];rfl
  have halE:al outs.length=outs.map (·.pos):=by rw [hal];simp
  have htkE:tk outs.length=(outs.filter (·.took)).map (·.pos):=by rw [htk];simp
  clear hal htk
  refine Fgt.to (zEA (α:=Nat) (fun k=>([(2, .ref 0 0 9 0 0),(3, .ref 1 0 5 0 0),(7, .ref 2 0 1 0 0),(8, .ref 3 0 1 0 0)], [(0, .rows true 0 9 [zac g]),(1, .rows true 0 5 [zae p]),(2, .rows true 0 1 [[.sl 6 (al k).length 5 0 (al k).length]]),(3, .rows true 0 1 [[.sl 7 (tk k).length 5 0 (tk k).length]]),
    (6, .rows true (al k).length 5 ((al k).map zae)),(7, .rows true (tk k).length 5 ((tk k).map zae))],8))
   (fun rows k=>rows=(outs.drop k).map zwv∧k≤outs.length) ?_ ?_ _ 0 ?_) ?_ ?_
  ·rintro k ⟨i1,i2⟩
   have hk:k=outs.length:=by
    have:=congrArg List.length i1
    simp at this
    omega
   subst hk
   refine ⟨rfl, ?_⟩
   have hmu:must=(g.must && decide (0<(tk outs.length).length)):=by
    rw [hMu,htkE,zxp,List.length_map]
   have hft:∀q ∈ tk outs.length,zaQ q:=fun q hq=>by
    rw [htkE] at hq
    obtain ⟨o,ho,rfl⟩:=List.mem_map.1 hq
    exact hoo o (List.mem_filter.1 ho).1
   have hfa:∀q ∈ al outs.length,zaQ q:=fun q hq=>by
    rw [halE] at hq
    obtain ⟨o,ho,rfl⟩:=List.mem_map.1 hq
    exact hoo o ho
   have hla:=hall outs.length
   have hlt:=htkl outs.length
   by_cases hm:must=true
   ·rw [hm] at hmu hML
    have hgm:g.must=true:=by cases h:g.must<;>simp [h] at hmu ⊢
    have hpos:0<(tk outs.length).length:=by rw [hgm] at hmu;simpa using hmu
    have hpos':(0:Int)<(tk outs.length).length:=aa
    have e:mvl=tk outs.length:=by rw [hML,htkE];simp
    rw [e]
    generalize tk outs.length=tks at *
    have hS1:=zc0 tks aa hft
    repeat first|refine wV fun _=>?_|simp [go_sem,GH,← hmu]
    refine zEv [7] hS1 ?_ (zsr (zbk _)) ?_
    ·(first|done|exact agX)
    ·exact Kg0
   ·have e:mvl=al outs.length++drops:=by
     simp only [Bool.not_eq_true] at hm
     rw [hML,hm,halE,List.filter_eq_self.2 ad];simp
    rw [e]
    have hS1:=zc0 (al outs.length++drops) (by rw [List.length_append];omega) (fun q hq=>by
     rcases List.mem_append.1 hq with h|h
     ·exact hfa q h
     ·exact hdo q h)
    simp only [Bool.not_eq_true] at hm
    rw [hm] at hmu
    generalize al outs.length=als at *
    generalize tk outs.length=tks at *
    generalize za3 zbi (als++drops)=res at *
    repeat first|refine wV fun _=>?_|simp [go_sem,GH,← hmu]
    refine dP hD ?_
    refine Jg0 ?_
    refine zbq.frz [zaC (als++drops)] _ [6] [(6,some (.rows false (als.length+1) 5 ((als++drops).map zae)))] hS1 ?_ ?_ (zsr (zbk _)) ?_
    ·intro q hq
     simp only [List.mem_singleton] at hq
     subst hq
     exact ⟨ad,als.length+1,5, _,rfl,aR⟩
    ·intro h₁ hS
     have h6:=hS 6 ad
     simp [upd] at h6
     exact .cons (zak h6.symm ad cF dE) .nil
    ·exact Kg0
  ·rintro xs rs k ⟨i1,i2⟩ hrec
   have hk:k<outs.length:=by
    have:=congrArg List.length i1
    simp at this
    omega
   rw [zas hk,List.map_cons,List.cons.injEq] at i1
   obtain ⟨rfl,rfl⟩:=i1
   have hals:=hals k hk
   have htks:=htks k hk
   have h1:=hall k
   have h2:=htkl k
   obtain ⟨o,ho⟩:∃o,o=nth outs k:=⟨_,rfl⟩
   rw [← ho] at hals htks ⊢
   obtain ⟨op,ot⟩:=o
   simp only at hals htks
   generalize hrs:(outs.drop (k+1)).map zwv=rs at *
   refine zEF (Nat.zero_le _) ?_
   repeat first|refine wV fun _=>?_|simp [go_sem,GH,zwv]
   cases ot
   ·rw [if_neg ad] at htks
    refine Jg0 ?_
    refine Fgt.to (hrec (k+1) ⟨hrs.symm,aa⟩) ?_ ad
    simp [go_sem,zad,GH,hals,htks]
   ·rw [if_pos rfl] at htks
    refine Jg0 ?_
    refine Fgt.to (hrec (k+1) ⟨hrs.symm,aa⟩) ?_ ad
    simp [go_sem,zad,GH,hals,htks]
  ·exact ⟨rfl,Nat.zero_le _⟩
  ·simp [go_sem,zad,hal0,htk0]
  ·simp
def zh5 (p:zaf→Bool) (l:List zaf):Int:=match l.findIdx? p with|some i=>(i:Int)|none=> -1
theorem zyB {p:zaf→Bool}{l:List zaf}{j:Nat} (hj:j<l.length) (h:∀i,i<j→p (nth l i)=false) (hp:p (nth l j)=true):zh5 p l=j:=by
 have:l.findIdx? p=some j:=by
  rw [List.findIdx?_eq_some_iff_getElem]
  refine ⟨hj,cL,fun i hi=> ?_⟩
  have:=h i hi
  rw [zap _ _ aa] at this
  simp [this]
 simp [zh5,this]
theorem zsT {p:zaf→Bool}{l:List zaf} (h:∀i,i<l.length→p (nth l i)=false):zh5 p l= -1:=by
 have:l.findIdx? p=none:=by
  rw [List.findIdx?_eq_none_iff]
  intro x hx
  obtain ⟨i,hi,rfl⟩:=List.getElem_of_mem hx
  have:=h i hi
  rw [zap _ _ hi] at this
  exact this
 simp [zh5,this]
theorem znD {p:zaf→Bool}{l:List zaf}:decide (0≤zh5 p l)=l.any p:=by
 unfold zh5
 cases h:l.findIdx? p with
 |none=>
  rw [List.findIdx?_eq_none_iff] at h
  simp
  simpa using h
 |some i=>
  have:=List.findIdx?_isSome (xs:=l) (p:=p)
  rw [h] at this
  simp at this ⊢
  exact this
theorem zfT (l:List zaf) (hl:l.length≤17179869184) (f:FuncId) (first caps:List AV) (p:zaf→Bool) (hp:∀x ∈ l,zaD Tryz.prog f (first++ .agg (zae x)::caps) (.v (.bool (p x)))) (hb:∀c ∈ first,Bel 0 c) (hb':∀c ∈ caps,Bel 0 c):
  zaD Tryz.prog 74 [zaC l, .fn (.func f) first caps] (.int (zh5 p l)):=by
 refine pF Tryz.func74 ?_
 simp [go_sem]
 refine zEp (zEs (α:=Nat) (fun j=>⟨[(0,zaC l),(1, .fn (.func f) first caps),(7, .int l.length),(8, .int j)], [],0⟩)
  (fun d j=>j+d=l.length∧(∀i<j,p (nth l i)=false)) ?_ l.length 0 ?_) ?_ ?_
 ·rintro d j ⟨i1,i2⟩ hrec
  simp [go_sem]
  refine zEr (fun hj=> ?_) (fun hj=> ?_)
  ·simp at hj
   simp [go_sem]
   refine zEL hj fun _=> ?_
   simp [go_sem,hj]
   refine zEt (hp _ (zag hj)) (fun c hc=>by
    rcases List.mem_append.1 hc with h|h
    ·exact hb c h
    ·rcases List.mem_cons.1 h with rfl|h
     ·exact of_eq_true ae
     ·exact hb' c h) ?_
   simp [go_sem]
   refine zEr (fun h=> ?_) (fun h=> ?_)
   ·simp [go_sem,zyB hj i2 h]
   ·simp [go_sem]
    refine zEL aa fun _=> ?_
    simp [go_sem]
    refine zEp (hrec (d - 1) aa (j+1) ⟨aa,fun i hi=> ?_⟩) ?_ ad
    ·rcases Nat.lt_or_ge i j with h'|h'
     ·exact i2 i h'
     ·obtain rfl:i=j:=by omega
      exact h
    ·simp [go_sem,zad]
     exact ⟨hb,hb'⟩
  ·simp at hj
   simp [go_sem,zsT fun i hi=>i2 i aa]
 ·simp
 ·simp [go_sem,zad]
  exact ⟨hb,hb'⟩
 ·simp
theorem zhC (l:List zaf) (hl:l.length≤17179869184) (f:FuncId) (first caps:List AV) (p:zaf→Bool) (hp:∀x ∈ l,zaD Tryz.prog f (first++ .agg (zae x)::caps) (.v (.bool (p x)))) (hb:∀c ∈ first,Bel 0 c) (hb':∀c ∈ caps,Bel 0 c):
  zaD Tryz.prog 84 [zaC l, .fn (.func f) first caps] (.v (.bool (l.any p))):=by
 refine pF Tryz.func84 ?_
 simp [go_sem]
 refine zEt (zfT l hl f first caps p hp hb hb') (by simp [go_sem];exact ⟨hb,hb'⟩) ?_
 simp [go_sem,znD]
theorem zs4 (m q:zaf) (hm:zaQ m) (hq:zaQ q):zaD Tryz.prog 85 [.agg (zae m), .fp (zae q)] (.v (.bool (decide (m=q)))):=by
 refine pF Tryz.func85 ?_
 have c1:=zbL m q hm hq
 have e:decide (m=q)=decide (zbi m q=0):=by rw [decide_eq_decide];exact (zaU.eq m q).symm
 rw [e]
 generalize zbi m q=x at *
 refine J0 ?_
 refine aP c1 ?_
 exact K0
theorem ziG (g:zab) (hg:GOk g) (p:zaf) (hp:POk g p) (q:zaf) (hq:zaQ q):zaD Tryz.prog 40 [.agg (zac g), .agg (zae p), .agg (zae q)] (.v (.bool (decide (q ∈ zar g p)))):=by
 refine pF Tryz.func40 ?_
 have hM:=zgz g hg p hp
 have hml:=znZ hg hp
 have hmf:=fun m hm=>((zcu hg hp) m hm).1.fits hg
 generalize zar g p=l at *
 have hC:=zhC l aa 85 [] [.fp (zae q)] (fun m=>decide (m=q)) (fun m hm=>zs4 m q (hmf m hm) hq) ad ae
 have e:l.any (fun m=>decide (m=q))=decide (q ∈ l):=by
  rw [Bool.eq_iff_iff]
  simp
 rw [e] at hC
 refine J0 ?_
 refine aP hM ?_
 refine J0 ?_
 refine zEv [2] hC ?_ ae ?_
 ·(first|done|exact leX)
 ·exact K0
theorem zdc {α:Type} [DecidableEq α]:∀ {l r:List α},l.Nodup→(∀x ∈ l,x ∈ r)→l.length≤r.length
 | [],r, _, _=>ad
 |x::l,r,hn,hs=>by
  rw [List.nodup_cons] at hn
  have hx:=hs x ad
  have:=zdc (l:=l) (r:=r.erase x) hn.2 (fun y hy=>by
   have hne:y≠x:=fun h=>hn.1 (h▸hy)
   exact (List.mem_erase_of_ne hne).2 (hs y bg))
  rw [List.length_erase_of_mem hx] at this
  have:=List.length_pos_of_mem hx
  simp only [List.length_cons]
  omega
theorem zpO:∀ {more l:List StD}{s:StD},s ∈ zeN l more↔s ∈ l∨s ∈ more
 | [],l,s=>by simp [zeN]
 |x::more,l,s=>by
  show s ∈ zeN (if x ∈ l then l else l++ [x]) more↔ _
  rw [zpO]
  split
  ·rename_i h
   simp only [List.mem_cons]
   exact ⟨fun h=>by rcases h with h|h<;>simp [h],fun h'=>by rcases h' with h'|rfl|h'<;>simp [*]⟩
  ·simp [or_assoc]
theorem ziH:∀ {more l:List StD},l.Nodup→(zeN l more).Nodup
 | [],l,h=>h
 |x::more,l,h=>by
  show (zeN (if x ∈ l then l else l++ [x]) more).Nodup
  split
  ·exact ziH h
  ·rename_i hx
   refine ziH (List.nodup_append.2 ⟨h,ad, ?_⟩)
   intro a ha b hb e
   simp only [List.mem_singleton] at hb
   subst hb;subst e
   exact hx ha
theorem zlX (g:zab) (x:Int×Int):∀ (now acc:List StD) (s:StD),s ∈ now.foldl (fun next s=>zeN next (zbS g s x)) acc↔s ∈ acc∨∃r ∈ now,s ∈ zbS g r x
 | [],acc,s=>ad
 |r::now,acc,s=>by
  rw [List.foldl_cons,zlX g x now,zpO]
  simp [or_assoc]
theorem zi9 {g:zab}{x:Int×Int}{now:List StD}{s:StD}:s ∈ zht g now x↔∃r ∈ now,s ∈ zbS g r x:=by
 unfold zht
 rw [zlX]
 simp
theorem zjQ (g:zab) (x:Int×Int):∀ (now acc:List StD),acc.Nodup→(now.foldl (fun next s=>zeN next (zbS g s x)) acc).Nodup
 | [],acc,h=>h
 |r::now,acc,h=>zjQ g x now _ (ziH h)
theorem ztb (g:zab) (now:List StD) (x:Int×Int):(zht g now x).Nodup:=zjQ g x now [] ad
theorem znt (g:zab):∀ (prog:List (Int×Int)) (now:List StD),now.Nodup→(prog.foldl (zht g) now).Nodup
 | [],now,h=>h
 |x::prog,now, _=>znt g prog _ (ztb g now x)
def zA1 (s:StD) (c:Int):StD:={ s with cursor:=c}
def FewS (n:Nat) (l:List StD):Prop:=∃B:List StD,B.length≤n∧∀s ∈ l,∃t ∈ B,s=zA1 t s.cursor
theorem zmo {s:StD}:∀ {l:List Int},∀t ∈ zby s l,t=zA1 s t.cursor
 | [],t,h=>by simp [zby] at h
 |c::l,t,h=>by
  rw [zby,List.mem_cons] at h
  rcases h with rfl|h
  ·rfl
  ·split at h
   ·exact zmo t h
   ·simp at h
def zdI (x:Int×Int):Bool:=x.1==6||x.1==7
theorem zcJ {s t:StD}{b:Bool} (h:t ∈ zcX s b):t=s:=by
 unfold zcX at h
 split at h<;>simp at h
 exact h
theorem zwH (g:zab) (x:Int×Int) (hx:zdI x=false):∃f:StD→StD,∀t c,∀u ∈ zbS g (zA1 t c) x,u=zA1 (f t) u.cursor:=by
 simp only [zdI,Bool.or_eq_false_iff,beq_eq_false_iff_ne] at hx
 by_cases h8:x.1=8
 ·refine ⟨fun t=>{ t with kind:=x.2},fun t c u hu=> ?_⟩
  simp [zbS,h8] at hu
  subst hu;rfl
 by_cases h10:x.1=10
 ·refine ⟨fun t=>{ t with p:={ t.p with rights:=zbg .i64 t.p.rights (2 ^ x.2.toNat)}},fun t c u hu=> ?_⟩
  simp [zbS,h10] at hu
  subst hu;rfl
 refine ⟨id,fun t c u hu=> ?_⟩
 unfold zbS at hu
 simp only [h8,h10,hx.1,hx.2,if_false] at hu
 repeat' split at hu
 ·have:=zcJ hu;subst this;rfl
 ·have:=zmo u hu
  rw [this];rfl
 ·have:=zcJ hu;subst this;rfl
 ·have:=zcJ hu;subst this;rfl
 ·have:=zcJ hu;subst this;rfl
 ·have:=zcJ hu;subst this;rfl
 ·simp at hu;subst hu;rfl
theorem zzG (g:zab) (s:StD) (x:Int×Int) (hx:zdI x=true):(zbS g s x).length≤1:=by
 simp only [zdI,Bool.or_eq_true,beq_iff_eq] at hx
 unfold zbS
 rcases hx with h|h
 ·simp only [h]
  rw [if_neg am,if_neg am,if_neg am,if_neg am,if_neg am,if_pos trivial]
  unfold zm3
  simp only
  split
  ·simp
  ·split
   ·split<;>simp
   ·simp
 ·simp only [h]
  rw [if_neg am,if_neg am,if_neg am,if_neg am,if_neg am,if_neg am,if_pos trivial]
  unfold zm1
  simp only
  split<;>simp
theorem zft {α β:Type} (f:α→List β) (m:Nat):∀ (l:List α),(∀x ∈ l,(f x).length≤m)→(l.flatMap f).length≤l.length * m
 | [], _=>ad
 |x::l,h=>by
  have:=zft f m l (fun y hy=>h y bg)
  have:=h x ad
  rw [List.flatMap_cons,List.length_append,List.length_cons,Nat.succ_mul]
  omega
theorem zyl {g:zab}{now:List StD}{x:Int×Int}{n:Nat} (hc:∀s ∈ now,0≤s.cursor∧s.cursor<9) (h:FewS n now):FewS (n * (if zdI x then 9 else 1)) (zht g now x):=by
 obtain ⟨B,hB,hs⟩:=h
 by_cases hx:zdI x=true
 ·refine ⟨B.flatMap fun t=>(List.range 9).flatMap fun (c:Nat)=>zbS g (zA1 t c) x, ?_,fun u hu=> ?_⟩
  ·have h1:=zft (fun t:StD=>(List.range 9).flatMap fun (c:Nat)=>zbS g (zA1 t c) x) 9 B (fun t _=>by
    have:=zft (fun (c:Nat)=>zbS g (zA1 t c) x) 1 (List.range 9) (fun c _=>zzG g _ x hx)
    simpa using this)
   rw [if_pos hx]
   exact Nat.le_trans h1 (Nat.mul_le_mul_right 9 hB)
  ·obtain ⟨r,hr,hu⟩:=zi9.1 hu
   obtain ⟨t,ht,e⟩:=hs r hr
   have:=hc r hr
   refine ⟨u,List.mem_flatMap.2 ⟨t,ht,List.mem_flatMap.2 ⟨r.cursor.toNat,ak, ?_⟩⟩,rfl⟩
   rw [show ((r.cursor.toNat:Nat):Int)=r.cursor by omega,← e]
   exact hu
 ·simp only [Bool.not_eq_true] at hx
  obtain ⟨f,hf⟩:=zwH g x hx
  refine ⟨B.map f,by simp [hx];exact hB,fun u hu=> ?_⟩
  obtain ⟨r,hr,hu⟩:=zi9.1 hu
  obtain ⟨t,ht,e⟩:=hs r hr
  rw [e] at hu
  exact ⟨f t,List.mem_map_of_mem ht,hf t _ u hu⟩
theorem zDU {g:zab} (hg:GOk g){now:List StD}{x:Int×Int} (hx:zeP g.next.length g.kinds.length g.rights x) (hn:∀s ∈ now,zfN g s):∀s ∈ zht g now x,zfN g s:=by
 intro s hs
 obtain ⟨r,hr,hs⟩:=zi9.1 hs
 exact (ziw hg (hn r hr) hx s hs).1
theorem zqo {g:zab} (hg:GOk g):∀ (prog:List (Int×Int)) (now:List StD) (n:Nat),(∀x ∈ prog,zeP g.next.length g.kinds.length g.rights x)→(∀s ∈ now,zfN g s)→FewS n now→
  FewS (n * 9 ^ prog.countP zdI) (prog.foldl (zht g) now)
 | [],now,n, _, _,h=>aK
 |x::prog,now,n,hp,hn,h=>by
  have h9:=hg.c9
  have h1:=zyl (g:=g) (x:=x) (fun s hs=>⟨(hn s hs).c0,by have:=(hn s hs).c1;omega⟩) h
  have h2:=zqo hg prog _ _ (fun y hy=>hp y bg) (zDU hg (hp x ad) hn) h1
  rw [List.foldl_cons,List.countP_cons]
  have e:n * (if zdI x=true then 9 else 1) * 9 ^ prog.countP zdI=n * 9 ^ (prog.countP zdI+if zdI x=true then 1 else 0):=by
   by_cases hx:zdI x=true
   ·rw [if_pos hx,if_pos hx,Nat.pow_succ,Nat.mul_assoc,Nat.mul_comm 9]
   ·rw [if_neg hx,if_neg hx,Nat.mul_one,Nat.add_zero]
  rw [← e]
  exact h2
theorem zBe {l:List StD}{n:Nat} (hn:l.Nodup) (hc:∀s ∈ l,0≤s.cursor∧s.cursor<9) (h:FewS n l):l.length≤n * 9:=by
 obtain ⟨B,hB,hs⟩:=h
 have h1:=zdc (r:=B.flatMap fun t=>(List.range 9).map fun (c:Nat)=>zA1 t c) hn (fun s h=>by
  obtain ⟨t,ht,e⟩:=hs s h
  have:=hc s h
  refine List.mem_flatMap.2 ⟨t,ht,List.mem_map.2 ⟨s.cursor.toNat,ak, ?_⟩⟩
  rw [show ((s.cursor.toNat:Nat):Int)=s.cursor by omega,← e])
 have h2:=zft (fun t:StD=>(List.range 9).map fun (c:Nat)=>zA1 t c) 9 B (fun t _=>by simp)
 exact Nat.le_trans h1 (Nat.le_trans h2 (Nat.mul_le_mul_right 9 hB))
theorem zsy (prog:List (Int×Int)):prog.countP zdI≤zaF prog 6+zaF prog 7:=by
 unfold zaF
 induction prog with
 |nil=>simp
 |cons x l ih=>
  simp only [List.countP_cons,zdI]
  by_cases h6:x.1=6
  ·simp [h6];omega
  ·by_cases h7:x.1=7
   ·simp [h7];omega
   ·simp [h6,h7];omega
theorem zyP {g:zab} (hg:GOk g){p:zaf} (hp:POk g p){cell i:Int} (hc:zcj g p cell i):(zeJ g p cell (za1 g p cell i)).length≤6561:=by
 have hpg:=zzr hg hp hc
 have hst:=(zmu hg hp hc.c0 hc.c1 hc.man).1
 have h1:=zqo hg (za1 g p cell i) [zfb p cell] 1 hpg.st (fun s hs=>by simp at hs;subst hs;exact hst) ⟨[zfb p cell],ad,fun s hs=>⟨s,hs,rfl⟩⟩
 have h9:=hg.c9
 have h2:=zBe (znt g (za1 g p cell i) [zfb p cell] ad) (fun s hs=>by
  have:=((zkv hg hp hc).1 s hs).1
  exact ⟨this.c0,by have:=this.c1;omega⟩) h1
 have h3:(za1 g p cell i).countP zdI≤3:=by
  have:=zsy (za1 g p cell i)
  have:=hpg.take
  have:=hpg.push
  omega
 have h4:9 ^ (za1 g p cell i).countP zdI≤9 ^ 3:=Nat.pow_le_pow_right aa h3
 have h5:(zeJ g p cell (za1 g p cell i)).length≤1 * 9 ^ (za1 g p cell i).countP zdI * 9:=h2
 omega
theorem zwx {g:zab} (hg:GOk g){p:zaf} (hp:POk g p){cell i:Int} (hc:zcj g p cell i):(zdu g p cell i).length≤6561:=by
 unfold zdu
 have h1:=zdz zjC ((zeJ g p cell (za1 g p cell i)).filterMap (zgX p.side))
 have h2:((zeJ g p cell (za1 g p cell i)).filterMap (zgX p.side)).length≤(zeJ g p cell (za1 g p cell i)).length:=List.length_filterMap_le _ _
 have h3:=zyP hg hp hc
 omega
theorem ztc {g:zab} (hg:GOk g){p:zaf} (hp:POk g p){c:Nat} (hc:c<p.at_.length):(zdm g p c).length≤52488:=by
 unfold zdm
 split
 ·rename_i hm
  have hal:=hp.al
  have hk:=zo7 hg hp (cell:=c) aa aa (by simpa using hm.1)
  have hpn:=hg.pn _ (zag aC)
  have:=zbJ (fun (i:Nat)=>zdu g p c i) 6561 (nth g.kinds (zan (nth p.at_ c)).1.toNat).progs.length (fun i hi=>zwx hg hp (zf1 hp hc hm hi))
  omega
 ·simp
theorem zwl {g:zab} (hg:GOk g){p:zaf} (hp:POk g p){k:Nat} (hk:k≤p.at_.length):((List.range k).flatMap (zdm g p)).length≤472392:=by
 have:=zbJ (zdm g p) 52488 k (fun c hc=>ztc hg hp aa)
 have h9:=hg.c9
 have hal:=hp.al
 omega
theorem zwo {g:zab} (hg:GOk g){p:zaf} (hp:POk g p):(zdJ g p).length≤472392:=zwl hg hp (Nat.le_refl _)
theorem zs8 {g:zab} (hg:GOk g){p:zaf} (hp:POk g p):(zdR g p).length≤472446:=by
 unfold zdR
 have h1:=zwo hg hp
 have h2:=zgE hg hp
 have h3:((zdJ g p).filter fun o=> !zgV g p||o.took).length≤(zdJ g p).length:=List.length_filter_le _ _
 rw [List.length_append,List.length_map]
 split<;>simp<;>omega
theorem zej {g:zab} (hg:GOk g){p:zaf} (hp:POk g p):(zar g p).length≤472446:=by
 unfold zar
 split
 ·simp
 ·exact Nat.le_trans (zdz zbi _) (zs8 hg hp)
abbrev Inc (l:List zaf):Prop:=l.Pairwise (fun a b=>zbi a b<0)
theorem Inc.lt {l:List zaf} (h:Inc l){i j:Nat} (hij:i<j) (hj:j<l.length):zbi (nth l i) (nth l j)<0:=by
 rw [zap _ _ aa,zap _ _ hj]
 exact List.pairwise_iff_getElem.1 h _ _ _ _ hij
theorem Inc.sign {l:List zaf} (h:Inc l){i j:Nat} (hi:i<l.length) (hj:j<l.length):(zbi (nth l i) (nth l j)=0↔i=j)∧(zbi (nth l i) (nth l j)<0↔i<j):=by
 have hs:=zaU.swap (nth l i) (nth l j)
 rcases Nat.lt_trichotomy i j with h'|h'|h'
 ·have:=h.lt h' hj
  exact ⟨⟨aa,aa⟩,⟨aa,aa⟩⟩
 ·subst h'
  have:=(zaU.eq (nth l i) (nth l i)).2 rfl
  exact ⟨⟨aa,aa⟩,⟨aa,aa⟩⟩
 ·have:=h.lt h' hi
  exact ⟨⟨aa,aa⟩,⟨aa,aa⟩⟩
theorem Inc.inj {l:List zaf} (h:Inc l){i j:Nat} (hi:i<l.length) (hj:j<l.length) (e:nth l i=nth l j):i=j:=
 (h.sign hi hj).1.1 ((zaU.eq _ _).2 e)
def zrH (l:List zaf) (p:zaf):Int:=match l.findIdx? (fun q=>decide (q=p)) with|some i=>(i:Int)|none=> -1
theorem zsN {l:List zaf} (h:Inc l){j:Nat} (hj:j<l.length):zrH l (nth l j)=j:=by
 have:l.findIdx? (fun q=>decide (q=nth l j))=some j:=by
  rw [List.findIdx?_eq_some_iff_getElem]
  refine ⟨hj,by rw [← zap _ _ hj];simp,fun i hi=> ?_⟩
  rw [← zap _ _ aa]
  simp only [decide_eq_true_eq]
  intro e
  have:=h.inj aa hj e
  omega
 unfold zrH
 rw [this]
theorem zlq {l:List zaf}{p:zaf} (h:p ∉ l):zrH l p= -1:=by
 have:l.findIdx? (fun q=>decide (q=p))=none:=by
  rw [List.findIdx?_eq_none_iff]
  intro x hx
  simp only [decide_eq_false_iff_not]
  intro e
  exact h (e▸hx)
 unfold zrH
 rw [this]
theorem zlT {α:Type} [Inhabited α] {l:List α}{x:α} (h:x ∈ l):∃j,j<l.length∧nth l j=x:=by
 obtain ⟨j,hj,rfl⟩:=List.getElem_of_mem h
 exact ⟨j,hj,zap _ _ hj⟩
theorem zfu {l:List zaf} (h:Inc l){p:zaf}:0≤zrH l p↔p ∈ l:=by
 by_cases hp:p ∈ l
 ·obtain ⟨j,hj,rfl⟩:=zlT hp
  rw [zsN h hj]
  exact ⟨fun _=>hp,fun _=>aa⟩
 ·rw [zlq hp]
  exact ⟨fun h=>aa,fun h=>absurd h hp⟩
theorem zlo {l:List zaf}{p:zaf}{r:Nat} (hc:∀i,i<l.length→(zbi p (nth l i)=0↔r=i)∧(zbi p (nth l i)<0↔r<i)):∀f lo hi,hi≤l.length→lo≤r→r<hi→hi - lo<f→zhY l p f lo hi=r
 |0,lo,hi, _, _, _,h=>aa
 |f+1,lo,hi,h1,h2,h3,h4=>by
  rw [zhY,if_pos aa]
  have hm:=hc ((lo+hi) / 2) aa
  split
  ·rename_i hz
   have:=hm.1.1 hz
   omega
  ·rename_i hz
   split
   ·rename_i hn
    exact zlo hc f lo ((lo+hi) / 2) aa h2 (hm.2.1 hn) aa
   ·rename_i hn
    refine zlo hc f ((lo+hi) / 2+1) hi h1 ?_ h3 aa
    have a1:r≠(lo+hi) / 2:=fun h=>hz (hm.1.2 h)
    have a2:¬r<(lo+hi) / 2:=fun h=>hn (hm.2.2 h)
    omega
theorem zho {l:List zaf}{p:zaf} (h:p ∉ l):∀f lo hi,hi≤l.length→zhY l p f lo hi= -1
 |0,lo,hi, _=>rfl
 |f+1,lo,hi,h1=>by
  rw [zhY]
  split
  ·rename_i hlt
   have hm:(lo+hi) / 2<l.length:=aa
   have hne:¬zbi p (nth l ((lo+hi) / 2))=0:=fun e=>h ((zaU.eq _ _).1 e▸zag hm)
   rw [if_neg hne]
   split
   ·exact zho h f lo _ aa
   ·exact zho h f _ hi h1
  ·rfl
theorem zym {l:List zaf} (h:Inc l) (p:zaf):zBg l p=zrH l p:=by
 unfold zBg
 by_cases hp:p ∈ l
 ·obtain ⟨j,hj,rfl⟩:=zlT hp
  rw [zsN h hj]
  exact zlo (fun i hi=>by
   have:=h.sign hj hi
   exact this) _ _ _ (Nat.le_refl _) (Nat.zero_le _) hj aa
 ·rw [zlq hp,zho hp _ _ _ (Nat.le_refl _)]
def zmW:List zaf→zaf→Nat
 | [], _=>0
 |q::l,p=>if zbi q p<0 then zmW l p+1 else 0
theorem zy3:∀ (l:List zaf) (p:zaf),zmW l p≤l.length
 | [],p=>by simp [zmW]
 |q::l,p=>by
  have:=zy3 l p
  rw [zmW,List.length_cons]
  split<;>omega
theorem zs5 {p:zaf}:∀ {l:List zaf}{h:Nat},h<zmW l p→zbi (nth l h) p<0
 | [],h,hl=>by simp [zmW] at hl
 |q::l,h,hl=>by
  rw [zmW] at hl
  split at hl
  ·cases h with
   |zero=>rw [zdy];assumption
   |succ h=>rw [zb1];exact zs5 aa
  ·omega
theorem zy2 {p:zaf}:∀ {l:List zaf},Inc l→∀ {h:Nat},zmW l p≤h→h<l.length→¬zbi (nth l h) p<0
 | [], _,h, _,hl=>by simp at hl
 |q::l,hi,h,hl,hn=>by
  have hi:=List.pairwise_cons.1 hi
  rw [zmW] at hl
  split at hl
  ·cases h with
   |zero=>omega
   |succ h=>rw [zb1];exact zy2 hi.2 aa (by simpa using hn)
  ·rename_i hq
   cases h with
   |zero=>rw [zdy];exact hq
   |succ h=>
    rw [zb1]
    intro hr
    have hm:nth l h ∈ l:=zag (by simpa using hn)
    have h1:=hi.1 _ hm
    have h2:=zaU.tr q (nth l h) p aa aa
    have e:=(zaU.eq q p).1 aa
    subst e
    have:=zaU.swap q (nth l h)
    omega
theorem zuj {l:List zaf} (hi:Inc l) (p:zaf){h:Nat} (hn:h<l.length):zbi (nth l h) p<0↔h<zmW l p:=by
 constructor
 ·intro hc
  rcases Nat.lt_or_ge h (zmW l p) with h'|h'
  ·exact h'
  ·exact absurd hc (zy2 hi h' hn)
 ·exact zs5
theorem zuk {l:List zaf} (hi:Inc l) (p:zaf):p ∈ l↔zmW l p<l.length∧nth l (zmW l p)=p:=by
 constructor
 ·intro hp
  obtain ⟨j,hj,rfl⟩:=zlT hp
  have h0:=(zaU.eq (nth l j) (nth l j)).2 rfl
  have h1:¬j<zmW l (nth l j):=fun h=>by
   have:=zs5 h
   omega
  rcases Nat.lt_or_ge (zmW l (nth l j)) j with h'|h'
  ·have h2:=hi.lt h' hj
   have h3:=(zuj hi (nth l j) aa).1 h2
   omega
  ·have e:zmW l (nth l j)=j:=by omega
   rw [e]
   exact ⟨hj,rfl⟩
 ·rintro ⟨h1,h2⟩
  rw [← h2]
  exact zag h1
theorem zBk {l:List zaf} (hi:Inc l) (p:zaf):zrH l p=if p ∈ l then (zmW l p:Int) else -1:=by
 split
 ·rename_i hp
  obtain ⟨h1,h2⟩:=(zuk hi p).1 hp
  have:=zsN hi h1
  rwa [h2] at this
 ·rename_i hp
  exact zlq hp
theorem zwa (g:zab) (p:zaf):Inc (zar g p):=by
 unfold zar
 split
 ·exact .nil
 ·exact zcR zaU _
theorem znV {g:zab}{p q:zaf}:q ∈ zar g p↔zdl g p<0∧((∃o ∈ zdJ g p,(zgV g p=true→o.took=true)∧o.pos=q)∨(zgV g p=false∧q ∈ zcI g p)):=by
 unfold zar
 split
 ·rename_i h
  simp only [List.not_mem_nil,false_iff,not_and]
  intro h'
  omega
 ·rename_i h
  rw [zaG]
  unfold zdR
  rw [List.mem_append,List.mem_map]
  constructor
  ·rintro (⟨o,ho,rfl⟩|hq)
   ·obtain ⟨h1,h2⟩:=List.mem_filter.1 ho
    refine ⟨aa, .inl ⟨o,h1,fun hm=> ?_,rfl⟩⟩
    rw [hm] at h2
    simpa using h2
   ·split at hq
    ·simp at hq
    ·rename_i hm
     exact ⟨aa, .inr ⟨by simpa using hm,hq⟩⟩
  ·rintro ⟨_,⟨o,h1,h2,rfl⟩|⟨hm,hq⟩⟩
   ·refine .inl ⟨o,List.mem_filter.2 ⟨h1, ?_⟩,rfl⟩
    cases hm:zgV g p
    ·rfl
    ·simpa using h2 hm
   ·refine .inr ?_
    rw [hm]
    exact hq
theorem zjt (l:List zaf) (hi:Inc l) (hl:l.length≤17179869184) (hf:∀q ∈ l,zaQ q) (p:zaf) (hp:zaQ p):
  zaD Tryz.prog 42 [zaC l, .agg (zae p), .fn (.func 39) [] []] (.tup [.int (zmW l p), .v (.bool (decide (p ∈ l)))]):=by
 refine pF Tryz.func42 ?_
 have hle:=zy3 l p
 have hmem:=zuk hi p
 have hiff:=fun h hn=>zuj hi p (h:=h) hn
 generalize zmW l p=w at *
 refine J0 ?_
 refine zEp (zEs (α:=Nat×Nat) (fun a=>⟨[(0,zaC l),(2, .fn (.func 39) [] []),(4, .ref 0 0 5 0 0),(8, .int l.length),(9, .int a.1),(10, .int a.2)], [(0, .rows true 0 5 [zae p])],1⟩)
  (fun d a=>a.2 - a.1≤d∧a.1≤w∧w≤a.2∧a.2≤l.length) ?_ l.length (0,l.length) ?_) ?_ ?_
 ·rintro d ⟨i,j⟩ ⟨i1,i2,i3,i4⟩ hrec
  simp only at i1 i2 i3 i4
  have hdiv:((i:Int)+j).fdiv 2=((i+j) / 2:Nat):=by rw [Int.fdiv_eq_ediv_of_nonneg _ aa];omega
  refine J0 ?_
  refine zEr (fun hlt=> ?_) (fun hlt=> ?_)<;>simp at hlt
  ·have hm:(i+j) / 2<l.length:=by omega
   have hm2:i≤(i+j) / 2∧(i+j) / 2<j:=aa
   generalize hmid:(i+j) / 2=mid at *
   refine J2 hdiv hm ?_
   refine dP (zbL (nth l mid) p (hf _ (zag hm)) hp) ?_
   have hi2:=hiff mid hm
   generalize zbi (nth l mid) p=c at *
   refine J0 ?_
   refine zEr (fun hc=> ?_) (fun hc=> ?_)<;>simp at hc
   ·have:=hi2.1 hc
    refine J0 ?_
    refine zEp (hrec (d - 1) aa (mid+1,j) ⟨ah,ah,ah,ah⟩) ?_ ad
    simp [go_sem,zad]
   ·have:¬mid<w:=fun h=>by have:=hi2.2 h;omega
    refine J0 ?_
    refine zEp (hrec (d - 1) aa (i,mid) ⟨ah,ah,ah,ah⟩) ?_ ad
    simp [go_sem,zad]
  ·obtain rfl:i=w:=by omega
   by_cases hw:i<l.length
   ·have hC:=zbL (nth l i) p (hf _ (zag hw)) hp
    have e:decide (p ∈ l)=decide (zbi (nth l i) p=0):=by
     rw [decide_eq_decide,hmem,zaU.eq]
     exact ⟨fun h=>h.2,fun h=>⟨hw,h⟩⟩
    rw [e]
    generalize zbi (nth l i) p=c at *
    refine J1 hw ?_
    refine zEx _ (fun _=>hC) ae ?_
    exact K1 hw
   ·have e:decide (p ∈ l)=false:=decide_eq_false fun h=>hw (hmem.1 h).1
    rw [e]
    refine J1 hw ?_
    refine dGC.skip (.int 0) ?_
    exact K1 hw
 ·exact ⟨ad,ad,hle,ad⟩
 ·simp [go_sem,zad]
 ·simp
theorem zn3 (l:List zaf) (hi:Inc l) (hl:l.length≤17179869184) (hf:∀q ∈ l,zaQ q) (p:zaf) (hp:zaQ p):
  zaD Tryz.prog 34 [zaC l, .agg (zae p)] (.int (zrH l p)):=by
 refine pF Tryz.func34 ?_
 have hB:=zjt l hi hl hf p hp
 rw [zBk hi]
 refine J0 ?_
 refine aP hB ?_
 refine J0 ?_
 by_cases h:p ∈ l
 ·rw [if_pos h]
  exact K1 h
 ·rw [if_neg h]
  exact K1 h
theorem zdt (l:List zaf) (hi:Inc l) (hl:l.length≤17179869184) (hf:∀q ∈ l,zaQ q) (p:zaf) (hp:zaQ p):
  zaD Tryz.prog 13 [zaC l, .agg (zae p)] (.int (zrH l p)):=by
 rw [← zym hi]
 exact zw5 l p aa hf hp
def zpv (known nx:List zaf) (q:zaf):List zaf:=if q ∈ known++nx then nx else nx++ [q]
def zbY (g:zab) (known now:List zaf):List zaf:=(now.flatMap (zar g)).foldl (zpv known) []
def zaL (g:zab) (b:Int):Nat→List zaf→List zaf→List (List zaf×Bool)
 |0, _, _=> []
 |f+1,known,now=>if b<known.length then [(now,false)] else if zbY g known now= [] then [(now,true)] else (now,false)::zaL g b f (known++zbY g known now) (za3 zbi (zbY g known now))
def zgZ (n:Int):Int:=if n<0 then 0 else if 4000<n then 4000 else n
def zau (g:zab) (p:zaf) (n:Int):List (List zaf×Bool):=zaL g (zgZ n) ((zgZ n).toNat+2) [p] [p]
theorem zeQ (n:Int):0≤zgZ n∧zgZ n≤4000:=by
 unfold zgZ
 split<;>(try split)<;>omega
theorem zdU (known:List zaf):∀ (l nx:List zaf) (q:zaf),q ∈ l.foldl (zpv known) nx↔q ∈ nx∨q ∈ l∧q ∉ known
 | [],nx,q=>ad
 |r::l,nx,q=>by
  rw [List.foldl_cons,zdU known l]
  unfold zpv
  by_cases hr:r ∈ known++nx
  ·rw [if_pos hr]
   rw [List.mem_append] at hr
   constructor
   ·rintro (h|⟨h1,h2⟩)
    ·exact .inl h
    ·exact .inr ⟨List.mem_cons_of_mem _ h1,h2⟩
   ·rintro (h|⟨h1,h2⟩)
    ·exact .inl h
    ·rcases List.mem_cons.1 h1 with rfl|h1
     ·rcases hr with hr|hr
      ·exact absurd hr h2
      ·exact .inl hr
     ·exact .inr ⟨h1,h2⟩
  ·rw [if_neg hr]
   rw [List.mem_append,not_or] at hr
   constructor
   ·rintro (h|⟨h1,h2⟩)
    ·rcases List.mem_append.1 h with h|h
     ·exact .inl h
     ·simp only [List.mem_singleton] at h
      subst h
      exact .inr ⟨ad,hr.1⟩
    ·exact .inr ⟨List.mem_cons_of_mem _ h1,h2⟩
   ·rintro (h|⟨h1,h2⟩)
    ·exact .inl (List.mem_append.2 (.inl h))
    ·rcases List.mem_cons.1 h1 with rfl|h1
     ·exact .inl ad
     ·exact .inr ⟨h1,h2⟩
theorem zfY (known:List zaf):∀ (l nx:List zaf),nx.Nodup→(l.foldl (zpv known) nx).Nodup
 | [],nx,h=>h
 |r::l,nx,h=>by
  rw [List.foldl_cons]
  refine zfY known l _ ?_
  unfold zpv
  split
  ·exact h
  ·rename_i hr
   rw [List.mem_append,not_or] at hr
   refine List.nodup_append.2 ⟨h,ad, ?_⟩
   intro a ha b hb e
   simp only [List.mem_singleton] at hb
   subst hb;subst e
   exact hr.2 ha
theorem zdT (known:List zaf):∀ (l nx:List zaf),(l.foldl (zpv known) nx).length≤nx.length+l.length
 | [],nx=>ad
 |r::l,nx=>by
  rw [List.foldl_cons]
  have:=zdT known l (zpv known nx r)
  have h2:(zpv known nx r).length≤nx.length+1:=by unfold zpv;split<;>simp
  simp only [List.length_cons]
  omega
theorem zii {g:zab}{known now:List zaf}{q:zaf}:q ∈ zbY g known now↔(∃r ∈ now,q ∈ zar g r)∧q ∉ known:=by
 unfold zbY
 rw [zdU,List.mem_flatMap]
 simp
theorem zlW (g:zab) (known now:List zaf):(zbY g known now).Nodup:=zfY known _ [] ad
theorem zsY {g:zab}{known now:List zaf} (h:known.Nodup):(known++zbY g known now).Nodup:=
 List.nodup_append.2 ⟨h,zlW g known now,fun a ha b hb e=>(zii.1 hb).2 (e▸ha)⟩
theorem zuo {g:zab} (hg:GOk g){known now:List zaf} (hn:∀p ∈ now,POk g p):∀q ∈ zbY g known now,POk g q:=fun q hq=>by
 obtain ⟨⟨r,hr,hm⟩, _⟩:=zii.1 hq
 exact (zcu hg (hn r hr) q hm).1
theorem zcA {g:zab} (hg:GOk g):∀ {now:List zaf},(∀p ∈ now,POk g p)→(now.flatMap (zar g)).length≤now.length * 472446
 | [], _=>ad
 |p::now,h=>by
  have h1:=zcA hg (now:=now) fun q hq=>h q (by simp [hq])
  have h2:=zej hg (h p ad)
  rw [List.flatMap_cons,List.length_append,List.length_cons,Nat.succ_mul]
  omega
theorem zq5 {g:zab} (hg:GOk g){known now:List zaf} (hn:∀p ∈ now,POk g p):(zbY g known now).length≤now.length * 472446:=by
 have h1:=zdT known (now.flatMap (zar g)) []
 have h2:=zcA hg hn
 unfold zbY
 simp only [List.length_nil] at h1
 omega
theorem zms {l:List zaf} (h:l.Nodup):(za3 zbi l).length=l.length:=by
 refine Nat.le_antisymm (zdz _ _) (zdc h fun x hx=>zaG.2 hx)
structure zbu (g:zab) (known now:List zaf):Prop where
 nd:known.Nodup
 sub:∀q ∈ now,q ∈ known
 inc:Inc now
 ok:∀q ∈ known,POk g q
theorem zEK {g:zab}{p:zaf} (hp:POk g p):zbu g [p] [p]:=
 ⟨ad,fun q hq=>hq,by simp [Inc],fun q hq=>by simp only [List.mem_singleton] at hq;subst hq;exact hp⟩
theorem zbu.next {g:zab} (hg:GOk g){known now:List zaf} (h:zbu g known now):zbu g (known++zbY g known now) (za3 zbi (zbY g known now)):=
 ⟨zsY h.nd,fun q hq=>List.mem_append.2 (.inr (zaG.1 hq)),zcR zaU _,fun q hq=>by
  rcases List.mem_append.1 hq with hq|hq
  ·exact h.ok q hq
  ·exact zuo hg (fun r hr=>h.ok r (h.sub r hr)) q hq⟩
theorem zbu.now_len {g:zab}{known now:List zaf} (h:zbu g known now):now.length≤known.length:=zdc (by
  refine List.Pairwise.imp ?_ h.inc
  intro a b hab e
  have:=(zaU.eq a b).2 e
  omega) h.sub
theorem zbu.now_ok {g:zab}{known now:List zaf} (h:zbu g known now):∀q ∈ now,POk g q:=fun q hq=>h.ok q (h.sub q hq)
theorem zlz (p:zaf):(zgU p).data.toList=(zpw p).map fun n=>UInt8.ofNat n.toNat:=by
 unfold zgU
 simp [zgr]
theorem zo6 {g:zab} (hg:GOk g){a b:zaf} (ha:POk g a) (hb:POk g b) (h:zgU a=zgU b):a=b:=by
 have h2:zpw a=zpw b:=zi7 (zkP hg ha) (zkP hg hb) (by rw [← zlz,← zlz,h])
 have a1:=ha.al
 have b1:=hb.al
 have a2:=ha.h0.len
 have b2:=hb.h0.len
 have a3:=ha.h1.len
 have b3:=hb.h1.len
 obtain ⟨pat,ph0,ph1,pr,ps⟩:=a
 obtain ⟨qat,qh0,qh1,qr,qs⟩:=b
 simp only [zpw,List.append_assoc] at h2 a1 b1 a2 b2 a3 b3
 obtain ⟨e3,h3⟩:=List.append_inj h2 aa
 obtain ⟨e4,h4⟩:=List.append_inj h3 aa
 obtain ⟨e5,h5⟩:=List.append_inj h4 aa
 simp only [List.cons.injEq,and_true] at h5
 rw [e3,e4,e5,h5.1,h5.2]
def zfP (q:zaf):List AV:= [.v (.string (zgU q)), .v (.bool true)]
theorem zxJ {n:Nat}{l:List zaf}:(∀r ∈ l.map zfP,∀c ∈ r,Bel n c)=True:=by
 refine eq_true ?_
 intro r hr c hc
 obtain ⟨x, _,rfl⟩:=List.mem_map.1 hr
 simp only [zfP,List.mem_cons,List.not_mem_nil,or_false] at hc
 rcases hc with rfl|rfl<;>exact .v _
attribute [go_sem ↓] zxJ
theorem ziX (t:zaf):∀ (next:List zaf),(∀s ∈ next,zgU t=zgU s→t=s)→zds .string (.v (.string (zgU t))) (next.map zfP)=some (if t ∈ next then some (.v (.bool true)) else none)
 | [], _=>by simp [zds]
 |s::next,h=>by
  rw [List.map_cons,zds]
  have e:zo5 .string (.v (.string (zgU t))) (cel (zfP s) 0)=some (zgU t==zgU s):=rfl
  rw [e,zhM]
  by_cases hk:zgU t=zgU s
  ·have:=h s ad hk
   subst this
   simp [zfP,cel]
  ·have hne:t≠s:=fun e=>hk (by rw [e])
   rw [decide_eq_false hk]
   simp only
   rw [ziX t next (fun u hu=>h u (by simp [hu]))]
   simp [hne]
theorem zma (t:zaf):∀ (next:List zaf),(∀s ∈ next,zgU t=zgU s→t=s)→t ∉ next→zeu .string (.v (.string (zgU t))) (.v (.bool true)) (next.map zfP)=some ((next++ [t]).map zfP)
 | [], _, _=>by simp [zeu,zfP]
 |s::next,h,hn=>by
  rw [List.map_cons,zeu]
  have e:zo5 .string (.v (.string (zgU t))) (cel (zfP s) 0)=some (zgU t==zgU s):=rfl
  rw [e,zhM]
  have hk:zgU t≠zgU s:=fun e=>hn (by rw [h s ad e];simp)
  rw [decide_eq_false hk]
  simp only
  rw [zma t next (fun u hu=>h u (by simp [hu])) (fun hm=>hn (by simp [hm]))]
  simp
def zn7 (x:List zaf×Bool):List AV:= [zaC x.1, .v (.bool x.2)]
theorem zAQ {n:Nat}{L:List (List zaf×Bool)}:(∀r ∈ L.map zn7,∀c ∈ r,Bel n c)=True:=by
 refine eq_true ?_
 intro r hr c hc
 obtain ⟨x, _,rfl⟩:=List.mem_map.1 hr
 simp only [zn7,List.mem_cons,List.not_mem_nil,or_false] at hc
 rcases hc with rfl|rfl
 ·exact of_eq_true zxF
 ·exact .v _
attribute [go_sem ↓] zAQ
def nxI (g:zab) (known now:List zaf) (i:Nat):List zaf:=((now.take i).flatMap (zar g)).foldl (zpv known) []
theorem zBQ (g:zab) (known now:List zaf){i:Nat} (hi:i<now.length):nxI g known now (i+1)=(zar g (nth now i)).foldl (zpv known) (nxI g known now i):=by
 unfold nxI
 rw [List.take_add_one,List.getElem?_eq_getElem hi,zap _ _ hi,Option.toList_some,List.flatMap_append,List.foldl_append]
 simp
theorem zDW (g:zab) (known now:List zaf):nxI g known now now.length=zbY g known now:=by
 unfold nxI zbY
 rw [List.take_length]
theorem zvQ (known nx:List zaf) (l:List zaf){j:Nat} (hj:j<l.length):(l.take (j+1)).foldl (zpv known) nx=zpv known ((l.take j).foldl (zpv known) nx) (nth l j):=by
 rw [List.take_add_one,List.getElem?_eq_getElem hj,zap _ _ hj,Option.toList_some,List.foldl_append]
 rfl
theorem zh7 {g:zab} (hg:GOk g){p:zaf} (hp:POk g p):zaD Tryz.prog 24 [.agg (zae p)] (.v (.string (zgU p))):=by
 have:=hp.al
 have:=hg.c9
 have:=hg.k6
 have:=hp.h0.len
 have:=hp.h1.len
 exact ztI p aa aa aa (zkP hg hp)
theorem zlE (g:zab) (hg:GOk g) (p:zaf) (hp:POk g p) (b:Int) (hb:0≤b∧b≤4000):
  zgA Tryz.prog 72 [.fp (zae p), .fp [.int b], .fp (zac g)] 0 ((zaL g b (b.toNat+2) [p] [p]).map zn7):=by
 refine zEz ai Tryz.func72 rfl rfl (Nat.le_of_ble_eq_true rfl) ai (fun l=> ?_) (hm2:=by decide)
 have hgb:∀ (n:Nat) (L:List (List zaf×Bool)),Bel n (zaR l 0 (L.map zn7)):=fun n L=>by
  simp only [zaR,zhB,zfi,List.forall_mem_cons,zok,zbt]
  simp [go_sem]
 have hK0:=zh7 hg hp
 refine Jg0 ?_
 refine dP hK0 ?_
 repeat first|refine wV fun _=>?_|simp [go_sem,GH,zeu]
 refine zEp (zEs (α:=List zaf×List zaf×List (List zaf×Bool)) (fun a=>⟨[(0, .fn (.yield l) [] []),(2, .fp [.int b]),(3, .fp (zac g)),(5, .mp 0),(6,zaC a.2.1),(1000000007,zaR l 0 (a.2.2.map zn7))], [(0, .rows true 0 2 (a.1.map zfP))],1⟩)
  (fun d a=>zbu g a.1 a.2.1∧1≤d∧b.toNat+2≤a.1.length+d∧a.1.length≤4000+4000 * 472446∧a.2.2=zaL g b d a.1 a.2.1) ?_ (b.toNat+2) ([p], [p],zaL g b (b.toNat+2) [p] [p]) ?_) ?_ ?_
 ·rintro d ⟨known,now,L⟩ ⟨i1,i2,i3,i4,i5⟩ hrec
  simp only at i1 i2 i3 i4 i5
  obtain ⟨d,rfl⟩:∃d',d=d'+1:=⟨d - 1,aa⟩
  rw [zaL] at i5
  refine Jg0 ?_
  refine zEr (fun hk=> ?_) (fun hk=> ?_)<;>simp at hk
  ·rw [if_pos hk] at i5
   subst i5
   refine Jg0 ?_
   refine zfn.mk (more:=0) (xs:=zn7 (now,false)) (rs:= []) _ ay (.refl _) (.refl _ _ _ _) (by simp [go_sem,zn7]) ?_ ?_
   ·exact Kg0
   ·exact Kg0
  ·rw [if_neg aa] at i5
   have hn2:=i1.next hg
   have hnl:=i1.now_len
   have hok:=i1.now_ok
   have hnx:=zq5 hg (known:=known) hok
   have hnb:now.length * 472446≤4000 * 472446:=Nat.mul_le_mul_right _ aa
   have hnd:(known++zbY g known now).length=known.length+(zbY g known now).length:=List.length_append
   obtain ⟨A,hA⟩:∃A:Nat→List zaf,∀i,A i=nxI g known now i:=⟨_,fun _=>rfl⟩
   have hAl:∀i,(A i).length≤4000 * 472446:=fun i=>by
    rw [hA]
    have h1:=zdT known ((now.take i).flatMap (zar g)) []
    have h2:=zcA hg (now:=now.take i) (fun q hq=>hok q (List.mem_of_mem_take hq))
    have h3:(now.take i).length * 472446≤4000 * 472446:=Nat.mul_le_mul_right _ ak
    unfold nxI
    simp only [List.length_nil] at h1
    omega
   have hAo:∀i,∀q ∈ A i,POk g q:=fun i q hq=>by
    rw [hA] at hq
    unfold nxI at hq
    rw [zdU,List.mem_flatMap] at hq
    rcases hq with h|⟨⟨r,hr,hm⟩, _⟩
    ·simp at h
    ·exact (zcu hg (hok r (List.mem_of_mem_take hr)) q hm).1
   have hA0:A 0= []:=by rw [hA];rfl
   have hAs:∀i,i<now.length→A (i+1)=(zar g (nth now i)).foldl (zpv known) (A i):=fun i hi=>by rw [hA,hA,zBQ g known now hi]
   have hAn:A now.length=zbY g known now:=by rw [hA,zDW]
   refine Jg0 ?_
   refine zEp (zEs (α:=Nat) (fun i=>⟨[(0, .fn (.yield l) [] []),(2, .fp [.int b]),(3, .fp (zac g)),(5, .mp 0),(6,zaC now),(7, .sl 1 (A i).length 5 0 (A i).length),(26,zaC now),(27, .int now.length),(28, .int i),(1000000007,zaR l 0 (L.map zn7))], [(0, .rows true 0 2 ((known++A i).map zfP)),(1, .rows true (A i).length 5 ((A i).map zae))],2⟩)
    (fun d i=>i+d=now.length) ?_ now.length 0 ?_) ?_ ?_
   ·rintro d2 i i1' hrec2
    refine Jg0 ?_
    refine zEr (fun hi=> ?_) (fun hi=> ?_)<;>simp at hi
    ·have hp0:=hok _ (zag hi)
     have hM:=zgz g hg _ hp0
     have hml:=zej hg hp0
     have hmo:=fun m hm=>(zcu hg hp0 m hm).1
     have hAs:=hAs i hi
     refine Jg1 hi ?_
     refine aP hM ?_
     refine Jg1 hi ?_
     generalize hmv:zar g (nth now i)=mv at *
     have hAi:=hAo i
     have hAil:=hAl i
     generalize A i=a0 at *
     obtain ⟨C,hC⟩:∃C:Nat→List zaf,∀j,C j=(mv.take j).foldl (zpv known) a0:=⟨_,fun _=>rfl⟩
     have hC0:C 0=a0:=by rw [hC];rfl
     have hCs:∀j,j<mv.length→C (j+1)=zpv known (C j) (nth mv j):=fun j hj=>by rw [hC,hC,zvQ known a0 mv hj]
     have hCn:C mv.length=A (i+1):=by rw [hC,List.take_length,hAs]
     have hCl:∀j,(C j).length≤4000 * 472446+472446:=fun j=>by
      rw [hC]
      have h1:=zdT known (mv.take j) a0
      have h2:(mv.take j).length≤mv.length:=ak
      omega
     have hCo:∀j,∀q ∈ C j,POk g q:=fun j q hq=>by
      rw [hC,zdU] at hq
      rcases hq with h|⟨h, _⟩
      ·exact hAi q h
      ·exact hmo q (List.mem_of_mem_take h)
     have hA0':∀q ∈ mv,POk g q:=hmo
     refine zEp (zEs (α:=Nat) (fun j=>⟨[(0, .fn (.yield l) [] []),(2, .fp [.int b]),(3, .fp (zac g)),(5, .mp 0),(6,zaC now),(7, .sl 1 (C j).length 5 0 (C j).length),(26,zaC now),(27, .int now.length),(28, .int i),(34,zaC mv),(35, .int mv.length),(36, .int j),(1000000007,zaR l 0 (L.map zn7))], [(0, .rows true 0 2 ((known++C j).map zfP)),(1, .rows true (C j).length 5 ((C j).map zae))],2⟩)
      (fun d j=>j+d=mv.length) ?_ mv.length 0 ?_) ?_ ?_
     ·rintro d3 j j1 hrec3
      refine Jg0 ?_
      refine zEr (fun hj=> ?_) (fun hj=> ?_)<;>simp at hj
      ·have hqo:=hmo _ (zag hj)
       have hKq:=zh7 hg hqo
       have hCj:=hCs j hj
       have hCb:=hCl j
       have hin:∀u ∈ known++C j,zgU (nth mv j)=zgU u→nth mv j=u:=fun u hu e=>by
        rcases List.mem_append.1 hu with h|h
        ·exact zo6 hg hqo (i1.ok u h) e
        ·exact zo6 hg hqo (hCo j u h) e
       have hfind:=ziX _ _ hin
       have hput:=zma _ _ hin
       rw [List.map_append] at hfind hput
       unfold zpv at hCj
       generalize hq:nth mv j=q at *
       generalize C j=cj at *
       refine Jg2 hj hq ?_
       refine aP hKq ?_
       by_cases hmem:q ∈ known++cj
       ·rw [if_pos hmem] at hCj hfind
        refine Jg1 hfind ?_
        refine zEp (hrec3 (d3 - 1) aa (j+1) aa) ?_ ad
        simp [go_sem,zad,hgb,GH,hCj]
       ·rw [if_neg hmem] at hCj hfind
        have hput:=hput hmem
        refine Jg2 hfind hput ?_
        refine zEp (hrec3 (d3 - 1) aa (j+1) aa) ?_ ad
        simp [go_sem,zad,hgb,GH,hCj]
        intro c hc
        simp only [zfP,List.mem_cons,List.not_mem_nil,or_false] at hc
        rcases hc with rfl|rfl<;>exact .v _
      ·obtain rfl:j=mv.length:=by omega
       rw [hCn]
       refine Jg0 ?_
       refine zEp (hrec2 (d2 - 1) aa (i+1) aa) ?_ ad
       simp [go_sem,zad,hgb,GH]
     ·simp
     ·simp [go_sem,zad,hgb,GH,hC0]
     ·simp
    ·obtain rfl:i=now.length:=by omega
     rw [hAn]
     have hfit:∀q ∈ zbY g known now,zaQ q:=fun q hq=>(zuo hg hok q hq).fits hg
     have hSo:=zc0 (zbY g known now) aa hfit
     generalize zbY g known now=nx at *
     by_cases hz:nx= []
     ·rw [if_pos hz] at i5
      subst hz
      subst i5
      refine Jg0 ?_
      refine zfn.mk (more:=0) (xs:=zn7 (now,true)) (rs:= []) _ ay (.refl _) (.refl _ _ _ _) (by simp [go_sem,zn7]) ?_ ?_
      ·exact Kg0
      ·exact Kg0
     ·rw [if_neg hz] at i5
      have hzl:0<nx.length:=List.length_pos_iff.2 hz
      have hz2:(nx= [])=False:=eq_false hz
      subst i5
      refine Jg1 hz2 ?_
      refine zfn.mk (more:=0) (xs:=zn7 (now,false)) (rs:=(zaL g b d (known++nx) (za3 zbi nx)).map zn7) _ ay (.refl _) (.refl _ _ _ _) (by simp [go_sem,zn7]) ?_ ?_
      ·refine Jg1 hz2 ?_
       refine zEv [1] hSo ?_ (zsr (zbk _)) ?_
       ·(first|done|exact agX)
       refine Jg0 ?_
       refine zEp (hrec d aa (known++nx,za3 zbi nx,zaL g b d (known++nx) (za3 zbi nx)) ⟨hn2,aa,ah,ah,rfl⟩) ?_ ad
       simp [go_sem,zad,hgb,GH]
      ·exact Kg1 hz2
   ·simp
   ·simp [go_sem,zad,hgb,GH,hA0]
   ·simp
 ·exact ⟨zEK hp,aa,by simp only [List.length_singleton];omega,ad,rfl⟩
 ·simp [go_sem,zad,hgb,GH,zfP]
  exact zak rfl ad aB ad
 ·simp
theorem zgw (p:zaf) (side:Int) (l:List Int):(p.withHand side l).at_=p.at_:=by
 unfold zaf.withHand
 split<;>rfl
theorem zx4 {g:zab} (hg:GOk g){side:Int} (hs:side=0∨side=1){t:TkD} (ht:POk g t.p){x:zc7} (hx:zc3 g.cells g.kinds.length g.rights x) (h:(doA g side t x).2=true):POk g (doA g side t x).1.p:=by
 obtain ⟨op,a,b⟩:=x
 unfold zc3 at hx
 simp only at hx
 rcases (show op=3∨op=4∨op=5∨op=6∨op=7∨op=8∨op=9∨op=10 by omega) with rfl|rfl|rfl|rfl|rfl|rfl|rfl|rfl
 ·exact ht
 ·exact ht
 ·exact ht
 ·have hat:=ht.at (i:=a.toNat) aa
  have hman:=zaO hat.1 hat.2 hg.k6
  have hdo:doA g side t (6,a,b)=zjp g side t a:=rfl
  rw [hdo] at h ⊢
  unfold zjp at h ⊢
  simp only at h ⊢
  split
  ·exact ht
  ·rename_i hm
   rw [if_neg hm] at h
   split
   ·rename_i hk
    rw [if_pos hk] at h
    simp only [decide_eq_true_eq] at h
    have hk1:(zan (nth t.p.at_ a.toNat)).1.toNat<g.kinds.length:=by
     rcases hman with ⟨_,e⟩|⟨_,e1,e2, _⟩
     ·rw [e] at hm
      simp at hm
      omega
     ·omega
    have hh:=ht.hand side
    have hv:=hh.v _ (show (zan (nth t.p.at_ a.toNat)).1.toNat<(t.p.hand side).length by rw [hh.len];exact hk1)
    exact (ht.clr a).withHand side (hh.set _ ⟨aa,h⟩ (fun _=>hk))
   ·exact ht.clr a
 ·have hdo:doA g side t (7,a,b)=zjg t a b:=rfl
  rw [hdo]
  unfold zjg
  split
  ·exact ht
  ·have hat:=ht.at (i:=a.toNat) aa
   exact (ht.setAt b.toNat hat).setAt a.toNat ⟨aa,aa⟩
 ·exact ht
 ·exact ht
 ·have h0:=ht.r0
  have h1:=ht.r1
  have hr:(2:Int) ^ g.rights.toNat≤16:=by
   have r0:=hg.r0
   have r4:=hg.r4
   rcases (show g.rights.toNat=0∨g.rights.toNat=1∨g.rights.toNat=2∨g.rights.toNat=3∨g.rights.toNat=4 by omega) with e|e|e|e|e<;>rw [e]<;>decide
  have r4:=hg.r4
  have hn:=zpS h0 (show t.p.rights<16 by omega) (show a.toNat<4 by omega)
  exact ⟨ht.al,ht.av,ht.h0,ht.h1,hn.1,by simp only [doA];exact Int.lt_of_le_of_lt hn.2 h1,ht.s⟩
theorem zsD {g:zab} (hg:GOk g){side:Int} (hs:side=0∨side=1):∀ {l:List zc7}{t u:TkD},POk g t.p→(∀a ∈ l,zc3 g.cells g.kinds.length g.rights a)→zeq g side t l=some u→POk g u.p
 | [],t,u,ht, _,h=>by simp only [zeq,Option.some.injEq] at h;subst h;exact ht
 |x::l,t,u,ht,hl,h=>by
  simp only [zeq] at h
  split at h
  ·rename_i hd
   exact zsD hg hs (zx4 hg hs ht (hl x ad) hd) (fun a ha=>hl a (by simp [ha])) h
  ·cases h
theorem zio {g:zab} (hg:GOk g){p:zaf} (hp:POk g p):p.rights<16:=by
 have h4:=hg.r4
 have h0:=hg.r0
 have:=hp.r1
 have e:(2:Int) ^ g.rights.toNat≤2 ^ 4:=by
  rcases (show g.rights.toNat=0∨g.rights.toNat=1∨g.rights.toNat=2∨g.rights.toNat=3∨g.rights.toNat=4 by omega) with h|h|h|h|h<;>rw [h]<;>decide
 omega
def zy1 (a:Int) (n:Nat):Bool:=decide (ziI .i64 a (2 ^ n)=0)
def zgu (g:zab) (side:Int) (p:zaf) (x:zc7):List zaf:=
 if x.1=6 then (List.range g.kinds.length).flatMap fun (k:Nat)=>
  let q:={ p with at_:=p.at_.set x.2.1.toNat (zal k (1 - side))}
  let r:=if (nth g.kinds k).keep=true then q.withHand side ((q.hand side).set k (nth (q.hand side) k - 1)) else q
  if nth p.at_ x.2.1.toNat=0∧0≤nth (r.hand side) k then [r] else []
 else if x.1=7 then if nth p.at_ x.2.2.toNat≠0∧nth p.at_ x.2.1.toNat=0 then [{ p with at_:=(p.at_.set x.2.1.toNat (nth p.at_ x.2.2.toNat)).set x.2.2.toNat 0}] else []
 else if x.1=10 then if zy1 p.rights x.2.1.toNat=true then [p,{ p with rights:=orN .i64 p.rights (2 ^ x.2.1.toNat)}] else []
 else [p]
def zyY:Bool:=(List.range 16).all fun (a:Nat)=>(List.range 4).all fun (n:Nat)=>zy1 (zbg .i64 (a:Int) (2 ^ n)) n && (decide ((a:Int)=zbg .i64 (a:Int) (2 ^ n))||decide ((a:Int)=orN .i64 (zbg .i64 (a:Int) (2 ^ n)) (2 ^ n)))
theorem zqY:zyY=true:=ai
theorem zyZ {a:Int} (h0:0≤a) (h1:a<16){n:Nat} (hn:n<4):zy1 (zbg .i64 a (2 ^ n)) n=true∧(a=zbg .i64 a (2 ^ n)∨a=orN .i64 (zbg .i64 a (2 ^ n)) (2 ^ n)):=by
 have key:=zqY
 unfold zyY at key
 have k1:=List.all_eq_true.1 key a.toNat (List.mem_range.2 aa)
 have k2:=List.all_eq_true.1 k1 n (List.mem_range.2 hn)
 rw [Int.toNat_of_nonneg h0] at k2
 simp only [Bool.and_eq_true,Bool.or_eq_true,decide_eq_true_eq] at k2
 exact k2
theorem zB4 {l:List Int}{i:Nat}{v:Int}:(l.set i v).set i (nth l i)=l:=by
 by_cases h:i<l.length
 ·rw [List.set_set,zap _ _ h]
  exact List.set_getElem_self h
 ·rw [List.set_set,List.set_eq_of_length_le aa]
theorem zuJ {l:List Int}{i:Nat}:l.set i (nth l i)=l:=by
 by_cases h:i<l.length
 ·rw [zap _ _ h]
  exact List.set_getElem_self h
 ·rw [List.set_eq_of_length_le aa]
theorem zEN {p q:zaf} (h1:p.at_=q.at_) (h2:p.h0=q.h0) (h3:p.h1=q.h1) (h4:p.rights=q.rights) (h5:p.side=q.side):p=q:=by
 obtain ⟨a,b,c,d,e⟩:=p
 obtain ⟨a',b',c',d',e'⟩:=q
 simp only at h1 h2 h3 h4 h5
 subst h1;subst h2;subst h3;subst h4;subst h5
 rfl
theorem zh3 (p:zaf) (side:Int) (l:List Int):(p.withHand side l).hand side=l:=by
 unfold zaf.withHand zaf.hand
 split<;>rfl
theorem znj {c:Int}{K:Nat} (h0:0≤c) (h1:c≤2 * K) (hK:K≤6) (hc:c≠0):zal (zan c).1 (zan c).2=c:=by
 rcases zaO h0 h1 hK with ⟨h, _⟩|⟨_,a,b,d,e⟩
 ·exact absurd h hc
 ·unfold zal
  rw [if_pos ⟨⟨aa,aa⟩,aa,aa⟩]
  omega
theorem zCb {g:zab} (hg:GOk g){side:Int} (hs:side=0∨side=1){t:TkD} (ht:POk g t.p){x:zc7} (hx:zc3 g.cells g.kinds.length g.rights x) (h:(doA g side t x).2=true):t.p ∈ zgu g side (doA g side t x).1.p x:=by
 obtain ⟨op,a,b⟩:=x
 unfold zc3 at hx
 simp only at hx
 rcases (show op=3∨op=4∨op=5∨op=6∨op=7∨op=8∨op=9∨op=10 by omega) with rfl|rfl|rfl|rfl|rfl|rfl|rfl|rfl
 ·exact List.mem_singleton.2 rfl
 ·exact List.mem_singleton.2 rfl
 ·exact List.mem_singleton.2 rfl
 ·have hat:=ht.at (i:=a.toNat) aa
  have hman:=zaO hat.1 hat.2 hg.k6
  have hdo:doA g side t (6,a,b)=zjp g side t a:=rfl
  rw [hdo] at h ⊢
  unfold zjp at h ⊢
  simp only at h ⊢
  split
  ·rename_i hm
   rw [if_pos hm] at h
   simp at h
  ·rename_i hm
   rw [if_neg hm] at h
   rcases hman with ⟨_,e⟩|⟨hne,e1,e2,e3,e4⟩
   ·rw [e] at hm
    simp at hm
    omega
   ·have hms:(zan (nth t.p.at_ a.toNat)).2=1 - side:=by omega
    have hcode:zal (zan (nth t.p.at_ a.toNat)).1 (1 - side)=nth t.p.at_ a.toNat:=by rw [← hms];exact znj hat.1 hat.2 hg.k6 hne
    have hal:=ht.al
    obtain ⟨k,hk⟩:∃k:Nat,(zan (nth t.p.at_ a.toNat)).1=k:=⟨(zan (nth t.p.at_ a.toNat)).1.toNat,aa⟩
    rw [hk] at hcode e2 h ⊢
    rw [Int.toNat_natCast] at h ⊢
    have hkl:k<g.kinds.length:=aa
    have hun:∀p:zaf,zgu g side p (6,a,b)=(List.range g.kinds.length).flatMap fun (k:Nat)=>
      let q:={ p with at_:=p.at_.set a.toNat (zal k (1 - side))}
      let r:=if (nth g.kinds k).keep=true then q.withHand side ((q.hand side).set k (nth (q.hand side) k - 1)) else q
      if nth p.at_ a.toNat=0∧0≤nth (r.hand side) k then [r] else []:=fun p=>rfl
    rw [hun,List.mem_flatMap]
    refine ⟨k,List.mem_range.2 hkl, ?_⟩
    have hh:=ht.hand side
    have hkh:k<(t.p.hand side).length:=by rw [hh.len];exact hkl
    have hv:=hh.v k hkh
    have hz:nth (t.p.at_.set a.toNat 0) a.toNat=0:=by
     rw [zbo]
     split
     ·rfl
     ·rename_i hn
      exact absurd ⟨rfl,aa⟩ hn
    by_cases hkeep:(nth g.kinds k).keep=true
    ·rw [if_pos hkeep]
     simp only [if_pos hkeep]
     have e5:((clr t.p a).withHand side ((t.p.hand side).set k (nth (t.p.hand side) k+1))).at_=t.p.at_.set a.toNat 0:=zgw _ _ _
     rw [e5]
     have e6:∀ (P:zaf) (L A:List Int),({(P.withHand side L) with at_:=A}:zaf)=({ P with at_:=A}:zaf).withHand side L:=fun P L A=>aI
     have e7:nth ((t.p.hand side).set k (nth (t.p.hand side) k+1)) k=nth (t.p.hand side) k+1:=by rw [zbo,if_pos ⟨rfl,hkh⟩]
     have e8:∀ (P:zaf) (L M:List Int),(P.withHand side L).withHand side M=P.withHand side M:=fun P L M=>aI
     simp only [e6,zh3,e8,e7,Int.add_sub_cancel,List.set_set,hcode,zuJ]
     rw [if_pos ⟨hz,hv.1⟩,List.mem_singleton]
     have e10:({(clr t.p a) with at_:=t.p.at_}:zaf)=t.p:=rfl
     rw [e10]
     unfold zaf.withHand zaf.hand
     split<;>rfl
    ·rw [if_neg hkeep]
     simp only [if_neg hkeep]
     have e5:(clr t.p a).at_=t.p.at_.set a.toNat 0:=rfl
     rw [e5,hcode,List.set_set,zuJ]
     have e10:({(clr t.p a) with at_:=t.p.at_}:zaf)=t.p:=rfl
     rw [e10,if_pos ⟨hz,hv.1⟩]
     exact List.mem_singleton.2 rfl
 ·have hdo:doA g side t (7,a,b)=zjg t a b:=rfl
  rw [hdo] at h ⊢
  unfold zjg at h ⊢
  split
  ·rename_i hm
   rw [if_pos hm] at h
   simp at h
  ·rename_i hm
   have hal:=ht.al
   have hm1:nth t.p.at_ a.toNat≠0:=fun e=>hm (.inl e)
   have hm2:nth t.p.at_ b.toNat=0:=Classical.byContradiction fun e=>hm (.inr e)
   have hab:a.toNat≠b.toNat:=fun e=>hm1 (by rw [e];exact hm2)
   have hbl:b.toNat<t.p.at_.length:=aa
   have hal2:a.toNat<t.p.at_.length:=aa
   have hun:∀p:zaf,zgu g side p (7,a,b)=if nth p.at_ b.toNat≠0∧nth p.at_ a.toNat=0 then [{ p with at_:=(p.at_.set a.toNat (nth p.at_ b.toNat)).set b.toNat 0}] else []:=fun p=>rfl
   rw [hun]
   simp only
   have e1:nth ((t.p.at_.set b.toNat (nth t.p.at_ a.toNat)).set a.toNat 0) b.toNat=nth t.p.at_ a.toNat:=by
    rw [zbo,if_neg (fun h=>hab h.1),zbo,if_pos ⟨rfl,hbl⟩]
   have e2:nth ((t.p.at_.set b.toNat (nth t.p.at_ a.toNat)).set a.toNat 0) a.toNat=0:=by
    rw [zbo,if_pos ⟨rfl,by rw [List.length_set];exact hal2⟩]
   rw [e1,e2,if_pos ⟨hm1,rfl⟩,List.mem_singleton]
   refine zEN ?_ rfl rfl rfl rfl
   refine List.ext_getElem ad fun j h1 h2=> ?_
   simp only [List.getElem_set]
   by_cases ej:b.toNat=j
   ·subst ej
    rw [if_pos rfl,← zap _ _ h1];exact hm2
   ·rw [if_neg ej]
    by_cases ej2:a.toNat=j
    ·subst ej2
     rw [if_pos rfl,zap _ _ h1]
    ·rw [if_neg ej2,if_neg ej2,if_neg ej]
 ·exact List.mem_singleton.2 rfl
 ·exact List.mem_singleton.2 rfl
 ·have h0:=ht.r0
  have h1:=zio hg ht
  have r4:=hg.r4
  obtain ⟨k1,k2⟩:=zyZ h0 h1 (n:=a.toNat) aa
  have hun:∀p:zaf,zgu g side p (10,a,b)=if zy1 p.rights a.toNat=true then [p,{ p with rights:=orN .i64 p.rights (2 ^ a.toNat)}] else []:=fun p=>rfl
  have hdo:(doA g side t (10,a,b)).1.p={ t.p with rights:=zbg .i64 t.p.rights (2 ^ a.toNat)}:=rfl
  rw [hdo,hun]
  simp only
  rw [if_pos k1]
  rcases k2 with k2|k2
  ·exact List.mem_cons.2 (.inl (zEN rfl rfl rfl k2 rfl))
  ·exact List.mem_cons.2 (.inr (List.mem_singleton.2 (zEN rfl rfl rfl k2 rfl)))
def zdx (g:zab) (side:Int):zaf→List zc7→List zaf
 |p, []=> [p]
 |p,x::l=>(zgu g side p x).flatMap fun q=>zdx g side q l
theorem zj1 (g:zab) (side:Int):∀ (l m:List zc7) (p:zaf),zdx g side p (l++m)=(zdx g side p l).flatMap fun q=>zdx g side q m
 | [],m,p=>by simp [zdx]
 |x::l,m,p=>by
  rw [List.cons_append,zdx,zdx,List.flatMap_assoc]
  congr 1
  funext q
  exact zj1 g side l m q
theorem zzQ (g:zab) (side:Int) (p:zaf) (x:zc7):zdx g side p [x]=zgu g side p x:=by simp [zdx]
theorem zrz {g:zab} (hg:GOk g){side:Int} (hs:side=0∨side=1):∀ {l:List zc7}{t u:TkD},POk g t.p→(∀a ∈ l,zc3 g.cells g.kinds.length g.rights a)→zeq g side t l=some u→t.p ∈ zdx g side u.p l.reverse
 | [],t,u,ht, _,h=>by
  simp only [zeq,Option.some.injEq] at h
  subst h
  exact List.mem_singleton.2 rfl
 |x::l,t,u,ht,hl,h=>by
  simp only [zeq] at h
  split at h
  ·rename_i hd
   have h1:=zx4 hg hs ht (hl x ad) hd
   have ih:=zrz hg hs h1 (fun a ha=>hl a (by simp [ha])) h
   rw [List.reverse_cons,zj1,List.mem_flatMap]
   exact ⟨_,ih,by rw [zzQ];exact zCb hg hs ht (hl x ad) hd⟩
  ·cases h
theorem zA7 (g:zab) (side:Int) (t:TkD) (x:zc7):(doA g side t x).1.p.side=t.p.side:=by
 have hw:∀ (P:zaf) (L:List Int),(P.withHand side L).side=P.side:=fun P L=>aI
 unfold doA
 repeat' split
 all_goals first|rfl|skip
 ·unfold zjp
  simp only
  repeat' split
  ·rfl
  ·rw [hw];rfl
  ·rfl
 ·unfold zjg
  split<;>rfl
theorem zlc (g:zab) (side:Int):∀ {l:List zc7}{t u:TkD},zeq g side t l=some u→u.p.side=t.p.side
 | [],t,u,h=>by simp only [zeq,Option.some.injEq] at h;subst h;rfl
 |x::l,t,u,h=>by
  simp only [zeq] at h
  split at h
  ·rw [zlc g side h,zA7]
  ·cases h
theorem zA6 {g:zab}{side:Int}{t:TkD}{x:zc7} (hx:zc3 g.cells g.kinds.length g.rights x) (h:0≤t.kind∧t.kind<g.kinds.length):0≤(doA g side t x).1.kind∧(doA g side t x).1.kind<g.kinds.length:=by
 obtain ⟨op,a,b⟩:=x
 unfold zc3 at hx
 simp only at hx
 rcases (show op=3∨op=4∨op=5∨op=6∨op=7∨op=8∨op=9∨op=10 by omega) with rfl|rfl|rfl|rfl|rfl|rfl|rfl|rfl
 ·exact h
 ·exact h
 ·exact h
 ·show 0≤(zjp g side t a).1.kind∧(zjp g side t a).1.kind<g.kinds.length
  unfold zjp
  simp only
  repeat' split
  all_goals exact h
 ·show 0≤(zjg t a b).1.kind∧(zjg t a b).1.kind<g.kinds.length
  unfold zjg
  split<;>exact h
 ·show 0≤a∧a<g.kinds.length
  omega
 ·exact h
 ·exact h
theorem zqa {g:zab}{side:Int}:∀ {l:List zc7}{t u:TkD},(∀a ∈ l,zc3 g.cells g.kinds.length g.rights a)→zeq g side t l=some u→0≤t.kind∧t.kind<g.kinds.length→0≤u.kind∧u.kind<g.kinds.length
 | [],t,u, _,h,hk=>by simp only [zeq,Option.some.injEq] at h;subst h;exact hk
 |x::l,t,u,hl,h,hk=>by
  simp only [zeq] at h
  split at h
  ·exact zqa (fun a ha=>hl a (by simp [ha])) h (zA6 (hl x ad) hk)
  ·cases h
theorem zq1 {g:zab} (hg:GOk g){p:zaf} (hp:POk g p){o:zcq}:o ∈ zdJ g p↔∃c:Nat,(c:Int)<g.cells∧nth p.at_ c≠0∧(zan (nth p.at_ c)).2=p.side∧o ∈ runO g p c:=by
 have hal:=hp.al
 rw [zq2 hp]
 constructor
 ·rintro ⟨c,i,hc,ho⟩
  have c1:=hc.c1
  have hman:=hc.man
  have hside:=hc.side
  have hi1:=hc.i1
  simp only [Int.toNat_natCast] at hman hside hi1
  refine ⟨c,c1,fun h0=> ?_,hside, ?_⟩
  ·rw [h0] at hman;exact absurd hman am
  rw [zrk hg hp aa c1]
  unfold zuy
  simp only [Int.toNat_natCast]
  rw [if_neg aa,zaG,hside]
  exact List.mem_flatMap.2 ⟨i,List.mem_range.2 aa,ho⟩
 ·rintro ⟨c,c1,h0,hside,ho⟩
  rw [zrk hg hp aa c1] at ho
  unfold zuy at ho
  simp only [Int.toNat_natCast] at ho
  split at ho
  ·simp at ho
  rename_i hm
  rw [zaG,hside] at ho
  obtain ⟨i,hi,ho⟩:=List.mem_flatMap.1 ho
  exact ⟨c,i,⟨aa,c1,by simp only [Int.toNat_natCast];omega,by simp only [Int.toNat_natCast];exact hside,aa,by simp only [Int.toNat_natCast];exact_mod_cast List.mem_range.1 hi⟩,ho⟩
def zj8 (g:zab) (side:Int) (p:zaf) (k c:Nat) (w:zaT):List zaf:=
 if (zan (nth p.at_ w.to.toNat)).2=side then
  ((zdx g side { p with at_:=p.at_.set w.to.toNat 0,side:=side} w.acts.reverse).filter fun q=>decide (nth q.at_ c=0)).map fun q=>{ q with at_:=q.at_.set c (zal k side)}
 else []
def zj7 (g:zab) (side:Int) (p:zaf):List zaf:=
 (List.range g.kinds.length).flatMap fun (k:Nat)=>(List.range g.cells.toNat).flatMap fun (c:Nat)=>(zbH g.board side (nth g.kinds k).progs c).flatMap (zj8 g side p k c)
def zqR (side:Int) (p:zaf) (c:Nat):zaf:=
 let k:=(zan (nth p.at_ c)).1.toNat
 let q:={ p with at_:=p.at_.set c 0,side:=side}
 q.withHand side ((q.hand side).set k (nth (q.hand side) k+1))
def zkZ (g:zab) (side:Int) (p:zaf):List zaf:=
 ((List.range p.at_.length).filter fun c=>decide ((zan (nth p.at_ c)).2=side) && (nth g.kinds (zan (nth p.at_ c)).1.toNat).keep).map (zqR side p)
def zdB (g:zab) (p:zaf):List zaf:=zj7 g (1 - p.side) p++zkZ g (1 - p.side) p
def candE (side:Int) (p:zaf):List zaf:=((List.range p.at_.length).filter fun c=>decide ((zan (nth p.at_ c)).2=side)).map (zqR side p)
def candsR (g:zab) (p:zaf):List zaf:=zj7 g (1 - p.side) p++candE (1 - p.side) p
theorem zAU {g:zab} (hg:GOk g){q:zaf} (hq:POk g q){o:zcq} (ho:o ∈ zdJ g q):q ∈ zj7 g q.side o.pos:=by
 obtain ⟨c,c1,h0,hside,ho⟩:=(zq1 hg hq).1 ho
 have hal:=hq.al
 have hat:=hq.at (i:=c) aa
 unfold runO at ho
 simp only [Int.toNat_natCast] at ho
 rw [if_neg h0,zaG] at ho
 unfold zzi at ho
 obtain ⟨w,hw,hwo⟩:=List.mem_filterMap.1 ho
 simp only [Int.toNat_natCast] at hwo
 rw [hside] at hwo
 unfold zpk at hw
 simp only [Int.toNat_natCast] at hw
 rw [hside] at hw
 rcases zaO hat.1 hat.2 hg.k6 with ⟨hz, _⟩|⟨_,e1,e2,e3, _⟩
 ·exact absurd hz h0
 have hcode:=znj hat.1 hat.2 hg.k6 h0
 rw [hside] at hcode
 obtain ⟨k,hk⟩:∃k:Nat,(zan (nth q.at_ c)).1=k:=⟨(zan (nth q.at_ c)).1.toNat,aa⟩
 rw [hk] at e2 hcode hw
 rw [Int.toNat_natCast] at hw
 have hkl:k<g.kinds.length:=aa
 have hpo:=zgK hg (side:=q.side) (zag hkl) (cell:=(c:Int)) ⟨aa,c1⟩ w hw
 unfold zwg stW at hwo
 cases hd:zeq g q.side (zcN q c) w.acts with
 |none=>rw [hd] at hwo;simp at hwo
 |some u=>
  rw [hd] at hwo
  simp only [Option.map_some,Option.bind_some] at hwo
  have hst:POk g (zcN q c).p:=hq.clr c
  have hu:=zsD hg hq.s hst hpo.acts hd
  have hus:=zlc g q.side hd
  have hun:=zrz hg hq.s hst hpo.acts hd
  have hts:(zcN q c).p.side=q.side:=rfl
  rw [hts] at hus
  have hual:=hu.al
  have hto:=hpo.to
  unfold zgX at hwo
  split at hwo
  ·rename_i hz
   simp only [stT] at hz hwo
   simp only [Option.some.injEq] at hwo
   subst hwo
   simp only
   unfold zj7
   refine List.mem_flatMap.2 ⟨k,List.mem_range.2 hkl,List.mem_flatMap.2 ⟨c,List.mem_range.2 aa,List.mem_flatMap.2 ⟨w,hw, ?_⟩⟩⟩
   unfold zj8
   have hn:nth (u.p.at_.set w.to.toNat (zal u.kind q.side)) w.to.toNat=zal u.kind q.side:=by rw [zbo,if_pos ⟨rfl,aa⟩]
   have hkind:0≤u.kind∧u.kind<g.kinds.length:=zqa hpo.acts hd (by show 0≤(zan (nth q.at_ (c:Int).toNat)).1∧(zan (nth q.at_ (c:Int).toNat)).1<g.kinds.length;rw [Int.toNat_natCast,hk];omega)
   have hk6:=hg.k6
   have hms:(zan (zal u.kind q.side)).2=q.side:=by
    rcases hq.s with h|h<;>rw [h]<;>unfold zal<;>rw [if_pos ⟨⟨aa,aa⟩,aa,aa⟩]<;>unfold zan<;>rw [if_pos aa]<;>simp only<;>rw [Int.tmod_eq_emod_of_nonneg aa]<;>omega
   rw [hn,if_pos hms]
   have hlift:({ u.p with at_:=(u.p.at_.set w.to.toNat (zal u.kind q.side)).set w.to.toNat 0,side:=q.side}:zaf)=u.p:=by
    refine zEN ?_ rfl rfl rfl hus.symm
    simp only
    rw [List.set_set]
    conv=>lhs;rw [← hz]
    rw [zap _ _ aa]
    exact List.set_getElem_self _
   have hl2:({({ u.p with at_:=u.p.at_.set w.to.toNat (zal u.kind q.side),side:=1 - q.side}:zaf) with at_:=(u.p.at_.set w.to.toNat (zal u.kind q.side)).set w.to.toNat 0,side:=q.side}:zaf)=u.p:=hlift
   refine List.mem_map.2 ⟨(zcN q c).p,List.mem_filter.2 ⟨?_, ?_⟩, ?_⟩
   ·have:=hun
    rw [← hlift] at this
    exact this
   ·rw [decide_eq_true_eq]
    show nth (q.at_.set (c:Int).toNat 0) c=0
    rw [Int.toNat_natCast,zbo,if_pos ⟨rfl,aa⟩]
   ·refine zEN ?_ rfl rfl rfl rfl
    show (q.at_.set (c:Int).toNat 0).set c (zal k q.side)=q.at_
    rw [Int.toNat_natCast,hcode,zB4]
  ·cases hwo
theorem zxR {g:zab} (hg:GOk g){q:zaf} (hq:POk g q){p:zaf} (hp:p ∈ zcI g q):q ∈ zkZ g q.side p:=by
 unfold zcI at hp
 rw [zaG] at hp
 obtain ⟨k,hk,hp⟩:=List.mem_flatMap.1 hp
 obtain ⟨c,hc,hp⟩:=List.mem_filterMap.1 hp
 have hk:=List.mem_range.1 hk
 have hc:=List.mem_range.1 hc
 have hh:=hq.hand q.side
 have hkh:k<(q.hand q.side).length:=by rw [hh.len];exact hk
 have hv:=hh.v k hkh
 have hk6:=hg.k6
 unfold zf2 at hp
 split at hp
 ·cases hp
 rename_i hn
 have hn1:nth (q.hand q.side) k≠0:=fun h=>hn (.inl h)
 have hn2:nth q.at_ c=0:=Classical.byContradiction fun h=>hn (.inr h)
 simp only [Option.some.injEq] at hp
 have hkeep:=hv.2.2 aa
 have hpa:p.at_=q.at_.set c (zal k q.side):=by rw [← hp];exact zgw _ _ _
 have hpn:nth p.at_ c=zal k q.side:=by rw [hpa,zbo,if_pos ⟨rfl,hc⟩]
 have hm:zan (zal k q.side)=((k:Int),q.side):=by
  rcases hq.s with h|h<;>rw [h]<;>unfold zal<;>rw [if_pos ⟨⟨aa,aa⟩,aa,aa⟩]<;>unfold zan<;>rw [if_pos aa]<;>refine Prod.ext ?_ ?_<;>simp only
  ·rw [Int.tdiv_eq_ediv_of_nonneg aa];omega
  ·rw [Int.tmod_eq_emod_of_nonneg aa];omega
  ·rw [Int.tdiv_eq_ediv_of_nonneg aa];omega
  ·rw [Int.tmod_eq_emod_of_nonneg aa];omega
 unfold zkZ
 refine List.mem_map.2 ⟨c,List.mem_filter.2 ⟨List.mem_range.2 (by rw [hpa,List.length_set];exact hc), ?_⟩, ?_⟩
 ·rw [hpn,hm]
  simp [hkeep]
 ·unfold zqR
  rw [hpn,hm]
  simp only [Int.toNat_natCast]
  rw [← hp]
  have e1:∀ (P:zaf) (L:List Int) (s:Int),({(P.withHand q.side L) with side:=s}:zaf).hand q.side=L:=fun P L s=>by unfold zaf.withHand zaf.hand;split<;>rfl
  have e2:∀ (P:zaf) (L:List Int),(P.withHand q.side L).at_=P.at_:=fun P L=>zgw _ _ _
  have e3:∀ (P:zaf) (L A M:List Int) (s s2:Int),({({(P.withHand q.side L) with side:=s}:zaf) with at_:=A,side:=s2}:zaf).withHand q.side M=({ P with at_:=A,side:=s2}:zaf).withHand q.side M:=fun P L A M s s2=>aI
  have e4:∀ (P:zaf) (L A:List Int) (s s2:Int),({({(P.withHand q.side L) with side:=s}:zaf) with at_:=A,side:=s2}:zaf).hand q.side=L:=fun P L A s s2=>by unfold zaf.withHand zaf.hand;split<;>rfl
  rw [e4,e3]
  have e5:nth ((q.hand q.side).set k (nth (q.hand q.side) k - 1)) k=nth (q.hand q.side) k - 1:=by rw [zbo,if_pos ⟨rfl,hkh⟩]
  have e6:((q.hand q.side).set k (nth (q.hand q.side) k - 1)).set k (nth (q.hand q.side) k - 1+1)=q.hand q.side:=by
   rw [List.set_set,Int.sub_add_cancel,zap _ _ hkh]
   exact List.set_getElem_self hkh
  rw [e5,e6]
  simp only [e2]
  have e7:(q.at_.set c (zal k q.side)).set c 0=q.at_:=by
   rw [List.set_set]
   conv=>lhs;rw [← hn2]
   rw [zap _ _ hc]
   exact List.set_getElem_self _
  rw [e7]
  unfold zaf.withHand zaf.hand
  split<;>rfl
theorem zxS {g:zab} (hg:GOk g){q p:zaf} (hq:POk g q) (hp:p ∈ zar g q):q ∈ zj7 g (1 - p.side) p∨q ∈ zkZ g (1 - p.side) p:=by
 have hps:1 - p.side=q.side:=by
  have:=(zcu hg hq p hp).2
  omega
 rw [hps]
 rcases (znV.1 hp).2 with ⟨o,ho, _,rfl⟩|⟨_,hd⟩
 ·exact .inl (zAU hg hq ho)
 ·exact .inr (zxR hg hq hd)
def zdo (g:zab) (p:zaf):List zaf:=(za3 zbi (zdB g p)).filter fun q=>zgl g q && decide (p ∈ zar g q)
theorem zlS {g:zab} (hg:GOk g){p q:zaf}:q ∈ zdo g p↔POk g q∧p ∈ zar g q:=by
 unfold zdo
 rw [List.mem_filter,zaG,Bool.and_eq_true,decide_eq_true_eq,zpi]
 constructor
 ·rintro ⟨_,h⟩;exact h
 ·rintro ⟨h1,h2⟩
  refine ⟨?_,h1,h2⟩
  unfold zdB
  exact List.mem_append.2 (zxS hg h1 h2)
theorem zhg (g:zab) (p:zaf):Inc (zdo g p):=List.Pairwise.filter _ (zcR zaU _)
def zj6 (g:zab) (p:zaf):List zaf×Int:=if 4000<(zdo g p).length then ([],2) else (zdo g p,0)
theorem zvl {g:zab} (hg:GOk g){p q:zaf} (h:q ∈ zdo g p):POk g q:=((zlS hg).1 h).1
theorem zwE {l:List zaf} (h:Inc l):za3 zbi l=l:=zeA zaU h fun _=>Iff.rfl
end Go.Av
end
