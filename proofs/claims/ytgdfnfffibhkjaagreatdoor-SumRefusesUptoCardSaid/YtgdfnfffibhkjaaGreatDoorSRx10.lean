/- Texts of ours, part 10: contracts and facts for this claim. -/
import Derived.Test.YtgdfnfffibhkjaaGreatDoorB10
set_option linter.unusedSimpArgs false
set_option linter.unusedVariables false
set_option maxRecDepth 100000
set_option maxHeartbeats 40000000
set_option linter.unusedSectionVars false
section
open Go Go.Proofs
namespace Go.Av
def Cu (nx:Nat->List Nat) (s:List Bool×List Nat) (k:Nat):List Bool×List Nat:=(List.range k).foldl (yB nx) s
theorem vZ (nx:Nat->List Nat) (s:List Bool×List Nat) (k:Nat):Cu nx s (k+1)=yB nx (Cu nx s k) k:=by
 grind [Cu,List.range_succ]
def I7 (nx:Nat->List Nat) (n:Nat):Nat->List Bool×List Nat->List Bool×List Nat
 |0,s=>s
 |f+1,s=>if (Cu nx s n).2.length=s.2.length then Cu nx s n else I7 nx n f (Cu nx s n)
theorem Mb {nx:Nat->List Nat}{n:Nat}{s:List Bool×List Nat} (h:ve nx n s) (hnx:∀i,i<n->∀j ∈ nx i,j<n):∀k,k<=n->ve nx n (Cu nx s k)
 |0, _=>h
 |k+1,hk=>by
  rw [vZ];exact (Mb h hnx k ge).step hnx ge
theorem Cv (nx:Nat->List Nat) (s:List Bool×List Nat):∀k,s.2.length<=(Cu nx s k).2.length
 |0=>Nat.le_refl _
 |k+1=>by
  rw [vZ];refine Nat.le_trans (Cv nx s k) ?_;unfold yB;split
  ·simp
  ·exact Nat.le_refl _
theorem Kv {nx:Nat->List Nat}{s:List Bool×List Nat}:∀k,(Cu nx s k).2.length=s.2.length->Cu nx s k=s∧∀i,i<k->¬(ac s.1 i=false∧(nx i).all (λ j=>ac s.1 j)=true)
 |0, _=>⟨rfl,λ i hi=>ge⟩
 |k+1,h=>by
  have h1:=Cv nx s k;have h2:(Cu nx s k).2.length=s.2.length:=by
   have h3:(Cu nx s k).2.length<=(Cu nx s (k+1)).2.length:=by
    rw [vZ];unfold yB;split
    ·simp
    ·exact Nat.le_refl _
   omega
  obtain ⟨e,hs⟩:=Kv k h2;rw [vZ,e] at h ⊢;by_cases hc:ac s.1 k=false∧(nx k).all (λ j=>ac s.1 j)=true
  ·unfold yB at h;rw [if_pos hc] at h;simp at h
  ·unfold yB;rw [if_neg hc];refine ⟨rfl,λ i hi=> ?_⟩;by_cases hik:i=k
   ·rw [hik];exact hc
   ·exact hs i ge
theorem Md {nx:Nat->List Nat}{n:Nat} (hnx:∀i,i<n->∀j ∈ nx i,j<n):∀ (f:Nat){s:List Bool×List Nat},ve nx n s->n<f+s.2.length->ve nx n (I7 nx n f s)∧∀i,i<n->i ∉ (I7 nx n f s).2->∃j ∈ nx i,j ∉ (I7 nx n f s).2
 |0,s,h,hf=>by
  have h1:s.2.length<=n:=by
   have:=List.Nodup.length_le_of_subset h.nd (l₂:=List.range n) λ i hi=>List.mem_range.2 (h.lt i hi);grind
  omega
 |f+1,s,h,hf=>by
  rw [I7];have hok:=Mb h hnx n (Nat.le_refl _);split
  ·rename_i he;obtain ⟨e,hst⟩:=Kv n he;rw [e];refine ⟨h,λ i hi hni=> ?_⟩;have h1:ac s.1 i=false:=by
    rw [Bool.eq_false_iff];intro ht;exact hni ((h.dn i hi).1 ht)
   refine Classical.byContradiction λ hno=>hst i hi ⟨h1,List.all_eq_true.2 λ j hj=> ?_⟩;refine (h.dn j (hnx i hi j hj)).2 (Classical.byContradiction λ hjn=>hno ⟨j,hj,hjn⟩)
  ·have:=Cv nx s n;exact Md hnx f hok ge
theorem yA (nx:Nat->List Nat) (n:Nat):ve nx n (List.replicate n false, []):=by
 refine ⟨gt,λ i hi=>(by cases hi),λ i hi=> ?_,gt,λ _=>0,λ i hi=>(by cases hi),λ i hi=>(by cases hi)⟩;grind [dT]
def g8 (L R:List (List Nat)) (n:Nat):List Nat:=(I7 (iI L R) n (n+1) (List.replicate n false, [])).2
section
variable {g:ae} {P:List aa} {L R:List (List Nat)} (h:xi g P L R P.length)
include h
end
end Go.Av
end
section
open Go Go.Proofs
namespace Go.Av
theorem Gb (l:List Nat) (hl:l.length<=1048576) (D:List Bool) (hD:D.length<=1048576) (hi:∀i ∈ l,i<D.length):aq Tryz.prog 79 [aX l, .lst 1 (D.map r8)] (.bool (l.all λ i=>ac D i)):=by
 refine pF Tryz.func79 ?_;refine J0 ?_;refine zg3 (zg5 (α:=Nat) (λ j=>⟨[(0,aX l),(1, .lst 1 (D.map r8)),(5, .int j)], [],0⟩) (λ d j=>j+d=l.length∧∀i,i<j->ac D (ac l i)=true) ?_ l.length 0 ?_) ?_ ?_
 ·rintro d j ⟨i1,i2⟩ hrec;repeat first|refine wV λ _=>?_|simp [go_sem,aX]
  refine zg4 (λ hj=> ?_) (λ hj=> ?_)<;>simp at hj
  ·have hj':j<l.length:=by omega
   have hx:=hi _ (am hj');have e1:ac (l.map bu) j= [.int ((ac l j:Nat):Int)]:=aJ _ _ _ hj';have e2:ac (D.map r8) (ac l j)= [.bool (ac D (ac l j))]:=aJ _ _ _ hx;repeat first|refine wV λ _=>?_|simp [go_sem,aX,hj',hx,e1,e2]
   refine zg4 (λ h=> ?_) (λ h=> ?_)
   ·rw [Bool.not_eq_true'] at h;have e3:(l.all λ i=>ac D i)=false:=by
     grind [ac]
    rw [e3];exact K0
   ·rw [Bool.not_eq_false'] at h;refine J0 ?_;refine zg3 (hrec (d - 1) ge (j+1) ⟨ge,λ i hi=> ?_⟩) ?_ gt
    ·grind
    ·simp [go_sem,aj,aX]
  ·obtain rfl:j=l.length:=by omega
   have e3:(l.all λ i=>ac D i)=true:=by
    grind [List.getElem_of_mem,ac]
   rw [e3];exact K0
 ·grind
 ·simp [go_sem,aj,aX]
 ·simp
theorem Bl (P:List aa) (L R:List (List Nat)) (n:Nat) (hn:n<=8000) (hP:P.length=n) (hL:L.length=n) (hR:R.length=n) (hl:∀i,i<n->(ac L i).length<=1048576∧(ac R i).length<=1048576) (hlt:∀i,i<n->∀j ∈ iI L R i,j<n):
  aq Tryz.prog 40 [.agg [aO P,aG L,aG R, .bool false]] (aX (g8 L R n)):=by
 obtain ⟨O,hO⟩:∃O,O=I7 (iI L R) n (n+1) (List.replicate n false, []):=⟨_,rfl⟩
 rw [g8,<- hO];have hrep:List.replicate n [AV.bool false]=(List.replicate n false).map r8:=by simp_all [r8]
 refine pF Tryz.func40 ?_;repeat first|refine wV λ _=>?_|simp [go_sem,aG,hP]
 refine zg3 (zg5 (α:=(List Bool×List Nat)×Bool) (λ a=>⟨[(1, .ref 0 0 4 0 0),(3, .sl 1 0 1 0 n),(4, .sl 2 a.1.2.length 1 0 a.1.2.length),(5, .bool a.2)], [(0, .rows true 0 4 [[aO P,aG L,aG R, .bool false]]),(1, .rows true 0 1 (a.1.1.map r8)),(2, .rows true a.1.2.length 1 (a.1.2.map bu))],3⟩)
  (λ d a=>ve (iI L R) n a.1∧(a.2=true->n<d+a.1.2.length∧O=I7 (iI L R) n d a.1)∧(a.2=false->O=a.1)) ?_ (n+1) ((List.replicate n false, []),true) ?_) ?_ ?_
 rotate_left
 ·grind [yA]
 ·simp [go_sem,aj,hrep,aG];intro _ c hc;simp only [r8,List.mem_singleton] at hc;subst hc;exact .v _
 ·simp
 rintro d ⟨s,b⟩ ⟨i1,i2,i3⟩ hrec;simp only at i1 i2 i3;refine J0 ?_;refine zg4 (λ hb=> ?_) (λ hb=> ?_)
 ·obtain ⟨j1,j2⟩:=i2 hb;have hle:=i1.le;obtain ⟨d,rfl⟩:∃d',d=d'+1:=⟨d - 1,ge⟩
  rw [I7] at j2;obtain ⟨S,hS⟩:∃S:Nat->List Bool×List Nat,∀j,S j=Cu (iI L R) s j:=⟨_,λ _=>rfl⟩
  have S0:S 0=s:=by rw [hS];rfl
  have Ss:∀j,S (j+1)=yB (iI L R) (S j) j:=λ j=>by rw [hS,hS,vZ]
  have So:∀j,j<=n->ve (iI L R) n (S j):=λ j hj=>by grind [Mb]
  have Sl:∀j,s.2.length<=(S j).2.length:=λ j=>by grind [Cv]
  rw [<- hS] at j2;clear hS;refine J0 ?_;refine zg3 (zg5 (α:=Nat) (λ j=>⟨[(1, .ref 0 0 4 0 0),(3, .sl 1 0 1 0 n),(4, .sl 2 (S j).2.length 1 0 (S j).2.length),(5, .bool (decide (s.2.length<(S j).2.length))),(6, .int j)],
    [(0, .rows true 0 4 [[aO P,aG L,aG R, .bool false]]),(1, .rows true 0 1 ((S j).1.map r8)),(2, .rows true (S j).2.length 1 ((S j).2.map bu))],3⟩)
   (λ d j=>j+d=n) ?_ n 0 ?_) ?_ ?_
  ·rintro d2 j k1 hrec2;repeat first|refine wV λ _=>?_|simp [go_sem,aG,hP]
   refine zg4 (λ hj=> ?_) (λ hj=> ?_)<;>simp at hj
   ·have hj':j<n:=by omega
    have hjL:j<L.length:=ge;have hjR:j<R.length:=ge;have ok:=So j ge;have hul:=ok.len;have hu2:=ok.le;have hSs:=Ss j;have hSl:=Sl j;have eL:ac (L.map cC) j= [aX (ac L j)]:=aJ _ _ _ hjL;have eR:ac (R.map cC) j= [aX (ac R j)]:=aJ _ _ _ hjR;generalize S j=u at *;have hju:j<u.1.length:=ge;have hu1:ac (u.1.map r8) j= [.bool (ac u.1 j)]:=aJ _ _ _ hju;have hcL:=Gb (ac L j) (hl j hj').1 u.1 ge λ i hi=>by rw [hul];exact hlt j hj' i (List.mem_append.2 (.inl hi))
    have hcR:=Gb (ac R j) (hl j hj').2 u.1 ge λ i hi=>by rw [hul];exact hlt j hj' i (List.mem_append.2 (.inr hi))
    by_cases h1:ac u.1 j=true
    ·have e:yB (iI L R) u j=u:=by grind [yB]
     rw [e] at hSs;rw [h1] at hu1;repeat first|refine wV λ _=>?_|simp [go_sem,hu1,eL,eR,hj',hjL,hjR,hL,hR,hul,aG]
     refine lC.skip .top ?_;repeat first|refine wV λ _=>?_|simp [go_sem,hu1,eL,eR,hj',hjL,hjR,hL,hR,hul,aG]
     refine lC.skip .top ?_;repeat first|refine wV λ _=>?_|simp [go_sem,hu1,eL,eR,hj',hjL,hjR,hL,hR,hul,aG]
     refine zg3 (hrec2 (d2 - 1) ge (j+1) ge) ?_ gt;simp [go_sem,aj,hSs,aG]
    ·rw [Bool.not_eq_true] at h1;rw [h1] at hu1;repeat first|refine wV λ _=>?_|simp [go_sem,hu1,eL,eR,hj',hjL,hjR,hL,hR,hul,aG]
     refine zhm [aX (ac L j), .lst 1 (u.1.map r8)] (.bool ((ac L j).all λ i=>ac u.1 i)) (λ _=>hcL) (.v _) ?_ no ?_
     ·exact .cons (.refl _) (.cons (aI rfl (by simp [hul]) Ws (List.take_of_length_le (by simp [hul]))) .nil)
     by_cases h2:((ac L j).all λ i=>ac u.1 i)=true
     ·rw [h2];repeat first|refine wV λ _=>?_|simp [go_sem,hu1,eL,eR,hj',hjL,hjR,hL,hR,hul,aG]
      refine zhm [aX (ac R j), .lst 1 (u.1.map r8)] (.bool ((ac R j).all λ i=>ac u.1 i)) (λ _=>hcR) (.v _) ?_ no ?_
      ·exact .cons (.refl _) (.cons (aI rfl (by simp [hul]) Ws (List.take_of_length_le (by simp [hul]))) .nil)
      by_cases h3:((ac R j).all λ i=>ac u.1 i)=true
      ·have e:yB (iI L R) u j=(u.1.set j true,u.2++ [j]):=by grind [yB,iI]
       have es:(u.1.map r8).set j [.bool true]=(u.1.set j true).map r8:=by rw [List.map_set];rfl
       rw [e] at hSs;rw [h3];repeat first|refine wV λ _=>?_|simp [go_sem,hu1,eL,eR,hj',hjL,hjR,hL,hR,hul,aG]
       refine zg3 (hrec2 (d2 - 1) ge (j+1) ge) ?_ gt;have e6:s.2.length<u.2.length+1:=ge;simp [go_sem,aj,hSs,aG,es,bu,e6];have hz:=of_eq_true (Jo 3 (u.1.set j true));grind [r8]
      ·have e:yB (iI L R) u j=u:=by grind [yB,iI]
       rw [Bool.not_eq_true] at h3;rw [e] at hSs;rw [h3];repeat first|refine wV λ _=>?_|simp [go_sem,hu1,eL,eR,hj',hjL,hjR,hL,hR,hul,aG]
       refine zg3 (hrec2 (d2 - 1) ge (j+1) ge) ?_ gt;simp [go_sem,aj,hSs,aG]
     ·have e:yB (iI L R) u j=u:=by grind [yB,iI]
      rw [Bool.not_eq_true] at h2;rw [e] at hSs;rw [h2];repeat first|refine wV λ _=>?_|simp [go_sem,hu1,eL,eR,hj',hjL,hjR,hL,hR,hul,aG]
      refine lC.skip .top ?_;repeat first|refine wV λ _=>?_|simp [go_sem,hu1,eL,eR,hj',hjL,hjR,hL,hR,hul,aG]
      refine zg3 (hrec2 (d2 - 1) ge (j+1) ge) ?_ gt;simp [go_sem,aj,hSs,aG]
   ·obtain rfl:j=n:=by omega
    have ok:=So j ge;have hu2:=ok.le;have hSl:=Sl j;generalize S j=u at *;repeat first|refine wV λ _=>?_|simp [go_sem,aG]
    refine zg3 (hrec d ge (u,decide (s.2.length<u.2.length)) ⟨ok,λ h=> ?_,λ h=> ?_⟩) ?_ gt
    ·rw [decide_eq_true_eq] at h;grind
    ·grind
    ·simp [go_sem,aj,aG]
  ·omega
  ·simp [go_sem,aj,S0,aG]
  ·simp
 ·have hO:=i3 hb;have hle:=i1.le;rw [hO];refine J0 ?_;grind [aI,dO,aC,aX]
end Go.Av
end
section
open Go Go.Proofs
namespace Go.Av
open af
variable {n:Nat} {L R:List (List Nat)}
theorem DD  (hnx:∀i,i<n->∀j ∈ iI L R i,j<n):ve (iI L R) n (I7 (iI L R) n (n+1) (List.replicate n false, [])):=(Md hnx (n+1) (yA _ _) gt).1
theorem Cw  (hnx:∀i,i<n->∀j ∈ iI L R i,j<n):(g8 L R n).Nodup:=(DD hnx).nd
theorem Kw  (hnx:∀i,i<n->∀j ∈ iI L R i,j<n):∀i ∈ g8 L R n,i<n:=(DD hnx).lt
theorem DC  (hnx:∀i,i<n->∀j ∈ iI L R i,j<n):(g8 L R n).length<=n:=by
 have:=List.Nodup.length_le_of_subset (Cw hnx) (l₂:=List.range n) λ j hj=>List.mem_range.2 (Kw hnx j hj);grind
theorem RX  (hnx:∀i,i<n->∀j ∈ iI L R i,j<n) (hl:(g8 L R n).length=n) (i:Nat) (hi:i<n):i ∈ g8 L R n:=by
 refine Classical.byContradiction λ hni=> ?_;have hsub:(i::g8 L R n).Nodup:=List.nodup_cons.2 ⟨hni,Cw hnx⟩;have:=List.Nodup.length_le_of_subset hsub (l₂:=List.range n) λ j hj=>by
  grind [Kw]
 grind
end Go.Av
end
