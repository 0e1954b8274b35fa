/- Texts of ours, part 10: contracts and facts for this claim. -/
import Derived.Test.YtgdfnfffibhkjaaGreatDoorB10
set_option linter.unusedSimpArgs false
set_option linter.unusedVariables false
set_option maxRecDepth 100000
set_option maxHeartbeats 40000000
section
open Go Go.Proofs
namespace Go.Av
def zCu (nx:Nat->List Nat) (s:List Bool×List Nat) (k:Nat):List Bool×List Nat:=(List.range k).foldl (zyR nx) s
theorem zl3 (nx:Nat->List Nat) (s:List Bool×List Nat) (k:Nat):zCu nx s (k+1)=zyR nx (zCu nx s k) k:=by
 grind [zCu,List.range_succ]
def zJi (nx:Nat->List Nat) (n:Nat):Nat->List Bool×List Nat->List Bool×List Nat
 |0,s=>s
 |f+1,s=>if (zCu nx s n).2.length=s.2.length then zCu nx s n else zJi nx n f (zCu nx s n)
theorem zA0 {nx:Nat->List Nat}{n:Nat}{s:List Bool×List Nat} (h:zo0 nx n s) (hnx:∀i,i<n->∀j ∈ nx i,j<n):∀k,k<=n->zo0 nx n (zCu nx s k)
 |0, _=>h
 |k+1,hk=>by
  rw [zl3];exact (zA0 h hnx k aa).step hnx aa
theorem zqZ (nx:Nat->List Nat) (s:List Bool×List Nat):∀k,s.2.length<=(zCu nx s k).2.length
 |0=>Nat.le_refl _
 |k+1=>by
  rw [zl3];refine Nat.le_trans (zqZ nx s k) ?_;unfold zyR;split
  ·simp
  ·exact Nat.le_refl _
theorem zyQ {nx:Nat->List Nat}{s:List Bool×List Nat}:∀k,(zCu nx s k).2.length=s.2.length->zCu nx s k=s∧∀i,i<k->¬(nth s.1 i=false∧(nx i).all (λ j=>nth s.1 j)=true)
 |0, _=>⟨rfl,λ i hi=>aa⟩
 |k+1,h=>by
  have h1:=zqZ nx s k;have h2:(zCu nx s k).2.length=s.2.length:=by
   have h3:(zCu nx s k).2.length<=(zCu nx s (k+1)).2.length:=by
    rw [zl3];unfold zyR;split
    ·simp
    ·exact Nat.le_refl _
   omega
  obtain ⟨e,hs⟩:=zyQ k h2;rw [zl3,e] at h ⊢;by_cases hc:nth s.1 k=false∧(nx k).all (λ j=>nth s.1 j)=true
  ·unfold zyR at h;rw [if_pos hc] at h;simp at h
  ·unfold zyR;rw [if_neg hc];refine ⟨rfl,λ i hi=> ?_⟩;by_cases hik:i=k
   ·rw [hik];exact hc
   ·exact hs i aa
theorem zA1 {nx:Nat->List Nat}{n:Nat} (hnx:∀i,i<n->∀j ∈ nx i,j<n):∀ (f:Nat){s:List Bool×List Nat},zo0 nx n s->n<f+s.2.length->zo0 nx n (zJi nx n f s)∧∀i,i<n->i ∉ (zJi nx n f s).2->∃j ∈ nx i,j ∉ (zJi nx n f s).2
 |0,s,h,hf=>by
  have h1:s.2.length<=n:=by
   have:=List.Nodup.length_le_of_subset h.nd (l₂:=List.range n) λ i hi=>List.mem_range.2 (h.lt i hi);grind
  omega
 |f+1,s,h,hf=>by
  rw [zJi];have hok:=zA0 h hnx n (Nat.le_refl _);split
  ·rename_i he;obtain ⟨e,hst⟩:=zyQ n he;rw [e];refine ⟨h,λ i hi hni=> ?_⟩;have h1:nth s.1 i=false:=by
    rw [Bool.eq_false_iff];intro ht;exact hni ((h.dn i hi).1 ht)
   refine Classical.byContradiction λ hno=>hst i hi ⟨h1,List.all_eq_true.2 λ j hj=> ?_⟩;refine (h.dn j (hnx i hi j hj)).2 (Classical.byContradiction λ hjn=>hno ⟨j,hj,hjn⟩)
  ·rename_i he;have:=zqZ nx s n;exact zA1 hnx f hok aa
theorem znp (nx:Nat->List Nat) (n:Nat):zo0 nx n (List.replicate n false, []):=by
 refine ⟨ac,λ i hi=>(by cases hi),λ i hi=> ?_,ac,λ _=>0,λ i hi=>(by cases hi),λ i hi=>(by cases hi)⟩;grind [zcp]
def zdx (L R:List (List Nat)) (n:Nat):List Nat:=(zJi (nxG L R) n (n+1) (List.replicate n false, [])).2
section
variable {g:zaa} {P:List zae} {L R:List (List Nat)} (h:zwW g P L R P.length)
include h
end
end Go.Av
end
section
open Go Go.Proofs
namespace Go.Av
theorem zue (l:List Nat) (hl:l.length<=1048576) (D:List Bool) (hD:D.length<=1048576) (hi:∀i ∈ l,i<D.length):zav Tryz.prog 79 [zaB l, .lst 1 (D.map zmP)] (.bool (l.all λ i=>nth D i)):=by
 refine pF Tryz.func79 ?_;refine J0 ?_;refine zNW (zNY (α:=Nat) (λ j=>⟨[(0,zaB l),(1, .lst 1 (D.map zmP)),(5, .int j)], [],0⟩) (λ d j=>j+d=l.length∧∀i,i<j->nth D (nth l i)=true) ?_ l.length 0 ?_) ?_ ?_
 ·rintro d j ⟨i1,i2⟩ hrec;repeat first|refine wV λ _=>?_|simp [go_sem,zaB]
  refine zNX (λ hj=> ?_) (λ hj=> ?_)<;>simp at hj
  ·have hj':j<l.length:=by omega
   have hx:=hi _ (zah hj');have e1:nth (l.map zaR) j= [.int ((nth l j:Nat):Int)]:=zau _ _ _ hj';have e2:nth (D.map zmP) (nth l j)= [.bool (nth D (nth l j))]:=zau _ _ _ hx;repeat first|refine wV λ _=>?_|simp [go_sem,zaB,hj',hx,e1,e2]
   refine zNX (λ h=> ?_) (λ h=> ?_)
   ·rw [Bool.not_eq_true'] at h;have e3:(l.all λ i=>nth D i)=false:=by
     grind [nth]
    rw [e3];exact K0
   ·rw [Bool.not_eq_false'] at h;refine J0 ?_;refine zNW (hrec (d - 1) aa (j+1) ⟨aa,λ i hi=> ?_⟩) ?_ ac
    ·grind
    ·simp [go_sem,zaf,zaB]
  ·obtain rfl:j=l.length:=by omega
   have e3:(l.all λ i=>nth D i)=true:=by
    grind [List.getElem_of_mem,nth]
   rw [e3];exact K0
 ·grind
 ·simp [go_sem,zaf,zaB]
 ·simp
theorem zpP (P:List zae) (L R:List (List Nat)) (n:Nat) (hn:n<=8000) (hP:P.length=n) (hL:L.length=n) (hR:R.length=n) (hl:∀i,i<n->(nth L i).length<=1048576∧(nth R i).length<=1048576) (hlt:∀i,i<n->∀j ∈ nxG L R i,j<n):
  zav Tryz.prog 40 [.agg [zaC P,zax L,zax R, .bool false]] (zaB (zdx L R n)):=by
 obtain ⟨O,hO⟩:∃O,O=zJi (nxG L R) n (n+1) (List.replicate n false, []):=⟨_,rfl⟩
 rw [zdx,<- hO];have hrep:List.replicate n [AV.bool false]=(List.replicate n false).map zmP:=by simp_all [zmP]
 refine pF Tryz.func40 ?_;repeat first|refine wV λ _=>?_|simp [go_sem,zax,hP]
 refine zNW (zNY (α:=(List Bool×List Nat)×Bool) (λ a=>⟨[(1, .ref 0 0 4 0 0),(3, .sl 1 0 1 0 n),(4, .sl 2 a.1.2.length 1 0 a.1.2.length),(5, .bool a.2)], [(0, .rows true 0 4 [[zaC P,zax L,zax R, .bool false]]),(1, .rows true 0 1 (a.1.1.map zmP)),(2, .rows true a.1.2.length 1 (a.1.2.map zaR))],3⟩)
  (λ d a=>zo0 (nxG L R) n a.1∧(a.2=true->n<d+a.1.2.length∧O=zJi (nxG L R) n d a.1)∧(a.2=false->O=a.1)) ?_ (n+1) ((List.replicate n false, []),true) ?_) ?_ ?_
 rotate_left
 ·grind [znp]
 ·simp [go_sem,zaf,hrep,zax];intro _ c hc;simp only [zmP,List.mem_singleton] at hc;subst hc;exact .v _
 ·simp
 rintro d ⟨s,b⟩ ⟨i1,i2,i3⟩ hrec;simp only at i1 i2 i3;refine J0 ?_;refine zNX (λ hb=> ?_) (λ hb=> ?_)
 ·obtain ⟨j1,j2⟩:=i2 hb;have hle:=i1.le;obtain ⟨d,rfl⟩:∃d',d=d'+1:=⟨d - 1,aa⟩
  rw [zJi] at j2;obtain ⟨S,hS⟩:∃S:Nat->List Bool×List Nat,∀j,S j=zCu (nxG L R) s j:=⟨_,λ _=>rfl⟩
  have S0:S 0=s:=by rw [hS];rfl
  have Ss:∀j,S (j+1)=zyR (nxG L R) (S j) j:=λ j=>by rw [hS,hS,zl3]
  have So:∀j,j<=n->zo0 (nxG L R) n (S j):=λ j hj=>by grind [zA0]
  have Sl:∀j,s.2.length<=(S j).2.length:=λ j=>by grind [zqZ]
  rw [<- hS] at j2;clear hS;refine J0 ?_;refine zNW (zNY (α:=Nat) (λ j=>⟨[(1, .ref 0 0 4 0 0),(3, .sl 1 0 1 0 n),(4, .sl 2 (S j).2.length 1 0 (S j).2.length),(5, .bool (decide (s.2.length<(S j).2.length))),(6, .int j)],
    [(0, .rows true 0 4 [[zaC P,zax L,zax R, .bool false]]),(1, .rows true 0 1 ((S j).1.map zmP)),(2, .rows true (S j).2.length 1 ((S j).2.map zaR))],3⟩)
   (λ d j=>j+d=n) ?_ n 0 ?_) ?_ ?_
  ·rintro d2 j k1 hrec2;repeat first|refine wV λ _=>?_|simp [go_sem,zax,hP]
   refine zNX (λ hj=> ?_) (λ hj=> ?_)<;>simp at hj
   ·have hj':j<n:=by omega
    have hjL:j<L.length:=aa;have hjR:j<R.length:=aa;have ok:=So j aa;have hul:=ok.len;have hu2:=ok.le;have hSs:=Ss j;have hSl:=Sl j;have eL:nth (L.map zbD) j= [zaB (nth L j)]:=zau _ _ _ hjL;have eR:nth (R.map zbD) j= [zaB (nth R j)]:=zau _ _ _ hjR;generalize S j=u at *;have hju:j<u.1.length:=aa;have hu1:nth (u.1.map zmP) j= [.bool (nth u.1 j)]:=zau _ _ _ hju;have hcL:=zue (nth L j) (hl j hj').1 u.1 aa λ i hi=>by rw [hul];exact hlt j hj' i (List.mem_append.2 (.inl hi))
    have hcR:=zue (nth R j) (hl j hj').2 u.1 aa λ i hi=>by rw [hul];exact hlt j hj' i (List.mem_append.2 (.inr hi))
    by_cases h1:nth u.1 j=true
    ·have e:zyR (nxG L R) u j=u:=by grind [zyR]
     rw [e] at hSs;rw [h1] at hu1;repeat first|refine wV λ _=>?_|simp [go_sem,hu1,eL,eR,hj',hjL,hjR,hL,hR,hul,zax]
     refine aGC.skip .top ?_;repeat first|refine wV λ _=>?_|simp [go_sem,hu1,eL,eR,hj',hjL,hjR,hL,hR,hul,zax]
     refine aGC.skip .top ?_;repeat first|refine wV λ _=>?_|simp [go_sem,hu1,eL,eR,hj',hjL,hjR,hL,hR,hul,zax]
     refine zNW (hrec2 (d2 - 1) aa (j+1) aa) ?_ ac;simp [go_sem,zaf,hSs,zax]
    ·rw [Bool.not_eq_true] at h1;rw [h1] at hu1;repeat first|refine wV λ _=>?_|simp [go_sem,hu1,eL,eR,hj',hjL,hjR,hL,hR,hul,zax]
     refine zOe [zaB (nth L j), .lst 1 (u.1.map zmP)] (.bool ((nth L j).all λ i=>nth u.1 i)) (λ _=>hcL) (.v _) ?_ ae ?_
     ·exact .cons (.refl _) (.cons (zaq rfl (by simp [hul]) ap (List.take_of_length_le (by simp [hul]))) .nil)
     by_cases h2:((nth L j).all λ i=>nth u.1 i)=true
     ·rw [h2];repeat first|refine wV λ _=>?_|simp [go_sem,hu1,eL,eR,hj',hjL,hjR,hL,hR,hul,zax]
      refine zOe [zaB (nth R j), .lst 1 (u.1.map zmP)] (.bool ((nth R j).all λ i=>nth u.1 i)) (λ _=>hcR) (.v _) ?_ ae ?_
      ·exact .cons (.refl _) (.cons (zaq rfl (by simp [hul]) ap (List.take_of_length_le (by simp [hul]))) .nil)
      by_cases h3:((nth R j).all λ i=>nth u.1 i)=true
      ·have e:zyR (nxG L R) u j=(u.1.set j true,u.2++ [j]):=by grind [zyR,nxG]
       have es:(u.1.map zmP).set j [.bool true]=(u.1.set j true).map zmP:=by rw [List.map_set];rfl
       rw [e] at hSs;rw [h3];repeat first|refine wV λ _=>?_|simp [go_sem,hu1,eL,eR,hj',hjL,hjR,hL,hR,hul,zax]
       refine zNW (hrec2 (d2 - 1) aa (j+1) aa) ?_ ac;have e6:s.2.length<u.2.length+1:=aa;simp [go_sem,zaf,hSs,zax,es,zaR,e6];have hz:=of_eq_true (zxw 3 (u.1.set j true));grind [zmP]
      ·have e:zyR (nxG L R) u j=u:=by grind [zyR,nxG]
       rw [Bool.not_eq_true] at h3;rw [e] at hSs;rw [h3];repeat first|refine wV λ _=>?_|simp [go_sem,hu1,eL,eR,hj',hjL,hjR,hL,hR,hul,zax]
       refine zNW (hrec2 (d2 - 1) aa (j+1) aa) ?_ ac;simp [go_sem,zaf,hSs,zax]
     ·have e:zyR (nxG L R) u j=u:=by grind [zyR,nxG]
      rw [Bool.not_eq_true] at h2;rw [e] at hSs;rw [h2];repeat first|refine wV λ _=>?_|simp [go_sem,hu1,eL,eR,hj',hjL,hjR,hL,hR,hul,zax]
      refine aGC.skip .top ?_;repeat first|refine wV λ _=>?_|simp [go_sem,hu1,eL,eR,hj',hjL,hjR,hL,hR,hul,zax]
      refine zNW (hrec2 (d2 - 1) aa (j+1) aa) ?_ ac;simp [go_sem,zaf,hSs,zax]
   ·obtain rfl:j=n:=by omega
    have ok:=So j aa;have hu2:=ok.le;have hSl:=Sl j;generalize S j=u at *;repeat first|refine wV λ _=>?_|simp [go_sem,zax]
    refine zNW (hrec d aa (u,decide (s.2.length<u.2.length)) ⟨ok,λ h=> ?_,λ h=> ?_⟩) ?_ ac
    ·rw [decide_eq_true_eq] at h;rw [if_neg aa] at j2;grind
    ·grind
    ·simp [go_sem,zaf,zax]
  ·omega
  ·simp [go_sem,zaf,S0,zax]
  ·simp
 ·have hO:=i3 hb;have hle:=i1.le;rw [hO];refine J0 ?_;grind [zaq,noH,upd,zaB]
end Go.Av
end
section
open Go Go.Proofs
namespace Go.Av
open zab
variable {n:Nat} {L R:List (List Nat)}
theorem zsO  (hnx:∀i,i<n->∀j ∈ nxG L R i,j<n):zo0 (nxG L R) n (zJi (nxG L R) n (n+1) (List.replicate n false, [])):=(zA1 hnx (n+1) (znp _ _) ac).1
theorem zp8  (hnx:∀i,i<n->∀j ∈ nxG L R i,j<n):(zdx L R n).Nodup:=(zsO hnx).nd
theorem zyS  (hnx:∀i,i<n->∀j ∈ nxG L R i,j<n):∀i ∈ zdx L R n,i<n:=(zsO hnx).lt
theorem zsN  (hnx:∀i,i<n->∀j ∈ nxG L R i,j<n):(zdx L R n).length<=n:=by
 have:=List.Nodup.length_le_of_subset (zp8 hnx) (l₂:=List.range n) λ j hj=>List.mem_range.2 (zyS hnx j hj);grind
theorem zEz  (hnx:∀i,i<n->∀j ∈ nxG L R i,j<n) (hl:(zdx L R n).length=n) (i:Nat) (hi:i<n):i ∈ zdx L R n:=by
 refine Classical.byContradiction λ hni=> ?_;have hsub:(i::zdx L R n).Nodup:=List.nodup_cons.2 ⟨hni,zp8 hnx⟩;have:=List.Nodup.length_le_of_subset hsub (l₂:=List.range n) λ j hj=>by
  grind [zyS]
 grind
end Go.Av
end
