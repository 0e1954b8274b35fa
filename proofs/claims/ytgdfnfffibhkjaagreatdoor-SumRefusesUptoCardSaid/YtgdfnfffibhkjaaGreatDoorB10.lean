/- Texts of ours, part 10: our library and contracts of functions. -/
import Derived.Test.YtgdfnfffibhkjaaGreatDoorB09
import Derived.Test.YtgdfnfffibhkjaaGreatDoorChecked
import Derived.Shelf.GgClosure.StringsIndexFunc
set_option linter.unusedSimpArgs false
set_option linter.unusedVariables false
set_option maxRecDepth 100000
set_option maxHeartbeats 40000000
set_option linter.unusedSectionVars false
section
/- solve.back. -/
set_option linter.unusedSectionVars false
open Go Go.Proofs
namespace Go.Av
def Aa (ls:List (List Nat)) (c:Nat) (x:Nat):List (List Nat):=ls.set c (ac ls c++ [x])
def vK (b0:Nat) (ls:List (List Nat)):List (List AV):=(List.range ls.length).map λ k=> [.sl (b0+k) (ac ls k).length 1 0 (ac ls k).length]
def OA (ls:List (List Nat)) (k:Nat):cB:= .rows true (ac ls k).length 1 ((ac ls k).map bu)
def Oy (b0:Nat) (ls:List (List Nat)):List (Nat×cB):=(List.range ls.length).map λ k=>(b0+k,OA ls k)
@[go_sem] theorem zb3 (b0:Nat) (ls:List (List Nat)):(vK b0 ls).length=ls.length:=by simp [vK]
variable {ls:List (List Nat)} {b0 c k n:Nat}
theorem zb4  (h:k<ls.length):ac (vK b0 ls) k= [.sl (b0+k) (ac ls k).length 1 0 (ac ls k).length]:=by
 grind [vK,ac]
theorem Oz {p:Nat×cB} (h:p ∈ Oy b0 ls):∃k,k<ls.length∧p=(b0+k,OA ls k):=by
 grind [Oy]
theorem TL {f:Nat->cB}{b0:Nat}:∀ {l:List Nat}{k:Nat},k ∈ l->fh (l.map λ k=>(b0+k,f k)) (b0+k)=some (f k)
 |a::l,k,h=>by
  simp only [List.map_cons,fh,aC];by_cases e:k=a;all_goals simp_all [TL]
theorem zi  (h:k<ls.length):fh (Oy b0 ls) (b0+k)=some (.rows true (ac ls k).length 1 ((ac ls k).map bu)):=TL (List.mem_range.2 h)
theorem Dz {x:Nat} (hc:c<ls.length):ac (Aa ls c x) k=if c=k then ac ls c++ [x] else ac ls k:=by
 grind [Aa,ac]
theorem Dy (ls:List (List Nat)) (c:Nat) (x:Nat):(Aa ls c x).length=ls.length:=by simp [Aa]
theorem zb5  (hc:c<ls.length) (x:Nat) (hn:n=(ac ls c).length+1):(vK b0 ls).set c [.sl (b0+c) n 1 0 n]=vK b0 (Aa ls c x):=by
 refine List.ext_getElem (by simp [vK,Aa]) λ i h1 h2=> ?_;grind [vK,ac,Aa]
theorem Rg {n':Nat}{h h':au} (hat:∀k,k<ls.length->h (b0+k)=some (OA ls k)) (hn:b0+ls.length<=n'):∀p ∈ Oy b0 ls,p.1<n'∧zc7 h h' n p.1 (h p.1) p.2∧se n' p.2:=by
 intro p hp;obtain ⟨k,hk,rfl⟩:=Oz hp;refine ⟨ge, ?_,of_eq_true (lU _ _)⟩;rw [hat k hk];exact .same (λ h=>h) (.refl _)
theorem zd9 {m:Nat}{h h':au} (hn:n<=b0) (hat:∀k,k<m->h' (b0+k)=some (.rows true 0 1 [])):bg h h' n (List.replicate m [.v (.slice none 0 0)]) (vK b0 (List.replicate m [])):=by
 have key:∀ (d i:Nat),i+d=m->bg h h' n (List.replicate d [.v (.slice none 0 0)]) ((List.range' i d).map λ k=> [.sl (b0+k) (ac (List.replicate m ([]:List Nat)) k).length 1 0 (ac (List.replicate m ([]:List Nat)) k).length]):=by
  intro d;induction d with
  |zero=>intro i _;exact .nil
  |succ d ih=>
   intro i hi;rw [List.replicate_succ,List.range'_succ,List.map_cons];have e:ac (List.replicate m ([]:List Nat)) i= []:=Wx;rw [e];exact .cons (.cons (.own ge (hat i ge)) .nil) (ih (i+1) ge)
 grind [List.range_eq_range',vK]
theorem zd8 {h h':au} (hat:∀k,k<ls.length->h (b0+k)=some (OA ls k)) (hat':∀k,k<ls.length->h' (b0+k)=none):bg h h' n (vK b0 ls) ((List.range ls.length).map λ k=>cC (ac ls k)):=by
 unfold vK;have key:∀ (l:List Nat),(∀k ∈ l,k<ls.length)->bg h h' n (l.map λ k=> [.sl (b0+k) (ac ls k).length 1 0 (ac ls k).length]) (l.map λ k=>cC (ac ls k)):=by
  intro l;induction l with
  |nil=>intro _;exact .nil
  |cons k l ih=>
   intro hl;refine .cons (.cons ?_ .nil) (ih λ j hj=>hl j (by simp [hj]));grind [aI,ac,aX,OA]
 grind
theorem B5  (hn:b0+ls.length<=n):∀r ∈ vK b0 ls,∀c ∈ r,aN n c:=by
 intro r hr c hc;obtain ⟨k,hk,rfl⟩:=List.mem_map.1 hr;simp only [List.mem_singleton] at hc;subst hc;have:=List.mem_range.1 hk;exact .sl ge
theorem zeb {h h':au}{o g sz:Nat}{rs rs':List (List AV)} (ho:h o=some (.rows true g sz rs)) (hr:bg h h' n rs rs'):zc7 h h' n o (h o) (.rows true g sz rs'):=by
 rw [ho];exact .same (λ h=>h) hr
theorem zd7 (ls:List (List Nat)):((List.range ls.length).map λ k=>cC (ac ls k))=ls.map cC:=by
 refine List.ext_getElem gt λ i h1 h2=> ?_;grind [ac]
def zR (i:Nat):List Nat->List (List Nat)->List (List Nat)
 | [],ls=>ls
 |x::l,ls=>zR i l (Aa ls x i)
def Gl (nx:List (List Nat)):Nat->List (List Nat)
 |0=>List.replicate nx.length []
 |k+1=>zR k (ac nx k) (Gl nx k)
def vk (nx:List (List Nat)):List (List Nat):=Gl nx nx.length
theorem Jr (i:Nat):∀ (l:List Nat) (ls:List (List Nat)),(zR i l ls).length=ls.length
 | [],ls=>rfl
 |x::l,ls=>by rw [zR,Jr i l,Dy]
theorem xS (nx:List (List Nat)):∀k,(Gl nx k).length=nx.length
 |0=>by simp [Gl]
 |k+1=>by rw [Gl,Jr,xS nx k]
def zaQ (N:Nat) (ls:List (List Nat)):Prop:=∀i,(ac ls i).length<=N
theorem VP {N:Nat} (h:zaQ N ls) (hc:c<ls.length) (x:Nat):zaQ (N+1) (Aa ls c x):=λ i=>by
 grind [Dz,zaQ]
theorem Js (i:Nat):∀ (l:List Nat) (ls:List (List Nat)),l.Nodup->(∀x ∈ l,x<ls.length)->∀x,ac (zR i l ls) x=if x ∈ l then ac ls x++ [i] else ac ls x
 | [],ls, _, _,x=>by simp [zR]
 |y::l,ls,hn,hl,x=>by
  rw [zR,Js i l _ (List.nodup_cons.1 hn).2 (λ z hz=>by rw [Dy];exact hl z (by simp [hz])) x,Dz (hl y gt)];by_cases e:y=x
  ·subst e;simp [(List.nodup_cons.1 hn).1]
  ·simp [e,Ne.symm e]
theorem NK (nx:List (List Nat)) (hn:∀k,k<nx.length->(ac nx k).Nodup) (hl:∀k,k<nx.length->∀x ∈ ac nx k,x<nx.length) (x:Nat):∀k,k<=nx.length->ac (Gl nx k) x=(List.range k).filter λ j=>decide (x ∈ ac nx j)
 |0, _=>by
  by_cases hx:x<nx.length
  ·grind [Gl,ac]
  ·unfold ac;simp [Gl,List.getD_eq_getElem?_getD,List.getElem?_replicate,hx];rfl
 |k+1,hk=>by
  rw [Gl,Js k _ _ (hn k hk) (λ y hy=>by rw [xS];exact hl k hk y hy),NK nx hn hl x k ge,List.range_succ,List.filter_append];by_cases e:x ∈ ac nx k<;>simp [e]
theorem By {nx:List (List Nat)} (hn:∀k,k<nx.length->(ac nx k).Nodup) (hl:∀k,k<nx.length->∀x ∈ ac nx k,x<nx.length) (i:Nat):(ac (vk nx) i).Nodup∧∀k,k ∈ ac (vk nx) i↔k<nx.length∧i ∈ ac nx k:=by
 rw [vk,NK nx hn hl i _ (Nat.le_refl _)];exact ⟨List.nodup_range.filter _,λ k=>gt⟩
theorem Sy (nx:List (List Nat)) (hm:nx.length<=4000) (hl:∀k,k<nx.length->(ac nx k).length<=1048576∧∀x ∈ ac nx k,x<nx.length):aq Tryz.prog 156 [aG nx] (aG (vk nx)):=by
 obtain ⟨R,hR⟩:∃R,R=vk nx:=⟨_,rfl⟩
 obtain ⟨G,hG⟩:∃G:Nat->List (List Nat),∀k,G k=Gl nx k:=⟨_,λ _=>rfl⟩
 obtain ⟨m,hmm⟩:∃m,nx.length=m:=⟨_,rfl⟩
 have hGl:∀k,(G k).length=m:=λ k=>by grind [xS]
 have hG0:G 0=List.replicate m []:=by grind [Gl]
 have hGs:∀k,G (k+1)=zR k (ac nx k) (G k):=λ k=>by rw [hG,hG];rfl
 have hRG:R=G m:=by grind [vk]
 rw [<- hR];clear hR hG;rw [hmm] at hm hl;obtain ⟨B,hB⟩:∃B,B=1048576:=⟨_,rfl⟩
 rw [<- hB] at hl;have n1:∀k,¬0=1+k:=ge;have n2:∀k,¬1+k=0:=ge;rw [aG,aG];refine pF Tryz.func156 ?_;refine J1 hmm ?_;refine zg3 (zg5 (α:=Nat) (λ c=>⟨[(3, .sl 0 0 1 0 m),(11, .lst 1 (nx.map cC)),(12, .int m),(13, .int c)],(0, .rows true 0 1 (vK 1 (G c)))::Oy 1 (G c),1+m⟩)
  (λ d c=>c+d=m∧zaQ (c * B) (G c)) ?_ m 0 ?_) ?_ ?_
 ·rintro d c ⟨i1,i2⟩ hrec;have hGc:=hGl c;refine J1 hmm ?_;refine zg4 (λ hc=> ?_) (λ hc=> ?_)<;>simp at hc
  ·have hcn:c<nx.length:=by omega
   obtain ⟨h1,h2⟩:=hl c ge;have hGs:=hGs c;have hnn:ac (nx.map cC) c= [.lst 1 ((ac nx c).map bu)]:=aJ _ _ _ hcn;generalize ac nx c=nl at h1 h2 hGs hnn;refine J3 hmm hc hnn ?_;refine zg3 (zg5 (α:=Nat×List (List Nat)) (λ s=>⟨[(3, .sl 0 0 1 0 m),(4, .int c),(11, .lst 1 (nx.map cC)),(12, .int m),(13, .int c),(18, .lst 1 (nl.map bu)),(19, .int nl.length),(20, .int s.1)],(0, .rows true 0 1 (vK 1 s.2))::Oy 1 s.2,1+m⟩)
    (λ d2 s=>s.1+d2=nl.length∧s.2.length=m∧zaQ (c * B+s.1) s.2∧zR c (nl.drop s.1) s.2=G (c+1)) ?_ nl.length (0,G c) ?_) ?_ ?_
   ·rintro d2 ⟨jj,ls⟩ ⟨l1,hll,l2,l3⟩ hrec2;simp only at l1 hll l2 l3;refine J0 ?_;refine zg4 (λ hjj=> ?_) (λ hjj=> ?_)<;>simp at hjj
    ·obtain ⟨x,hx⟩:∃x,ac nl jj=x:=⟨_,rfl⟩
     have hx4:x<m:=h2 x Wx;have hxn:ac (nl.map bu) jj= [.int x]:=by grind [aJ,bu]
     have hr1:ac (vK 1 ls) x= [.sl (1+x) (ac ls x).length 1 0 (ac ls x).length]:=zb4 ge;have hh1:fh (Oy 1 ls) (1+x)=some (.rows true (ac ls x).length 1 ((ac ls x).map bu)):=zi ge;have hb1:=l2 x;have hb2:c * B<=4000 * B:=Nat.mul_le_mul_right _ ge;rw [List.drop_eq_getElem_cons hjj,<- dT _ _ hjj,hx,zR] at l3;have a1:¬x=m:=ge;have a3:¬m=x:=ge;have a5:¬1000000<=1+(m+1):=ge;have a8:((ac ls x).length+1) * 8<=17592186044416:=ge;repeat first|refine wV λ _=>?_|simp [go_sem,hjj,hxn,hc,hx4,hr1,hh1,hll,a1,a3,a5,a8,n1,n2]
     have e1:=zb5 (b0:=1) (ls:=ls) (c:=x) ge c rfl;have hsh:=VP l2 (c:=x) ge c;have hn2:=λ k=>Dz (ls:=ls) (c:=x) (k:=k) (x:=c) ge;have hl2:=Dy ls x c;obtain ⟨ls2,hls2⟩:∃ls2,ls2=Aa ls x c:=⟨_,rfl⟩
     rw [<- hls2] at e1 l3 hsh hl2;simp only [<- hls2] at hn2;refine zg3 (hrec2 (d2 - 1) ge (jj+1,ls2) ⟨ge,pi,hsh,l3⟩) ?_ gt;refine ⟨XI,λ p hp=> ?_⟩;simp only at hp ⊢;rcases List.mem_cons.1 hp with rfl|hp
     ·simp [go_sem,n1,n2,e1];refine ⟨ge,B5 ge⟩
     ·refine Rg (ls:=ls2) (λ k hk=> ?_) ge p hp;have hkm:¬k=m:=ge;have hk1:fh (Oy 1 ls) (1+k)=some (.rows true (ac ls k).length 1 ((ac ls k).map bu)):=zi ge;simp only [OA,hn2,aC,n2,hkm,if_false];by_cases q1:x=k
      ·simp_all [bu]
      grind
    ·rw [List.drop_eq_nil_of_le ge] at l3;have l3':ls=G (c+1):=l3;subst l3';obtain rfl:jj=nl.length:=ge;refine J2 n1 n2 ?_;refine zg3 (hrec (d - 1) ge (c+1) ⟨ge,λ i=>Nat.le_trans (l2 i) pi⟩) ?_ gt;refine ⟨XI,λ p hp=> ?_⟩;simp only at hp ⊢;rcases List.mem_cons.1 hp with rfl|hp
     ·simp [go_sem,n1,n2];refine ⟨ge,B5 ge⟩
     ·refine Rg (ls:=G (c+1)) (λ k hk=> ?_) ge p hp;simp only [aC,n2,if_false];exact zi hk
   ·grind
   ·refine ⟨XI,λ p hp=> ?_⟩;simp only at hp ⊢;rcases List.mem_cons.1 hp with rfl|hp
    ·simp [go_sem,n1,n2];refine ⟨ge,B5 ge⟩
    ·refine Rg (ls:=G c) (λ k hk=> ?_) ge p hp;simp only [aC,n2,if_false];exact zi hk
   ·simp
  ·obtain rfl:c=m:=by omega
   refine J2 n1 n2 ?_;rw [hRG];refine eY.frz (mt:=true) (rs:=vK 1 (G c)) Wp (by grind [vK]) Xb ?_;have hl1:((vK 1 (G c)).drop 0).take c=vK 1 (G c):=by grind [zb3]
   rw [hl1,<- zd7];refine zd8 (λ k hk=> ?_) (λ k hk=> ?_);all_goals simp_all [aC,zi,OA,dO]
 ·exact ⟨gt,λ i=>by rw [hG0];by_cases hi:i<m<;>simp [ac,List.getD_eq_getElem?_getD,List.getElem?_replicate,hi]<;>first|rfl|exact Nat.zero_le _⟩
 ·refine ⟨XI,λ p hp=> ?_⟩;simp only [hG0] at hp ⊢;rcases List.mem_cons.1 hp with rfl|hp
  ·refine ⟨ge,zeb (rs:=List.replicate m [.v (.slice none 0 0)]) Wp (zd9 (Nat.le_refl _) λ k hk=> ?_),B5 gt⟩;simp_all [zi,dT,fh,aC]
  ·obtain ⟨k,hk,rfl⟩:=Oz hp;grind [dT,OA,zc7,aC,dO,se]
 ·simp
end Go.Av
end
section
/- Plain: chapter 23: the order of the nodes of a graph; where play comes back. -/
open Go Go.Proofs
namespace Go.Av
def yB (nx:Nat->List Nat) (s:List Bool×List Nat) (i:Nat):List Bool×List Nat:=if ac s.1 i=false∧(nx i).all (λ j=>ac s.1 j)=true then (s.1.set i true,s.2++ [i]) else s
structure ve (nx:Nat->List Nat) (n:Nat) (s:List Bool×List Nat):Prop where
 len:s.1.length=n
 lt:∀i ∈ s.2,i<n
 dn:∀i,i<n->(ac s.1 i=true↔i ∈ s.2)
 nd:s.2.Nodup
 rk:∃rk:Nat->Nat,(∀i ∈ s.2,rk i<s.2.length)∧∀i ∈ s.2,∀j ∈ nx i,j ∈ s.2∧rk j<rk i
theorem zcw {l:List Bool}{i j:Nat}{b:Bool}:ac (l.set i b) j=if i=j∧j<l.length then b else ac l j:=by
 grind [ac]
theorem ve.step {nx:Nat->List Nat}{n:Nat}{s:List Bool×List Nat} (h:ve nx n s) (hnx:∀i,i<n->∀j ∈ nx i,j<n){i:Nat} (hi:i<n):ve nx n (yB nx s i):=by
 unfold yB;split
 ·rename_i hc;obtain ⟨h1,h2⟩:=hc;obtain ⟨rk,r1,r2⟩:=h.rk;have hni:i ∉ s.2:=λ hm=>by rw [(h.dn i hi).2 hm] at h1;cases h1
  refine ⟨by simp [h.len],λ j hj=> ?_,λ j hj=> ?_, ?_,λ j=>if j=i then s.2.length else rk j,λ j hj=> ?_,λ j hj k hk=> ?_⟩
  ·rcases List.mem_append.1 hj with hj|hj
   ·exact h.lt j hj
   grind
  ·rw [zcw,h.len,List.mem_append,List.mem_singleton];by_cases e:i=j
   ·grind
   ·rw [if_neg (λ k=>e k.1),h.dn j hj];grind
  ·refine List.nodup_append.2 ⟨h.nd,gt,λ a ha b hb e=> ?_⟩;grind
  ·grind
  ·by_cases e:j=i
   ·subst e;have hkd:=List.all_eq_true.1 h2 k hk;have hks:=(h.dn k (hnx j hi k hk)).1 hkd;grind
   grind
 ·exact h
def iI (L R:List (List Nat)) (i:Nat):List Nat:=ac L i++ac R i
section
variable {g:ae} {P:List aa} {L R:List (List Nat)} (h:xi g P L R P.length)
include h
theorem zcx:∀i,i<P.length->∀j ∈ iI L R i,j<P.length:=λ i hi j hj=>by
 rcases List.mem_append.1 hj with hj|hj
 ·rw [h.ol i hi] at hj;obtain ⟨q,hq,rfl⟩:=List.mem_map.1 hj;exact (dm (h.mem i hi 0 (.inl rfl) q hq)).1
 ·rw [h.or i hi] at hj;obtain ⟨q,hq,rfl⟩:=List.mem_map.1 hj;exact (dm (h.mem i hi 1 (.inr rfl) q hq)).1
end
end Go.Av
end
section
open Go Go.Proofs
namespace Go.Av
def r8 (b:Bool):List AV:= [.bool b]
theorem Jo (n:Nat) (l:List Bool):(∀r ∈ l.map r8,∀c ∈ r,aN n c)=True:=eq_true λ r hr c hc=>by
 obtain ⟨x, _,rfl⟩:=List.mem_map.1 hr;simp only [r8,List.mem_singleton] at hc;subst hc;exact .v _
attribute [go_sem ↓] Jo
theorem ve.le {nx:Nat->List Nat}{n:Nat}{s:List Bool×List Nat} (h:ve nx n s):s.2.length<=n:=by
 have:=List.Nodup.length_le_of_subset h.nd (l₂:=List.range n) λ j hj=>List.mem_range.2 (h.lt j hj);grind
end Go.Av
end
section
open Go Go.Proofs
namespace Go.Av
open af
end Go.Av
end
section
open Go Go.Proofs
namespace Go.Av
open af
theorem Kt:∀k:Nat,(RT k).size=k+1
 |0=>rfl
 |k+1=>by rw [RT,size,aD,aD,Kt k];simp [aD];omega
theorem Ks:∀k:Nat,(RS k).size=k+1
 |0=>rfl
 |k+1=>by rw [RS,size,aD,aD,Ks k];simp [aD];omega
theorem Vx (n:Int):(E8 n).size=n.natAbs+1:=by
 grind [E8,Kt,Ks]
def Mo (f:af) (s:Int×Int) (n:Int):Int×Int:=(if leq (E8 n) f=true then n else s.1,if leq f (E8 n)=true∧n<s.2 then n else s.2)
def zeB (f:af) (k:Nat):Int×Int:=(List.range k).foldl (λ s (i:Nat)=>Mo f s (-8+(i:Int))) (-9,9)
theorem zcU (f:af) (k:Nat):zeB f (k+1)=Mo f (zeB f k) (-8+(k:Int)):=by
 grind [zeB,List.range_succ]
end Go.Av
end
section
open Go Go.Proofs
namespace Go.Av
open af
def ll (F:aa->af) (E:aa->Int):List aa->af->af×Int
 | [],t=>(t,0)
 |q::l,t=>if E q≠0 then (zero,E q) else if 2000<(add t (F q).canon).size then (zero,2) else ll F E l (add t (F q).canon).canon
theorem p9:ce zero= [.lst 2 [], .lst 2 []]:=X7
end Go.Av
end
section
open Go Go.Proofs
namespace Go.Av
open af
theorem Ng (g:ae) (p:aa) (hfp:bH p) (f:af) (hf:f.size<=2000) (hLq:∀a b:af,a.size<=2000->b.size<=2000->aq Tryz.prog 33 [bS a,bS b] (.bool (leq a b)))
  (hT:aq Tryz.prog 48 [.agg (ai g), .agg (ak p)] (.tup [.agg (ce f), .int 0])):
  aq Tryz.prog 60 [.agg (ai g), .agg (ak p)] (.tup [.agg [.int (zeB f 17).1, .int (zeB f 17).2], .int 0]):=by
 have hegl:(ai g).length=9:=rfl;have hegb:∀n,(∀c ∈ ai g,aN n c)=True:=λ n=>no;have hff:ce f= [.lst 2 (az f.L), .lst 2 (az f.R)]:=aH f;rw [hff] at hT;obtain ⟨S,hS⟩:∃S:Nat->Int×Int,∀i,S i=zeB f i:=⟨_,λ _=>rfl⟩
 rw [<- hS];have S0:S 0=(-9,9):=by rw [hS];rfl
 have Ss:∀i:Nat,S (i+1)=Mo f (S i) (-8+(i:Int)):=λ i=>by rw [hS,hS,zcU]
 clear hS;refine pF Tryz.func60 ?_;refine J0 ?_;refine aP hT ?_;refine J0 ?_;refine zg3 (zg5 (α:=Nat) (λ i=>⟨[(4, .ref 2 0 2 0 0),(6, .ref 3 0 2 0 0),(8, .ref 4 0 2 0 0),(9, .int (-8+(i:Int)))], [(2, .rows true 0 2 [[.int 0, .int 0]]),(3, .rows true 0 2 [[.lst 2 (az f.L), .lst 2 (az f.R)]]),(4, .rows true 0 2 [[.int (S i).1, .int (S i).2]])],5⟩)
  (λ d i=>i+d=17) ?_ 17 0 ?_) ?_ ?_
 ·intro d i hi hrec;obtain ⟨x,hx⟩:∃x:Int,x= -8+(i:Int):=⟨_,rfl⟩
  have hxi: -8+((i+1:Nat):Int)=x+1:=ge;have hxi2: -8+((i:Int)+1)=x+1:=ge;have hs:=Ss i;rw [<- hx] at hs ⊢;refine J0 ?_;refine zg4 (λ hi2=> ?_) (λ hi2=> ?_)<;>simp at hi2
  ·have hO:=zdn x ge;have hz:=Vx x;have c1:=hLq (E8 x) f ge hf;have c2:=hLq f (E8 x) hf ge;rw [bS,bS,hff] at c1 c2;rw [bS] at hO;rw [Mo] at hs;have hx1:x<=8:=ge;have hx2: -8<=x:=ge;cases h1:leq (E8 x) f
   ·rw [h1] at c1 hs;cases h2:leq f (E8 x)
    ·rw [h2] at c2 hs;refine J2 hx1 hx2 ?_;refine aP hO ?_;refine J2 hx1 hx2 ?_;refine aP c1 ?_;refine J2 hx1 hx2 ?_;refine aP c2 ?_;refine J2 hx1 hx2 ?_;refine zg3 (hrec (d - 1) ge (i+1) ge) ?_ gt;simp [go_sem,aj,hs,hxi,hxi2]
    ·rw [h2] at c2 hs;refine J2 hx1 hx2 ?_;refine aP hO ?_;refine J2 hx1 hx2 ?_;refine aP c1 ?_;refine J2 hx1 hx2 ?_;refine aP c2 ?_;refine J2 hx1 hx2 ?_;refine zg3 (hrec (d - 1) ge (i+1) ge) ?_ gt;simp [go_sem,aj,hs,hxi,hxi2]
   ·rw [h1] at c1 hs;cases h2:leq f (E8 x)
    ·rw [h2] at c2 hs;refine J2 hx1 hx2 ?_;refine aP hO ?_;refine J2 hx1 hx2 ?_;refine aP c1 ?_;refine J2 hx1 hx2 ?_;refine aP c2 ?_;refine J2 hx1 hx2 ?_;refine zg3 (hrec (d - 1) ge (i+1) ge) ?_ gt;simp [go_sem,aj,hs,hxi,hxi2]
    ·rw [h2] at c2 hs;refine J2 hx1 hx2 ?_;refine aP hO ?_;refine J2 hx1 hx2 ?_;refine aP c1 ?_;refine J2 hx1 hx2 ?_;refine aP c2 ?_;refine J2 hx1 hx2 ?_;refine zg3 (hrec (d - 1) ge (i+1) ge) ?_ gt;simp [go_sem,aj,hs,hxi,hxi2]
  ·obtain rfl:i=17:=by omega
   exact K0
 ·omega
 ·skip
  simp [go_sem,aj,S0]
 ·simp
end Go.Av
end
section
open Go Go.Proofs
namespace Go.Av
open af
theorem Lj (g:ae) (p:aa) (hfp:bH p) (f:af) (r:Int) (hT:aq Tryz.prog 48 [.agg (ai g), .agg (ak p)] (.tup [.agg (ce f), .int 0]))
  (hW:aq Tryz.prog 31 [bS f, .int p.side] (.int r)):
  aq Tryz.prog 56 [.agg (ai g), .agg (ak p)] (.tup [.int r, .int 0]):=by
 have hegl:(ai g).length=9:=rfl;have hegb:∀n,(∀c ∈ ai g,aN n c)=True:=λ n=>no;rw [aH] at hT;rw [bS,aH] at hW;refine pF Tryz.func56 ?_;refine J0 ?_;refine aP hT ?_;refine J0 ?_;refine aP hW ?_;exact K0
theorem EX (g:ae) (p:aa) (hfp:bH p) (hT:aq Tryz.prog 48 [.agg (ai g), .agg (ak p)] (.tup [.agg [.lst 2 [], .lst 2 []], .int 230])):
  aq Tryz.prog 56 [.agg (ai g), .agg (ak p)] (.tup [.int 0, .int 230]):=by
 have hegl:(ai g).length=9:=rfl;have hegb:∀n,(∀c ∈ ai g,aN n c)=True:=λ n=>no;refine pF Tryz.func56 ?_;refine J0 ?_;refine aP hT ?_;exact K0
theorem Ql (g:ae) (p:aa) (hfp:bH p) (e:Int) (he:e≠0) (hT:aq Tryz.prog 48 [.agg (ai g), .agg (ak p)] (.tup [.agg [.lst 2 [], .lst 2 []], .int e])):
  aq Tryz.prog 60 [.agg (ai g), .agg (ak p)] (.tup [.agg [.int 0, .int 0], .int e]):=by
 have hegl:(ai g).length=9:=rfl;have hegb:∀n,(∀c ∈ ai g,aN n c)=True:=λ n=>no;refine pF Tryz.func60 ?_;refine J0 ?_;refine aP hT ?_;exact K1 he
end Go.Av
end
section
open Go Go.Proofs
namespace Go.Av
theorem wq (o:Nat) (x:Option cB) (h:au):aB [(o,x)] h=aC h o x:=rfl
theorem zho {P:Program}{n:Nat}{ops:List Oper}{Q:c7}{m i:Nat}{rest:List Oper}{e:dg}{h:au}{acc:List jf}{dst:Option Tmp}{f:FuncId}{first caps args:List AV} (rs:List Nat) (wr:List (Nat×Option cB)) (R:AV)
  (hcall:∀ (h₁:au) (n₁:Nat),(∀o ∈ rs,h o=h₁ o)->(∀o ∈ rs,o<n₁)->∀K:cI,K R (aB wr h₁) n₁->ap P f (first++args++caps) h₁ n₁ K)
  (hS:∀o ∈ rs,∃x,h o=some x) (hw:∀p ∈ wr,p.1 ∈ rs∧∃g sz rws,p.2=some (.rows true g sz rws)∧∀r ∈ rws,∀c ∈ r,aN 0 c) (hR:qM rs R)
  (hk:tY P n ops Q m (i+1) rest (put e dst R) (aB wr h) (acc++ [(rs,wr.map (·.1))])):cX P n ops Q m i rest dst (.fn (.func f) first caps) args e h acc:=
 ⟨R,rs,wr, .inr (.inr (.inl ⟨f,first,caps,rfl,hS,hw, .inr (.inl hR),λ h₁ n₁ hx hn=>hcall h₁ n₁ hx hn _ ⟨rfl,rfl,rfl⟩⟩)),hk⟩
end Go.Av
end
section
open Go Go.Proofs
namespace Go.Av
open af
theorem S7 (a l r:Nat) (t:List aa) (gl gr nl nr:Nat) (x:Value):qM [a,l,r] (.tup [.agg (w7 a l r t gl gr nl nr), .v x]):=by
 refine .tup λ c hc=> ?_;simp only [List.mem_cons,List.not_mem_nil,or_false] at hc;rcases hc with rfl|rfl
 ·refine .agg λ c hc=> ?_;simp only [w7,List.mem_cons,List.not_mem_nil,or_false] at hc;rcases hc with rfl|rfl|rfl|rfl
  ·exact .sl gt
  ·exact .sl gt
  ·exact .sl gt
  ·exact .v _
 ·exact .v _
theorem Eh (p0:aa) (t:List aa) (hP:t.length<=1048576) (hf:∀q ∈ lp p0 t,bH q) (Lr Rr:List (List AV)) (gl gr nl nr:Nat) (hL:∀r ∈ Lr,∀c ∈ r,aN 0 c) (hR:∀r ∈ Rr,∀c ∈ r,aN 0 c) (p:aa) (hp:bH p) (t':List aa) (ht:oR p0 t (bv p 0)=t')
  {h:au} {n:Nat} {K:cI} (a l r:Nat) (hd:a≠l∧a≠r∧l≠r) (hn:a<n∧l<n∧r<n) (ha:h a=some (.rows true t.length 5 ((lp p0 t).map ak))) (hl:h l=some (.rows true gl 1 Lr)) (hr:h r=some (.rows true gr 1 Rr))
  (hk:K (.tup [.agg (w7 a l r t' gl gr nl nr), .int (dZ (lp p0 t') (bv p 0))]) (aC h a (some (.rows true t'.length 5 ((lp p0 t').map ak)))) n):
  ap Tryz.prog 78 [.agg (w7 a l r t gl gr nl nr), .agg (ak p)] h n K:=by
 have r0:kF [a,l,r] n 0=a:=rfl;have r1:kF [a,l,r] n 1=l:=rfl;have r2:kF [a,l,r] n 2=r:=rfl;have bP:∀l:List aa,∀r ∈ l.map ak,∀c ∈ r,aN 0 c:=λ l=>of_eq_true no;have bq:∀n,∀c ∈ ak p,aN n c:=λ n=>no;refine zhf (R:= .tup [.agg (w7 a l r t' gl gr nl nr), .int (dZ (lp p0 t') (bv p 0))]) (args':= [.agg (w7 a l r t gl gr nl nr), .agg (ak p)]) (HH:= [(a, .rows true t'.length 5 ((lp p0 t').map ak)),(l, .rows true gl 1 Lr),(r, .rows true gr 1 Rr)]) [a,l,r] h
  (Oq p0 t hP hf Lr Rr gl gr nl nr hL hR p hp t' ht) pi pi rfl (Nat.le_refl _) (.refl _) ?_ ?_ (.refl _ _ _ _) ?_ ?_ ?_ ?_ ?_ ?_
 ·intro j hj;have:j=0∨j=1∨j=2:=ge;rcases this with rfl|rfl|rfl
  ·exact ⟨_, _,rfl,pi, .rows (.same (bP _))⟩
  ·exact ⟨_, _,rfl,pi, .rows (.same hL)⟩
  ·exact ⟨_, _,rfl,pi, .rows (.same hR)⟩
 ·intro x hx;simp only [List.mem_cons,List.not_mem_nil,or_false] at hx;rcases hx with rfl|rfl|rfl
  ·exact ⟨gt,λ r hr c hc=>(bP _ r hr c hc).mono (Nat.zero_le _)⟩
  ·exact ⟨gt,λ r hr c hc=>(hL r hr c hc).mono (Nat.zero_le _)⟩
  ·exact ⟨gt,λ r hr c hc=>(hR r hr c hc).mono (Nat.zero_le _)⟩
 ·intro c hc;simp only [List.mem_cons,List.not_mem_nil,or_false] at hc;rcases hc with rfl|rfl
  ·simp [go_sem,w7,hn.1,hn.2.1,hn.2.2]
  ·exact .agg (bq _)
 ·exact .cons (.agg (.cons (.sl r0.symm) (.cons (.sl r1.symm) (.cons (.sl r2.symm) (.cons (.same (.v _)) .nil))))) (.cons (.same (.agg (bq _))) .nil)
 ·intro c hc;simp only [List.mem_cons,List.not_mem_nil,or_false] at hc;rcases hc with rfl|rfl
  ·simp [go_sem,w7]
  ·exact .agg (bq _)
 ·exact .tup (.cons (.agg (.cons (.sl r0.symm) (.cons (.sl r1.symm) (.cons (.sl r2.symm) (.cons (.same (.v _)) .nil))))) (.cons (.same (.v _)) .nil))
 ·exact .cons r0.symm (.rows (.same (bP _))) (.cons r1.symm (.rows (.same hL)) (.cons r2.symm (.rows (.same hR)) .nil))
 ·have e:dL [(a, .rows true t'.length 5 ((lp p0 t').map ak)),(l, .rows true gl 1 Lr),(r, .rows true gr 1 Rr)] (iZ [a,l,r] h)=aC h a (some (.rows true t'.length 5 ((lp p0 t').map ak))):=by
   funext x;by_cases x0:x=a
   ·simp_all [dL,aC]
   ·by_cases x1:x=l;all_goals simp_all [dL,iZ,aC]
  grind
theorem If {l:List aa}{i:Nat} (hi:i<l.length):l.take (i+1)=l.take i++ [ac l i]:=by
 grind [List.take_append_getElem,ac]
theorem zev (q:aa) (t:List aa) (os:List aa):∃ (T:Nat->List aa) (N:Nat->List Nat),T 0=t∧N 0= []∧(∀j,j<os.length->T (j+1)=oR q (T j) (ac os j)∧N (j+1)=N j++ [dZ (lp q (T (j+1))) (ac os j)])∧
  (∀j,j<=os.length->(N j).length=j)∧lp q (T os.length)=os.foldl dV (lp q t)∧N os.length=(Fg (lp q t) os).2∧(∀j,(T j).length<=t.length+j)∧(∀j,t.length<=(T j).length)∧∀j,∀x ∈ lp q (T j),x ∈ lp q t∨x ∈ os:=by
 obtain ⟨S,hS⟩:∃S:Nat->List aa×List Nat,∀j,S j=(os.take j).foldl (λ s q=>(dV s.1 q,s.2++ [dZ (dV s.1 q) q])) (lp q t, []):=⟨_,λ _=>rfl⟩
 have hS1:∀j,(S j).1=lp q ((os.take j).foldl (oR q) t):=λ j=>by
  rw [hS,DA _ _ _ [],<- yf]
 have hSs:∀j,j<os.length->S (j+1)=(dV (S j).1 (ac os j),(S j).2++ [dZ (dV (S j).1 (ac os j)) (ac os j)]):=λ j hj=>by
  grind [If]
 have hTs:∀j,j<os.length->(os.take (j+1)).foldl (oR q) t=oR q ((os.take j).foldl (oR q) t) (ac os j):=λ j hj=>GV q t os hj;refine ⟨λ j=>(os.take j).foldl (oR q) t,λ j=>(S j).2,rfl,pi,λ j hj=>⟨hTs j hj, ?_⟩,λ j hj=> ?_, ?_, ?_,λ j=> ?_,λ j=>AK q _ t,λ j x hx=> ?_⟩
 ·grind
 ·induction j<;>grind
 all_goals grind [yf,Dl,vG,Fg]
def A9:Option (List aa×List (List Nat)×List (List Nat))->AV
 |none=> .agg [.lst 5 [], .lst 1 [], .lst 1 [], .bool true]
 |some (P,L,R)=> .agg [aO P,aG L,aG R, .bool false]
theorem vd (g:ae) (hg:bN g) (p:aa) (hp:bw g p) (limit:Nat) (hl:1<=limit∧limit<=4000):aq Tryz.prog 39 [.agg (ai g), .agg (ak p), .int limit] (A9 (b9 g limit 4002 0 [bv p 0] [] [])):=by
 have hT:aq Tryz.prog 30 [.agg (ak p), .int 0] (.agg (ak (bv p 0))):=lq p (hp.fits hg) 0;have hq0:=bX hp (s:=0) (.inl rfl);obtain ⟨q,hq⟩:∃q,q=bv p 0:=⟨_,rfl⟩
 rw [<- hq] at hT hq0 ⊢;clear hq;have hegl:(ai g).length=9:=rfl;have hegb:∀n,(∀c ∈ ai g,aN n c)=True:=λ n=>no;obtain ⟨R,hR⟩:∃R,R=b9 g limit 4002 0 [q] [] []:=⟨_,rfl⟩
 rw [<- hR];refine pF Tryz.func39 ?_;refine J0 ?_;refine aF Tryz.func78 ?_;refine J0 ?_;refine aP hT ?_;refine J0 ?_;refine zg6 ?_;refine J0 ?_;refine zg3 (zg5 (α:=Nat×List aa×List (List Nat)×List (List Nat)) (λ a=>⟨[(2, .int limit),(3, .ref 0 0 9 0 0),(6, .ref 2 0 4 0 0),(7, .ref 16 0 4 0 0),(8, .int a.1)],
   [(0, .rows true 0 9 [ai g]),(2, .rows true 0 4 [[AV.nils,AV.nils,AV.nils, .bool false]]),(8, .rows true a.2.1.length 5 ((lp q a.2.1).map ak)),(16, .rows true 0 4 [w7 8 17 18 a.2.1 a.1 a.1 a.1 a.1]),(17, .rows true a.1 1 (a.2.2.1.map cC)),(18, .rows true a.1 1 (a.2.2.2.map cC))],19⟩)
  (λ d a=>a.1+d=4002∧a.2.1.length<=3999∧a.1<=a.2.1.length+1∧a.2.2.1.length=a.1∧a.2.2.2.length=a.1∧(∀x ∈ lp q a.2.1,bw g x)∧R=b9 g limit d a.1 (lp q a.2.1) a.2.2.1 a.2.2.2) ?_ 4002 (0, [], [], []) ?_) ?_ ?_
 rotate_left
 ·grind [lp]
 ·simp [go_sem,aj,RH,w7]
 ·simp
 rintro d ⟨k,t,Ls,Rs⟩ ⟨i1,i2,i3,i4,i5,i6,i7⟩ hrec;simp only at i1 i2 i3 i4 i5 i6 i7;obtain ⟨d,rfl⟩:∃d',d=d'+1:=⟨d - 1,ge⟩
 have hlp:=nX q t;rw [b9] at i7;repeat first|refine wV λ _=>?_|simp [go_sem,hlp,w7]
 refine zg4 (λ hk=> ?_) (λ hk=> ?_)<;>simp at hk
 ·have hkl:k<(lp q t).length:=by omega
  rw [if_pos hkl] at i7;have hp0:=i6 _ (am hkl);have hnk:ac ((lp q t).map ak) k=ak (ac (lp q t) k):=aJ _ _ _ hkl;generalize hn:ac (lp q t) k=pk at *;have hT0:aq Tryz.prog 30 [.agg (ak pk), .int 0] (.agg (ak (bv pk 0))):=lq pk (hp0.fits hg) 0;have hT1:aq Tryz.prog 30 [.agg (ak pk), .int 1] (.agg (ak (bv pk 1))):=lq pk (hp0.fits hg) 1;have hk0:=bX hp0 (s:=0) (.inl rfl);have hk1:=bX hp0 (s:=1) (.inr rfl);have hM0:=fk g hg _ hk0;have hM1:=fk g hg _ hk1;have hml0:=cG hg hk0;have hml1:=cG hg hk1;have hmo:=λ m hm=>((bD hg hk0 m hm).1).fits hg;have hmp:=λ m hm=>((bD hg hk1 m hm).1).fits hg;have ho0:∀x ∈ bV g pk 0,bw g x:=λ x hx=>by
   obtain ⟨y,hy,rfl⟩:=List.mem_map.1 hx;grind [bX,bD,ak]
  have ho1:∀x ∈ bV g pk 1,bw g x:=λ x hx=>by
   obtain ⟨y,hy,rfl⟩:=List.mem_map.1 hx;grind [bX,bD,ak]
  obtain ⟨os,hos⟩:∃os,os=bV g pk 0:=⟨_,rfl⟩
  obtain ⟨ot,hot⟩:∃ot,ot=bV g pk 1:=⟨_,rfl⟩
  have hosl:os.length=(an g (bv pk 0)).length:=by grind [bV]
  have hotl:ot.length=(an g (bv pk 1)).length:=by grind [bV]
  rw [<- hos,<- hot] at i7;rw [<- hos] at ho0;rw [<- hot] at ho1;obtain ⟨T,N,T0,N0,Ts,Nl,Te,Ne,Tb,Tg,To⟩:=zev q t os;rw [<- Te,<- Ne] at i7;obtain ⟨t1,ht1⟩:∃t1,t1=T os.length:=⟨_,rfl⟩
  rw [<- ht1] at i7;have hnt1:ac (lp q t1) k=pk:=by
   obtain ⟨r,hr⟩:=kU os (lp q t);grind [ac]
  obtain ⟨U,M,U0,M0,Us,Ml,Ue,Me,Ub,Ug,Uo⟩:=zev q t1 ot;rw [<- Ue,<- Me] at i7;have hTp:∀j,∀x ∈ lp q (T j),bw g x:=λ j x hx=>(To j x hx).elim (i6 x) (ho0 x);have hUp:∀j,∀x ∈ lp q (U j),bw g x:=λ j x hx=>(Uo j x hx).elim (λ h=>hTp os.length x (ht1▸h)) (ho1 x);have Tf:∀j,∀x ∈ lp q (T j),bH x:=λ j x hx=>(hTp j x hx).fits hg;have Uf:∀j,∀x ∈ lp q (U j),bH x:=λ j x hx=>(hUp j x hx).fits hg;have ht1l:t1.length<=3999+472446:=pi;generalize hmv:an g (bv pk 0)=mv at *;generalize hmw:an g (bv pk 1)=mw at *;replace Tb:∀j,j<=mv.length->(T j).length<=1048576:=λ j hj=>pi;replace Ub:∀j,j<=mw.length->(U j).length<=1048576:=λ j hj=>pi;rw [hosl,hotl] at i7;rw [hosl] at ht1;clear hk0 hk1 hp0;repeat first|refine wV λ _=>?_|simp [go_sem,hlp,hnk,w7]
  refine zg6 ?_;repeat first|refine wV λ _=>?_|simp [go_sem,hlp,hkl,hnk,w7]
  refine dP hT0 ?_;refine J1 hlp ?_;refine dP hM0 ?_;refine J1 hlp ?_;refine zg3 (zg5 (α:=Nat) (λ j=>⟨[(2, .int limit),(3, .ref 0 0 9 0 0),(6, .ref 2 0 4 0 0),(7, .ref 16 0 4 0 0),(8, .int k),(9, .ref 19 0 2 0 0),(10, .int 0),(11,aO mv),(12, .int j)], [(0, .rows true 0 9 [ai g]),(2, .rows true 0 4 [[AV.nils,AV.nils,AV.nils, .bool false]]),(8, .rows true (T j).length 5 ((lp q (T j)).map ak)),(16, .rows true 0 4 [w7 8 17 18 (T j) k k k k]),(17, .rows true k 1 (Ls.map cC)),(18, .rows true k 1 (Rs.map cC)),(19, .rows true 0 2 [[.sl 30 j 1 0 j,AV.nils]]),(30, .rows true j 1 ((N j).map bu))],31⟩)
   (λ d j=>j+d=mv.length) ?_ mv.length 0 ?_) ?_ ?_
  ·rintro d3 j j1 hrec3;have hlj:=nX q (T j);have hnj:=Nl j ge;repeat first|refine wV λ _=>?_|simp [go_sem,hlj,hnj,w7]
   refine zg4 (λ hj=> ?_) (λ hj=> ?_)<;>simp at hj
   ·have hj2:j<os.length:=by omega
    have hj3:j<mv.length:=ge;have hno:bv (ac mv j) 0=ac os j:=Yf;have hst:=(Ts j hj2).1;have hsn:=(Ts j hj2).2;repeat first|refine wV λ _=>?_|simp [go_sem,hj3,hlj,hnj,w7]
    refine zho [8,17,18] [(8,some (.rows true (T (j+1)).length 5 ((lp q (T (j+1))).map ak)))] (.tup [.agg (w7 8 17 18 (T (j+1)) k k k k), .int (dZ (lp q (T (j+1))) (bv (ac mv j) 0))])
     (λ h₁ n₁ hx hn K hK=>Eh q (T j) (Tb j ge) (Tf j) (Ls.map cC) (Rs.map cC) k k k k (of_eq_true (ob _ _)) (of_eq_true (ob _ _)) (ac mv j) (hmo _ (am hj3)) (T (j+1)) (by rw [hno,hst]) 8 17 18 Wm ⟨hn 8 gt,hn 17 gt,hn 18 gt⟩ ((hx 8 gt).symm.trans rfl) ((hx 17 gt).symm.trans rfl) ((hx 18 gt).symm.trans rfl) (by exact hK)) ?_ ?_ ?_ ?_
    ·intro o ho;simp only [List.mem_cons,List.not_mem_nil,or_false] at ho;rcases ho with rfl|rfl|rfl<;>exact ⟨_,rfl⟩
    ·intro x hx;simp only [List.mem_singleton] at hx;subst hx;exact ⟨gt, _, _, _,rfl,of_eq_true no⟩
    ·exact S7 _ _ _ _ _ _ _ _ _
    rw [wq];rw [hno];repeat first|refine wV λ _=>?_|simp [go_sem,hnj,w7]
    refine zg3 (hrec3 (d3 - 1) ge (j+1) ge) ?_ gt;simp [go_sem,aj,hsn,bu,w7]
   ·obtain rfl:j=mv.length:=by omega
    have hl1:=nX q t1;have hn0l:=Nl mv.length ge;rw [<- ht1];generalize N mv.length=n0 at *;repeat first|refine wV λ _=>?_|simp [go_sem,hl1,hn0l,w7]
    refine zg6 ?_;have hkl1:k<(lp q t1).length:=by have:=Tg mv.length;rw [<- ht1] at this;omega
    have hkl2:k<t1.length+1:=ge;have hnk1:ac ((lp q t1).map ak) k=ak pk:=by rw [aJ _ _ _ hkl1,hnt1]
    repeat first|refine wV λ _=>?_|simp [go_sem,hl1,hn0l,hkl1,hkl2,hnk1,w7]
    refine dP hT1 ?_;refine J2 hl1 hn0l ?_;refine dP hM1 ?_;refine J2 hl1 hn0l ?_;refine zg3 (zg5 (α:=Nat) (λ j=>⟨[(2, .int limit),(3, .ref 0 0 9 0 0),(6, .ref 2 0 4 0 0),(7, .ref 16 0 4 0 0),(8, .int k),(9, .ref 19 0 2 0 0),(10, .int 1),(11,aO mw),(12, .int j)], [(0, .rows true 0 9 [ai g]),(2, .rows true 0 4 [[AV.nils,AV.nils,AV.nils, .bool false]]),(8, .rows true (U j).length 5 ((lp q (U j)).map ak)),(16, .rows true 0 4 [w7 8 17 18 (U j) k k k k]),(17, .rows true k 1 (Ls.map cC)),(18, .rows true k 1 (Rs.map cC)),(19, .rows true 0 2 [[.sl 30 mv.length 1 0 mv.length, .sl 41 j 1 0 j]]),(30, .rows true mv.length 1 (n0.map bu)),(41, .rows true j 1 ((M j).map bu))],42⟩)
     (λ d j=>j+d=mw.length) ?_ mw.length 0 ?_) ?_ ?_
    ·rintro d3 j j1 hrec3;have hlj:=nX q (U j);have hnj:=Ml j ge;repeat first|refine wV λ _=>?_|simp [go_sem,hlj,hnj,w7,hn0l]
     refine zg4 (λ hj=> ?_) (λ hj=> ?_)<;>simp at hj
     ·have hj2:j<ot.length:=by omega
      have hj3:j<mw.length:=ge;have hno:bv (ac mw j) 0=ac ot j:=Yg;have hst:=(Us j hj2).1;have hsn:=(Us j hj2).2;repeat first|refine wV λ _=>?_|simp [go_sem,hj3,hlj,hnj,w7,hn0l]
      refine zho [8,17,18] [(8,some (.rows true (U (j+1)).length 5 ((lp q (U (j+1))).map ak)))] (.tup [.agg (w7 8 17 18 (U (j+1)) k k k k), .int (dZ (lp q (U (j+1))) (bv (ac mw j) 0))])
       (λ h₁ n₁ hx hn K hK=>Eh q (U j) (Ub j ge) (Uf j) (Ls.map cC) (Rs.map cC) k k k k (of_eq_true (ob _ _)) (of_eq_true (ob _ _)) (ac mw j) (hmp _ (am hj3)) (U (j+1)) (by rw [hno,hst]) 8 17 18 Wm ⟨hn 8 gt,hn 17 gt,hn 18 gt⟩ ((hx 8 gt).symm.trans rfl) ((hx 17 gt).symm.trans rfl) ((hx 18 gt).symm.trans rfl) (by exact hK)) ?_ ?_ ?_ ?_
      ·intro o ho;simp only [List.mem_cons,List.not_mem_nil,or_false] at ho;rcases ho with rfl|rfl|rfl<;>exact ⟨_,rfl⟩
      ·intro x hx;simp only [List.mem_singleton] at hx;subst hx;exact ⟨gt, _, _, _,rfl,of_eq_true no⟩
      ·exact S7 _ _ _ _ _ _ _ _ _
      rw [wq];rw [hno];repeat first|refine wV λ _=>?_|simp [go_sem,hnj,w7,hn0l]
      refine zg3 (hrec3 (d3 - 1) ge (j+1) ge) ?_ gt;simp [go_sem,aj,hsn,bu,w7,hn0l]
     ·obtain rfl:j=mw.length:=by omega
      have hup:=hUp mw.length;have hug:=Ug mw.length;have hm0l:=Ml mw.length ge;generalize U mw.length=t2 at *;generalize M mw.length=m0 at *;have hl2:=nX q t2;repeat first|refine wV λ _=>?_|simp [go_sem,hl2,hn0l,hm0l,w7]
      refine zg6 ?_;repeat first|refine wV λ _=>?_|simp [go_sem,hl2,hn0l,hm0l,w7]
      refine zg4 (λ hbig=> ?_) (λ hbig=> ?_)<;>simp at hbig
      ·rw [if_pos ge] at i7;rw [i7,A9];exact K0
      ·rw [if_neg ge] at i7;refine J1 hl2 ?_;refine zg3 (hrec d ge (k+1,t2,Ls++ [n0],Rs++ [m0]) ⟨ge,WA,WA,by simp [i4],by simp [i5],hup,i7⟩) ?_ gt;simp [go_sem,aj,w7,cC,aX];refine ⟨bJ (.refl _) (.cons (.cons (aI rfl (by simp [hn0l]) Ym (List.take_of_length_le (by simp [hn0l]))) .nil) .nil),bJ (.refl _) (.cons (.cons (aI rfl (by simp [hm0l]) Ym (List.take_of_length_le (by simp [hm0l]))) .nil) .nil)⟩
    ·omega
    ·simp [go_sem,aj,U0,M0,w7,hn0l]
    ·simp
  ·omega
  ·simp [go_sem,aj,T0,N0,w7]
  ·simp
 ·have hkl:¬k<(lp q t).length:=by omega
  rw [if_neg hkl] at i7;obtain rfl:k=t.length+1:=ge;rw [i7,A9];repeat first|refine wV λ _=>?_|simp [go_sem,hlp,w7]
  refine ⟨aI rfl (by simp [hlp]) Ws ?_,aI rfl (by simp [i4]) Ws ?_,aI rfl (by simp [i5]) Ws ?_⟩
  ·grind [List.take_of_length_le]
  all_goals grind [List.take_of_length_le]
end Go.Av
end
section
open Go Go.Proofs
namespace Go.Av
open af
theorem zbQ {p:aa->Bool}:∀ {l:List aa}{j:Nat},j<l.length->(∀i,i<j->p (ac l i)=false)->p (ac l j)=true->l.find? p=some (ac l j)
 |x::l,0, _, _,h=>Wx
 |x::l,j+1,hj,hn,h=>by
  have h0:=hn 0 ge;rw [fW] at h0;rw [List.find?_cons,h0];exact zbQ (by simpa using hj) (λ i hi=>by have:=hn (i+1) ge;rwa [dv] at this) h
theorem zbR {p:aa->Bool}:∀ {l:List aa},(∀i,i<l.length->p (ac l i)=false)->l.find? p=none
 | [], _=>rfl
 |x::l,hn=>by
  have h0:=hn 0 gt;rw [fW] at h0;rw [List.find?_cons,h0];exact zbR λ i hi=>by have:=hn (i+1) Wv;rwa [dv] at this
end Go.Av
end
section
open Go Go.Proofs
namespace Go.Av
open af
theorem Ke (l:List Int) (n:Int):gi l n<l.length:=by
 grind [gi,List.findIdx?_eq_some_iff_getElem]
def NJ (ms:List aa) (W E:aa->Int) (side:Int):AV:=
 match ms.find? λ q=>decide (E q≠0) with
 |some q=> .tup [.agg [.lst 1 [], .lst 1 [], .lst 1 [], .int 0, .int 0], .int (E q)]
 |none=>
  if 0<=gi (ms.map W) side then .tup [.agg (ak (ac ms (gi (ms.map W) side).toNat)), .int 0]
  else if 0<=gi (ms.map W) 2 then .tup [.agg (ak (ac ms (gi (ms.map W) 2).toNat)), .int 0]
  else .tup [.agg [.lst 1 [], .lst 1 [], .lst 1 [], .int 0, .int 0], .int 270]
theorem P1 (g:ae) (hg:bN g) (p:aa) (hp:bw g p) (W E:aa->Int) (hN:aq Tryz.prog 86 [.agg (ai g)] (.bool true))
  (hW:∀q ∈ an g p,aq Tryz.prog 56 [.agg (ai g), .agg (ak q)] (.tup [.int (W q), .int (E q)])):
  aq Tryz.prog 55 [.agg (ai g), .agg (ak p)] (NJ (an g p) W E p.side):=by
 have hegl:(ai g).length=9:=rfl;have hegb:∀n,(∀c ∈ ai g,aN n c)=True:=λ n=>no;have hM:=pQ g hg p hp;have hml:=cG hg hp;generalize an g p=ms at *;obtain ⟨A,a0,a1,a2,a3⟩:∃A:Nat->List Int,A 0= []∧(∀i,i<ms.length->A (i+1)=A i++ [W (ac ms i)])∧(∀i,i<=ms.length->(A i).length=i)∧A ms.length=ms.map W:=by
  refine ⟨λ i=>(ms.take i).map W,rfl,λ i hi=> ?_,λ i hi=>pi,pi⟩;grind [If]
 refine pF Tryz.func55 ?_;refine J0 ?_;refine aP hN ?_;refine J0 ?_;refine aP hM ?_;refine J0 ?_;refine zg3 (zg5 (α:=Nat) (λ i=>⟨[(2, .ref 0 0 9 0 0),(3, .ref 1 0 5 0 0),(4, .ref 2 0 5 0 0),(6,aO ms),(7, .sl 3 i 1 0 i),(22,aO ms),(23, .int ms.length),(24, .int i)], [(0, .rows true 0 9 [ai g]),(1, .rows true 0 5 [ak p]),(2, .rows true 0 5 [[AV.nils,AV.nils,AV.nils, .int 0, .int 0]]),(3, .rows true i 1 ((A i).map dR))],4⟩)
  (λ d i=>i+d=ms.length∧∀j,j<i->E (ac ms j)=0) ?_ ms.length 0 ?_) ?_ ?_
 ·rintro d i ⟨i1,i2⟩ hrec;have hal:=a2 i ge;refine J1 hal ?_;refine zg4 (λ hi=> ?_) (λ hi=> ?_)<;>simp at hi
  ·have hi':i<ms.length:=by omega
   have hC:=hW _ (am hi');have hnq:ac (ms.map ak) i=ak (ac ms i):=aJ _ _ _ hi';have hA:=a1 i hi';refine J3 hi' hnq hal ?_;refine aP hC ?_;refine J1 hal ?_;refine zg4 (λ he=> ?_) (λ he=> ?_)<;>simp at he
   ·have hf:ms.find? (λ q=>decide (E q≠0))=some (ac ms i):=zbQ hi' (λ j hj=>by grind) pi;rw [NJ,hf];exact K1 hal
   ·have he0:E (ac ms i)=0:=by omega
    refine J1 hal ?_;refine zg3 (hrec (d - 1) ge (i+1) ⟨ge,λ j hj=> ?_⟩) ?_ gt
    ·grind
    ·simp [go_sem,aj,hA]
  ·obtain rfl:i=ms.length:=by omega
   have hf:ms.find? (λ q=>decide (E q≠0))=none:=zbR λ j hj=>pi;rw [NJ,hf];have hI1:=Am (A ms.length) p.side ge;have hI2:=Am (A ms.length) 2 ge;have hr1:=Ke (ms.map W) p.side;have hr2:=Ke (ms.map W) 2;rw [List.length_map] at hr1 hr2;rw [<- a3] at *;generalize A ms.length=As at *;generalize gi As p.side=x1 at *;generalize gi As 2=x2 at *;refine J1 hal ?_;refine zg6 ?_;refine J1 hal ?_;refine zhi hI1 (.v _) (.cons (aI rfl (by simp [hal]) Ws (List.take_of_length_le (by simp [hal]))) (.cons (.refl _) .nil)) no ?_;refine J1 hal ?_;refine zg4 (λ hx1=> ?_) (λ hx1=> ?_)<;>simp at hx1
   ·have hxl:x1.toNat<ms.length:=by omega
    have hnq:ac (ms.map ak) x1.toNat=ak (ac ms x1.toNat):=aJ _ _ _ hxl;rw [if_pos ge];exact K5 hxl hnq hal hr1 hx1
   ·rw [if_neg ge];refine J1 hal ?_;refine zg6 ?_;refine J1 hal ?_;refine zhi hI2 (.v _) (.cons (aI rfl (by simp [hal]) Ws (List.take_of_length_le (by simp [hal]))) (.cons (.refl _) .nil)) no ?_;refine J1 hal ?_;refine zg4 (λ hx2=> ?_) (λ hx2=> ?_)<;>simp at hx2
    ·have hxl:x2.toNat<ms.length:=by omega
     have hnq:ac (ms.map ak) x2.toNat=ak (ac ms x2.toNat):=aJ _ _ _ hxl;rw [if_pos ge];exact K5 hxl hnq hal hr2 hx2
    ·rw [if_neg ge];refine J1 hal ?_;refine zg6 ?_;exact K1 hal
 ·grind
 ·simp [go_sem,aj,a0]
 ·simp
end Go.Av
end
section
open Go Go.Proofs
namespace Go.Av
open af
theorem Iu (g:ae) (p:aa) (hfp:bH p) (hN:aq Tryz.prog 86 [.agg (ai g)] (.bool false)):
  aq Tryz.prog 55 [.agg (ai g), .agg (ak p)] (.tup [.agg [.lst 1 [], .lst 1 [], .lst 1 [], .int 0, .int 0], .int 230]):=by
 have hegl:(ai g).length=9:=rfl;have hegb:∀n,(∀c ∈ ai g,aN n c)=True:=λ n=>no;refine pF Tryz.func55 ?_;refine J0 ?_;refine aP hN ?_;exact K0
theorem Nj (g:ae) (p:aa) (hfp:bH p) (e e':Int) (he:e≠0∧e≠230) (he':e'≠0) (l:List aa) (hT:aq Tryz.prog 48 [.agg (ai g), .agg (ak p)] (.tup [.agg [.lst 2 [], .lst 2 []], .int e]))
  (hA:aq Tryz.prog 99 [.agg (ai g), .agg (ak p)] (.tup [aO l, .int e'])):
  aq Tryz.prog 56 [.agg (ai g), .agg (ak p)] (.tup [.int 0, .int e']):=by
 have hegl:(ai g).length=9:=rfl;have hegb:∀n,(∀c ∈ ai g,aN n c)=True:=λ n=>no;obtain ⟨h1,h2⟩:=he;refine pF Tryz.func56 ?_;refine J0 ?_;refine aP hT ?_;refine J2 h1 h2 ?_;refine aP hA ?_;exact K1 he'
end Go.Av
end
section
/- Plain: chapter 23: sum.back finds whether play comes back. -/
open Go Go.Proofs
namespace Go.Av
def lj (m:Nat->Nat) (i v:Nat):Nat->Nat:=λ j=>if j=i then v else m j
def kJ (visit:(Nat->Nat)->Nat->Bool×(Nat->Nat)):List Nat->(Nat->Nat)->Bool×(Nat->Nat)
 | [],m=>(false,m)
 |j::l,m=>if (visit m j).1=true then visit m j else kJ visit l (visit m j).2
def ij (nx:Nat->List Nat):Nat->(Nat->Nat)->Nat->Bool×(Nat->Nat)
 |0,m, _=>(false,m)
 |f+1,m,i=>if m i=1 then (true,m) else if m i=2 then (false,m) else
  if (kJ (ij nx f) (nx i) (lj m i 1)).1=true then kJ (ij nx f) (nx i) (lj m i 1)
  else (false,lj (kJ (ij nx f) (nx i) (lj m i 1)).2 i 2)
inductive zgn (nx:Nat->List Nat):Nat->Nat->Prop
 |one {i j:Nat} (h:j ∈ nx i):zgn nx i j
 |more {i j k:Nat} (h:zgn nx i j) (h':k ∈ nx j):zgn nx i k
def ur (n:Nat) (m:Nat->Nat):Nat:=(List.range n).countP λ i=>decide (m i=0)
variable {m:Nat->Nat} {i:Nat}
section
variable {nx:Nat->List Nat} {n:Nat} {Dp:Nat->Nat->Prop}
structure Al (nx:Nat->List Nat) (Dp:Nat->Nat->Prop):Prop where
 zero:∀i,¬Dp 0 i
 down:∀ {d i},Dp (d+1) i->∀j ∈ nx i,Dp d j
 up:∀ {d i},(∀j ∈ nx i,Dp d j)->Dp (d+1) i
theorem Al.mono (h:Al nx Dp):∀ {d i:Nat},Dp d i->Dp (d+1) i
 |0,i,hd=>absurd hd (h.zero i)
 |d+1,i,hd=>h.up λ j hj=>h.mono (h.down hd j hj)
theorem Al.le (h:Al nx Dp){d e:Nat} (hd:Dp d i) (hle:d<=e):Dp e i:=by
 obtain ⟨k,rfl⟩:=Nat.exists_eq_add_of_le hle;clear hle;induction k with
 |zero=>exact hd
 |succ k ih=>exact h.mono ih
theorem Al.rch (h:Al nx Dp){j:Nat} (hr:zgn nx i j):∀ {d:Nat},Dp d i->∃e,e<d∧Dp e j:=by
 induction hr with
 |one hj=>
  intro d hd;cases d with
  |zero=>exact absurd hd (h.zero _)
  |succ d=>exact ⟨d,ge,h.down hd _ hj⟩
 |more _ hk ih=>
  intro d hd;obtain ⟨e,he,h1⟩:=ih hd;cases e with
  |zero=>exact absurd h1 (h.zero _)
  |succ e=>exact ⟨e,ge,h.down h1 _ hk⟩
theorem Al.cyc (h:Al nx Dp) (hr:zgn nx i i):∀d,¬Dp d i:=by
 intro d;induction d using Nat.strongRecOn with
 |ind d ih=>
  intro hd;obtain ⟨e,he,h1⟩:=h.rch hr hd;grind
theorem JW {v:Nat} (hi:i<n) (h0:m i=0) (hv:v≠0):ur n (lj m i v)<ur n m:=by
 have key:∀l:List Nat,(∀j ∈ l,decide (lj m i v j=0)=true->decide (m j=0)=true):=λ l j _ hj=>by
  grind [lj]
 have:=af.countP_lt (m:=List.range n) (key _) ⟨i,List.mem_range.2 hi,decide_eq_true h0,decide_eq_false (by grind [lj])⟩;exact this
theorem GY {m':Nat->Nat} (h:∀j,m' j=0->m j=0):ur n m'<=ur n m:=List.countP_mono_left λ j _ hj=>decide_eq_true (h j (of_decide_eq_true hj))
structure Ud (nx:Nat->List Nat) (n:Nat) (Dp:Nat->Nat->Prop) (m m':Nat->Nat):Prop where
 opn:∀c,m' c=1↔m c=1
 cl:∀c,m c=2->m' c=2
 zr:∀c,m' c=0->m c=0
 dep:∀c,c<n->m' c=2->∃d,Dp d c
theorem TI (h:Al nx Dp):∀ {l:List Nat},(∀j ∈ l,∃d,Dp d j)->∃D,∀j ∈ l,Dp D j
 | [], _=>⟨0,λ j hj=>by cases hj⟩
 |a::l,hl=>by
  obtain ⟨D,hD⟩:=TI h λ j hj=>hl j (List.mem_cons.2 (.inr hj));obtain ⟨d,hd⟩:=hl a gt;refine ⟨max d D,λ j hj=> ?_⟩;rcases List.mem_cons.1 hj with rfl|hj
  ·exact h.le hd (Nat.le_max_left _ _)
  ·exact h.le (hD j hj) (Nat.le_max_right _ _)
theorem zbF (h:Al nx Dp) (hin:∀k,k<n->∀j ∈ nx k,j<n):∀ (f:Nat) (m:Nat->Nat) (i:Nat),i<n->ur n m<f->(∀c,c<n->m c=2->∃d,Dp d c)->(∀c,m c=0∨m c=1∨m c=2)->(∀c,m c=1->zgn nx c i)->
  ((ij nx f m i).1=false->Ud nx n Dp m (ij nx f m i).2∧(ij nx f m i).2 i=2∧∀c,(ij nx f m i).2 c=0∨(ij nx f m i).2 c=1∨(ij nx f m i).2 c=2)∧((ij nx f m i).1=true->∀d,¬Dp d i)
 |0,m,i,hi,hf, _, _, _=>ge
 |f+1,m,i,hi,hf,hcl,hm3,hop=>by
  rw [ij];by_cases h1:m i=1
  ·rw [if_pos h1];exact ⟨λ hx=>(by cases hx),λ _=>h.cyc (hop i h1)⟩
  rw [if_neg h1];by_cases h2:m i=2
  ·rw [if_pos h2];exact ⟨λ _=>⟨⟨λ _=>Iff.rfl,λ _ h=>h,λ _ h=>h,hcl⟩,h2,hm3⟩,λ hx=>(by cases hx)⟩
  rw [if_neg h2];have h0:m i=0:=pi;have hfr:=JW (n:=n) hi h0 (v:=1) Wm;have key:∀ (l:List Nat) (m1:Nat->Nat),(∀j ∈ l,j ∈ nx i)->Ud nx n Dp (lj m i 1) m1->(∀c,m1 c=0∨m1 c=1∨m1 c=2)->
    ((kJ (ij nx f) l m1).1=false->Ud nx n Dp (lj m i 1) (kJ (ij nx f) l m1).2∧(∀j ∈ l,(kJ (ij nx f) l m1).2 j=2)∧(∀c,m1 c=2->(kJ (ij nx f) l m1).2 c=2)∧∀c,(kJ (ij nx f) l m1).2 c=0∨(kJ (ij nx f) l m1).2 c=1∨(kJ (ij nx f) l m1).2 c=2)∧
    ((kJ (ij nx f) l m1).1=true->∃j ∈ l,∀d,¬Dp d j):=by
   intro l;induction l with
   |nil=>simp_all [kJ]
   |cons j l ih=>
    intro m1 hj hl h3;have hji:=hj j gt;have hjn:=hin i hi j hji;have hle:=GY (n:=n) hl.zr;obtain ⟨a1,a2⟩:=zbF h hin f m1 j hjn ge hl.dep h3 (λ c hc=>by
     have hc2:=(hl.opn c).1 hc;unfold lj at hc2;split at hc2
     ·rename_i e;rw [e];exact .one hji
     ·exact .more (hop c hc2) hji)
    rw [kJ];by_cases hv:(ij nx f m1 j).1=true
    ·grind
    ·rw [if_neg hv];obtain ⟨b1,b2,b3⟩:=a1 pi;have hl2:Ud nx n Dp (lj m i 1) (ij nx f m1 j).2:=⟨λ c=>(b1.opn c).trans (hl.opn c),λ c hc=>b1.cl c (hl.cl c hc),λ c hc=>hl.zr c (b1.zr c hc),b1.dep⟩
     obtain ⟨c1,c2⟩:=ih (ij nx f m1 j).2 (λ k hk=>hj k (List.mem_cons.2 (.inr hk))) hl2 b3;refine ⟨λ hx=> ?_,λ hx=> ?_⟩
     ·obtain ⟨d1,d2,d3,d4⟩:=c1 hx;refine ⟨d1,λ k hk=> ?_,λ c hc=>d3 c (b1.cl c hc),d4⟩;grind
     grind
  have hstart:Ud nx n Dp (lj m i 1) (lj m i 1):=⟨λ _=>Iff.rfl,λ _ h=>h,λ _ h=>h,λ c hc h2=>by
   grind [lj]⟩
  obtain ⟨k1,k2⟩:=key (nx i) (lj m i 1) (λ j hj=>hj) hstart (λ c=>by
   grind [lj])
  by_cases hv:(kJ (ij nx f) (nx i) (lj m i 1)).1=true
  ·refine ⟨λ hx=>pi,λ _ d hd=> ?_⟩;obtain ⟨j,hj,hn⟩:=k2 hv;cases d with
   |zero=>exact h.zero i hd
   |succ d=>exact hn d (h.down hd j hj)
  ·rw [if_neg hv];obtain ⟨d1,d2,d3,d4⟩:=k1 pi;have hdi:∃d,Dp d i:=by
    obtain ⟨D,hD⟩:=TI h (l:=nx i) λ j hj=>d1.dep j (hin i hi j hj) (d2 j hj);exact ⟨D+1,h.up hD⟩
   grind [lj,Ud]
theorem zdG (h:Al nx Dp) (hin:∀k,k<n->∀j ∈ nx k,j<n) (hi:i<n):(ij nx (n+1) (λ _=>0) i).1=true↔∀d,¬Dp d i:=by
 have hfr:ur n (λ _=>0)<n+1:=by
  grind [ur,List.length_range]
 obtain ⟨a1,a2⟩:=zbF h hin (n+1) (λ _=>0) i hi hfr (λ c _ hc=>(by cases hc)) (λ c=> .inl rfl) (λ c hc=>(by cases hc));refine Classical.byContradiction λ hf=> ?_;obtain ⟨b1,b2, _⟩:=a1 pi;obtain ⟨d,hd⟩:=b1.dep i hi b2;grind
end
end Go.Av
end
section
/- slices.IndexFunc, ContainsFunc of numbers, by a function that turns objects of ours. -/
open Go Go.Proofs
namespace Go.Av
section
variable {l:List Nat} {fid:FuncId} {first caps:List AV} {n:Nat} (hl:l.length<=68719476736) (H:Nat->au) (p:Nat->Bool) (k:Nat) (hk:k<=l.length) (hno:∀i,i<k->p i=false) (hyes:k<l.length->p k=true)
 (hcall:∀i,i<l.length->i<=k->∀K:cI,K (.bool (p i)) (H (i+1)) n->ap Tryz.prog fid (first++ .int (ac l i:Nat)::caps) (H i) n K)
include hl hk hno hyes hcall
theorem OD {K:cI} (hK:K (.int (if k<l.length then (k:Int) else -1)) (H (if k<l.length then k+1 else k)) n):ap Tryz.prog 192 [aX l, .fn (.func fid) first caps] (H 0) n K:=by
 refine aF Tryz.func192 ?_;repeat first|refine wV λ _=>?_|simp [go_sem,aX]
 refine (show ∀ (d j:Nat) (e:dg),j+d=l.length->j<=k->e 0=aX l->e 1= .fn (.func fid) first caps->e 7= .int l.length->e 8= .int j->ah _ _ _ e (H j) n from ?_) l.length 0 _ ge ge (by simp [aC,aX]) Wp Wp Wp;intro d;induction d with
 |zero=>
  intro j e hj hjk e0 e1 e7 e8;obtain rfl:j=k:=ge;obtain rfl:j=l.length:=ge;rw [if_neg ge,if_neg ge] at hK;refine zg6 ?_;repeat first|refine wV λ _=>?_|simp [go_sem,e0,e1,e7,e8,aX]
  exact hK
 |succ d ih=>
  intro j e hj hjk e0 e1 e7 e8;have hj':j<l.length:=ge;have en:ac (l.map bu) j= [.int (ac l j:Nat)]:=aJ _ _ _ hj';refine zg6 ?_;repeat first|refine wV λ _=>?_|simp [go_sem,e0,e1,e7,e8,aX,en,hj']
  refine hcall j hj' hjk _ ?_;by_cases e:j=k
  ·subst e;rw [hyes hj'];rw [if_pos hj',if_pos hj'] at hK;refine J4 e0 e1 e7 e8 ?_;exact hK
  ·rw [hno j ge];refine J4 e0 e1 e7 e8 ?_;refine ih (j+1) _ ge ge ?_ ?_ ?_ ?_<;>simp [aC,e0,e1,e7,e8]
theorem Gz {K:cI} (hK:K (.bool (decide (k<l.length))) (H (if k<l.length then k+1 else k)) n):ap Tryz.prog 140 [aX l, .fn (.func fid) first caps] (H 0) n K:=by
 refine aF Tryz.func140 ?_;refine J0 ?_;refine OD hl H p k hk hno hyes hcall ?_;by_cases e:k<l.length
 ·rw [decide_eq_true e] at hK;simp only [if_pos e] at hK ⊢;refine J0 ?_;exact hK
 ·rw [decide_eq_false e] at hK;simp only [if_neg e] at hK ⊢;refine J0 ?_;exact hK
end
end Go.Av
end
section
/- sum.back: its closure visits the nodes of a graph. -/
set_option linter.unusedSectionVars false
open Go Go.Proofs
namespace Go.Av
theorem zhM {P:Program}{n:Nat}{ops:List Oper}{Q:c7}{m i:Nat}{rest:List Oper}{e:dg}{h:au}{acc:List jf}{dst:Option Tmp}{f:FuncId}{first caps args:List AV} (rs:List Nat) (wr:List (Nat×Option cB)) (R:AV)
  (hcall:∀ (h₁:au) (n₁:Nat),(∀o ∈ rs,h o=h₁ o)->(∀o ∈ rs,o<n₁)->∀K:cI,K R (aB wr h₁) n₁->ap P f (first++args++caps) h₁ n₁ K)
  (hS:∀o ∈ rs,∃x,h o=some x) (hw:∀p ∈ wr,p.1 ∈ rs∧∃g sz rws,p.2=some (.rows true g sz rws)∧∀r ∈ rws,∀c ∈ r,aN 0 c) (hR:qM rs R)
  (hk:tY P n ops Q m (i+1) rest (put e dst (.gd true R)) (aB wr h) (acc++ [(rs,wr.map (·.1))])):oK P n ops Q m i rest dst true (.fn (.func f) first caps) args e h acc:=
 ⟨R,rs,wr,λ _=> .inr (.inr (.inl ⟨f,first,caps,rfl,hS,hw, .inr (.inl hR),λ h₁ n₁ hx hn=>hcall h₁ n₁ hx hn _ ⟨rfl,rfl,rfl⟩⟩)),λ h=>(nomatch h),hk⟩
theorem zc1 {α:Type} (f:Nat->α) (k:Nat) (x y:α):aC (aC f k x) k y=aC f k y:=WQ
theorem D9 (v:(Nat->Nat)->Nat->Bool×(Nat->Nat)):∀ (l r:List Nat) (m:Nat->Nat),kJ v (l++r) m=if (kJ v l m).1=true then kJ v l m else kJ v r (kJ v l m).2
 | [],r,m=>by simp [kJ]
 |j::l,r,m=>by
  rw [List.cons_append,kJ,kJ];by_cases h:(v m j).1=true
  ·simp [h]
  ·rw [if_neg h,if_neg h];exact D9 v l r _
theorem JD (v:(Nat->Nat)->Nat->Bool×(Nat->Nat)):∀ (l:List Nat) (m:Nat->Nat),∃ (M:Nat->Nat->Nat) (k:Nat),M 0=m∧(∀j,j<l.length->M (j+1)=(v (M j) (ac l j)).2)∧k<=l.length∧(∀j,j<k->(v (M j) (ac l j)).1=false)∧(k<l.length->(v (M k) (ac l k)).1=true)∧
  kJ v l m=(decide (k<l.length),M (if k<l.length then k+1 else k))
 | [],m=>⟨λ _=>m,0,rfl,λ j hj=>(by simp at hj),Nat.le_refl _,λ j hj=>ge,λ h=>WZ,by simp [kJ]⟩
 |x::l,m=>by
  obtain ⟨M,k,h0,h1,h2,h3,h4,h5⟩:=JD v l (v m x).2;by_cases hx:(v m x).1=true
  ·refine ⟨λ j=>if j=0 then m else M (j - 1),0,rfl,λ j hj=> ?_,gt,λ j hj=>ge,λ _=>Wx, ?_⟩
   ·grind [ac]
   ·rw [kJ,if_pos hx];grind
  ·refine ⟨λ j=>if j=0 then m else M (j - 1),k+1,rfl,λ j hj=> ?_,pi,λ j hj=> ?_,λ hlt=> ?_, ?_⟩
   ·grind [ac]
   ·grind [ac]
   all_goals grind [dv,kJ]
variable {nx:Nat->List Nat}
theorem N5 :∀ (f:Nat) (m:Nat->Nat) (i j:Nat),(ij nx f m i).2 j=0->m j=0:=by
 intro f;induction f with
 |zero=>simp_all [ij]
 |succ f ih=>
  have hl:∀ (l:List Nat) (m:Nat->Nat) (j:Nat),(kJ (ij nx f) l m).2 j=0->m j=0:=by
   intro l;induction l with
   |nil=>intro m j h;exact h
   |cons x l ihl=>
    grind [kJ]
  have hs:∀ (m:Nat->Nat) (i v j:Nat),v≠0->lj m i v j=0->m j=0:=λ m i v j hv h=>by
   grind [lj]
  intro m i j h;rw [ij] at h;split at h
  ·exact h
  ·split at h
   ·exact h
   ·split at h;all_goals grind
theorem Tm :∀ (f:Nat) (m:Nat->Nat) (i:Nat),(∀c,m c<=2)->∀c,(ij nx f m i).2 c<=2:=by
 intro f;induction f with
 |zero=>intro m i h;exact h
 |succ f ih=>
  have hl:∀ (l:List Nat) (m:Nat->Nat),(∀c,m c<=2)->∀c,(kJ (ij nx f) l m).2 c<=2:=by
   intro l;induction l with
   |nil=>intro m h;exact h
   |cons x l ihl=>
    grind [kJ]
  have hs:∀ (m:Nat->Nat) (i v:Nat),v<=2->(∀c,m c<=2)->∀c,lj m i v c<=2:=λ m i v hv h c=>by
   grind [lj]
  intro m i h;rw [ij];split
  ·exact h
  ·split
   ·exact h
   ·split;all_goals grind
variable {f:Nat}
theorem zbE :∀ (l:List Nat) (m:Nat->Nat),(∀c,m c<=2)->∀c,(kJ (ij nx f) l m).2 c<=2:=by
 intro l;induction l with
 |nil=>intro m h;exact h
 |cons x l ihl=>
  grind [kJ,Tm]
theorem U7 :∀ (l:List Nat) (m:Nat->Nat) (c:Nat),(kJ (ij nx f) l m).2 c=0->m c=0:=by
 intro l;induction l with
 |nil=>intro m c h;exact h
 |cons x l ihl=>
  grind [kJ,N5]
def fZ (n:Nat) (m:Nat->Nat):List (List AV):=(List.range n).map λ i=> [.int (m i:Nat)]
theorem V8 (n:Nat) (m:Nat->Nat):(fZ n m).length=n:=by simp [fZ]
variable {m:Nat->Nat}
theorem zp {n:Nat}{i:Nat} (hi:i<n):ac (fZ n m) i= [.int (m i:Nat)]:=by
 grind [fZ,ac]
theorem wd {n:Nat}{i v:Nat}:(fZ n m).set i [.int (v:Nat)]=fZ n (lj m i v):=by
 refine List.ext_getElem (by simp [fZ]) λ j h1 h2=> ?_;grind [fZ,lj]
theorem pX (k n:Nat) (m:Nat->Nat):(∀r ∈ fZ n m,∀c ∈ r,aN k c)=True:=eq_true λ r hr c hc=>by
 obtain ⟨i, _,rfl⟩:=List.mem_map.1 hr;simp only [List.mem_singleton] at hc;subst hc;exact .v _
attribute [go_sem ↓] pX
attribute [go_sem] V8
def Q7:AV:= .fn (.func 139) [] [.ref 2 0 1 0 0, .ref 0 0 2 0 0, .ref 3 0 1 0 0]
structure K7 (L R:List (List Nat)) (n:Nat) (m:Nat->Nat) (h:au):Prop where
 h0:h 0=some (.rows true 0 2 [[aG L,aG R]])
 h1:h 1=some (.rows true 0 1 (fZ n m))
 h2:h 2=some (.rows true 0 1 [[.sl 1 0 1 0 n]])
 h3:h 3=some (.rows true 0 1 [[Q7]])
def zK (n:Nat) (m:Nat->Nat):cB:= .rows true 0 1 (fZ n m)
theorem K7.set {L R:List (List Nat)}{n:Nat}{h:au} (hh:K7 L R n m h) (m':Nat->Nat):K7 L R n m' (aC h 1 (some (zK n m'))):=
 ⟨by simp [aC,hh.h0],by simp [aC,zK],by simp [aC,hh.h2],by simp [aC,hh.h3]⟩
def DV (L R:List (List Nat)) (n:Nat) (m:Nat->Nat):List (Nat×cB):= [(0, .rows true 0 2 [[aG L,aG R]]),(1,zK n m),(2, .rows true 0 1 [[.sl 1 0 1 0 n]]),(3, .rows true 0 1 [[Q7]])]
def zfq (L R:List (List Nat)) (n:Nat) (m:Nat->Nat) (i:Nat) (r:Bool) (m':Nat->Nat):Prop:=dD Tryz.prog 139 [.int (i:Nat), .ref 2 0 1 0 0, .ref 0 0 2 0 0, .ref 3 0 1 0 0] (DV L R n m) 4 (.bool r) (DV L R n m') 4
theorem PU {L R:List (List Nat)}{n:Nat}{m':Nat->Nat}{i:Nat}{r:Bool} (hp:zfq L R n m i r m'){h:au}{k:Nat}{K:cI} (hh:K7 L R n m h) (hk:4<=k) (hK:K (.bool r) (aC h 1 (some (zK n m'))) k):
  ap Tryz.prog 139 [.int (i:Nat), .ref 2 0 1 0 0, .ref 0 0 2 0 0, .ref 3 0 1 0 0] h k K:=by
 have r0:kF [0,1,2,3] k 0=0:=rfl;have r1:kF [0,1,2,3] k 1=1:=rfl;have r2:kF [0,1,2,3] k 2=2:=rfl;have r3:kF [0,1,2,3] k 3=3:=rfl;have cl:∀m:Nat->Nat,∀r ∈ fZ n m,∀c ∈ r,aN 0 c:=λ m=>of_eq_true (pX 0 n m);have x0:PY (kF [0,1,2,3] k) (.rows true 0 2 [[aG L,aG R]]) (.rows true 0 2 [[aG L,aG R]]):= .rows (.same λ r hr c hc=>by
  grind [vm])
 have x2:PY (kF [0,1,2,3] k) (.rows true 0 1 [[.sl 1 0 1 0 n]]) (.rows true 0 1 [[.sl 1 0 1 0 n]]):= .rows (.cons (.cons (.sl r1.symm) .nil) .nil);have x3:PY (kF [0,1,2,3] k) (.rows true 0 1 [[Q7]]) (.rows true 0 1 [[Q7]]):= .rows (.cons (.cons (.fn .nil (.cons (.ref r2.symm) (.cons (.ref r0.symm) (.cons (.ref r3.symm) .nil)))) .nil) .nil);have bf:∀j,4<=j->aN j Q7:=λ j hj=> .fn gt λ c hc=>by
  simp only [List.mem_cons,List.not_mem_nil,or_false] at hc;rcases hc with rfl|rfl|rfl<;>exact .ref ge
 have ba:∀j,4<=j->∀c ∈ [AV.int (i:Nat), .ref 2 0 1 0 0, .ref 0 0 2 0 0, .ref 3 0 1 0 0],aN j c:=λ j hj c hc=>by
  simp only [List.mem_cons,List.not_mem_nil,or_false] at hc;rcases hc with rfl|rfl|rfl|rfl
  ·exact .v _
  all_goals exact .ref ge
 refine zhf (R:= .bool r) (HH:=DV L R n m') [0,1,2,3] h hp Wm pi rfl (Nat.le_refl _) (.refl _) ?_ ?_ (.refl _ _ _ _) (ba k hk) (.cons (.same (.v _)) (.cons (.ref r2.symm) (.cons (.ref r0.symm) (.cons (.ref r3.symm) .nil)))) (ba 4 (Nat.le_refl _)) (.same (.v _)) ?_ ?_
 ·intro j hj;have:j=0∨j=1∨j=2∨j=3:=ge;rcases this with rfl|rfl|rfl|rfl
  ·exact ⟨_, _,rfl,by exact hh.h0,x0⟩
  ·exact ⟨_, _,rfl,by exact hh.h1, .rows (.same (cl _))⟩
  ·exact ⟨_, _,rfl,by exact hh.h2,x2⟩
  ·exact ⟨_, _,rfl,by exact hh.h3,x3⟩
 ·intro p hp;simp only [DV,List.mem_cons,List.not_mem_nil,or_false] at hp;rcases hp with rfl|rfl|rfl|rfl
  ·grind [vm,se]
  ·exact ⟨gt,of_eq_true (pX 4 n m)⟩
  ·refine ⟨gt,λ r hr c hc=> ?_⟩;simp only [List.mem_singleton] at hr;subst hr;simp only [List.mem_singleton] at hc;subst hc;exact .sl ge
  grind [se]
 ·exact .cons r0.symm x0 (.cons r1.symm (.rows (.same (cl _))) (.cons r2.symm x2 (.cons r3.symm x3 .nil)))
 ·have e:dL (DV L R n m') (iZ [0,1,2,3] h)=aC h 1 (some (zK n m')):=by
   funext x;by_cases x0:x=0
   ·subst x0;simp [dL,DV,iZ,aC,hh.h0]
   by_cases x1:x=1
   ·simp_all [dL,DV,aC]
   by_cases x2:x=2
   ·subst x2;simp [dL,DV,iZ,aC,hh.h2]
   by_cases x3:x=3
   ·subst x3;simp [dL,DV,iZ,aC,hh.h3]
   simp_all [dL,DV,iZ,aC]
  grind
section
variable {L R:List (List Nat)} {n:Nat} (hn:n<=1048576) (hL:L.length=n) (hR:R.length=n) (hl:∀i,i<n->(ac L i).length<=1048576∧(ac R i).length<=1048576) (hlt:∀i,i<n->∀j ∈ iI L R i,j<n)
include hn hL hR hl hlt
theorem KS  (hv:∀ (m:Nat->Nat) (i:Nat),i<n->ur n m<f->(∀c,m c<=2)->∀ (h:au) (k:Nat) (K:cI),K7 L R n m h->4<=k->K (.bool (ij (iI L R) f m i).1) (aC h 1 (some (zK n (ij (iI L R) f m i).2))) k->ap Tryz.prog 139 [.int (i:Nat), .ref 2 0 1 0 0, .ref 0 0 2 0 0, .ref 3 0 1 0 0] h k K)
  (l:List Nat) (hll:l.length<=1048576) (hln:∀j ∈ l,j<n) (m:Nat->Nat) (hf:ur n m<f) (hm2:∀c,m c<=2) {h:au} {k:Nat} {K:cI} (hh:K7 L R n m h) (hk:4<=k) (hK:K (.bool (kJ (ij (iI L R) f) l m).1) (aC h 1 (some (zK n (kJ (ij (iI L R) f) l m).2))) k):
  ap Tryz.prog 140 [aX l,Q7] h k K:=by
 obtain ⟨M,q,M0,M1,q1,q2,q3,q4⟩:=JD (ij (iI L R) f) l m;rw [q4] at hK;have hfr:∀j,j<=l.length->ur n (M j)<f:=λ j hj=>by
  induction j with
  |zero=>grind
  |succ j ih=>
   have:=ih ge;rw [M1 j ge];exact Nat.lt_of_le_of_lt (GY λ c hc=>N5 _ _ _ _ hc) this
 have hM2:∀j,j<=l.length->∀c,M j c<=2:=λ j hj=>by
  induction j with
  |zero=>simp_all
  |succ j ih=>
   rw [M1 j ge];grind [Tm]
 have h0:aC h 1 (some (zK n (M 0)))=h:=by
  rw [M0];funext x;simp only [aC];split
  ·rename_i e;rw [e,hh.h1];rfl
  ·rfl
 have:=Gz (fid:=139) (first:= []) (caps:= [.ref 2 0 1 0 0, .ref 0 0 2 0 0, .ref 3 0 1 0 0]) (l:=l) ge (λ j=>aC h 1 (some (zK n (M j)))) (λ j=>(ij (iI L R) f (M j) (ac l j)).1) q q1 q2 q3 (n:=k) (λ j hj hjq K hK=> ?_) hK
 ·rw [h0] at this;exact this
 ·refine hv (M j) (ac l j) (hln _ (am hj)) (hfr j ge) (hM2 j ge) _ k K (hh.set (M j)) hk ?_;grind [zc1]
theorem SP:∀ (f:Nat) (m:Nat->Nat) (i:Nat),i<n->ur n m<f->(∀c,m c<=2)->zfq L R n m i (ij (iI L R) f m i).1 (ij (iI L R) f m i).2:=by
 intro f;induction f with
 |zero=>omega
 |succ f ih0=>
  intro m i hi hf hm2;have ih:=λ m i hi hf hm (h:au) (k:Nat) (K:cI) (hh:K7 L R n m h) (hk:4<=k) hK=>PU (ih0 m i hi hf hm) hh hk (K:=K) hK;have nm:=zp (m:=m) hi;have hiL:i<L.length:=ge;have hiR:i<R.length:=ge;have eL:ac (L.map cC) i= [aX (ac L i)]:=aJ _ _ _ hiL;have eR:ac (R.map cC) i= [aX (ac R i)]:=aJ _ _ _ hiR;obtain ⟨res,hres⟩:∃res,res=ij (iI L R) (f+1) m i:=⟨_,rfl⟩
  rw [<- hres];rw [ij] at hres;unfold zfq dD;refine aF Tryz.func139 ?_;by_cases c1:m i=1
  ·rw [if_pos c1] at hres;subst hres;repeat first|refine wV λ _=>?_|simp [go_sem,DV,zK,Q7,aG,nm,hi,c1]
   simp [go_sem,aj]
  rw [if_neg c1] at hres;by_cases c2:m i=2
  ·rw [if_pos c2] at hres;subst hres;repeat first|refine wV λ _=>?_|simp [go_sem,DV,zK,Q7,aG,nm,hi,c2]
   simp [go_sem,aj]
  rw [if_neg c2] at hres;have c1':¬((m i:Nat):Int)=1:=ge;have c2':¬((m i:Nat):Int)=2:=ge;have hst:(fZ n m).set i [.int 1]=fZ n (lj m i 1):=wd (v:=1);repeat first|refine wV λ _=>?_|simp [go_sem,DV,zK,Q7,aG,nm,hi,c1',c2',hst,hiL,hiR,eL,eR,aX]
  have hi0:m i=0:=pi;have hm':∀c,lj m i 1 c<=2:=λ c=>by
   grind [lj]
  have hf':ur n (lj m i 1)<f:=by have:=JW (v:=1) hi hi0 Wm;omega
  obtain ⟨hlL,hlR⟩:=hl i hi;have hap:=D9 (ij (iI L R) f) (ac L i) (ac R i) (lj m i 1);rw [show iI L R i=ac L i++ac R i from rfl,hap] at hres;obtain ⟨q1,hq1⟩:∃q1,q1=kJ (ij (iI L R) f) (ac L i) (lj m i 1):=⟨_,rfl⟩
  have two1:∀c,q1.2 c<=2:=by grind [zbE]
  have fr1:ur n q1.2<f:=by rw [hq1];exact Nat.lt_of_le_of_lt (GY λ c hc=>U7 _ _ _ hc) hf'
  try ((with_reducible refine wZ ?_);(try simp [go_sem]))
  refine zho [0,1,2,3] [(1,some (zK n q1.2))] (.bool q1.1) (λ h₁ n₁ hx hn1 K hK=> ?_) ?_ ?_ (.v _) ?_
  ·have hh2:K7 L R n (lj m i 1) h₁:=⟨by grind [aC,aG],WQ,WQ,by grind [aC,Q7]⟩
   rw [hq1] at hK;exact KS hn hL hR hl hlt ih (ac L i) hlL (λ j hj=>hlt i hi j (List.mem_append.2 (.inl hj))) (lj m i 1) hf' hm' hh2 (hn1 3 gt) hK
  ·intro x hx;simp only [List.mem_cons,List.not_mem_nil,or_false] at hx;rcases hx with rfl|rfl|rfl|rfl<;>simp [aC]
  ·intro p hp;simp only [List.mem_singleton] at hp;subst hp;exact ⟨gt, _, _, _,rfl,of_eq_true (pX 0 _ _)⟩
  rw [wq];rw [<- hq1] at hres;by_cases hb:q1.1=true
  ·simp only [hb,if_true] at hres;subst hres;rw [hb];repeat first|refine wV λ _=>?_|simp [go_sem,hiR,eR,aX,zK]
   refine oK.skip .top ?_;refine J0 ?_;simp [go_sem,aj,aG,zK,Q7,hb]
  ·rw [Bool.not_eq_true] at hb;obtain ⟨q2,hq2⟩:∃q2,q2=kJ (ij (iI L R) f) (ac R i) q1.2:=⟨_,rfl⟩
   simp only [hb,Bool.false_eq_true,if_false,<- hq2] at hres;rw [hb];repeat first|refine wV λ _=>?_|simp [go_sem,hiR,eR,aX,zK]
   refine zhM [0,1,2,3] [(1,some (zK n q2.2))] (.bool q2.1) (λ h₁ n₁ hx hn1 K hK=> ?_) ?_ ?_ (.v _) ?_
   ·have hh2:K7 L R n q1.2 h₁:=⟨by grind [aC,aG],WQ,WQ,by grind [aC,Q7]⟩
    rw [hq2] at hK;exact KS hn hL hR hl hlt ih (ac R i) hlR (λ j hj=>hlt i hi j (List.mem_append.2 (.inr hj))) q1.2 fr1 two1 hh2 (hn1 3 gt) hK
   ·intro x hx;simp only [List.mem_cons,List.not_mem_nil,or_false] at hx;rcases hx with rfl|rfl|rfl|rfl<;>simp [aC]
   ·intro p hp;simp only [List.mem_singleton] at hp;subst hp;exact ⟨gt, _, _, _,rfl,of_eq_true (pX 0 _ _)⟩
   rw [wq];by_cases hb2:q2.1=true
   ·rw [if_pos hb2] at hres;subst hres;rw [hb2];repeat first|refine wV λ _=>?_|simp [go_sem,zK]
    simp [go_sem,aj,aG,zK,Q7,hb2]
   ·rw [if_neg hb2] at hres;rw [Bool.not_eq_true] at hb2;subst hres;rw [hb2];have hst2:(fZ n q2.2).set i [.int 2]=fZ n (lj q2.2 i 2):=wd (v:=2);repeat first|refine wV λ _=>?_|simp [go_sem,zK,hi,hst2]
    simp [go_sem,aj,aG,zK,Q7]
end
theorem UF (L R:List (List Nat)) (n:Nat) (hn:n<=1048576) (h0:0<n) (hL:L.length=n) (hR:R.length=n) (hl:∀i,i<n->(ac L i).length<=1048576∧(ac R i).length<=1048576) (hlt:∀i,i<n->∀j ∈ iI L R i,j<n):
  aq Tryz.prog 88 [.agg [aG L,aG R]] (.bool (ij (iI L R) (n+1) (λ _=>0) 0).1):=by
 have hV:=SP hn hL hR hl hlt (n+1) (λ _=>0) 0 h0 (by
  grind [ur,List.length_range]) (λ c=>by omega)
 have hrep:List.replicate n [AV.int 0]=fZ n (λ _=>0):=by
  refine List.ext_getElem (by simp [fZ]) λ i h1 h2=> ?_;simp [fZ]
 refine pF Tryz.func88 ?_;repeat first|refine wV λ _=>?_|simp [go_sem,aG,hL,hrep]
 refine PU hV ⟨by simp [aC,aG],Wp,Wp,by simp [aC,Q7]⟩ ge ?_;exact K0
end Go.Av
end
section
open Go Go.Proofs
namespace Go.Av
open af
theorem OB (F:Nat->af) (l:List Nat):∃Ls:Nat->List af,Ls 0= []∧(∀i,i<l.length->Ls (i+1)=Ls i++ [F (ac l i)])∧(∀i,i<=l.length->(Ls i).length=i)∧Ls l.length=l.map F:=by
 refine ⟨λ i=>(l.take i).map F,rfl,λ i hi=> ?_,λ i hi=>pi,pi⟩;grind [List.take_add_one,ac]
theorem zb6 (F:Nat->af) (l:List Nat) (s0:Nat):∃A:Nat->Nat,A 0=min s0 2001∧(∀i,i<l.length->A (i+1)=min (A i+min (F (ac l i)).size 2001) 2001)∧(∀i,A i<=2001)∧A l.length=min (s0+aD (l.map F)) 2001:=by
 have ha:∀a b:List af,aD (a++b)=aD a+aD b:=λ a b=>by
  induction a<;>grind [aD]
 refine ⟨λ i=>min (s0+aD ((l.take i).map F)) 2001,by simp [aD],λ i hi=> ?_,λ i=>Nat.min_le_right _ _,pi⟩;grind [aD,List.take_add_one,dT]
end Go.Av
end
section
/- sum.size: its closure, and its table (head printed by tools/genYR.py). -/
set_option linter.unusedSectionVars false
open Go Go.Proofs
namespace Go.Av
open af
def Tt:AV:= .fn (.func 141) [] [.ref 2 0 1 0 0, .ref 0 0 2 0 0, .ref 3 0 1 0 0]
structure zdg (L R:List (List Nat)) (n:Nat) (m:Nat->Nat) (h:au):Prop where
 h0:h 0=some (.rows true 0 2 [[aG L,aG R]])
 h1:h 1=some (.rows true 0 1 (fZ n m))
 h2:h 2=some (.rows true 0 1 [[.sl 1 0 1 0 n]])
 h3:h 3=some (.rows true 0 1 [[Tt]])
theorem zdg.set {L R:List (List Nat)}{n:Nat}{m:Nat->Nat}{h:au} (hh:zdg L R n m h) (m':Nat->Nat):zdg L R n m' (aC h 1 (some (zK n m'))):=
 ⟨by simp [aC,hh.h0],by simp [aC,zK],by simp [aC,hh.h2],by simp [aC,hh.h3]⟩
def Fk (L R:List (List Nat)) (n:Nat) (m:Nat->Nat):List (Nat×cB):= [(0, .rows true 0 2 [[aG L,aG R]]),(1,zK n m),(2, .rows true 0 1 [[.sl 1 0 1 0 n]]),(3, .rows true 0 1 [[Tt]])]
def zaR (L R:List (List Nat)) (n:Nat) (m:Nat->Nat) (i:Nat) (r:Int) (m':Nat->Nat):Prop:=dD Tryz.prog 141 [.int (i:Nat), .ref 2 0 1 0 0, .ref 0 0 2 0 0, .ref 3 0 1 0 0] (Fk L R n m) 4 (.int r) (Fk L R n m') 4
theorem PJ {L R:List (List Nat)}{n:Nat}{m m':Nat->Nat}{i:Nat}{r:Int} (hp:zaR L R n m i r m'){h:au}{k:Nat}{K:cI} (hh:zdg L R n m h) (hk:4<=k) (hK:K (.int r) (aC h 1 (some (zK n m'))) k):
  ap Tryz.prog 141 [.int (i:Nat), .ref 2 0 1 0 0, .ref 0 0 2 0 0, .ref 3 0 1 0 0] h k K:=by
 have r0:kF [0,1,2,3] k 0=0:=rfl;have r1:kF [0,1,2,3] k 1=1:=rfl;have r2:kF [0,1,2,3] k 2=2:=rfl;have r3:kF [0,1,2,3] k 3=3:=rfl;have cl:∀m:Nat->Nat,∀r ∈ fZ n m,∀c ∈ r,aN 0 c:=λ m=>of_eq_true (pX 0 n m);have x0:PY (kF [0,1,2,3] k) (.rows true 0 2 [[aG L,aG R]]) (.rows true 0 2 [[aG L,aG R]]):= .rows (.same λ r hr c hc=>by
  grind [vm])
 have x2:PY (kF [0,1,2,3] k) (.rows true 0 1 [[.sl 1 0 1 0 n]]) (.rows true 0 1 [[.sl 1 0 1 0 n]]):= .rows (.cons (.cons (.sl r1.symm) .nil) .nil);have x3:PY (kF [0,1,2,3] k) (.rows true 0 1 [[Tt]]) (.rows true 0 1 [[Tt]]):= .rows (.cons (.cons (.fn .nil (.cons (.ref r2.symm) (.cons (.ref r0.symm) (.cons (.ref r3.symm) .nil)))) .nil) .nil);have bf:∀j,4<=j->aN j Tt:=λ j hj=> .fn gt λ c hc=>by
  simp only [List.mem_cons,List.not_mem_nil,or_false] at hc;rcases hc with rfl|rfl|rfl<;>exact .ref ge
 have ba:∀j,4<=j->∀c ∈ [AV.int (i:Nat), .ref 2 0 1 0 0, .ref 0 0 2 0 0, .ref 3 0 1 0 0],aN j c:=λ j hj c hc=>by
  simp only [List.mem_cons,List.not_mem_nil,or_false] at hc;rcases hc with rfl|rfl|rfl|rfl
  ·exact .v _
  all_goals exact .ref ge
 refine zhf (R:= .int r) (HH:=Fk L R n m') [0,1,2,3] h hp Wm pi rfl (Nat.le_refl _) (.refl _) ?_ ?_ (.refl _ _ _ _) (ba k hk) (.cons (.same (.v _)) (.cons (.ref r2.symm) (.cons (.ref r0.symm) (.cons (.ref r3.symm) .nil)))) (ba 4 (Nat.le_refl _)) (.same (.v _)) ?_ ?_
 ·intro j hj;have:j=0∨j=1∨j=2∨j=3:=ge;rcases this with rfl|rfl|rfl|rfl
  ·exact ⟨_, _,rfl,by exact hh.h0,x0⟩
  ·exact ⟨_, _,rfl,by exact hh.h1, .rows (.same (cl _))⟩
  ·exact ⟨_, _,rfl,by exact hh.h2,x2⟩
  ·exact ⟨_, _,rfl,by exact hh.h3,x3⟩
 ·intro p hp;simp only [Fk,List.mem_cons,List.not_mem_nil,or_false] at hp;rcases hp with rfl|rfl|rfl|rfl
  ·grind [vm,se]
  ·exact ⟨gt,of_eq_true (pX 4 n m)⟩
  ·refine ⟨gt,λ r hr c hc=> ?_⟩;simp only [List.mem_singleton] at hr;subst hr;simp only [List.mem_singleton] at hc;subst hc;exact .sl ge
  grind [se]
 ·exact .cons r0.symm x0 (.cons r1.symm (.rows (.same (cl _))) (.cons r2.symm x2 (.cons r3.symm x3 .nil)))
 ·have e:dL (Fk L R n m') (iZ [0,1,2,3] h)=aC h 1 (some (zK n m')):=by
   funext x;by_cases x0:x=0
   ·subst x0;simp [dL,Fk,iZ,aC,hh.h0]
   by_cases x1:x=1
   ·simp_all [dL,Fk,aC]
   by_cases x2:x=2
   ·subst x2;simp [dL,Fk,iZ,aC,hh.h2]
   by_cases x3:x=3
   ·subst x3;simp [dL,Fk,iZ,aC,hh.h3]
   simp_all [dL,Fk,iZ,aC]
  grind
theorem seqX {B:Type} (C:Nat->B->B->Prop) (n:Nat) (h:∀i,i<n->∀s,∃s',C i s s') (s0:B):∃S:Nat->B,S 0=s0∧∀i,i<n->C i (S i) (S (i+1)):=by
 induction n with
 |zero=>exact ⟨λ _=>s0,rfl,λ i hi=>ge⟩
 |succ n ih=>
  obtain ⟨S,h0,hS⟩:=ih λ i hi=>h i ge;obtain ⟨s',hs'⟩:=h n ge (S n);refine ⟨λ i=>if i<=n then S i else s',by simp [h0],λ i hi=> ?_⟩;grind
theorem K6 (m:Int) (h0:0<=m) (h1:m<=17179869184):uR Tryz.prog 193 [AV.nils, .int m] (λ n=> .sl n 0 1 0 0) (λ n=> [(n, .rows true 0 1 [])]) 1:=by
 refine ⟨?_,λ n=>⟨no,no⟩⟩;by_cases hm:m=0
 ·subst hm;refine aF Tryz.func193 ?_;refine J0 ?_;simp [go_sem,aj]
 ·refine ap.clear ?_;refine aF Tryz.func193 ?_;refine J0 ?_;refine DX ?_;refine J0 ?_;refine zeM ?_;refine J0 ?_;refine ⟨0,0,1,Wm,⟨rfl,rfl,rfl⟩, ?_⟩;simp [go_sem,aj]
theorem Ix (a b:List Nat) (ha:a.length<=1048576) (hb:b.length<=1048576):aq Tryz.prog 142 [.lst 1 [[aX a], [aX b]]] (aX (a++b)):=by
 rw [aX,aX,aX,List.map_append];refine pF Tryz.func142 ?_;refine J0 ?_;refine zg6 ?_;refine J0 ?_;refine DX ?_;refine J0 ?_;refine zg6 ?_;refine J0 ?_;refine DX ?_;refine J0 ?_;refine zg6 ?_;refine J0 ?_;refine zg8 (K6 _ ge ge) no ?_;refine J0 ?_;refine zg6 ?_;refine J0 ?_;refine zg6 ?_;refine J0 ?_;refine zg6 ?_;refine J0 ?_;exact aI rfl gt Ws (List.take_of_length_le gt)
def SY (n:Nat) (F:Nat->af) (m:Nat->Nat):Prop:=∀j,j<n->m j=0∨m j=min (F j).size 2001
section
variable {L R:List (List Nat)} {n:Nat} {Dp:Nat->Nat->Prop} {F:Nat->af} (hn:n<=1048576) (hL:L.length=n) (hR:R.length=n) (hl:∀i,i<n->(ac L i).length<=1048576∧(ac R i).length<=1048576) (hlt:∀i,i<n->∀j ∈ iI L R i,j<n)
 (hD:Al (iI L R) Dp) (hF:∀d i,i<n->Dp d i->F i= .mk ((ac L i).map F) ((ac R i).map F))
include hn hL hR hl hlt hD hF
theorem Wh:∀ (d i:Nat),i<n->Dp d i->∀m,SY n F m->∃m',SY n F m'∧zaR L R n m i (min (F i).size 2001:Nat) m':=by
 intro d;induction d with
 |zero=>intro i hi hd;exact absurd hd (hD.zero i)
 |succ d ih=>
  intro i hi hd m hm;have nm:=zp (m:=m) hi;have hiL:i<L.length:=ge;have hiR:i<R.length:=ge;have eL:ac (L.map cC) i= [aX (ac L i)]:=aJ _ _ _ hiL;have eR:ac (R.map cC) i= [aX (ac R i)]:=aJ _ _ _ hiR;have hpos:=bZ (F i);by_cases c0:m i=0
  ·have hd':∀j ∈ iI L R i,Dp d j:=λ j hj=>hD.down hd j hj;have hln:=hlt i hi;have hFi:=hF (d+1) i hi hd;obtain ⟨hlL,hlR⟩:=hl i hi;have hsz:(F i).size=1+aD ((iI L R i).map F):=by grind [size,iI,su]
   have hC:=Ix (ac L i) (ac R i) hlL hlR;have hll:(iI L R i).length=(ac L i).length+(ac R i).length:=by grind [iI]
   rw [show ac L i++ac R i=iI L R i from rfl] at hC;obtain ⟨A,A0,A1,A2,A3⟩:=zb6 F (iI L R i) 1;generalize iI L R i=l at *;obtain ⟨M,M0,hM⟩:=seqX (λ j (m m':{m:Nat->Nat // SY n F m})=>zaR L R n m.1 (ac l j) (min (F (ac l j)).size 2001:Nat) m'.1) l.length (λ j hj m=>by
    obtain ⟨m',h1,h2⟩:=ih (ac l j) (hln _ (am hj)) (hd' _ (am hj)) m.1 m.2;exact ⟨⟨m',h1⟩,h2⟩) ⟨m,hm⟩
   obtain ⟨T,hT⟩:∃T:Nat->Nat->Nat,∀j,T j=(M j).1:=⟨_,λ _=>rfl⟩
   have T0:T 0=m:=pi;have hTk:=(M l.length).2;simp only [<- hT] at hM hTk;clear hT M0;rw [<- hsz] at A3;refine ⟨lj (T l.length) i (min (F i).size 2001),λ j hj=> ?_, ?_⟩
   ·grind [lj,SY]
   have hst:(fZ n (T l.length)).set i [.int (min (F i).size 2001:Nat)]=fZ n (lj (T l.length) i (min (F i).size 2001)):=wd;have nm2:ac (fZ n (lj (T l.length) i (min (F i).size 2001))) i= [.int (min (F i).size 2001:Nat)]:=by grind [ac,fZ]
   rw [<- A3] at hst nm2 ⊢;clear A3;unfold zaR dD;refine aF Tryz.func141 ?_;rw [c0] at nm;repeat first|refine wV λ _=>?_|simp [go_sem,Fk,zK,Tt,aG,nm,hi,hiL,hiR,eL,eR,aX]
   refine cX.frz [.lst 1 [[aX (ac L i)], [aX (ac R i)]]] _ [14] [(14,some (.rows false 0 1 [[aX (ac L i)], [aX (ac R i)]]))] hC ?_ ?_ no ?_
   ·grind [aC,aX]
   ·intro h₁ hS;have h7:=hS 14 gt;simp [go_sem,aX] at h7;exact .cons (aI h7.symm gt XR (by grind [aX])) .nil
   have hll2:l.length<=2097152:=ge;repeat first|refine wV λ _=>?_|simp [go_sem,aX]
   refine zg3 (zg5 (α:=Nat) (λ j=>⟨[(0, .int i),(1, .ref 2 0 1 0 0),(3, .ref 3 0 1 0 0),(6, .int (A j:Nat)),(25, .lst 1 (l.map bu)),(26, .int l.length),(27, .int j)],
     [(0, .rows true 0 2 [[aG L,aG R]]),(1,zK n (T j)),(2, .rows true 0 1 [[.sl 1 0 1 0 n]]),(3, .rows true 0 1 [[Tt]])],4⟩) (λ d j=>j+d=l.length) ?_ l.length 0 ?_) ?_ ?_
   rotate_left
   ·omega
   ·simp [go_sem,aj,T0,A0,aG,zK,Tt]
   ·simp
   intro d j hj hrec;have hA2:=A2 j;refine J0 ?_;refine zg4 (λ hc=> ?_) (λ hc=> ?_)<;>simp at hc
   ·have hj':j<l.length:=by omega
    have ej:ac (l.map bu) j= [.int (ac l j:Nat)]:=aJ _ _ _ hj';have hA1:=A1 j hj';repeat first|refine wV λ _=>?_|simp [go_sem,ej,hj',Tt]
    refine PJ (hM j hj') ⟨Wp,by simp [aC,zK],Wp,by simp [aC,Tt]⟩ ge ?_;refine J0 ?_;refine zg3 (hrec (d - 1) ge (j+1) ge) ?_ gt;have he:(if (2001:Int)<(A j:Nat)+(min (F (ac l j)).size 2001:Nat) then (2001:Int) else (A j:Nat)+(min (F (ac l j)).size 2001:Nat))=((min (A j+min (F (ac l j)).size 2001) 2001:Nat):Int):=pi;simp [go_sem,aj,zK,Tt,aG,hA1];rw [he];exact .refl _
   ·obtain rfl:j=l.length:=by omega
    generalize A l.length=z at *;repeat first|refine wV λ _=>?_|simp [go_sem,zK,Tt,aG,hi,hst,nm2]
    simp [go_sem,aj]
  ·have hmi:=(hm i hi).resolve_left c0;refine ⟨m,hm, ?_⟩;have c0':¬((m i:Nat):Int)=0:=ge;rw [<- hmi];unfold zaR dD;refine aF Tryz.func141 ?_;repeat first|refine wV λ _=>?_|simp [go_sem,Fk,zK,Tt,aG,nm,hi,c0,c0']
   simp [go_sem,aj]
end
theorem Wi {L R:List (List Nat)}{n:Nat}{Dp:Nat->Nat->Prop}{F:Nat->af} (hn:n<=1048576) (h0:0<n) (hL:L.length=n) (hR:R.length=n) (hl:∀i,i<n->(ac L i).length<=1048576∧(ac R i).length<=1048576) (hlt:∀i,i<n->∀j ∈ iI L R i,j<n)
  (hD:Al (iI L R) Dp) (hF:∀d i,i<n->Dp d i->F i= .mk ((ac L i).map F) ((ac R i).map F)) {d:Nat} (hd:Dp d 0):aq Tryz.prog 89 [.agg [aG L,aG R]] (.int (min (F 0).size 2001:Nat)):=by
 obtain ⟨m', _,hV⟩:=Wh hn hL hR hl hlt hD hF d 0 h0 hd (λ _=>0) (λ j hj=> .inl rfl);have hrep:List.replicate n [AV.int 0]=fZ n (λ _=>0):=by
  refine List.ext_getElem (by simp [fZ]) λ i h1 h2=> ?_;simp [fZ]
 refine pF Tryz.func89 ?_;repeat first|refine wV λ _=>?_|simp [go_sem,aG,hL,hrep]
 refine PJ hV ⟨by simp [aC,aG],Wp,Wp,by simp [aC,Tt]⟩ ge ?_;exact K0
end Go.Av
end
section
/- sum.form. -/
set_option linter.unusedSectionVars false
open Go Go.Proofs
namespace Go.Av
open af
section
variable {L R:List (List Nat)} {n:Nat} {Dp:Nat->Nat->Prop} {F:Nat->af} (hn:n<=1048576) (hL:L.length=n) (hR:R.length=n) (hl:∀i,i<n->(ac L i).length<=1048576∧(ac R i).length<=1048576) (hlt:∀i,i<n->∀j ∈ iI L R i,j<n)
 (hD:Al (iI L R) Dp) (hF:∀d i,i<n->Dp d i->F i= .mk ((ac L i).map F) ((ac R i).map F))
include hn hL hR hl hlt hD hF
theorem Q9:∀ (d i:Nat),i<n->Dp d i->aq Tryz.prog 90 [.agg [aG L,aG R], .int (i:Nat)] (bS (F i)):=by
 intro d;induction d with
 |zero=>intro i hi hd;exact absurd hd (hD.zero i)
 |succ d ih=>
  intro i hi hd;have hiL:i<L.length:=ge;have hiR:i<R.length:=ge;have eL:ac (L.map cC) i= [aX (ac L i)]:=aJ _ _ _ hiL;have eR:ac (R.map cC) i= [aX (ac R i)]:=aJ _ _ _ hiR;have hd':∀j ∈ iI L R i,Dp d j:=λ j hj=>hD.down hd j hj;have hln:=hlt i hi;have hFi:=hF (d+1) i hi hd;obtain ⟨hlL,hlR⟩:=hl i hi;have iL:∀k,k<(ac L i).length->aq Tryz.prog 90 [.agg [aG L,aG R], .int (ac (ac L i) k:Nat)] (.agg (ce (F (ac (ac L i) k)))):=λ k hk=>ih _ (hln _ (List.mem_append.2 (.inl (am hk)))) (hd' _ (List.mem_append.2 (.inl (am hk))));have iR:∀k,k<(ac R i).length->aq Tryz.prog 90 [.agg [aG L,aG R], .int (ac (ac R i) k:Nat)] (.agg (ce (F (ac (ac R i) k)))):=λ k hk=>ih _ (hln _ (List.mem_append.2 (.inr (am hk)))) (hd' _ (List.mem_append.2 (.inr (am hk))));obtain ⟨A,a0,a1,a2,a3⟩:=OB F (ac L i);obtain ⟨B,b0,b1,b2,b3⟩:=OB F (ac R i);have eF:bS (F i)= .agg [.lst 2 (az (A (ac L i).length)), .lst 2 (az (B (ac R i).length))]:=by rw [bS,aH,hFi,a3,b3];rfl
  rw [eF];clear eF hFi a3 b3;generalize ac L i=l at *;generalize ac R i=r at *;rw [aG,aG] at *;refine pF Tryz.func90 ?_;repeat first|refine wV λ _=>?_|simp [go_sem,hiL,eL,aX]
  refine zg3 (zg5 (α:=Nat) (λ k=>⟨[(1, .int i),(2, .ref 0 0 2 0 0),(4, .ref 1 0 2 0 0),(5, .ref 2 0 2 0 0),(14, .lst 1 (l.map bu)),(15, .int l.length),(16, .int k)],
   [(0, .rows true 0 2 [[.lst 1 (L.map cC), .lst 1 (R.map cC)]]),(1, .rows true 0 2 [[AV.nils,AV.nils]]),(2, .rows true 0 2 [[.sl 3 k 2 0 k,AV.nils]]),(3, .rows true k 2 (az (A k)))],4⟩)
   (λ d k=>k+d=l.length) ?_ l.length 0 ?_) ?_ ?_
  ·intro d2 k hk hrec;have hlen:=a2 k ge;refine J0 ?_;refine zg4 (λ hc=> ?_) (λ hc=> ?_)<;>simp at hc
   ·have hk':k<l.length:=by omega
    have ek:ac (l.map bu) k= [.int (ac l k:Nat)]:=aJ _ _ _ hk';refine J3 ek hk' hlen ?_;refine dP (iL k hk') ?_;refine J1 hlen ?_;refine zg3 (hrec (d2 - 1) ge (k+1) ge) ?_ gt;simp [go_sem,aj,a1 k hk',iU]
   ·obtain rfl:k=l.length:=by omega
    repeat first|refine wV λ _=>?_|simp [go_sem,hiR,eR,aX]
    refine zg3 (zg5 (α:=Nat) (λ k=>⟨[(2, .ref 0 0 2 0 0),(4, .ref 1 0 2 0 0),(5, .ref 2 0 2 0 0),(33, .lst 1 (r.map bu)),(34, .int r.length),(35, .int k)],
     [(0, .rows true 0 2 [[.lst 1 (L.map cC), .lst 1 (R.map cC)]]),(1, .rows true 0 2 [[AV.nils,AV.nils]]),(2, .rows true 0 2 [[.sl 3 l.length 2 0 l.length, .sl 4 k 2 0 k]]),(3, .rows true l.length 2 (az (A l.length))),(4, .rows true k 2 (az (B k)))],5⟩)
     (λ d k=>k+d=r.length) ?_ r.length 0 ?_) ?_ ?_
    ·intro d2 k hk hrec;have hlen2:=b2 k ge;refine J0 ?_;refine zg4 (λ hc=> ?_) (λ hc=> ?_)<;>simp at hc
     ·have hk':k<r.length:=by omega
      have ek:ac (r.map bu) k= [.int (ac r k:Nat)]:=aJ _ _ _ hk';refine J3 ek hk' hlen2 ?_;refine dP (iR k hk') ?_;refine J1 hlen2 ?_;refine zg3 (hrec (d2 - 1) ge (k+1) ge) ?_ gt;simp [go_sem,aj,b1 k hk',iU]
     ·obtain rfl:k=r.length:=by omega
      have hA:=a2 _ (Nat.le_refl _);have hB:=b2 _ (Nat.le_refl _);refine J0 ?_;refine ⟨aI rfl XN Ws ?_,aI rfl XN Ws ?_⟩;all_goals simp_all [List.take_of_length_le,iD]
    ·omega
    ·simp [go_sem,aj,b0]
    ·simp
  ·omega
  ·simp [go_sem,aj,a0]
  ·simp
end
end Go.Av
end
section
/- sum.turned, sum.explore. -/
set_option linter.unusedSectionVars false
open Go Go.Proofs
namespace Go.Av
open af
theorem pD (p:aa) (s:Int):aq Tryz.prog 137 [.agg (ak p), .int s] (.agg (ak (bv p s))):=by
 refine pF Tryz.func137 ?_;repeat first|refine wV λ _=>?_|simp [go_sem,bv]
def xl (p:aa):AV:= .v (.string (lM p))
def H2 (P:List aa) (x:aa):List AV:= [xl x, .int (dZ P x:Nat)]
theorem Gj (n:Nat) (P l:List aa):(∀r ∈ l.map (H2 P),∀c ∈ r,aN n c)=True:=eq_true λ r hr c hc=>by
 obtain ⟨x, _,rfl⟩:=List.mem_map.1 hr;simp only [H2,List.mem_cons,List.not_mem_nil,or_false] at hc;rcases hc with rfl|rfl<;>exact .v _
attribute [go_sem ↓] Gj
theorem s8 (q:aa) (val:aa->AV):∀P:List aa,(∀u ∈ P,lM q=lM u->q=u)->eM .string (xl q) (P.map λ x=> [xl x,val x])=some (if q ∈ P then some (val q) else none)∧(q ∉ P->∀v,gz .string (xl q) v (P.map λ x=> [xl x,val x])=some ((P.map λ x=> [xl x,val x])++ [[xl q,v]]))
 | [], _=>⟨rfl,λ _ v=>rfl⟩
 |b::l,h=>by
  obtain ⟨i1,i2⟩:=s8 q val l λ u hu=>h u Yo;grind [mi,xl,mZ,sx,eM,gz]
theorem KH {P:List aa}{q:aa} (h:q ∉ P):(P.map (H2 P))++ [[xl q, .int (P.length:Nat)]]=(P++ [q]).map (H2 (P++ [q])):=by
 grind [List.map_congr_left,H2,wH,Fv]
def Sr:Option (List aa×List (List Nat)×List (List Nat))->AV
 |none=> .tup [.agg [.lst 1 [], .lst 1 []], .bool false]
 |some (P,L,R)=> .tup [.agg [aG L,aG R], .bool true]
theorem BR (g:ae) (hg:bN g) (p:aa) (hp:bw g p) (limit:Nat) (hl:1<=limit∧limit<=4000):aq Tryz.prog 87 [.agg (ai g), .agg (ak p), .int limit] (Sr (b9 g limit 4002 0 [bv p 0] [] [])):=by
 have hT:aq Tryz.prog 137 [.agg (ak p), .int 0] (.agg (ak (bv p 0))):=pD p 0;have hq0:=bX hp (s:=0) (.inl rfl);obtain ⟨q,hq⟩:∃q,q=bv p 0:=⟨_,rfl⟩
 rw [<- hq] at hT hq0 ⊢;clear hq;have hK0:=qj hg hq0;have hegl:(ai g).length=9:=rfl;have hegb:∀n,(∀c ∈ ai g,aN n c)=True:=λ n=>no;obtain ⟨R,hR⟩:∃R,R=b9 g limit 4002 0 [q] [] []:=⟨_,rfl⟩
 rw [<- hR];refine pF Tryz.func87 ?_;refine J0 ?_;refine aP hT ?_;refine J0 ?_;refine aP hK0 ?_;repeat first|refine wV λ _=>?_|simp [go_sem,gz]
 refine zg3 (zg5 (α:=Nat×List aa×List (List Nat)×List (List Nat)) (λ a=>⟨[(2, .int limit),(3, .ref 0 0 9 0 0),(6, .ref 2 0 2 0 0),(8, .ref 3 0 2 0 0),(9, .sl 4 a.2.1.length 5 0 (a.2.1.length+1)),(10, .mp 5),(11, .int a.1)],
   [(0, .rows true 0 9 [ai g]),(2, .rows true 0 2 [[AV.nils,AV.nils]]),(3, .rows true 0 2 [[.sl 6 a.1 1 0 a.1, .sl 7 a.1 1 0 a.1]]),(4, .rows true a.2.1.length 5 ((lp q a.2.1).map ak)),(5, .rows true 0 2 ((lp q a.2.1).map (H2 (lp q a.2.1)))),(6, .rows true a.1 1 (a.2.2.1.map cC)),(7, .rows true a.1 1 (a.2.2.2.map cC))],8⟩)
  (λ d a=>a.1+d=4002∧a.2.1.length<=3999∧a.1<=a.2.1.length+1∧a.2.2.1.length=a.1∧a.2.2.2.length=a.1∧(∀x ∈ lp q a.2.1,bw g x)∧R=b9 g limit d a.1 (lp q a.2.1) a.2.2.1 a.2.2.2) ?_ 4002 (0, [], [], []) ?_) ?_ ?_
 rotate_left
 ·grind [lp]
 ·have e0:dZ [q] q=0:=by simp [dZ]
  simp [go_sem,aj,RH,H2,xl,e0]
 ·simp
 rintro d ⟨k,t,Ls,Rs⟩ ⟨i1,i2,i3,i4,i5,i6,i7⟩ hrec;simp only at i1 i2 i3 i4 i5 i6 i7;obtain ⟨d,rfl⟩:∃d',d=d'+1:=⟨d - 1,ge⟩
 have hlp:=nX q t;rw [b9] at i7;refine J1 hlp ?_;refine zg4 (λ hk=> ?_) (λ hk=> ?_)<;>simp at hk
 ·have hkl:k<(lp q t).length:=by omega
  rw [if_pos hkl] at i7;have hp0:=i6 _ (am hkl);have hnk:ac ((lp q t).map ak) k=ak (ac (lp q t) k):=aJ _ _ _ hkl;generalize hn:ac (lp q t) k=pk at *;have hT0:aq Tryz.prog 137 [.agg (ak pk), .int 0] (.agg (ak (bv pk 0))):=pD pk 0;have hT1:aq Tryz.prog 137 [.agg (ak pk), .int 1] (.agg (ak (bv pk 1))):=pD pk 1;have hk0:=bX hp0 (s:=0) (.inl rfl);have hk1:=bX hp0 (s:=1) (.inr rfl);have hM0:=pQ g hg _ hk0;have hM1:=pQ g hg _ hk1;have hml0:=cG hg hk0;have hml1:=cG hg hk1;have ho0:∀x ∈ bV g pk 0,bw g x:=λ x hx=>by
   obtain ⟨y,hy,rfl⟩:=List.mem_map.1 hx;grind [bX,bD,ak]
  have ho1:∀x ∈ bV g pk 1,bw g x:=λ x hx=>by
   obtain ⟨y,hy,rfl⟩:=List.mem_map.1 hx;grind [bX,bD,ak]
  obtain ⟨os,hos⟩:∃os,os=bV g pk 0:=⟨_,rfl⟩
  obtain ⟨ot,hot⟩:∃ot,ot=bV g pk 1:=⟨_,rfl⟩
  have hosl:os.length=(an g (bv pk 0)).length:=by grind [bV]
  have hotl:ot.length=(an g (bv pk 1)).length:=by grind [bV]
  rw [<- hos,<- hot] at i7;rw [<- hos] at ho0;rw [<- hot] at ho1;obtain ⟨T,N,T0,N0,Ts,Nl,Te,Ne,Tb,Tg,To⟩:=zev q t os;rw [<- Te,<- Ne] at i7;obtain ⟨t1,ht1⟩:∃t1,t1=T os.length:=⟨_,rfl⟩
  rw [<- ht1] at i7;have hnt1:ac (lp q t1) k=pk:=by
   obtain ⟨r,hr⟩:=kU os (lp q t);grind [ac]
  obtain ⟨U,M,U0,M0,Us,Ml,Ue,Me,Ub,Ug,Uo⟩:=zev q t1 ot;rw [<- Ue,<- Me] at i7;have hTp:∀j,∀x ∈ lp q (T j),bw g x:=λ j x hx=>(To j x hx).elim (i6 x) (ho0 x);have hUp:∀j,∀x ∈ lp q (U j),bw g x:=λ j x hx=>(Uo j x hx).elim (λ h=>hTp os.length x (ht1▸h)) (ho1 x);have ht1l:t1.length<=3999+472446:=pi;generalize hmv:an g (bv pk 0)=mv at *;generalize hmw:an g (bv pk 1)=mw at *;replace Tb:∀j,j<=mv.length->(T j).length<=1048576:=λ j hj=>pi;replace Ub:∀j,j<=mw.length->(U j).length<=1048576:=λ j hj=>pi;rw [hosl,hotl] at i7;rw [hosl] at ht1;clear hk0 hk1 hp0;refine J2 hlp hnk ?_;refine zg6 ?_;refine J3 hlp hkl hnk ?_;refine dP hT0 ?_;refine J1 hlp ?_;refine dP hM0 ?_;refine J1 hlp ?_;refine zg3 (zg5 (α:=Nat) (λ j=>⟨[(2, .int limit),(3, .ref 0 0 9 0 0),(6, .ref 2 0 2 0 0),(8, .ref 3 0 2 0 0),(9, .sl 4 (T j).length 5 0 ((T j).length+1)),(10, .mp 5),(11, .int k),(13, .ref 3 0 2 0 0),(14, .sl 8 j 1 0 j),(36, .agg [.ref 3 0 2 0 0, .ref 3 0 2 0 1]),(37, .int 0),(49,aO mv),(50, .int mv.length),(51, .int j)],
    [(0, .rows true 0 9 [ai g]),(2, .rows true 0 2 [[AV.nils,AV.nils]]),(3, .rows true 0 2 [[.sl 6 k 1 0 k, .sl 7 k 1 0 k]]),(4, .rows true (T j).length 5 ((lp q (T j)).map ak)),(5, .rows true 0 2 ((lp q (T j)).map (H2 (lp q (T j))))),(6, .rows true k 1 (Ls.map cC)),(7, .rows true k 1 (Rs.map cC)),(8, .rows true j 1 ((N j).map bu))],9⟩)
   (λ d j=>j+d=mv.length) ?_ mv.length 0 ?_) ?_ ?_
  ·rintro d3 j j1 hrec3;have hlj:=nX q (T j);have hnj:=Nl j ge;refine J2 hlj hnj ?_;refine zg4 (λ hj=> ?_) (λ hj=> ?_)<;>simp at hj
   ·have hj2:j<os.length:=by omega
    have hj3:j<mv.length:=ge;have hno:bv (ac mv j) 0=ac os j:=Yf;have hst:=(Ts j hj2).1;have hsn:=(Ts j hj2).2;have hTq:aq Tryz.prog 137 [.agg (ak (ac mv j)), .int 0] (.agg (ak (ac os j))):=by rw [<- hno];exact pD _ 0
    have hxo:=ho0 _ (am hj2);have hKq:=qj hg hxo;have htp:=hTp j;obtain ⟨hf1,hf2⟩:=s8 (ac os j) (λ x=> .int (dZ (lp q (T j)) x:Nat)) (lp q (T j)) λ u hu e=>ym hg hxo (htp u hu) e;have htl:=Tb j ge;unfold oR at hst;have hnmv:ac (mv.map ak) j=ak (ac mv j):=aJ _ _ _ hj3;refine J4 hj3 hlj hnj hnmv ?_;refine aP hTq ?_;refine J2 hlj hnj ?_;refine aP hKq ?_;have hrI:(lp q (T j)).map (H2 (lp q (T j)))=(lp q (T j)).map (λ x=> [xl x,AV.int (dZ (lp q (T j)) x:Nat)]):=rfl;rw [<- hrI,xl] at hf1 hf2;by_cases hm:ac os j ∈ lp q (T j)
    ·rw [if_pos hm] at hst hf1;rw [hst] at hsn;refine J2 hf1 hnj ?_;refine zg3 (hrec3 (d3 - 1) ge (j+1) ge) ?_ gt;simp [go_sem,aj,hst,hsn,bu]
    ·rw [if_neg hm] at hst hf1;have hput:=hf2 hm (.int ((lp q (T j)).length:Nat));have hsnoc:=KH hm;rw [xl] at hsnoc;rw [hsnoc,hlj] at hput;have hix:=Fv hm;rw [hst,Dv,hix,hlj] at hsn;have hla:=Dv q (T j) (ac os j);refine J3 hf1 hlj hnj ?_;refine aP hKq ?_;push_cast at hput;refine J3 hput hlj hnj ?_;refine zg3 (hrec3 (d3 - 1) ge (j+1) ge) ?_ gt;simp [go_sem,aj,hst,hsn,bu,hla];intro c hc;exact of_eq_true (Gj _ (lp q (T j)++ [ac os j]) [ac os j]) _ gt c hc
   ·obtain rfl:j=mv.length:=by omega
    have hl1:=nX q t1;have hn0l:=Nl mv.length ge;rw [<- ht1];generalize N mv.length=n0 at *;have hkl1:k<(lp q t1).length:=by have:=Tg mv.length;rw [<- ht1] at this;omega
    have hkl2:k<t1.length+1:=ge;have hnk1:ac ((lp q t1).map ak) k=ak pk:=by rw [aJ _ _ _ hkl1,hnt1]
    refine J4 hl1 hn0l i4 i5 ?_;refine zg6 ?_;refine J5 hl1 hn0l hkl1 hkl2 hnk1 ?_;refine dP hT1 ?_;refine J2 hl1 hn0l ?_;refine dP hM1 ?_;refine J2 hl1 hn0l ?_;refine zg3 (zg5 (α:=Nat) (λ j=>⟨[(2, .int limit),(3, .ref 0 0 9 0 0),(6, .ref 2 0 2 0 0),(8, .ref 3 0 2 0 0),(9, .sl 4 (U j).length 5 0 ((U j).length+1)),(10, .mp 5),(11, .int k),(13, .ref 3 0 2 0 1),(14, .sl 10 j 1 0 j),(36, .agg [.ref 3 0 2 0 0, .ref 3 0 2 0 1]),(37, .int 1),(49,aO mw),(50, .int mw.length),(51, .int j)],
      [(0, .rows true 0 9 [ai g]),(2, .rows true 0 2 [[AV.nils,AV.nils]]),(3, .rows true 0 2 [[.sl 6 (k+1) 1 0 (k+1), .sl 7 k 1 0 k]]),(4, .rows true (U j).length 5 ((lp q (U j)).map ak)),(5, .rows true 0 2 ((lp q (U j)).map (H2 (lp q (U j))))),(6, .rows true (k+1) 1 ((Ls++ [n0]).map cC)),(7, .rows true k 1 (Rs.map cC)),(10, .rows true j 1 ((M j).map bu))],11⟩)
     (λ d j=>j+d=mw.length) ?_ mw.length 0 ?_) ?_ ?_
    ·rintro d3 j j1 hrec3;have hlj:=nX q (U j);have hnj:=Ml j ge;refine J2 hlj hnj ?_;refine zg4 (λ hj=> ?_) (λ hj=> ?_)<;>simp at hj
     ·have hj2:j<ot.length:=by omega
      have hj3:j<mw.length:=ge;have hno:bv (ac mw j) 0=ac ot j:=Yg;have hst:=(Us j hj2).1;have hsn:=(Us j hj2).2;have hTq:aq Tryz.prog 137 [.agg (ak (ac mw j)), .int 0] (.agg (ak (ac ot j))):=by rw [<- hno];exact pD _ 0
      have hxo:=ho1 _ (am hj2);have hKq:=qj hg hxo;have htp:=hUp j;obtain ⟨hf1,hf2⟩:=s8 (ac ot j) (λ x=> .int (dZ (lp q (U j)) x:Nat)) (lp q (U j)) λ u hu e=>ym hg hxo (htp u hu) e;have htl:=Ub j ge;unfold oR at hst;have hnmv:ac (mw.map ak) j=ak (ac mw j):=aJ _ _ _ hj3;refine J4 hj3 hlj hnj hnmv ?_;refine aP hTq ?_;refine J2 hlj hnj ?_;refine aP hKq ?_;have hrI:(lp q (U j)).map (H2 (lp q (U j)))=(lp q (U j)).map (λ x=> [xl x,AV.int (dZ (lp q (U j)) x:Nat)]):=rfl;rw [<- hrI,xl] at hf1 hf2;by_cases hm:ac ot j ∈ lp q (U j)
      ·rw [if_pos hm] at hst hf1;rw [hst] at hsn;refine J2 hf1 hnj ?_;refine zg3 (hrec3 (d3 - 1) ge (j+1) ge) ?_ gt;simp [go_sem,aj,hst,hsn,bu];exact λ c hc=>of_eq_true (ob _ [n0]) _ gt c hc
      ·rw [if_neg hm] at hst hf1;have hput:=hf2 hm (.int ((lp q (U j)).length:Nat));have hsnoc:=KH hm;rw [xl] at hsnoc;rw [hsnoc,hlj] at hput;have hix:=Fv hm;rw [hst,Dv,hix,hlj] at hsn;have hla:=Dv q (U j) (ac ot j);refine J3 hf1 hlj hnj ?_;refine aP hKq ?_;push_cast at hput;refine J3 hput hlj hnj ?_;refine zg3 (hrec3 (d3 - 1) ge (j+1) ge) ?_ gt;simp [go_sem,aj,hst,hsn,bu,hla];exact ⟨λ c hc=>of_eq_true (Gj _ (lp q (U j)++ [ac ot j]) [ac ot j]) _ gt c hc,λ c hc=>of_eq_true (ob _ [n0]) _ gt c hc⟩
     ·obtain rfl:j=mw.length:=by omega
      have hup:=hUp mw.length;have hug:=Ug mw.length;have hm0l:=Ml mw.length ge;have hubl:=Ub mw.length (Nat.le_refl _);generalize U mw.length=t2 at *;generalize M mw.length=m0 at *;have hl2:=nX q t2;refine J5 hl2 hn0l hm0l i4 i5 ?_;refine zg6 ?_;refine J5 hl2 hn0l hm0l i4 i5 ?_;refine zg4 (λ hbig=> ?_) (λ hbig=> ?_)<;>simp at hbig
      ·rw [if_pos ge] at i7;rw [i7,Sr];exact K0
      ·rw [if_neg ge] at i7;refine J1 hl2 ?_;refine zg3 (hrec d ge (k+1,t2,Ls++ [n0],Rs++ [m0]) ⟨ge,WA,WA,by simp [i4],by simp [i5],hup,i7⟩) ?_ gt;simp [go_sem,aj,cC,aX];exact bJ (.refl _) (.cons (.cons (aI rfl (by simp [hm0l]) Ym (List.take_of_length_le (by simp [hm0l]))) .nil) .nil)
    ·omega
    ·simp [go_sem,aj,U0,M0,aO,cC,aX];exact bJ (.refl _) (.cons (.cons (aI rfl (by simp [hn0l]) Ym (List.take_of_length_le (by simp [hn0l]))) .nil) .nil)
    ·simp
  ·omega
  ·simp [go_sem,aj,T0,N0,aO]
  ·simp
 ·have hkl:¬k<(lp q t).length:=by omega
  rw [if_neg hkl] at i7;obtain rfl:k=t.length+1:=ge;rw [i7,Sr];repeat first|refine wV λ _=>?_|simp [go_sem,hlp,aG]
  refine ⟨aI rfl (by simp [i4]) Ws ?_,aI rfl (by simp [i5]) Ws ?_⟩;all_goals grind [List.take_of_length_le]
end Go.Av
end
section
open Go Go.Proofs
namespace Go.Av
def E5 {α:Type} (p:α->Bool) (l:List α):Int:=match l.findIdx? p with|some i=>(i:Int)|none=> -1
theorem Ca {α:Type} [Inhabited α] {p:α->Bool}{l:List α}{j:Nat} (hj:j<l.length) (h:∀i,i<j->p (ac l i)=false) (hp:p (ac l j)=true):E5 p l=j:=by
 have:l.findIdx? p=some j:=by
  grind [List.findIdx?_eq_some_iff_getElem,ac]
 simp [E5,this]
theorem zj {α:Type} [Inhabited α] {p:α->Bool}{l:List α} (h:∀i,i<l.length->p (ac l i)=false):E5 p l= -1:=by
 grind [List.getElem_of_mem,E5,ac]
theorem B9 {α:Type}{p:α->Bool}{l:List α}:decide (0<=E5 p l)=l.any p:=by
 grind [E5]
theorem wW (l:List (kT)) (hl:l.length<=1048576) (f:FuncId) (caps:List AV) (p:(kT)->Bool) (hp:∀x ∈ l,aq Tryz.prog f (.agg (cH x)::caps) (.v (.bool (p x)))) (hb':∀c ∈ caps,aN 0 c):
  aq Tryz.prog 191 [.lst 3 (l.map cH), .fn (.func f) [] caps] (.int (E5 p l)):=by
 refine pF Tryz.func191 ?_;have hA:∀x:(kT),∀m,aN m (.agg (cH x)):=λ x m=>no;refine J0 ?_;refine zg3 (zg5 (α:=Nat) (λ j=>⟨[(0, .lst 3 (l.map cH)),(1, .fn (.func f) [] caps),(7, .int l.length),(8, .int j)], [],0⟩)
  (λ d j=>j+d=l.length∧(∀i<j,p (ac l i)=false)) ?_ l.length 0 ?_) ?_ ?_
 ·rintro d j ⟨i1,i2⟩ hrec;refine J0 ?_;refine zg4 (λ hj=> ?_) (λ hj=> ?_)<;>simp at hj
  ·refine J1 hj ?_;refine zg7 (hp _ (am hj)) (λ c hc=>by
    simp only [List.nil_append,List.cons_append,List.mem_cons] at hc;rcases hc with rfl|h;all_goals simp_all [cH]) ?_
   refine J0 ?_;refine zg4 (λ h=> ?_) (λ h=> ?_)
   ·repeat first|refine wV λ _=>?_|simp [go_sem,Ca hj i2 h]
   ·refine J0 ?_;refine zg3 (hrec (d - 1) ge (j+1) ⟨ge,λ i hi=> ?_⟩) ?_ gt
    ·grind
    ·simp [go_sem,aj];exact hb'
  ·have hn:=zj (p:=p) (l:=l) λ i hi=>i2 i ge;exact K1 hn
 ·simp
 ·simp [go_sem,aj];exact hb'
 ·simp
theorem Ah (l:List (kT)) (hl:l.length<=1048576) (f:FuncId) (caps:List AV) (p:(kT)->Bool) (hp:∀x ∈ l,aq Tryz.prog f (.agg (cH x)::caps) (.v (.bool (p x)))) (hb':∀c ∈ caps,aN 0 c):
  aq Tryz.prog 136 [.lst 3 (l.map cH), .fn (.func f) [] caps] (.v (.bool (l.any p))):=by
 refine pF Tryz.func136 ?_;have hI:=wW l hl f caps p hp hb';refine J0 ?_;refine zg7 hI XJ ?_;repeat first|refine wV λ _=>?_|simp [go_sem,B9]
theorem ER (l:List (List (Int×Int))) (hl:l.length<=1048576) (f:FuncId) (caps:List AV) (p:(List (Int×Int))->Bool) (hp:∀x ∈ l,aq Tryz.prog f (bE x::caps) (.v (.bool (p x)))) (hb':∀c ∈ caps,aN 0 c):
  aq Tryz.prog 236 [.lst 1 (l.map λ p=> [bE p]), .fn (.func f) [] caps] (.int (E5 p l)):=by
 refine pF Tryz.func236 ?_;have hA:∀x:(List (Int×Int)),∀m,aN m (bE x):=λ x m=>no;refine J0 ?_;refine zg3 (zg5 (α:=Nat) (λ j=>⟨[(0, .lst 1 (l.map λ p=> [bE p])),(1, .fn (.func f) [] caps),(7, .int l.length),(8, .int j)], [],0⟩)
  (λ d j=>j+d=l.length∧(∀i<j,p (ac l i)=false)) ?_ l.length 0 ?_) ?_ ?_
 ·rintro d j ⟨i1,i2⟩ hrec;refine J0 ?_;refine zg4 (λ hj=> ?_) (λ hj=> ?_)<;>simp at hj
  ·refine J1 hj ?_;refine zg7 (hp _ (am hj)) (λ c hc=>by
    simp only [List.nil_append,List.cons_append,List.mem_cons] at hc;rcases hc with rfl|h;all_goals simp_all [bE]) ?_
   refine J0 ?_;refine zg4 (λ h=> ?_) (λ h=> ?_)
   ·repeat first|refine wV λ _=>?_|simp [go_sem,Ca hj i2 h]
   ·refine J0 ?_;refine zg3 (hrec (d - 1) ge (j+1) ⟨ge,λ i hi=> ?_⟩) ?_ gt
    ·grind
    ·simp [go_sem,aj];exact hb'
  ·have hn:=zj (p:=p) (l:=l) λ i hi=>i2 i ge;exact K1 hn
 ·simp
 ·simp [go_sem,aj];exact hb'
 ·simp
theorem Aj (l:List (List (Int×Int))) (hl:l.length<=1048576) (f:FuncId) (caps:List AV) (p:(List (Int×Int))->Bool) (hp:∀x ∈ l,aq Tryz.prog f (bE x::caps) (.v (.bool (p x)))) (hb':∀c ∈ caps,aN 0 c):
  aq Tryz.prog 187 [.lst 1 (l.map λ p=> [bE p]), .fn (.func f) [] caps] (.v (.bool (l.any p))):=by
 refine pF Tryz.func187 ?_;have hI:=ER l hl f caps p hp hb';refine J0 ?_;refine zg7 hI XJ ?_;repeat first|refine wV λ _=>?_|simp [go_sem,B9]
theorem EP (l:List (Int×Int×Int×Int)) (hl:l.length<=1048576) (f:FuncId) (caps:List AV) (p:(Int×Int×Int×Int)->Bool) (hp:∀x ∈ l,aq Tryz.prog f (.agg (cd x)::caps) (.v (.bool (p x)))) (hb':∀c ∈ caps,aN 0 c):
  aq Tryz.prog 237 [.lst 4 (l.map cd), .fn (.func f) [] caps] (.int (E5 p l)):=by
 refine pF Tryz.func237 ?_;have hA:∀x:(Int×Int×Int×Int),∀m,aN m (.agg (cd x)):=λ x m=>no;refine J0 ?_;refine zg3 (zg5 (α:=Nat) (λ j=>⟨[(0, .lst 4 (l.map cd)),(1, .fn (.func f) [] caps),(7, .int l.length),(8, .int j)], [],0⟩)
  (λ d j=>j+d=l.length∧(∀i<j,p (ac l i)=false)) ?_ l.length 0 ?_) ?_ ?_
 ·rintro d j ⟨i1,i2⟩ hrec;refine J0 ?_;refine zg4 (λ hj=> ?_) (λ hj=> ?_)<;>simp at hj
  ·refine J1 hj ?_;refine zg7 (hp _ (am hj)) (λ c hc=>by
    simp only [List.nil_append,List.cons_append,List.mem_cons] at hc;rcases hc with rfl|h
    ·exact hA _ _
    grind) ?_
   refine J0 ?_;refine zg4 (λ h=> ?_) (λ h=> ?_)
   ·repeat first|refine wV λ _=>?_|simp [go_sem,Ca hj i2 h]
   ·refine J0 ?_;refine zg3 (hrec (d - 1) ge (j+1) ⟨ge,λ i hi=> ?_⟩) ?_ gt
    ·grind
    ·simp [go_sem,aj];exact hb'
  ·have hn:=zj (p:=p) (l:=l) λ i hi=>i2 i ge;exact K1 hn
 ·simp
 ·simp [go_sem,aj];exact hb'
 ·simp
theorem Ag (l:List (Int×Int×Int×Int)) (hl:l.length<=1048576) (f:FuncId) (caps:List AV) (p:(Int×Int×Int×Int)->Bool) (hp:∀x ∈ l,aq Tryz.prog f (.agg (cd x)::caps) (.v (.bool (p x)))) (hb':∀c ∈ caps,aN 0 c):
  aq Tryz.prog 188 [.lst 4 (l.map cd), .fn (.func f) [] caps] (.v (.bool (l.any p))):=by
 refine pF Tryz.func188 ?_;have hI:=EP l hl f caps p hp hb';refine J0 ?_;refine zg7 hI XJ ?_;repeat first|refine wV λ _=>?_|simp [go_sem,B9]
theorem ES (l:List (Int×Int)) (hl:l.length<=1048576) (f:FuncId) (caps:List AV) (p:(Int×Int)->Bool) (hp:∀x ∈ l,aq Tryz.prog f (.agg (dC x)::caps) (.v (.bool (p x)))) (hb':∀c ∈ caps,aN 0 c):
  aq Tryz.prog 274 [bE l, .fn (.func f) [] caps] (.int (E5 p l)):=by
 refine pF Tryz.func274 ?_;have hA:∀x:(Int×Int),∀m,aN m (.agg (dC x)):=λ x m=>no;refine J0 ?_;refine zg3 (zg5 (α:=Nat) (λ j=>⟨[(0,bE l),(1, .fn (.func f) [] caps),(7, .int l.length),(8, .int j)], [],0⟩)
  (λ d j=>j+d=l.length∧(∀i<j,p (ac l i)=false)) ?_ l.length 0 ?_) ?_ ?_
 ·rintro d j ⟨i1,i2⟩ hrec;refine J0 ?_;refine zg4 (λ hj=> ?_) (λ hj=> ?_)<;>simp at hj
  ·refine J1 hj ?_;refine zg7 (hp _ (am hj)) (λ c hc=>by
    simp only [List.nil_append,List.cons_append,List.mem_cons] at hc;rcases hc with rfl|h
    ·exact hA _ _
    grind) ?_
   refine J0 ?_;refine zg4 (λ h=> ?_) (λ h=> ?_)
   ·repeat first|refine wV λ _=>?_|simp [go_sem,Ca hj i2 h]
   ·refine J0 ?_;refine zg3 (hrec (d - 1) ge (j+1) ⟨ge,λ i hi=> ?_⟩) ?_ gt
    ·grind
    ·simp [go_sem,aj];exact hb'
  ·have hn:=zj (p:=p) (l:=l) λ i hi=>i2 i ge;exact K1 hn
 ·simp
 ·simp [go_sem,aj];exact hb'
 ·simp
theorem Ak (l:List (Int×Int)) (hl:l.length<=1048576) (f:FuncId) (caps:List AV) (p:(Int×Int)->Bool) (hp:∀x ∈ l,aq Tryz.prog f (.agg (dC x)::caps) (.v (.bool (p x)))) (hb':∀c ∈ caps,aN 0 c):
  aq Tryz.prog 231 [bE l, .fn (.func f) [] caps] (.v (.bool (l.any p))):=by
 refine pF Tryz.func231 ?_;have hI:=ES l hl f caps p hp hb';refine J0 ?_;refine zg7 hI XJ ?_;repeat first|refine wV λ _=>?_|simp [go_sem,B9]
end Go.Av
end
section
open Go Go.Proofs Go.RowKit Go.Lib
namespace Go.Av
def zeP (P:Program) (g:Nat) (p:Nat->Bool) (w0:World):Prop:=
 ∀ (W:World) (x:Nat),Below w0.heap.size w0 W->Calls P g #[.int .i32 (x:Int)] W λ e w'=>e= .returned (.bool (p x))∧Below W.heap.size W w'∧W.drawn<=w'.drawn
set_option maxHeartbeats 2000000 in
set_option maxRecDepth 1000000 in
theorem E7 (g:Nat) (eg:∀args w,(callFunc g args).run Tryz.prog w= .ok (.enter g args) w) (p:Nat->Bool) (s:ByteArray) (w:World) (hp:zeP Tryz.prog g p w):
  Calls Tryz.prog 275 #[.string s, .func (.func g) #[] #[], .bool true] w λ e w'=>e= .returned (.int .i64 (Lib.idxFunc p true s))∧Below w.heap.size w w'∧w.drawn<=w'.drawn:=by
 have t0:=Tryz.underlying0;have a0:=Tryz.isAgg0;have z0:=Tryz.sizeOf0;have v0:=Tryz.zeroValue0;have t3:=Tryz.underlying3;have a3:=Tryz.isAgg3;have z3:=Tryz.sizeOf3;have v3:=Tryz.zeroValue3;have t4:=Tryz.underlying4;have a4:=Tryz.isAgg4;have z4:=Tryz.sizeOf4;have v4:=Tryz.zeroValue4;have t9:=Tryz.underlying9;have a9:=Tryz.isAgg9;have z9:=Tryz.sizeOf9;have v9:=Tryz.zeroValue9;have t21:=Tryz.underlying21;have a21:=Tryz.isAgg21;have z21:=Tryz.sizeOf21;have v21:=Tryz.zeroValue21;have t40:=Tryz.underlying345;have a40:=Tryz.isAgg345;have z40:=Tryz.sizeOf345;have v40:=Tryz.zeroValue345;go_enter Tryz.func275,Tryz.ntmps275
 go_wp2
 go_loopg [] s.size (λ gf wx=>∃pos:Nat,wx.heap[w.heap.size]? =some (.stringIter s pos)∧(Below w.heap.size w wx∧w.drawn<=wx.drawn)∧Lib.idxFuncFrom p true s gf pos=Lib.idxFunc p true s∧s.size<=pos+gf)
 case atStart=>exact ⟨0,World.iter_heap w s 0,⟨(Below.refl _ w).alloc (Nat.le_refl _) _,Nat.le_refl _⟩,rfl,ge⟩
 case round=>
  obtain ⟨pos,hit,⟨hbw,hdr⟩,hleft,hfu⟩:=hrel;by_cases hps:pos<s.size
  ·obtain ⟨g',rfl⟩:∃g',gk=g'+1:=⟨gk - 1,ge⟩
   have hnx:∀ty,(Instr.next (.pointer (some ⟨w.heap.size,0,none⟩)) true ty).run Tryz.prog wr= _:=λ ty=>Lib.run_next_any_at wr w.heap.size s pos ty hit hps;have hwd:=Lib.width_pos s pos;obtain ⟨R,hR⟩:∃R,(Utf8.decode s pos).1=R:=⟨_,rfl⟩
   obtain ⟨K,hK⟩:∃K,(Utf8.decode s pos).2=K:=⟨_,rfl⟩
   simp only [Lib.idxFuncFrom,hps,if_true,hR,hK] at hleft;rw [hR,hK] at hnx;rw [hK] at hwd;have hit2:=Lib.iterAt_heap wr w.heap.size s pos (pos+K) hit;have hbw2:=Lib.below_iterAt hbw (k:=w.heap.size) (Nat.le_refl _) s (pos+K);have hdr2:w.drawn<=(wr.iterAt w.heap.size s (pos+K)).drawn:=hdr;obtain ⟨W,hWd⟩:∃W,wr.iterAt w.heap.size s (pos+K)=W:=⟨_,rfl⟩
   rw [hWd] at hnx hit2 hbw2 hdr2;have hltW:w.heap.size<W.heap.size:=(Array.getElem?_eq_some_iff.1 hit2).1;have cS:Calls Tryz.prog g (#[.int .i32 (R:Int)]++ #[]) W _:=hp W R hbw2;clear hp;cases hsp:p R<;>rw [hsp] at cS<;>simp only [hsp,if_true,Bool.false_eq_true,Bool.true_eq_false,if_false] at hleft
   ·go_wp2_with (go_at_fn g;refine cS.mono ?_;rintro e W' ⟨rfl,hbc,hdc⟩)
    go_roundg g'
    case measure=>omega
    case rel=>exact ⟨pos+K,(hbc.block _ hltW).trans hit2,⟨(hbw2.trans (hbc.mono hbw2.size)),Nat.le_trans hdr2 hdc⟩,hleft,ge⟩
   ·go_wp2_with (go_at_fn g;refine cS.mono ?_;rintro e W' ⟨rfl,hbc,hdc⟩)
    go_ret
    exact ⟨by rw [<- hleft]<;>rfl,(hbw2.trans (hbc.mono hbw2.size)),Nat.le_trans hdr2 hdc⟩
  ·have hnx:∀ty,(Instr.next (.pointer (some ⟨w.heap.size,0,none⟩)) true ty).run Tryz.prog wr= _:=λ ty=>Lib.run_next_end_at wr w.heap.size s pos ty hit hps;rw [Lib.idxFuncFrom_end p true s gk pos hps] at hleft;go_wp2
   go_ret
   exact ⟨by rw [<- hleft]<;>rfl,hbw,hdr⟩
end Go.Av
end
section
open Go Go.Proofs
namespace Go.Av
theorem Hc (g:FuncId) (p:Nat->Bool) (hg:∀x:Nat,aq Tryz.prog g [.v (.int .i32 x)] (.v (.bool (p x)))) (s:ByteArray):
  aq Tryz.prog 275 [.v (.string s), .fn (.func g) [] [], .v (.bool true)] (.int (Lib.idxFunc p true s)):=by
 refine ⟨qe Tryz.func275 rfl rfl,λ M w vs hM hgl hr=> ?_⟩;cases hr with
 |cons h1 hr=>
 cases hr with
 |cons h2 hr=>
 cases hr with
 |cons h3 hr=>
 cases hr;cases h1;cases h3;cases h2 with
 | @fn _ _ _ fs cs q1 q2=>
 cases q1;cases q2;have hp:zeP Tryz.prog g p w:=λ W x hB=>by
  refine ((hg x).2 (λ _=>False) W [.int .i32 x] (λ _ h=>h.elim) (hgl.keep (λ k _ hk=>hB.block k hk) (λ k h=>h.elim)) (.cons (.v _) .nil)).mono ?_;rintro e w' ⟨v,rfl,hrv,hfr⟩;cases hrv;exact ⟨rfl,⟨hfr.os,hfr.tape,hfr.output,hfr.size,λ k hk=>hfr.block k hk (λ h=>h)⟩,hfr.drawn⟩
 refine (E7 g (hg 0).1 p s w hp).mono ?_;rintro e w' ⟨rfl,hb,hd⟩;exact ⟨_,rfl, .v _,⟨hb.os,hb.tape,hb.output,hd,hb.size,λ k hk _=>hb.block k hk⟩⟩
theorem Fi (g:FuncId) (p:Nat->Bool) (hg:∀x:Nat,aq Tryz.prog g [.v (.int .i32 x)] (.v (.bool (p x)))) (s:ByteArray):
  aq Tryz.prog 233 [.v (.string s), .fn (.func g) [] []] (.int (Lib.idxFunc p true s)):=by
 refine pF Tryz.func233 ?_;have h:=Hc g p hg s;refine J0 ?_;refine aP h ?_;exact K0
theorem HM (x:Nat):aq Tryz.prog 234 [.v (.int .i32 x)] (.v (.bool (decide (x<97∨122<x)))):=by
 refine pF Tryz.func234 ?_;have e1:decide ((x:Int)<97)=decide (x<97):=decide_eq_decide.2 ge;have e2:decide (122<(x:Int))=decide (122<x):=decide_eq_decide.2 ge;exact K2 e1 e2
theorem Io (s:ByteArray) (hs:s=xa∨s=zX):aq Tryz.prog 185 [.v (.string s)] (.v (.bool true)):=by
 refine pF Tryz.func185 ?_;have hI:=Fi 234 (λ x=>decide (x<97∨122<x)) HM s;have hidx:Lib.idxFunc (λ x=>decide (x<97∨122<x)) true s= -1:=by rcases hs with rfl|rfl<;>decide+kernel
 rw [hidx] at hI;have hne:(!s.toList.isEmpty && decide ((s.size:Int)<=8))=true:=by rcases hs with rfl|rfl<;>decide+kernel
 refine J1 hne ?_;refine zhb _ (λ _=>hI) no ?_;exact K0
theorem Q0 (k:kT) (nm:ByteArray):aq Tryz.prog 235 [.agg (cH k), .fp [.v (.string nm)]] (.v (.bool (k.name.toList==nm.toList))):=by
 refine pF Tryz.func235 ?_;exact K0
theorem Re (g:ae) (nm:ByteArray) (hk:g.kinds.length<=1048576):aq Tryz.prog 186 [.agg (ai g), .v (.string nm)] (.int (E5 (λ k=>k.name.toList==nm.toList) g.kinds)):=by
 refine pF Tryz.func186 ?_;have hI:=wW g.kinds hk 235 [.fp [.v (.string nm)]] (λ k=>k.name.toList==nm.toList) (λ k _=>Q0 k nm) no;refine J0 ?_;refine zhi (args':= [.lst 3 (g.kinds.map cH), .fn (.func 235) [] [.fp [.v (.string nm)]]]) hI (.v _) ?_ no ?_
 ·refine .cons (.refl _) (.cons (.fn .nil (.cons (.frzP rfl ?_ ?_ ?_ ?_) .nil)) .nil)<;>first|exact aY.refl _ _ _ _|simp [dO]
 exact K0
theorem uV (n:Int):aq Tryz.prog 182 [.int n] (.v (.bool (decide (1<=n) && decide (n<=3)))):=by
 refine pF Tryz.func182 ?_;exact K0
theorem St (g:ae) (c:Int×Int×Int×Int) (hk:g.kinds.length<=1048576) (hc:qN g.cells g.kinds.length c):aq Tryz.prog 190 [.agg (ai g), .agg (cd c)] (.v (.bool true)):=by
 refine pF Tryz.func190 ?_;obtain ⟨h1,⟨h2,h2'⟩,⟨h3,h4,h5,h6⟩,⟨h7,h7'⟩,h8⟩:=hc;have hR:=uV c.2.2.2;have e:(decide (1<=c.2.2.2) && decide (c.2.2.2<=3))=true:=pi;rw [e] at hR;obtain ⟨a,b,n,t⟩:=c;simp only at *;rcases h1 with rfl|rfl|rfl
 ·refine J2 h2 h2' ?_;refine aP hR ?_;exact K2 h4 h5
 ·refine J2 h2 h2' ?_;refine aP hR ?_;exact K2 h4 h3
 ·refine J2 h2 h2' ?_;refine aP hR ?_;exact K3 h8 h3 h6
end Go.Av
end
