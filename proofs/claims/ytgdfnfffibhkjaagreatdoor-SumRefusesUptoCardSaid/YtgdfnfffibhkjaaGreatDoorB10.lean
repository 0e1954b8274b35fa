/- Texts of ours, part 10: our library and contracts of functions. -/
import Derived.Test.YtgdfnfffibhkjaaGreatDoorB09
import Derived.Test.YtgdfnfffibhkjaaGreatDoorChecked
import Derived.Shelf.GgClosure.StringsIndexFunc
set_option linter.unusedSimpArgs false
set_option linter.unusedVariables false
set_option maxRecDepth 100000
set_option maxHeartbeats 40000000
section
/- solve.back. -/
set_option linter.unusedSectionVars false
open Go Go.Proofs
namespace Go.Av
def ztV (ls:List (List Nat)) (c:Nat) (x:Nat):List (List Nat):=ls.set c (nth ls c++ [x])
def zuB (b0:Nat) (ls:List (List Nat)):List (List AV):=(List.range ls.length).map λ k=> [.sl (b0+k) (nth ls k).length 1 0 (nth ls k).length]
def zLP (ls:List (List Nat)) (k:Nat):zcr:= .rows true (nth ls k).length 1 ((nth ls k).map zaR)
def zLO (b0:Nat) (ls:List (List Nat)):List (Nat×zcr):=(List.range ls.length).map λ k=>(b0+k,zLP ls k)
@[go_sem] theorem zKp (b0:Nat) (ls:List (List Nat)):(zuB b0 ls).length=ls.length:=by simp [zuB]
variable {ls:List (List Nat)} {b0 c k n:Nat}
theorem zKq  (h:k<ls.length):nth (zuB b0 ls) k= [.sl (b0+k) (nth ls k).length 1 0 (nth ls k).length]:=by
 grind [zuB,nth]
theorem zCg {p:Nat×zcr} (h:p ∈ zLO b0 ls):∃k,k<ls.length∧p=(b0+k,zLP ls k):=by
 grind [zLO]
theorem zHT {f:Nat->zcr}{b0:Nat}:∀ {l:List Nat}{k:Nat},k ∈ l->mkH (l.map λ k=>(b0+k,f k)) (b0+k)=some (f k)
 |a::l,k,h=>by
  simp only [List.map_cons,mkH,upd];by_cases e:k=a;all_goals simp_all [zHT]
theorem zpm  (h:k<ls.length):mkH (zLO b0 ls) (b0+k)=some (.rows true (nth ls k).length 1 ((nth ls k).map zaR)):=zHT (List.mem_range.2 h)
theorem zsF {x:Nat} (hc:c<ls.length):nth (ztV ls c x) k=if c=k then nth ls c++ [x] else nth ls k:=by
 grind [ztV,nth]
theorem zsE (ls:List (List Nat)) (c:Nat) (x:Nat):(ztV ls c x).length=ls.length:=by simp [ztV]
theorem zKr  (hc:c<ls.length) (x:Nat) (hn:n=(nth ls c).length+1):(zuB b0 ls).set c [.sl (b0+c) n 1 0 n]=zuB b0 (ztV ls c x):=by
 subst hn;refine List.ext_getElem (by simp [zuB,ztV]) λ i h1 h2=> ?_;grind [zuB,nth,ztV]
variable {h h':zay}
theorem zHm {n':Nat} (hat:∀k,k<ls.length->h (b0+k)=some (zLP ls k)) (hn:b0+ls.length<=n'):∀p ∈ zLO b0 ls,p.1<n'∧LeO h h' n p.1 (h p.1) p.2∧zqr n' p.2:=by
 intro p hp;obtain ⟨k,hk,rfl⟩:=zCg hp;refine ⟨aa, ?_,of_eq_true (zfo _ _)⟩;rw [hat k hk];exact .same (λ h=>h) (.refl _)
theorem zM1 {m:Nat} (hn:n<=b0) (hat:∀k,k<m->h' (b0+k)=some (.rows true 0 1 [])):zaM h h' n (List.replicate m [.v (.slice none 0 0)]) (zuB b0 (List.replicate m [])):=by
 have key:∀ (d i:Nat),i+d=m->zaM h h' n (List.replicate d [.v (.slice none 0 0)]) ((List.range' i d).map λ k=> [.sl (b0+k) (nth (List.replicate m ([]:List Nat)) k).length 1 0 (nth (List.replicate m ([]:List Nat)) k).length]):=by
  intro d;induction d with
  |zero=>intro i _;exact .nil
  |succ d ih=>
   intro i hi;rw [List.replicate_succ,List.range'_succ,List.map_cons];have e:nth (List.replicate m ([]:List Nat)) i= []:=ax;rw [e];exact .cons (.cons (.own aa (hat i aa)) .nil) (ih (i+1) aa)
 grind [List.range_eq_range',zuB]
theorem zM0  (hat:∀k,k<ls.length->h (b0+k)=some (zLP ls k)) (hat':∀k,k<ls.length->h' (b0+k)=none):zaM h h' n (zuB b0 ls) ((List.range ls.length).map λ k=>zbD (nth ls k)):=by
 unfold zuB;have key:∀ (l:List Nat),(∀k ∈ l,k<ls.length)->zaM h h' n (l.map λ k=> [.sl (b0+k) (nth ls k).length 1 0 (nth ls k).length]) (l.map λ k=>zbD (nth ls k)):=by
  intro l;induction l with
  |nil=>intro _;exact .nil
  |cons k l ih=>
   intro hl;rw [List.map_cons,List.map_cons];refine .cons (.cons ?_ .nil) (ih λ j hj=>hl j (by simp [hj]));grind [zaq,nth,zaB,zLP]
 grind
theorem zqO  (hn:b0+ls.length<=n):∀r ∈ zuB b0 ls,∀c ∈ r,Bel n c:=by
 intro r hr c hc;obtain ⟨k,hk,rfl⟩:=List.mem_map.1 hr;simp only [List.mem_singleton] at hc;subst hc;have:=List.mem_range.1 hk;exact .sl aa
theorem zM7 {o g sz:Nat}{rs rs':List (List AV)} (ho:h o=some (.rows true g sz rs)) (hr:zaM h h' n rs rs'):LeO h h' n o (h o) (.rows true g sz rs'):=by
 rw [ho];exact .same (λ h=>h) hr
theorem zMZ (ls:List (List Nat)):((List.range ls.length).map λ k=>zbD (nth ls k))=ls.map zbD:=by
 refine List.ext_getElem ac λ i h1 h2=> ?_;grind [nth]
def ztA (i:Nat):List Nat->List (List Nat)->List (List Nat)
 | [],ls=>ls
 |x::l,ls=>ztA i l (ztV ls x i)
def zGw (nx:List (List Nat)):Nat->List (List Nat)
 |0=>List.replicate nx.length []
 |k+1=>ztA k (nth nx k) (zGw nx k)
def zul (nx:List (List Nat)):List (List Nat):=zGw nx nx.length
theorem zxz (i:Nat):∀ (l:List Nat) (ls:List (List Nat)),(ztA i l ls).length=ls.length
 | [],ls=>rfl
 |x::l,ls=>by rw [ztA,zxz i l,zsE]
theorem zn3 (nx:List (List Nat)):∀k,(zGw nx k).length=nx.length
 |0=>by simp [zGw]
 |k+1=>by rw [zGw,zxz,zn3 nx k]
def ShtN (N:Nat) (ls:List (List Nat)):Prop:=∀i,(nth ls i).length<=N
theorem zHW {N:Nat} (h:ShtN N ls) (hc:c<ls.length) (x:Nat):ShtN (N+1) (ztV ls c x):=λ i=>by
 grind [zsF,ShtN]
theorem zxA (i:Nat):∀ (l:List Nat) (ls:List (List Nat)),l.Nodup->(∀x ∈ l,x<ls.length)->∀x,nth (ztA i l ls) x=if x ∈ l then nth ls x++ [i] else nth ls x
 | [],ls, _, _,x=>by simp [ztA]
 |y::l,ls,hn,hl,x=>by
  rw [ztA,zxA i l _ (List.nodup_cons.1 hn).2 (λ z hz=>by rw [zsE];exact hl z (by simp [hz])) x,zsF (hl y ac)];by_cases e:y=x
  ·subst e;simp [(List.nodup_cons.1 hn).1]
  ·simp [e,Ne.symm e]
theorem zBV (nx:List (List Nat)) (hn:∀k,k<nx.length->(nth nx k).Nodup) (hl:∀k,k<nx.length->∀x ∈ nth nx k,x<nx.length) (x:Nat):∀k,k<=nx.length->nth (zGw nx k) x=(List.range k).filter λ j=>decide (x ∈ nth nx j)
 |0, _=>by
  by_cases hx:x<nx.length
  ·grind [zGw,nth]
  ·unfold nth;simp [zGw,List.getD_eq_getElem?_getD,List.getElem?_replicate,hx];rfl
 |k+1,hk=>by
  rw [zGw,zxA k _ _ (hn k hk) (λ y hy=>by rw [zn3];exact hl k hk y hy),zBV nx hn hl x k aa,List.range_succ,List.filter_append];by_cases e:x ∈ nth nx k<;>simp [e]
theorem zqz {nx:List (List Nat)} (hn:∀k,k<nx.length->(nth nx k).Nodup) (hl:∀k,k<nx.length->∀x ∈ nth nx k,x<nx.length) (i:Nat):(nth (zul nx) i).Nodup∧∀k,k ∈ nth (zul nx) i↔k<nx.length∧i ∈ nth nx k:=by
 rw [zul,zBV nx hn hl i _ (Nat.le_refl _)];exact ⟨List.nodup_range.filter _,λ k=>ac⟩
theorem zE5 (nx:List (List Nat)) (hm:nx.length<=4000) (hl:∀k,k<nx.length->(nth nx k).length<=1048576∧∀x ∈ nth nx k,x<nx.length):zav Tryz.prog 156 [zax nx] (zax (zul nx)):=by
 obtain ⟨R,hR⟩:∃R,R=zul nx:=⟨_,rfl⟩
 obtain ⟨G,hG⟩:∃G:Nat->List (List Nat),∀k,G k=zGw nx k:=⟨_,λ _=>rfl⟩
 obtain ⟨m,hmm⟩:∃m,nx.length=m:=⟨_,rfl⟩
 have hGl:∀k,(G k).length=m:=λ k=>by grind [zn3]
 have hG0:G 0=List.replicate m []:=by grind [zGw]
 have hGs:∀k,G (k+1)=ztA k (nth nx k) (G k):=λ k=>by rw [hG,hG];rfl
 have hRG:R=G m:=by grind [zul]
 rw [<- hR];clear hR hG;rw [hmm] at hm hl;obtain ⟨B,hB⟩:∃B,B=1048576:=⟨_,rfl⟩
 rw [<- hB] at hl;have n1:∀k,¬0=1+k:=aa;have n2:∀k,¬1+k=0:=aa;rw [zax,zax];refine pF Tryz.func156 ?_;refine J1 hmm ?_;refine zNW (zNY (α:=Nat) (λ c=>⟨[(3, .sl 0 0 1 0 m),(11, .lst 1 (nx.map zbD)),(12, .int m),(13, .int c)],(0, .rows true 0 1 (zuB 1 (G c)))::zLO 1 (G c),1+m⟩)
  (λ d c=>c+d=m∧ShtN (c * B) (G c)) ?_ m 0 ?_) ?_ ?_
 ·rintro d c ⟨i1,i2⟩ hrec;have hGc:=hGl c;refine J1 hmm ?_;refine zNX (λ hc=> ?_) (λ hc=> ?_)<;>simp at hc
  ·have hcn:c<nx.length:=by omega
   obtain ⟨h1,h2⟩:=hl c aa;have hGs:=hGs c;have hnn:nth (nx.map zbD) c= [.lst 1 ((nth nx c).map zaR)]:=zau _ _ _ hcn;generalize nth nx c=nl at h1 h2 hGs hnn;refine J3 hmm hc hnn ?_;refine zNW (zNY (α:=Nat×List (List Nat)) (λ s=>⟨[(3, .sl 0 0 1 0 m),(4, .int c),(11, .lst 1 (nx.map zbD)),(12, .int m),(13, .int c),(18, .lst 1 (nl.map zaR)),(19, .int nl.length),(20, .int s.1)],(0, .rows true 0 1 (zuB 1 s.2))::zLO 1 s.2,1+m⟩)
    (λ d2 s=>s.1+d2=nl.length∧s.2.length=m∧ShtN (c * B+s.1) s.2∧ztA c (nl.drop s.1) s.2=G (c+1)) ?_ nl.length (0,G c) ?_) ?_ ?_
   ·rintro d2 ⟨jj,ls⟩ ⟨l1,hll,l2,l3⟩ hrec2;simp only at l1 hll l2 l3;refine J0 ?_;refine zNX (λ hjj=> ?_) (λ hjj=> ?_)<;>simp at hjj
    ·obtain ⟨x,hx⟩:∃x,nth nl jj=x:=⟨_,rfl⟩
     have hx4:x<m:=h2 x ax;have hxn:nth (nl.map zaR) jj= [.int x]:=by grind [zau,zaR]
     have hr1:nth (zuB 1 ls) x= [.sl (1+x) (nth ls x).length 1 0 (nth ls x).length]:=zKq aa;have hh1:mkH (zLO 1 ls) (1+x)=some (.rows true (nth ls x).length 1 ((nth ls x).map zaR)):=zpm aa;have hb1:=l2 x;have hb2:c * B<=4000 * B:=Nat.mul_le_mul_right _ aa;rw [List.drop_eq_getElem_cons hjj,<- zcp _ _ hjj,hx,ztA] at l3;have a1:¬x=m:=aa;have a3:¬m=x:=aa;have a5:¬1000000<=1+(m+1):=aa;have a8:((nth ls x).length+1) * 8<=17592186044416:=aa;repeat first|refine wV λ _=>?_|simp [go_sem,hjj,hxn,hc,hx4,hr1,hh1,hll,a1,a3,a5,a8,n1,n2]
     have e1:=zKr (b0:=1) (ls:=ls) (c:=x) aa c rfl;have hsh:=zHW l2 (c:=x) aa c;have hn2:=λ k=>zsF (ls:=ls) (c:=x) (k:=k) (x:=c) aa;have hl2:=zsE ls x c;obtain ⟨ls2,hls2⟩:∃ls2,ls2=ztV ls x c:=⟨_,rfl⟩
     rw [<- hls2] at e1 l3 hsh hl2;simp only [<- hls2] at hn2;refine zNW (hrec2 (d2 - 1) aa (jj+1,ls2) ⟨aa,af,hsh,l3⟩) ?_ ac;refine ⟨cB,λ p hp=> ?_⟩;simp only at hp ⊢;rcases List.mem_cons.1 hp with rfl|hp
     ·simp [go_sem,n1,n2,e1];refine ⟨aa,zqO aa⟩
     ·refine zHm (ls:=ls2) (λ k hk=> ?_) aa p hp;have hkm:¬k=m:=aa;have hk1:mkH (zLO 1 ls) (1+k)=some (.rows true (nth ls k).length 1 ((nth ls k).map zaR)):=zpm aa;simp only [zLP,hn2,upd,n2,hkm,if_false];by_cases q1:x=k
      ·simp_all [zaR]
      grind
    ·rw [List.drop_eq_nil_of_le aa] at l3;have l3':ls=G (c+1):=l3;subst l3';obtain rfl:jj=nl.length:=aa;refine J2 n1 n2 ?_;refine zNW (hrec (d - 1) aa (c+1) ⟨aa,λ i=>Nat.le_trans (l2 i) af⟩) ?_ ac;refine ⟨cB,λ p hp=> ?_⟩;simp only at hp ⊢;rcases List.mem_cons.1 hp with rfl|hp
     ·simp [go_sem,n1,n2];refine ⟨aa,zqO aa⟩
     ·refine zHm (ls:=G (c+1)) (λ k hk=> ?_) aa p hp;simp only [upd,n2,if_false];exact zpm hk
   ·grind
   ·refine ⟨cB,λ p hp=> ?_⟩;simp only at hp ⊢;rcases List.mem_cons.1 hp with rfl|hp
    ·simp [go_sem,n1,n2];refine ⟨aa,zqO aa⟩
    ·refine zHm (ls:=G c) (λ k hk=> ?_) aa p hp;simp only [upd,n2,if_false];exact zpm hk
   ·simp
  ·obtain rfl:c=m:=by omega
   refine J2 n1 n2 ?_;rw [hRG];refine LeV.frz (mt:=true) (rs:=zuB 1 (G c)) aj (by grind [zuB]) br ?_;have hl1:((zuB 1 (G c)).drop 0).take c=zuB 1 (G c):=by grind [zKp]
   rw [hl1,<- zMZ];refine zM0 (λ k hk=> ?_) (λ k hk=> ?_);all_goals simp_all [upd,zpm,zLP,noH]
 ·exact ⟨ac,λ i=>by rw [hG0];by_cases hi:i<m<;>simp [nth,List.getD_eq_getElem?_getD,List.getElem?_replicate,hi]<;>first|rfl|exact Nat.zero_le _⟩
 ·refine ⟨cB,λ p hp=> ?_⟩;simp only [hG0] at hp ⊢;rcases List.mem_cons.1 hp with rfl|hp
  ·refine ⟨aa,zM7 (rs:=List.replicate m [.v (.slice none 0 0)]) aj (zM1 (Nat.le_refl _) λ k hk=> ?_),zqO ac⟩;simp_all [zpm,zcp,mkH,upd]
  ·obtain ⟨k,hk,rfl⟩:=zCg hp;grind [zcp,zLP,LeO,upd,noH,zqr]
 ·simp
end Go.Av
end
section
/- Plain: chapter 23: the order of the nodes of a graph; where play comes back. -/
open Go Go.Proofs
namespace Go.Av
def zyR (nx:Nat->List Nat) (s:List Bool×List Nat) (i:Nat):List Bool×List Nat:=if nth s.1 i=false∧(nx i).all (λ j=>nth s.1 j)=true then (s.1.set i true,s.2++ [i]) else s
structure zo0 (nx:Nat->List Nat) (n:Nat) (s:List Bool×List Nat):Prop where
 len:s.1.length=n
 lt:∀i ∈ s.2,i<n
 dn:∀i,i<n->(nth s.1 i=true↔i ∈ s.2)
 nd:s.2.Nodup
 rk:∃rk:Nat->Nat,(∀i ∈ s.2,rk i<s.2.length)∧∀i ∈ s.2,∀j ∈ nx i,j ∈ s.2∧rk j<rk i
theorem zKU {l:List Bool}{i j:Nat}{b:Bool}:nth (l.set i b) j=if i=j∧j<l.length then b else nth l j:=by
 grind [nth]
theorem zo0.step {nx:Nat->List Nat}{n:Nat}{s:List Bool×List Nat} (h:zo0 nx n s) (hnx:∀i,i<n->∀j ∈ nx i,j<n){i:Nat} (hi:i<n):zo0 nx n (zyR nx s i):=by
 unfold zyR;split
 ·rename_i hc;obtain ⟨h1,h2⟩:=hc;obtain ⟨rk,r1,r2⟩:=h.rk;have hni:i ∉ s.2:=λ hm=>by rw [(h.dn i hi).2 hm] at h1;cases h1
  refine ⟨by simp [h.len],λ j hj=> ?_,λ j hj=> ?_, ?_,λ j=>if j=i then s.2.length else rk j,λ j hj=> ?_,λ j hj k hk=> ?_⟩
  ·rcases List.mem_append.1 hj with hj|hj
   ·exact h.lt j hj
   grind
  ·show nth (s.1.set i true) j=true↔j ∈ s.2++ [i]
   rw [zKU,h.len,List.mem_append,List.mem_singleton];by_cases e:i=j
   ·grind
   ·rw [if_neg (λ k=>e k.1),h.dn j hj];grind
  ·refine List.nodup_append.2 ⟨h.nd,ac,λ a ha b hb e=> ?_⟩;grind
  ·grind
  ·show k ∈ s.2++ [i]∧(if k=i then s.2.length else rk k)<if j=i then s.2.length else rk j
   by_cases e:j=i
   ·subst e;have hkd:=List.all_eq_true.1 h2 k hk;have hks:=(h.dn k (hnx j hi k hk)).1 hkd;grind
   grind
 ·exact h
def nxG (L R:List (List Nat)) (i:Nat):List Nat:=nth L i++nth R i
section
variable {g:zaa} {P:List zae} {L R:List (List Nat)} (h:zwW g P L R P.length)
include h
theorem zLT:∀i,i<P.length->∀j ∈ nxG L R i,j<P.length:=λ i hi j hj=>by
 rcases List.mem_append.1 hj with hj|hj
 ·rw [h.ol i hi] at hj;obtain ⟨q,hq,rfl⟩:=List.mem_map.1 hj;exact (zbM (h.mem i hi 0 (.inl rfl) q hq)).1
 ·rw [h.or i hi] at hj;obtain ⟨q,hq,rfl⟩:=List.mem_map.1 hj;exact (zbM (h.mem i hi 1 (.inr rfl) q hq)).1
end
end Go.Av
end
section
open Go Go.Proofs
namespace Go.Av
def zmP (b:Bool):List AV:= [.bool b]
theorem zxw (n:Nat) (l:List Bool):(∀r ∈ l.map zmP,∀c ∈ r,Bel n c)=True:=eq_true λ r hr c hc=>by
 obtain ⟨x, _,rfl⟩:=List.mem_map.1 hr;simp only [zmP,List.mem_singleton] at hc;subst hc;exact .v _
attribute [go_sem ↓] zxw
theorem zo0.le {nx:Nat->List Nat}{n:Nat}{s:List Bool×List Nat} (h:zo0 nx n s):s.2.length<=n:=by
 have:=List.Nodup.length_le_of_subset h.nd (l₂:=List.range n) λ j hj=>List.mem_range.2 (h.lt j hj);grind
end Go.Av
end
section
open Go Go.Proofs
namespace Go.Av
open zab
end Go.Av
end
section
open Go Go.Proofs
namespace Go.Av
open zab
theorem zyN:∀k:Nat,(zNk k).size=k+1
 |0=>rfl
 |k+1=>by rw [zNk,size,zaw,zaw,zyN k];simp [zaw];omega
theorem zyM:∀k:Nat,(zNj k).size=k+1
 |0=>rfl
 |k+1=>by rw [zNj,size,zaw,zaw,zyM k];simp [zaw];omega
theorem zHu (n:Int):(zFv n).size=n.natAbs+1:=by
 grind [zFv,zyN,zyM]
def zCM (f:zab) (s:Int×Int) (n:Int):Int×Int:=(if leq (zFv n) f=true then n else s.1,if leq f (zFv n)=true∧n<s.2 then n else s.2)
def spF (f:zab) (k:Nat):Int×Int:=(List.range k).foldl (λ s (i:Nat)=>zCM f s (-8+(i:Int))) (-9,9)
theorem zLc (f:zab) (k:Nat):spF f (k+1)=zCM f (spF f k) (-8+(k:Int)):=by
 grind [spF,List.range_succ]
end Go.Av
end
section
open Go Go.Proofs
namespace Go.Av
open zab
def zk6 (F:zae->zab) (E:zae->Int):List zae->zab->zab×Int
 | [],t=>(t,0)
 |q::l,t=>if E q≠0 then (zero,E q) else if 2000<(add t (F q).canon).size then (zero,2) else zk6 F E l (add t (F q).canon).canon
theorem zhM:zbt zero= [.lst 2 [], .lst 2 []]:=by rw [zao];rfl
end Go.Av
end
section
open Go Go.Proofs
namespace Go.Av
open zab
theorem zzR (g:zaa) (p:zae) (hfp:zbc p) (f:zab) (hf:f.size<=2000) (hLq:∀a b:zab,a.size<=2000->b.size<=2000->zav Tryz.prog 33 [zbQ a,zbQ b] (.bool (leq a b)))
  (hT:zav Tryz.prog 48 [.agg (zad g), .agg (zag p)] (.tup [.agg (zbt f), .int 0])):
  zav Tryz.prog 60 [.agg (zad g), .agg (zag p)] (.tup [.agg [.int (spF f 17).1, .int (spF f 17).2], .int 0]):=by
 have hegl:(zad g).length=9:=rfl;have hegb:∀n,(∀c ∈ zad g,Bel n c)=True:=λ n=>ae;have hff:zbt f= [.lst 2 (zar f.L), .lst 2 (zar f.R)]:=zao f;rw [hff] at hT;obtain ⟨S,hS⟩:∃S:Nat->Int×Int,∀i,S i=spF f i:=⟨_,λ _=>rfl⟩
 rw [<- hS];have S0:S 0=(-9,9):=by rw [hS];rfl
 have Ss:∀i:Nat,S (i+1)=zCM f (S i) (-8+(i:Int)):=λ i=>by rw [hS,hS,zLc]
 clear hS;refine pF Tryz.func60 ?_;refine J0 ?_;refine aP hT ?_;refine J0 ?_;refine zNW (zNY (α:=Nat) (λ i=>⟨[(4, .ref 2 0 2 0 0),(6, .ref 3 0 2 0 0),(8, .ref 4 0 2 0 0),(9, .int (-8+(i:Int)))], [(2, .rows true 0 2 [[.int 0, .int 0]]),(3, .rows true 0 2 [[.lst 2 (zar f.L), .lst 2 (zar f.R)]]),(4, .rows true 0 2 [[.int (S i).1, .int (S i).2]])],5⟩)
  (λ d i=>i+d=17) ?_ 17 0 ?_) ?_ ?_
 ·intro d i hi hrec;obtain ⟨x,hx⟩:∃x:Int,x= -8+(i:Int):=⟨_,rfl⟩
  have hxi: -8+((i+1:Nat):Int)=x+1:=aa;have hxi2: -8+((i:Int)+1)=x+1:=aa;have hs:=Ss i;rw [<- hx] at hs ⊢;refine J0 ?_;refine zNX (λ hi2=> ?_) (λ hi2=> ?_)<;>simp at hi2
  ·have hO:=zMc x aa;have hz:=zHu x;have c1:=hLq (zFv x) f aa hf;have c2:=hLq f (zFv x) hf aa;rw [zbQ,zbQ,hff] at c1 c2;rw [zbQ] at hO;rw [zCM] at hs;have hx1:x<=8:=aa;have hx2: -8<=x:=aa;cases h1:leq (zFv x) f
   ·rw [h1] at c1 hs;cases h2:leq f (zFv x)
    ·rw [h2] at c2 hs;refine J2 hx1 hx2 ?_;refine aP hO ?_;refine J2 hx1 hx2 ?_;refine aP c1 ?_;refine J2 hx1 hx2 ?_;refine aP c2 ?_;refine J2 hx1 hx2 ?_;refine zNW (hrec (d - 1) aa (i+1) aa) ?_ ac;simp [go_sem,zaf,hs,hxi,hxi2]
    ·rw [h2] at c2 hs;refine J2 hx1 hx2 ?_;refine aP hO ?_;refine J2 hx1 hx2 ?_;refine aP c1 ?_;refine J2 hx1 hx2 ?_;refine aP c2 ?_;refine J2 hx1 hx2 ?_;refine zNW (hrec (d - 1) aa (i+1) aa) ?_ ac;simp [go_sem,zaf,hs,hxi,hxi2]
   ·rw [h1] at c1 hs;cases h2:leq f (zFv x)
    ·rw [h2] at c2 hs;refine J2 hx1 hx2 ?_;refine aP hO ?_;refine J2 hx1 hx2 ?_;refine aP c1 ?_;refine J2 hx1 hx2 ?_;refine aP c2 ?_;refine J2 hx1 hx2 ?_;refine zNW (hrec (d - 1) aa (i+1) aa) ?_ ac;simp [go_sem,zaf,hs,hxi,hxi2]
    ·rw [h2] at c2 hs;refine J2 hx1 hx2 ?_;refine aP hO ?_;refine J2 hx1 hx2 ?_;refine aP c1 ?_;refine J2 hx1 hx2 ?_;refine aP c2 ?_;refine J2 hx1 hx2 ?_;refine zNW (hrec (d - 1) aa (i+1) aa) ?_ ac;simp [go_sem,zaf,hs,hxi,hxi2]
  ·obtain rfl:i=17:=by omega
   exact K0
 ·omega
 ·skip
  simp [go_sem,zaf,S0]
 ·simp
end Go.Av
end
section
open Go Go.Proofs
namespace Go.Av
open zab
theorem zxi (g:zaa) (p:zae) (hfp:zbc p) (f:zab) (r:Int) (hT:zav Tryz.prog 48 [.agg (zad g), .agg (zag p)] (.tup [.agg (zbt f), .int 0]))
  (hW:zav Tryz.prog 31 [zbQ f, .int p.side] (.int r)):
  zav Tryz.prog 56 [.agg (zad g), .agg (zag p)] (.tup [.int r, .int 0]):=by
 have hegl:(zad g).length=9:=rfl;have hegb:∀n,(∀c ∈ zad g,Bel n c)=True:=λ n=>ae;rw [zao] at hT;rw [zbQ,zao] at hW;refine pF Tryz.func56 ?_;refine J0 ?_;refine aP hT ?_;refine J0 ?_;refine aP hW ?_;exact K0
theorem zrm (g:zaa) (p:zae) (hfp:zbc p) (hT:zav Tryz.prog 48 [.agg (zad g), .agg (zag p)] (.tup [.agg [.lst 2 [], .lst 2 []], .int 230])):
  zav Tryz.prog 56 [.agg (zad g), .agg (zag p)] (.tup [.int 0, .int 230]):=by
 have hegl:(zad g).length=9:=rfl;have hegb:∀n,(∀c ∈ zad g,Bel n c)=True:=λ n=>ae;refine pF Tryz.func56 ?_;refine J0 ?_;refine aP hT ?_;exact K0
theorem zDf (g:zaa) (p:zae) (hfp:zbc p) (e:Int) (he:e≠0) (hT:zav Tryz.prog 48 [.agg (zad g), .agg (zag p)] (.tup [.agg [.lst 2 [], .lst 2 []], .int e])):
  zav Tryz.prog 60 [.agg (zad g), .agg (zag p)] (.tup [.agg [.int 0, .int 0], .int e]):=by
 have hegl:(zad g).length=9:=rfl;have hegb:∀n,(∀c ∈ zad g,Bel n c)=True:=λ n=>ae;refine pF Tryz.func60 ?_;refine J0 ?_;refine aP hT ?_;exact K1 he
end Go.Av
end
section
open Go Go.Proofs
namespace Go.Av
theorem zhL (o:Nat) (x:Option zcr) (h:zay):zap [(o,x)] h=upd h o x:=rfl
theorem zOf {P:Program}{n:Nat}{ops:List Oper}{Q:zc2}{m i:Nat}{rest:List Oper}{e:Env}{h:zay}{acc:List ziQ}{dst:Option Tmp}{f:FuncId}{first caps args:List AV} (rs:List Nat) (wr:List (Nat×Option zcr)) (R:AV)
  (hcall:∀ (h₁:zay) (n₁:Nat),(∀o ∈ rs,h o=h₁ o)->(∀o ∈ rs,o<n₁)->∀K:zbH,K R (zap wr h₁) n₁->zaj P f (first++args++caps) h₁ n₁ K)
  (hS:∀o ∈ rs,∃x,h o=some x) (hw:∀p ∈ wr,p.1 ∈ rs∧∃g sz rws,p.2=some (.rows true g sz rws)∧∀r ∈ rws,∀c ∈ r,Bel 0 c) (hR:zpM rs R)
  (hk:adr P n ops Q m (i+1) rest (put e dst R) (zap wr h) (acc++ [(rs,wr.map (·.1))])):zbV P n ops Q m i rest dst (.fn (.func f) first caps) args e h acc:=
 ⟨R,rs,wr, .inr (.inr (.inl ⟨f,first,caps,rfl,hS,hw, .inr (.inl hR),λ h₁ n₁ hx hn=>hcall h₁ n₁ hx hn _ ⟨rfl,rfl,rfl⟩⟩)),hk⟩
end Go.Av
end
section
open Go Go.Proofs
namespace Go.Av
open zab
theorem zGm (a l r:Nat) (t:List zae) (gl gr nl nr:Nat) (x:Value):zpM [a,l,r] (.tup [.agg (grR a l r t gl gr nl nr), .v x]):=by
 refine .tup λ c hc=> ?_;simp only [List.mem_cons,List.not_mem_nil,or_false] at hc;rcases hc with rfl|rfl
 ·refine .agg λ c hc=> ?_;simp only [grR,List.mem_cons,List.not_mem_nil,or_false] at hc;rcases hc with rfl|rfl|rfl|rfl
  ·exact .sl ac
  ·exact .sl ac
  ·exact .sl ac
  ·exact .v _
 ·exact .v _
theorem zr3 (p0:zae) (t:List zae) (hP:t.length<=1048576) (hf:∀q ∈ lp p0 t,zbc q) (Lr Rr:List (List AV)) (gl gr nl nr:Nat) (hL:∀r ∈ Lr,∀c ∈ r,Bel 0 c) (hR:∀r ∈ Rr,∀c ∈ r,Bel 0 c) (p:zae) (hp:zbc p) (t':List zae) (ht:znS p0 t (sdP p 0)=t')
  {h:zay} {n:Nat} {K:zbH} (a l r:Nat) (hd:a≠l∧a≠r∧l≠r) (hn:a<n∧l<n∧r<n) (ha:h a=some (.rows true t.length 5 ((lp p0 t).map zag))) (hl:h l=some (.rows true gl 1 Lr)) (hr:h r=some (.rows true gr 1 Rr))
  (hk:K (.tup [.agg (grR a l r t' gl gr nl nr), .int (ixP (lp p0 t') (sdP p 0))]) (upd h a (some (.rows true t'.length 5 ((lp p0 t').map zag)))) n):
  zaj Tryz.prog 78 [.agg (grR a l r t gl gr nl nr), .agg (zag p)] h n K:=by
 have r0:ren [a,l,r] n 0=a:=rfl;have r1:ren [a,l,r] n 1=l:=rfl;have r2:ren [a,l,r] n 2=r:=rfl;have bP:∀l:List zae,∀r ∈ l.map zag,∀c ∈ r,Bel 0 c:=λ l=>of_eq_true ae;have bq:∀n,∀c ∈ zag p,Bel n c:=λ n=>ae;refine zN8 (R:= .tup [.agg (grR a l r t' gl gr nl nr), .int (ixP (lp p0 t') (sdP p 0))]) (args':= [.agg (grR a l r t gl gr nl nr), .agg (zag p)]) (HH:= [(a, .rows true t'.length 5 ((lp p0 t').map zag)),(l, .rows true gl 1 Lr),(r, .rows true gr 1 Rr)]) [a,l,r] h
  (zAu p0 t hP hf Lr Rr gl gr nl nr hL hR p hp t' ht) af af rfl (Nat.le_refl _) (.refl _) ?_ ?_ (.refl _ _ _ _) ?_ ?_ ?_ ?_ ?_ ?_
 ·intro j hj;have:j=0∨j=1∨j=2:=aa;rcases this with rfl|rfl|rfl
  ·exact ⟨_, _,rfl,af, .rows (.same (bP _))⟩
  ·exact ⟨_, _,rfl,af, .rows (.same hL)⟩
  ·exact ⟨_, _,rfl,af, .rows (.same hR)⟩
 ·intro x hx;simp only [List.mem_cons,List.not_mem_nil,or_false] at hx;rcases hx with rfl|rfl|rfl
  ·exact ⟨ac,λ r hr c hc=>(bP _ r hr c hc).mono (Nat.zero_le _)⟩
  ·exact ⟨ac,λ r hr c hc=>(hL r hr c hc).mono (Nat.zero_le _)⟩
  ·exact ⟨ac,λ r hr c hc=>(hR r hr c hc).mono (Nat.zero_le _)⟩
 ·intro c hc;simp only [List.mem_cons,List.not_mem_nil,or_false] at hc;rcases hc with rfl|rfl
  ·simp [go_sem,grR,hn.1,hn.2.1,hn.2.2]
  ·exact .agg (bq _)
 ·exact .cons (.agg (.cons (.sl r0.symm) (.cons (.sl r1.symm) (.cons (.sl r2.symm) (.cons (.same (.v _)) .nil))))) (.cons (.same (.agg (bq _))) .nil)
 ·intro c hc;simp only [List.mem_cons,List.not_mem_nil,or_false] at hc;rcases hc with rfl|rfl
  ·simp [go_sem,grR]
  ·exact .agg (bq _)
 ·exact .tup (.cons (.agg (.cons (.sl r0.symm) (.cons (.sl r1.symm) (.cons (.sl r2.symm) (.cons (.same (.v _)) .nil))))) (.cons (.same (.v _)) .nil))
 ·exact .cons r0.symm (.rows (.same (bP _))) (.cons r1.symm (.rows (.same hL)) (.cons r2.symm (.rows (.same hR)) .nil))
 ·have e:zdU [(a, .rows true t'.length 5 ((lp p0 t').map zag)),(l, .rows true gl 1 Lr),(r, .rows true gr 1 Rr)] (ziM [a,l,r] h)=upd h a (some (.rows true t'.length 5 ((lp p0 t').map zag))):=by
   funext x;by_cases x0:x=a
   ·simp_all [zdU,upd]
   ·by_cases x1:x=l;all_goals simp_all [zdU,ziM,upd]
  grind
theorem zvm {l:List zae}{i:Nat} (hi:i<l.length):l.take (i+1)=l.take i++ [nth l i]:=by
 grind [List.take_append_getElem,nth]
theorem optT (q:zae) (t:List zae) (os:List zae):∃ (T:Nat->List zae) (N:Nat->List Nat),T 0=t∧N 0= []∧(∀j,j<os.length->T (j+1)=znS q (T j) (nth os j)∧N (j+1)=N j++ [ixP (lp q (T (j+1))) (nth os j)])∧
  (∀j,j<=os.length->(N j).length=j)∧lp q (T os.length)=os.foldl zd1 (lp q t)∧N os.length=(zFx (lp q t) os).2∧(∀j,(T j).length<=t.length+j)∧(∀j,t.length<=(T j).length)∧∀j,∀x ∈ lp q (T j),x ∈ lp q t∨x ∈ os:=by
 obtain ⟨S,hS⟩:∃S:Nat->List zae×List Nat,∀j,S j=(os.take j).foldl (λ s q=>(zd1 s.1 q,s.2++ [ixP (zd1 s.1 q) q])) (lp q t, []):=⟨_,λ _=>rfl⟩
 have hS1:∀j,(S j).1=lp q ((os.take j).foldl (znS q) t):=λ j=>by
  rw [hS,zsL _ _ _ [],<- zof]
 have hSs:∀j,j<os.length->S (j+1)=(zd1 (S j).1 (nth os j),(S j).2++ [ixP (zd1 (S j).1 (nth os j)) (nth os j)]):=λ j hj=>by
  grind [zvm]
 have hTs:∀j,j<os.length->(os.take (j+1)).foldl (znS q) t=znS q ((os.take j).foldl (znS q) t) (nth os j):=λ j hj=>zuz q t os hj;refine ⟨λ j=>(os.take j).foldl (znS q) t,λ j=>(S j).2,rfl,af,λ j hj=>⟨hTs j hj, ?_⟩,λ j hj=> ?_, ?_, ?_,λ j=> ?_,λ j=>zpj q _ t,λ j x hx=> ?_⟩
 ·grind
 ·induction j<;>grind
 all_goals grind [zof,zr7,zlK,zFx]
def zBi:Option (List zae×List (List Nat)×List (List Nat))->AV
 |none=> .agg [.lst 5 [], .lst 1 [], .lst 1 [], .bool true]
 |some (P,L,R)=> .agg [zaC P,zax L,zax R, .bool false]
theorem zlj (g:zaa) (hg:GOk g) (p:zae) (hp:POk g p) (limit:Nat) (hl:1<=limit∧limit<=4000):zav Tryz.prog 39 [.agg (zad g), .agg (zag p), .int limit] (zBi (zbe g limit 4002 0 [sdP p 0] [] [])):=by
 have hT:zav Tryz.prog 30 [.agg (zag p), .int 0] (.agg (zag (sdP p 0))):=zeK p (hp.fits hg) 0;have hq0:=zbb hp (s:=0) (.inl rfl);obtain ⟨q,hq⟩:∃q,q=sdP p 0:=⟨_,rfl⟩
 rw [<- hq] at hT hq0 ⊢;clear hq;have hegl:(zad g).length=9:=rfl;have hegb:∀n,(∀c ∈ zad g,Bel n c)=True:=λ n=>ae;obtain ⟨R,hR⟩:∃R,R=zbe g limit 4002 0 [q] [] []:=⟨_,rfl⟩
 rw [<- hR];refine pF Tryz.func39 ?_;refine J0 ?_;refine aF Tryz.func78 ?_;refine J0 ?_;refine aP hT ?_;refine J0 ?_;refine zNZ ?_;refine J0 ?_;refine zNW (zNY (α:=Nat×List zae×List (List Nat)×List (List Nat)) (λ a=>⟨[(2, .int limit),(3, .ref 0 0 9 0 0),(6, .ref 2 0 4 0 0),(7, .ref 16 0 4 0 0),(8, .int a.1)],
   [(0, .rows true 0 9 [zad g]),(2, .rows true 0 4 [[AV.nils,AV.nils,AV.nils, .bool false]]),(8, .rows true a.2.1.length 5 ((lp q a.2.1).map zag)),(16, .rows true 0 4 [grR 8 17 18 a.2.1 a.1 a.1 a.1 a.1]),(17, .rows true a.1 1 (a.2.2.1.map zbD)),(18, .rows true a.1 1 (a.2.2.2.map zbD))],19⟩)
  (λ d a=>a.1+d=4002∧a.2.1.length<=3999∧a.1<=a.2.1.length+1∧a.2.2.1.length=a.1∧a.2.2.2.length=a.1∧(∀x ∈ lp q a.2.1,POk g x)∧R=zbe g limit d a.1 (lp q a.2.1) a.2.2.1 a.2.2.2) ?_ 4002 (0, [], [], []) ?_) ?_ ?_
 rotate_left
 ·grind [lp]
 ·simp [go_sem,zaf,zHN,grR]
 ·simp
 rintro d ⟨k,t,Ls,Rs⟩ ⟨i1,i2,i3,i4,i5,i6,i7⟩ hrec;simp only at i1 i2 i3 i4 i5 i6 i7;obtain ⟨d,rfl⟩:∃d',d=d'+1:=⟨d - 1,aa⟩
 have hlp:=ziv q t;rw [zbe] at i7;repeat first|refine wV λ _=>?_|simp [go_sem,hlp,grR]
 refine zNX (λ hk=> ?_) (λ hk=> ?_)<;>simp at hk
 ·have hkl:k<(lp q t).length:=by omega
  rw [if_pos hkl] at i7;have hp0:=i6 _ (zah hkl);have hnk:nth ((lp q t).map zag) k=zag (nth (lp q t) k):=zau _ _ _ hkl;generalize hn:nth (lp q t) k=pk at *;have hT0:zav Tryz.prog 30 [.agg (zag pk), .int 0] (.agg (zag (sdP pk 0))):=zeK pk (hp0.fits hg) 0;have hT1:zav Tryz.prog 30 [.agg (zag pk), .int 1] (.agg (zag (sdP pk 1))):=zeK pk (hp0.fits hg) 1;have hk0:=zbb hp0 (s:=0) (.inl rfl);have hk1:=zbb hp0 (s:=1) (.inr rfl);have hM0:=zcn g hg _ hk0;have hM1:=zcn g hg _ hk1;have hml0:=zbf hg hk0;have hml1:=zbf hg hk1;have hmo:=λ m hm=>((zaE hg hk0 m hm).1).fits hg;have hmp:=λ m hm=>((zaE hg hk1 m hm).1).fits hg;have ho0:∀x ∈ zbP g pk 0,POk g x:=λ x hx=>by
   obtain ⟨y,hy,rfl⟩:=List.mem_map.1 hx;grind [zbb,zaE,zag]
  have ho1:∀x ∈ zbP g pk 1,POk g x:=λ x hx=>by
   obtain ⟨y,hy,rfl⟩:=List.mem_map.1 hx;grind [zbb,zaE,zag]
  obtain ⟨os,hos⟩:∃os,os=zbP g pk 0:=⟨_,rfl⟩
  obtain ⟨ot,hot⟩:∃ot,ot=zbP g pk 1:=⟨_,rfl⟩
  have hosl:os.length=(zai g (sdP pk 0)).length:=by grind [zbP]
  have hotl:ot.length=(zai g (sdP pk 1)).length:=by grind [zbP]
  rw [<- hos,<- hot] at i7;rw [<- hos] at ho0;rw [<- hot] at ho1;obtain ⟨T,N,T0,N0,Ts,Nl,Te,Ne,Tb,Tg,To⟩:=optT q t os;rw [<- Te,<- Ne] at i7;obtain ⟨t1,ht1⟩:∃t1,t1=T os.length:=⟨_,rfl⟩
  rw [<- ht1] at i7;have hnt1:nth (lp q t1) k=pk:=by
   obtain ⟨r,hr⟩:=ze4 os (lp q t);grind [nth]
  obtain ⟨U,M,U0,M0,Us,Ml,Ue,Me,Ub,Ug,Uo⟩:=optT q t1 ot;rw [<- Ue,<- Me] at i7;have hTp:∀j,∀x ∈ lp q (T j),POk g x:=λ j x hx=>(To j x hx).elim (i6 x) (ho0 x);have hUp:∀j,∀x ∈ lp q (U j),POk g x:=λ j x hx=>(Uo j x hx).elim (λ h=>hTp os.length x (ht1▸h)) (ho1 x);have Tf:∀j,∀x ∈ lp q (T j),zbc x:=λ j x hx=>(hTp j x hx).fits hg;have Uf:∀j,∀x ∈ lp q (U j),zbc x:=λ j x hx=>(hUp j x hx).fits hg;have ht1l:t1.length<=3999+472446:=af;generalize hmv:zai g (sdP pk 0)=mv at *;generalize hmw:zai g (sdP pk 1)=mw at *;replace Tb:∀j,j<=mv.length->(T j).length<=1048576:=λ j hj=>af;replace Ub:∀j,j<=mw.length->(U j).length<=1048576:=λ j hj=>af;rw [hosl,hotl] at i7;rw [hosl] at ht1;clear hk0 hk1 hp0;repeat first|refine wV λ _=>?_|simp [go_sem,hlp,hnk,grR]
  refine zNZ ?_;repeat first|refine wV λ _=>?_|simp [go_sem,hlp,hkl,hnk,grR]
  refine dP hT0 ?_;refine J1 hlp ?_;refine dP hM0 ?_;refine J1 hlp ?_;refine zNW (zNY (α:=Nat) (λ j=>⟨[(2, .int limit),(3, .ref 0 0 9 0 0),(6, .ref 2 0 4 0 0),(7, .ref 16 0 4 0 0),(8, .int k),(9, .ref 19 0 2 0 0),(10, .int 0),(11,zaC mv),(12, .int j)], [(0, .rows true 0 9 [zad g]),(2, .rows true 0 4 [[AV.nils,AV.nils,AV.nils, .bool false]]),(8, .rows true (T j).length 5 ((lp q (T j)).map zag)),(16, .rows true 0 4 [grR 8 17 18 (T j) k k k k]),(17, .rows true k 1 (Ls.map zbD)),(18, .rows true k 1 (Rs.map zbD)),(19, .rows true 0 2 [[.sl 30 j 1 0 j,AV.nils]]),(30, .rows true j 1 ((N j).map zaR))],31⟩)
   (λ d j=>j+d=mv.length) ?_ mv.length 0 ?_) ?_ ?_
  ·rintro d3 j j1 hrec3;have hlj:=ziv q (T j);have hnj:=Nl j aa;repeat first|refine wV λ _=>?_|simp [go_sem,hlj,hnj,grR]
   refine zNX (λ hj=> ?_) (λ hj=> ?_)<;>simp at hj
   ·have hj2:j<os.length:=by omega
    have hj3:j<mv.length:=aa;have hno:sdP (nth mv j) 0=nth os j:=de;have hst:=(Ts j hj2).1;have hsn:=(Ts j hj2).2;repeat first|refine wV λ _=>?_|simp [go_sem,hj3,hlj,hnj,grR]
    refine zOf [8,17,18] [(8,some (.rows true (T (j+1)).length 5 ((lp q (T (j+1))).map zag)))] (.tup [.agg (grR 8 17 18 (T (j+1)) k k k k), .int (ixP (lp q (T (j+1))) (sdP (nth mv j) 0))])
     (λ h₁ n₁ hx hn K hK=>zr3 q (T j) (Tb j aa) (Tf j) (Ls.map zbD) (Rs.map zbD) k k k k (of_eq_true (zgN _ _)) (of_eq_true (zgN _ _)) (nth mv j) (hmo _ (zah hj3)) (T (j+1)) (by rw [hno,hst]) 8 17 18 ai ⟨hn 8 ac,hn 17 ac,hn 18 ac⟩ ((hx 8 ac).symm.trans rfl) ((hx 17 ac).symm.trans rfl) ((hx 18 ac).symm.trans rfl) (by rw [zhL] at hK;exact hK)) ?_ ?_ ?_ ?_
    ·intro o ho;simp only [List.mem_cons,List.not_mem_nil,or_false] at ho;rcases ho with rfl|rfl|rfl<;>exact ⟨_,rfl⟩
    ·intro x hx;simp only [List.mem_singleton] at hx;subst hx;exact ⟨ac, _, _, _,rfl,of_eq_true ae⟩
    ·exact zGm _ _ _ _ _ _ _ _ _
    rw [zhL];rw [hno];repeat first|refine wV λ _=>?_|simp [go_sem,hnj,grR]
    refine zNW (hrec3 (d3 - 1) aa (j+1) aa) ?_ ac;simp [go_sem,zaf,hsn,zaR,grR]
   ·obtain rfl:j=mv.length:=by omega
    have hl1:=ziv q t1;have hn0l:=Nl mv.length aa;rw [<- ht1];generalize N mv.length=n0 at *;repeat first|refine wV λ _=>?_|simp [go_sem,hl1,hn0l,grR]
    refine zNZ ?_;have hkl1:k<(lp q t1).length:=dA;have hkl2:k<t1.length+1:=aa;have hnk1:nth ((lp q t1).map zag) k=zag pk:=by rw [zau _ _ _ hkl1,hnt1]
    repeat first|refine wV λ _=>?_|simp [go_sem,hl1,hn0l,hkl1,hkl2,hnk1,grR]
    refine dP hT1 ?_;refine J2 hl1 hn0l ?_;refine dP hM1 ?_;refine J2 hl1 hn0l ?_;refine zNW (zNY (α:=Nat) (λ j=>⟨[(2, .int limit),(3, .ref 0 0 9 0 0),(6, .ref 2 0 4 0 0),(7, .ref 16 0 4 0 0),(8, .int k),(9, .ref 19 0 2 0 0),(10, .int 1),(11,zaC mw),(12, .int j)], [(0, .rows true 0 9 [zad g]),(2, .rows true 0 4 [[AV.nils,AV.nils,AV.nils, .bool false]]),(8, .rows true (U j).length 5 ((lp q (U j)).map zag)),(16, .rows true 0 4 [grR 8 17 18 (U j) k k k k]),(17, .rows true k 1 (Ls.map zbD)),(18, .rows true k 1 (Rs.map zbD)),(19, .rows true 0 2 [[.sl 30 mv.length 1 0 mv.length, .sl 41 j 1 0 j]]),(30, .rows true mv.length 1 (n0.map zaR)),(41, .rows true j 1 ((M j).map zaR))],42⟩)
     (λ d j=>j+d=mw.length) ?_ mw.length 0 ?_) ?_ ?_
    ·rintro d3 j j1 hrec3;have hlj:=ziv q (U j);have hnj:=Ml j aa;repeat first|refine wV λ _=>?_|simp [go_sem,hlj,hnj,grR,hn0l]
     refine zNX (λ hj=> ?_) (λ hj=> ?_)<;>simp at hj
     ·have hj2:j<ot.length:=by omega
      have hj3:j<mw.length:=aa;have hno:sdP (nth mw j) 0=nth ot j:=df;have hst:=(Us j hj2).1;have hsn:=(Us j hj2).2;repeat first|refine wV λ _=>?_|simp [go_sem,hj3,hlj,hnj,grR,hn0l]
      refine zOf [8,17,18] [(8,some (.rows true (U (j+1)).length 5 ((lp q (U (j+1))).map zag)))] (.tup [.agg (grR 8 17 18 (U (j+1)) k k k k), .int (ixP (lp q (U (j+1))) (sdP (nth mw j) 0))])
       (λ h₁ n₁ hx hn K hK=>zr3 q (U j) (Ub j aa) (Uf j) (Ls.map zbD) (Rs.map zbD) k k k k (of_eq_true (zgN _ _)) (of_eq_true (zgN _ _)) (nth mw j) (hmp _ (zah hj3)) (U (j+1)) (by rw [hno,hst]) 8 17 18 ai ⟨hn 8 ac,hn 17 ac,hn 18 ac⟩ ((hx 8 ac).symm.trans rfl) ((hx 17 ac).symm.trans rfl) ((hx 18 ac).symm.trans rfl) (by rw [zhL] at hK;exact hK)) ?_ ?_ ?_ ?_
      ·intro o ho;simp only [List.mem_cons,List.not_mem_nil,or_false] at ho;rcases ho with rfl|rfl|rfl<;>exact ⟨_,rfl⟩
      ·intro x hx;simp only [List.mem_singleton] at hx;subst hx;exact ⟨ac, _, _, _,rfl,of_eq_true ae⟩
      ·exact zGm _ _ _ _ _ _ _ _ _
      rw [zhL];rw [hno];repeat first|refine wV λ _=>?_|simp [go_sem,hnj,grR,hn0l]
      refine zNW (hrec3 (d3 - 1) aa (j+1) aa) ?_ ac;simp [go_sem,zaf,hsn,zaR,grR,hn0l]
     ·obtain rfl:j=mw.length:=by omega
      have hup:=hUp mw.length;have hug:=Ug mw.length;have hm0l:=Ml mw.length aa;generalize U mw.length=t2 at *;generalize M mw.length=m0 at *;have hl2:=ziv q t2;repeat first|refine wV λ _=>?_|simp [go_sem,hl2,hn0l,hm0l,grR]
      refine zNZ ?_;repeat first|refine wV λ _=>?_|simp [go_sem,hl2,hn0l,hm0l,grR]
      refine zNX (λ hbig=> ?_) (λ hbig=> ?_)<;>simp at hbig
      ·rw [if_pos (by rw [hl2];omega)] at i7;rw [i7,zBi];exact K0
      ·rw [if_neg (by rw [hl2];omega)] at i7;refine J1 hl2 ?_;refine zNW (hrec d aa (k+1,t2,Ls++ [n0],Rs++ [m0]) ⟨aa,aA,aA,by simp [i4],by simp [i5],hup,i7⟩) ?_ ac;simp [go_sem,zaf,grR,zbD,zaB];refine ⟨zaJ (.refl _) (.cons (.cons (zaq rfl (by simp [hn0l]) cZ (List.take_of_length_le (by simp [hn0l]))) .nil) .nil),zaJ (.refl _) (.cons (.cons (zaq rfl (by simp [hm0l]) cZ (List.take_of_length_le (by simp [hm0l]))) .nil) .nil)⟩
    ·omega
    ·simp [go_sem,zaf,U0,M0,grR,hn0l]
    ·simp
  ·omega
  ·simp [go_sem,zaf,T0,N0,grR]
  ·simp
 ·have hkl:¬k<(lp q t).length:=by omega
  rw [if_neg hkl] at i7;obtain rfl:k=t.length+1:=aa;rw [i7,zBi];repeat first|refine wV λ _=>?_|simp [go_sem,hlp,grR]
  refine ⟨zaq rfl (by simp [hlp]) ap ?_,zaq rfl (by simp [i4]) ap ?_,zaq rfl (by simp [i5]) ap ?_⟩
  ·grind [List.take_of_length_le]
  all_goals grind [List.take_of_length_le]
end Go.Av
end
section
open Go Go.Proofs
namespace Go.Av
open zab
theorem zLH {p:zae->Bool}:∀ {l:List zae}{j:Nat},j<l.length->(∀i,i<j->p (nth l i)=false)->p (nth l j)=true->l.find? p=some (nth l j)
 |x::l,0, _, _,h=>ax
 |x::l,j+1,hj,hn,h=>by
  have h0:=hn 0 aa;rw [zce] at h0;rw [za6] at h ⊢;rw [List.find?_cons,h0];exact zLH (by simpa using hj) (λ i hi=>by have:=hn (i+1) aa;rwa [za6] at this) h
theorem zLI {p:zae->Bool}:∀ {l:List zae},(∀i,i<l.length->p (nth l i)=false)->l.find? p=none
 | [], _=>rfl
 |x::l,hn=>by
  have h0:=hn 0 ac;rw [zce] at h0;rw [List.find?_cons,h0];exact zLI λ i hi=>by have:=hn (i+1) au;rwa [za6] at this
end Go.Av
end
section
open Go Go.Proofs
namespace Go.Av
open zab
theorem zyo (l:List Int) (n:Int):zdo l n<l.length:=by
 grind [zdo,List.findIdx?_eq_some_iff_getElem]
def zGp (ms:List zae) (W E:zae->Int) (side:Int):AV:=
 match ms.find? λ q=>decide (E q≠0) with
 |some q=> .tup [.agg [.lst 1 [], .lst 1 [], .lst 1 [], .int 0, .int 0], .int (E q)]
 |none=>
  if 0<=zdo (ms.map W) side then .tup [.agg (zag (nth ms (zdo (ms.map W) side).toNat)), .int 0]
  else if 0<=zdo (ms.map W) 2 then .tup [.agg (zag (nth ms (zdo (ms.map W) 2).toNat)), .int 0]
  else .tup [.agg [.lst 1 [], .lst 1 [], .lst 1 [], .int 0, .int 0], .int 270]
theorem zCU (g:zaa) (hg:GOk g) (p:zae) (hp:POk g p) (W E:zae->Int) (hN:zav Tryz.prog 86 [.agg (zad g)] (.bool true))
  (hW:∀q ∈ zai g p,zav Tryz.prog 56 [.agg (zad g), .agg (zag q)] (.tup [.int (W q), .int (E q)])):
  zav Tryz.prog 55 [.agg (zad g), .agg (zag p)] (zGp (zai g p) W E p.side):=by
 have hegl:(zad g).length=9:=rfl;have hegb:∀n,(∀c ∈ zad g,Bel n c)=True:=λ n=>ae;have hM:=zhJ g hg p hp;have hml:=zbf hg hp;generalize zai g p=ms at *;obtain ⟨A,a0,a1,a2,a3⟩:∃A:Nat->List Int,A 0= []∧(∀i,i<ms.length->A (i+1)=A i++ [W (nth ms i)])∧(∀i,i<=ms.length->(A i).length=i)∧A ms.length=ms.map W:=by
  refine ⟨λ i=>(ms.take i).map W,rfl,λ i hi=> ?_,λ i hi=>af,af⟩;grind [zvm]
 refine pF Tryz.func55 ?_;refine J0 ?_;refine aP hN ?_;refine J0 ?_;refine aP hM ?_;refine J0 ?_;refine zNW (zNY (α:=Nat) (λ i=>⟨[(2, .ref 0 0 9 0 0),(3, .ref 1 0 5 0 0),(4, .ref 2 0 5 0 0),(6,zaC ms),(7, .sl 3 i 1 0 i),(22,zaC ms),(23, .int ms.length),(24, .int i)], [(0, .rows true 0 9 [zad g]),(1, .rows true 0 5 [zag p]),(2, .rows true 0 5 [[AV.nils,AV.nils,AV.nils, .int 0, .int 0]]),(3, .rows true i 1 ((A i).map zd2))],4⟩)
  (λ d i=>i+d=ms.length∧∀j,j<i->E (nth ms j)=0) ?_ ms.length 0 ?_) ?_ ?_
 ·rintro d i ⟨i1,i2⟩ hrec;have hal:=a2 i aa;refine J1 hal ?_;refine zNX (λ hi=> ?_) (λ hi=> ?_)<;>simp at hi
  ·have hi':i<ms.length:=by omega
   have hC:=hW _ (zah hi');have hnq:nth (ms.map zag) i=zag (nth ms i):=zau _ _ _ hi';have hA:=a1 i hi';refine J3 hi' hnq hal ?_;refine aP hC ?_;refine J1 hal ?_;refine zNX (λ he=> ?_) (λ he=> ?_)<;>simp at he
   ·have hf:ms.find? (λ q=>decide (E q≠0))=some (nth ms i):=zLH hi' (λ j hj=>by grind) af;rw [zGp,hf];exact K1 hal
   ·have he0:E (nth ms i)=0:=by omega
    refine J1 hal ?_;refine zNW (hrec (d - 1) aa (i+1) ⟨aa,λ j hj=> ?_⟩) ?_ ac
    ·grind
    ·simp [go_sem,zaf,hA]
  ·obtain rfl:i=ms.length:=by omega
   have hf:ms.find? (λ q=>decide (E q≠0))=none:=zLI λ j hj=>af;rw [zGp,hf];have hI1:=zoZ (A ms.length) p.side aa;have hI2:=zoZ (A ms.length) 2 aa;have hr1:=zyo (ms.map W) p.side;have hr2:=zyo (ms.map W) 2;rw [List.length_map] at hr1 hr2;rw [<- a3] at *;generalize A ms.length=As at *;generalize zdo As p.side=x1 at *;generalize zdo As 2=x2 at *;refine J1 hal ?_;refine zNZ ?_;refine J1 hal ?_;refine zOb hI1 (.v _) (.cons (zaq rfl (by simp [hal]) ap (List.take_of_length_le (by simp [hal]))) (.cons (.refl _) .nil)) ae ?_;refine J1 hal ?_;refine zNX (λ hx1=> ?_) (λ hx1=> ?_)<;>simp at hx1
   ·have hxl:x1.toNat<ms.length:=by omega
    have hnq:nth (ms.map zag) x1.toNat=zag (nth ms x1.toNat):=zau _ _ _ hxl;rw [if_pos aa];exact K5 hxl hnq hal hr1 hx1
   ·rw [if_neg aa];refine J1 hal ?_;refine zNZ ?_;refine J1 hal ?_;refine zOb hI2 (.v _) (.cons (zaq rfl (by simp [hal]) ap (List.take_of_length_le (by simp [hal]))) (.cons (.refl _) .nil)) ae ?_;refine J1 hal ?_;refine zNX (λ hx2=> ?_) (λ hx2=> ?_)<;>simp at hx2
    ·have hxl:x2.toNat<ms.length:=by omega
     have hnq:nth (ms.map zag) x2.toNat=zag (nth ms x2.toNat):=zau _ _ _ hxl;rw [if_pos aa];exact K5 hxl hnq hal hr2 hx2
    ·rw [if_neg aa];refine J1 hal ?_;refine zNZ ?_;exact K1 hal
 ·grind
 ·simp [go_sem,zaf,a0]
 ·simp
end Go.Av
end
section
open Go Go.Proofs
namespace Go.Av
open zab
theorem zvq (g:zaa) (p:zae) (hfp:zbc p) (hN:zav Tryz.prog 86 [.agg (zad g)] (.bool false)):
  zav Tryz.prog 55 [.agg (zad g), .agg (zag p)] (.tup [.agg [.lst 1 [], .lst 1 [], .lst 1 [], .int 0, .int 0], .int 230]):=by
 have hegl:(zad g).length=9:=rfl;have hegb:∀n,(∀c ∈ zad g,Bel n c)=True:=λ n=>ae;refine pF Tryz.func55 ?_;refine J0 ?_;refine aP hN ?_;exact K0
theorem zzU (g:zaa) (p:zae) (hfp:zbc p) (e e':Int) (he:e≠0∧e≠230) (he':e'≠0) (l:List zae) (hT:zav Tryz.prog 48 [.agg (zad g), .agg (zag p)] (.tup [.agg [.lst 2 [], .lst 2 []], .int e]))
  (hA:zav Tryz.prog 99 [.agg (zad g), .agg (zag p)] (.tup [zaC l, .int e'])):
  zav Tryz.prog 56 [.agg (zad g), .agg (zag p)] (.tup [.int 0, .int e']):=by
 have hegl:(zad g).length=9:=rfl;have hegb:∀n,(∀c ∈ zad g,Bel n c)=True:=λ n=>ae;obtain ⟨h1,h2⟩:=he;refine pF Tryz.func56 ?_;refine J0 ?_;refine aP hT ?_;refine J2 h1 h2 ?_;refine aP hA ?_;exact K1 he'
end Go.Av
end
section
/- Plain: chapter 23: sum.back finds whether play comes back. -/
open Go Go.Proofs
namespace Go.Av
def zkS (m:Nat->Nat) (i v:Nat):Nat->Nat:=λ j=>if j=i then v else m j
def zkr (visit:(Nat->Nat)->Nat->Bool×(Nat->Nat)):List Nat->(Nat->Nat)->Bool×(Nat->Nat)
 | [],m=>(false,m)
 |j::l,m=>if (visit m j).1=true then visit m j else zkr visit l (visit m j).2
def zho (nx:Nat->List Nat):Nat->(Nat->Nat)->Nat->Bool×(Nat->Nat)
 |0,m, _=>(false,m)
 |f+1,m,i=>if m i=1 then (true,m) else if m i=2 then (false,m) else
  if (zkr (zho nx f) (nx i) (zkS m i 1)).1=true then zkr (zho nx f) (nx i) (zkS m i 1)
  else (false,zkS (zkr (zho nx f) (nx i) (zkS m i 1)).2 i 2)
inductive Rch (nx:Nat->List Nat):Nat->Nat->Prop
 |one {i j:Nat} (h:j ∈ nx i):Rch nx i j
 |more {i j k:Nat} (h:Rch nx i j) (h':k ∈ nx j):Rch nx i k
def znh (n:Nat) (m:Nat->Nat):Nat:=(List.range n).countP λ i=>decide (m i=0)
variable {m:Nat->Nat} {i:Nat}
section
variable {nx:Nat->List Nat} {n:Nat} {Dp:Nat->Nat->Prop}
structure zzs (nx:Nat->List Nat) (Dp:Nat->Nat->Prop):Prop where
 zero:∀i,¬Dp 0 i
 down:∀ {d i},Dp (d+1) i->∀j ∈ nx i,Dp d j
 up:∀ {d i},(∀j ∈ nx i,Dp d j)->Dp (d+1) i
theorem zzs.mono (h:zzs nx Dp):∀ {d i:Nat},Dp d i->Dp (d+1) i
 |0,i,hd=>absurd hd (h.zero i)
 |d+1,i,hd=>h.up λ j hj=>h.mono (h.down hd j hj)
theorem zzs.le (h:zzs nx Dp){d e:Nat} (hd:Dp d i) (hle:d<=e):Dp e i:=by
 obtain ⟨k,rfl⟩:=Nat.exists_eq_add_of_le hle;clear hle;induction k with
 |zero=>exact hd
 |succ k ih=>exact h.mono ih
theorem zzs.rch (h:zzs nx Dp){j:Nat} (hr:Rch nx i j):∀ {d:Nat},Dp d i->∃e,e<d∧Dp e j:=by
 induction hr with
 |one hj=>
  intro d hd;cases d with
  |zero=>exact absurd hd (h.zero _)
  |succ d=>exact ⟨d,aa,h.down hd _ hj⟩
 |more _ hk ih=>
  intro d hd;obtain ⟨e,he,h1⟩:=ih hd;cases e with
  |zero=>exact absurd h1 (h.zero _)
  |succ e=>exact ⟨e,aa,h.down h1 _ hk⟩
theorem zzs.cyc (h:zzs nx Dp) (hr:Rch nx i i):∀d,¬Dp d i:=by
 intro d;induction d using Nat.strongRecOn with
 |ind d ih=>
  intro hd;obtain ⟨e,he,h1⟩:=h.rch hr hd;grind
theorem zye {v:Nat} (hi:i<n) (h0:m i=0) (hv:v≠0):znh n (zkS m i v)<znh n m:=by
 unfold znh;have key:∀l:List Nat,(∀j ∈ l,decide (zkS m i v j=0)=true->decide (m j=0)=true):=λ l j _ hj=>by
  grind [zkS]
 have:=zab.countP_lt (m:=List.range n) (key _) ⟨i,List.mem_range.2 hi,decide_eq_true h0,decide_eq_false (by grind [zkS])⟩;exact this
theorem zwe {m':Nat->Nat} (h:∀j,m' j=0->m j=0):znh n m'<=znh n m:=List.countP_mono_left λ j _ hj=>decide_eq_true (h j (of_decide_eq_true hj))
structure zNH (nx:Nat->List Nat) (n:Nat) (Dp:Nat->Nat->Prop) (m m':Nat->Nat):Prop where
 opn:∀c,m' c=1↔m c=1
 cl:∀c,m c=2->m' c=2
 zr:∀c,m' c=0->m c=0
 dep:∀c,c<n->m' c=2->∃d,Dp d c
theorem zHP (h:zzs nx Dp):∀ {l:List Nat},(∀j ∈ l,∃d,Dp d j)->∃D,∀j ∈ l,Dp D j
 | [], _=>⟨0,λ j hj=>by cases hj⟩
 |a::l,hl=>by
  obtain ⟨D,hD⟩:=zHP h λ j hj=>hl j (List.mem_cons.2 (.inr hj));obtain ⟨d,hd⟩:=hl a ac;refine ⟨max d D,λ j hj=> ?_⟩;rcases List.mem_cons.1 hj with rfl|hj
  ·exact h.le hd (Nat.le_max_left _ _)
  ·exact h.le (hD j hj) (Nat.le_max_right _ _)
theorem zLC (h:zzs nx Dp) (hin:∀k,k<n->∀j ∈ nx k,j<n):∀ (f:Nat) (m:Nat->Nat) (i:Nat),i<n->znh n m<f->(∀c,c<n->m c=2->∃d,Dp d c)->(∀c,m c=0∨m c=1∨m c=2)->(∀c,m c=1->Rch nx c i)->
  ((zho nx f m i).1=false->zNH nx n Dp m (zho nx f m i).2∧(zho nx f m i).2 i=2∧∀c,(zho nx f m i).2 c=0∨(zho nx f m i).2 c=1∨(zho nx f m i).2 c=2)∧((zho nx f m i).1=true->∀d,¬Dp d i)
 |0,m,i,hi,hf, _, _, _=>aa
 |f+1,m,i,hi,hf,hcl,hm3,hop=>by
  rw [zho];by_cases h1:m i=1
  ·rw [if_pos h1];exact ⟨λ hx=>(by cases hx),λ _=>h.cyc (hop i h1)⟩
  rw [if_neg h1];by_cases h2:m i=2
  ·rw [if_pos h2];exact ⟨λ _=>⟨⟨λ _=>Iff.rfl,λ _ h=>h,λ _ h=>h,hcl⟩,h2,hm3⟩,λ hx=>(by cases hx)⟩
  rw [if_neg h2];have h0:m i=0:=af;have hfr:=zye (n:=n) hi h0 (v:=1) ai;have key:∀ (l:List Nat) (m1:Nat->Nat),(∀j ∈ l,j ∈ nx i)->zNH nx n Dp (zkS m i 1) m1->(∀c,m1 c=0∨m1 c=1∨m1 c=2)->
    ((zkr (zho nx f) l m1).1=false->zNH nx n Dp (zkS m i 1) (zkr (zho nx f) l m1).2∧(∀j ∈ l,(zkr (zho nx f) l m1).2 j=2)∧(∀c,m1 c=2->(zkr (zho nx f) l m1).2 c=2)∧∀c,(zkr (zho nx f) l m1).2 c=0∨(zkr (zho nx f) l m1).2 c=1∨(zkr (zho nx f) l m1).2 c=2)∧
    ((zkr (zho nx f) l m1).1=true->∃j ∈ l,∀d,¬Dp d j):=by
   intro l;induction l with
   |nil=>simp_all [zkr]
   |cons j l ih=>
    intro m1 hj hl h3;have hji:=hj j ac;have hjn:=hin i hi j hji;have hle:=zwe (n:=n) hl.zr;obtain ⟨a1,a2⟩:=zLC h hin f m1 j hjn aa hl.dep h3 (λ c hc=>by
     have hc2:=(hl.opn c).1 hc;unfold zkS at hc2;split at hc2
     ·rename_i e;rw [e];exact .one hji
     ·exact .more (hop c hc2) hji)
    rw [zkr];by_cases hv:(zho nx f m1 j).1=true
    ·grind
    ·rw [if_neg hv];obtain ⟨b1,b2,b3⟩:=a1 af;have hl2:zNH nx n Dp (zkS m i 1) (zho nx f m1 j).2:=⟨λ c=>(b1.opn c).trans (hl.opn c),λ c hc=>b1.cl c (hl.cl c hc),λ c hc=>hl.zr c (b1.zr c hc),b1.dep⟩
     obtain ⟨c1,c2⟩:=ih (zho nx f m1 j).2 (λ k hk=>hj k (List.mem_cons.2 (.inr hk))) hl2 b3;refine ⟨λ hx=> ?_,λ hx=> ?_⟩
     ·obtain ⟨d1,d2,d3,d4⟩:=c1 hx;refine ⟨d1,λ k hk=> ?_,λ c hc=>d3 c (b1.cl c hc),d4⟩;grind
     grind
  have hstart:zNH nx n Dp (zkS m i 1) (zkS m i 1):=⟨λ _=>Iff.rfl,λ _ h=>h,λ _ h=>h,λ c hc h2=>by
   grind [zkS]⟩
  obtain ⟨k1,k2⟩:=key (nx i) (zkS m i 1) (λ j hj=>hj) hstart (λ c=>by
   grind [zkS])
  by_cases hv:(zkr (zho nx f) (nx i) (zkS m i 1)).1=true
  ·rw [if_pos hv];refine ⟨λ hx=>af,λ _ d hd=> ?_⟩;obtain ⟨j,hj,hn⟩:=k2 hv;cases d with
   |zero=>exact h.zero i hd
   |succ d=>exact hn d (h.down hd j hj)
  ·rw [if_neg hv];refine ⟨λ _=> ?_,λ hx=>(by cases hx)⟩;obtain ⟨d1,d2,d3,d4⟩:=k1 af;generalize (zkr (zho nx f) (nx i) (zkS m i 1)).2=m2 at d1 d2 d3 d4 ⊢;have hdi:∃d,Dp d i:=by
    obtain ⟨D,hD⟩:=zHP h (l:=nx i) λ j hj=>d1.dep j (hin i hi j hj) (d2 j hj);exact ⟨D+1,h.up hD⟩
   grind [zkS,zNH]
theorem zMw (h:zzs nx Dp) (hin:∀k,k<n->∀j ∈ nx k,j<n) (hi:i<n):(zho nx (n+1) (λ _=>0) i).1=true↔∀d,¬Dp d i:=by
 have hfr:znh n (λ _=>0)<n+1:=by
  grind [znh,List.length_range]
 obtain ⟨a1,a2⟩:=zLC h hin (n+1) (λ _=>0) i hi hfr (λ c _ hc=>(by cases hc)) (λ c=> .inl rfl) (λ c hc=>(by cases hc));refine ⟨a2,λ hn=> ?_⟩;refine Classical.byContradiction λ hf=> ?_;obtain ⟨b1,b2, _⟩:=a1 af;obtain ⟨d,hd⟩:=b1.dep i hi b2;grind
end
end Go.Av
end
section
/- slices.IndexFunc, ContainsFunc of numbers, by a function that turns objects of ours. -/
open Go Go.Proofs
namespace Go.Av
section
variable {l:List Nat} {fid:FuncId} {first caps:List AV} {n:Nat} (hl:l.length<=68719476736) (H:Nat->zay) (p:Nat->Bool) (k:Nat) (hk:k<=l.length) (hno:∀i,i<k->p i=false) (hyes:k<l.length->p k=true)
 (hcall:∀i,i<l.length->i<=k->∀K:zbH,K (.bool (p i)) (H (i+1)) n->zaj Tryz.prog fid (first++ .int (nth l i:Nat)::caps) (H i) n K)
include hl hk hno hyes hcall
theorem zAB {K:zbH} (hK:K (.int (if k<l.length then (k:Int) else -1)) (H (if k<l.length then k+1 else k)) n):zaj Tryz.prog 192 [zaB l, .fn (.func fid) first caps] (H 0) n K:=by
 refine aF Tryz.func192 ?_;repeat first|refine wV λ _=>?_|simp [go_sem,zaB]
 refine (show ∀ (d j:Nat) (e:Env),j+d=l.length->j<=k->e 0=zaB l->e 1= .fn (.func fid) first caps->e 7= .int l.length->e 8= .int j->zac _ _ _ e (H j) n from ?_) l.length 0 _ aa aa (by simp [upd,zaB]) aj aj aj;intro d;induction d with
 |zero=>
  intro j e hj hjk e0 e1 e7 e8;obtain rfl:j=k:=aa;obtain rfl:j=l.length:=aa;rw [if_neg aa,if_neg aa] at hK;refine zNZ ?_;repeat first|refine wV λ _=>?_|simp [go_sem,e0,e1,e7,e8,zaB]
  exact hK
 |succ d ih=>
  intro j e hj hjk e0 e1 e7 e8;have hj':j<l.length:=aa;have en:nth (l.map zaR) j= [.int (nth l j:Nat)]:=zau _ _ _ hj';refine zNZ ?_;repeat first|refine wV λ _=>?_|simp [go_sem,e0,e1,e7,e8,zaB,en,hj']
  refine hcall j hj' hjk _ ?_;by_cases e:j=k
  ·subst e;rw [hyes hj'];rw [if_pos hj',if_pos hj'] at hK;refine J4 e0 e1 e7 e8 ?_;exact hK
  ·rw [hno j aa];refine J4 e0 e1 e7 e8 ?_;refine ih (j+1) _ aa aa ?_ ?_ ?_ ?_<;>simp [upd,e0,e1,e7,e8]
theorem ztH {K:zbH} (hK:K (.bool (decide (k<l.length))) (H (if k<l.length then k+1 else k)) n):zaj Tryz.prog 140 [zaB l, .fn (.func fid) first caps] (H 0) n K:=by
 refine aF Tryz.func140 ?_;refine J0 ?_;refine zAB hl H p k hk hno hyes hcall ?_;by_cases e:k<l.length
 ·rw [decide_eq_true e] at hK;simp only [if_pos e] at hK ⊢;refine J0 ?_;exact hK
 ·rw [decide_eq_false e] at hK;simp only [if_neg e] at hK ⊢;refine J0 ?_;exact hK
end
end Go.Av
end
section
/- sum.back: its closure visits the nodes of a graph. -/
set_option linter.unusedSectionVars false
open Go Go.Proofs
namespace Go.Av
variable {h:zay}
theorem zOF {P:Program}{n:Nat}{ops:List Oper}{Q:zc2}{m i:Nat}{rest:List Oper}{e:Env}{acc:List ziQ}{dst:Option Tmp}{f:FuncId}{first caps args:List AV} (rs:List Nat) (wr:List (Nat×Option zcr)) (R:AV)
  (hcall:∀ (h₁:zay) (n₁:Nat),(∀o ∈ rs,h o=h₁ o)->(∀o ∈ rs,o<n₁)->∀K:zbH,K R (zap wr h₁) n₁->zaj P f (first++args++caps) h₁ n₁ K)
  (hS:∀o ∈ rs,∃x,h o=some x) (hw:∀p ∈ wr,p.1 ∈ rs∧∃g sz rws,p.2=some (.rows true g sz rws)∧∀r ∈ rws,∀c ∈ r,Bel 0 c) (hR:zpM rs R)
  (hk:adr P n ops Q m (i+1) rest (put e dst (.gd true R)) (zap wr h) (acc++ [(rs,wr.map (·.1))])):dGC P n ops Q m i rest dst true (.fn (.func f) first caps) args e h acc:=
 ⟨R,rs,wr,λ _=> .inr (.inr (.inl ⟨f,first,caps,rfl,hS,hw, .inr (.inl hR),λ h₁ n₁ hx hn=>hcall h₁ n₁ hx hn _ ⟨rfl,rfl,rfl⟩⟩)),λ h=>(nomatch h),hk⟩
theorem zLi {α:Type} (f:Nat->α) (k:Nat) (x y:α):upd (upd f k x) k y=upd f k y:=aO
theorem zrM (v:(Nat->Nat)->Nat->Bool×(Nat->Nat)):∀ (l r:List Nat) (m:Nat->Nat),zkr v (l++r) m=if (zkr v l m).1=true then zkr v l m else zkr v r (zkr v l m).2
 | [],r,m=>by simp [zkr]
 |j::l,r,m=>by
  rw [List.cons_append,zkr,zkr];by_cases h:(v m j).1=true
  ·simp [h]
  ·rw [if_neg h,if_neg h];exact zrM v l r _
theorem zxN (v:(Nat->Nat)->Nat->Bool×(Nat->Nat)):∀ (l:List Nat) (m:Nat->Nat),∃ (M:Nat->Nat->Nat) (k:Nat),M 0=m∧(∀j,j<l.length->M (j+1)=(v (M j) (nth l j)).2)∧k<=l.length∧(∀j,j<k->(v (M j) (nth l j)).1=false)∧(k<l.length->(v (M k) (nth l k)).1=true)∧
  zkr v l m=(decide (k<l.length),M (if k<l.length then k+1 else k))
 | [],m=>⟨λ _=>m,0,rfl,λ j hj=>(by simp at hj),Nat.le_refl _,λ j hj=>aa,λ h=>bm,by simp [zkr]⟩
 |x::l,m=>by
  obtain ⟨M,k,h0,h1,h2,h3,h4,h5⟩:=zxN v l (v m x).2;by_cases hx:(v m x).1=true
  ·refine ⟨λ j=>if j=0 then m else M (j - 1),0,rfl,λ j hj=> ?_,ac,λ j hj=>aa,λ _=>ax, ?_⟩
   ·grind [nth]
   ·rw [zkr,if_pos hx];simp only [List.length_cons,Nat.zero_lt_succ,decide_true,if_true];grind
  ·rw [Bool.not_eq_true] at hx;refine ⟨λ j=>if j=0 then m else M (j - 1),k+1,rfl,λ j hj=> ?_,af,λ j hj=> ?_,λ hlt=> ?_, ?_⟩
   ·grind [nth]
   ·grind [nth]
   all_goals grind [za6,zkr]
variable {nx:Nat->List Nat}
theorem zB6 :∀ (f:Nat) (m:Nat->Nat) (i j:Nat),(zho nx f m i).2 j=0->m j=0:=by
 intro f;induction f with
 |zero=>simp_all [zho]
 |succ f ih=>
  have hl:∀ (l:List Nat) (m:Nat->Nat) (j:Nat),(zkr (zho nx f) l m).2 j=0->m j=0:=by
   intro l;induction l with
   |nil=>intro m j h;exact h
   |cons x l ihl=>
    grind [zkr]
  have hs:∀ (m:Nat->Nat) (i v j:Nat),v≠0->zkS m i v j=0->m j=0:=λ m i v j hv h=>by
   grind [zkS]
  intro m i j h;rw [zho] at h;split at h
  ·exact h
  ·split at h
   ·exact h
   ·split at h;all_goals grind
theorem zGX :∀ (f:Nat) (m:Nat->Nat) (i:Nat),(∀c,m c<=2)->∀c,(zho nx f m i).2 c<=2:=by
 intro f;induction f with
 |zero=>intro m i h;exact h
 |succ f ih=>
  have hl:∀ (l:List Nat) (m:Nat->Nat),(∀c,m c<=2)->∀c,(zkr (zho nx f) l m).2 c<=2:=by
   intro l;induction l with
   |nil=>intro m h;exact h
   |cons x l ihl=>
    grind [zkr]
  have hs:∀ (m:Nat->Nat) (i v:Nat),v<=2->(∀c,m c<=2)->∀c,zkS m i v c<=2:=λ m i v hv h c=>by
   grind [zkS]
  intro m i h;rw [zho];split
  ·exact h
  ·split
   ·exact h
   ·split;all_goals grind
variable {f:Nat}
theorem zKd :∀ (l:List Nat) (m:Nat->Nat),(∀c,m c<=2)->∀c,(zkr (zho nx f) l m).2 c<=2:=by
 intro l;induction l with
 |nil=>intro m h;exact h
 |cons x l ihl=>
  grind [zkr,zGX]
theorem zGW :∀ (l:List Nat) (m:Nat->Nat) (c:Nat),(zkr (zho nx f) l m).2 c=0->m c=0:=by
 intro l;induction l with
 |nil=>intro m c h;exact h
 |cons x l ihl=>
  grind [zkr,zB6]
def zdR (n:Nat) (m:Nat->Nat):List (List AV):=(List.range n).map λ i=> [.int (m i:Nat)]
theorem zIs (n:Nat) (m:Nat->Nat):(zdR n m).length=n:=by simp [zdR]
variable {m:Nat->Nat}
theorem zox {n:Nat}{i:Nat} (hi:i<n):nth (zdR n m) i= [.int (m i:Nat)]:=by
 grind [zdR,nth]
theorem zmc {n:Nat}{i v:Nat}:(zdR n m).set i [.int (v:Nat)]=zdR n (zkS m i v):=by
 refine List.ext_getElem (by simp [zdR]) λ j h1 h2=> ?_;grind [zdR,zkS]
theorem zhZ (k n:Nat) (m:Nat->Nat):(∀r ∈ zdR n m,∀c ∈ r,Bel k c)=True:=eq_true λ r hr c hc=>by
 obtain ⟨i, _,rfl⟩:=List.mem_map.1 hr;simp only [List.mem_singleton] at hc;subst hc;exact .v _
attribute [go_sem ↓] zhZ
attribute [go_sem] zIs
def fnV:AV:= .fn (.func 139) [] [.ref 2 0 1 0 0, .ref 0 0 2 0 0, .ref 3 0 1 0 0]
structure zJn (L R:List (List Nat)) (n:Nat) (m:Nat->Nat) (h:zay):Prop where
 h0:h 0=some (.rows true 0 2 [[zax L,zax R]])
 h1:h 1=some (.rows true 0 1 (zdR n m))
 h2:h 2=some (.rows true 0 1 [[.sl 1 0 1 0 n]])
 h3:h 3=some (.rows true 0 1 [[fnV]])
def mkO (n:Nat) (m:Nat->Nat):zcr:= .rows true 0 1 (zdR n m)
theorem zJn.set {L R:List (List Nat)}{n:Nat} (hh:zJn L R n m h) (m':Nat->Nat):zJn L R n m' (upd h 1 (some (mkO n m'))):=
 ⟨by simp [upd,hh.h0],by simp [upd,mkO],by simp [upd,hh.h2],by simp [upd,hh.h3]⟩
def zFl (L R:List (List Nat)) (n:Nat) (m:Nat->Nat):List (Nat×zcr):= [(0, .rows true 0 2 [[zax L,zax R]]),(1,mkO n m),(2, .rows true 0 1 [[.sl 1 0 1 0 n]]),(3, .rows true 0 1 [[fnV]])]
def VisC (L R:List (List Nat)) (n:Nat) (m:Nat->Nat) (i:Nat) (r:Bool) (m':Nat->Nat):Prop:=zcj Tryz.prog 139 [.int (i:Nat), .ref 2 0 1 0 0, .ref 0 0 2 0 0, .ref 3 0 1 0 0] (zFl L R n m) 4 (.bool r) (zFl L R n m') 4
theorem zCT {L R:List (List Nat)}{n:Nat}{m':Nat->Nat}{i:Nat}{r:Bool} (hp:VisC L R n m i r m'){k:Nat}{K:zbH} (hh:zJn L R n m h) (hk:4<=k) (hK:K (.bool r) (upd h 1 (some (mkO n m'))) k):
  zaj Tryz.prog 139 [.int (i:Nat), .ref 2 0 1 0 0, .ref 0 0 2 0 0, .ref 3 0 1 0 0] h k K:=by
 have r0:ren [0,1,2,3] k 0=0:=rfl;have r1:ren [0,1,2,3] k 1=1:=rfl;have r2:ren [0,1,2,3] k 2=2:=rfl;have r3:ren [0,1,2,3] k 3=3:=rfl;have cl:∀m:Nat->Nat,∀r ∈ zdR n m,∀c ∈ r,Bel 0 c:=λ m=>of_eq_true (zhZ 0 n m);have x0:RnO (ren [0,1,2,3] k) (.rows true 0 2 [[zax L,zax R]]) (.rows true 0 2 [[zax L,zax R]]):= .rows (.same λ r hr c hc=>by
  grind [zlr])
 have x2:RnO (ren [0,1,2,3] k) (.rows true 0 1 [[.sl 1 0 1 0 n]]) (.rows true 0 1 [[.sl 1 0 1 0 n]]):= .rows (.cons (.cons (.sl r1.symm) .nil) .nil);have x3:RnO (ren [0,1,2,3] k) (.rows true 0 1 [[fnV]]) (.rows true 0 1 [[fnV]]):= .rows (.cons (.cons (.fn .nil (.cons (.ref r2.symm) (.cons (.ref r0.symm) (.cons (.ref r3.symm) .nil)))) .nil) .nil);have bf:∀j,4<=j->Bel j fnV:=λ j hj=> .fn ac λ c hc=>by
  simp only [List.mem_cons,List.not_mem_nil,or_false] at hc;rcases hc with rfl|rfl|rfl<;>exact .ref aa
 have ba:∀j,4<=j->∀c ∈ [AV.int (i:Nat), .ref 2 0 1 0 0, .ref 0 0 2 0 0, .ref 3 0 1 0 0],Bel j c:=λ j hj c hc=>by
  simp only [List.mem_cons,List.not_mem_nil,or_false] at hc;rcases hc with rfl|rfl|rfl|rfl
  ·exact .v _
  all_goals exact .ref aa
 refine zN8 (R:= .bool r) (HH:=zFl L R n m') [0,1,2,3] h hp ai af rfl (Nat.le_refl _) (.refl _) ?_ ?_ (.refl _ _ _ _) (ba k hk) (.cons (.same (.v _)) (.cons (.ref r2.symm) (.cons (.ref r0.symm) (.cons (.ref r3.symm) .nil)))) (ba 4 (Nat.le_refl _)) (.same (.v _)) ?_ ?_
 ·intro j hj;have:j=0∨j=1∨j=2∨j=3:=aa;rcases this with rfl|rfl|rfl|rfl
  ·exact ⟨_, _,rfl,by rw [r0];exact hh.h0,x0⟩
  ·exact ⟨_, _,rfl,by rw [r1];exact hh.h1, .rows (.same (cl _))⟩
  ·exact ⟨_, _,rfl,by rw [r2];exact hh.h2,x2⟩
  ·exact ⟨_, _,rfl,by rw [r3];exact hh.h3,x3⟩
 ·intro p hp;simp only [zFl,List.mem_cons,List.not_mem_nil,or_false] at hp;rcases hp with rfl|rfl|rfl|rfl
  ·grind [zlr,zqr]
  ·exact ⟨ac,of_eq_true (zhZ 4 n m)⟩
  ·refine ⟨ac,λ r hr c hc=> ?_⟩;simp only [List.mem_singleton] at hr;subst hr;simp only [List.mem_singleton] at hc;subst hc;exact .sl aa
  grind [zqr]
 ·exact .cons r0.symm x0 (.cons r1.symm (.rows (.same (cl _))) (.cons r2.symm x2 (.cons r3.symm x3 .nil)))
 ·have e:zdU (zFl L R n m') (ziM [0,1,2,3] h)=upd h 1 (some (mkO n m')):=by
   funext x;by_cases x0:x=0
   ·subst x0;simp [zdU,zFl,ziM,upd,hh.h0]
   by_cases x1:x=1
   ·simp_all [zdU,zFl,upd]
   by_cases x2:x=2
   ·subst x2;simp [zdU,zFl,ziM,upd,hh.h2]
   by_cases x3:x=3
   ·subst x3;simp [zdU,zFl,ziM,upd,hh.h3]
   simp_all [zdU,zFl,ziM,upd]
  grind
section
variable {L R:List (List Nat)} {n:Nat} (hn:n<=1048576) (hL:L.length=n) (hR:R.length=n) (hl:∀i,i<n->(nth L i).length<=1048576∧(nth R i).length<=1048576) (hlt:∀i,i<n->∀j ∈ nxG L R i,j<n)
include hn hL hR hl hlt
theorem zzh  (hv:∀ (m:Nat->Nat) (i:Nat),i<n->znh n m<f->(∀c,m c<=2)->∀ (h:zay) (k:Nat) (K:zbH),zJn L R n m h->4<=k->K (.bool (zho (nxG L R) f m i).1) (upd h 1 (some (mkO n (zho (nxG L R) f m i).2))) k->zaj Tryz.prog 139 [.int (i:Nat), .ref 2 0 1 0 0, .ref 0 0 2 0 0, .ref 3 0 1 0 0] h k K)
  (l:List Nat) (hll:l.length<=1048576) (hln:∀j ∈ l,j<n) (m:Nat->Nat) (hf:znh n m<f) (hm2:∀c,m c<=2)  {k:Nat} {K:zbH} (hh:zJn L R n m h) (hk:4<=k) (hK:K (.bool (zkr (zho (nxG L R) f) l m).1) (upd h 1 (some (mkO n (zkr (zho (nxG L R) f) l m).2))) k):
  zaj Tryz.prog 140 [zaB l,fnV] h k K:=by
 obtain ⟨M,q,M0,M1,q1,q2,q3,q4⟩:=zxN (zho (nxG L R) f) l m;rw [q4] at hK;have hfr:∀j,j<=l.length->znh n (M j)<f:=λ j hj=>by
  induction j with
  |zero=>grind
  |succ j ih=>
   have:=ih aa;rw [M1 j aa];exact Nat.lt_of_le_of_lt (zwe λ c hc=>zB6 _ _ _ _ hc) this
 have hM2:∀j,j<=l.length->∀c,M j c<=2:=λ j hj=>by
  induction j with
  |zero=>simp_all
  |succ j ih=>
   rw [M1 j aa];grind [zGX]
 have h0:upd h 1 (some (mkO n (M 0)))=h:=by
  rw [M0];funext x;simp only [upd];split
  ·rename_i e;rw [e,hh.h1];rfl
  ·rfl
 have:=ztH (fid:=139) (first:= []) (caps:= [.ref 2 0 1 0 0, .ref 0 0 2 0 0, .ref 3 0 1 0 0]) (l:=l) aa (λ j=>upd h 1 (some (mkO n (M j)))) (λ j=>(zho (nxG L R) f (M j) (nth l j)).1) q q1 q2 q3 (n:=k) (λ j hj hjq K hK=> ?_) hK
 ·rw [h0] at this;exact this
 ·refine hv (M j) (nth l j) (hln _ (zah hj)) (hfr j aa) (hM2 j aa) _ k K (hh.set (M j)) hk ?_;grind [zLi]
theorem zFm:∀ (f:Nat) (m:Nat->Nat) (i:Nat),i<n->znh n m<f->(∀c,m c<=2)->VisC L R n m i (zho (nxG L R) f m i).1 (zho (nxG L R) f m i).2:=by
 intro f;induction f with
 |zero=>omega
 |succ f ih0=>
  intro m i hi hf hm2;have ih:=λ m i hi hf hm (h:zay) (k:Nat) (K:zbH) (hh:zJn L R n m h) (hk:4<=k) hK=>zCT (ih0 m i hi hf hm) hh hk (K:=K) hK;have nm:=zox (m:=m) hi;have hiL:i<L.length:=aa;have hiR:i<R.length:=aa;have eL:nth (L.map zbD) i= [zaB (nth L i)]:=zau _ _ _ hiL;have eR:nth (R.map zbD) i= [zaB (nth R i)]:=zau _ _ _ hiR;obtain ⟨res,hres⟩:∃res,res=zho (nxG L R) (f+1) m i:=⟨_,rfl⟩
  rw [<- hres];rw [zho] at hres;unfold VisC zcj;refine aF Tryz.func139 ?_;by_cases c1:m i=1
  ·rw [if_pos c1] at hres;subst hres;repeat first|refine wV λ _=>?_|simp [go_sem,zFl,mkO,fnV,zax,nm,hi,c1]
   simp [go_sem,zaf]
  rw [if_neg c1] at hres;by_cases c2:m i=2
  ·rw [if_pos c2] at hres;subst hres;repeat first|refine wV λ _=>?_|simp [go_sem,zFl,mkO,fnV,zax,nm,hi,c2]
   simp [go_sem,zaf]
  rw [if_neg c2] at hres;have c1':¬((m i:Nat):Int)=1:=aa;have c2':¬((m i:Nat):Int)=2:=aa;have hst:(zdR n m).set i [.int 1]=zdR n (zkS m i 1):=zmc (v:=1);repeat first|refine wV λ _=>?_|simp [go_sem,zFl,mkO,fnV,zax,nm,hi,c1',c2',hst,hiL,hiR,eL,eR,zaB]
  have hi0:m i=0:=af;have hm':∀c,zkS m i 1 c<=2:=λ c=>by
   grind [zkS]
  have hf':znh n (zkS m i 1)<f:=by have:=zye (v:=1) hi hi0 ai;omega
  obtain ⟨hlL,hlR⟩:=hl i hi;have hap:=zrM (zho (nxG L R) f) (nth L i) (nth R i) (zkS m i 1);rw [show nxG L R i=nth L i++nth R i from rfl,hap] at hres;obtain ⟨q1,hq1⟩:∃q1,q1=zkr (zho (nxG L R) f) (nth L i) (zkS m i 1):=⟨_,rfl⟩
  have two1:∀c,q1.2 c<=2:=by grind [zKd]
  have fr1:znh n q1.2<f:=by rw [hq1];exact Nat.lt_of_le_of_lt (zwe λ c hc=>zGW _ _ _ hc) hf'
  try ((with_reducible refine wZ ?_);(try simp [go_sem]))
  refine zOf [0,1,2,3] [(1,some (mkO n q1.2))] (.bool q1.1) (λ h₁ n₁ hx hn1 K hK=> ?_) ?_ ?_ (.v _) ?_
  ·have hh2:zJn L R n (zkS m i 1) h₁:=⟨by grind [upd,zax],aO,aO,by grind [upd,fnV]⟩
   rw [hq1] at hK;exact zzh hn hL hR hl hlt ih (nth L i) hlL (λ j hj=>hlt i hi j (List.mem_append.2 (.inl hj))) (zkS m i 1) hf' hm' hh2 (hn1 3 ac) hK
  ·intro x hx;simp only [List.mem_cons,List.not_mem_nil,or_false] at hx;rcases hx with rfl|rfl|rfl|rfl<;>simp [upd]
  ·intro p hp;simp only [List.mem_singleton] at hp;subst hp;exact ⟨ac, _, _, _,rfl,of_eq_true (zhZ 0 _ _)⟩
  rw [zhL];rw [<- hq1] at hres;by_cases hb:q1.1=true
  ·simp only [hb,if_true] at hres;subst hres;rw [hb];repeat first|refine wV λ _=>?_|simp [go_sem,hiR,eR,zaB,mkO]
   refine dGC.skip .top ?_;refine J0 ?_;simp [go_sem,zaf,zax,mkO,fnV,hb]
  ·rw [Bool.not_eq_true] at hb;obtain ⟨q2,hq2⟩:∃q2,q2=zkr (zho (nxG L R) f) (nth R i) q1.2:=⟨_,rfl⟩
   simp only [hb,Bool.false_eq_true,if_false,<- hq2] at hres;rw [hb];repeat first|refine wV λ _=>?_|simp [go_sem,hiR,eR,zaB,mkO]
   refine zOF [0,1,2,3] [(1,some (mkO n q2.2))] (.bool q2.1) (λ h₁ n₁ hx hn1 K hK=> ?_) ?_ ?_ (.v _) ?_
   ·have hh2:zJn L R n q1.2 h₁:=⟨by grind [upd,zax],aO,aO,by grind [upd,fnV]⟩
    rw [hq2] at hK;exact zzh hn hL hR hl hlt ih (nth R i) hlR (λ j hj=>hlt i hi j (List.mem_append.2 (.inr hj))) q1.2 fr1 two1 hh2 (hn1 3 ac) hK
   ·intro x hx;simp only [List.mem_cons,List.not_mem_nil,or_false] at hx;rcases hx with rfl|rfl|rfl|rfl<;>simp [upd]
   ·intro p hp;simp only [List.mem_singleton] at hp;subst hp;exact ⟨ac, _, _, _,rfl,of_eq_true (zhZ 0 _ _)⟩
   rw [zhL];by_cases hb2:q2.1=true
   ·rw [if_pos hb2] at hres;subst hres;rw [hb2];repeat first|refine wV λ _=>?_|simp [go_sem,mkO]
    simp [go_sem,zaf,zax,mkO,fnV,hb2]
   ·rw [if_neg hb2] at hres;rw [Bool.not_eq_true] at hb2;subst hres;rw [hb2];have hst2:(zdR n q2.2).set i [.int 2]=zdR n (zkS q2.2 i 2):=zmc (v:=2);repeat first|refine wV λ _=>?_|simp [go_sem,mkO,hi,hst2]
    simp [go_sem,zaf,zax,mkO,fnV]
end
theorem zGb (L R:List (List Nat)) (n:Nat) (hn:n<=1048576) (h0:0<n) (hL:L.length=n) (hR:R.length=n) (hl:∀i,i<n->(nth L i).length<=1048576∧(nth R i).length<=1048576) (hlt:∀i,i<n->∀j ∈ nxG L R i,j<n):
  zav Tryz.prog 88 [.agg [zax L,zax R]] (.bool (zho (nxG L R) (n+1) (λ _=>0) 0).1):=by
 have hV:=zFm hn hL hR hl hlt (n+1) (λ _=>0) 0 h0 (by
  grind [znh,List.length_range]) (λ c=>by omega)
 have hrep:List.replicate n [AV.int 0]=zdR n (λ _=>0):=by
  refine List.ext_getElem (by simp [zdR]) λ i h1 h2=> ?_;simp [zdR]
 refine pF Tryz.func88 ?_;repeat first|refine wV λ _=>?_|simp [go_sem,zax,hL,hrep]
 refine zCT hV ⟨by simp [upd,zax],aj,aj,by simp [upd,fnV]⟩ aa ?_;exact K0
end Go.Av
end
section
open Go Go.Proofs
namespace Go.Av
open zab
theorem zCh (F:Nat->zab) (l:List Nat):∃Ls:Nat->List zab,Ls 0= []∧(∀i,i<l.length->Ls (i+1)=Ls i++ [F (nth l i)])∧(∀i,i<=l.length->(Ls i).length=i)∧Ls l.length=l.map F:=by
 refine ⟨λ i=>(l.take i).map F,rfl,λ i hi=> ?_,λ i hi=>af,af⟩;grind [List.take_add_one,nth]
theorem zKs (F:Nat->zab) (l:List Nat) (s0:Nat):∃A:Nat->Nat,A 0=min s0 2001∧(∀i,i<l.length->A (i+1)=min (A i+min (F (nth l i)).size 2001) 2001)∧(∀i,A i<=2001)∧A l.length=min (s0+zaw (l.map F)) 2001:=by
 have ha:∀a b:List zab,zaw (a++b)=zaw a+zaw b:=λ a b=>by
  induction a<;>grind [zaw]
 refine ⟨λ i=>min (s0+zaw ((l.take i).map F)) 2001,by simp [zaw],λ i hi=> ?_,λ i=>Nat.min_le_right _ _,af⟩;grind [zaw,List.take_add_one,zcp]
end Go.Av
end
section
/- sum.size: its closure, and its table (head printed by tools/genYR.py). -/
set_option linter.unusedSectionVars false
open Go Go.Proofs
namespace Go.Av
open zab
def fnS:AV:= .fn (.func 141) [] [.ref 2 0 1 0 0, .ref 0 0 2 0 0, .ref 3 0 1 0 0]
structure HasS (L R:List (List Nat)) (n:Nat) (m:Nat->Nat) (h:zay):Prop where
 h0:h 0=some (.rows true 0 2 [[zax L,zax R]])
 h1:h 1=some (.rows true 0 1 (zdR n m))
 h2:h 2=some (.rows true 0 1 [[.sl 1 0 1 0 n]])
 h3:h 3=some (.rows true 0 1 [[fnS]])
theorem HasS.set {L R:List (List Nat)}{n:Nat}{m:Nat->Nat}{h:zay} (hh:HasS L R n m h) (m':Nat->Nat):HasS L R n m' (upd h 1 (some (mkO n m'))):=
 ⟨by simp [upd,hh.h0],by simp [upd,mkO],by simp [upd,hh.h2],by simp [upd,hh.h3]⟩
def zFz (L R:List (List Nat)) (n:Nat) (m:Nat->Nat):List (Nat×zcr):= [(0, .rows true 0 2 [[zax L,zax R]]),(1,mkO n m),(2, .rows true 0 1 [[.sl 1 0 1 0 n]]),(3, .rows true 0 1 [[fnS]])]
def SizC (L R:List (List Nat)) (n:Nat) (m:Nat->Nat) (i:Nat) (r:Int) (m':Nat->Nat):Prop:=zcj Tryz.prog 141 [.int (i:Nat), .ref 2 0 1 0 0, .ref 0 0 2 0 0, .ref 3 0 1 0 0] (zFz L R n m) 4 (.int r) (zFz L R n m') 4
theorem zCJ {L R:List (List Nat)}{n:Nat}{m m':Nat->Nat}{i:Nat}{r:Int} (hp:SizC L R n m i r m'){h:zay}{k:Nat}{K:zbH} (hh:HasS L R n m h) (hk:4<=k) (hK:K (.int r) (upd h 1 (some (mkO n m'))) k):
  zaj Tryz.prog 141 [.int (i:Nat), .ref 2 0 1 0 0, .ref 0 0 2 0 0, .ref 3 0 1 0 0] h k K:=by
 have r0:ren [0,1,2,3] k 0=0:=rfl;have r1:ren [0,1,2,3] k 1=1:=rfl;have r2:ren [0,1,2,3] k 2=2:=rfl;have r3:ren [0,1,2,3] k 3=3:=rfl;have cl:∀m:Nat->Nat,∀r ∈ zdR n m,∀c ∈ r,Bel 0 c:=λ m=>of_eq_true (zhZ 0 n m);have x0:RnO (ren [0,1,2,3] k) (.rows true 0 2 [[zax L,zax R]]) (.rows true 0 2 [[zax L,zax R]]):= .rows (.same λ r hr c hc=>by
  grind [zlr])
 have x2:RnO (ren [0,1,2,3] k) (.rows true 0 1 [[.sl 1 0 1 0 n]]) (.rows true 0 1 [[.sl 1 0 1 0 n]]):= .rows (.cons (.cons (.sl r1.symm) .nil) .nil);have x3:RnO (ren [0,1,2,3] k) (.rows true 0 1 [[fnS]]) (.rows true 0 1 [[fnS]]):= .rows (.cons (.cons (.fn .nil (.cons (.ref r2.symm) (.cons (.ref r0.symm) (.cons (.ref r3.symm) .nil)))) .nil) .nil);have bf:∀j,4<=j->Bel j fnS:=λ j hj=> .fn ac λ c hc=>by
  simp only [List.mem_cons,List.not_mem_nil,or_false] at hc;rcases hc with rfl|rfl|rfl<;>exact .ref aa
 have ba:∀j,4<=j->∀c ∈ [AV.int (i:Nat), .ref 2 0 1 0 0, .ref 0 0 2 0 0, .ref 3 0 1 0 0],Bel j c:=λ j hj c hc=>by
  simp only [List.mem_cons,List.not_mem_nil,or_false] at hc;rcases hc with rfl|rfl|rfl|rfl
  ·exact .v _
  all_goals exact .ref aa
 refine zN8 (R:= .int r) (HH:=zFz L R n m') [0,1,2,3] h hp ai af rfl (Nat.le_refl _) (.refl _) ?_ ?_ (.refl _ _ _ _) (ba k hk) (.cons (.same (.v _)) (.cons (.ref r2.symm) (.cons (.ref r0.symm) (.cons (.ref r3.symm) .nil)))) (ba 4 (Nat.le_refl _)) (.same (.v _)) ?_ ?_
 ·intro j hj;have:j=0∨j=1∨j=2∨j=3:=aa;rcases this with rfl|rfl|rfl|rfl
  ·exact ⟨_, _,rfl,by rw [r0];exact hh.h0,x0⟩
  ·exact ⟨_, _,rfl,by rw [r1];exact hh.h1, .rows (.same (cl _))⟩
  ·exact ⟨_, _,rfl,by rw [r2];exact hh.h2,x2⟩
  ·exact ⟨_, _,rfl,by rw [r3];exact hh.h3,x3⟩
 ·intro p hp;simp only [zFz,List.mem_cons,List.not_mem_nil,or_false] at hp;rcases hp with rfl|rfl|rfl|rfl
  ·grind [zlr,zqr]
  ·exact ⟨ac,of_eq_true (zhZ 4 n m)⟩
  ·refine ⟨ac,λ r hr c hc=> ?_⟩;simp only [List.mem_singleton] at hr;subst hr;simp only [List.mem_singleton] at hc;subst hc;exact .sl aa
  grind [zqr]
 ·exact .cons r0.symm x0 (.cons r1.symm (.rows (.same (cl _))) (.cons r2.symm x2 (.cons r3.symm x3 .nil)))
 ·have e:zdU (zFz L R n m') (ziM [0,1,2,3] h)=upd h 1 (some (mkO n m')):=by
   funext x;by_cases x0:x=0
   ·subst x0;simp [zdU,zFz,ziM,upd,hh.h0]
   by_cases x1:x=1
   ·simp_all [zdU,zFz,upd]
   by_cases x2:x=2
   ·subst x2;simp [zdU,zFz,ziM,upd,hh.h2]
   by_cases x3:x=3
   ·subst x3;simp [zdU,zFz,ziM,upd,hh.h3]
   simp_all [zdU,zFz,ziM,upd]
  grind
theorem seqX {B:Type} (C:Nat->B->B->Prop) (n:Nat) (h:∀i,i<n->∀s,∃s',C i s s') (s0:B):∃S:Nat->B,S 0=s0∧∀i,i<n->C i (S i) (S (i+1)):=by
 induction n with
 |zero=>exact ⟨λ _=>s0,rfl,λ i hi=>aa⟩
 |succ n ih=>
  obtain ⟨S,h0,hS⟩:=ih λ i hi=>h i aa;obtain ⟨s',hs'⟩:=h n aa (S n);refine ⟨λ i=>if i<=n then S i else s',by simp [h0],λ i hi=> ?_⟩;grind
theorem zw7 (m:Int) (h0:0<=m) (h1:m<=17179869184):ztr Tryz.prog 193 [AV.nils, .int m] (λ n=> .sl n 0 1 0 0) (λ n=> [(n, .rows true 0 1 [])]) 1:=by
 refine ⟨?_,λ n=>⟨ae,ae⟩⟩;by_cases hm:m=0
 ·subst hm;refine aF Tryz.func193 ?_;refine J0 ?_;simp [go_sem,zaf]
 ·refine zaj.clear ?_;refine aF Tryz.func193 ?_;refine J0 ?_;refine FxF ?_;refine J0 ?_;refine FxT ?_;refine J0 ?_;refine ⟨0,0,1,ai,⟨rfl,rfl,rfl⟩, ?_⟩;simp [go_sem,zaf]
theorem zvt (a b:List Nat) (ha:a.length<=1048576) (hb:b.length<=1048576):zav Tryz.prog 142 [.lst 1 [[zaB a], [zaB b]]] (zaB (a++b)):=by
 rw [zaB,zaB,zaB,List.map_append];refine pF Tryz.func142 ?_;refine J0 ?_;refine zNZ ?_;refine J0 ?_;refine FxF ?_;refine J0 ?_;refine zNZ ?_;refine J0 ?_;refine FxF ?_;refine J0 ?_;refine zNZ ?_;refine J0 ?_;refine zN1 (zw7 _ aa aa) ae ?_;refine J0 ?_;refine zNZ ?_;refine J0 ?_;refine zNZ ?_;refine J0 ?_;refine zNZ ?_;refine J0 ?_;exact zaq rfl ac ap (List.take_of_length_le ac)
def zJB (n:Nat) (F:Nat->zab) (m:Nat->Nat):Prop:=∀j,j<n->m j=0∨m j=min (F j).size 2001
section
variable {L R:List (List Nat)} {n:Nat} {Dp:Nat->Nat->Prop} {F:Nat->zab} (hn:n<=1048576) (hL:L.length=n) (hR:R.length=n) (hl:∀i,i<n->(nth L i).length<=1048576∧(nth R i).length<=1048576) (hlt:∀i,i<n->∀j ∈ nxG L R i,j<n)
 (hD:zzs (nxG L R) Dp) (hF:∀d i,i<n->Dp d i->F i= .mk ((nth L i).map F) ((nth R i).map F))
include hn hL hR hl hlt hD hF
theorem zID:∀ (d i:Nat),i<n->Dp d i->∀m,zJB n F m->∃m',zJB n F m'∧SizC L R n m i (min (F i).size 2001:Nat) m':=by
 intro d;induction d with
 |zero=>intro i hi hd;exact absurd hd (hD.zero i)
 |succ d ih=>
  intro i hi hd m hm;have nm:=zox (m:=m) hi;have hiL:i<L.length:=aa;have hiR:i<R.length:=aa;have eL:nth (L.map zbD) i= [zaB (nth L i)]:=zau _ _ _ hiL;have eR:nth (R.map zbD) i= [zaB (nth R i)]:=zau _ _ _ hiR;have hpos:=za1 (F i);by_cases c0:m i=0
  ·have hd':∀j ∈ nxG L R i,Dp d j:=λ j hj=>hD.down hd j hj;have hln:=hlt i hi;have hFi:=hF (d+1) i hi hd;obtain ⟨hlL,hlR⟩:=hl i hi;have hsz:(F i).size=1+zaw ((nxG L R i).map F):=by grind [size,nxG,zje]
   have hC:=zvt (nth L i) (nth R i) hlL hlR;have hll:(nxG L R i).length=(nth L i).length+(nth R i).length:=by grind [nxG]
   rw [show nth L i++nth R i=nxG L R i from rfl] at hC;obtain ⟨A,A0,A1,A2,A3⟩:=zKs F (nxG L R i) 1;generalize nxG L R i=l at *;obtain ⟨M,M0,hM⟩:=seqX (λ j (m m':{m:Nat->Nat // zJB n F m})=>SizC L R n m.1 (nth l j) (min (F (nth l j)).size 2001:Nat) m'.1) l.length (λ j hj m=>by
    obtain ⟨m',h1,h2⟩:=ih (nth l j) (hln _ (zah hj)) (hd' _ (zah hj)) m.1 m.2;exact ⟨⟨m',h1⟩,h2⟩) ⟨m,hm⟩
   obtain ⟨T,hT⟩:∃T:Nat->Nat->Nat,∀j,T j=(M j).1:=⟨_,λ _=>rfl⟩
   have T0:T 0=m:=af;have hTk:=(M l.length).2;simp only [<- hT] at hM hTk;clear hT M0;rw [<- hsz] at A3;refine ⟨zkS (T l.length) i (min (F i).size 2001),λ j hj=> ?_, ?_⟩
   ·grind [zkS,zJB]
   have hst:(zdR n (T l.length)).set i [.int (min (F i).size 2001:Nat)]=zdR n (zkS (T l.length) i (min (F i).size 2001)):=zmc;have nm2:nth (zdR n (zkS (T l.length) i (min (F i).size 2001))) i= [.int (min (F i).size 2001:Nat)]:=by grind [nth,zdR]
   rw [<- A3] at hst nm2 ⊢;clear A3;unfold SizC zcj;refine aF Tryz.func141 ?_;rw [c0] at nm;repeat first|refine wV λ _=>?_|simp [go_sem,zFz,mkO,fnS,zax,nm,hi,hiL,hiR,eL,eR,zaB]
   refine zbV.frz [.lst 1 [[zaB (nth L i)], [zaB (nth R i)]]] _ [14] [(14,some (.rows false 0 1 [[zaB (nth L i)], [zaB (nth R i)]]))] hC ?_ ?_ ae ?_
   ·grind [upd,zaB]
   ·intro h₁ hS;have h7:=hS 14 ac;simp [go_sem,zaB] at h7;exact .cons (zaq h7.symm ac cy (by grind [zaB])) .nil
   have hll2:l.length<=2097152:=aa;repeat first|refine wV λ _=>?_|simp [go_sem,zaB]
   refine zNW (zNY (α:=Nat) (λ j=>⟨[(0, .int i),(1, .ref 2 0 1 0 0),(3, .ref 3 0 1 0 0),(6, .int (A j:Nat)),(25, .lst 1 (l.map zaR)),(26, .int l.length),(27, .int j)],
     [(0, .rows true 0 2 [[zax L,zax R]]),(1,mkO n (T j)),(2, .rows true 0 1 [[.sl 1 0 1 0 n]]),(3, .rows true 0 1 [[fnS]])],4⟩) (λ d j=>j+d=l.length) ?_ l.length 0 ?_) ?_ ?_
   rotate_left
   ·omega
   ·simp [go_sem,zaf,T0,A0,zax,mkO,fnS]
   ·simp
   intro d j hj hrec;have hA2:=A2 j;refine J0 ?_;refine zNX (λ hc=> ?_) (λ hc=> ?_)<;>simp at hc
   ·have hj':j<l.length:=by omega
    have ej:nth (l.map zaR) j= [.int (nth l j:Nat)]:=zau _ _ _ hj';have hA1:=A1 j hj';repeat first|refine wV λ _=>?_|simp [go_sem,ej,hj',fnS]
    refine zCJ (hM j hj') ⟨aj,by simp [upd,mkO],aj,by simp [upd,fnS]⟩ aa ?_;refine J0 ?_;refine zNW (hrec (d - 1) aa (j+1) aa) ?_ ac;have he:(if (2001:Int)<(A j:Nat)+(min (F (nth l j)).size 2001:Nat) then (2001:Int) else (A j:Nat)+(min (F (nth l j)).size 2001:Nat))=((min (A j+min (F (nth l j)).size 2001) 2001:Nat):Int):=af;simp [go_sem,zaf,mkO,fnS,zax,hA1];rw [he];exact .refl _
   ·obtain rfl:j=l.length:=by omega
    generalize A l.length=z at *;repeat first|refine wV λ _=>?_|simp [go_sem,mkO,fnS,zax,hi,hst,nm2]
    simp [go_sem,zaf]
  ·have hmi:=(hm i hi).resolve_left c0;refine ⟨m,hm, ?_⟩;have c0':¬((m i:Nat):Int)=0:=aa;rw [<- hmi];unfold SizC zcj;refine aF Tryz.func141 ?_;repeat first|refine wV λ _=>?_|simp [go_sem,zFz,mkO,fnS,zax,nm,hi,c0,c0']
   simp [go_sem,zaf]
end
theorem zIE {L R:List (List Nat)}{n:Nat}{Dp:Nat->Nat->Prop}{F:Nat->zab} (hn:n<=1048576) (h0:0<n) (hL:L.length=n) (hR:R.length=n) (hl:∀i,i<n->(nth L i).length<=1048576∧(nth R i).length<=1048576) (hlt:∀i,i<n->∀j ∈ nxG L R i,j<n)
  (hD:zzs (nxG L R) Dp) (hF:∀d i,i<n->Dp d i->F i= .mk ((nth L i).map F) ((nth R i).map F)) {d:Nat} (hd:Dp d 0):zav Tryz.prog 89 [.agg [zax L,zax R]] (.int (min (F 0).size 2001:Nat)):=by
 obtain ⟨m', _,hV⟩:=zID hn hL hR hl hlt hD hF d 0 h0 hd (λ _=>0) (λ j hj=> .inl rfl);have hrep:List.replicate n [AV.int 0]=zdR n (λ _=>0):=by
  refine List.ext_getElem (by simp [zdR]) λ i h1 h2=> ?_;simp [zdR]
 refine pF Tryz.func89 ?_;repeat first|refine wV λ _=>?_|simp [go_sem,zax,hL,hrep]
 refine zCJ hV ⟨by simp [upd,zax],aj,aj,by simp [upd,fnS]⟩ aa ?_;exact K0
end Go.Av
end
section
/- sum.form. -/
set_option linter.unusedSectionVars false
open Go Go.Proofs
namespace Go.Av
open zab
section
variable {L R:List (List Nat)} {n:Nat} {Dp:Nat->Nat->Prop} {F:Nat->zab} (hn:n<=1048576) (hL:L.length=n) (hR:R.length=n) (hl:∀i,i<n->(nth L i).length<=1048576∧(nth R i).length<=1048576) (hlt:∀i,i<n->∀j ∈ nxG L R i,j<n)
 (hD:zzs (nxG L R) Dp) (hF:∀d i,i<n->Dp d i->F i= .mk ((nth L i).map F) ((nth R i).map F))
include hn hL hR hl hlt hD hF
theorem zDV:∀ (d i:Nat),i<n->Dp d i->zav Tryz.prog 90 [.agg [zax L,zax R], .int (i:Nat)] (zbQ (F i)):=by
 intro d;induction d with
 |zero=>intro i hi hd;exact absurd hd (hD.zero i)
 |succ d ih=>
  intro i hi hd;have hiL:i<L.length:=aa;have hiR:i<R.length:=aa;have eL:nth (L.map zbD) i= [zaB (nth L i)]:=zau _ _ _ hiL;have eR:nth (R.map zbD) i= [zaB (nth R i)]:=zau _ _ _ hiR;have hd':∀j ∈ nxG L R i,Dp d j:=λ j hj=>hD.down hd j hj;have hln:=hlt i hi;have hFi:=hF (d+1) i hi hd;obtain ⟨hlL,hlR⟩:=hl i hi;have iL:∀k,k<(nth L i).length->zav Tryz.prog 90 [.agg [zax L,zax R], .int (nth (nth L i) k:Nat)] (.agg (zbt (F (nth (nth L i) k)))):=λ k hk=>ih _ (hln _ (List.mem_append.2 (.inl (zah hk)))) (hd' _ (List.mem_append.2 (.inl (zah hk))));have iR:∀k,k<(nth R i).length->zav Tryz.prog 90 [.agg [zax L,zax R], .int (nth (nth R i) k:Nat)] (.agg (zbt (F (nth (nth R i) k)))):=λ k hk=>ih _ (hln _ (List.mem_append.2 (.inr (zah hk)))) (hd' _ (List.mem_append.2 (.inr (zah hk))));obtain ⟨A,a0,a1,a2,a3⟩:=zCh F (nth L i);obtain ⟨B,b0,b1,b2,b3⟩:=zCh F (nth R i);have eF:zbQ (F i)= .agg [.lst 2 (zar (A (nth L i).length)), .lst 2 (zar (B (nth R i).length))]:=by rw [zbQ,zao,hFi,a3,b3];rfl
  rw [eF];clear eF hFi a3 b3;generalize nth L i=l at *;generalize nth R i=r at *;rw [zax,zax] at *;refine pF Tryz.func90 ?_;repeat first|refine wV λ _=>?_|simp [go_sem,hiL,eL,zaB]
  refine zNW (zNY (α:=Nat) (λ k=>⟨[(1, .int i),(2, .ref 0 0 2 0 0),(4, .ref 1 0 2 0 0),(5, .ref 2 0 2 0 0),(14, .lst 1 (l.map zaR)),(15, .int l.length),(16, .int k)],
   [(0, .rows true 0 2 [[.lst 1 (L.map zbD), .lst 1 (R.map zbD)]]),(1, .rows true 0 2 [[AV.nils,AV.nils]]),(2, .rows true 0 2 [[.sl 3 k 2 0 k,AV.nils]]),(3, .rows true k 2 (zar (A k)))],4⟩)
   (λ d k=>k+d=l.length) ?_ l.length 0 ?_) ?_ ?_
  ·intro d2 k hk hrec;have hlen:=a2 k aa;refine J0 ?_;refine zNX (λ hc=> ?_) (λ hc=> ?_)<;>simp at hc
   ·have hk':k<l.length:=by omega
    have ek:nth (l.map zaR) k= [.int (nth l k:Nat)]:=zau _ _ _ hk';refine J3 ek hk' hlen ?_;refine dP (iL k hk') ?_;refine J1 hlen ?_;refine zNW (hrec (d2 - 1) aa (k+1) aa) ?_ ac;simp [go_sem,zaf,a1 k hk',zdC]
   ·obtain rfl:k=l.length:=by omega
    repeat first|refine wV λ _=>?_|simp [go_sem,hiR,eR,zaB]
    refine zNW (zNY (α:=Nat) (λ k=>⟨[(2, .ref 0 0 2 0 0),(4, .ref 1 0 2 0 0),(5, .ref 2 0 2 0 0),(33, .lst 1 (r.map zaR)),(34, .int r.length),(35, .int k)],
     [(0, .rows true 0 2 [[.lst 1 (L.map zbD), .lst 1 (R.map zbD)]]),(1, .rows true 0 2 [[AV.nils,AV.nils]]),(2, .rows true 0 2 [[.sl 3 l.length 2 0 l.length, .sl 4 k 2 0 k]]),(3, .rows true l.length 2 (zar (A l.length))),(4, .rows true k 2 (zar (B k)))],5⟩)
     (λ d k=>k+d=r.length) ?_ r.length 0 ?_) ?_ ?_
    ·intro d2 k hk hrec;have hlen2:=b2 k aa;refine J0 ?_;refine zNX (λ hc=> ?_) (λ hc=> ?_)<;>simp at hc
     ·have hk':k<r.length:=by omega
      have ek:nth (r.map zaR) k= [.int (nth r k:Nat)]:=zau _ _ _ hk';refine J3 ek hk' hlen2 ?_;refine dP (iR k hk') ?_;refine J1 hlen2 ?_;refine zNW (hrec (d2 - 1) aa (k+1) aa) ?_ ac;simp [go_sem,zaf,b1 k hk',zdC]
     ·obtain rfl:k=r.length:=by omega
      have hA:=a2 _ (Nat.le_refl _);have hB:=b2 _ (Nat.le_refl _);refine J0 ?_;refine ⟨zaq rfl cz ap ?_,zaq rfl cz ap ?_⟩;all_goals simp_all [List.take_of_length_le,zdB]
    ·omega
    ·simp [go_sem,zaf,b0]
    ·simp
  ·omega
  ·simp [go_sem,zaf,a0]
  ·simp
end
end Go.Av
end
section
/- sum.turned, sum.explore. -/
set_option linter.unusedSectionVars false
open Go Go.Proofs
namespace Go.Av
open zab
theorem zhj (p:zae) (s:Int):zav Tryz.prog 137 [.agg (zag p), .int s] (.agg (zag (sdP p s))):=by
 refine pF Tryz.func137 ?_;repeat first|refine wV λ _=>?_|simp [go_sem,sdP]
def zwY (p:zae):AV:= .v (.string (zld p))
def zIq (P:List zae) (x:zae):List AV:= [zwY x, .int (ixP P x:Nat)]
theorem zvL (n:Nat) (P l:List zae):(∀r ∈ l.map (zIq P),∀c ∈ r,Bel n c)=True:=eq_true λ r hr c hc=>by
 obtain ⟨x, _,rfl⟩:=List.mem_map.1 hr;simp only [zIq,List.mem_cons,List.not_mem_nil,or_false] at hc;rcases hc with rfl|rfl<;>exact .v _
attribute [go_sem ↓] zvL
theorem zjV (q:zae) (val:zae->AV):∀P:List zae,(∀u ∈ P,zld q=zld u->q=u)->zct .string (zwY q) (P.map λ x=> [zwY x,val x])=some (if q ∈ P then some (val q) else none)∧(q ∉ P->∀v,zdv .string (zwY q) v (P.map λ x=> [zwY x,val x])=some ((P.map λ x=> [zwY x,val x])++ [[zwY q,v]]))
 | [], _=>⟨rfl,λ _ v=>rfl⟩
 |b::l,h=>by
  obtain ⟨i1,i2⟩:=zjV q val l λ u hu=>h u dB;grind [zir,zwY,cel,zjP,zct,zdv]
theorem zy4 {P:List zae}{q:zae} (h:q ∉ P):(P.map (zIq P))++ [[zwY q, .int (P.length:Nat)]]=(P++ [q]).map (zIq (P++ [q])):=by
 grind [List.map_congr_left,zIq,zmD,zwm]
def zNy:Option (List zae×List (List Nat)×List (List Nat))->AV
 |none=> .tup [.agg [.lst 1 [], .lst 1 []], .bool false]
 |some (P,L,R)=> .tup [.agg [zax L,zax R], .bool true]
theorem zpZ (g:zaa) (hg:GOk g) (p:zae) (hp:POk g p) (limit:Nat) (hl:1<=limit∧limit<=4000):zav Tryz.prog 87 [.agg (zad g), .agg (zag p), .int limit] (zNy (zbe g limit 4002 0 [sdP p 0] [] [])):=by
 have hT:zav Tryz.prog 137 [.agg (zag p), .int 0] (.agg (zag (sdP p 0))):=zhj p 0;have hq0:=zbb hp (s:=0) (.inl rfl);obtain ⟨q,hq⟩:∃q,q=sdP p 0:=⟨_,rfl⟩
 rw [<- hq] at hT hq0 ⊢;clear hq;have hK0:=ziq hg hq0;have hegl:(zad g).length=9:=rfl;have hegb:∀n,(∀c ∈ zad g,Bel n c)=True:=λ n=>ae;obtain ⟨R,hR⟩:∃R,R=zbe g limit 4002 0 [q] [] []:=⟨_,rfl⟩
 rw [<- hR];refine pF Tryz.func87 ?_;refine J0 ?_;refine aP hT ?_;refine J0 ?_;refine aP hK0 ?_;repeat first|refine wV λ _=>?_|simp [go_sem,zdv]
 refine zNW (zNY (α:=Nat×List zae×List (List Nat)×List (List Nat)) (λ a=>⟨[(2, .int limit),(3, .ref 0 0 9 0 0),(6, .ref 2 0 2 0 0),(8, .ref 3 0 2 0 0),(9, .sl 4 a.2.1.length 5 0 (a.2.1.length+1)),(10, .mp 5),(11, .int a.1)],
   [(0, .rows true 0 9 [zad g]),(2, .rows true 0 2 [[AV.nils,AV.nils]]),(3, .rows true 0 2 [[.sl 6 a.1 1 0 a.1, .sl 7 a.1 1 0 a.1]]),(4, .rows true a.2.1.length 5 ((lp q a.2.1).map zag)),(5, .rows true 0 2 ((lp q a.2.1).map (zIq (lp q a.2.1)))),(6, .rows true a.1 1 (a.2.2.1.map zbD)),(7, .rows true a.1 1 (a.2.2.2.map zbD))],8⟩)
  (λ d a=>a.1+d=4002∧a.2.1.length<=3999∧a.1<=a.2.1.length+1∧a.2.2.1.length=a.1∧a.2.2.2.length=a.1∧(∀x ∈ lp q a.2.1,POk g x)∧R=zbe g limit d a.1 (lp q a.2.1) a.2.2.1 a.2.2.2) ?_ 4002 (0, [], [], []) ?_) ?_ ?_
 rotate_left
 ·grind [lp]
 ·have e0:ixP [q] q=0:=by simp [ixP]
  simp [go_sem,zaf,zHN,zIq,zwY,e0]
 ·simp
 rintro d ⟨k,t,Ls,Rs⟩ ⟨i1,i2,i3,i4,i5,i6,i7⟩ hrec;simp only at i1 i2 i3 i4 i5 i6 i7;obtain ⟨d,rfl⟩:∃d',d=d'+1:=⟨d - 1,aa⟩
 have hlp:=ziv q t;rw [zbe] at i7;refine J1 hlp ?_;refine zNX (λ hk=> ?_) (λ hk=> ?_)<;>simp at hk
 ·have hkl:k<(lp q t).length:=by omega
  rw [if_pos hkl] at i7;have hp0:=i6 _ (zah hkl);have hnk:nth ((lp q t).map zag) k=zag (nth (lp q t) k):=zau _ _ _ hkl;generalize hn:nth (lp q t) k=pk at *;have hT0:zav Tryz.prog 137 [.agg (zag pk), .int 0] (.agg (zag (sdP pk 0))):=zhj pk 0;have hT1:zav Tryz.prog 137 [.agg (zag pk), .int 1] (.agg (zag (sdP pk 1))):=zhj pk 1;have hk0:=zbb hp0 (s:=0) (.inl rfl);have hk1:=zbb hp0 (s:=1) (.inr rfl);have hM0:=zhJ g hg _ hk0;have hM1:=zhJ g hg _ hk1;have hml0:=zbf hg hk0;have hml1:=zbf hg hk1;have ho0:∀x ∈ zbP g pk 0,POk g x:=λ x hx=>by
   obtain ⟨y,hy,rfl⟩:=List.mem_map.1 hx;grind [zbb,zaE,zag]
  have ho1:∀x ∈ zbP g pk 1,POk g x:=λ x hx=>by
   obtain ⟨y,hy,rfl⟩:=List.mem_map.1 hx;grind [zbb,zaE,zag]
  obtain ⟨os,hos⟩:∃os,os=zbP g pk 0:=⟨_,rfl⟩
  obtain ⟨ot,hot⟩:∃ot,ot=zbP g pk 1:=⟨_,rfl⟩
  have hosl:os.length=(zai g (sdP pk 0)).length:=by grind [zbP]
  have hotl:ot.length=(zai g (sdP pk 1)).length:=by grind [zbP]
  rw [<- hos,<- hot] at i7;rw [<- hos] at ho0;rw [<- hot] at ho1;obtain ⟨T,N,T0,N0,Ts,Nl,Te,Ne,Tb,Tg,To⟩:=optT q t os;rw [<- Te,<- Ne] at i7;obtain ⟨t1,ht1⟩:∃t1,t1=T os.length:=⟨_,rfl⟩
  rw [<- ht1] at i7;have hnt1:nth (lp q t1) k=pk:=by
   obtain ⟨r,hr⟩:=ze4 os (lp q t);grind [nth]
  obtain ⟨U,M,U0,M0,Us,Ml,Ue,Me,Ub,Ug,Uo⟩:=optT q t1 ot;rw [<- Ue,<- Me] at i7;have hTp:∀j,∀x ∈ lp q (T j),POk g x:=λ j x hx=>(To j x hx).elim (i6 x) (ho0 x);have hUp:∀j,∀x ∈ lp q (U j),POk g x:=λ j x hx=>(Uo j x hx).elim (λ h=>hTp os.length x (ht1▸h)) (ho1 x);have ht1l:t1.length<=3999+472446:=af;generalize hmv:zai g (sdP pk 0)=mv at *;generalize hmw:zai g (sdP pk 1)=mw at *;replace Tb:∀j,j<=mv.length->(T j).length<=1048576:=λ j hj=>af;replace Ub:∀j,j<=mw.length->(U j).length<=1048576:=λ j hj=>af;rw [hosl,hotl] at i7;rw [hosl] at ht1;clear hk0 hk1 hp0;refine J2 hlp hnk ?_;refine zNZ ?_;refine J3 hlp hkl hnk ?_;refine dP hT0 ?_;refine J1 hlp ?_;refine dP hM0 ?_;refine J1 hlp ?_;refine zNW (zNY (α:=Nat) (λ j=>⟨[(2, .int limit),(3, .ref 0 0 9 0 0),(6, .ref 2 0 2 0 0),(8, .ref 3 0 2 0 0),(9, .sl 4 (T j).length 5 0 ((T j).length+1)),(10, .mp 5),(11, .int k),(13, .ref 3 0 2 0 0),(14, .sl 8 j 1 0 j),(36, .agg [.ref 3 0 2 0 0, .ref 3 0 2 0 1]),(37, .int 0),(49,zaC mv),(50, .int mv.length),(51, .int j)],
    [(0, .rows true 0 9 [zad g]),(2, .rows true 0 2 [[AV.nils,AV.nils]]),(3, .rows true 0 2 [[.sl 6 k 1 0 k, .sl 7 k 1 0 k]]),(4, .rows true (T j).length 5 ((lp q (T j)).map zag)),(5, .rows true 0 2 ((lp q (T j)).map (zIq (lp q (T j))))),(6, .rows true k 1 (Ls.map zbD)),(7, .rows true k 1 (Rs.map zbD)),(8, .rows true j 1 ((N j).map zaR))],9⟩)
   (λ d j=>j+d=mv.length) ?_ mv.length 0 ?_) ?_ ?_
  ·rintro d3 j j1 hrec3;have hlj:=ziv q (T j);have hnj:=Nl j aa;refine J2 hlj hnj ?_;refine zNX (λ hj=> ?_) (λ hj=> ?_)<;>simp at hj
   ·have hj2:j<os.length:=by omega
    have hj3:j<mv.length:=aa;have hno:sdP (nth mv j) 0=nth os j:=de;have hst:=(Ts j hj2).1;have hsn:=(Ts j hj2).2;have hTq:zav Tryz.prog 137 [.agg (zag (nth mv j)), .int 0] (.agg (zag (nth os j))):=by rw [<- hno];exact zhj _ 0
    have hxo:=ho0 _ (zah hj2);have hKq:=ziq hg hxo;have htp:=hTp j;obtain ⟨hf1,hf2⟩:=zjV (nth os j) (λ x=> .int (ixP (lp q (T j)) x:Nat)) (lp q (T j)) λ u hu e=>zom hg hxo (htp u hu) e;have htl:=Tb j aa;unfold znS at hst;have hnmv:nth (mv.map zag) j=zag (nth mv j):=zau _ _ _ hj3;refine J4 hj3 hlj hnj hnmv ?_;refine aP hTq ?_;refine J2 hlj hnj ?_;refine aP hKq ?_;have hrI:(lp q (T j)).map (zIq (lp q (T j)))=(lp q (T j)).map (λ x=> [zwY x,AV.int (ixP (lp q (T j)) x:Nat)]):=rfl;rw [<- hrI,zwY] at hf1 hf2;by_cases hm:nth os j ∈ lp q (T j)
    ·rw [if_pos hm] at hst hf1;rw [hst] at hsn;refine J2 hf1 hnj ?_;refine zNW (hrec3 (d3 - 1) aa (j+1) aa) ?_ ac;simp [go_sem,zaf,hst,hsn,zaR]
    ·rw [if_neg hm] at hst hf1;have hput:=hf2 hm (.int ((lp q (T j)).length:Nat));have hsnoc:=zy4 hm;rw [zwY] at hsnoc;rw [hsnoc,hlj] at hput;have hix:=zwm hm;rw [hst,zuV,hix,hlj] at hsn;have hla:=zuV q (T j) (nth os j);refine J3 hf1 hlj hnj ?_;refine aP hKq ?_;push_cast at hput;refine J3 hput hlj hnj ?_;refine zNW (hrec3 (d3 - 1) aa (j+1) aa) ?_ ac;simp [go_sem,zaf,hst,hsn,zaR,hla];intro c hc;exact of_eq_true (zvL _ (lp q (T j)++ [nth os j]) [nth os j]) _ ac c hc
   ·obtain rfl:j=mv.length:=by omega
    have hl1:=ziv q t1;have hn0l:=Nl mv.length aa;rw [<- ht1];generalize N mv.length=n0 at *;have hkl1:k<(lp q t1).length:=dA;have hkl2:k<t1.length+1:=aa;have hnk1:nth ((lp q t1).map zag) k=zag pk:=by rw [zau _ _ _ hkl1,hnt1]
    refine J4 hl1 hn0l i4 i5 ?_;refine zNZ ?_;refine J5 hl1 hn0l hkl1 hkl2 hnk1 ?_;refine dP hT1 ?_;refine J2 hl1 hn0l ?_;refine dP hM1 ?_;refine J2 hl1 hn0l ?_;refine zNW (zNY (α:=Nat) (λ j=>⟨[(2, .int limit),(3, .ref 0 0 9 0 0),(6, .ref 2 0 2 0 0),(8, .ref 3 0 2 0 0),(9, .sl 4 (U j).length 5 0 ((U j).length+1)),(10, .mp 5),(11, .int k),(13, .ref 3 0 2 0 1),(14, .sl 10 j 1 0 j),(36, .agg [.ref 3 0 2 0 0, .ref 3 0 2 0 1]),(37, .int 1),(49,zaC mw),(50, .int mw.length),(51, .int j)],
      [(0, .rows true 0 9 [zad g]),(2, .rows true 0 2 [[AV.nils,AV.nils]]),(3, .rows true 0 2 [[.sl 6 (k+1) 1 0 (k+1), .sl 7 k 1 0 k]]),(4, .rows true (U j).length 5 ((lp q (U j)).map zag)),(5, .rows true 0 2 ((lp q (U j)).map (zIq (lp q (U j))))),(6, .rows true (k+1) 1 ((Ls++ [n0]).map zbD)),(7, .rows true k 1 (Rs.map zbD)),(10, .rows true j 1 ((M j).map zaR))],11⟩)
     (λ d j=>j+d=mw.length) ?_ mw.length 0 ?_) ?_ ?_
    ·rintro d3 j j1 hrec3;have hlj:=ziv q (U j);have hnj:=Ml j aa;refine J2 hlj hnj ?_;refine zNX (λ hj=> ?_) (λ hj=> ?_)<;>simp at hj
     ·have hj2:j<ot.length:=by omega
      have hj3:j<mw.length:=aa;have hno:sdP (nth mw j) 0=nth ot j:=df;have hst:=(Us j hj2).1;have hsn:=(Us j hj2).2;have hTq:zav Tryz.prog 137 [.agg (zag (nth mw j)), .int 0] (.agg (zag (nth ot j))):=by rw [<- hno];exact zhj _ 0
      have hxo:=ho1 _ (zah hj2);have hKq:=ziq hg hxo;have htp:=hUp j;obtain ⟨hf1,hf2⟩:=zjV (nth ot j) (λ x=> .int (ixP (lp q (U j)) x:Nat)) (lp q (U j)) λ u hu e=>zom hg hxo (htp u hu) e;have htl:=Ub j aa;unfold znS at hst;have hnmv:nth (mw.map zag) j=zag (nth mw j):=zau _ _ _ hj3;refine J4 hj3 hlj hnj hnmv ?_;refine aP hTq ?_;refine J2 hlj hnj ?_;refine aP hKq ?_;have hrI:(lp q (U j)).map (zIq (lp q (U j)))=(lp q (U j)).map (λ x=> [zwY x,AV.int (ixP (lp q (U j)) x:Nat)]):=rfl;rw [<- hrI,zwY] at hf1 hf2;by_cases hm:nth ot j ∈ lp q (U j)
      ·rw [if_pos hm] at hst hf1;rw [hst] at hsn;refine J2 hf1 hnj ?_;refine zNW (hrec3 (d3 - 1) aa (j+1) aa) ?_ ac;simp [go_sem,zaf,hst,hsn,zaR];exact λ c hc=>of_eq_true (zgN _ [n0]) _ ac c hc
      ·rw [if_neg hm] at hst hf1;have hput:=hf2 hm (.int ((lp q (U j)).length:Nat));have hsnoc:=zy4 hm;rw [zwY] at hsnoc;rw [hsnoc,hlj] at hput;have hix:=zwm hm;rw [hst,zuV,hix,hlj] at hsn;have hla:=zuV q (U j) (nth ot j);refine J3 hf1 hlj hnj ?_;refine aP hKq ?_;push_cast at hput;refine J3 hput hlj hnj ?_;refine zNW (hrec3 (d3 - 1) aa (j+1) aa) ?_ ac;simp [go_sem,zaf,hst,hsn,zaR,hla];exact ⟨λ c hc=>of_eq_true (zvL _ (lp q (U j)++ [nth ot j]) [nth ot j]) _ ac c hc,λ c hc=>of_eq_true (zgN _ [n0]) _ ac c hc⟩
     ·obtain rfl:j=mw.length:=by omega
      have hup:=hUp mw.length;have hug:=Ug mw.length;have hm0l:=Ml mw.length aa;have hubl:=Ub mw.length (Nat.le_refl _);generalize U mw.length=t2 at *;generalize M mw.length=m0 at *;have hl2:=ziv q t2;refine J5 hl2 hn0l hm0l i4 i5 ?_;refine zNZ ?_;refine J5 hl2 hn0l hm0l i4 i5 ?_;refine zNX (λ hbig=> ?_) (λ hbig=> ?_)<;>simp at hbig
      ·rw [if_pos (by rw [hl2];omega)] at i7;rw [i7,zNy];exact K0
      ·rw [if_neg (by rw [hl2];omega)] at i7;refine J1 hl2 ?_;refine zNW (hrec d aa (k+1,t2,Ls++ [n0],Rs++ [m0]) ⟨aa,aA,aA,by simp [i4],by simp [i5],hup,i7⟩) ?_ ac;simp [go_sem,zaf,zbD,zaB];exact zaJ (.refl _) (.cons (.cons (zaq rfl (by simp [hm0l]) cZ (List.take_of_length_le (by simp [hm0l]))) .nil) .nil)
    ·omega
    ·simp [go_sem,zaf,U0,M0,zaC,zbD,zaB];exact zaJ (.refl _) (.cons (.cons (zaq rfl (by simp [hn0l]) cZ (List.take_of_length_le (by simp [hn0l]))) .nil) .nil)
    ·simp
  ·omega
  ·simp [go_sem,zaf,T0,N0,zaC]
  ·simp
 ·have hkl:¬k<(lp q t).length:=by omega
  rw [if_neg hkl] at i7;obtain rfl:k=t.length+1:=aa;rw [i7,zNy];repeat first|refine wV λ _=>?_|simp [go_sem,hlp,zax]
  refine ⟨zaq rfl (by simp [i4]) ap ?_,zaq rfl (by simp [i5]) ap ?_⟩;all_goals grind [List.take_of_length_le]
end Go.Av
end
section
open Go Go.Proofs
namespace Go.Av
def zFu {α:Type} (p:α->Bool) (l:List α):Int:=match l.findIdx? p with|some i=>(i:Int)|none=> -1
theorem zsd {α:Type} [Inhabited α] {p:α->Bool}{l:List α}{j:Nat} (hj:j<l.length) (h:∀i,i<j->p (nth l i)=false) (hp:p (nth l j)=true):zFu p l=j:=by
 have:l.findIdx? p=some j:=by
  grind [List.findIdx?_eq_some_iff_getElem,nth]
 simp [zFu,this]
theorem zoi {α:Type} [Inhabited α] {p:α->Bool}{l:List α} (h:∀i,i<l.length->p (nth l i)=false):zFu p l= -1:=by
 grind [List.getElem_of_mem,zFu,nth]
theorem zqQ {α:Type}{p:α->Bool}{l:List α}:decide (0<=zFu p l)=l.any p:=by
 grind [zFu]
theorem zlh (l:List (zhn)) (hl:l.length<=1048576) (f:FuncId) (caps:List AV) (p:(zhn)->Bool) (hp:∀x ∈ l,zav Tryz.prog f (.agg (zbq x)::caps) (.v (.bool (p x)))) (hb':∀c ∈ caps,Bel 0 c):
  zav Tryz.prog 191 [.lst 3 (l.map zbq), .fn (.func f) [] caps] (.int (zFu p l)):=by
 refine pF Tryz.func191 ?_;have hA:∀x:(zhn),∀m,Bel m (.agg (zbq x)):=λ x m=>ae;refine J0 ?_;refine zNW (zNY (α:=Nat) (λ j=>⟨[(0, .lst 3 (l.map zbq)),(1, .fn (.func f) [] caps),(7, .int l.length),(8, .int j)], [],0⟩)
  (λ d j=>j+d=l.length∧(∀i<j,p (nth l i)=false)) ?_ l.length 0 ?_) ?_ ?_
 ·rintro d j ⟨i1,i2⟩ hrec;refine J0 ?_;refine zNX (λ hj=> ?_) (λ hj=> ?_)<;>simp at hj
  ·refine J1 hj ?_;refine zN0 (hp _ (zah hj)) (λ c hc=>by
    simp only [List.nil_append,List.cons_append,List.mem_cons] at hc;rcases hc with rfl|h;all_goals simp_all [zbq]) ?_
   refine J0 ?_;refine zNX (λ h=> ?_) (λ h=> ?_)
   ·repeat first|refine wV λ _=>?_|simp [go_sem,zsd hj i2 h]
   ·refine J0 ?_;refine zNW (hrec (d - 1) aa (j+1) ⟨aa,λ i hi=> ?_⟩) ?_ ac
    ·grind
    ·simp [go_sem,zaf];exact hb'
  ·have hn:=zoi (p:=p) (l:=l) λ i hi=>i2 i aa;exact K1 hn
 ·simp
 ·simp [go_sem,zaf];exact hb'
 ·simp
theorem znI (l:List (zhn)) (hl:l.length<=1048576) (f:FuncId) (caps:List AV) (p:(zhn)->Bool) (hp:∀x ∈ l,zav Tryz.prog f (.agg (zbq x)::caps) (.v (.bool (p x)))) (hb':∀c ∈ caps,Bel 0 c):
  zav Tryz.prog 136 [.lst 3 (l.map zbq), .fn (.func f) [] caps] (.v (.bool (l.any p))):=by
 refine pF Tryz.func136 ?_;have hI:=zlh l hl f caps p hp hb';refine J0 ?_;refine zN0 hI cC ?_;repeat first|refine wV λ _=>?_|simp [go_sem,zqQ]
theorem zq9 (l:List (List (Int×Int))) (hl:l.length<=1048576) (f:FuncId) (caps:List AV) (p:(List (Int×Int))->Bool) (hp:∀x ∈ l,zav Tryz.prog f (zaT x::caps) (.v (.bool (p x)))) (hb':∀c ∈ caps,Bel 0 c):
  zav Tryz.prog 236 [.lst 1 (l.map λ p=> [zaT p]), .fn (.func f) [] caps] (.int (zFu p l)):=by
 refine pF Tryz.func236 ?_;have hA:∀x:(List (Int×Int)),∀m,Bel m (zaT x):=λ x m=>ae;refine J0 ?_;refine zNW (zNY (α:=Nat) (λ j=>⟨[(0, .lst 1 (l.map λ p=> [zaT p])),(1, .fn (.func f) [] caps),(7, .int l.length),(8, .int j)], [],0⟩)
  (λ d j=>j+d=l.length∧(∀i<j,p (nth l i)=false)) ?_ l.length 0 ?_) ?_ ?_
 ·rintro d j ⟨i1,i2⟩ hrec;refine J0 ?_;refine zNX (λ hj=> ?_) (λ hj=> ?_)<;>simp at hj
  ·refine J1 hj ?_;refine zN0 (hp _ (zah hj)) (λ c hc=>by
    simp only [List.nil_append,List.cons_append,List.mem_cons] at hc;rcases hc with rfl|h;all_goals simp_all [zaT]) ?_
   refine J0 ?_;refine zNX (λ h=> ?_) (λ h=> ?_)
   ·repeat first|refine wV λ _=>?_|simp [go_sem,zsd hj i2 h]
   ·refine J0 ?_;refine zNW (hrec (d - 1) aa (j+1) ⟨aa,λ i hi=> ?_⟩) ?_ ac
    ·grind
    ·simp [go_sem,zaf];exact hb'
  ·have hn:=zoi (p:=p) (l:=l) λ i hi=>i2 i aa;exact K1 hn
 ·simp
 ·simp [go_sem,zaf];exact hb'
 ·simp
theorem znK (l:List (List (Int×Int))) (hl:l.length<=1048576) (f:FuncId) (caps:List AV) (p:(List (Int×Int))->Bool) (hp:∀x ∈ l,zav Tryz.prog f (zaT x::caps) (.v (.bool (p x)))) (hb':∀c ∈ caps,Bel 0 c):
  zav Tryz.prog 187 [.lst 1 (l.map λ p=> [zaT p]), .fn (.func f) [] caps] (.v (.bool (l.any p))):=by
 refine pF Tryz.func187 ?_;have hI:=zq9 l hl f caps p hp hb';refine J0 ?_;refine zN0 hI cC ?_;repeat first|refine wV λ _=>?_|simp [go_sem,zqQ]
theorem zq7 (l:List (Int×Int×Int×Int)) (hl:l.length<=1048576) (f:FuncId) (caps:List AV) (p:(Int×Int×Int×Int)->Bool) (hp:∀x ∈ l,zav Tryz.prog f (.agg (zaZ x)::caps) (.v (.bool (p x)))) (hb':∀c ∈ caps,Bel 0 c):
  zav Tryz.prog 237 [.lst 4 (l.map zaZ), .fn (.func f) [] caps] (.int (zFu p l)):=by
 refine pF Tryz.func237 ?_;have hA:∀x:(Int×Int×Int×Int),∀m,Bel m (.agg (zaZ x)):=λ x m=>ae;refine J0 ?_;refine zNW (zNY (α:=Nat) (λ j=>⟨[(0, .lst 4 (l.map zaZ)),(1, .fn (.func f) [] caps),(7, .int l.length),(8, .int j)], [],0⟩)
  (λ d j=>j+d=l.length∧(∀i<j,p (nth l i)=false)) ?_ l.length 0 ?_) ?_ ?_
 ·rintro d j ⟨i1,i2⟩ hrec;refine J0 ?_;refine zNX (λ hj=> ?_) (λ hj=> ?_)<;>simp at hj
  ·refine J1 hj ?_;refine zN0 (hp _ (zah hj)) (λ c hc=>by
    simp only [List.nil_append,List.cons_append,List.mem_cons] at hc;rcases hc with rfl|h
    ·exact hA _ _
    grind) ?_
   refine J0 ?_;refine zNX (λ h=> ?_) (λ h=> ?_)
   ·repeat first|refine wV λ _=>?_|simp [go_sem,zsd hj i2 h]
   ·refine J0 ?_;refine zNW (hrec (d - 1) aa (j+1) ⟨aa,λ i hi=> ?_⟩) ?_ ac
    ·grind
    ·simp [go_sem,zaf];exact hb'
  ·have hn:=zoi (p:=p) (l:=l) λ i hi=>i2 i aa;exact K1 hn
 ·simp
 ·simp [go_sem,zaf];exact hb'
 ·simp
theorem znH (l:List (Int×Int×Int×Int)) (hl:l.length<=1048576) (f:FuncId) (caps:List AV) (p:(Int×Int×Int×Int)->Bool) (hp:∀x ∈ l,zav Tryz.prog f (.agg (zaZ x)::caps) (.v (.bool (p x)))) (hb':∀c ∈ caps,Bel 0 c):
  zav Tryz.prog 188 [.lst 4 (l.map zaZ), .fn (.func f) [] caps] (.v (.bool (l.any p))):=by
 refine pF Tryz.func188 ?_;have hI:=zq7 l hl f caps p hp hb';refine J0 ?_;refine zN0 hI cC ?_;repeat first|refine wV λ _=>?_|simp [go_sem,zqQ]
theorem zra (l:List (Int×Int)) (hl:l.length<=1048576) (f:FuncId) (caps:List AV) (p:(Int×Int)->Bool) (hp:∀x ∈ l,zav Tryz.prog f (.agg (zbT x)::caps) (.v (.bool (p x)))) (hb':∀c ∈ caps,Bel 0 c):
  zav Tryz.prog 274 [zaT l, .fn (.func f) [] caps] (.int (zFu p l)):=by
 refine pF Tryz.func274 ?_;have hA:∀x:(Int×Int),∀m,Bel m (.agg (zbT x)):=λ x m=>ae;refine J0 ?_;refine zNW (zNY (α:=Nat) (λ j=>⟨[(0,zaT l),(1, .fn (.func f) [] caps),(7, .int l.length),(8, .int j)], [],0⟩)
  (λ d j=>j+d=l.length∧(∀i<j,p (nth l i)=false)) ?_ l.length 0 ?_) ?_ ?_
 ·rintro d j ⟨i1,i2⟩ hrec;refine J0 ?_;refine zNX (λ hj=> ?_) (λ hj=> ?_)<;>simp at hj
  ·refine J1 hj ?_;refine zN0 (hp _ (zah hj)) (λ c hc=>by
    simp only [List.nil_append,List.cons_append,List.mem_cons] at hc;rcases hc with rfl|h
    ·exact hA _ _
    grind) ?_
   refine J0 ?_;refine zNX (λ h=> ?_) (λ h=> ?_)
   ·repeat first|refine wV λ _=>?_|simp [go_sem,zsd hj i2 h]
   ·refine J0 ?_;refine zNW (hrec (d - 1) aa (j+1) ⟨aa,λ i hi=> ?_⟩) ?_ ac
    ·grind
    ·simp [go_sem,zaf];exact hb'
  ·have hn:=zoi (p:=p) (l:=l) λ i hi=>i2 i aa;exact K1 hn
 ·simp
 ·simp [go_sem,zaf];exact hb'
 ·simp
theorem znL (l:List (Int×Int)) (hl:l.length<=1048576) (f:FuncId) (caps:List AV) (p:(Int×Int)->Bool) (hp:∀x ∈ l,zav Tryz.prog f (.agg (zbT x)::caps) (.v (.bool (p x)))) (hb':∀c ∈ caps,Bel 0 c):
  zav Tryz.prog 231 [zaT l, .fn (.func f) [] caps] (.v (.bool (l.any p))):=by
 refine pF Tryz.func231 ?_;have hI:=zra l hl f caps p hp hb';refine J0 ?_;refine zN0 hI cC ?_;repeat first|refine wV λ _=>?_|simp [go_sem,zqQ]
end Go.Av
end
section
open Go Go.Proofs Go.RowKit Go.Lib
namespace Go.Av
def PredD (P:Program) (g:Nat) (p:Nat->Bool) (w0:World):Prop:=
 ∀ (W:World) (x:Nat),Below w0.heap.size w0 W->Calls P g #[.int .i32 (x:Int)] W λ e w'=>e= .returned (.bool (p x))∧Below W.heap.size W w'∧W.drawn<=w'.drawn
set_option maxHeartbeats 2000000 in
set_option maxRecDepth 1000000 in
theorem zsh (g:Nat) (eg:∀args w,(callFunc g args).run Tryz.prog w= .ok (.enter g args) w) (p:Nat->Bool) (s:ByteArray) (w:World) (hp:PredD Tryz.prog g p w):
  Calls Tryz.prog 275 #[.string s, .func (.func g) #[] #[], .bool true] w λ e w'=>e= .returned (.int .i64 (Lib.idxFunc p true s))∧Below w.heap.size w w'∧w.drawn<=w'.drawn:=by
 have t0:=Tryz.underlying0;have a0:=Tryz.isAgg0;have z0:=Tryz.sizeOf0;have v0:=Tryz.zeroValue0;have t3:=Tryz.underlying3;have a3:=Tryz.isAgg3;have z3:=Tryz.sizeOf3;have v3:=Tryz.zeroValue3;have t4:=Tryz.underlying4;have a4:=Tryz.isAgg4;have z4:=Tryz.sizeOf4;have v4:=Tryz.zeroValue4;have t9:=Tryz.underlying9;have a9:=Tryz.isAgg9;have z9:=Tryz.sizeOf9;have v9:=Tryz.zeroValue9;have t21:=Tryz.underlying21;have a21:=Tryz.isAgg21;have z21:=Tryz.sizeOf21;have v21:=Tryz.zeroValue21;have t40:=Tryz.underlying345;have a40:=Tryz.isAgg345;have z40:=Tryz.sizeOf345;have v40:=Tryz.zeroValue345;go_enter Tryz.func275,Tryz.ntmps275
 go_wp2
 go_loopg [] s.size (λ gf wx=>∃pos:Nat,wx.heap[w.heap.size]? =some (.stringIter s pos)∧(Below w.heap.size w wx∧w.drawn<=wx.drawn)∧Lib.idxFuncFrom p true s gf pos=Lib.idxFunc p true s∧s.size<=pos+gf)
 case atStart=>exact ⟨0,World.iter_heap w s 0,⟨(Below.refl _ w).alloc (Nat.le_refl _) _,Nat.le_refl _⟩,rfl,aa⟩
 case round=>
  obtain ⟨pos,hit,⟨hbw,hdr⟩,hleft,hfu⟩:=hrel;by_cases hps:pos<s.size
  ·obtain ⟨g',rfl⟩:∃g',gk=g'+1:=⟨gk - 1,aa⟩
   have hnx:∀ty,(Instr.next (.pointer (some ⟨w.heap.size,0,none⟩)) true ty).run Tryz.prog wr= _:=λ ty=>Lib.run_next_any_at wr w.heap.size s pos ty hit hps;have hwd:=Lib.width_pos s pos;obtain ⟨R,hR⟩:∃R,(Utf8.decode s pos).1=R:=⟨_,rfl⟩
   obtain ⟨K,hK⟩:∃K,(Utf8.decode s pos).2=K:=⟨_,rfl⟩
   simp only [Lib.idxFuncFrom,hps,if_true,hR,hK] at hleft;rw [hR,hK] at hnx;rw [hK] at hwd;have hit2:=Lib.iterAt_heap wr w.heap.size s pos (pos+K) hit;have hbw2:=Lib.below_iterAt hbw (k:=w.heap.size) (Nat.le_refl _) s (pos+K);have hdr2:w.drawn<=(wr.iterAt w.heap.size s (pos+K)).drawn:=hdr;obtain ⟨W,hWd⟩:∃W,wr.iterAt w.heap.size s (pos+K)=W:=⟨_,rfl⟩
   rw [hWd] at hnx hit2 hbw2 hdr2;have hltW:w.heap.size<W.heap.size:=(Array.getElem?_eq_some_iff.1 hit2).1;have cS:Calls Tryz.prog g (#[.int .i32 (R:Int)]++ #[]) W _:=hp W R hbw2;clear hp;cases hsp:p R<;>rw [hsp] at cS<;>simp only [hsp,if_true,Bool.false_eq_true,Bool.true_eq_false,if_false] at hleft
   ·go_wp2_with (go_at_fn g;refine cS.mono ?_;rintro e W' ⟨rfl,hbc,hdc⟩)
    go_roundg g'
    case measure=>omega
    case rel=>exact ⟨pos+K,(hbc.block _ hltW).trans hit2,⟨(hbw2.trans (hbc.mono hbw2.size)),Nat.le_trans hdr2 hdc⟩,hleft,aa⟩
   ·go_wp2_with (go_at_fn g;refine cS.mono ?_;rintro e W' ⟨rfl,hbc,hdc⟩)
    go_ret
    exact ⟨by rw [<- hleft]<;>rfl,(hbw2.trans (hbc.mono hbw2.size)),Nat.le_trans hdr2 hdc⟩
  ·have hnx:∀ty,(Instr.next (.pointer (some ⟨w.heap.size,0,none⟩)) true ty).run Tryz.prog wr= _:=λ ty=>Lib.run_next_end_at wr w.heap.size s pos ty hit hps;rw [Lib.idxFuncFrom_end p true s gk pos hps] at hleft;go_wp2
   go_ret
   exact ⟨by rw [<- hleft]<;>rfl,hbw,hdr⟩
end Go.Av
end
section
open Go Go.Proofs
namespace Go.Av
theorem ztN (g:FuncId) (p:Nat->Bool) (hg:∀x:Nat,zav Tryz.prog g [.v (.int .i32 x)] (.v (.bool (p x)))) (s:ByteArray):
  zav Tryz.prog 275 [.v (.string s), .fn (.func g) [] [], .v (.bool true)] (.int (Lib.idxFunc p true s)):=by
 refine ⟨zic Tryz.func275 rfl rfl,λ M w vs hM hgl hr=> ?_⟩;cases hr with
 |cons h1 hr=>
 cases hr with
 |cons h2 hr=>
 cases hr with
 |cons h3 hr=>
 cases hr;cases h1;cases h3;cases h2 with
 | @fn _ _ _ fs cs q1 q2=>
 cases q1;cases q2;have hp:PredD Tryz.prog g p w:=λ W x hB=>by
  refine ((hg x).2 (λ _=>False) W [.int .i32 x] (λ _ h=>h.elim) (hgl.keep (λ k _ hk=>hB.block k hk) (λ k h=>h.elim)) (.cons (.v _) .nil)).mono ?_;rintro e w' ⟨v,rfl,hrv,hfr⟩;cases hrv;exact ⟨rfl,⟨hfr.os,hfr.tape,hfr.output,hfr.size,λ k hk=>hfr.block k hk (λ h=>h)⟩,hfr.drawn⟩
 refine (zsh g (hg 0).1 p s w hp).mono ?_;rintro e w' ⟨rfl,hb,hd⟩;exact ⟨_,rfl, .v _,⟨hb.os,hb.tape,hb.output,hd,hb.size,λ k hk _=>hb.block k hk⟩⟩
theorem zs7 (g:FuncId) (p:Nat->Bool) (hg:∀x:Nat,zav Tryz.prog g [.v (.int .i32 x)] (.v (.bool (p x)))) (s:ByteArray):
  zav Tryz.prog 233 [.v (.string s), .fn (.func g) [] []] (.int (Lib.idxFunc p true s)):=by
 refine pF Tryz.func233 ?_;have h:=ztN g p hg s;refine J0 ?_;refine aP h ?_;exact K0
theorem ztW (x:Nat):zav Tryz.prog 234 [.v (.int .i32 x)] (.v (.bool (decide (x<97∨122<x)))):=by
 refine pF Tryz.func234 ?_;have e1:decide ((x:Int)<97)=decide (x<97):=decide_eq_decide.2 aa;have e2:decide (122<(x:Int))=decide (122<x):=decide_eq_decide.2 aa;exact K2 e1 e2
theorem zt4 (s:ByteArray) (hs:s=zqm∨s=ztS):zav Tryz.prog 185 [.v (.string s)] (.v (.bool true)):=by
 refine pF Tryz.func185 ?_;have hI:=zs7 234 (λ x=>decide (x<97∨122<x)) ztW s;have hidx:Lib.idxFunc (λ x=>decide (x<97∨122<x)) true s= -1:=by rcases hs with rfl|rfl<;>decide+kernel
 rw [hidx] at hI;have hne:(!s.toList.isEmpty && decide ((s.size:Int)<=8))=true:=by rcases hs with rfl|rfl<;>decide+kernel
 refine J1 hne ?_;refine zN4 _ (λ _=>hI) ae ?_;exact K0
theorem zDQ (k:zhn) (nm:ByteArray):zav Tryz.prog 235 [.agg (zbq k), .fp [.v (.string nm)]] (.v (.bool (k.name.toList==nm.toList))):=by
 refine pF Tryz.func235 ?_;exact K0
theorem zDZ (g:zaa) (nm:ByteArray) (hk:g.kinds.length<=1048576):zav Tryz.prog 186 [.agg (zad g), .v (.string nm)] (.int (zFu (λ k=>k.name.toList==nm.toList) g.kinds)):=by
 refine pF Tryz.func186 ?_;have hI:=zlh g.kinds hk 235 [.fp [.v (.string nm)]] (λ k=>k.name.toList==nm.toList) (λ k _=>zDQ k nm) ae;refine J0 ?_;refine zOb (args':= [.lst 3 (g.kinds.map zbq), .fn (.func 235) [] [.fp [.v (.string nm)]]]) hI (.v _) ?_ ae ?_
 ·refine .cons (.refl _) (.cons (.fn .nil (.cons (.frzP rfl ?_ ?_ ?_ ?_) .nil)) .nil)<;>first|exact zaL.refl _ _ _ _|simp [noH]
 exact K0
theorem zkF (n:Int):zav Tryz.prog 182 [.int n] (.v (.bool (decide (1<=n) && decide (n<=3)))):=by
 refine pF Tryz.func182 ?_;exact K0
theorem zEX (g:zaa) (c:Int×Int×Int×Int) (hk:g.kinds.length<=1048576) (hc:ziP g.cells g.kinds.length c):zav Tryz.prog 190 [.agg (zad g), .agg (zaZ c)] (.v (.bool true)):=by
 refine pF Tryz.func190 ?_;obtain ⟨h1,⟨h2,h2'⟩,⟨h3,h4,h5,h6⟩,⟨h7,h7'⟩,h8⟩:=hc;have hR:=zkF c.2.2.2;have e:(decide (1<=c.2.2.2) && decide (c.2.2.2<=3))=true:=af;rw [e] at hR;obtain ⟨a,b,n,t⟩:=c;simp only at *;rcases h1 with rfl|rfl|rfl
 ·refine J2 h2 h2' ?_;refine aP hR ?_;exact K2 h4 h5
 ·refine J2 h2 h2' ?_;refine aP hR ?_;exact K2 h4 h3
 ·refine J2 h2 h2' ?_;refine aP hR ?_;exact K3 h8 h3 h6
end Go.Av
end
