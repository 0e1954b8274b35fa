/- Texts of ours, part 13: our library and contracts of functions. -/
import Derived.Test.YtgdfnfffibhkjaaGreatDoorB12
import GoSem.ClaimJoined
import Derived.Test.YtgdfnfffibhkjaaGreatDoorCards
import Derived.Test.YtgdfnfffibhkjaaGreatDoorTie
import Derived.Deep.DeepHandedRow
import Derived.LaidHandle
import Derived.LaidMore
import Derived.OpenShut
import Derived.Test.YtgdfnfffibhkjaaGreatDoorRows
set_option linter.unusedSimpArgs false
set_option linter.unusedVariables false
set_option maxRecDepth 100000
set_option maxHeartbeats 40000000
section
open Go Go.Proofs
namespace Go.Av
def zjl (g:zaa) (w:Int) (d:Nat):List (List Int):=(g.next.take d).map λ l=>zkY (zfI g) w l (2 * zfI g)
variable {g:zaa}
theorem zxr {w:Int}{d:Nat} (h:d<g.next.length):zjl g w (d+1)=zjl g w d++ [zkY (zfI g) w (nth g.next d) (2 * zfI g)]:=by
  grind [zjl,zkm]
theorem zz1 {w:Int}{d:Nat} (h:d<=g.next.length):(zjl g w d).length=d:=by grind [zjl]
theorem zvC (g:zaa) (hg:GOk g) (w:Int) (hw:U8 w):zav Tryz.prog 46 [.agg (zad g), .v (.int .u8 w)] (.agg (zad (zkX g w))):=by
  refine pF Tryz.func46 ?_;have hP:=znN g hg;obtain ⟨n1,n4,nc⟩:=zwj hg;obtain ⟨tl,tv,nl,nv,c0,c1,nn1⟩:=hg.board;have d8:g.next.length<=8:=hg.d8;have tl':g.turn.length=g.next.length:=tl;have nl':∀l ∈ g.next,(l.length:Int)=g.cells:=nl;have nv':∀l ∈ g.next,∀x ∈ l, -1<=x∧x<g.cells:=nv;have c9:=hg.c9;have hN:(if (4:Int)<g.cells then 4 else g.cells)=(zfI g:Int):=by grind [zfI]
  have eg:zad (zkX g w)= [.int (2 * (zfI g:Int)),zcU (zjl g w g.next.length),zaG g.turn, .lst 3 ((g.kinds.map zk5).map zbq), .int 0, .v (.bool false), .lst 4 [], .int 3, .int 2]:=by
    unfold zjl;rw [List.take_length];rfl
  have ep:zad (zeS g)= [.int g.cells,zcU g.next,zaG g.turn, .lst 3 ((g.kinds.map zk5).map zbq), .int 0, .v (.bool false), .lst 4 [], .int 3, .int 2]:=rfl;have eg0:zad g= [.int g.cells,zcU g.next,zaG g.turn, .lst 3 (g.kinds.map zbq), .int g.rights, .v (.bool g.must), .lst 4 (g.clauses.map zaZ), .int g.blocked, .int g.endless]:=rfl;rw [ep,eg0] at hP;rw [eg];have hns:=λ d (h:d<g.next.length)=>zxr (w:=w) h;have lns:=λ d (h:d<=g.next.length)=>zz1 (w:=w) h;have hTs:∀ (l:List Int) c,zvH (zfI g) w l c=if (zfI g:Int)<=nth l (c % zfI g)∨(bitW w c=true∧zfI g<=c) then -1 else if 0<=nth l (c % zfI g)∧zfI g<=c then nth l (c % zfI g)+zfI g else nth l (c % zfI g):=λ _ _=>rfl
  generalize hNn:zfI g=N at *;refine J1 hN ?_;refine aP hP ?_;refine J0 ?_;refine zNW (zNY (α:=Nat) (λ d=>⟨[(1, .v (.int .u8 w)),(2, .ref 0 0 9 0 0),(4, .ref 1 0 9 0 0),(5, .int N),(6, .ref 2 0 9 0 0),(7, .ref 4 0 3 0 0),(8, .int d)],
      [(0, .rows true 0 9 [zad g]),(1, .rows true 0 9 [[.int 0, .v (.slice none 0 0), .v (.slice none 0 0), .v (.slice none 0 0), .int 0, .v (.bool false), .v (.slice none 0 0), .int 0, .int 0]]),
       (2, .rows true 0 9 [[.int g.cells,zcU g.next,zaG g.turn, .lst 3 ((g.kinds.map zk5).map zbq), .int 0, .v (.bool false), .lst 4 [], .int 3, .int 2]]),(3, .rows true 1 1 (g.turn.map zd2)),(4, .rows true 0 3 [[.int (2 * (N:Int)), .sl 5 d 1 0 d, .sl 3 1 1 0 g.turn.length]]),(5, .rows true d 1 ((zjl g w d).map λ l=> [zaG l]))],6⟩)
    (λ r d=>d+r=g.next.length) ?_ g.next.length 0 ?_) ?_ ?_
  · rintro r d i1 hrec;have lgn:=lns d aa;refine J0 ?_;refine zNX (λ hd=> ?_) (λ hd=> ?_)<;>simp at hd
    · have hlen:=nl' _ (zah hd);have hval:=nv' _ (zah hd);have hnsd:=hns d hd;refine J0 ?_;refine zNW (zNY (α:=Nat) (λ x=>⟨[(1, .v (.int .u8 w)),(2, .ref 0 0 9 0 0),(4, .ref 1 0 9 0 0),(5, .int N),(6, .ref 2 0 9 0 0),(7, .ref 4 0 3 0 0),(8, .int d),(9, .sl 6 x 1 0 x),(10, .int x)],
          [(0, .rows true 0 9 [zad g]),(1, .rows true 0 9 [[.int 0, .v (.slice none 0 0), .v (.slice none 0 0), .v (.slice none 0 0), .int 0, .v (.bool false), .v (.slice none 0 0), .int 0, .int 0]]),
           (2, .rows true 0 9 [[.int g.cells,zcU g.next,zaG g.turn, .lst 3 ((g.kinds.map zk5).map zbq), .int 0, .v (.bool false), .lst 4 [], .int 3, .int 2]]),(3, .rows true 1 1 (g.turn.map zd2)),(4, .rows true 0 3 [[.int (2 * (N:Int)), .sl 5 d 1 0 d, .sl 3 1 1 0 g.turn.length]]),(5, .rows true d 1 ((zjl g w d).map λ l=> [zaG l])),
           (6, .rows true x 1 ((zkY N w (nth g.next d) x).map zd2))],7⟩)
        (λ s x=>x+s=2 * N) ?_ (2 * N) 0 ?_) ?_ ?_
      · rintro s x j1 hrec2;have lgr:(zkY N w (nth g.next d) x).length=x:=zuh _ _ _ _;have lsr:=zz0 N w (nth g.next d) x;have hTx:=hTs (nth g.next d) x;refine J0 ?_;refine zNX (λ hx=> ?_) (λ hx=> ?_)<;>simp at hx
        · have hm:(x:Int).tmod (N:Int)=((x % N:Nat):Int):=by simp_all [Int.tmod_eq_emod_of_nonneg]
          have hmN:x % N<N:=Nat.mod_lt _ aa;have m0:=Int.tmod_nonneg (8:Int) (show (0:Int)<=x by omega);have m1:=Int.tmod_lt_of_pos (x:Int) (show (0:Int)<8 by omega);have hq:x % N<(nth g.next d).length:=aa;have hv:=hval _ (zah hq);have hbw:bitW w x=decide (zru .u8 (w.fdiv (2 ^ ((x:Int).tmod 8).toNat)) 1=1):=rfl;generalize hb8:(x:Int).tmod 8=b8 at *;generalize hxm:x % N=xm at *;generalize hto:nth (nth g.next d) xm=to at *;refine J5 hm hd hq hb8 hto ?_;refine zNX (λ hc=> ?_) (λ hc=> ?_)<;>rw [<- hbw] at hc<;>simp at hc
          · rw [if_pos hc] at hTx;refine J0 ?_;refine zNW (hrec2 (s - 1) aa (x+1) aa) ?_ ac;simp [go_sem,zaf,lsr,hTx]
          · rw [if_neg (by rw [not_or,not_and];exact ⟨aa,λ h=>by have:=hc.2 h;omega⟩)] at hTx;refine J0 ?_;refine zNX (λ he=> ?_) (λ he=> ?_)<;>simp at he
            · rw [if_pos he] at hTx;refine J0 ?_;refine zNW (hrec2 (s - 1) aa (x+1) aa) ?_ ac;simp [go_sem,zaf,lsr,hTx]
            · rw [if_neg aa] at hTx;refine J0 ?_;refine zNW (hrec2 (s - 1) aa (x+1) aa) ?_ ac;simp [go_sem,zaf,lsr,hTx]
        · have hcD:x=2 * N:=by omega
          subst hcD;refine J0 ?_;refine zNW (hrec (r - 1) aa (d+1) aa) ?_ ac;simp [go_sem,zaf,hnsd];refine zaJ (.refl _) ?_;refine zaM.cons (zaL.cons ?_ zaL.nil) zaM.nil;refine LeV.frz rfl ?_ ?_ (zN6 ?_)<;>simp [mkH,upd,lgr,List.take_of_length_le]
      · simp
      · simp [go_sem,zaf,zkY]
      · simp
    · have hd8:d=g.next.length:=by omega
      subst hd8;refine J0 ?_;refine ⟨?_, ?_⟩<;>(refine LeV.frz rfl ?_ ?_ (zN6 ?_)<;>simp [noH,lgn,List.take_of_length_le])
  · simp
  · simp [go_sem,zaf,zjl]
  · simp
def zks (l:List Int):List AV:=l.map λ x=> .int x
theorem zv0 (l:List Int):(zks l).length=l.length:=by simp [zks]
variable {c i n:Nat} {l names of:List Int}
theorem zGL  (h:c<l.length):cel ((zks l).drop c) 0= .int (nth l c):=by
 grind [cel,zks,nth]
theorem znZ :(∀c ∈ zks l,Bel n c)=True:=by
 refine eq_true ?_;intro c hc;obtain ⟨x, _,rfl⟩:=List.mem_map.1 hc;exact .v _
attribute [go_sem ↓] znZ
theorem zs1 (l:List Int) (hl:zbB l) (c:Int) (h0:0<=c) (h1:c<64):zav Tryz.prog 197 [.fp (zks l), .int c] (.int (za4 l c)):=by
 refine pF Tryz.func197 ?_;have hlen:(zks l).length=64:=by rw [zv0,hl.len]
 have hcel:∀c,c<64->cel ((zks l).drop c) 0= .int (nth l c):=λ c hc=>zGL (by grind [zks]);have hbl:∀n,(∀c ∈ zks l,Bel n c):=λ n=>of_eq_true znZ;generalize hel:zks l=el at *;refine J1 hlen ?_;refine zNW (zNY (α:=Int) (λ x=>⟨[(0, .fp el),(1, .int x)], [],0⟩)
  (λ d x=>0<=x∧x<64∧d=x.toNat∧za4 l x=za4 l c) ?_ c.toNat c ?_) ?_ ?_
 ·rintro d x ⟨i0,i1,i2,i3⟩ hrec;have hx:=hl.le x.toNat aa;have hs:=zke hl i0 i1;have hcx:=hcel x.toNat aa;refine J2 hlen hcx ?_;refine zNX (λ he=> ?_) (λ he=> ?_)<;>simp at he
  ·have hne:¬nth l x.toNat=x:=he;rw [if_neg hne] at hs;refine J2 hlen hcx ?_;refine zNW (hrec (nth l x.toNat).toNat aa (nth l x.toNat) ⟨aa,aa,rfl,af⟩) ?_ ac;simp [go_sem,zaf];grind
  ·rw [if_pos he] at hs;rw [hs] at i3;subst i3;exact K0
 ·omega
 ·simp [go_sem,zaf];grind
 ·simp
theorem zHy (l:List Int) (hl:zbB l) (first:Int) (h0:0<=first∧first<64) (others:List Int) (ho:∀c ∈ others,0<=c∧c<64) (hlo:others.length<=1048576):
  zcj Tryz.prog 195 [.ref 0 0 64 0 0, .int first,zaG others] [(0, .rows true 0 64 [zks l])] 1 (.tup []) [(0, .rows true 0 64 [zks (zbu l first others)])] 1:=by
 unfold zcj;refine aF Tryz.func195 ?_;refine J0 ?_;refine zNW (zNY (α:=Nat) (λ i=>⟨[(0, .ref 0 0 64 0 0),(1, .int first),(10,zaG others),(11, .int others.length),(12, .int i)], [(0, .rows true 0 64 [zks (zbu l first (others.take i))])],1⟩)
  (λ d i=>i+d=others.length) ?_ others.length 0 ?_) ?_ ?_
 ·rintro d i i1 hrec;have htk:∀c ∈ others.take i,0<=c∧c<64:=λ c hc=>ho c (List.mem_of_mem_take hc);have hok:=(zio hl h0 (others.take i) htk).1;have hel:(zks (zbu l first (others.take i))).length=64:=by rw [zv0,hok.len]
  refine J0 ?_;refine zNX (λ hi=> ?_) (λ hi=> ?_)<;>simp at hi
  ·have hx:=ho _ (zah hi);have hs:zbu l first (others.take (i+1))=zqk (zbu l first (others.take i)) (za4 (zbu l first (others.take i)) first) (za4 (zbu l first (others.take i)) (nth others i)):=by
    grind [List.take_add_one,zbu,nth]
   generalize zbu l first (others.take i)=l1 at hok hel hs ⊢
   have hr1:=zs1 l1 hok first h0.1 h0.2
   have hr2:=zs1 l1 hok (nth others i) hx.1 hx.2;have ra:=zkd hok h0.1 h0.2;have rb:=zkd hok hx.1 hx.2;generalize za4 l1 first=a at hs hr1 ra
   generalize za4 l1 (nth others i)=b at hs hr2 rb;refine J1 hi ?_;refine zOb (args':= [.fp (zks l1), .int first]) hr1 (.v _) ?_ ae ?_
   ·refine zaL.cons (.frzP rfl ?_ ?_ ?_ ?_) (.refl _ _ _ _)<;>first|exact zaL.refl _ _ _ _|simp [hel,noH]
   refine J0 ?_;refine zOb (args':= [.fp (zks l1), .int (nth others i)]) hr2 (.v _) ?_ ae ?_
   ·refine zaL.cons (.frzP rfl ?_ ?_ ?_ ?_) (.refl _ _ _ _)<;>first|exact zaL.refl _ _ _ _|simp [hel,noH]
   refine J1 hel ?_;refine zNW (hrec (d - 1) aa (i+1) aa) ?_ ac;have hst:zks (zqk l1 a b)=(zks l1).set (max a b).toNat (.int (min a b)):=by simp_all [zks,zqk]
   simp [go_sem,zaf,hs,minE,maxE,hst];rw [<- hst];exact of_eq_true znZ
  ·have hil:i=others.length:=by omega
   subst hil;rw [List.take_length] at *;refine J0 ?_;simp [go_sem,zaf]
 ·simp
 ·simp [go_sem,zaf,zbu]
 ·simp
theorem zyt (l:List Int) (hl:zbB l) (first:Int) (h0:0<=first∧first<64) (others:List Int) (ho:∀c ∈ others,0<=c∧c<64) (hlo:others.length<=1048576){h h':zay}{o:Nat}{A:AV} (hfz:Frz h h')
  (ho':h' o=some (.rows true 0 64 [zks l])) (hon:o<n) (hA:LeV h h' n A (zaG others)) {K:zbH} (hK:K (.tup []) (upd h' o (some (.rows true 0 64 [zks (zbu l first others)]))) n):
  zaj Tryz.prog 195 [.ref o 0 64 0 0, .int first,A] h n K:=by
 have hbo:∀m,Bel m (zaG others):=λ m=>ae;have hbl:∀ (l:List Int) m,∀r ∈ [zks l],∀c ∈ r,Bel m c:=λ l m r hr c hc=>by
  rw [List.mem_singleton] at hr;subst hr;exact of_eq_true znZ c hc
 refine zN8 (args':= [.ref o 0 64 0 0, .int first,zaG others]) (HH:= [(o, .rows true 0 64 [zks (zbu l first others)])])
  [o] h' (zHy l hl first h0 others ho hlo) ac af rfl (Nat.le_refl _) hfz ?_ ?_ (.cons (.refl _) (.cons (.refl _) (.cons hA .nil))) ?_ ?_ ?_ (.same (.tup λ _ h=>by cases h)) ?_ ?_
 ·intro j hj;obtain rfl:j=0:=aa;exact ⟨_, _,rfl,ho', .rows (.same (hbl _ _))⟩
 ·grind [zqr]
 ·intro y hy;simp only [List.mem_cons,List.not_mem_nil,or_false] at hy;rcases hy with rfl|rfl|rfl
  ·exact .ref hon
  ·exact .v _
  grind
 ·exact .cons (.ref rfl) (.cons (.same (.v _)) (.cons (.same (hbo _)) .nil))
 ·intro y hy;simp only [List.mem_cons,List.not_mem_nil,or_false] at hy;rcases hy with rfl|rfl|rfl
  ·exact .ref ai
  ·exact .v _
  grind
 ·exact .cons rfl (.rows (.same (hbl _ _))) .nil
 ·have e:zdU [(o, .rows true 0 64 [zks (zbu l first others)])] (ziM [o] h')=upd h' o (some (.rows true 0 64 [zks (zbu l first others)])):=by
   funext j;simp_all [zdU,ziM,upd]
  grind
theorem zdn  (hg:GOk g) (s:Int):zgH g.cells.toNat (zjy g s):=by
 have hc1:=hg.c1;refine ⟨by simp [zjy];exact hg.k6,λ k hk=> ?_⟩;obtain ⟨kd,hkd,rfl⟩:=List.mem_map.1 hk;refine ⟨by simp [zgg,zaa.board],λ x hx=> ?_⟩;obtain ⟨c,hc,rfl⟩:=List.mem_map.1 hx;have hc':=List.mem_range.1 hc;have hcc:(0:Int)<=(c:Int)∧(c:Int)<g.cells:=by grind [zaa.board]
 refine ⟨by grind [zyv],λ p hp=> ?_⟩;have ho:=zKA hg (side:=s) hkd hcc p hp;have e:((g.cells.toNat:Nat):Int)=g.cells:=aa;refine ⟨by rw [e];exact ho.to,zEe hg s hkd _ p hp,λ a ha=>by rw [e];exact zGN (ho.acts a ha)⟩
def zwl (i:Nat):List Int:=idL.take i++List.replicate (64 - i) 0
theorem zHt  (h:i<=64):(zwl i).length=64:=by grind [zwl,idL]
theorem zD7:∀i,i<64->zwl (i+1)=(zwl i).set i (i:Int):=cD
theorem zHs:zwl 64=idL:=rfl
def zjC (l:List Int) (n c:Nat):List Int:=zcX l c++List.replicate (n - c) 0
theorem zfz (l:List Int) (n:Nat):(zcX l n).length=n:=by simp [zcX]
theorem zBA (l:List Int) (h:c<=n):(zjC l n c).length=n:=by grind [zjC,zfz]
theorem zBz (l:List Int) (n:Nat):zjC l n n=zcX l n:=by simp [zjC]
theorem zzk (l:List Int) (h:c<n):zjC l n (c+1)=(zjC l n c).set c (za4 l c):=by
 unfold zjC;have e:zcX l (c+1)=zcX l c++ [za4 l c]:=by simp [zcX,List.range_succ]
 have e2:List.replicate (n - c) (0:Int)=0::List.replicate (n - (c+1)) 0:=by rw [show n - c=(n - (c+1))+1 by omega,List.replicate_succ]
 grind [zcX]
theorem zK5 (g:zaa) (hg:GOk g):zav Tryz.prog 143 [.agg (zad g)] (zaG (zcX (zez (zo7 g)) g.cells.toNat)):=by
 refine pF Tryz.func143 ?_;have hC:=zw5 g hg;have hc1:=hg.c1;have hc9:=hg.c9;have hs1:=zdn hg 0;have hs2:=zdn hg 1;have hcc:zo7 g=(zjy g 0,zjy g 1):=rfl;rw [hcc] at hC ⊢;generalize zjy g 0=s0 at *;generalize zjy g 1=s1 at *;have hgb:∀n,(∀c ∈ zad g,Bel n c)=True:=λ n=>ae;have hg0:cel (zad g) 0= .int g.cells:=rfl;obtain ⟨eg,heg⟩:∃eg,eg=zad g:=⟨_,rfl⟩
 have hel:eg.length=9:=by rw [heg];rfl
 have hn64:g.cells.toNat<=64:=aa;rw [<- heg] at hC hgb hg0 ⊢;clear hcc heg;obtain ⟨n,hn⟩:∃n,n=g.cells.toNat:=⟨_,rfl⟩
 have hnc:g.cells=(n:Int):=aa;rw [<- hn] at hs1 hs2 hn64 ⊢;rw [hnc] at *;refine J1 hel ?_;refine zNW (zNY (α:=Nat) (λ i=>⟨[(1, .ref 0 0 9 0 0),(3, .ref 1 0 64 0 0),(17, .int i)], [(0, .rows true 0 9 [eg]),(1, .rows true 0 64 [zks (zwl i)])],2⟩)
  (λ d i=>i+d=64) ?_ 64 0 ?_) ?_ ?_
 ·rintro d i i1 hrec;have hell:(zks (zwl i)).length=64:=by grind [zHt,zks]
  refine J0 ?_;refine zNX (λ hi=> ?_) (λ hi=> ?_)<;>simp at hi
  ·have hst:zks (zwl (i+1))=(zks (zwl i)).set i (.int i):=by grind [zD7,zks,List.map_set]
   refine J1 hell ?_;refine zNW (hrec (d - 1) aa (i+1) aa) ?_ ac;simp [go_sem,zaf,hst];exact ⟨of_eq_true (hgb 2),by rw [<- hst];exact of_eq_true znZ⟩
  ·have hil:i=64:=by omega
   subst hil;rw [zHs];have hcl:(zng (s0,s1)).length=2:=rfl;have hcb:∀n,(∀c ∈ zng (s0,s1),Bel n c)=True:=λ n=>ae;have hct:(zng (s0,s1)).take 2= [zbF s0,zbF s1]:=rfl;generalize zng (s0,s1)=ec at *;refine J0 ?_;refine zN0 hC dx ?_;refine J2 hcl hct ?_;obtain ⟨R,hR⟩:∃R,R=zez (s0,s1):=⟨_,rfl⟩
   have hRok:zbB R:=by grind [zyy]
   rw [<- hR];have hss:∀i:Nat,i<2->∃s,zgH n s∧cel [zbF s0,zbF s1] i=zbF s∧(i=0->s=s0)∧(i=1->s=s1):=by
    intro i hi;rcases (show i=0∨i=1 by omega) with rfl|rfl
    ·grind [cel]
    grind [cel]
   have hR':R=zi6 (zi6 idL s0) s1:=hR;clear hC;refine zNW (zNY (α:=Nat×List Int) (λ a=>⟨[(1, .ref 0 0 9 0 0),(3, .ref 1 0 64 0 0),(26, .agg [zbF s0,zbF s1]),(27, .int a.1)], [(0, .rows true 0 9 [eg]),(1, .rows true 0 64 [zks a.2])],2⟩)
    (λ d a=>a.1+d=2∧zbB a.2∧(a.1=0->a.2=idL)∧(a.1=1->a.2=zi6 idL s0)∧(a.1=2->a.2=R)) ?_ 2 (0,idL) ?_) ?_ ?_
   ·rintro d ⟨i,l⟩ ⟨i1,i2,i3,i4,i5⟩ hrec;simp only at i1 i2 i3 i4 i5;refine J0 ?_;refine zNX (λ hi=> ?_) (λ hi=> ?_)<;>simp at hi
    ·obtain ⟨s,hs,hcs,hsa,hsb⟩:=hss i aa;obtain ⟨R2,hR2⟩:∃R2,R2=zi6 l s:=⟨_,rfl⟩
     have hgo:=hrec (d - 1) aa (i+1,R2) ⟨aa,by grind [zoo,zgH],λ h=>aa,λ h=>af,λ h=>af⟩;obtain ⟨hs6,hsk⟩:=hs;simp only [zbF,zgB,zhp] at hcs;refine J1 hcs ?_;refine zNW (zNY (α:=Nat×List Int) (λ a=>⟨[(1, .ref 0 0 9 0 0),(3, .ref 1 0 64 0 0),(26, .agg [zbF s0,zbF s1]),(27, .int i),(30,zbF s),(31, .int s.length),(32, .int a.1)], [(0, .rows true 0 9 [eg]),(1, .rows true 0 64 [zks a.2])],2⟩)
      (λ d a=>a.1+d=s.length∧zbB a.2∧zi6 a.2 (s.drop a.1)=R2) ?_ s.length (0,l) ?_) ?_ ?_
     ·rintro d2 ⟨k,l2⟩ ⟨j1,j2,j3⟩ hrec2;simp only at j1 j2 j3;refine J0 ?_;refine zNX (λ hk=> ?_) (λ hk=> ?_)<;>simp at hk
      ·have hsk':=hsk _ (zah hk);rw [zaV hk] at j3;obtain ⟨kl,hkl⟩:∃kl,kl=nth s k:=⟨_,rfl⟩
       rw [<- hkl] at hsk' j3;obtain ⟨R3,hR3⟩:∃R3,R3=zhx l2 0 kl:=⟨_,rfl⟩
       have hgo2:=hrec2 (d2 - 1) aa (k+1,R3) ⟨aa,by rw [hR3];exact zrI hn64 kl 0 j2 aa (λ x hx=>(hsk'.2 x hx).2),by rw [hR3];exact j3⟩;obtain ⟨hkn,hkx⟩:=hsk';repeat first|refine wV λ _=>?_|simp [go_sem,hk,<- hkl]
       refine zNW (zNY (α:=Nat×List Int) (λ a=>⟨[(1, .ref 0 0 9 0 0),(3, .ref 1 0 64 0 0),(26, .agg [zbF s0,zbF s1]),(27, .int i),(30,zbF s),(31, .int s.length),(32, .int k),(36,zgB kl),(37, .int n),(38, .int a.1)], [(0, .rows true 0 9 [eg]),(1, .rows true 0 64 [zks a.2])],2⟩)
        (λ d a=>a.1+d=n∧zbB a.2∧zhx a.2 a.1 (kl.drop a.1)=R3) ?_ n (0,l2) ?_) ?_ ?_
       ·rintro d3 ⟨c,l3⟩ ⟨m1,m2,m3⟩ hrec3;simp only at m1 m2 m3;refine J0 ?_;refine zNX (λ hc=> ?_) (λ hc=> ?_)<;>simp at hc
        ·have hck:c<kl.length:=by omega
         have hkx':=hkx _ (zah hck);rw [zaV hck] at m3;rw [zhx] at m3;obtain ⟨ps,hps⟩:∃ps,ps=nth kl c:=⟨_,rfl⟩
         rw [<- hps] at hkx' m3;have hcn:(0:Int)<=(c:Int)∧(c:Int)<(n:Int):=⟨aa,aa⟩
         obtain ⟨R4,hR4⟩:∃R4,R4=zm2 (c:Int) l3 ps:=⟨_,rfl⟩
         have hgo3:=hrec3 (d3 - 1) aa (c+1,R4) ⟨aa,by rw [hR4];exact zsV hn64 hcn ps m2 hkx'.2,by rw [hR4];exact m3⟩;obtain ⟨hpl,hpp⟩:=hkx';repeat first|refine wV λ _=>?_|simp [go_sem,hck,<- hps]
         refine zNW (zNY (α:=Nat×List Int) (λ a=>⟨[(1, .ref 0 0 9 0 0),(3, .ref 1 0 64 0 0),(9, .int c),(26, .agg [zbF s0,zbF s1]),(27, .int i),(30,zbF s),(31, .int s.length),(32, .int k),(36,zgB kl),(37, .int n),(38, .int c),(43,zhp ps),(44, .int ps.length),(45, .int a.1)], [(0, .rows true 0 9 [eg]),(1, .rows true 0 64 [zks a.2])],2⟩)
          (λ d a=>a.1+d=ps.length∧zbB a.2∧zm2 c a.2 (ps.drop a.1)=R4) ?_ ps.length (0,l3) ?_) ?_ ?_
         ·rintro d4 ⟨j,l4⟩ ⟨o1,o2,o3⟩ hrec4;simp only at o1 o2 o3;refine J0 ?_;refine zNX (λ hj=> ?_) (λ hj=> ?_)<;>simp at hj
          ·have hpp':=hpp _ (zah hj);rw [zaV hj] at o3;obtain ⟨p,hp⟩:∃p,p=nth ps j:=⟨_,rfl⟩
           rw [<- hp] at hpp' o3;obtain ⟨R5,hR5⟩:∃R5,R5=zns (c:Int) l4 p:=⟨_,rfl⟩
           have hgo4:=hrec4 (d4 - 1) aa (j+1,R5) ⟨aa,by rw [hR5];exact zCy hn64 hcn hpp' o2,by rw [hR5];exact o3⟩;obtain ⟨hto,hal,hac⟩:=hpp';have hl5:=zok o2 hn64 hcn (others:= [p.to]) (λ x hx=>by rw [List.mem_singleton] at hx;omega);repeat first|refine wV λ _=>?_|simp [go_sem,hj,<- hp]
           refine zyt l4 o2 c ⟨hcn.1,aa⟩ [p.to] (λ x hx=>by rw [List.mem_singleton] at hx;subst hx;omega) ac (zi2 _ [3]) rfl aa ?_ ?_
           ·(first|done|exact leX)
           have hR5':zzX (c:Int) (zbu l4 c [p.to]) p.acts=R5:=hR5.symm;generalize zbu l4 c [p.to]=l5 at hl5 hR5' ⊢;refine J0 ?_;refine zNW (zNY (α:=Nat×List Int) (λ a=>⟨[(1, .ref 0 0 9 0 0),(3, .ref 1 0 64 0 0),(9, .int c),(26, .agg [zbF s0,zbF s1]),(27, .int i),(30,zbF s),(31, .int s.length),(32, .int k),(36,zgB kl),(37, .int n),(38, .int c),(43,zhp ps),(44, .int ps.length),(45, .int j),
             (55,zmO p.acts),(56, .int p.acts.length),(57, .int a.1)], [(0, .rows true 0 9 [eg]),(1, .rows true 0 64 [zks a.2])],2⟩)
            (λ d a=>a.1+d=p.acts.length∧zbB a.2∧zzX c a.2 (p.acts.drop a.1)=R5) ?_ p.acts.length (0,l5) ?_) ?_ ?_
           ·rintro d5 ⟨m,l6⟩ ⟨q1,q2,q3⟩ hrec5;simp only at q1 q2 q3;refine J0 ?_;refine zNX (λ hm=> ?_) (λ hm=> ?_)<;>simp at hm
            ·have hac':=hac _ (zah hm);rw [zaV hm] at q3;obtain ⟨a,ha⟩:∃a,a=nth p.acts m:=⟨_,rfl⟩
             rw [<- ha] at hac' q3;have hgo5:=hrec5 (d5 - 1) aa (m+1,zbu l6 c (zbh a)) ⟨aa,zok q2 hn64 hcn hac',q3⟩;have hra:=zBc a;repeat first|refine wV λ _=>?_|simp [go_sem,hm,<- ha]
             refine aP hra ?_;refine J0 ?_;refine zyt l6 q2 c ⟨hcn.1,aa⟩ (zbh a) (λ x hx=>by have:=hac' x hx;omega) (by have:=zDA a;omega) (.refl _) rfl aa (.refl _) ?_;refine J0 ?_;refine zNW hgo5 ?_ ac;simp [go_sem,zaf];exact of_eq_true (hgb 2)
            ·rw [List.drop_eq_nil_of_le hm] at q3;have q3':l6=R5:=q3;subst q3';refine J0 ?_;refine zNW hgo4 ?_ ac;simp [go_sem,zaf];exact of_eq_true (hgb 2)
           ·exact ⟨ac,hl5,by rw [<- hR5'];rfl⟩
           ·simp [go_sem,zaf];exact of_eq_true (hgb 2)
           ·simp
          ·rw [List.drop_eq_nil_of_le hj] at o3;have o3':l4=R4:=o3;subst o3';refine J0 ?_;refine zNW hgo3 ?_ ac;simp [go_sem,zaf];exact of_eq_true (hgb 2)
         ·exact ⟨ac,m2,by rw [hR4];rfl⟩
         ·simp [go_sem,zaf];exact of_eq_true (hgb 2)
         ·simp
        ·rw [List.drop_eq_nil_of_le aa] at m3;have m3':l3=R3:=m3;subst m3';refine J0 ?_;refine zNW hgo2 ?_ ac;simp [go_sem,zaf];exact of_eq_true (hgb 2)
       ·exact ⟨ac,j2,by rw [hR3];rfl⟩
       ·simp [go_sem,zaf,hkn];exact of_eq_true (hgb 2)
       ·simp
      ·rw [List.drop_eq_nil_of_le hk] at j3;have j3':l2=R2:=j3;subst j3';refine J0 ?_;refine zNW hgo ?_ ac;simp [go_sem,zaf];exact of_eq_true (hgb 2)
     ·grind
     ·simp [go_sem,zaf];grind
     ·simp
    ·have hi2:i=2:=by omega
     rw [i5 hi2];repeat first|refine wV λ _=>?_|simp [go_sem,hg0,<- hn]
     refine zNW (zNY (α:=Nat) (λ c=>⟨[(3, .ref 1 0 64 0 0),(15, .sl 2 0 1 0 n),(75, .int n),(76, .int c)], [(1, .rows true 0 64 [zks R]),(2, .rows true 0 1 ((zjC R n c).map zd2))],3⟩)
      (λ d c=>c+d=n) ?_ n 0 ?_) ?_ ?_
     ·rintro d2 c j1 hrec2;have hzl:=zBA R (show c<=n by omega);refine J0 ?_;refine zNX (λ hc=> ?_) (λ hc=> ?_)<;>simp at hc
      ·have hzs:=zzk R hc;have hr:=zs1 R hRok c aa aa;refine J0 ?_;refine zOb (args':= [.fp (zks R), .int c]) hr (.v _) ?_ ae ?_
       ·have hRl:(zks R).length=64:=by rw [zv0,hRok.len]
        refine zaL.cons (.frzP rfl ?_ ?_ ?_ ?_) (.refl _ _ _ _)<;>first|exact zaL.refl _ _ _ _|simp [hRl,noH]
       refine J1 hzl ?_;refine zNW (hrec2 (d2 - 1) aa (c+1) aa) ?_ ac;simp [go_sem,zaf,hzs]
      ·have hcl:c=n:=by omega
       subst hcl;rw [zBz];repeat first|refine wV λ _=>?_|simp [go_sem,zfz]
       ((try simp only [zaT,zbT,zgS,zmO,zbJ,zhp,zbm,zaO,zag,zjT,zdJ,zaC,zaG,zad,List.map_cons,List.map_nil,List.nil_append,List.append_nil,List.cons_append]);(repeat (first|(with_reducible first|exact zaL.nil|exact zaM.nil|exact LeV.refl _|exact zaL.refl _ _ _ _|exact zaM.refl _|refine zaL.cons ?_ ?_|refine zaM.cons ?_ ?_|refine LeV.agg ?_|refine LeV.tup ?_|refine LeV.fn ?_ ?_|exact LeV.nil _|refine zaJ (zaM.refl _) ?_)|((refine zaq rfl (by simp [zfz]) aq ?_);(first|(simp [go_sem,zfz];done)|(simp [go_sem,zfz];exact List.take_of_length_le (by simp [zfz]))))|((refine LeV.frz rfl (by simp [zfz]) aq ?_);(simp only [List.drop_zero,List.take_succ_cons,List.take_zero,List.map_cons,List.map_nil]))|((refine LeV.frzP rfl (by simp [zfz]) ac aq ?_);(simp only [zce,List.drop_zero])))))
     ·simp
     ·have hz0:zjC R n 0=List.replicate n 0:=by simp [zjC,zcX]
      simp [go_sem,zaf,hz0]
     ·simp
   ·grind [zym]
   ·simp [go_sem,zaf];grind
   ·simp
 ·simp
 ·simp [go_sem,zaf];exact ⟨of_eq_true (hgb 2),zOm rfl⟩
 ·simp
theorem ofG_ok  (hg:GOk g):zvy (ofG g):=by
 have:=hg.c9;exact zsJ aa (zdn hg 0) (zdn hg 1)
theorem zyO  (hg:GOk g):((ofG g).length:Int)=g.cells:=by
 have:=hg.c1;rw [zf0];omega
def nmG (g:zaa):List Int:=zan (ofG g) (ofG g).length
theorem zHX  (hg:GOk g):1<=(nmG g).length∧(nmG g).length<=9:=by
 have h1:=hg.c1;have h9:=hg.c9;have hl:=zyO hg;have:=(ofG_ok hg).pos aa;grind [nmG,zan]
def zm1 (of names:List Int) (p:zae) (i:Nat):List zae:=(names.take i).map (zbx of p)
theorem zA7 {p:zae} (h:i<names.length):zm1 of names p (i+1)=zm1 of names p i++ [zbx of p (nth names i)]:=by
 grind [zm1,zkm]
theorem zEN {p:zae} (h:i<=names.length):(zm1 of names p i).length=i:=by grind [zm1]
theorem zBf (g:zaa) (hg:GOk g) (hn:zbU g) (p:zae) (hp:POk g p):zav Tryz.prog 91 [.agg (zad g), .agg (zag p)]
  (.tup [zaC (if zaz g then zam (ofG g) p else []), .int (if zaz g then 0 else 220)]):=by
 refine pF Tryz.func91 ?_;have hN:=zjc g hg hn;have hO:=zK5 g hg;have hl:=zyO hg;have h9:=hg.c9;have hal:=hp.al;have hofl:(ofG g).length<=1048576:=aa;have hM:=zBe (ofG g) hofl;have hP:=λ name=>zEV (ofG g) p name aa aa;have hnl:=zHX hg;have hres:zam (ofG g) p=zm1 (ofG g) (nmG g) p (nmG g).length:=by grind [zm1,zam,nmG]
 rw [hres];change zav _ _ _ (zaG (ofG g)) at hO;change zav _ _ _ (zaG (nmG g)) at hM;have hgb:∀n,(∀c ∈ zad g,Bel n c)=True:=λ n=>ae;generalize ofG g=of at *;generalize nmG g=nm at *;obtain ⟨eg,heg⟩:∃eg,eg=zad g:=⟨_,rfl⟩
 have hel:eg.length=9:=by rw [heg];rfl
 rw [<- heg] at hN hO hgb ⊢;clear heg hres;cases hnb:zaz g
 ·rw [hnb] at hN;refine J1 hel ?_;refine zN0 hN dx ?_;refine J1 hel ?_;(first|done|exact leX)
 ·rw [hnb] at hN;refine J1 hel ?_;refine zN0 hN dx ?_;refine J1 hel ?_;refine zN0 hO dx ?_;refine J1 hel ?_;refine aP hM ?_;refine J1 hel ?_;refine zNW (zNY (α:=Nat) (λ i=>⟨[(3, .ref 1 0 5 0 0),(6,zaG of),(7, .sl 2 i 5 0 i),(16,zaG nm),(17, .int nm.length),(18, .int i)], [(1, .rows true 0 5 [zag p]),(2, .rows true i 5 ((zm1 of nm p i).map zag))],3⟩)
   (λ d i=>i+d=nm.length) ?_ nm.length 0 ?_) ?_ ?_
  ·rintro d i i1 hrec;have lp:(zm1 of nm p i).length=i:=zEN aa;refine J0 ?_;refine zNX (λ hi=> ?_) (λ hi=> ?_)<;>simp at hi
   ·have hs:=zA7 (of:=of) (p:=p) hi;refine J1 hi ?_;refine aP (hP _) ?_;repeat first|refine wV λ _=>?_|simp [go_sem,lp]
    refine zNW (hrec (d - 1) aa (i+1) aa) ?_ ac;simp [go_sem,zaf,hs]
   ·have hil:i=nm.length:=by omega
    subst hil;refine J0 ?_;((try simp only [zaT,zbT,zgS,zmO,zbJ,zhp,zbm,zaO,zag,zjT,zdJ,zaC,zaG,zad,List.map_cons,List.map_nil,List.nil_append,List.append_nil,List.cons_append]);(repeat (first|(with_reducible first|exact zaL.nil|exact zaM.nil|exact LeV.refl _|exact zaL.refl _ _ _ _|exact zaM.refl _|refine zaL.cons ?_ ?_|refine zaM.cons ?_ ?_|refine LeV.agg ?_|refine LeV.tup ?_|refine LeV.fn ?_ ?_|exact LeV.nil _|refine zaJ (zaM.refl _) ?_)|((refine zaq rfl (by simp [lp]) aq ?_);(first|(simp [go_sem,lp];done)|(simp [go_sem,lp];exact List.take_of_length_le (by simp [lp]))))|((refine LeV.frz rfl (by simp [lp]) aq ?_);(simp only [List.drop_zero,List.take_succ_cons,List.take_zero,List.map_cons,List.map_nil]))|((refine LeV.frzP rfl (by simp [lp]) ac aq ?_);(simp only [zce,List.drop_zero])))))
  ·simp
  ·simp [go_sem,zaf,zm1]
  ·simp
end Go.Av
end
section
/- sum.Winner, where all positions are looked through. -/
set_option linter.unusedSectionVars false
open Go Go.Proofs
namespace Go.Av
open zab
def zw1 (x:Option (Int×Nat)) (side:Int):Int:=if (ze7 x).1=1 then side else if (ze7 x).1=3 then 1 - side else 2
noncomputable def zcK (g:zaa) (p:zae):Int×Int:=if (zxo g p).2≠0 then (0,(zxo g p).2) else (zw1 (zcH g (zxo g p).1 (ixP (zxo g p).1 p)) p.side,0)
theorem ztz (g:zaa) (hg:GOk g) (hn:zbU g) (p:zae) (hp:POk g p) (e:Int) (he:e≠0∧e≠230) (hT:zav Tryz.prog 48 [.agg (zad g), .agg (zag p)] (.tup [.agg [.lst 2 [], .lst 2 []], .int e])):
  zav Tryz.prog 56 [.agg (zad g), .agg (zag p)] (.tup [.int (zcK g p).1, .int (zcK g p).2]):=by
 have hA:=zJk g hg p hp;obtain ⟨L,E,hLE⟩:∃L E,zxo g p=(L,E):=⟨_, _,rfl⟩
 rw [hLE] at hA;by_cases h0:E=0
 ·subst h0;obtain ⟨hcl,hpl⟩:=zky hg hp hLE;obtain ⟨hix,hixn⟩:=zbM hpl;have hV:=zxh g hg hn L hcl.inc hcl.len hcl.ok hcl.cl;have hlen:=hcl.len;have hF:=zEM L hcl.inc aa (λ q hq=>(hcl.ok q hq).fits hg) p (hp.fits hg);have hfx:=zih hcl.inc hix;rw [hixn] at hfx;rw [hfx] at hF;have hR:zcK g p=(zw1 (zcH g L (ixP L p)) p.side,0):=by grind [zcK]
  rw [hR];have hnV:nth ((List.range L.length).map (zdQ (zcH g L))) (ixP L p)=zdQ (zcH g L) (ixP L p):=by
   grind [nth]
  rw [zdQ] at hnV;have hVl:((List.range L.length).map (zdQ (zcH g L))).length=L.length:=ac;have hVb:∀n,(∀r ∈ (List.range L.length).map (zdQ (zcH g L)),∀c ∈ r,Bel n c)=True:=λ n=>eq_true λ r hr c hc=>by
   obtain ⟨i, _,rfl⟩:=List.mem_map.1 hr;simp only [zdQ,List.mem_cons,List.not_mem_nil,or_false] at hc;rcases hc with rfl|rfl<;>exact .v _
  generalize zcH g L (ixP L p)=v at *;generalize (List.range L.length).map (zdQ (zcH g L))=V at *;have hegl:(zad g).length=9:=rfl;have hegb:∀n,(∀c ∈ zad g,Bel n c)=True:=λ n=>ae;obtain ⟨h1,h2⟩:=he;have hs:=hp.s;refine pF Tryz.func56 ?_;refine J0 ?_;refine aP hT ?_;refine J2 h1 h2 ?_;refine aP hA ?_;refine J0 ?_;refine aP hV ?_;refine J1 hVb ?_;refine aP hF ?_;have hix2:ixP L p<V.length:=aa;have hw:∀x,zw1 v x=if (ze7 v).1=1 then x else if (ze7 v).1=3 then 1 - x else 2:=λ x=>rfl
  refine J3 hnV hix2 hVb ?_;by_cases w1:(ze7 v).1=1
  ·rw [hw,if_pos w1];exact K1 w1
  ·by_cases w3:(ze7 v).1=3
   ·rw [hw,if_neg w1,if_pos w3];exact K2 w1 w3
   ·rw [hw,if_neg w1,if_neg w3];exact K2 w1 w3
 ·have hR:zcK g p=(0,E):=by grind [zcK]
  rw [hR];exact zzU g p (hp.fits hg) e E he h0 L hT hA
end Go.Av
end
section
/- package sum, at all valid games. -/
set_option linter.unusedSectionVars false
open Go Go.Proofs
namespace Go.Av
open zab
theorem zero_le:zero.size<=2000:=ai
noncomputable def zbl (g:zaa) (p:zae):zab×Int:=if zaz g=true then zjq (zbe g 4000 4002 0 [sdP p 0] [] []) else (zero,230)
theorem zDW (x:Option (List zae×List (List Nat)×List (List Nat))):(zjq x).1.size<=2000∧((zjq x).2≠0->(zjq x).1=zero):=by
 have hz:zero.size<=2000:=ai;cases x<;>grind [zjq]
theorem zpl (g:zaa) (p:zae):(zbl g p).1.size<=2000∧((zbl g p).2≠0->(zbl g p).1=zero):=by
 grind [zbl,zDW,zero_le]
theorem zBC (g:zaa) (hg:GOk g) (hn:zbU g) (p:zae) (hp:POk g p):zav Tryz.prog 47 [.agg (zad g), .agg (zag p)] (zjS (zbl g p)):=by
 have hN:=zjc g hg hn;unfold zbl;split
 ·rename_i h;rw [h] at hN;exact zCW g hg p hp hN
 ·rename_i h;rw [Bool.not_eq_true] at h;rw [h] at hN;exact zvv g p hN
noncomputable def zKL (g:zaa) (p:zae):AV:=if zaz g=true then zKN (zbe g 32 4002 0 [sdP p 0] [] []) else .tup [.agg [.lst 1 [], .lst 1 []], .int 230]
theorem zJo (g:zaa) (hg:GOk g) (hn:zbU g) (p:zae) (hp:POk g p):zav Tryz.prog 52 [.agg (zad g), .agg (zag p)] (zKL g p):=by
 have hN:=zjc g hg hn;unfold zKL;split
 ·rename_i h;rw [h] at hN;exact zCZ g hg p hp hN
 ·rename_i h;rw [Bool.not_eq_true] at h;rw [h] at hN;exact zvx g p hN
noncomputable def zeT (g:zaa) (p:zae):zab×Int:=if zaz g=true then zk6 (λ q=>(zbl g q).1) (λ q=>(zbl g q).2) (zam (ofG g) p) zero else (zero,230)
theorem zzf (F:zae->zab) (E:zae->Int):∀ (l:List zae) (t:zab),t.size<=2000->(zk6 F E l t).1.size<=2000∧((zk6 F E l t).2≠0->(zk6 F E l t).1=zero)
 | [],t,h=>⟨h,λ h=>absurd rfl h⟩
 |q::l,t,h=>by
  rw [zk6];split
  ·exact ⟨zero_le,λ _=>rfl⟩
  ·split
   ·exact ⟨zero_le,λ _=>rfl⟩
   ·refine zzf F E l _ ?_;have:=zdt _ (add t (F q).canon) (Nat.le_refl _);omega
theorem zth (g:zaa) (p:zae):(zeT g p).1.size<=2000∧((zeT g p).2≠0->(zeT g p).1=zero):=by
 grind [zeT,zzf,zero_le]
theorem zgu {g:zaa}{p:zae} (hp:POk g p) (of:List Int):∀q ∈ zam of p,POk g q:=λ q hq=>by
 grind [zcO,zam]
theorem znO (g:zaa) (hg:GOk g) (hn:zbU g) (p:zae) (hp:POk g p):zav Tryz.prog 48 [.agg (zad g), .agg (zag p)] (zjS (zeT g p)):=by
 have hS:=zBf g hg hn p hp;unfold zeT;split
 ·rename_i h;rw [if_pos h,if_pos h] at hS;refine zzT g p _ ?_ (λ q=>(zbl g q).1) (λ q=>(zbl g q).2) (λ q hq=>⟨(zpl g q).1,zBC g hg hn q (zgu hp _ q hq)⟩) hS;rw [zam,List.length_map];have:=(zHX hg).2;grind [nmG]
 ·rename_i h;rw [if_neg h,if_neg h] at hS;exact zty g p _ _ ai hS
noncomputable def znE (g:zaa) (p:zae):Int×Int:=if (zeT g p).2=0 then (zwQ (zeT g p).1 p.side,0) else if (zeT g p).2=230 then (0,230) else zcK g p
theorem zuc (g:zaa) (hg:GOk g) (hn:zbU g) (p:zae) (hp:POk g p):zav Tryz.prog 56 [.agg (zad g), .agg (zag p)] (.tup [.int (znE g p).1, .int (znE g p).2]):=by
 have hT:=znO g hg hn p hp;obtain ⟨hsz,hz⟩:=zth g p;unfold znE;generalize zeT g p=t at *;obtain ⟨f,e⟩:=t;rw [zjS] at hT;simp only at hT hsz hz ⊢;split
 ·rename_i he;subst he;exact zxi g p (hp.fits hg) f _ hT (zpQ f p.side aa)
 ·rename_i he;rw [hz he,zh8] at hT;split
  ·rename_i he2;subst he2;exact zrm g p (hp.fits hg) hT
  ·rename_i he2;exact ztz g hg hn p hp e ⟨he,he2⟩ hT
noncomputable def sprR (g:zaa) (p:zae):AV:=if (zeT g p).2=0 then .tup [.agg [.int (spF (zeT g p).1 17).1, .int (spF (zeT g p).1 17).2], .int 0] else .tup [.agg [.int 0, .int 0], .int (zeT g p).2]
theorem zFS (g:zaa) (hg:GOk g) (hn:zbU g) (p:zae) (hp:POk g p):zav Tryz.prog 60 [.agg (zad g), .agg (zag p)] (sprR g p):=by
 have hT:=znO g hg hn p hp;obtain ⟨hsz,hz⟩:=zth g p;unfold sprR;generalize zeT g p=t at *;obtain ⟨f,e⟩:=t;rw [zjS] at hT;simp only at hT hsz hz ⊢;split
 ·rename_i he;subst he;exact zzR g p (hp.fits hg) f hsz (λ a b ha hb=>zvw a b aa) hT
 ·rename_i he;rw [hz he,zh8] at hT;exact zDf g p (hp.fits hg) e he hT
noncomputable def bstR (g:zaa) (p:zae):AV:=if zaz g=true then zGp (zai g p) (λ q=>(znE g q).1) (λ q=>(znE g q).2) p.side else .tup [.agg [.lst 1 [], .lst 1 [], .lst 1 [], .int 0, .int 0], .int 230]
theorem zJl (g:zaa) (hg:GOk g) (hn:zbU g) (p:zae) (hp:POk g p):zav Tryz.prog 55 [.agg (zad g), .agg (zag p)] (bstR g p):=by
 have hN:=zjc g hg hn;unfold bstR;split
 ·rename_i h;rw [h] at hN;exact zCU g hg p hp _ _ hN λ q hq=>zuc g hg hn q (zaE hg hp q hq).1
 ·rename_i h;rw [Bool.not_eq_true] at h;rw [h] at hN;exact zvq g p (hp.fits hg) hN
end Go.Av
end
section
/- chapter 23's law: what it calls of package sum. -/
set_option linter.unusedSectionVars false
open Go Go.Proofs
namespace Go.Av
open zab
def loopX:Option (List zae×List (List Nat)×List (List Nat))->(List (List Nat)×List (List Nat))×Int
 |none=>(([], []),2)
 |some (_,L,R)=>((L,R),0)
noncomputable def zql (g:zaa) (p:zae):(List (List Nat)×List (List Nat))×Int:=if zaz g=true then loopX (zbe g 32 4002 0 [sdP p 0] [] []) else (([], []),230)
theorem zKM (g:zaa) (p:zae):zKL g p= .tup [.agg [zax (zql g p).1.1,zax (zql g p).1.2], .int (zql g p).2]:=by
 unfold zKL zql;split
 ·cases zbe g 32 4002 0 [sdP p 0] [] [] with
  |none=>rfl
  |some x=>rfl
 ·rfl
def zMF (ms:List zae) (W E:zae->Int) (side:Int):zae×Int:=
 match ms.find? λ q=>decide (E q≠0) with
 |some q=>(⟨[], [], [],0,0⟩,E q)
 |none=>
  if 0<=zdo (ms.map W) side then (nth ms (zdo (ms.map W) side).toNat,0)
  else if 0<=zdo (ms.map W) 2 then (nth ms (zdo (ms.map W) 2).toNat,0)
  else (⟨[], [], [],0,0⟩,270)
noncomputable def zrD (g:zaa) (p:zae):zae×Int:=if zaz g=true then zMF (zai g p) (λ q=>(znE g q).1) (λ q=>(znE g q).2) p.side else (⟨[], [], [],0,0⟩,230)
theorem zMI (g:zaa) (p:zae):bstR g p= .tup [.agg (zag (zrD g p).1), .int (zrD g p).2]:=by
 unfold bstR zrD zGp zMF;split
 ·cases (zai g p).find? (λ q=>decide ((znE g q).2≠0)) with
  |some q=>rfl
  |none=>
   simp only;split
   ·rfl
   ·split<;>rfl
 ·rfl
noncomputable def zCN (g:zaa) (p:zae):(Int×Int)×Int:=if (zeT g p).2=0 then (spF (zeT g p).1 17,0) else ((0,0),(zeT g p).2)
theorem zNA (g:zaa) (p:zae):sprR g p= .tup [.agg [.int (zCN g p).1.1, .int (zCN g p).1.2], .int (zCN g p).2]:=by
 grind [sprR,zCN]
section
variable (g:zaa) (hg:GOk g) (hn:zbU g) (p:zae) (hp:POk g p)
include hg hn hp
theorem zdM:zav Tryz.prog 12 [.agg (zad g), .agg (zag p)] (.agg (zbt (zbl g p).1++ [.int (zbl g p).2])):=by
 have hF:=zBC g hg hn p hp;have hegl:(zad g).length=9:=rfl;have hegb:∀n,(∀c ∈ zad g,Bel n c)=True:=λ n=>ae;generalize zbl g p=x at *;rw [zjS,zbQ,zao] at hF;rw [zao];refine pF Tryz.func12 ?_;refine J0 ?_;refine aP hF ?_;exact K0
theorem zsq:zav Tryz.prog 16 [.agg (zad g), .agg (zag p)] (.agg [zax (zql g p).1.1,zax (zql g p).1.2, .int (zql g p).2]):=by
 have hF:=zJo g hg hn p hp;have hegl:(zad g).length=9:=rfl;have hegb:∀n,(∀c ∈ zad g,Bel n c)=True:=λ n=>ae;rw [zKM] at hF;generalize zql g p=x at *;rw [zax,zax] at *;refine pF Tryz.func16 ?_;refine J0 ?_;refine aP hF ?_;exact K0
theorem zkW:zav Tryz.prog 23 [.agg (zad g), .agg (zag p)] (.agg [.int (znE g p).1, .int (znE g p).2]):=by
 have hF:=zuc g hg hn p hp;have hegl:(zad g).length=9:=rfl;have hegb:∀n,(∀c ∈ zad g,Bel n c)=True:=λ n=>ae;generalize znE g p=x at *;refine pF Tryz.func23 ?_;refine J0 ?_;refine aP hF ?_;exact K0
theorem zpu:zav Tryz.prog 21 [.agg (zad g), .agg (zag p)] (.agg (zag (zrD g p).1++ [.int (zrD g p).2])):=by
 have hF:=zJl g hg hn p hp;have hegl:(zad g).length=9:=rfl;have hegb:∀n,(∀c ∈ zad g,Bel n c)=True:=λ n=>ae;rw [zMI] at hF;generalize zrD g p=x at *;refine pF Tryz.func21 ?_;refine J0 ?_;refine aP hF ?_;exact K0
theorem zny:zav Tryz.prog 26 [.agg (zad g), .agg (zag p)] (.agg [.int (zCN g p).1.1, .int (zCN g p).1.2, .int (zCN g p).2]):=by
 have hF:=zFS g hg hn p hp;have hegl:(zad g).length=9:=rfl;have hegb:∀n,(∀c ∈ zad g,Bel n c)=True:=λ n=>ae;rw [zNA] at hF;generalize zCN g p=x at *;refine pF Tryz.func26 ?_;refine J0 ?_;refine aP hF ?_;exact K0
end
end Go.Av
end
section
open Go Go.Proofs
namespace Go.Av
theorem zqa {g:zaa} (h:zbU g):zbU (zeS g):=by
 have e:(zeS g).kinds.map (·.name)=g.kinds.map (·.name):=by simp [zeS,zk5]
 grind [zbU]
theorem zxq {g:zaa} (h:zbU g) (w:Int):zbU (zkX g w):=zqa h
theorem zst (x:zqi):zbU (zgr x):=by
 unfold zbU zgr zg5;split
 ·left;rfl
 ·right;rfl
theorem zp7 (g:zaa):zaz (zeS g)=true:=by
 grind [zaz,zeS,zk5]
theorem zyI (g:zaa) (w:Int):zaz (zkX g w)=true:=zp7 g
end Go.Av
end
section
/- chapter 23's law: its games, R23.Made, SameLoops. -/
set_option linter.unusedSectionVars false
open Go Go.Proofs
namespace Go.Av
open zab
theorem zkg (f:zab) (hf:f.size<=2000) (e:Int):zav Tryz.prog 18 [.agg (zbt f++ [.int e])] (.bool true):=by
 have hS:=zzQ f.size f (Nat.le_refl _) aa;rw [zbQ,zao] at hS;rw [zao];have hz:(f.size:Int)<=2000:=aa;generalize f.size=n at *;refine pF Tryz.func18 ?_;refine J0 ?_;refine aP hS ?_;exact K1 hz
theorem zt8 (a:List Nat) (ha:a.length<=1048576):zav Tryz.prog 54 [.lst 1 (a.map zaR), .lst 1 (a.map zaR)] (.bool true):=by
 have h:=zFK (a.map λ n:Nat=>(n:Int)) (a.map λ n:Nat=>(n:Int)) (by unfold zkq;simp;omega) (by unfold zkq;simp;omega);have e:zaG (a.map λ n:Nat=>(n:Int))= .lst 1 (a.map zaR):=by unfold zaG;rw [List.map_map];rfl
 rw [e] at h;simpa using h
theorem ztv (L R:List (List Nat)) (hL:L.length<=1048576) (hR:R.length<=1048576) (h1:∀l ∈ L,l.length<=1048576) (h2:∀l ∈ R,l.length<=1048576):zav Tryz.prog 20 [.agg [zax L,zax R], .agg [zax L,zax R]] (.bool true):=by
 rw [zax,zax];have f1:∀j,j<L.length->zav Tryz.prog 54 [.lst 1 ((nth L j).map zaR), .lst 1 ((nth L j).map zaR)] (.bool true):=λ j hj=>zt8 _ (h1 _ (zah hj));have f2:∀j,j<R.length->zav Tryz.prog 54 [.lst 1 ((nth R j).map zaR), .lst 1 ((nth R j).map zaR)] (.bool true):=λ j hj=>zt8 _ (h2 _ (zah hj));have e1:∀j,j<L.length->nth (L.map zbD) j= [.lst 1 ((nth L j).map zaR)]:=λ j hj=>zau _ _ _ hj;have e2:∀j,j<R.length->nth (R.map zbD) j= [.lst 1 ((nth R j).map zaR)]:=λ j hj=>zau _ _ _ hj;refine pF Tryz.func20 ?_;refine J0 ?_;refine zNW (zNY (α:=Nat) (λ i=>⟨[(2, .ref 0 0 2 0 0),(3, .ref 1 0 2 0 0),(5, .int i)], [(0, .rows true 0 2 [[.lst 1 (L.map zbD), .lst 1 (R.map zbD)]]),(1, .rows true 0 2 [[.lst 1 (L.map zbD), .lst 1 (R.map zbD)]])],2⟩) (λ d i=>i+d=L.length) ?_ L.length 0 ?_) ?_ ?_;rotate_left
 ·simp
 ·simp [go_sem,zaf]
 ·simp
 rintro d i i1 hrec;refine J0 ?_;refine zNX (λ hi=> ?_) (λ hi=> ?_)<;>simp at hi
 ·have h0:i<L.length:=by omega
  have hC:=f1 i h0;have hn:=e1 i h0;generalize nth L i=q at *;refine J2 h0 hn ?_;refine dP hC ?_;refine J0 ?_;refine zNW (hrec (d - 1) aa (i+1) aa) ?_ ac;simp [go_sem,zaf]
 ·refine J0 ?_;refine zNW (zNY (α:=Nat) (λ i=>⟨[(2, .ref 0 0 2 0 0),(3, .ref 1 0 2 0 0),(6, .int i)], [(0, .rows true 0 2 [[.lst 1 (L.map zbD), .lst 1 (R.map zbD)]]),(1, .rows true 0 2 [[.lst 1 (L.map zbD), .lst 1 (R.map zbD)]])],2⟩) (λ d i=>i+d=R.length) ?_ R.length 0 ?_) ?_ ?_;rotate_left
  ·simp
  ·simp [go_sem,zaf]
  ·simp
  rintro d i i1 hrec;refine J0 ?_;refine zNX (λ hi=> ?_) (λ hi=> ?_)<;>simp at hi
  ·have h0:i<R.length:=by omega
   have hC:=f2 i h0;have hn:=e2 i h0;generalize nth R i=q at *;refine J2 h0 hn ?_;refine dP hC ?_;refine J0 ?_;refine zNW (hrec (d - 1) aa (i+1) aa) ?_ ac;simp [go_sem,zaf]
  ·exact K0
def zE4 (l:List (List (Int×Int))):zaa:=⟨3, [[1,2, -1], [-1,0,1]], [1,0], [⟨zqm,l,false⟩],0,false, [],3,2⟩
theorem zvc (l:List (List (Int×Int))):zav Tryz.prog 41 [.lst 1 (l.map λ p=> [zaT p])] (.agg (zad (zE4 l))):=by
 have e:zad (zE4 l)= [.int 3, .lst 1 [[.lst 1 [[.int 1], [.int 2], [.int (-1)]]], [.lst 1 [[.int (-1)], [.int 0], [.int 1]]]], .lst 1 [[.int 1], [.int 0]], .lst 3 [[.v (.string ⟨#[97]⟩), .lst 1 (l.map λ p=> [zaT p]), .v (.bool false)]], .int 0, .bool false, .lst 4 [], .int 3, .int 2]:=rfl;rw [e];refine pF Tryz.func41 ?_;refine J0 ?_;(repeat' apply And.intro)
 all_goals (first|done|exact leX)
def zcI (a b c s:Int):zae:=⟨[a,b,c], [0], [0],0,s⟩
theorem zhe (a b c s:Int):zav Tryz.prog 42 [.int a, .int b, .int c, .int s] (.agg (zag (zcI a b c s))):=by
 have e:zag (zcI a b c s)= [.lst 1 [[.int a], [.int b], [.int c]], .lst 1 [[.int 0]], .lst 1 [[.int 0]], .int 0, .int s]:=rfl;rw [e];refine pF Tryz.func42 ?_;refine J0 ?_;(repeat' apply And.intro)
 all_goals (first|done|exact leX)
def zet (x:zzm) (w:Int):zaa:=if w.tmod 4=0 then zeS (zgr x.g) else zkX (zgr x.g) w
def zkK (x:zzm) (w:Int):zae:=zju (zet x w) x.p
theorem zii {x:zzm} (hx:zjH x) (w:Int):GOk (zet x w)∧zbU (zet x w)∧zaz (zet x w)=true:=by
 have hg:=zwv hx.g;have hn:=zst x.g;unfold zet;split
 ·exact ⟨zyX hg,zqa hn,zp7 _⟩
 ·exact ⟨zF7 hg w,zxq hn w,zyI _ w⟩
theorem zoG {x:zzm} (hx:zjH x) (w:Int):POk (zet x w) (zkK x w):=zuX (zii hx w).1 hx.p
theorem zgG (x:zzm) (hx:zjH x) (w:Int) (hw:U8 w):zav Tryz.prog 10 [.agg (zcd x), .v (.int .u8 w)] (.tup [.agg (zad (zet x w)), .agg (zag (zkK x w))]):=by
 have hmg:=zwv hx.g;have hG:=zre x.g hx.g hx.lc hx.l0 hx.l1;have hP1:=znN _ hmg;have hP2:=zvC _ hmg w hw;have hM:=zrg (zet x w) (zii hx w).1 x.p hx.p;rw [show zju (zet x w) x.p=zkK x w from rfl] at hM;generalize zkK x w=q at *;have hgw:zet x w=if w.tmod 4=0 then zeS (zgr x.g) else zkX (zgr x.g) w:=rfl
 generalize zet x w=gw at *;generalize zgr x.g=mg at *;unfold zcd;have hrow:=zl9 hx.p;obtain ⟨er,her⟩:∃er,er=zfc x.p:=⟨_,rfl⟩
 rw [<- her] at hrow hM ⊢;obtain ⟨rl, _, _, _, _, _,rb⟩:=hrow;obtain ⟨er1,her1⟩:∃er1,er1=zgU x.g:=⟨_,rfl⟩
 have er1l:er1.length=12:=by rw [her1];rfl
 have er1b:∀n,(∀c ∈ er1,Bel n c)=True:=λ n=>by rw [her1];simp [go_sem]
 rw [<- her1] at hG ⊢;have hd12:List.take 18 (List.drop 12 (er1++(er++ [AV.lst 1 (x.picks.map zAn)])))=er:=by
  rw [<- er1l,List.drop_left,<- rl,List.take_left]
 obtain ⟨w0,w1⟩:=hw;have hwr:InR .u8 w:=⟨w0,w1⟩
 have hgl:∀g:zaa,(zad g).length=9:=λ _=>rfl;have hgb:∀ (g:zaa) n,(∀c ∈ zad g,Bel n c)=True:=λ g n=>ae;refine pF Tryz.func10 ?_;refine J4 rl rb er1l er1b ?_;refine zN0 hG (by simp [go_sem,er1b]) ?_;refine J4 rl rb er1l er1b ?_;refine zNX (λ h4=> ?_) (λ h4=> ?_)<;>simp at h4
 ·rw [if_pos h4] at hgw;subst hgw;refine J4 rl rb er1l er1b ?_;refine aP hP1 ?_;refine J5 rl rb er1l er1b hd12 ?_;refine zN5 hM (by simp [go_sem,rb]) ?_;exact K2 rl rb
 ·rw [if_neg h4] at hgw;subst hgw;refine J4 rl rb er1l er1b ?_;refine aP hP2 ?_;refine J5 rl rb er1l er1b hd12 ?_;refine zN5 hM (by simp [go_sem,rb]) ?_;exact K2 rl rb
end Go.Av
end
section
/- chapter 23's law: its examples. -/
set_option linter.unusedSectionVars false
open Go Go.Proofs
namespace Go.Av
open zab
def zjv:zaa:=zE4 [[(1,0)]]
def zgO:zaa:=zE4 [[(1,0)], [(1,1)]]
def zEw:zaa:={ zjv with must:=true}
theorem zLG (n:Nat) (hn:n=4000∨n=32):zbe zjv n 4002 0 [sdP (zcI 1 0 0 0) 0] [] []=some ([zcI 1 0 0 0,zcI 0 1 0 0,zcI 0 0 1 0], [[1], [2], []], [[], [], []]):=by
 rcases hn with rfl|rfl<;>kernel_rfl
theorem expl_b:zbe zjv 4000 4002 0 [sdP (zcI 0 0 2 0) 0] [] []=some ([zcI 0 0 2 0,zcI 0 2 0 0,zcI 2 0 0 0], [[], [], []], [[1], [2], []]):=ah
theorem expl_c:zbe zjv 4000 4002 0 [sdP (zcI 1 0 2 0) 0] [] []=some ([zcI 1 0 2 0,zcI 0 1 2 0,zcI 1 2 0 0], [[1], [], []], [[2], [], []]):=ah
variable {L R:List (List Nat)} {P:List zae}
theorem zxZ {g:zaa}{lim f i:Nat}{P2:List zae}{o0 o1:List zae}{A B:List Nat} (hi:decide (i<P.length)=true) (h0:zbP g (nth P i) 0=o0) (h1:zbP g (nth P i) 1=o1)
  (hP:o1.foldl zd1 (o0.foldl zd1 P)=P2) (hle:decide (P2.length<=lim)=true) (hA:(zFx P o0).2=A) (hB:(zFx (o0.foldl zd1 P) o1).2=B):zbe g lim (f+1) i P L R=zbe g lim f (i+1) P2 (L++ [A]) (R++ [B]):=by
 grind [zbe]
theorem zCL {a b:zae}{l:List zae} (hm:∀q,q ∈ l↔q ∈ [a,b]) (h:decide (zbp a b<0)=true):zaS zbp l= [a,b]:=by
 refine zdg zaK ?_ hm;grind
theorem zKQ:zai zgO (zcI 0 1 0 0)= [zcI 0 0 1 1,zcI 1 0 0 1]:=by
 rw [zai,if_neg cD,show zfY zgO (zcI 0 1 0 0)= [zcI 0 0 1 1,zcI 1 0 0 1] by kernel_rfl];exact zCL (λ q=>Iff.rfl) ah
theorem expl_d:zbe zgO 4000 4002 0 [sdP (zcI 1 0 0 0) 0] [] []=some ([zcI 1 0 0 0,zcI 0 1 0 0,zcI 0 0 1 0], [[1], [2,0], [1]], [[], [], []]):=by
 have e1:zbP zgO (zcI 0 1 0 0) 0= [zcI 0 0 1 0,zcI 1 0 0 0]:=by
  grind [zbP,sdP,zcI,zKQ]
 refine (zxZ (f:=4001) (o0:= [zcI 0 1 0 0]) (o1:= []) (P2:= [zcI 1 0 0 0,zcI 0 1 0 0]) (A:= [1]) (B:= []) ah ah ah ah ah ah ah).trans ?_;refine (zxZ (f:=4000) (o0:= [zcI 0 0 1 0,zcI 1 0 0 0]) (o1:= []) (P2:= [zcI 1 0 0 0,zcI 0 1 0 0,zcI 0 0 1 0]) (A:= [2,0]) (B:= []) ah e1 ah ah ah ah ah).trans ?_;kernel_rfl
theorem zNu (s:Int) (hs:s=0∨s=1):zam (ofG zjv) (zcI 1 0 0 s)= [zcI 1 0 0 s]:=by
 rcases hs with rfl|rfl<;>kernel_rfl
theorem zNv (s:Int) (hs:s=0∨s=1):zam (ofG zjv) (zcI 1 0 2 s)= [zcI 1 0 2 s]:=by
 rcases hs with rfl|rfl<;>kernel_rfl
theorem zNw (s:Int) (hs:s=0∨s=1):zam (ofG zgO) (zcI 1 0 0 s)= [zcI 1 0 0 s]:=by
 rcases hs with rfl|rfl<;>kernel_rfl
theorem zKn {d i:Nat} (h:DpG (nxG L R) d i):zlL L R i=zgq L R d i:=by
 have hx:∃d,DpG (nxG L R) d i:=⟨d,h⟩
 grind [zlL,zqM]
def dpB (nx:Nat->List Nat):Nat->Nat->Bool
 |0, _=>false
 |d+1,i=>(nx i).all (dpB nx d)
theorem zLE {nx:Nat->List Nat}:∀ (d i:Nat),dpB nx d i=true->DpG nx d i
 |0, _,h=>aV
 |d+1,i,h=>λ j hj=>zLE d j (List.all_eq_true.1 h j hj)
theorem zwd  (d:Nat) (f:zab) (hb:zrA L R P.length=false) (hd:dpB (nxG L R) d 0=true) (hf:zgq L R d 0=f) (hs:decide (f.size<=2000)=true):zjq (some (P,L,R))=(f,0):=by
 grind [zjq,zKn,zLE]
theorem zkH:zaz zjv=true:=ah
theorem zyH:zaz zgO=true:=ah
theorem zKS:zaz zEw=false:=ah
theorem zLL (s:Int):zbl zjv (zcI 1 0 0 s)=(.mk [.mk [.mk [] []] []] [],0):=by
 have e:=zLG 4000 (.inl rfl);rw [zbl,if_pos zkH,show sdP (zcI 1 0 0 s) 0=sdP (zcI 1 0 0 0) 0 from rfl,e];exact zwd 4 _ ah ah ah ah
theorem form_b:zbl zjv (zcI 0 0 2 0)=(.mk [] [.mk [] [.mk [] []]],0):=by
 rw [zbl,if_pos zkH,expl_b];exact zwd 4 _ ah ah ah ah
theorem zLM (s:Int):zbl zjv (zcI 1 0 2 s)=(.mk [.mk [] []] [.mk [] []],0):=by
 rw [zbl,if_pos zkH,show sdP (zcI 1 0 2 s) 0=sdP (zcI 1 0 2 0) 0 from rfl,expl_c];exact zwd 4 _ ah ah ah ah
theorem zLN (s:Int):zbl zgO (zcI 1 0 0 s)=(zero,210):=by
 have hb:zrA [[1], [2,0], [1]] [[], [], []] 3=true:=ah;grind [zbl,zyH,sdP,zcI,expl_d,zjq]
theorem form_e:zbl zEw (zcI 1 0 0 0)=(zero,230):=by
 rw [zbl,zKS];rfl
theorem tot_a (s:Int) (hs:s=0∨s=1):zeT zjv (zcI 1 0 0 s)=(.mk [.mk [.mk [] []] []] [],0):=by
 rw [zeT,if_pos zkH,zNu s hs,zk6,zLL];kernel_rfl
theorem zND (s:Int) (hs:s=0∨s=1):zeT zjv (zcI 1 0 2 s)=(.mk [.mk [] []] [.mk [] []],0):=by
 rw [zeT,if_pos zkH,zNv s hs,zk6,zLM];kernel_rfl
theorem tot_d (s:Int) (hs:s=0∨s=1):zeT zgO (zcI 1 0 0 s)=(zero,210):=by
 grind [zeT,zyH,zNw,zk6,zLN]
theorem loop_a:zql zjv (zcI 1 0 0 0)=(([[1], [2], []], [[], [], []]),0):=by
 rw [zql,if_pos zkH,zLG 32 (.inr rfl)];rfl
theorem spr_a:zCN zjv (zcI 1 0 0 1)=((2,2),0):=by
 rw [zCN,tot_a 1 (.inr rfl)];kernel_rfl
theorem spr_c:zCN zjv (zcI 1 0 2 1)=((-1,1),0):=by
 rw [zCN,zND 1 (.inr rfl)];kernel_rfl
theorem win_c0:znE zjv (zcI 1 0 2 0)=(0,0):=by
 rw [znE,zND 0 (.inl rfl)];kernel_rfl
theorem win_c1:znE zjv (zcI 1 0 2 1)=(1,0):=by
 rw [znE,zND 1 (.inr rfl)];kernel_rfl
theorem all_d0:zxo zgO (zcI 1 0 0 0)=([zcI 0 1 0 1,zcI 1 0 0 0],0):=by
 have e:zxo zgO (zcI 1 0 0 0)=(zaS zbp [zcI 1 0 0 0,zcI 0 1 0 1],0):=ah;rw [e,zCL (a:=zcI 0 1 0 1) (b:=zcI 1 0 0 0) (λ q=>by grind) ah]
theorem play_d (s:Int) (hs:s=0∨s=1):zcK zgO (zcI 1 0 0 s)=(0,0):=by
 rcases hs with rfl|rfl
 ·rw [zcK,all_d0];kernel_rfl
 ·kernel_rfl
theorem win_d (s:Int) (hs:s=0∨s=1):znE zgO (zcI 1 0 0 s)=(0,0):=by
 grind [znE,tot_d,play_d]
theorem best_b:(zrD zjv (zcI 0 0 2 0)).2=270:=by
 rw [zrD,if_pos zkH,show zai zjv (zcI 0 0 2 0)= [] by kernel_rfl];rfl
end Go.Av
end
section
/- chapter 23's law: sanity. -/
set_option linter.unusedSectionVars false
open Go Go.Proofs
namespace Go.Av
open zab
theorem zwE (n:Int) (hn:n=0∨n=1):zmT 2 1 0 [(1,n)]:=by
 rcases hn with rfl|rfl;all_goals
  refine ⟨ai,ai,λ x hx=> ?_,ai,ai,ai⟩;simp only [List.mem_cons,List.not_mem_nil,or_false] at hx;subst hx;exact ⟨ai,ai,ai,ai,ai⟩
theorem zkJ:GOk zjv:=by
 refine ⟨?_,ai,ai,ai,ai, ?_,ai,ai, ?_, ?_,ai,ai, ?_,ai,ai,ai⟩
 ·refine ⟨?_, ?_, ?_, ?_, ?_, ?_, ?_⟩<;>first|decide|skip
 ·intro d hd;have:d=0∨d=1:=by
   have:zjv.turn.length=2:=rfl;omega
  rcases this with rfl|rfl<;>decide
 ·intro k hk;simp only [zjv,zE4,List.mem_singleton] at hk;subst hk;decide
 ·intro k hk q hq;simp only [zjv,zE4,List.mem_singleton] at hk;subst hk;simp only [List.mem_cons,List.not_mem_nil,or_false] at hq;subst hq;exact zwE 0 (.inl rfl)
 ·intro c hc;simp [zjv,zE4] at hc
theorem zLV:ziR zjv [0]:=⟨rfl,λ i hi=>by
 obtain rfl:i=0:=au;exact ⟨ai,ai,ai⟩⟩
theorem zoA (a b c side:Int) (ha:0<=a∧a<=2) (hb:0<=b∧b<=2) (hc:0<=c∧c<=2) (hs:side=0∨side=1):POk zjv (zcI a b c side):=
 ⟨rfl,by
  intro x hx;simp only [zcI,List.mem_cons,List.not_mem_nil,or_false] at hx;have:(zjv.kinds.length:Int)=1:=rfl;rcases hx with rfl|rfl|rfl<;>omega,zLV,zLV,by simp [zcI],by simp [zcI];decide,hs⟩
theorem zvN:GOk zgO:=by
 refine ⟨?_,ai,ai,ai,ai, ?_,ai,ai, ?_, ?_,ai,ai, ?_,ai,ai,ai⟩
 ·refine ⟨?_, ?_, ?_, ?_, ?_, ?_, ?_⟩<;>first|decide|skip
 ·intro d hd;have:d=0∨d=1:=by
   have:zgO.turn.length=2:=rfl;omega
  rcases this with rfl|rfl<;>decide
 ·intro k hk;simp only [zgO,zE4,List.mem_singleton] at hk;subst hk;decide
 ·intro k hk q hq;simp only [zgO,zE4,List.mem_singleton] at hk;subst hk;simp only [List.mem_cons,List.not_mem_nil,or_false] at hq;rcases hq with rfl|rfl
  ·exact zwE 0 (.inl rfl)
  ·exact zwE 1 (.inr rfl)
 ·intro c hc;simp [zgO,zE4] at hc
theorem zGz:ziR zgO [0]:=⟨rfl,λ i hi=>by
 obtain rfl:i=0:=au;exact ⟨ai,ai,ai⟩⟩
theorem zAd (a b c side:Int) (ha:0<=a∧a<=2) (hb:0<=b∧b<=2) (hc:0<=c∧c<=2) (hs:side=0∨side=1):POk zgO (zcI a b c side):=
 ⟨rfl,by
  intro x hx;simp only [zcI,List.mem_cons,List.not_mem_nil,or_false] at hx;have:(zgO.kinds.length:Int)=1:=rfl;rcases hx with rfl|rfl|rfl<;>omega,zGz,zGz,by simp [zcI],by simp [zcI];decide,hs⟩
theorem zNm:GOk zEw:=by
 refine ⟨?_,ai,ai,ai,ai, ?_,ai,ai, ?_, ?_,ai,ai, ?_,ai,ai,ai⟩
 ·refine ⟨?_, ?_, ?_, ?_, ?_, ?_, ?_⟩<;>first|decide|skip
 ·intro d hd;have:d=0∨d=1:=by
   have:zEw.turn.length=2:=rfl;omega
  rcases this with rfl|rfl<;>decide
 ·intro k hk;simp only [zEw,zjv,zE4,List.mem_singleton] at hk;subst hk;decide
 ·intro k hk q hq;simp only [zEw,zjv,zE4,List.mem_singleton] at hk;subst hk;simp only [List.mem_cons,List.not_mem_nil,or_false] at hq;subst hq;exact zwE 0 (.inl rfl)
 ·intro c hc;simp [zEw,zjv,zE4] at hc
theorem zLU:ziR zEw [0]:=⟨rfl,λ i hi=>by
 obtain rfl:i=0:=au;exact ⟨ai,ai,ai⟩⟩
theorem odd3_p (a b c side:Int) (ha:0<=a∧a<=2) (hb:0<=b∧b<=2) (hc:0<=c∧c<=2) (hs:side=0∨side=1):POk zEw (zcI a b c side):=
 ⟨rfl,by
  intro x hx;simp only [zcI,List.mem_cons,List.not_mem_nil,or_false] at hx;have:(zEw.kinds.length:Int)=1:=rfl;rcases hx with rfl|rfl|rfl<;>omega,zLU,zLU,by simp [zcI],by simp [zcI];decide,hs⟩
theorem zoz:zbU zjv:= .inl rfl
theorem zAc:zbU zgO:= .inl rfl
theorem odd3_n:zbU zEw:= .inl rfl
theorem zf8:zav Tryz.prog 9 [] (.bool true):=by
 have p1:=zhe 1 0 0 0;have p2:=zhe 0 0 2 0;have p3:=zhe 1 0 2 0;have p4:=zhe 1 0 0 1;have p5:=zhe 1 0 2 1;have fa:=zdM zjv zkJ zoz (zcI 1 0 0 0) (zoA 1 0 0 0 ai ai ai (.inl rfl));have fb:=zdM zjv zkJ zoz (zcI 0 0 2 0) (zoA 0 0 2 0 ai ai ai (.inl rfl));have fc:=zdM zjv zkJ zoz (zcI 1 0 2 0) (zoA 1 0 2 0 ai ai ai (.inl rfl));have fd:=zdM zgO zvN zAc (zcI 1 0 0 0) (zAd 1 0 0 0 ai ai ai (.inl rfl));have fe:=zdM zEw zNm odd3_n (zcI 1 0 0 0) (odd3_p 1 0 0 0 ai ai ai (.inl rfl));rw [zLL] at fa;rw [form_b] at fb;rw [zLM] at fc;simp only at fa fb fc;obtain ⟨A,hA⟩:∃A:zab,A= .mk [.mk [.mk [] []] []] []:=⟨_,rfl⟩
 obtain ⟨B,hB⟩:∃B:zab,B= .mk [] [.mk [] [.mk [] []]]:=⟨_,rfl⟩
 obtain ⟨C,hC⟩:∃C:zab,C= .mk [.mk [] []] [.mk [] []]:=⟨_,rfl⟩
 have zA:A.size<=2000:=by rw [hA];decide
 have zB:B.size<=2000:=by rw [hB];decide
 have zC:C.size<=2000:=by rw [hC];decide
 have gA:=zkg A zA 0;have gB:=zkg B zB 0;have gC:=zkg C zC 0;have tA:=zfm _ A (Nat.le_refl _) aa;have tB:=zfm _ B (Nat.le_refl _) aa;have kC:=zw4 _ C (Nat.le_refl _) aa;rw [show C.canon=C by rw [hC];kernel_rfl] at kC;have tC:=zfm _ C (Nat.le_refl _) aa;rw [show ze2 A=⟨#[123,123,123,124,125,124,125,124,125]⟩ by rw [hA];kernel_rfl] at tA;rw [show ze2 B=⟨#[123,124,123,124,123,124,125,125,125]⟩ by rw [hB];kernel_rfl] at tB;rw [show ze2 C=⟨#[123,123,124,125,124,123,124,125,125]⟩ by rw [hC];kernel_rfl] at tC;rw [<- hA,zao] at fa;rw [<- hB,zao] at fb;rw [<- hC,zao] at fc;rw [zao] at gA gB gC;rw [zbQ,zao] at tA tB tC kC;clear hA hB hC;rw [zLN] at fd;rw [form_e] at fe;have sa:=zny zjv zkJ zoz (zcI 1 0 0 1) (zoA 1 0 0 1 ai ai ai (.inr rfl));have sc:=zny zjv zkJ zoz (zcI 1 0 2 1) (zoA 1 0 2 1 ai ai ai (.inr rfl));rw [spr_a] at sa;rw [spr_c] at sc;have la:=zsq zjv zkJ zoz (zcI 1 0 0 0) (zoA 1 0 0 0 ai ai ai (.inl rfl));rw [loop_a] at la;have w1:=zkW zgO zvN zAc (zcI 1 0 0 0) (zAd 1 0 0 0 ai ai ai (.inl rfl));have w2:=zkW zgO zvN zAc (zcI 1 0 0 1) (zAd 1 0 0 1 ai ai ai (.inr rfl));have w3:=zkW zjv zkJ zoz (zcI 1 0 2 0) (zoA 1 0 2 0 ai ai ai (.inl rfl));have w4:=zkW zjv zkJ zoz (zcI 1 0 2 1) (zoA 1 0 2 1 ai ai ai (.inr rfl));rw [win_d 0 (.inl rfl)] at w1;rw [win_d 1 (.inr rfl)] at w2;rw [win_c0] at w3;rw [win_c1] at w4;have mb:=zpu zjv zkJ zoz (zcI 0 0 2 0) (zoA 0 0 2 0 ai ai ai (.inl rfl));rw [best_b] at mb;have e1:zad zjv= [.int 3, .lst 1 [[.lst 1 [[.int 1], [.int 2], [.int (-1)]]], [.lst 1 [[.int (-1)], [.int 0], [.int 1]]]], .lst 1 [[.int 1], [.int 0]], .lst 3 [[.v (.string ⟨#[97]⟩), .lst 1 [[.lst 2 [[.int 1, .int 0]]]], .v (.bool false)]], .int 0, .v (.bool false), .lst 4 [], .int 3, .int 2]:=rfl
 have e2:zad zgO= [.int 3, .lst 1 [[.lst 1 [[.int 1], [.int 2], [.int (-1)]]], [.lst 1 [[.int (-1)], [.int 0], [.int 1]]]], .lst 1 [[.int 1], [.int 0]], .lst 3 [[.v (.string ⟨#[97]⟩), .lst 1 [[.lst 2 [[.int 1, .int 0]]], [.lst 2 [[.int 1, .int 1]]]], .v (.bool false)]], .int 0, .v (.bool false), .lst 4 [], .int 3, .int 2]:=rfl;have e3:zad zEw= [.int 3, .lst 1 [[.lst 1 [[.int 1], [.int 2], [.int (-1)]]], [.lst 1 [[.int (-1)], [.int 0], [.int 1]]]], .lst 1 [[.int 1], [.int 0]], .lst 3 [[.v (.string ⟨#[97]⟩), .lst 1 [[.lst 2 [[.int 1, .int 0]]]], .v (.bool false)]], .int 0, .v (.bool true), .lst 4 [], .int 3, .int 2]:=rfl;have r1:zav Tryz.prog 41 [.lst 1 [[.lst 2 [[.int 1, .int 0]]]]] (.agg (zad zjv)):=zvc [[(1,0)]];have r2:zav Tryz.prog 41 [.lst 1 [[.lst 2 [[.int 1, .int 0]]], [.lst 2 [[.int 1, .int 1]]]]] (.agg (zad zgO)):=zvc [[(1,0)], [(1,1)]];rw [zhM] at fd fe;generalize (zrD zjv (zcI 0 0 2 0)).1=bq at *;obtain ⟨q1,h1⟩:∃q,q=zag (zcI 1 0 0 0):=⟨_,rfl⟩
 obtain ⟨q2,h2⟩:∃q,q=zag (zcI 0 0 2 0):=⟨_,rfl⟩
 obtain ⟨q3,h3⟩:∃q,q=zag (zcI 1 0 2 0):=⟨_,rfl⟩
 obtain ⟨q4,h4⟩:∃q,q=zag (zcI 1 0 0 1):=⟨_,rfl⟩
 obtain ⟨q5,h5⟩:∃q,q=zag (zcI 1 0 2 1):=⟨_,rfl⟩
 rw [<- h1] at p1 fa fd fe la w1;rw [<- h2] at p2 fb mb;rw [<- h3] at p3 fc w3;rw [<- h4] at p4 sa w2;rw [<- h5] at p5 sc w4;have l1:q1.length=5:=by rw [h1];rfl
 have l2:q2.length=5:=by rw [h2];rfl
 have l3:q3.length=5:=by rw [h3];rfl
 have l4:q4.length=5:=by rw [h4];rfl
 have l5:q5.length=5:=by rw [h5];rfl
 have b1:∀n,(∀c ∈ q1,Bel n c)=True:=λ n=>by rw [h1];simp [go_sem]
 have b2:∀n,(∀c ∈ q2,Bel n c)=True:=λ n=>by rw [h2];simp [go_sem]
 have b3:∀n,(∀c ∈ q3,Bel n c)=True:=λ n=>by rw [h3];simp [go_sem]
 have b4:∀n,(∀c ∈ q4,Bel n c)=True:=λ n=>by rw [h4];simp [go_sem]
 have b5:∀n,(∀c ∈ q5,Bel n c)=True:=λ n=>by rw [h5];simp [go_sem]
 clear h1 h2 h3 h4 h5;rw [e1] at fa fb fc sa sc la w3 w4 mb r1;rw [e2] at fd w1 w2 r2;rw [e3] at fe;have t73:zmQ Tryz.prog 73=none:=ah;have d73:zCQ Tryz.prog 73=some [false,false,false]:=ah;refine pF Tryz.func9 ?_;refine J0 ?_;refine zN3 [0,1] r1 ?_ ae ?_
 ·(first|done|exact leX)
 refine J0 ?_;refine zN3 [2,3,4] r2 ?_ ae ?_
 ·(first|done|exact leX)
 refine J0 ?_;refine zN5 p1 ak ?_;refine J10 l1 l2 l3 l4 l5 b1 b2 b3 b4 b5 ?_;refine zN5 fa ak ?_;refine J10 l1 l2 l3 l4 l5 b1 b2 b3 b4 b5 ?_;refine zN5 p2 ak ?_;refine J10 l1 l2 l3 l4 l5 b1 b2 b3 b4 b5 ?_;refine zN5 fb ak ?_;refine J10 l1 l2 l3 l4 l5 b1 b2 b3 b4 b5 ?_;refine zN5 p3 ak ?_;refine J10 l1 l2 l3 l4 l5 b1 b2 b3 b4 b5 ?_;refine zN5 fc ak ?_;refine J10 l1 l2 l3 l4 l5 b1 b2 b3 b4 b5 ?_;refine zN5 p4 ak ?_;refine J10 l1 l2 l3 l4 l5 b1 b2 b3 b4 b5 ?_;refine zN5 sa ak ?_;refine J10 l1 l2 l3 l4 l5 b1 b2 b3 b4 b5 ?_;refine zN5 p5 ak ?_;refine J10 l1 l2 l3 l4 l5 b1 b2 b3 b4 b5 ?_;refine zN5 sc ak ?_;refine J10 l1 l2 l3 l4 l5 b1 b2 b3 b4 b5 ?_;refine zN5 p1 ak ?_;refine J10 l1 l2 l3 l4 l5 b1 b2 b3 b4 b5 ?_;refine zN5 la ak ?_;refine J10 l1 l2 l3 l4 l5 b1 b2 b3 b4 b5 ?_;refine zN0 gA ak ?_;refine J10 l1 l2 l3 l4 l5 b1 b2 b3 b4 b5 ?_;refine zN4 _ (λ _=>gB) ak ?_;refine J10 l1 l2 l3 l4 l5 b1 b2 b3 b4 b5 ?_;refine zN4 _ (λ _=>gC) ak ?_;refine J10 l1 l2 l3 l4 l5 b1 b2 b3 b4 b5 ?_;refine zN4 _ (λ _=>tA) ak ?_;refine J10 l1 l2 l3 l4 l5 b1 b2 b3 b4 b5 ?_;refine zN4 _ (λ _=>tB) ak ?_;refine J10 l1 l2 l3 l4 l5 b1 b2 b3 b4 b5 ?_;refine zN4 _ (λ _=>kC) ak ?_;refine J10 l1 l2 l3 l4 l5 b1 b2 b3 b4 b5 ?_;refine zN4 _ (λ _=>tC) ak ?_;refine J10 l1 l2 l3 l4 l5 b1 b2 b3 b4 b5 ?_;refine J12 t73 d73 l1 l2 l3 l4 l5 b1 b2 b3 b4 b5 ?_;have hSL:=ztv [[1], [2], []] [[], [], []] ai ai ai ai;try ((with_reducible refine wZ ?_);(try simp [go_sem]))
 refine zOB [.agg [zax [[1], [2], []],zax [[], [], []]], .agg [zax [[1], [2], []],zax [[], [], []]]] (.bool true) [44,45,46,47,48,49,50,51] (λ _=>hSL) (.v _) ?_ ae ?_
 ·intro h₁ hS;have k1:=(hS 44 ac).symm;have k2:=(hS 45 ac).symm;have k3:=(hS 46 ac).symm;have k4:=(hS 47 ac).symm;have k5:=(hS 48 ac).symm;have k6:=(hS 49 ac).symm;have k7:=(hS 50 ac).symm;have k8:=(hS 51 ac).symm;clear hS;simp [upd] at k1 k2 k3 k4 k5 k6 k7 k8;have x1:zax [[1], [2], []]= .lst 1 [[.lst 1 [[.int 1]]], [.lst 1 [[.int 2]]], [.lst 1 []]]:=rfl;have x2:zax [[], [], []]= .lst 1 [[.lst 1 []], [.lst 1 []], [.lst 1 []]]:=rfl;refine .cons (.refl _) (.cons (.agg ?_) .nil);rw [x1,x2];(first|done|exact Qx8 k1 k2 k3 k4 k5 k6 k7 k8)
 refine J10 l1 l2 l3 l4 l5 b1 b2 b3 b4 b5 ?_;refine zN2 _ (λ _=>p1) ak ?_;refine J10 l1 l2 l3 l4 l5 b1 b2 b3 b4 b5 ?_;refine zN2 _ (λ _=>fd) ak ?_;refine J10 l1 l2 l3 l4 l5 b1 b2 b3 b4 b5 ?_;refine zN5 p1 ak ?_;refine J10 l1 l2 l3 l4 l5 b1 b2 b3 b4 b5 ?_;refine zN5 w1 ak ?_;refine J10 l1 l2 l3 l4 l5 b1 b2 b3 b4 b5 ?_;refine zN2 _ (λ _=>p4) ak ?_;refine J10 l1 l2 l3 l4 l5 b1 b2 b3 b4 b5 ?_;refine zN2 _ (λ _=>w2) ak ?_;refine J10 l1 l2 l3 l4 l5 b1 b2 b3 b4 b5 ?_;refine zN2 _ (λ _=>p3) ak ?_;refine J10 l1 l2 l3 l4 l5 b1 b2 b3 b4 b5 ?_;refine zN2 _ (λ _=>w3) ak ?_;refine J10 l1 l2 l3 l4 l5 b1 b2 b3 b4 b5 ?_;refine zN2 _ (λ _=>p5) ak ?_;refine J10 l1 l2 l3 l4 l5 b1 b2 b3 b4 b5 ?_;refine zN2 _ (λ _=>w4) ak ?_;refine J10 l1 l2 l3 l4 l5 b1 b2 b3 b4 b5 ?_;refine zN2 _ (λ _=>p2) ak ?_;refine J10 l1 l2 l3 l4 l5 b1 b2 b3 b4 b5 ?_;refine zN2 _ (λ _=>mb) ak ?_;refine J10 l1 l2 l3 l4 l5 b1 b2 b3 b4 b5 ?_;refine zN2 _ (λ _=>p1) ak ?_;refine J10 l1 l2 l3 l4 l5 b1 b2 b3 b4 b5 ?_;refine zN2 _ (λ _=>fe) ak ?_;exact K10 l1 l2 l3 l4 l5 b1 b2 b3 b4 b5
end Go.Av
end
section
open Go Go.Proofs
namespace Go.Av
variable {l:List UInt8} {caps first:Array Value} {e t:TypeId} {P:Program}
theorem zLg {fn:Fn} (hl:l≠ []) (h:funcToken P (t, .func fn first caps)=l):
  ∃f F,fn= .func f∧first= #[]∧caps= #[]∧P.funcs[f]? =some F∧P.funcNamed F.name=some f∧F.name.toUTF8.data.toList=l:=by
 unfold funcToken at h;cases fn with
 |func f=>
  simp only at h;split at h
  ·rename_i hc;simp only [Bool.and_eq_true,Array.isEmpty_iff] at hc;split at h
   ·rename_i F hF;split at h
    ·rename_i hn;exact ⟨f,F,rfl,hc.1,hc.2,hF,by simpa using hn,h⟩
    ·exact absurd h.symm hl
   ·exact absurd h.symm hl
  ·exact absurd h.symm hl
 | _=>exact absurd h.symm hl
variable {q:List MemPlace} {v:Value} {d:TypeDesc} {fuel:Nat} {sp:Nat->Bool} {W w:World}
theorem zBw  (hd:P.underlying e=some d) (hf:∃a b c,d= .func a b c) (h:DataW.trod (funcToken P) P w 0 sp true fuel e [v]=some (.held l,q)):
  ∃fn first caps,v= .func fn first caps∧funcToken P (e, .func fn first caps)=l:=by
 obtain ⟨a,b,c,rfl⟩:=hf;cases fuel with
 |zero=>simp [DataW.trod] at h
 |succ fuel=>
  simp only [DataW.trod,hd] at h;cases v<;>simp at h;exact ⟨_, _, _,rfl,h.1⟩
theorem zI0  (hd:P.underlying e=some d) (hf:∃a b c,d= .func a b c) (h:DataW.trod (funcToken P) P w 0 sp true fuel e [v]=some (.nil,q)):v= .nilFunc:=by
 obtain ⟨a,b,c,rfl⟩:=hf;cases fuel with
 |zero=>simp [DataW.trod] at h
 |succ fuel=>
  simp only [DataW.trod,hd] at h;cases v<;>simp at h;rfl
theorem zDy {a b:String} (h:a.toUTF8.data.toList=b.toUTF8.data.toList):a=b:=by
 have h1:a.toUTF8=b.toUTF8:=ByteArray.ext (Array.toList_inj.1 h);exact String.toByteArray_inj.1 h1
theorem zwc {n:String}{k:FuncId}{fn:Fn} (hk:Tryz.prog.funcNamed n=some k) (hl:n.toUTF8.data.toList=l) (hne:l≠ []) (h:funcToken Tryz.prog (t, .func fn first caps)=l):fn= .func k∧first= #[]∧caps= #[]:=by
 obtain ⟨f,F,h1,h2,h3,h4,h5,h6⟩:=zLg hne h;have e:F.name=n:=zDy (h6.trans hl.symm);rw [e,hk] at h5;cases h5;exact ⟨h1,h2,h3⟩
def zpV:DataW Unit:= .agg [.nil, .iface "func" (.lit (.string [115,107,101,119,101,114,47,112,108,97,121,46,99,111,110,100,105,116,105,111,110,115,36,49])), .iface "func" (.lit (.string [115,107,101,119,101,114,47,112,108,97,121,46,99,111,110,100,105,116,105,111,110,115,36,50])), .iface "func" (.lit (.string [115,107,101,119,101,114,47,112,108,97,121,46,99,111,110,100,105,116,105,111,110,115,36,51]))]
theorem zAk  (h:funcsAt Tryz.prog W "skewer/play.conditions" zpV):
  ∃cs T fz,W.heap[0]? =some (.cells cs T fz)∧cs.toList= [.nilFunc, .func (.func 366) #[] #[], .func (.func 368) #[] #[], .func (.func 369) #[] #[]]:=by
 obtain ⟨g,t,cs,fuel,p,hg,ht,hcs,htr⟩:=h;obtain rfl:g=0:=(Option.some.inj ((show Tryz.prog.globalNamed "skewer/play.conditions" =some 0 by kernel_rfl).symm.trans hg)).symm;obtain rfl:t=308:=(Option.some.inj ((show (Tryz.prog.globals[0]?).map (·.type)=some 308 by kernel_rfl).symm.trans ht)).symm;have hu:Tryz.prog.underlying 308=some (.array 4 307):=ah;have hc1:Tryz.prog.cellsOf 307=1:=ah;have hc4:Tryz.prog.cellsOf 308=4:=ah;have hheap:∃T fz,W.heap[0]? =some (.cells cs T fz):=by
  unfold World.var? at hcs;rw [show Tryz.prog.globalNamed "skewer/play.conditions" =some 0 by kernel_rfl] at hcs;simp only [Option.bind_some] at hcs;split at hcs
  ·rename_i c T fz hb;cases hcs;exact ⟨T,fz,hb⟩
  ·cases hcs
 obtain ⟨T,fz,hb⟩:=hheap;refine ⟨cs,T,fz,hb, ?_⟩;cases fuel with
 |zero=>simp [DataW.trod] at htr
 |succ fuel=>
  simp only [DataW.trod,hu,hc1,hc4,Nat.mul_one] at htr;split at htr
  ·rename_i hl;match hcl:cs.toList,hl with
   | [a,b,c,d], _=>
    rw [hcl] at htr;obtain ⟨xs,hm,hx⟩:=Option.map_eq_some_iff.1 htr;simp only [show List.range 4= [0,1,2,3] from rfl,List.mapM_cons,List.mapM_nil,List.drop_zero,List.drop_succ_cons,List.take_succ_cons,List.take_zero,Option.bind_eq_bind,Option.bind_eq_some_iff,Option.pure_def,Option.some.injEq] at hm;obtain ⟨⟨y0,q0⟩,h0,l1,⟨⟨y1,q1⟩,h1,l2,⟨⟨y2,q2⟩,h2,l3,⟨⟨y3,q3⟩,h3,l4,rfl,rfl⟩,rfl⟩,rfl⟩,rfl⟩:=hm;have hx1:=congrArg Prod.fst hx;simp only [zpV,DataW.funcsOut,DataW.funcsOutAll,List.map_cons,List.map_nil,DataW.agg.injEq,List.cons.injEq,and_true] at hx1;simp at hx1;obtain ⟨rfl,rfl,rfl,rfl⟩:=hx1;have hd:Tryz.prog.underlying 307=some (.func #[41,44,154] #[4] false):=ah;have hf:∃a b c,TypeDesc.func #[41,44,154] #[4] false= .func a b c:=⟨_, _, _,rfl⟩
    obtain rfl:=zI0 hd hf h0;obtain ⟨f1,i1,c1,rfl,t1⟩:=zBw hd hf h1;obtain ⟨f2,i2,c2,rfl,t2⟩:=zBw hd hf h2;obtain ⟨f3,i3,c3,rfl,t3⟩:=zBw hd hf h3;obtain ⟨rfl,rfl,rfl⟩:=zwc (n:= "skewer/play.conditions$1") (k:=366) ah cD ac t1;obtain ⟨rfl,rfl,rfl⟩:=zwc (n:= "skewer/play.conditions$2") (k:=368) ah cD ac t2;obtain ⟨rfl,rfl,rfl⟩:=zwc (n:= "skewer/play.conditions$3") (k:=369) ah cD ac t3;rfl
  ·cases htr
theorem zg0  (h:funcsAt Tryz.prog W "skewer/play.conditions" zpV):zoY W (λ _=>False):=by
 obtain ⟨cs,T,fz,hb,hcs⟩:=zAk h;have hsz:cs.size=4:=by rw [<- Array.length_toList,hcs];rfl
 intro q hq;have e:q=(0, [AV.v .nilFunc, .fn (.func 366) [] [], .fn (.func 368) [] [], .fn (.func 369) [] []]):=by simpa [glbs] using hq
 subst e;refine Rel.fp (C:=cs) (T:=T) (fz:=fz) rfl (λ h=>h) hb (by simp [hsz]) ?_ ?_
 ·intro u hu;simp only [hcs,List.drop_zero] at hu;simp at hu;rcases hu with rfl|rfl|rfl|rfl<;>rfl
 ·simp only [hcs,List.drop_zero];exact .cons (.v _) (.cons (.fn .nil .nil) (.cons (.fn .nil .nil) (.cons (.fn .nil .nil) .nil)))
end Go.Av
end
section
open Go Go.Proofs Go.Av Go.ChangeShapes Go.RowKit
namespace Go.Proofs.YtgdfnfffibhkjaaGreatDoor
theorem zn8:ownKnob Tryz.prog.godebug=none:=ah
theorem zrP:laidOutB Tryz.prog=true:=ah
abbrev zKe:List (String×DataW Unit):= [("math/bits.deBruijn32tab",Rows.laid_math_bits_deBruijn32tab),("math/bits.deBruijn64tab",Rows.laid_math_bits_deBruijn64tab),("internal/strconv.uint64pow10",Rows.laid_internal_strconv_uint64pow10),("skewer/play.conditions",Rows.laid_skewer_play_conditions)]
theorem zn7 (os:Os) (args:Array Value):laidMetH Tryz.prog zKe ((World.doorLaid Tryz.prog 29 os).forCall (λ _ _=>0) ⟨#[],args, []⟩).memory:=
 laidMetH_of_parts3 (fuel:=8) (laidMet_of_run' 8 ah ah) ah ah
theorem zlx (os:Os) (args:Array Value):((World.doorLaid Tryz.prog 29 os).forCall (λ _ _=>0) ⟨#[],args, []⟩).variablesB Tryz.prog=true:=ah
theorem zlw (os:Os) (args:Array Value):(((World.doorLaid Tryz.prog 29 os).forCall (λ _ _=>0) ⟨#[],args, []⟩).heap.toList.drop Tryz.prog.globals.size).take ((begin Tryz.prog (λ _ _=>0) default).world.heap.size - Tryz.prog.globals.size)=
  (begin Tryz.prog (λ _ _=>0) default).world.heap.toList.drop Tryz.prog.globals.size:=ah
end Go.Proofs.YtgdfnfffibhkjaaGreatDoor
end
section
/- Our library, part 14: arguments, as the statements read them, are values of the abstract domain. -/
namespace Go.Av
open Go

abbrev NoM:Nat->Prop:=λ _=>False

structure zwV (B:Nat) (bk:∀ {H:Type},DataW H->Nat):Prop where
 len:∀ {H:Type} (l r:List (DataW H)),bk (.slice l r)<=B->l.length<=maxLen->l.length<=B
 elem:∀ {H:Type} (l r:List (DataW H)) d,d ∈ l->bk (.slice l r)<=B->bk d<=B
 part:∀ {H:Type} (l:List (DataW H)) d,d ∈ l->bk (.agg l)<=B->bk d<=B
 str:∀ {H:Type} (l:List UInt8),bk (DataW.lit (H:=H) (.string l))<=B->l.length<=maxLen->l.length<=B

theorem zwV.any:zwV maxLen (λ _=>0):=⟨λ _ _ _ h=>h,λ _ _ _ _ _=>Nat.zero_le _,λ _ _ _ _=>Nat.zero_le _,λ _ _ h=>h⟩

def Opn (P:Program) (B:Nat) (bk:∀ {H:Type},DataW H->Nat){α:Type} (t:TypeId) (en:α->List AV) (Q:α->Prop):Prop:=
 ∀ {H:Type} (enc:TypeId×Value->H) (w:World) (fuel:Nat) (cs:List Value) (d:DataW H) (ps:List MemPlace),
  DataW.trod enc P w 0 (λ _=>true) true fuel t cs=some (d,ps)->bk d<=B->∃x,za2 noP w NoM (en x) cs∧(∀c ∈ cs,zd7 c=true)∧cs.length=P.cellsOf t∧Q x

variable {before:List MemPlace} {args:Array Value} {again apart fresh handsOn:Bool} {s:ChangeSpec} {v:Value} {a:Addr} {W w:World} {t:TypeId}
section
variable {P:Program} {B:Nat} {bk:∀ {H:Type},DataW H->Nat}
theorem Opn.int {t:TypeId}{k:IntKind} (ht:P.underlying t=some (.int k)) (hc:P.cellsOf t=1):Opn P B bk t (λ n:Int=> [.v (.int k n)]) (λ n=>(Lit.int k n).wf=true):=by
 intro H enc w fuel cs d ps h _;obtain ⟨n,rfl, _,hw⟩:=DataW.trod_int ht h;exact ⟨n, .cons (.v _) .nil,bH,ay,hw⟩
theorem Opn.bool {t:TypeId} (ht:P.underlying t=some .bool) (hc:P.cellsOf t=1):Opn P B bk t (λ b:Bool=> [.v (.bool b)]) (λ _=>True):=by
 intro H enc w fuel cs d ps h _;obtain ⟨n,rfl, _⟩:=DataW.trod_bool ht h;exact ⟨n, .cons (.v _) .nil,bH,ay,trivial⟩
theorem Opn.string {t:TypeId} (hB:zwV B bk) (ht:P.underlying t=some .string) (hc:P.cellsOf t=1):Opn P B bk t (λ s:ByteArray=> [.v (.string s)]) (λ s=>s.size<=B):=by
 intro H enc w fuel cs d ps h hb;obtain ⟨n,rfl,hx,hm⟩:=DataW.trod_string ht h;simp only [Prod.mk.injEq] at hx;obtain ⟨rfl, _⟩:=hx;refine ⟨n, .cons (.v _) .nil,bH,ay, ?_⟩;have:=hB.str _ hb (by simpa using hm);simpa using this
theorem Opn.imp {α:Type}{en:α->List AV}{Q Q':α->Prop} (h:Opn P B bk t en Q) (hq:∀x,Q x->Q' x):Opn P B bk t en Q':=by
 intro H enc w fuel cs d ps h1 h2;obtain ⟨x,a,b,c,e⟩:=h enc w fuel cs d ps h1 h2;exact ⟨x,a,b,c,hq x e⟩
theorem Opn.map {α β:Type}{en:α->List AV}{en':β->List AV}{Q:α->Prop}{Q':β->Prop} (h:Opn P B bk t en Q) (f:α->β) (hq:∀x,Q x->Q' (f x)) (he:∀x,Q x->en' (f x)=en x):Opn P B bk t en' Q':=by
 intro H enc w fuel cs d ps h1 h2;obtain ⟨x,a,b,c,e⟩:=h enc w fuel cs d ps h1 h2;exact ⟨f x,by rw [he x e];exact a,b,c,hq x e⟩
theorem zo6 {n:Nat}{cs:List Value} (h:w.cells? 0 a n=some cs):cs.length=n∧∀i,i<n->w.cell? (a.add i)=cs[i]? :=by
 unfold World.cells? at h;rw [if_pos (Nat.zero_le _)] at h;exact ⟨by simpa using mapM_some_length h,λ i hi=>mapM_some_get h i i (by simp [hi])⟩
theorem zrG  (h:w.cell? a=some v):∃C T fz,w.heap[a.block]? =some (.cells C T fz)∧a.spot=none∧C[a.off]? =some v:=by
 unfold World.cell? at h;split at h
 ·rename_i C T fz hb;split at h
  ·cases h
  ·rename_i hs;refine ⟨C,T,fz,hb, ?_,h⟩;cases hsp:a.spot with
   |none=>rfl
   |some x=>simp [hsp] at hs
 ·cases h
theorem zro (a:Addr) (n:Nat):(a.add n).block=a.block:=by unfold Addr.add;split<;>rfl
theorem zzY (a:Addr) (n:Nat):(a.add n).off=a.off+n:=by
 unfold Addr.add;split
 ·rename_i h;subst h;rfl
 ·rfl
theorem zqc {φ:zaD}{M:Nat->Prop}{rows:List (List AV)}{L:List Value}{sz:Nat} (hl:L.length=rows.length * sz)
  (h:∀i (hi:i<rows.length),za2 φ w M rows[i] ((L.drop (i * sz)).take sz)):za2 φ w M rows.flatten L:=by
 induction rows generalizing L with
 |nil=>simp at hl;subst hl;exact .nil
 |cons r rows ih=>
  have h0:=h 0 ac;simp only [List.getElem_cons_zero,Nat.zero_mul,List.drop_zero] at h0;rw [List.flatten_cons,<- List.take_append_drop sz L];refine za2.append h0 (ih (by simp at hl ⊢;rw [hl,Nat.add_mul];omega) λ i hi=> ?_);have:=h (i+1) au;simp only [List.getElem_cons_succ] at this;rw [List.drop_drop,show sz+i * sz=(i+1) * sz by rw [Nat.add_mul];omega];exact this
theorem zr0 {α:Type} (n:Nat) (p:Nat->α->Prop) (h:∀i,i<n->∃x,p i x):∃l:List α,l.length=n∧∀i (hi:i<l.length),p i l[i]:=by
 induction n with
 |zero=>exact ⟨[],rfl,λ i hi=>by simp at hi⟩
 |succ n ih=>
  obtain ⟨l,hl,hp⟩:=ih λ i hi=>h i aa;obtain ⟨x,hx⟩:=h n aa;refine ⟨l++ [x],by simp [hl],λ i hi=> ?_⟩;rcases Nat.lt_or_ge i l.length with h1|h1
  ·rw [List.getElem_append_left h1];exact hp i h1
  ·have:i=n:=by simp at hi;omega
   subst this;simp [List.getElem_append_right,hl,hx]
theorem Opn.slice {α:Type}{t e:TypeId}{en:α->List AV}{Q:α->Prop}{sz:Nat} (hB:zwV B bk) (ht:P.underlying t=some (.slice e)) (hc:P.cellsOf t=1) (hz:P.cellsOf e=sz) (hp:0<sz)
  (he:Opn P B bk e en Q):Opn P B bk t (λ l:List α=> [.lst sz (l.map en)]) (λ l=>l.length<=B∧∀x ∈ l,Q x):=by
 intro H enc w fuel cs d ps h hb;rcases DataW.trod_slice ht h with ⟨rfl, _⟩|⟨a,len,cap,zAm,rest,n,rfl,rfl,hx, _,hlen,hmax,hel,hget, _, _⟩
 ·exact ⟨[], .cons (.nil _ _ _) .nil,bH,ay,ac,ac⟩
 ·simp only [Prod.mk.injEq] at hx;obtain ⟨rfl, _⟩:=hx;rw [hz] at hget;have key:∀i (hi:i<len),∃x ci,w.cells? 0 (a.add (i * sz)) sz=some ci∧za2 noP w NoM (en x) ci∧(∀c ∈ ci,zd7 c=true)∧Q x:=by
   intro i hi;have h1:=hget i hi;rw [List.getElem?_eq_getElem aa,Option.bind_eq_some_iff] at h1;obtain ⟨ci,h2,h3⟩:=h1;obtain ⟨x,a1,a2, _,a4⟩:=he enc w n ci zAm[i].1 zAm[i].2 h3 (hB.elem _ _ _ (List.mem_map.2 ⟨zAm[i],List.getElem_mem _,rfl⟩) hb);exact ⟨x,ci,h2,a1,a2,a4⟩
  have hlb:len<=B:=by have:=hB.len _ _ hb aQ;simp at this;omega
  obtain ⟨l,hl,hx⟩:=zr0 len _ key;refine ⟨l, ?_,bH,ay,aa,λ x hxm=> ?_⟩
  ·rcases Nat.eq_zero_or_pos len with h0|h0
   ·have:l= []:=List.eq_nil_of_length_eq_zero aa;subst this;rw [h0];exact .cons (.nil _ _ _) .nil
   ·have cellI:∀i,i<len->∀j,j<sz->∃v,w.cell? (a.add (i * sz+j))=some v∧zd7 v=true:=by
     intro i hi j hj;obtain ⟨x,ci,h2,a1,a2,a3⟩:=key i hi;obtain ⟨hcl,hcg⟩:=zo6 h2;refine ⟨ci[j], ?_,a2 _ (List.getElem_mem aa)⟩;have:=hcg j hj;rw [List.getElem?_eq_getElem aa] at this;rw [<- this];simp only [World.cell?,zro,zzY,Nat.add_assoc];by_cases hj0:j=0
     ·subst hj0;simp [Addr.add]
     ·simp [Addr.add,hj0]
    obtain ⟨v0,hv0, _⟩:=cellI 0 h0 0 hp;obtain ⟨C,T,fz,hC,hs, _⟩:=zrG hv0;simp only [Nat.zero_mul,Nat.zero_add,Addr.add,if_true] at hC hs;have cellC:∀k,k<len * sz->∃v,C[a.off+k]? =some v∧w.cell? (a.add k)=some v∧zd7 v=true:=by
     intro k hk;have hi:k / sz<len:=Nat.div_lt_of_lt_mul (by rw [Nat.mul_comm];exact hk);have hj:k % sz<sz:=Nat.mod_lt _ hp;obtain ⟨v,h1,h2⟩:=cellI _ hi _ hj;rw [show k / sz * sz+k % sz=k by rw [Nat.mul_comm];exact Nat.div_add_mod k sz] at h1;obtain ⟨C',T',fz',hC',hs',hv'⟩:=zrG h1;rw [zro,hC] at hC';simp only [Option.some.injEq,Obj.cells.injEq] at hC';obtain ⟨rfl, _, _⟩:=hC';rw [zzY] at hv';exact ⟨v,hv',h1,h2⟩
    have hsz:a.off+len * sz<=C.size:=by
     have hpos:0<len * sz:=Nat.mul_pos h0 hp;obtain ⟨v,h1, _⟩:=cellC (len * sz - 1) aa;have:=(Array.getElem?_eq_some_iff.1 h1).1;omega
    have hL:((C.toList.drop a.off).take (len * sz)).length=len * sz:=aQ;have hget:∀k,k<len * sz->((C.toList.drop a.off).take (len * sz))[k]? =C[a.off+k]? :=by
     intro k hk;rw [List.getElem?_take,if_pos hk,List.getElem?_drop];simp
    have hrl:∀i (hi:i<l.length),∃ci,w.cells? 0 (a.add (i * sz)) sz=some ci∧za2 noP w NoM (en l[i]) ci:=λ i hi=>by
     obtain ⟨ci,h2,a1, _⟩:=hx i hi;exact ⟨ci,h2,a1⟩
    refine .cons (.lst (C:=C) (T:=T) (fz:=fz) hs (λ h=>h) hC (λ r hr=> ?_) aQ (by rw [List.length_map,hl];exact hsz) aa (λ u hu=> ?_) ?_) .nil
    ·obtain ⟨x,hxm,rfl⟩:=List.mem_map.1 hr;obtain ⟨i,hi,rfl⟩:=List.getElem_of_mem hxm;obtain ⟨ci,h2,a1⟩:=hrl i hi;rw [a1.length,(zo6 h2).1]
    ·rw [List.length_map,hl] at hu;obtain ⟨k,hk,rfl⟩:=List.getElem_of_mem hu;rw [hL] at hk;obtain ⟨v,h1, _,h3⟩:=cellC k hk;have:=hget k hk;rw [List.getElem?_eq_getElem aa,h1] at this;simp only [Option.some.injEq] at this;rw [this];exact h3
    ·rw [List.length_map,hl];refine zqc (sz:=sz) (by rw [hL,List.length_map,hl]) λ i hi=> ?_;rw [List.length_map] at hi;obtain ⟨ci,h2,a1⟩:=hrl i hi;rw [List.getElem_map];obtain ⟨hcl,hcg⟩:=zo6 h2;have hle:(i+1) * sz<=len * sz:=Nat.mul_le_mul_right _ aa;rw [Nat.add_mul] at hle;have:ci=(((C.toList.drop a.off).take (len * sz)).drop (i * sz)).take sz:=by
      refine List.ext_getElem? λ j=> ?_;rcases Nat.lt_or_ge j sz with hj|hj
      ·rw [<- hcg j hj,List.getElem?_take,if_pos hj,List.getElem?_drop,hget _ aa];obtain ⟨v,h1,h3, _⟩:=cellC (i * sz+j) aa;rw [h1,<- h3];simp only [World.cell?,zro,zzY,Nat.add_assoc];by_cases hj0:j=0
       ·subst hj0;simp [Addr.add]
       ·simp [Addr.add,hj0]
      ·rw [List.getElem?_eq_none aa,List.getElem?_eq_none aQ]
     rw [<- this];exact a1
  ·obtain ⟨i,hi,rfl⟩:=List.getElem_of_mem hxm;obtain ⟨ci, _, _, _,a4⟩:=hx i hi;exact a4
theorem Opn.array {α:Type}{t e:TypeId}{en:α->List AV}{Q:α->Prop}{n sz:Nat} (hB:zwV B bk) (ht:P.underlying t=some (.array n e)) (hz:P.cellsOf e=sz) (hc:P.cellsOf t=n * sz)
  (he:Opn P B bk e en Q):Opn P B bk t (λ l:List α=>(l.map en).flatten) (λ l=>l.length=n∧∀x ∈ l,Q x):=by
 intro H enc w fuel cs d ps h hb;obtain ⟨xs,m, _,hx,hl,hxl,hget⟩:=DataW.trod_array ht h;simp only [Prod.mk.injEq] at hx;obtain ⟨rfl, _⟩:=hx;rw [hz] at hget;have key:∀i,i<n->∃x,za2 noP w NoM (en x) ((cs.drop (i * sz)).take sz)∧(∀c ∈ (cs.drop (i * sz)).take sz,zd7 c=true)∧Q x:=by
  intro i hi;have h1:=hget i hi;rw [List.getElem?_eq_getElem aa] at h1;obtain ⟨x,a1,a2, _,a4⟩:=he enc w m _ xs[i].1 xs[i].2 h1 (hB.part _ _ (List.mem_map.2 ⟨xs[i],List.getElem_mem _,rfl⟩) hb);exact ⟨x,a1,a2,a4⟩
 obtain ⟨l,hll,hx⟩:=zr0 n _ key;rw [hc] at hl;refine ⟨l,zqc (sz:=sz) (by rw [List.length_map,hll];exact hl) (λ i hi=> ?_),λ c hcm=> ?_,by rw [hc];exact hl,hll,λ x hxm=> ?_⟩
 ·rw [List.length_map] at hi;rw [List.getElem_map];exact (hx i hi).1
 ·obtain ⟨k,hk,rfl⟩:=List.getElem_of_mem hcm;have hp:0<sz:=Nat.pos_of_ne_zero λ h0=>by subst h0;simp at hl;subst hl;simp at hk
  have hi:k / sz<n:=Nat.div_lt_of_lt_mul (by rw [Nat.mul_comm,<- hl];exact hk);have hj:k % sz<sz:=Nat.mod_lt _ hp;have e:k / sz * sz+k % sz=k:=by rw [Nat.mul_comm];exact Nat.div_add_mod k sz
  refine (hx (k / sz) aa).2.1 _ (List.mem_iff_getElem?.2 ⟨k % sz, ?_⟩);rw [List.getElem?_take,if_pos hj,List.getElem?_drop,e];exact List.getElem?_eq_getElem hk
 ·obtain ⟨i,hi,rfl⟩:=List.getElem_of_mem hxm;exact (hx i hi).2.2
def zpO (P:Program) (B:Nat) (bk:∀ {H:Type},DataW H->Nat){α:Type} (ts:List TypeId) (en:α->List AV) (Q:α->Prop):Prop:=
 ∀ {H:Type} (enc:TypeId×Value->H) (w:World) (fuel:Nat) (cs:List Value),cs.length=(ts.map P.cellsOf).sum->
  (∀i (hi:i<ts.length),∃d ps,DataW.trod enc P w 0 (λ _=>true) true fuel ts[i] ((cs.drop ((ts.take i).map P.cellsOf).sum).take (P.cellsOf ts[i]))=some (d,ps)∧bk d<=B)->
  ∃x,za2 noP w NoM (en x) cs∧(∀c ∈ cs,zd7 c=true)∧Q x
theorem zpO.nil:zpO P B bk [] (λ _:Unit=> []) (λ _=>True):=by
 intro H enc w fuel cs hl _;have:cs= []:=List.eq_nil_of_length_eq_zero (by simpa using hl);subst this;exact ⟨(), .nil,ac,trivial⟩
theorem zpO.cons {α β:Type}{t:TypeId}{ts:List TypeId}{en:α->List AV}{Q:α->Prop}{en':β->List AV}{Q':β->Prop} (h:Opn P B bk t en Q) (h':zpO P B bk ts en' Q'):
  zpO P B bk (t::ts) (λ x:α×β=>en x.1++en' x.2) (λ x=>Q x.1∧Q' x.2):=by
 intro H enc w fuel cs hl hd;obtain ⟨d,ps,h1,h2⟩:=hd 0 ac;simp only [List.getElem_cons_zero,List.take_zero,List.map_nil,List.sum_nil,List.drop_zero] at h1;obtain ⟨x,a1,a2,a3,a4⟩:=h enc w fuel _ d ps h1 h2;obtain ⟨y,b1,b2,b3⟩:=h' enc w fuel (cs.drop (P.cellsOf t)) (by simp at hl ⊢;omega) (λ i hi=>by
  obtain ⟨d,ps,k1,k2⟩:=hd (i+1) au;simp only [List.getElem_cons_succ,List.take_succ_cons,List.map_cons,List.sum_cons] at k1;exact ⟨d,ps,by rw [List.drop_drop];exact k1,k2⟩)
 refine ⟨(x,y), ?_,λ c hc=> ?_,a4,b3⟩
 ·rw [<- List.take_append_drop (P.cellsOf t) cs];exact za2.append a1 b1
 ·rw [<- List.take_append_drop (P.cellsOf t) cs] at hc;rcases List.mem_append.1 hc with hc|hc
  ·exact a2 c hc
  ·exact b2 c hc
def zCa (P:Program) (t:TypeId) (ts:List TypeId):Bool:=match P.underlying t with
 |some (.struct fs)=>decide (fs.toList.map (·.type)=ts) && decide (fs.toList.map (·.offset)=(List.range ts.length).map λ i=>((ts.take i).map P.cellsOf).sum) && decide (P.cellsOf t=(ts.map P.cellsOf).sum)
 | _=>false
theorem Opn.struct {α:Type}{ts:List TypeId}{en:α->List AV}{Q:α->Prop} (hB:zwV B bk) (ht:zCa P t ts=true) (h:zpO P B bk ts en Q):Opn P B bk t en Q:=by
 unfold zCa at ht;split at ht
 ·rename_i fs hfs;simp only [Bool.and_eq_true,decide_eq_true_eq] at ht;obtain ⟨⟨h1,h2⟩,h3⟩:=ht;intro H enc w fuel cs d ps hd hb;obtain ⟨xs,n, _,hx,hl,hxl,hget⟩:=DataW.trod_struct hfs hd;simp only [Prod.mk.injEq] at hx;obtain ⟨rfl, _⟩:=hx;have hlen:fs.size=ts.length:=by rw [<- h1];simp
  obtain ⟨x,a1,a2,a3⟩:=h enc w n cs (by rw [hl,h3]) (λ i hi=>by
   have hi':i<fs.size:=aa;have e1:fs[i].type=ts[i]:=by
    have:=congrArg (λ l=>l[i]?) h1;simp [hi',List.getElem?_eq_getElem hi] at this;exact this
   have e2:fs[i].offset=((ts.take i).map P.cellsOf).sum:=by
    have:=congrArg (λ l=>l[i]?) h2;simp [hi',hi] at this;rw [this,List.map_take]
   have:=hget i fs[i] (Array.getElem?_eq_getElem hi');rw [e1,e2,List.getElem?_eq_getElem aa] at this;exact ⟨xs[i].1,xs[i].2,this,hB.part _ _ (List.mem_map.2 ⟨xs[i],List.getElem_mem _,rfl⟩) hb⟩)
  exact ⟨x,a1,a2,hl,a3⟩
 ·cases ht
def outer (P:Program) (t:TypeId):Bool:=match P.underlying t with
 |some (.struct _)|some (.array _ _)=>true
 | _=>false
def wrapAV (agg:Bool) (cs:List AV):AV:=if agg then .agg cs else cel cs 0
theorem zOh {α:Type}{en:α->List AV}{Q:α->Prop} (h:Opn P B bk t en Q){ag:Bool} (ho:outer P t=ag) (h1:ag=false->P.cellsOf t=1){H:Type}{enc:TypeId×Value->H}{base:Nat}{r:Reach}{d:DataW H}{ps:List MemPlace}
  (hval:Value.okWide P W r base t v) (hd:DataW.Trod enc P W 0 (λ _=>true) true t v d ps) (hb:bk d<=B):∃x,Rel noP W NoM (wrapAV ag (en x)) v∧Q x:=by
 obtain ⟨fuel,hd⟩:=hd;obtain ⟨x,a1,a2,a3,a4⟩:=h enc W fuel _ d ps hd hb;refine ⟨x, ?_,a4⟩;unfold outer at ho;unfold Value.okWide at hval;split at ho
 ·rename_i hu;subst ho;rw [hu] at hval;obtain ⟨cs,rfl, _, _⟩:=hval;exact .agg (vs:=cs.toList) a2 a1
 ·rename_i hu;subst ho;rw [hu] at hval;obtain ⟨cs,rfl, _, _⟩:=hval;exact .agg (vs:=cs.toList) a2 a1
 ·subst ho;rw [h1 rfl] at a3;have hv:v.cells.toList= [v]:=by
   unfold Value.cells at a3 a2 ⊢;split
   ·rename_i cs;exfalso;split at hval
    ·simp_all
    ·simp_all
    ·unfold Cell.okWide at hval;split at hval<;>simp_all [Cell.ok]
   ·rfl
  rw [hv] at a1;cases he:en x with
  |nil=>rw [he] at a1;cases a1
  |cons y ys=>
   rw [he] at a1;cases a1 with
   |cons a1 _=>exact a1

theorem zES {f:Func}{H:Type}{enc:TypeId×Value->H}{W':World}{ds gs:List (DataW H)}
  (hlo:laidOutB P=true) (hts:f.params.toList.all (λ t=>P.readableRec t && decide (t<P.types.size))=true) (hv:s.vars= [])
  (hW:DataW.Whole enc P f.params.toList s.vars apart W args.toList ds gs before)
  (hres:∀ (b:Nat) (sp:Nat->Bool) (hd:Bool),DataW.TrodAll enc P W' b sp hd f.resultTypes.toList (v.resultList f.resultTypes.size) (s.fn H (ds++gs)).results [])
  (hargs:(s.fn H (ds++gs)).args=ds) (hvars:(s.fn H (ds++gs)).vars= [])
  (hfr:Fr W (λ _=>False) W')
  (hok:∀ (j:Nat) (t:TypeId) (r:Value),f.resultTypes[j]? =some t->(v.resultList f.resultTypes.size)[j]? =some r->Value.okWide P W' .any 0 t r):
  s.post enc P f apart fresh handsOn again W args v W':=by
 have hlt:∀p ∈ before,p.block<W.heap.size:=λ p hp=>hW.lt p hp;have hsame:∀p:MemPlace,p.block<W.heap.size->W.sameAt W' p:=λ p hp=>(Go.RowKit.Below.same ⟨hfr.os,hfr.tape,hfr.output,hfr.size,λ k hk=>hfr.block k hk (λ h=>h)⟩ hp)
 obtain ⟨p,q,hA,hV,hpq,hz,hn⟩:=id hW;rw [hv] at hV;have hq:q= []∧gs= []:=by
  cases gs with
  |nil=>exact ⟨hV,rfl⟩
  |cons g gs=>exact hV.elim
 obtain ⟨rfl,rfl⟩:=hq;rw [List.append_nil] at hpq;subst hpq;have key:∀ (sp:Nat->Bool) (ts:List TypeId) (vs:List Value) (ds:List (DataW H)) (ps:List MemPlace),ts.all (λ t=>P.readableRec t && decide (t<P.types.size))=true->(∀x ∈ ps,x.block<W.heap.size)->(∀x ∈ ps,sp x.block=true)->
   DataW.TrodAll enc P W 0 (λ _=>true) true ts vs ds ps->DataW.TrodAll enc P W' 0 sp true ts vs ds ps:=by
  intro sp ts;induction ts with
  |nil=>
   intro vs ds ps _ _ _ h;cases vs<;>cases ds<;>simp [DataW.TrodAll] at h ⊢;exact h
  |cons t ts ih=>
   intro vs ds ps ht hlt hsp h;obtain ⟨v,vs',d,ds',a,b,rfl,rfl,rfl,h1,h2⟩:=ChangeShapes.trodAll_cons h;simp only [List.all_cons,Bool.and_eq_true,decide_eq_true_eq] at ht;obtain ⟨⟨hr,hs⟩,hts⟩:=ht;exact ⟨a,b,WideElems.Trod_stays hlo hr hs h1 (λ x hx=>hsame x (hlt x (List.mem_append_left _ hx))) (λ x hx=>hsp x (List.mem_append_left _ hx)),
    ih _ _ _ (by simpa using hts) (λ x hx=>hlt x (List.mem_append_right _ hx)) (λ x hx=>hsp x (List.mem_append_right _ hx)) h2,rfl⟩
 have key':∀sp:Nat->Bool,(∀x ∈ before,sp x.block=true)->DataW.TrodAll enc P W' 0 sp true f.params.toList args.toList (s.fn H (ds++ [])).args before:=λ sp hsp=>by
  rw [hargs];exact key sp _ _ _ _ hts hlt hsp hA
 have kv:∀sp:Nat->Bool,DataW.TrodVars enc P W' sp s.vars (s.fn H (ds++ [])).vars []:=λ sp=>by rw [hv,hvars];rfl
 refine ⟨ds, [],before, [],before, [],hW,hres _ _ _,key' _ (λ x hx=>by simpa using hlt x hx),kv _, ?_,λ _=>⟨hok, _, _,([]++before)++ [],⟨[]++before, [],ChangeShapes.trodAll_append (key' _ λ _ _=>rfl) (hres _ _ _),kv _,rfl, ?_, ?_⟩, ?_⟩⟩
 ·refine ⟨hfr.os,hfr.output,λ i hi=> ?_⟩;rw [hfr.block i hi (λ h=>h)];cases h:W.heap[i]? with
  |none=>simp
  |some o=>cases o<;>simp
 ·intro b off hp;have hp':MemPlace.cell b off ∈ before:=by simpa using hp
  have hb:=hlt _ hp';have:=hz b off hp';unfold World.frozen? at this ⊢;simp only [MemPlace.block] at hb;rw [show W'.heap[b]? =W.heap[b]? from hfr.block b hb (λ h=>h)];exact this
 ·intro ha;simpa using hn ha
 ·intro x hx _;simpa using hx
theorem zdW {f:FuncId}{fn:Func}{tb:TypeId}{H:Type}{enc:TypeId×Value->H}{ds gs:List (DataW H)}
  (hlo:laidOutB P=true) (hts:fn.params.toList.all (λ t=>P.readableRec t && decide (t<P.types.size))=true) (hv:s.vars= []) (hrt:fn.resultTypes= #[tb]) (hb:P.underlying tb=some .bool)
  (hW:DataW.Whole enc P fn.params.toList s.vars apart W args.toList ds gs before)
  (hfn:gs= []->s.fn H (ds++gs)={ results:= [.lit (.bool true)],args:=ds}) {avs:List AV} (hp:zav P f avs (.v (.bool true))) (hr:za2 noP W NoM avs args.toList) (hg:zoY W NoM:=by intro p hp;simp [glbs] at hp):
  Calls P f args W λ e W'=>∃v,e= .returned v∧s.post enc P fn apart fresh handsOn again W args v W':=by
 have hgs:gs= []:=by
  obtain ⟨p,q,hA,hV, _⟩:=hW;rw [hv] at hV;cases gs with
  |nil=>rfl
  |cons g gs=>exact hV.elim
 have:=hp.2 NoM W args.toList (λ k hk=>hk.elim) hg hr;rw [show (⟨args.toList⟩:Array Value)=args from rfl] at this;refine this.mono ?_;rintro e W' ⟨v,rfl,hv',hfr⟩;cases hv';refine ⟨_,rfl,zES hlo hts hv hW (λ b sp hd=> ?_) (by rw [hfn hgs]) (by rw [hfn hgs]) hfr ?_⟩
 ·rw [hfn hgs,hrt];exact trodAll_cons_mk (RowKit.shut_bool hb _) ChangeShapes.trodAll_mk0
 ·exact RowKit.ok_one hrt rfl (RowKit.okWide_bool_mk hb true)
end
end Go.Av
end
section
open Go Go.Proofs
namespace Go.Av
open Go.Proofs.YtgdfnfffibhkjaaGreatDoor
theorem zLj {H:Type} (d:DataW H):1<=Rows.uptoBulk d:=by
 cases d with
 |lit l=>cases l<;>simp [Rows.uptoBulk]
 | _=>simp [Rows.uptoBulk]
theorem ztj {H:Type}{d:DataW H}{l:List (DataW H)} (h:d ∈ l):Rows.uptoBulk d<=Rows.uptoBulkAll l:=by
 induction l with
 |nil=>cases h
 |cons x r ih=>
  simp only [Rows.uptoBulkAll];rcases List.mem_cons.1 h with e|e
  ·subst e;omega
  ·have:=ih e;omega
theorem zBx {H:Type} (l:List (DataW H)):l.length<=Rows.uptoBulkAll l:=by
 induction l with
 |nil=>simp [Rows.uptoBulkAll]
 |cons x r ih=>have:=zLj x;simp only [Rows.uptoBulkAll,List.length_cons];omega
theorem zwV.upto {B:Nat}:zwV B (λ d=>Rows.uptoBulk d) where
 len:=λ l r h _=>by
  have:=zBx l;simp only [Rows.uptoBulk] at h;omega
 elem:=λ l r d hd h=>by
  have:=ztj hd;simp only [Rows.uptoBulk] at h;omega
 part:=λ l d hd h=>by
  have:=ztj hd;simp only [Rows.uptoBulk] at h;omega
 str:=λ l h _=>by
  simp only [Rows.uptoBulk] at h;omega
theorem zd5 {H:Type}{l:List (DataW H)} (hk:Rows.uptoSmall H l=true){d:DataW H} (hd:d ∈ l):Rows.uptoBulk d<=1048576:=by
 have:=ztj hd;have h:=of_decide_eq_true hk;omega
end Go.Av
end
section
open Go Go.Proofs Go.Av
namespace Go.Av
open Go.Proofs.YtgdfnfffibhkjaaGreatDoor
abbrev UpB:{H:Type}->DataW H->Nat:=λ d=>Rows.uptoBulk d
abbrev G3T:=Int×Int×Int×List (List Int)×List (List Int)×List Int×Unit
def zLF (x:G3T):List AV:= [.v (.int .u8 x.1)]++([.v (.int .u8 x.2.1)]++([.v (.int .u8 x.2.2.1)]++((x.2.2.2.1.map λ l=> [AV.lst 1 (l.map λ n=> [.v (.int .u8 n)])]).flatten++
 ([AV.lst 3 (x.2.2.2.2.1.map λ l=>(l.map λ n=> [AV.v (.int .u8 n)]).flatten)]++((x.2.2.2.2.2.1.map λ n=> [AV.v (.int .u8 n)]).flatten++ [])))))
abbrev P4T:=List Int×List Int×List Int×Int×Int×Unit
def zG2 (x:P4T):List AV:=(x.1.map λ n=> [AV.v (.int .u8 n)]).flatten++((x.2.1.map λ n=> [AV.v (.int .u8 n)]).flatten++((x.2.2.1.map λ n=> [AV.v (.int .u8 n)]).flatten++([.v (.int .u8 x.2.2.2.1)]++([.v (.int .u8 x.2.2.2.2.1)]++ []))))
abbrev U8W (n:Int):Prop:=(Lit.int .u8 n).wf=true
theorem zm0:Opn Tryz.prog 1048576 UpB 5 (λ n:Int=> [.v (.int .u8 n)]) U8W:=Opn.int Tryz.underlying5 ah
theorem zH1:Opn Tryz.prog 1048576 UpB 22 (λ l:List Int=> [.lst 1 (l.map λ n=> [.v (.int .u8 n)])]) (λ l=>l.length<=1048576∧∀x ∈ l,U8W x):=
 Opn.slice (sz:=1) zwV.upto Tryz.underlying22 ah ah Nat.one_pos zm0
theorem opn_g3:Opn Tryz.prog 1048576 UpB 27 zgU (λ x=>zDe x∧x.k0.length<=1048576∧x.k1.length<=1048576∧x.c.length<=1048576):=by
 have hK:Opn Tryz.prog 1048576 UpB 23 (λ l:List (List Int)=>(l.map λ l=> [AV.lst 1 (l.map λ n=> [.v (.int .u8 n)])]).flatten) (λ l=>l.length=2∧∀x ∈ l,x.length<=1048576∧∀y ∈ x,U8W y):=
  Opn.array (sz:=1) (n:=2) zwV.upto Tryz.underlying23 ah ah zH1
 have h3:Opn Tryz.prog 1048576 UpB 152 (λ l:List Int=>(l.map λ n=> [AV.v (.int .u8 n)]).flatten) (λ l=>l.length=3∧∀x ∈ l,U8W x):=
  Opn.array (sz:=1) (n:=3) zwV.upto Tryz.underlying152 ah ah zm0
 have hC:Opn Tryz.prog 1048576 UpB 24 (λ l:List (List Int)=> [.lst 3 (l.map λ l=>(l.map λ n=> [AV.v (.int .u8 n)]).flatten)]) (λ l=>l.length<=1048576∧∀x ∈ l,x.length=3∧∀y ∈ x,U8W y):=
  Opn.slice (sz:=3) zwV.upto Tryz.underlying24 ah ah ai h3
 have hFF:Opn Tryz.prog 1048576 UpB 25 (λ l:List Int=>(l.map λ n=> [AV.v (.int .u8 n)]).flatten) (λ l=>l.length=6∧∀x ∈ l,U8W x):=
  Opn.array (sz:=1) (n:=6) zwV.upto Tryz.underlying25 ah ah zm0
 have hF:zpO Tryz.prog 1048576 UpB [5,5,5,23,24,25] zLF (λ x=>U8W x.1∧U8W x.2.1∧U8W x.2.2.1∧(x.2.2.2.1.length=2∧∀z ∈ x.2.2.2.1,z.length<=1048576∧∀y ∈ z,U8W y)∧
   (x.2.2.2.2.1.length<=1048576∧∀z ∈ x.2.2.2.2.1,z.length=3∧∀y ∈ z,U8W y)∧(x.2.2.2.2.2.1.length=6∧∀y ∈ x.2.2.2.2.2.1,U8W y)∧True):=
  zpO.cons zm0 (zpO.cons zm0 (zpO.cons zm0 (zpO.cons hK (zpO.cons hC (zpO.cons hFF zpO.nil)))))
 have hT:Opn Tryz.prog 1048576 UpB 27 zLF (λ x=>U8W x.1∧U8W x.2.1∧U8W x.2.2.1∧(x.2.2.2.1.length=2∧∀z ∈ x.2.2.2.1,z.length<=1048576∧∀y ∈ z,U8W y)∧
   (x.2.2.2.2.1.length<=1048576∧∀z ∈ x.2.2.2.2.1,z.length=3∧∀y ∈ z,U8W y)∧(x.2.2.2.2.2.1.length=6∧∀y ∈ x.2.2.2.2.2.1,U8W y)∧True):=Opn.struct zwV.upto ah hF
 intro H enc w fuel cs d ps k1 k2;obtain ⟨x,r1,r2,r3,hx⟩:=hT enc w fuel cs d ps k1 k2;obtain ⟨W,Hh,cut,K,C,F,⟨⟩⟩:=x;obtain ⟨h1,h2,h3',⟨h4,h4'⟩,⟨h5,h5'⟩,⟨h6,h6'⟩, _⟩:=hx;simp only at h1 h2 h3' h4 h4' h5 h5' h6 h6';match K,h4 with
 | [ka,kb], _=>
  match F,h6 with
  | [f0,f1,f2,f3,f4,f5], _=>
   have hCl:∀ (C:List (List Int)),(∀z ∈ C,z.length=3)->(C.map λ l=>(nth l 0,nth l 1,nth l 2)).map zGZ=C.map λ l=>(l.map λ n=> [AV.v (.int .u8 n)]).flatten:=by
    intro C hC;rw [List.map_map];refine List.map_congr_left λ l hl=> ?_;have:=hC l hl;match l,this with
    | [a,b,c], _=>rfl
   refine ⟨⟨W,Hh,cut,ka,kb,C.map λ l=>(nth l 0,nth l 1,nth l 2),f0,f1,f2,f3,f4,f5⟩, ?_,r2,r3,⟨bounds_u8 h1,bounds_u8 h2,bounds_u8 h3',λ n hn=>bounds_u8 ((h4' ka ac).2 n hn),λ n hn=>bounds_u8 ((h4' kb ac).2 n hn), ?_,
    bounds_u8 (h6' f0 ac),bounds_u8 (h6' f1 ac),bounds_u8 (h6' f2 ac),bounds_u8 (h6' f3 ac),bounds_u8 (h6' f4 ac),bounds_u8 (h6' f5 ac)⟩,(h4' ka ac).1,(h4' kb ac).1,by simpa using h5⟩
   ·unfold zgU;simp only;rw [hCl C (λ z hz=>(h5' z hz).1)];exact r1
   ·intro t ht;obtain ⟨z,hz,rfl⟩:=List.mem_map.1 ht;obtain ⟨q1,q2⟩:=h5' z hz;match z,q1 with
    | [a,b,c], _=>exact ⟨bounds_u8 (q2 a ac),bounds_u8 (q2 b ac),bounds_u8 (q2 c ac)⟩
theorem opn_p4:Opn Tryz.prog 1048576 UpB 30 zfc zrj:=by
 have hFF:Opn Tryz.prog 1048576 UpB 25 (λ l:List Int=>(l.map λ n=> [AV.v (.int .u8 n)]).flatten) (λ l=>l.length=6∧∀x ∈ l,U8W x):=
  Opn.array (sz:=1) (n:=6) zwV.upto Tryz.underlying25 ah ah zm0
 have h4:Opn Tryz.prog 1048576 UpB 28 (λ l:List Int=>(l.map λ n=> [AV.v (.int .u8 n)]).flatten) (λ l=>l.length=4∧∀x ∈ l,U8W x):=
  Opn.array (sz:=1) (n:=4) zwV.upto Tryz.underlying28 ah ah zm0
 have hF:zpO Tryz.prog 1048576 UpB [25,25,28,5,5] zG2 (λ x=>(x.1.length=6∧∀y ∈ x.1,U8W y)∧(x.2.1.length=6∧∀y ∈ x.2.1,U8W y)∧(x.2.2.1.length=4∧∀y ∈ x.2.2.1,U8W y)∧U8W x.2.2.2.1∧U8W x.2.2.2.2.1∧True):=
  zpO.cons hFF (zpO.cons hFF (zpO.cons h4 (zpO.cons zm0 (zpO.cons zm0 zpO.nil))))
 have hT:Opn Tryz.prog 1048576 UpB 30 zG2 (λ x=>(x.1.length=6∧∀y ∈ x.1,U8W y)∧(x.2.1.length=6∧∀y ∈ x.2.1,U8W y)∧(x.2.2.1.length=4∧∀y ∈ x.2.2.1,U8W y)∧U8W x.2.2.2.1∧U8W x.2.2.2.2.1∧True):=Opn.struct zwV.upto ah hF;intro H enc w fuel cs d ps k1 k2;obtain ⟨x,r1,r2,r3,hx⟩:=hT enc w fuel cs d ps k1 k2;obtain ⟨c,k,h,r,s,⟨⟩⟩:=x;obtain ⟨⟨a1,a2⟩,⟨b1,b2⟩,⟨c1,c2⟩,d1,e1, _⟩:=hx;simp only at a1 a2 b1 b2 c1 c2 d1 e1;have hfl:∀l:List Int,(l.map λ n=> [AV.v (.int .u8 n)]).flatten=l.map λ n=>AV.v (.int .u8 n):=λ l=>by
  induction l with
  |nil=>rfl
  |cons x l ih=>simp only [List.map_cons,List.flatten_cons,ih];rfl
 refine ⟨⟨c,k,h,r,s⟩, ?_,r2,r3,⟨a1,b1,c1,λ n hn=>bounds_u8 (a2 n hn),λ n hn=>bounds_u8 (b2 n hn),λ n hn=>bounds_u8 (c2 n hn),bounds_u8 d1,bounds_u8 e1⟩⟩;unfold zG2 at r1;rw [hfl,hfl,hfl] at r1;exact r1
end Go.Av
end
section
open Go Go.Proofs Go.Av
namespace Go.Av
open Go.Proofs.YtgdfnfffibhkjaaGreatDoor
theorem zoB:Opn Tryz.prog 1048576 UpB 32 zcd zjH:=by
 have hF:zpO Tryz.prog 1048576 UpB [27,30,22] (λ x:zqi×ztu×List Int×Unit=>zgU x.1++(zfc x.2.1++([.lst 1 (x.2.2.1.map λ n=> [.v (.int .u8 n)])]++ [])))
   (λ x=>(zDe x.1∧x.1.k0.length<=1048576∧x.1.k1.length<=1048576∧x.1.c.length<=1048576)∧zrj x.2.1∧(x.2.2.1.length<=1048576∧∀y ∈ x.2.2.1,U8W y)∧True):=zpO.cons opn_g3 (zpO.cons opn_p4 (zpO.cons zH1 zpO.nil))
 have hT:Opn Tryz.prog 1048576 UpB 32 (λ x:zqi×ztu×List Int×Unit=>zgU x.1++(zfc x.2.1++([.lst 1 (x.2.2.1.map λ n=> [.v (.int .u8 n)])]++ [])))
   (λ x=>(zDe x.1∧x.1.k0.length<=1048576∧x.1.k1.length<=1048576∧x.1.c.length<=1048576)∧zrj x.2.1∧(x.2.2.1.length<=1048576∧∀y ∈ x.2.2.1,U8W y)∧True):=Opn.struct zwV.upto ah hF
 intro H enc w fuel cs d ps k1 k2;obtain ⟨x,r1,r2,r3,hx⟩:=hT enc w fuel cs d ps k1 k2;obtain ⟨g,p,k,⟨⟩⟩:=x;obtain ⟨⟨a1,a2,a3,a4⟩,b1,⟨c1,c2⟩, _⟩:=hx;simp only at a1 a2 a3 a4 b1 c1 c2;exact ⟨⟨g,p,k⟩,r1,r2,r3,⟨a1,b1,λ n hn=>bounds_u8 (c2 n hn),aA,aA,aA,aA⟩⟩
end Go.Av
end
