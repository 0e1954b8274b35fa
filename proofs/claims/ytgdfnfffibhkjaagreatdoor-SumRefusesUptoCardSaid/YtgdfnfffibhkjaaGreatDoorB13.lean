/- Texts of ours, part 13: our library and contracts of functions. -/
import Derived.Test.YtgdfnfffibhkjaaGreatDoorB12
import GoSem.ClaimJoined
import Derived.Test.YtgdfnfffibhkjaaGreatDoorCards
import Derived.Test.YtgdfnfffibhkjaaGreatDoorTie
import Derived.Deep.DeepHandedRow
import Derived.LaidHandle
import Derived.LaidMore
import Derived.OpenShut
import Derived.Test.YtgdfnfffibhkjaaGreatDoorRows
set_option linter.unusedSimpArgs false
set_option linter.unusedVariables false
set_option maxRecDepth 100000
set_option maxHeartbeats 40000000
set_option linter.unusedSectionVars false
section
open Go Go.Proofs
namespace Go.Av
def qC (g:ae) (w:Int) (d:Nat):List (List Int):=(g.next.take d).map λ l=>rO (i8 g) w l (2 * i8 g)
theorem Lp {g:ae}{w:Int}{d:Nat} (h:d<g.next.length):qC g w (d+1)=qC g w d++ [rO (i8 g) w (ac g.next d) (2 * i8 g)]:=by
  grind [qC,tT]
theorem Nw {g:ae}{w:Int}{d:Nat} (h:d<=g.next.length):(qC g w d).length=d:=by grind [qC]
theorem IF (g:ae) (hg:bN g) (w:Int) (hw:U8 w):aq Tryz.prog 46 [.agg (ai g), .v (.int .u8 w)] (.agg (ai (rN g w))):=by
  refine pF Tryz.func46 ?_;have hP:=zN g hg;obtain ⟨n1,n4,nc⟩:=G4 hg;obtain ⟨tl,tv,nl,nv,c0,c1,nn1⟩:=hg.board;have d8:g.next.length<=8:=hg.d8;have tl':g.turn.length=g.next.length:=tl;have nl':∀l ∈ g.next,(l.length:Int)=g.cells:=nl;have nv':∀l ∈ g.next,∀x ∈ l, -1<=x∧x<g.cells:=nv;have c9:=hg.c9;have hN:(if (4:Int)<g.cells then 4 else g.cells)=(i8 g:Int):=by grind [i8]
  have eg:ai (rN g w)= [.int (2 * (i8 g:Int)),fu (qC g w g.next.length),aS g.turn, .lst 3 ((g.kinds.map rV).map cH), .int 0, .v (.bool false), .lst 4 [], .int 3, .int 2]:=by
    unfold qC;rw [List.take_length];rfl
  have ep:ai (i9 g)= [.int g.cells,fu g.next,aS g.turn, .lst 3 ((g.kinds.map rV).map cH), .int 0, .v (.bool false), .lst 4 [], .int 3, .int 2]:=rfl;have eg0:ai g= [.int g.cells,fu g.next,aS g.turn, .lst 3 (g.kinds.map cH), .int g.rights, .v (.bool g.must), .lst 4 (g.clauses.map cd), .int g.blocked, .int g.endless]:=rfl;rw [ep,eg0] at hP;rw [eg];have hns:=λ d (h:d<g.next.length)=>Lp (w:=w) h;have lns:=λ d (h:d<=g.next.length)=>Nw (w:=w) h;have hTs:∀ (l:List Int) c,Fo (i8 g) w l c=if (i8 g:Int)<=ac l (c % i8 g)∨(zfC w c=true∧i8 g<=c) then -1 else if 0<=ac l (c % i8 g)∧i8 g<=c then ac l (c % i8 g)+i8 g else ac l (c % i8 g):=λ _ _=>rfl
  generalize hNn:i8 g=N at *;refine J1 hN ?_;refine aP hP ?_;refine J0 ?_;refine zg3 (zg5 (α:=Nat) (λ d=>⟨[(1, .v (.int .u8 w)),(2, .ref 0 0 9 0 0),(4, .ref 1 0 9 0 0),(5, .int N),(6, .ref 2 0 9 0 0),(7, .ref 4 0 3 0 0),(8, .int d)],
      [(0, .rows true 0 9 [ai g]),(1, .rows true 0 9 [[.int 0, .v (.slice none 0 0), .v (.slice none 0 0), .v (.slice none 0 0), .int 0, .v (.bool false), .v (.slice none 0 0), .int 0, .int 0]]),
       (2, .rows true 0 9 [[.int g.cells,fu g.next,aS g.turn, .lst 3 ((g.kinds.map rV).map cH), .int 0, .v (.bool false), .lst 4 [], .int 3, .int 2]]),(3, .rows true 1 1 (g.turn.map dR)),(4, .rows true 0 3 [[.int (2 * (N:Int)), .sl 5 d 1 0 d, .sl 3 1 1 0 g.turn.length]]),(5, .rows true d 1 ((qC g w d).map λ l=> [aS l]))],6⟩)
    (λ r d=>d+r=g.next.length) ?_ g.next.length 0 ?_) ?_ ?_
  · rintro r d i1 hrec;have lgn:=lns d ge;refine J0 ?_;refine zg4 (λ hd=> ?_) (λ hd=> ?_)<;>simp at hd
    · have hlen:=nl' _ (am hd);have hval:=nv' _ (am hd);have hnsd:=hns d hd;refine J0 ?_;refine zg3 (zg5 (α:=Nat) (λ x=>⟨[(1, .v (.int .u8 w)),(2, .ref 0 0 9 0 0),(4, .ref 1 0 9 0 0),(5, .int N),(6, .ref 2 0 9 0 0),(7, .ref 4 0 3 0 0),(8, .int d),(9, .sl 6 x 1 0 x),(10, .int x)],
          [(0, .rows true 0 9 [ai g]),(1, .rows true 0 9 [[.int 0, .v (.slice none 0 0), .v (.slice none 0 0), .v (.slice none 0 0), .int 0, .v (.bool false), .v (.slice none 0 0), .int 0, .int 0]]),
           (2, .rows true 0 9 [[.int g.cells,fu g.next,aS g.turn, .lst 3 ((g.kinds.map rV).map cH), .int 0, .v (.bool false), .lst 4 [], .int 3, .int 2]]),(3, .rows true 1 1 (g.turn.map dR)),(4, .rows true 0 3 [[.int (2 * (N:Int)), .sl 5 d 1 0 d, .sl 3 1 1 0 g.turn.length]]),(5, .rows true d 1 ((qC g w d).map λ l=> [aS l])),
           (6, .rows true x 1 ((rO N w (ac g.next d) x).map dR))],7⟩)
        (λ s x=>x+s=2 * N) ?_ (2 * N) 0 ?_) ?_ ?_
      · rintro s x j1 hrec2;have lgr:(rO N w (ac g.next d) x).length=x:=Gd _ _ _ _;have lsr:=Nv N w (ac g.next d) x;have hTx:=hTs (ac g.next d) x;refine J0 ?_;refine zg4 (λ hx=> ?_) (λ hx=> ?_)<;>simp at hx
        · have hm:(x:Int).tmod (N:Int)=((x % N:Nat):Int):=by simp_all [Int.tmod_eq_emod_of_nonneg]
          have hmN:x % N<N:=Nat.mod_lt _ ge;have m0:=Int.tmod_nonneg (8:Int) (show (0:Int)<=x by omega);have m1:=Int.tmod_lt_of_pos (x:Int) (show (0:Int)<8 by omega);have hq:x % N<(ac g.next d).length:=ge;have hv:=hval _ (am hq);have hbw:zfC w x=decide (sT .u8 (w.fdiv (2 ^ ((x:Int).tmod 8).toNat)) 1=1):=rfl;generalize hb8:(x:Int).tmod 8=b8 at *;generalize hxm:x % N=xm at *;generalize hto:ac (ac g.next d) xm=to at *;refine J5 hm hd hq hb8 hto ?_;refine zg4 (λ hc=> ?_) (λ hc=> ?_)<;>rw [<- hbw] at hc<;>simp at hc
          · rw [if_pos hc] at hTx;refine J0 ?_;refine zg3 (hrec2 (s - 1) ge (x+1) ge) ?_ gt;simp [go_sem,aj,lsr,hTx]
          · rw [if_neg (by rw [not_or,not_and];exact ⟨ge,λ h=>by have:=hc.2 h;omega⟩)] at hTx;refine J0 ?_;refine zg4 (λ he=> ?_) (λ he=> ?_)<;>simp at he
            · rw [if_pos he] at hTx;refine J0 ?_;refine zg3 (hrec2 (s - 1) ge (x+1) ge) ?_ gt;simp [go_sem,aj,lsr,hTx]
            · rw [if_neg ge] at hTx;refine J0 ?_;refine zg3 (hrec2 (s - 1) ge (x+1) ge) ?_ gt;simp [go_sem,aj,lsr,hTx]
        · have hcD:x=2 * N:=by omega
          subst hcD;refine J0 ?_;refine zg3 (hrec (r - 1) ge (d+1) ge) ?_ gt;simp [go_sem,aj,hnsd];refine bJ (.refl _) ?_;refine bg.cons (aY.cons ?_ aY.nil) bg.nil;refine eY.frz rfl ?_ ?_ (zhd ?_)<;>simp [fh,aC,lgr,List.take_of_length_le]
      · simp
      · simp [go_sem,aj,rO]
      · simp
    · have hd8:d=g.next.length:=by omega
      subst hd8;refine J0 ?_;refine ⟨?_, ?_⟩<;>(refine eY.frz rfl ?_ ?_ (zhd ?_)<;>simp [dO,lgn,List.take_of_length_le])
  · simp
  · simp [go_sem,aj,qC]
  · simp
def ko (l:List Int):List AV:=l.map λ x=> .int x
theorem GF (l:List Int):(ko l).length=l.length:=by simp [ko]
variable {c i n:Nat} {l names of:List Int}
theorem UZ  (h:c<l.length):mZ ((ko l).drop c) 0= .int (ac l c):=by
 grind [mZ,ko,ac]
theorem xO :(∀c ∈ ko l,aN n c)=True:=by
 refine eq_true ?_;intro c hc;obtain ⟨x, _,rfl⟩:=List.mem_map.1 hc;exact .v _
attribute [go_sem ↓] xO
theorem DI (l:List Int) (hl:cO l) (c:Int) (h0:0<=c) (h1:c<64):aq Tryz.prog 197 [.fp (ko l), .int c] (.int (bA l c)):=by
 refine pF Tryz.func197 ?_;have hlen:(ko l).length=64:=by rw [GF,hl.len]
 have hcel:∀c,c<64->mZ ((ko l).drop c) 0= .int (ac l c):=λ c hc=>UZ (by grind [ko]);have hbl:∀n,(∀c ∈ ko l,aN n c):=λ n=>of_eq_true xO;generalize hel:ko l=el at *;refine J1 hlen ?_;refine zg3 (zg5 (α:=Int) (λ x=>⟨[(0, .fp el),(1, .int x)], [],0⟩)
  (λ d x=>0<=x∧x<64∧d=x.toNat∧bA l x=bA l c) ?_ c.toNat c ?_) ?_ ?_
 ·rintro d x ⟨i0,i1,i2,i3⟩ hrec;have hx:=hl.le x.toNat ge;have hs:=tN hl i0 i1;have hcx:=hcel x.toNat ge;refine J2 hlen hcx ?_;refine zg4 (λ he=> ?_) (λ he=> ?_)<;>simp at he
  ·have hne:¬ac l x.toNat=x:=he;rw [if_neg hne] at hs;refine J2 hlen hcx ?_;refine zg3 (hrec (ac l x.toNat).toNat ge (ac l x.toNat) ⟨ge,ge,rfl,pi⟩) ?_ gt;simp [go_sem,aj];grind
  ·rw [if_pos he] at hs;rw [hs] at i3;subst i3;exact K0
 ·omega
 ·simp [go_sem,aj];grind
 ·simp
theorem Vy (l:List Int) (hl:cO l) (first:Int) (h0:0<=first∧first<64) (others:List Int) (ho:∀c ∈ others,0<=c∧c<64) (hlo:others.length<=1048576):
  dD Tryz.prog 195 [.ref 0 0 64 0 0, .int first,aS others] [(0, .rows true 0 64 [ko l])] 1 (.tup []) [(0, .rows true 0 64 [ko (cF l first others)])] 1:=by
 unfold dD;refine aF Tryz.func195 ?_;refine J0 ?_;refine zg3 (zg5 (α:=Nat) (λ i=>⟨[(0, .ref 0 0 64 0 0),(1, .int first),(10,aS others),(11, .int others.length),(12, .int i)], [(0, .rows true 0 64 [ko (cF l first (others.take i))])],1⟩)
  (λ d i=>i+d=others.length) ?_ others.length 0 ?_) ?_ ?_
 ·rintro d i i1 hrec;have htk:∀c ∈ others.take i,0<=c∧c<64:=λ c hc=>ho c (List.mem_of_mem_take hc);have hok:=(rq hl h0 (others.take i) htk).1;have hel:(ko (cF l first (others.take i))).length=64:=by rw [GF,hok.len]
  refine J0 ?_;refine zg4 (λ hi=> ?_) (λ hi=> ?_)<;>simp at hi
  ·have hx:=ho _ (am hi);have hs:cF l first (others.take (i+1))=w8 (cF l first (others.take i)) (bA (cF l first (others.take i)) first) (bA (cF l first (others.take i)) (ac others i)):=by
    grind [List.take_add_one,cF,ac]
   generalize cF l first (others.take i)=l1 at hok hel hs ⊢
   have hr1:=DI l1 hok first h0.1 h0.2
   have hr2:=DI l1 hok (ac others i) hx.1 hx.2;have ra:=tM hok h0.1 h0.2;have rb:=tM hok hx.1 hx.2;generalize bA l1 first=a at hs hr1 ra
   generalize bA l1 (ac others i)=b at hs hr2 rb;refine J1 hi ?_;refine zhi (args':= [.fp (ko l1), .int first]) hr1 (.v _) ?_ no ?_
   ·refine aY.cons (.frzP rfl ?_ ?_ ?_ ?_) (.refl _ _ _ _)<;>first|exact aY.refl _ _ _ _|simp [hel,dO]
   refine J0 ?_;refine zhi (args':= [.fp (ko l1), .int (ac others i)]) hr2 (.v _) ?_ no ?_
   ·refine aY.cons (.frzP rfl ?_ ?_ ?_ ?_) (.refl _ _ _ _)<;>first|exact aY.refl _ _ _ _|simp [hel,dO]
   refine J1 hel ?_;refine zg3 (hrec (d - 1) ge (i+1) ge) ?_ gt;have hst:ko (w8 l1 a b)=(ko l1).set (max a b).toNat (.int (min a b)):=by simp_all [ko,w8]
   simp [go_sem,aj,hs,minE,maxE,hst];rw [<- hst];exact of_eq_true xO
  ·have hil:i=others.length:=by omega
   subst hil;rw [List.take_length] at *;refine J0 ?_;simp [go_sem,aj]
 ·simp
 ·simp [go_sem,aj,cF]
 ·simp
theorem Kg (l:List Int) (hl:cO l) (first:Int) (h0:0<=first∧first<64) (others:List Int) (ho:∀c ∈ others,0<=c∧c<64) (hlo:others.length<=1048576){h h':au}{o:Nat}{A:AV} (hfz:zH h h')
  (ho':h' o=some (.rows true 0 64 [ko l])) (hon:o<n) (hA:eY h h' n A (aS others)) {K:cI} (hK:K (.tup []) (aC h' o (some (.rows true 0 64 [ko (cF l first others)]))) n):
  ap Tryz.prog 195 [.ref o 0 64 0 0, .int first,A] h n K:=by
 have hbo:∀m,aN m (aS others):=λ m=>no;have hbl:∀ (l:List Int) m,∀r ∈ [ko l],∀c ∈ r,aN m c:=λ l m r hr c hc=>by
  rw [List.mem_singleton] at hr;subst hr;exact of_eq_true xO c hc
 refine zhf (args':= [.ref o 0 64 0 0, .int first,aS others]) (HH:= [(o, .rows true 0 64 [ko (cF l first others)])])
  [o] h' (Vy l hl first h0 others ho hlo) gt pi rfl (Nat.le_refl _) hfz ?_ ?_ (.cons (.refl _) (.cons (.refl _) (.cons hA .nil))) ?_ ?_ ?_ (.same (.tup λ _ h=>by cases h)) ?_ ?_
 ·intro j hj;obtain rfl:j=0:=ge;exact ⟨_, _,rfl,ho', .rows (.same (hbl _ _))⟩
 ·grind [se]
 ·intro y hy;simp only [List.mem_cons,List.not_mem_nil,or_false] at hy;rcases hy with rfl|rfl|rfl
  ·exact .ref hon
  ·exact .v _
  grind
 ·exact .cons (.ref rfl) (.cons (.same (.v _)) (.cons (.same (hbo _)) .nil))
 ·intro y hy;simp only [List.mem_cons,List.not_mem_nil,or_false] at hy;rcases hy with rfl|rfl|rfl
  ·exact .ref Wm
  ·exact .v _
  grind
 ·exact .cons rfl (.rows (.same (hbl _ _))) .nil
 ·have e:dL [(o, .rows true 0 64 [ko (cF l first others)])] (iZ [o] h')=aC h' o (some (.rows true 0 64 [ko (cF l first others)])):=by
   funext j;simp_all [dL,iZ,aC]
  grind
theorem iz {g:ae} (hg:bN g) (s:Int):kx g.cells.toNat (nJ g s):=by
 refine ⟨by simp [nJ];exact hg.k6,λ k hk=> ?_⟩;obtain ⟨kd,hkd,rfl⟩:=List.mem_map.1 hk;refine ⟨by simp [lD,ae.board],λ x hx=> ?_⟩;obtain ⟨c,hc,rfl⟩:=List.mem_map.1 hx;have hcc:(0:Int)<=(c:Int)∧(c:Int)<g.cells:=by grind [ae.board]
 refine ⟨by grind [Ki],λ p hp=> ?_⟩;have ho:=zcc hg (side:=s) hkd hcc p hp;have e:((g.cells.toNat:Nat):Int)=g.cells:=ge;refine ⟨by rw [e];exact ho.to,Ry hg s hkd _ p hp,λ a ha=>by rw [e];exact U1 (ho.acts a ha)⟩
def Cc (i:Nat):List Int:=Tw.take i++List.replicate (64 - i) 0
theorem Vw  (h:i<=64):(Cc i).length=64:=by grind [Cc,Tw]
theorem Ro:∀i,i<64->Cc (i+1)=(Cc i).set i (i:Int):=XK
theorem Vv:Cc 64=Tw:=rfl
def qL (l:List Int) (n c:Nat):List Int:=fx l c++List.replicate (n - c) 0
theorem mq (l:List Int) (n:Nat):(fx l n).length=n:=by simp [fx]
theorem PW (l:List Int) (h:c<=n):(qL l n c).length=n:=by grind [qL,mq]
theorem PV (l:List Int) (n:Nat):qL l n n=fx l n:=by simp [qL]
theorem Mw (l:List Int) (h:c<n):qL l n (c+1)=(qL l n c).set c (bA l c):=by
 unfold qL;have e:fx l (c+1)=fx l c++ [bA l c]:=by simp [fx,List.range_succ]
 have e2:List.replicate (n - c) (0:Int)=0::List.replicate (n - (c+1)) 0:=by rw [show n - c=(n - (c+1))+1 by omega,List.replicate_succ]
 grind [fx]
theorem zcM (g:ae) (hg:bN g):aq Tryz.prog 143 [.agg (ai g)] (aS (fx (iP (vp g)) g.cells.toNat)):=by
 refine pF Tryz.func143 ?_;have hC:=KY g hg;have hc1:=hg.c1;have hc9:=hg.c9;have hs1:=iz hg 0;have hs2:=iz hg 1;have hcc:vp g=(nJ g 0,nJ g 1):=rfl;rw [hcc] at hC ⊢;generalize nJ g 0=s0 at *;generalize nJ g 1=s1 at *;have hgb:∀n,(∀c ∈ ai g,aN n c)=True:=λ n=>no;have hg0:mZ (ai g) 0= .int g.cells:=rfl;obtain ⟨eg,heg⟩:∃eg,eg=ai g:=⟨_,rfl⟩
 have hel:eg.length=9:=by rw [heg];rfl
 have hn64:g.cells.toNat<=64:=ge;rw [<- heg] at hC hgb hg0 ⊢;clear hcc heg;obtain ⟨n,hn⟩:∃n,n=g.cells.toNat:=⟨_,rfl⟩
 have hnc:g.cells=(n:Int):=ge;rw [<- hn] at hs1 hs2 hn64 ⊢;rw [hnc] at *;refine J1 hel ?_;refine zg3 (zg5 (α:=Nat) (λ i=>⟨[(1, .ref 0 0 9 0 0),(3, .ref 1 0 64 0 0),(17, .int i)], [(0, .rows true 0 9 [eg]),(1, .rows true 0 64 [ko (Cc i)])],2⟩)
  (λ d i=>i+d=64) ?_ 64 0 ?_) ?_ ?_
 ·rintro d i i1 hrec;have hell:(ko (Cc i)).length=64:=by grind [Vw,ko]
  refine J0 ?_;refine zg4 (λ hi=> ?_) (λ hi=> ?_)<;>simp at hi
  ·have hst:ko (Cc (i+1))=(ko (Cc i)).set i (.int i):=by grind [Ro,ko,List.map_set]
   refine J1 hell ?_;refine zg3 (hrec (d - 1) ge (i+1) ge) ?_ gt;simp [go_sem,aj,hst];exact ⟨of_eq_true (hgb 2),by rw [<- hst];exact of_eq_true xO⟩
  ·have hil:i=64:=by omega
   subst hil;rw [Vv];have hcl:(wy (s0,s1)).length=2:=rfl;have hcb:∀n,(∀c ∈ wy (s0,s1),aN n c)=True:=λ n=>no;have hct:(wy (s0,s1)).take 2= [dd s0,dd s1]:=rfl;generalize wy (s0,s1)=ec at *;refine J0 ?_;refine zg7 hC Yj ?_;refine J2 hcl hct ?_;obtain ⟨R,hR⟩:∃R,R=iP (s0,s1):=⟨_,rfl⟩
   have hRok:cO R:=by grind [Kk]
   rw [<- hR];have hss:∀i:Nat,i<2->∃s,kx n s∧mZ [dd s0,dd s1] i=dd s∧(i=0->s=s0)∧(i=1->s=s1):=by
    intro i hi;rcases (show i=0∨i=1 by omega) with rfl|rfl
    ·grind [mZ]
    grind [mZ]
   have hR':R=pg (pg Tw s0) s1:=hR;clear hC;refine zg3 (zg5 (α:=Nat×List Int) (λ a=>⟨[(1, .ref 0 0 9 0 0),(3, .ref 1 0 64 0 0),(26, .agg [dd s0,dd s1]),(27, .int a.1)], [(0, .rows true 0 9 [eg]),(1, .rows true 0 64 [ko a.2])],2⟩)
    (λ d a=>a.1+d=2∧cO a.2∧(a.1=0->a.2=Tw)∧(a.1=1->a.2=pg Tw s0)∧(a.1=2->a.2=R)) ?_ 2 (0,Tw) ?_) ?_ ?_
   ·rintro d ⟨i,l⟩ ⟨i1,i2,i3,i4,i5⟩ hrec;simp only at i1 i2 i3 i4 i5;refine J0 ?_;refine zg4 (λ hi=> ?_) (λ hi=> ?_)<;>simp at hi
    ·obtain ⟨s,hs,hcs,hsa,hsb⟩:=hss i ge;obtain ⟨R2,hR2⟩:∃R2,R2=pg l s:=⟨_,rfl⟩
     have hgo:=hrec (d - 1) ge (i+1,R2) ⟨ge,by grind [zl,kx],λ h=>ge,λ h=>pi,λ h=>pi⟩;obtain ⟨hs6,hsk⟩:=hs;simp only [dd,nq,kW] at hcs;refine J1 hcs ?_;refine zg3 (zg5 (α:=Nat×List Int) (λ a=>⟨[(1, .ref 0 0 9 0 0),(3, .ref 1 0 64 0 0),(26, .agg [dd s0,dd s1]),(27, .int i),(30,dd s),(31, .int s.length),(32, .int a.1)], [(0, .rows true 0 9 [eg]),(1, .rows true 0 64 [ko a.2])],2⟩)
      (λ d a=>a.1+d=s.length∧cO a.2∧pg a.2 (s.drop a.1)=R2) ?_ s.length (0,l) ?_) ?_ ?_
     ·rintro d2 ⟨k,l2⟩ ⟨j1,j2,j3⟩ hrec2;simp only at j1 j2 j3;refine J0 ?_;refine zg4 (λ hk=> ?_) (λ hk=> ?_)<;>simp at hk
      ·have hsk':=hsk _ (am hk);rw [bQ hk] at j3;obtain ⟨kl,hkl⟩:∃kl,kl=ac s k:=⟨_,rfl⟩
       rw [<- hkl] at hsk' j3;obtain ⟨R3,hR3⟩:∃R3,R3=nT l2 0 kl:=⟨_,rfl⟩
       have hgo2:=hrec2 (d2 - 1) ge (k+1,R3) ⟨ge,by rw [hR3];exact Dg hn64 kl 0 j2 ge (λ x hx=>(hsk'.2 x hx).2),by rw [hR3];exact j3⟩;obtain ⟨hkn,hkx⟩:=hsk';repeat first|refine wV λ _=>?_|simp [go_sem,hk,<- hkl]
       refine zg3 (zg5 (α:=Nat×List Int) (λ a=>⟨[(1, .ref 0 0 9 0 0),(3, .ref 1 0 64 0 0),(26, .agg [dd s0,dd s1]),(27, .int i),(30,dd s),(31, .int s.length),(32, .int k),(36,nq kl),(37, .int n),(38, .int a.1)], [(0, .rows true 0 9 [eg]),(1, .rows true 0 64 [ko a.2])],2⟩)
        (λ d a=>a.1+d=n∧cO a.2∧nT a.2 a.1 (kl.drop a.1)=R3) ?_ n (0,l2) ?_) ?_ ?_
       ·rintro d3 ⟨c,l3⟩ ⟨m1,m2,m3⟩ hrec3;simp only at m1 m2 m3;refine J0 ?_;refine zg4 (λ hc=> ?_) (λ hc=> ?_)<;>simp at hc
        ·have hck:c<kl.length:=by omega
         have hkx':=hkx _ (am hck);rw [bQ hck] at m3;rw [nT] at m3;obtain ⟨ps,hps⟩:∃ps,ps=ac kl c:=⟨_,rfl⟩
         rw [<- hps] at hkx' m3;have hcn:(0:Int)<=(c:Int)∧(c:Int)<(n:Int):=⟨ge,ge⟩
         obtain ⟨R4,hR4⟩:∃R4,R4=uY (c:Int) l3 ps:=⟨_,rfl⟩
         have hgo3:=hrec3 (d3 - 1) ge (c+1,R4) ⟨ge,by rw [hR4];exact DG hn64 hcn ps m2 hkx'.2,by rw [hR4];exact m3⟩;obtain ⟨hpl,hpp⟩:=hkx';repeat first|refine wV λ _=>?_|simp [go_sem,hck,<- hps]
         refine zg3 (zg5 (α:=Nat×List Int) (λ a=>⟨[(1, .ref 0 0 9 0 0),(3, .ref 1 0 64 0 0),(9, .int c),(26, .agg [dd s0,dd s1]),(27, .int i),(30,dd s),(31, .int s.length),(32, .int k),(36,nq kl),(37, .int n),(38, .int c),(43,kW ps),(44, .int ps.length),(45, .int a.1)], [(0, .rows true 0 9 [eg]),(1, .rows true 0 64 [ko a.2])],2⟩)
          (λ d a=>a.1+d=ps.length∧cO a.2∧uY c a.2 (ps.drop a.1)=R4) ?_ ps.length (0,l3) ?_) ?_ ?_
         ·rintro d4 ⟨j,l4⟩ ⟨o1,o2,o3⟩ hrec4;simp only at o1 o2 o3;refine J0 ?_;refine zg4 (λ hj=> ?_) (λ hj=> ?_)<;>simp at hj
          ·have hpp':=hpp _ (am hj);rw [bQ hj] at o3;obtain ⟨p,hp⟩:∃p,p=ac ps j:=⟨_,rfl⟩
           rw [<- hp] at hpp' o3;obtain ⟨R5,hR5⟩:∃R5,R5=tG (c:Int) l4 p:=⟨_,rfl⟩
           have hgo4:=hrec4 (d4 - 1) ge (j+1,R5) ⟨ge,by rw [hR5];exact Pl hn64 hcn hpp' o2,by rw [hR5];exact o3⟩;obtain ⟨hto,hal,hac⟩:=hpp';have hl5:=zk o2 hn64 hcn (others:= [p.to]) (λ x hx=>by rw [List.mem_singleton] at hx;omega);repeat first|refine wV λ _=>?_|simp [go_sem,hj,<- hp]
           refine Kg l4 o2 c ⟨hcn.1,ge⟩ [p.to] (λ x hx=>by rw [List.mem_singleton] at hx;omega) gt (ri _ [3]) rfl ge ?_ ?_
           ·(first|done|exact zJ)
           have hR5':FY (c:Int) (cF l4 c [p.to]) p.acts=R5:=hR5.symm;generalize cF l4 c [p.to]=l5 at hl5 hR5' ⊢;refine J0 ?_;refine zg3 (zg5 (α:=Nat×List Int) (λ a=>⟨[(1, .ref 0 0 9 0 0),(3, .ref 1 0 64 0 0),(9, .int c),(26, .agg [dd s0,dd s1]),(27, .int i),(30,dd s),(31, .int s.length),(32, .int k),(36,nq kl),(37, .int n),(38, .int c),(43,kW ps),(44, .int ps.length),(45, .int j),
             (55,r7 p.acts),(56, .int p.acts.length),(57, .int a.1)], [(0, .rows true 0 9 [eg]),(1, .rows true 0 64 [ko a.2])],2⟩)
            (λ d a=>a.1+d=p.acts.length∧cO a.2∧FY c a.2 (p.acts.drop a.1)=R5) ?_ p.acts.length (0,l5) ?_) ?_ ?_
           ·rintro d5 ⟨m,l6⟩ ⟨q1,q2,q3⟩ hrec5;simp only at q1 q2 q3;refine J0 ?_;refine zg4 (λ hm=> ?_) (λ hm=> ?_)<;>simp at hm
            ·have hac':=hac _ (am hm);rw [bQ hm] at q3;obtain ⟨a,ha⟩:∃a,a=ac p.acts m:=⟨_,rfl⟩
             rw [<- ha] at hac' q3;have hgo5:=hrec5 (d5 - 1) ge (m+1,cF l6 c (co a)) ⟨ge,zk q2 hn64 hcn hac',q3⟩;have hra:=Ps a;repeat first|refine wV λ _=>?_|simp [go_sem,hm,<- ha]
             refine aP hra ?_;refine J0 ?_;refine Kg l6 q2 c ⟨hcn.1,ge⟩ (co a) (λ x hx=>by have:=hac' x hx;omega) (by have:=QJ a;omega) (.refl _) rfl ge (.refl _) ?_;refine J0 ?_;refine zg3 hgo5 ?_ gt;simp [go_sem,aj];exact of_eq_true (hgb 2)
            ·rw [List.drop_eq_nil_of_le hm] at q3;have q3':l6=R5:=q3;subst q3';refine J0 ?_;refine zg3 hgo4 ?_ gt;simp [go_sem,aj];exact of_eq_true (hgb 2)
           ·exact ⟨gt,hl5,by rw [<- hR5'];rfl⟩
           ·simp [go_sem,aj];exact of_eq_true (hgb 2)
           ·simp
          ·rw [List.drop_eq_nil_of_le hj] at o3;have o3':l4=R4:=o3;subst o3';refine J0 ?_;refine zg3 hgo3 ?_ gt;simp [go_sem,aj];exact of_eq_true (hgb 2)
         ·exact ⟨gt,m2,by rw [hR4];rfl⟩
         ·simp [go_sem,aj];exact of_eq_true (hgb 2)
         ·simp
        ·rw [List.drop_eq_nil_of_le ge] at m3;have m3':l3=R3:=m3;subst m3';refine J0 ?_;refine zg3 hgo2 ?_ gt;simp [go_sem,aj];exact of_eq_true (hgb 2)
       ·exact ⟨gt,j2,by rw [hR3];rfl⟩
       ·simp [go_sem,aj,hkn];exact of_eq_true (hgb 2)
       ·simp
      ·rw [List.drop_eq_nil_of_le hk] at j3;have j3':l2=R2:=j3;subst j3';refine J0 ?_;refine zg3 hgo ?_ gt;simp [go_sem,aj];exact of_eq_true (hgb 2)
     ·grind
     ·simp [go_sem,aj];grind
     ·simp
    ·have hi2:i=2:=by omega
     rw [i5 hi2];repeat first|refine wV λ _=>?_|simp [go_sem,hg0,<- hn]
     refine zg3 (zg5 (α:=Nat) (λ c=>⟨[(3, .ref 1 0 64 0 0),(15, .sl 2 0 1 0 n),(75, .int n),(76, .int c)], [(1, .rows true 0 64 [ko R]),(2, .rows true 0 1 ((qL R n c).map dR))],3⟩)
      (λ d c=>c+d=n) ?_ n 0 ?_) ?_ ?_
     ·rintro d2 c j1 hrec2;have hzl:=PW R (show c<=n by omega);refine J0 ?_;refine zg4 (λ hc=> ?_) (λ hc=> ?_)<;>simp at hc
      ·have hzs:=Mw R hc;have hr:=DI R hRok c ge ge;refine J0 ?_;refine zhi (args':= [.fp (ko R), .int c]) hr (.v _) ?_ no ?_
       ·have hRl:(ko R).length=64:=by rw [GF,hRok.len]
        refine aY.cons (.frzP rfl ?_ ?_ ?_ ?_) (.refl _ _ _ _)<;>first|exact aY.refl _ _ _ _|simp [hRl,dO]
       refine J1 hzl ?_;refine zg3 (hrec2 (d2 - 1) ge (c+1) ge) ?_ gt;simp [go_sem,aj,hzs]
      ·have hcl:c=n:=by omega
       subst hcl;rw [PV];repeat first|refine wV λ _=>?_|simp [go_sem,mq]
       ((try simp only [bE,dC,lX,r7,dt,kW,cu,bC,ak,oj,fK,aO,aS,ai,List.map_cons,List.map_nil,List.nil_append,List.append_nil,List.cons_append]);(repeat (first|(with_reducible first|exact aY.nil|exact bg.nil|exact eY.refl _|exact aY.refl _ _ _ _|exact bg.refl _|refine aY.cons ?_ ?_|refine bg.cons ?_ ?_|refine eY.agg ?_|refine eY.tup ?_|refine eY.fn ?_ ?_|exact eY.nil _|refine bJ (bg.refl _) ?_)|((refine aI rfl (by simp [mq]) Wu ?_);(first|(simp [go_sem,mq];done)|(simp [go_sem,mq];exact List.take_of_length_le (by simp [mq]))))|((refine eY.frz rfl (by simp [mq]) Wu ?_);(simp only [List.drop_zero,List.take_succ_cons,List.take_zero,List.map_cons,List.map_nil]))|((refine eY.frzP rfl (by simp [mq]) gt Wu ?_);(simp only [fW,List.drop_zero])))))
     ·simp
     ·have hz0:qL R n 0=List.replicate n 0:=by simp [qL,fx]
      simp [go_sem,aj,hz0]
     ·simp
   ·grind [Hb]
   ·simp [go_sem,aj];grind
   ·simp
 ·simp
 ·simp [go_sem,aj];exact ⟨of_eq_true (hgb 2),zht rfl⟩
 ·simp
theorem zf5 {g:ae} (hg:bN g):wm (aW g):=by
 have:=hg.c9;exact ED ge (iz hg 0) (iz hg 1)
theorem Ku {g:ae} (hg:bN g):((aW g).length:Int)=g.cells:=by
 have:=hg.c1;rw [px];omega
def zel (g:ae):List Int:=ay (aW g) (aW g).length
theorem TM {g:ae} (hg:bN g):1<=(zel g).length∧(zel g).length<=9:=by
 have h1:=hg.c1;have h9:=hg.c9;have hl:=Ku hg;have:=(zf5 hg).pos ge;grind [zel,ay]
def uX (of names:List Int) (p:aa) (i:Nat):List aa:=(names.take i).map (cj of p)
theorem Pk {p:aa} (h:i<names.length):uX of names p (i+1)=uX of names p i++ [cj of p (ac names i)]:=by
 grind [uX,tT]
theorem Se {p:aa} (h:i<=names.length):(uX of names p i).length=i:=by grind [uX]
theorem Pv (g:ae) (hg:bN g) (hn:dI g) (p:aa) (hp:bw g p):aq Tryz.prog 91 [.agg (ai g), .agg (ak p)]
  (.tup [aO (if aZ g then aw (aW g) p else []), .v (.int .i64 (if aZ g then 0 else 220))]):=by
 refine pF Tryz.func91 ?_;have hN:=sq g hg hn;have hO:=zcM g hg;have hl:=Ku hg;have h9:=hg.c9;have hal:=hp.al;have hofl:(aW g).length<=1048576:=by omega
 have hM:=Pu (aW g) hofl;have hP:=λ name=>Sp (aW g) p name (by omega) (by omega);have hnl:=TM hg;have hres:aw (aW g) p=uX (aW g) (zel g) p (zel g).length:=by grind [uX,aw,zel]
 rw [hres];change aq _ _ _ (aS (aW g)) at hO;change aq _ _ _ (aS (zel g)) at hM;have hgb:∀n,(∀c ∈ ai g,aN n c)=True:=λ n=>by simp [go_sem]
 generalize aW g=of at *;generalize zel g=nm at *;obtain ⟨eg,heg⟩:∃eg,eg=ai g:=⟨_,rfl⟩
 have hel:eg.length=9:=by rw [heg];rfl
 rw [<- heg] at hN hO hgb ⊢;clear heg hres;cases hnb:aZ g
 ·rw [hnb] at hN;repeat first|refine wV λ _=>?_|simp [go_sem,hel]
  refine zg7 hN (by simp [go_sem,hgb]) ?_;repeat first|refine wV λ _=>?_|simp [go_sem,hel]
  (first|done|exact zJ)
 ·rw [hnb] at hN;repeat first|refine wV λ _=>?_|simp [go_sem,hel]
  refine zg7 hN (by simp [go_sem,hgb]) ?_;repeat first|refine wV λ _=>?_|simp [go_sem,hel]
  refine zg7 hO (by simp [go_sem,hgb]) ?_;repeat first|refine wV λ _=>?_|simp [go_sem,hel]
  refine zg7 hM (by simp [go_sem]) ?_;repeat first|refine wV λ _=>?_|simp [go_sem,hel]
  refine zg3 (zg5 (α:=Nat) (λ i=>⟨[(3, .ref 1 0 5 0 0),(6,aS of),(7, .sl 2 i 5 0 i),(16,aS nm),(17, .int nm.length),(18, .v (.int .i64 i))], [(1, .rows true 0 5 [ak p]),(2, .rows true i 5 ((uX of nm p i).map ak))],3⟩)
   (λ d i=>i+d=nm.length) ?_ nm.length 0 ?_) ?_ ?_
  ·rintro d i i1 hrec;have lp:(uX of nm p i).length=i:=Se (by omega);repeat first|refine wV λ _=>?_|simp [go_sem]
   refine zg4 (λ hi=> ?_) (λ hi=> ?_)<;>simp at hi
   ·have hs:=Pk (of:=of) (p:=p) hi;repeat first|refine wV λ _=>?_|simp [go_sem,hi]
    refine zg7 (hP _) (by simp [go_sem]) ?_;repeat first|refine wV λ _=>?_|simp [go_sem,lp]
    refine zg3 (hrec (d - 1) (by omega) (i+1) (by omega)) ?_ (by simp);simp [go_sem,aj,hs]
   ·have hil:i=nm.length:=by omega
    subst hil;repeat first|refine wV λ _=>?_|simp [go_sem]
    ((try simp only [bE,dC,lX,r7,dt,kW,cu,bC,ak,oj,fK,aO,aS,ai,List.map_cons,List.map_nil,List.nil_append,List.append_nil,List.cons_append]);(repeat (first|(with_reducible first|exact aY.nil|exact bg.nil|exact eY.refl _|exact aY.refl _ _ _ _|exact bg.refl _|refine aY.cons ?_ ?_|refine bg.cons ?_ ?_|refine eY.agg ?_|refine eY.tup ?_|refine eY.fn ?_ ?_|exact eY.nil _|refine bJ (bg.refl _) ?_)|((refine aI rfl (by simp [lp]) (by simp [io,kq,aC,dO]) ?_);(first|(simp [go_sem,lp];done)|(simp [go_sem,lp];exact List.take_of_length_le (by simp [lp]))))|((refine eY.frz rfl (by simp [lp]) (by simp [io,kq,aC,dO]) ?_);(simp only [List.drop_zero,List.take_succ_cons,List.take_zero,List.map_cons,List.map_nil]))|((refine eY.frzP rfl (by simp [lp]) (by simp) (by simp [io,kq,aC,dO]) ?_);(simp only [fW,List.drop_zero])))))
  ·simp
  ·simp [go_sem,aj,uX]
  ·simp
end Go.Av
end
section
/- sum.Winner, where all positions are looked through. -/
set_option linter.unusedSectionVars false
open Go Go.Proofs
namespace Go.Av
open af
def xu (x:Option (Int×Nat)) (side:Int):Int:=if (fq x).1=1 then side else if (fq x).1=3 then 1 - side else 2
noncomputable def eG (g:ae) (p:aa):Int×Int:=if (xJ g p).2≠0 then (0,(xJ g p).2) else (xu (cM g (xJ g p).1 (dZ (xJ g p).1 p)) p.side,0)
theorem FV (g:ae) (hg:bN g) (hn:dI g) (p:aa) (hp:bw g p) (e:Int) (he:e≠0∧e≠230) (hT:aq Tryz.prog 48 [.agg (ai g), .agg (ak p)] (.tup [.agg [.lst 2 [], .lst 2 []], .int e])):
  aq Tryz.prog 56 [.agg (ai g), .agg (ak p)] (.tup [.int (eG g p).1, .int (eG g p).2]):=by
 have hA:=zay g hg p hp;obtain ⟨L,E,hLE⟩:∃L E,xJ g p=(L,E):=⟨_, _,rfl⟩
 rw [hLE] at hA;by_cases h0:E=0
 ·subst h0;obtain ⟨hcl,hpl⟩:=sj hg hp hLE;obtain ⟨hix,hixn⟩:=dm hpl;have hV:=Li g hg hn L hcl.inc hcl.len hcl.ok hcl.cl;have hlen:=hcl.len;have hF:=Sd L hcl.inc ge (λ q hq=>(hcl.ok q hq).fits hg) p (hp.fits hg);have hfx:=o7 hcl.inc hix;rw [hixn] at hfx;rw [hfx] at hF;have hR:eG g p=(xu (cM g L (dZ L p)) p.side,0):=by grind [eG]
  rw [hR];have hnV:ac ((List.range L.length).map (dJ (cM g L))) (dZ L p)=dJ (cM g L) (dZ L p):=by
   grind [ac]
  rw [dJ] at hnV;have hVl:((List.range L.length).map (dJ (cM g L))).length=L.length:=gt;have hVb:∀n,(∀r ∈ (List.range L.length).map (dJ (cM g L)),∀c ∈ r,aN n c)=True:=λ n=>eq_true λ r hr c hc=>by
   obtain ⟨i, _,rfl⟩:=List.mem_map.1 hr;simp only [dJ,List.mem_cons,List.not_mem_nil,or_false] at hc;rcases hc with rfl|rfl<;>exact .v _
  generalize cM g L (dZ L p)=v at *;generalize (List.range L.length).map (dJ (cM g L))=V at *;have hegl:(ai g).length=9:=rfl;have hegb:∀n,(∀c ∈ ai g,aN n c)=True:=λ n=>no;obtain ⟨h1,h2⟩:=he;have hs:=hp.s;refine pF Tryz.func56 ?_;refine J0 ?_;refine aP hT ?_;refine J2 h1 h2 ?_;refine aP hA ?_;refine J0 ?_;refine aP hV ?_;refine J1 hVb ?_;refine aP hF ?_;have hix2:dZ L p<V.length:=ge;have hw:∀x,xu v x=if (fq v).1=1 then x else if (fq v).1=3 then 1 - x else 2:=λ x=>rfl
  refine J3 hnV hix2 hVb ?_;by_cases w1:(fq v).1=1
  ·rw [hw,if_pos w1];exact K1 w1
  ·by_cases w3:(fq v).1=3
   ·rw [hw,if_neg w1,if_pos w3];exact K2 w1 w3
   ·rw [hw,if_neg w1,if_neg w3];exact K2 w1 w3
 ·have hR:eG g p=(0,E):=by grind [eG]
  rw [hR];exact Nj g p (hp.fits hg) e E he h0 L hT hA
end Go.Av
end
section
/- package sum, at all valid games. -/
set_option linter.unusedSectionVars false
open Go Go.Proofs
namespace Go.Av
open af
theorem zero_le:zero.size<=2000:=Wm
noncomputable def bW (g:ae) (p:aa):af×Int:=if aZ g=true then nu (b9 g 4000 4002 0 [bv p 0] [] []) else (zero,230)
theorem Ra (x:Option (List aa×List (List Nat)×List (List Nat))):(nu x).1.size<=2000∧((nu x).2≠0->(nu x).1=zero):=by
 have hz:zero.size<=2000:=Wm;cases x<;>grind [nu]
theorem AN (g:ae) (p:aa):(bW g p).1.size<=2000∧((bW g p).2≠0->(bW g p).1=zero):=by
 grind [bW,Ra,zero_le]
theorem MG (g:ae) (hg:bN g) (hn:dI g) (p:aa) (hp:bw g p):aq Tryz.prog 47 [.agg (ai g), .agg (ak p)] (oi (bW g p)):=by
 have hN:=sq g hg hn;unfold bW;split
 ·rename_i h;rw [h] at hN;exact P4 g hg p hp hN
 ·rename_i h;rw [Bool.not_eq_true] at h;rw [h] at hN;exact IA g p hN
noncomputable def TE (g:ae) (p:aa):AV:=if aZ g=true then TF (b9 g 32 4002 0 [bv p 0] [] []) else .tup [.agg [.lst 1 [], .lst 1 []], .int 230]
theorem zaG (g:ae) (hg:bN g) (hn:dI g) (p:aa) (hp:bw g p):aq Tryz.prog 52 [.agg (ai g), .agg (ak p)] (TE g p):=by
 have hN:=sq g hg hn;unfold TE;split
 ·rename_i h;rw [h] at hN;exact P7 g hg p hp hN
 ·rename_i h;rw [Bool.not_eq_true] at h;rw [h] at hN;exact IB g p hN
noncomputable def eO (g:ae) (p:aa):af×Int:=if aZ g=true then ll (λ q=>(bW g q).1) (λ q=>(bW g q).2) (aw (aW g) p) zero else (zero,230)
theorem KO (F:aa->af) (E:aa->Int):∀ (l:List aa) (t:af),t.size<=2000->(ll F E l t).1.size<=2000∧((ll F E l t).2≠0->(ll F E l t).1=zero)
 | [],t,h=>⟨h,λ h=>absurd rfl h⟩
 |q::l,t,h=>by
  rw [ll];split
  ·exact ⟨zero_le,λ _=>rfl⟩
  ·split
   ·exact ⟨zero_le,λ _=>rfl⟩
   ·refine KO F E l _ ?_;have:=iK _ (add t (F q).canon) (Nat.le_refl _);omega
theorem DT (g:ae) (p:aa):(eO g p).1.size<=2000∧((eO g p).2≠0->(eO g p).1=zero):=by
 grind [eO,KO,zero_le]
theorem n5 {g:ae}{p:aa} (hp:bw g p) (of:List Int):∀q ∈ aw of p,bw g q:=λ q hq=>by
 grind [fX,aw]
theorem y8 (g:ae) (hg:bN g) (hn:dI g) (p:aa) (hp:bw g p):aq Tryz.prog 48 [.agg (ai g), .agg (ak p)] (oi (eO g p)):=by
 have hS:=Pv g hg hn p hp;unfold eO;split
 ·rename_i h;rw [if_pos h,if_pos h] at hS;refine Ni g p _ ?_ (λ q=>(bW g q).1) (λ q=>(bW g q).2) (λ q hq=>⟨(AN g q).1,MG g hg hn q (n5 hp _ q hq)⟩) hS;rw [aw,List.length_map];have:=(TM hg).2;grind [zel]
 ·rename_i h;rw [if_neg h,if_neg h] at hS;exact FT g p _ _ Wm hS
noncomputable def oN (g:ae) (p:aa):Int×Int:=if (eO g p).2=0 then (wU (eO g p).1 p.side,0) else if (eO g p).2=230 then (0,230) else eG g p
theorem FW (g:ae) (hg:bN g) (hn:dI g) (p:aa) (hp:bw g p):aq Tryz.prog 56 [.agg (ai g), .agg (ak p)] (.tup [.int (oN g p).1, .int (oN g p).2]):=by
 have hT:=y8 g hg hn p hp;obtain ⟨hsz,hz⟩:=DT g p;unfold oN;generalize eO g p=t at *;obtain ⟨f,e⟩:=t;rw [oi] at hT;simp only at hT hsz hz ⊢;split
 ·rename_i he;subst he;exact Lj g p (hp.fits hg) f _ hT (Bn f p.side ge)
 ·rename_i he;rw [hz he,p8] at hT;split
  ·rename_i he2;subst he2;exact EX g p (hp.fits hg) hT
  ·rename_i he2;exact FV g hg hn p hp e ⟨he,he2⟩ hT
noncomputable def zeC (g:ae) (p:aa):AV:=if (eO g p).2=0 then .tup [.agg [.int (zeB (eO g p).1 17).1, .int (zeB (eO g p).1 17).2], .int 0] else .tup [.agg [.int 0, .int 0], .int (eO g p).2]
theorem Um (g:ae) (hg:bN g) (hn:dI g) (p:aa) (hp:bw g p):aq Tryz.prog 60 [.agg (ai g), .agg (ak p)] (zeC g p):=by
 have hT:=y8 g hg hn p hp;obtain ⟨hsz,hz⟩:=DT g p;unfold zeC;generalize eO g p=t at *;obtain ⟨f,e⟩:=t;rw [oi] at hT;simp only at hT hsz hz ⊢;split
 ·rename_i he;subst he;exact Ng g p (hp.fits hg) f hsz (λ a b ha hb=>FL a b ge) hT
 ·rename_i he;rw [hz he,p8] at hT;exact Ql g p (hp.fits hg) e he hT
noncomputable def zdQ (g:ae) (p:aa):AV:=if aZ g=true then NJ (an g p) (λ q=>(oN g q).1) (λ q=>(oN g q).2) p.side else .tup [.agg [.lst 1 [], .lst 1 [], .lst 1 [], .int 0, .int 0], .int 230]
theorem zaA (g:ae) (hg:bN g) (hn:dI g) (p:aa) (hp:bw g p):aq Tryz.prog 55 [.agg (ai g), .agg (ak p)] (zdQ g p):=by
 have hN:=sq g hg hn;unfold zdQ;split
 ·rename_i h;rw [h] at hN;exact P1 g hg p hp _ _ hN λ q hq=>FW g hg hn q (bD hg hp q hq).1
 ·rename_i h;rw [Bool.not_eq_true] at h;rw [h] at hN;exact Iu g p (hp.fits hg) hN
end Go.Av
end
section
/- chapter 23's law: what it calls of package sum. -/
set_option linter.unusedSectionVars false
open Go Go.Proofs
namespace Go.Av
open af
def zgO:Option (List aa×List (List Nat)×List (List Nat))->(List (List Nat)×List (List Nat))×Int
 |none=>(([], []),2)
 |some (_,L,R)=>((L,R),0)
noncomputable def w9 (g:ae) (p:aa):(List (List Nat)×List (List Nat))×Int:=if aZ g=true then zgO (b9 g 32 4002 0 [bv p 0] [] []) else (([], []),230)
theorem zco (g:ae) (p:aa):TE g p= .tup [.agg [aG (w9 g p).1.1,aG (w9 g p).1.2], .int (w9 g p).2]:=by
 unfold TE w9;split
 ·cases b9 g 32 4002 0 [bv p 0] [] [] with
  |none=>rfl
  |some x=>rfl
 ·rfl
def zbm (ms:List aa) (W E:aa->Int) (side:Int):aa×Int:=
 match ms.find? λ q=>decide (E q≠0) with
 |some q=>(⟨[], [], [],0,0⟩,E q)
 |none=>
  if 0<=gi (ms.map W) side then (ac ms (gi (ms.map W) side).toNat,0)
  else if 0<=gi (ms.map W) 2 then (ac ms (gi (ms.map W) 2).toNat,0)
  else (⟨[], [], [],0,0⟩,270)
noncomputable def sZ (g:ae) (p:aa):aa×Int:=if aZ g=true then zbm (an g p) (λ q=>(oN g q).1) (λ q=>(oN g q).2) p.side else (⟨[], [], [],0,0⟩,230)
theorem zdR (g:ae) (p:aa):zdQ g p= .tup [.agg (ak (sZ g p).1), .int (sZ g p).2]:=by
 unfold zdQ sZ NJ zbm;split
 ·cases (an g p).find? (λ q=>decide ((oN g q).2≠0)) with
  |some q=>rfl
  |none=>
   simp only;split
   ·rfl
   ·split<;>rfl
 ·rfl
noncomputable def CN (g:ae) (p:aa):(Int×Int)×Int:=if (eO g p).2=0 then (zeB (eO g p).1 17,0) else ((0,0),(eO g p).2)
theorem zeD (g:ae) (p:aa):zeC g p= .tup [.agg [.int (CN g p).1.1, .int (CN g p).1.2], .int (CN g p).2]:=by
 grind [zeC,CN]
section
variable (g:ae) (hg:bN g) (hn:dI g) (p:aa) (hp:bw g p)
include hg hn hp
theorem jn:aq Tryz.prog 12 [.agg (ai g), .agg (ak p)] (.agg (ce (bW g p).1++ [.int (bW g p).2])):=by
 have hF:=MG g hg hn p hp;have hegl:(ai g).length=9:=rfl;have hegb:∀n,(∀c ∈ ai g,aN n c)=True:=λ n=>no;generalize bW g p=x at *;rw [oi,bS,aH] at hF;rw [aH];refine pF Tryz.func12 ?_;refine J0 ?_;refine aP hF ?_;exact K0
theorem Es:aq Tryz.prog 16 [.agg (ai g), .agg (ak p)] (.agg [aG (w9 g p).1.1,aG (w9 g p).1.2, .int (w9 g p).2]):=by
 have hF:=zaG g hg hn p hp;have hegl:(ai g).length=9:=rfl;have hegb:∀n,(∀c ∈ ai g,aN n c)=True:=λ n=>no;rw [zco] at hF;generalize w9 g p=x at *;rw [aG,aG] at *;refine pF Tryz.func16 ?_;refine J0 ?_;refine aP hF ?_;exact K0
theorem tX:aq Tryz.prog 23 [.agg (ai g), .agg (ak p)] (.agg [.int (oN g p).1, .int (oN g p).2]):=by
 have hF:=FW g hg hn p hp;have hegl:(ai g).length=9:=rfl;have hegb:∀n,(∀c ∈ ai g,aN n c)=True:=λ n=>no;generalize oN g p=x at *;refine pF Tryz.func23 ?_;refine J0 ?_;refine aP hF ?_;exact K0
theorem AY:aq Tryz.prog 21 [.agg (ai g), .agg (ak p)] (.agg (ak (sZ g p).1++ [.int (sZ g p).2])):=by
 have hF:=zaA g hg hn p hp;have hegl:(ai g).length=9:=rfl;have hegb:∀n,(∀c ∈ ai g,aN n c)=True:=λ n=>no;rw [zdR] at hF;generalize sZ g p=x at *;refine pF Tryz.func21 ?_;refine J0 ?_;refine aP hF ?_;exact K0
theorem yR:aq Tryz.prog 26 [.agg (ai g), .agg (ak p)] (.agg [.int (CN g p).1.1, .int (CN g p).1.2, .int (CN g p).2]):=by
 have hF:=Um g hg hn p hp;have hegl:(ai g).length=9:=rfl;have hegb:∀n,(∀c ∈ ai g,aN n c)=True:=λ n=>no;rw [zeD] at hF;generalize CN g p=x at *;refine pF Tryz.func26 ?_;refine J0 ?_;refine aP hF ?_;exact K0
end
end Go.Av
end
section
open Go Go.Proofs
namespace Go.Av
theorem CB {g:ae} (h:dI g):dI (i9 g):=by
 have e:(i9 g).kinds.map (·.name)=g.kinds.map (·.name):=by simp [i9,rV]
 grind [dI]
theorem Lo {g:ae} (h:dI g) (w:Int):dI (rN g w):=CB h
theorem Eu (x:rM):dI (jZ x):=by
 unfold dI jZ mj;split
 ·left;rfl
 ·right;rfl
theorem Cq (g:ae):aZ (i9 g)=true:=by
 grind [aZ,i9,rV]
theorem L7 (g:ae) (w:Int):aZ (rN g w)=true:=Cq g
end Go.Av
end
section
/- chapter 23's law: its games, R23.Made, SameLoops. -/
set_option linter.unusedSectionVars false
open Go Go.Proofs
namespace Go.Av
open af
theorem sF (f:af) (hf:f.size<=2000) (e:Int):aq Tryz.prog 18 [.agg (ce f++ [.int e])] (.bool true):=by
 have hS:=Nf f.size f (Nat.le_refl _) ge;rw [bS,aH] at hS;rw [aH];have hz:(f.size:Int)<=2000:=ge;generalize f.size=n at *;refine pF Tryz.func18 ?_;refine J0 ?_;refine aP hS ?_;exact K1 hz
theorem FJ (a:List Nat) (ha:a.length<=1048576):aq Tryz.prog 54 [.lst 1 (a.map bu), .lst 1 (a.map bu)] (.bool true):=by
 have h:=Uc (a.map λ n:Nat=>(n:Int)) (a.map λ n:Nat=>(n:Int)) (by unfold kn;simp;omega) (by unfold kn;simp;omega);have e:aS (a.map λ n:Nat=>(n:Int))= .lst 1 (a.map bu):=by unfold aS;rw [List.map_map];rfl
 rw [e] at h;simpa using h
theorem FQ (L R:List (List Nat)) (hL:L.length<=1048576) (hR:R.length<=1048576) (h1:∀l ∈ L,l.length<=1048576) (h2:∀l ∈ R,l.length<=1048576):aq Tryz.prog 20 [.agg [aG L,aG R], .agg [aG L,aG R]] (.bool true):=by
 rw [aG,aG];have f1:∀j,j<L.length->aq Tryz.prog 54 [.lst 1 ((ac L j).map bu), .lst 1 ((ac L j).map bu)] (.bool true):=λ j hj=>FJ _ (h1 _ (am hj));have f2:∀j,j<R.length->aq Tryz.prog 54 [.lst 1 ((ac R j).map bu), .lst 1 ((ac R j).map bu)] (.bool true):=λ j hj=>FJ _ (h2 _ (am hj));have e1:∀j,j<L.length->ac (L.map cC) j= [.lst 1 ((ac L j).map bu)]:=λ j hj=>aJ _ _ _ hj;have e2:∀j,j<R.length->ac (R.map cC) j= [.lst 1 ((ac R j).map bu)]:=λ j hj=>aJ _ _ _ hj;refine pF Tryz.func20 ?_;refine J0 ?_;refine zg3 (zg5 (α:=Nat) (λ i=>⟨[(2, .ref 0 0 2 0 0),(3, .ref 1 0 2 0 0),(5, .int i)], [(0, .rows true 0 2 [[.lst 1 (L.map cC), .lst 1 (R.map cC)]]),(1, .rows true 0 2 [[.lst 1 (L.map cC), .lst 1 (R.map cC)]])],2⟩) (λ d i=>i+d=L.length) ?_ L.length 0 ?_) ?_ ?_;rotate_left
 ·simp
 ·simp [go_sem,aj]
 ·simp
 rintro d i i1 hrec;refine J0 ?_;refine zg4 (λ hi=> ?_) (λ hi=> ?_)<;>simp at hi
 ·have h0:i<L.length:=by omega
  have hC:=f1 i h0;have hn:=e1 i h0;generalize ac L i=q at *;refine J2 h0 hn ?_;refine dP hC ?_;refine J0 ?_;refine zg3 (hrec (d - 1) ge (i+1) ge) ?_ gt;simp [go_sem,aj]
 ·refine J0 ?_;refine zg3 (zg5 (α:=Nat) (λ i=>⟨[(2, .ref 0 0 2 0 0),(3, .ref 1 0 2 0 0),(6, .int i)], [(0, .rows true 0 2 [[.lst 1 (L.map cC), .lst 1 (R.map cC)]]),(1, .rows true 0 2 [[.lst 1 (L.map cC), .lst 1 (R.map cC)]])],2⟩) (λ d i=>i+d=R.length) ?_ R.length 0 ?_) ?_ ?_;rotate_left
  ·simp
  ·simp [go_sem,aj]
  ·simp
  rintro d i i1 hrec;refine J0 ?_;refine zg4 (λ hi=> ?_) (λ hi=> ?_)<;>simp at hi
  ·have h0:i<R.length:=by omega
   have hC:=f2 i h0;have hn:=e2 i h0;generalize ac R i=q at *;refine J2 h0 hn ?_;refine dP hC ?_;refine J0 ?_;refine zg3 (hrec (d - 1) ge (i+1) ge) ?_ gt;simp [go_sem,aj]
  ·exact K0
def DO (l:List (List (Int×Int))):ae:=⟨3, [[1,2, -1], [-1,0,1]], [1,0], [⟨xa,l,false⟩],0,false, [],3,2⟩
theorem H1 (l:List (List (Int×Int))):aq Tryz.prog 41 [.lst 1 (l.map λ p=> [bE p])] (.agg (ai (DO l))):=by
 have e:ai (DO l)= [.int 3, .lst 1 [[.lst 1 [[.int 1], [.int 2], [.int (-1)]]], [.lst 1 [[.int (-1)], [.int 0], [.int 1]]]], .lst 1 [[.int 1], [.int 0]], .lst 3 [[.v (.string ⟨#[97]⟩), .lst 1 (l.map λ p=> [bE p]), .v (.bool false)]], .int 0, .bool false, .lst 4 [], .int 3, .int 2]:=rfl;rw [e];refine pF Tryz.func41 ?_;refine J0 ?_;(repeat' apply And.intro)
 all_goals (first|done|exact zJ)
def cN (a b c s:Int):aa:=⟨[a,b,c], [0], [0],0,s⟩
theorem pz (a b c s:Int):aq Tryz.prog 42 [.int a, .int b, .int c, .int s] (.agg (ak (cN a b c s))):=by
 have e:ak (cN a b c s)= [.lst 1 [[.int a], [.int b], [.int c]], .lst 1 [[.int 0]], .lst 1 [[.int 0]], .int 0, .int s]:=rfl;rw [e];refine pF Tryz.func42 ?_;refine J0 ?_;(repeat' apply And.intro)
 all_goals (first|done|exact zJ)
def iN (x:zI) (w:Int):ae:=if w.tmod 4=0 then i9 (jZ x.g) else rN (jZ x.g) w
def pA (x:zI) (w:Int):aa:=qJ (iN x w) x.p
theorem qg {x:zI} (hx:pS x) (w:Int):bN (iN x w)∧dI (iN x w)∧aZ (iN x w)=true:=by
 have hg:=Hz hx.g;have hn:=Eu x.g;unfold iN;split
 ·exact ⟨KD hg,CB hn,Cq _⟩
 ·exact ⟨UB hg w,Lo hn w,L7 _ w⟩
theorem yJ {x:zI} (hx:pS x) (w:Int):bw (iN x w) (pA x w):=HB (qg hx w).1 hx.p
theorem oP (x:zI) (hx:pS x) (w:Int) (hw:U8 w):aq Tryz.prog 10 [.agg (dX x), .v (.int .u8 w)] (.tup [.agg (ai (iN x w)), .agg (ak (pA x w))]):=by
 have hmg:=Hz hx.g;have hG:=DZ x.g hx.g hx.lc hx.l0 hx.l1;have hP1:=zN _ hmg;have hP2:=IF _ hmg w hw;have hM:=D0 (iN x w) (qg hx w).1 x.p hx.p;rw [show qJ (iN x w) x.p=pA x w from rfl] at hM;generalize pA x w=q at *;have hgw:iN x w=if w.tmod 4=0 then i9 (jZ x.g) else rN (jZ x.g) w:=rfl
 generalize iN x w=gw at *;generalize jZ x.g=mg at *;unfold dX;have hrow:=tL hx.p;obtain ⟨er,her⟩:∃er,er=kK x.p:=⟨_,rfl⟩
 rw [<- her] at hrow hM ⊢;obtain ⟨rl, _, _, _, _, _,rb⟩:=hrow;obtain ⟨er1,her1⟩:∃er1,er1=lY x.g:=⟨_,rfl⟩
 have er1l:er1.length=12:=by rw [her1];rfl
 have er1b:∀n,(∀c ∈ er1,aN n c)=True:=λ n=>by rw [her1];simp [go_sem]
 rw [<- her1] at hG ⊢;have hd12:List.take 18 (List.drop 12 (er1++(er++ [AV.lst 1 (x.picks.map AH)])))=er:=by
  rw [<- er1l,List.drop_left,<- rl,List.take_left]
 obtain ⟨w0,w1⟩:=hw;have hwr:MI .u8 w:=⟨w0,w1⟩
 have hgl:∀g:ae,(ai g).length=9:=λ _=>rfl;have hgb:∀ (g:ae) n,(∀c ∈ ai g,aN n c)=True:=λ g n=>no;refine pF Tryz.func10 ?_;refine J4 rl rb er1l er1b ?_;refine zg7 hG (by simp [go_sem,er1b]) ?_;refine J4 rl rb er1l er1b ?_;refine zg4 (λ h4=> ?_) (λ h4=> ?_)<;>simp at h4
 ·rw [if_pos h4] at hgw;subst hgw;refine J4 rl rb er1l er1b ?_;refine aP hP1 ?_;refine J5 rl rb er1l er1b hd12 ?_;refine zhc hM (by simp [go_sem,rb]) ?_;exact K2 rl rb
 ·rw [if_neg h4] at hgw;subst hgw;refine J4 rl rb er1l er1b ?_;refine aP hP2 ?_;refine J5 rl rb er1l er1b hd12 ?_;refine zhc hM (by simp [go_sem,rb]) ?_;exact K2 rl rb
end Go.Av
end
section
/- chapter 23's law: its examples. -/
set_option linter.unusedSectionVars false
open Go Go.Proofs
namespace Go.Av
open af
def jB:ae:=DO [[(1,0)]]
def ky:ae:=DO [[(1,0)], [(1,1)]]
def Fe:ae:={ jB with must:=true}
theorem zbN (n:Nat) (hn:n=4000∨n=32):b9 jB n 4002 0 [bv (cN 1 0 0 0) 0] [] []=some ([cN 1 0 0 0,cN 0 1 0 0,cN 0 0 1 0], [[1], [2], []], [[], [], []]):=by
 rcases hn with rfl|rfl<;>kernel_rfl
theorem zfN:b9 jB 4000 4002 0 [bv (cN 0 0 2 0) 0] [] []=some ([cN 0 0 2 0,cN 0 2 0 0,cN 2 0 0 0], [[], [], []], [[1], [2], []]):=Pi
theorem zfO:b9 jB 4000 4002 0 [bv (cN 1 0 2 0) 0] [] []=some ([cN 1 0 2 0,cN 0 1 2 0,cN 1 2 0 0], [[1], [], []], [[2], [], []]):=Pi
variable {L R:List (List Nat)}
theorem JI {g:ae}{lim f i:Nat}{P P2:List aa}{o0 o1:List aa}{A B:List Nat} (hi:decide (i<P.length)=true) (h0:bV g (ac P i) 0=o0) (h1:bV g (ac P i) 1=o1)
  (hP:o1.foldl dV (o0.foldl dV P)=P2) (hle:decide (P2.length<=lim)=true) (hA:(Fg P o0).2=A) (hB:(Fg (o0.foldl dV P) o1).2=B):b9 g lim (f+1) i P L R=b9 g lim f (i+1) P2 (L++ [A]) (R++ [B]):=by
 grind [b9]
theorem PO {a b:aa}{l:List aa} (hm:∀q,q ∈ l↔q ∈ [a,b]) (h:decide (bi a b<0)=true):bd bi l= [a,b]:=by
 refine ir bp ?_ hm;grind
theorem zcs:an ky (cN 0 1 0 0)= [cN 0 0 1 1,cN 1 0 0 1]:=by
 rw [an,if_neg XK,show kM ky (cN 0 1 0 0)= [cN 0 0 1 1,cN 1 0 0 1] by kernel_rfl];exact PO (λ q=>Iff.rfl) Pi
theorem zfP:b9 ky 4000 4002 0 [bv (cN 1 0 0 0) 0] [] []=some ([cN 1 0 0 0,cN 0 1 0 0,cN 0 0 1 0], [[1], [2,0], [1]], [[], [], []]):=by
 have e1:bV ky (cN 0 1 0 0) 0= [cN 0 0 1 0,cN 1 0 0 0]:=by
  grind [bV,bv,cN,zcs]
 refine (JI (f:=4001) (o0:= [cN 0 1 0 0]) (o1:= []) (P2:= [cN 1 0 0 0,cN 0 1 0 0]) (A:= [1]) (B:= []) Pi Pi Pi Pi Pi Pi Pi).trans ?_;refine (JI (f:=4000) (o0:= [cN 0 0 1 0,cN 1 0 0 0]) (o1:= []) (P2:= [cN 1 0 0 0,cN 0 1 0 0,cN 0 0 1 0]) (A:= [2,0]) (B:= []) Pi e1 Pi Pi Pi Pi Pi).trans ?_;kernel_rfl
theorem zew (s:Int) (hs:s=0∨s=1):aw (aW jB) (cN 1 0 0 s)= [cN 1 0 0 s]:=by
 rcases hs with rfl|rfl<;>kernel_rfl
theorem zex (s:Int) (hs:s=0∨s=1):aw (aW jB) (cN 1 0 2 s)= [cN 1 0 2 s]:=by
 rcases hs with rfl|rfl<;>kernel_rfl
theorem zey (s:Int) (hs:s=0∨s=1):aw (aW ky) (cN 1 0 0 s)= [cN 1 0 0 s]:=by
 rcases hs with rfl|rfl<;>kernel_rfl
theorem zbY {d i:Nat} (h:zG (iI L R) d i):re L R i=jV L R d i:=by
 have hx:∃d,zG (iI L R) d i:=⟨d,h⟩
 grind [re,BX]
def dpB (nx:Nat->List Nat):Nat->Nat->Bool
 |0, _=>false
 |d+1,i=>(nx i).all (dpB nx d)
theorem zbH {nx:Nat->List Nat}:∀ (d i:Nat),dpB nx d i=true->zG nx d i
 |0, _,h=>WP
 |d+1,i,h=>λ j hj=>zbH d j (List.all_eq_true.1 h j hj)
theorem GX {P:List aa} (d:Nat) (f:af) (hb:xM L R P.length=false) (hd:dpB (iI L R) d 0=true) (hf:jV L R d 0=f) (hs:decide (f.size<=2000)=true):nu (some (P,L,R))=(f,0):=by
 grind [nu,zbY,zbH]
theorem tt:aZ jB=true:=Pi
theorem Kq:aZ ky=true:=Pi
theorem zbZ (s:Int):bW jB (cN 1 0 0 s)=(.mk [.mk [.mk [] []] []] [],0):=by
 have e:=zbN 4000 (.inl rfl);rw [bW,if_pos tt,show bv (cN 1 0 0 s) 0=bv (cN 1 0 0 0) 0 from rfl,e];exact GX 4 _ Pi Pi Pi Pi
theorem zfR:bW jB (cN 0 0 2 0)=(.mk [] [.mk [] [.mk [] []]],0):=by
 rw [bW,if_pos tt,zfN];exact GX 4 _ Pi Pi Pi Pi
theorem zb0 (s:Int):bW jB (cN 1 0 2 s)=(.mk [.mk [] []] [.mk [] []],0):=by
 rw [bW,if_pos tt,show bv (cN 1 0 2 s) 0=bv (cN 1 0 2 0) 0 from rfl,zfO];exact GX 4 _ Pi Pi Pi Pi
theorem zb1 (s:Int):bW ky (cN 1 0 0 s)=(zero,210):=by
 have hb:xM [[1], [2,0], [1]] [[], [], []] 3=true:=Pi;grind [bW,Kq,bv,cN,zfP,nu]
theorem zfS:bW Fe (cN 1 0 0 0)=(zero,230):=by
 rfl
theorem zgY (s:Int) (hs:s=0∨s=1):eO jB (cN 1 0 0 s)=(.mk [.mk [.mk [] []] []] [],0):=by
 rw [eO,if_pos tt,zew s hs,ll,zbZ];kernel_rfl
theorem zcZ (s:Int) (hs:s=0∨s=1):eO jB (cN 1 0 2 s)=(.mk [.mk [] []] [.mk [] []],0):=by
 rw [eO,if_pos tt,zex s hs,ll,zb0];kernel_rfl
theorem zgZ (s:Int) (hs:s=0∨s=1):eO ky (cN 1 0 0 s)=(zero,210):=by
 grind [eO,Kq,zey,ll,zb1]
theorem zfU:w9 jB (cN 1 0 0 0)=(([[1], [2], []], [[], [], []]),0):=by
 rw [w9,if_pos tt,zbN 32 (.inr rfl)];rfl
theorem zgV:CN jB (cN 1 0 0 1)=((2,2),0):=by
 rw [CN,zgY 1 (.inr rfl)];kernel_rfl
theorem zgW:CN jB (cN 1 0 2 1)=((-1,1),0):=by
 rw [CN,zcZ 1 (.inr rfl)];kernel_rfl
theorem zgi:oN jB (cN 1 0 2 0)=(0,0):=by
 rw [oN,zcZ 0 (.inl rfl)];kernel_rfl
theorem zgj:oN jB (cN 1 0 2 1)=(1,0):=by
 rw [oN,zcZ 1 (.inr rfl)];kernel_rfl
theorem zfx:xJ ky (cN 1 0 0 0)=([cN 0 1 0 1,cN 1 0 0 0],0):=by
 have e:xJ ky (cN 1 0 0 0)=(bd bi [cN 1 0 0 0,cN 0 1 0 1],0):=Pi;rw [e,PO (a:=cN 0 1 0 1) (b:=cN 1 0 0 0) (λ q=>by grind) Pi]
theorem zgd (s:Int) (hs:s=0∨s=1):eG ky (cN 1 0 0 s)=(0,0):=by
 rcases hs with rfl|rfl
 ·rw [eG,zfx];kernel_rfl
 ·kernel_rfl
theorem ze7 (s:Int) (hs:s=0∨s=1):oN ky (cN 1 0 0 s)=(0,0):=by
 grind [oN,zgZ,zgd]
theorem zfB:(sZ jB (cN 0 0 2 0)).2=270:=by
 rw [sZ,if_pos tt,show an jB (cN 0 0 2 0)= [] by kernel_rfl];rfl
end Go.Av
end
section
/- chapter 23's law: sanity. -/
set_option linter.unusedSectionVars false
open Go Go.Proofs
namespace Go.Av
open af
theorem FB (n:Int) (hn:n=0∨n=1):uS 2 1 0 [(1,n)]:=by
 rcases hn with rfl|rfl;all_goals
  refine ⟨Wm,Wm,λ x hx=> ?_,Wm,Wm,Wm⟩;simp only [List.mem_cons,List.not_mem_nil,or_false] at hx;subst hx;exact ⟨Wm,Wm,Wm,Wm,Wm⟩
theorem so:bN jB:=by
 refine ⟨?_,Wm,Wm,Wm,Wm, ?_,Wm,Wm, ?_, ?_,Wm,Wm, ?_,Wm,Wm,Wm⟩
 ·refine ⟨?_, ?_, ?_, ?_, ?_, ?_, ?_⟩<;>first|decide|skip
 ·intro d hd;have:d=0∨d=1:=by
   have:jB.turn.length=2:=rfl
   omega
  rcases this with rfl|rfl<;>decide
 ·intro k hk;simp only [jB,DO,List.mem_singleton] at hk;subst hk;decide
 ·intro k hk q hq;simp only [jB,DO,List.mem_singleton] at hk;subst hk;simp only [List.mem_cons,List.not_mem_nil,or_false] at hq;subst hq;exact FB 0 (.inl rfl)
 ·intro c hc;simp [jB,DO] at hc
theorem zcC:oO jB [0]:=⟨rfl,λ i hi=>by
 obtain rfl:i=0:=Wv;exact ⟨Wm,Wm,Wm⟩⟩
theorem wM (a b c side:Int) (ha:0<=a∧a<=2) (hb:0<=b∧b<=2) (hc:0<=c∧c<=2) (hs:side=0∨side=1):bw jB (cN a b c side):=
 ⟨rfl,by
  intro x hx;simp only [cN,List.mem_cons,List.not_mem_nil,or_false] at hx;have:(jB.kinds.length:Int)=1:=rfl
  rcases hx with rfl|rfl|rfl<;>omega,zcC,zcC,by simp [cN],by simp [cN];decide,hs⟩
theorem Gp:bN ky:=by
 refine ⟨?_,Wm,Wm,Wm,Wm, ?_,Wm,Wm, ?_, ?_,Wm,Wm, ?_,Wm,Wm,Wm⟩
 ·refine ⟨?_, ?_, ?_, ?_, ?_, ?_, ?_⟩<;>first|decide|skip
 ·intro d hd;have:d=0∨d=1:=by
   have:ky.turn.length=2:=rfl
   omega
  rcases this with rfl|rfl<;>decide
 ·intro k hk;simp only [ky,DO,List.mem_singleton] at hk;subst hk;decide
 ·intro k hk q hq;simp only [ky,DO,List.mem_singleton] at hk;subst hk;simp only [List.mem_cons,List.not_mem_nil,or_false] at hq;rcases hq with rfl|rfl
  ·exact FB 0 (.inl rfl)
  ·exact FB 1 (.inr rfl)
 ·intro c hc;simp [ky,DO] at hc
theorem Ta:oO ky [0]:=⟨rfl,λ i hi=>by
 obtain rfl:i=0:=Wv;exact ⟨Wm,Wm,Wm⟩⟩
theorem LA (a b c side:Int) (ha:0<=a∧a<=2) (hb:0<=b∧b<=2) (hc:0<=c∧c<=2) (hs:side=0∨side=1):bw ky (cN a b c side):=
 ⟨rfl,by
  intro x hx;simp only [cN,List.mem_cons,List.not_mem_nil,or_false] at hx;have:(ky.kinds.length:Int)=1:=rfl
  rcases hx with rfl|rfl|rfl<;>omega,Ta,Ta,by simp [cN],by simp [cN];decide,hs⟩
theorem zeo:bN Fe:=by
 refine ⟨?_,Wm,Wm,Wm,Wm, ?_,Wm,Wm, ?_, ?_,Wm,Wm, ?_,Wm,Wm,Wm⟩
 ·refine ⟨?_, ?_, ?_, ?_, ?_, ?_, ?_⟩<;>first|decide|skip
 ·intro d hd;have:d=0∨d=1:=by
   have:Fe.turn.length=2:=rfl
   omega
  rcases this with rfl|rfl<;>decide
 ·intro k hk;simp only [Fe,jB,DO,List.mem_singleton] at hk;subst hk;decide
 ·intro k hk q hq;simp only [Fe,jB,DO,List.mem_singleton] at hk;subst hk;simp only [List.mem_cons,List.not_mem_nil,or_false] at hq;subst hq;exact FB 0 (.inl rfl)
 ·intro c hc;simp [Fe,jB,DO] at hc
theorem zcz:oO Fe [0]:=⟨rfl,λ i hi=>by
 obtain rfl:i=0:=Wv;exact ⟨Wm,Wm,Wm⟩⟩
theorem zf4 (a b c side:Int) (ha:0<=a∧a<=2) (hb:0<=b∧b<=2) (hc:0<=c∧c<=2) (hs:side=0∨side=1):bw Fe (cN a b c side):=
 ⟨rfl,by
  intro x hx;simp only [cN,List.mem_cons,List.not_mem_nil,or_false] at hx;have:(Fe.kinds.length:Int)=1:=rfl
  rcases hx with rfl|rfl|rfl<;>omega,zcz,zcz,by simp [cN],by simp [cN];decide,hs⟩
theorem wK:dI jB:= .inl rfl
theorem Lz:dI ky:= .inl rfl
theorem zf3:dI Fe:= .inl rfl
theorem nI:aq Tryz.prog 9 [] (.bool true):=by
 have p1:=pz 1 0 0 0;have p2:=pz 0 0 2 0;have p3:=pz 1 0 2 0;have p4:=pz 1 0 0 1;have p5:=pz 1 0 2 1;have fa:=jn jB so wK (cN 1 0 0 0) (wM 1 0 0 0 Wm Wm Wm (.inl rfl));have fb:=jn jB so wK (cN 0 0 2 0) (wM 0 0 2 0 Wm Wm Wm (.inl rfl));have fc:=jn jB so wK (cN 1 0 2 0) (wM 1 0 2 0 Wm Wm Wm (.inl rfl));have fd:=jn ky Gp Lz (cN 1 0 0 0) (LA 1 0 0 0 Wm Wm Wm (.inl rfl));have fe:=jn Fe zeo zf3 (cN 1 0 0 0) (zf4 1 0 0 0 Wm Wm Wm (.inl rfl));rw [zbZ] at fa;rw [zfR] at fb;rw [zb0] at fc;simp only at fa fb fc;obtain ⟨A,hA⟩:∃A:af,A= .mk [.mk [.mk [] []] []] []:=⟨_,rfl⟩
 obtain ⟨B,hB⟩:∃B:af,B= .mk [] [.mk [] [.mk [] []]]:=⟨_,rfl⟩
 obtain ⟨C,hC⟩:∃C:af,C= .mk [.mk [] []] [.mk [] []]:=⟨_,rfl⟩
 have zA:A.size<=2000:=by rw [hA];decide
 have zB:B.size<=2000:=by rw [hB];decide
 have zC:C.size<=2000:=by rw [hC];decide
 have gA:=sF A zA 0;have gB:=sF B zB 0;have gC:=sF C zC 0;have tA:=mN _ A (Nat.le_refl _) ge;have tB:=mN _ B (Nat.le_refl _) ge;have kC:=KV _ C (Nat.le_refl _) ge;rw [show C.canon=C by rw [hC];kernel_rfl] at kC;have tC:=mN _ C (Nat.le_refl _) ge;rw [show iA A=⟨#[123,123,123,124,125,124,125,124,125]⟩ by rw [hA];kernel_rfl] at tA;rw [show iA B=⟨#[123,124,123,124,123,124,125,125,125]⟩ by rw [hB];kernel_rfl] at tB;rw [show iA C=⟨#[123,123,124,125,124,123,124,125,125]⟩ by rw [hC];kernel_rfl] at tC;rw [<- hA,aH] at fa;rw [<- hB,aH] at fb;rw [<- hC,aH] at fc;rw [aH] at gA gB gC;rw [bS,aH] at tA tB tC kC;clear hA hB hC;rw [zb1] at fd;rw [zfS] at fe;have sa:=yR jB so wK (cN 1 0 0 1) (wM 1 0 0 1 Wm Wm Wm (.inr rfl));have sc:=yR jB so wK (cN 1 0 2 1) (wM 1 0 2 1 Wm Wm Wm (.inr rfl));rw [zgV] at sa;rw [zgW] at sc;have la:=Es jB so wK (cN 1 0 0 0) (wM 1 0 0 0 Wm Wm Wm (.inl rfl));rw [zfU] at la;have w1:=tX ky Gp Lz (cN 1 0 0 0) (LA 1 0 0 0 Wm Wm Wm (.inl rfl));have w2:=tX ky Gp Lz (cN 1 0 0 1) (LA 1 0 0 1 Wm Wm Wm (.inr rfl));have w3:=tX jB so wK (cN 1 0 2 0) (wM 1 0 2 0 Wm Wm Wm (.inl rfl));have w4:=tX jB so wK (cN 1 0 2 1) (wM 1 0 2 1 Wm Wm Wm (.inr rfl));rw [ze7 0 (.inl rfl)] at w1;rw [ze7 1 (.inr rfl)] at w2;rw [zgi] at w3;rw [zgj] at w4;have mb:=AY jB so wK (cN 0 0 2 0) (wM 0 0 2 0 Wm Wm Wm (.inl rfl));rw [zfB] at mb;have e1:ai jB= [.int 3, .lst 1 [[.lst 1 [[.int 1], [.int 2], [.int (-1)]]], [.lst 1 [[.int (-1)], [.int 0], [.int 1]]]], .lst 1 [[.int 1], [.int 0]], .lst 3 [[.v (.string ⟨#[97]⟩), .lst 1 [[.lst 2 [[.int 1, .int 0]]]], .v (.bool false)]], .int 0, .v (.bool false), .lst 4 [], .int 3, .int 2]:=rfl
 have e2:ai ky= [.int 3, .lst 1 [[.lst 1 [[.int 1], [.int 2], [.int (-1)]]], [.lst 1 [[.int (-1)], [.int 0], [.int 1]]]], .lst 1 [[.int 1], [.int 0]], .lst 3 [[.v (.string ⟨#[97]⟩), .lst 1 [[.lst 2 [[.int 1, .int 0]]], [.lst 2 [[.int 1, .int 1]]]], .v (.bool false)]], .int 0, .v (.bool false), .lst 4 [], .int 3, .int 2]:=rfl;have e3:ai Fe= [.int 3, .lst 1 [[.lst 1 [[.int 1], [.int 2], [.int (-1)]]], [.lst 1 [[.int (-1)], [.int 0], [.int 1]]]], .lst 1 [[.int 1], [.int 0]], .lst 3 [[.v (.string ⟨#[97]⟩), .lst 1 [[.lst 2 [[.int 1, .int 0]]]], .v (.bool false)]], .int 0, .v (.bool true), .lst 4 [], .int 3, .int 2]:=rfl;have r1:aq Tryz.prog 41 [.lst 1 [[.lst 2 [[.int 1, .int 0]]]]] (.agg (ai jB)):=H1 [[(1,0)]];have r2:aq Tryz.prog 41 [.lst 1 [[.lst 2 [[.int 1, .int 0]]], [.lst 2 [[.int 1, .int 1]]]]] (.agg (ai ky)):=H1 [[(1,0)], [(1,1)]];rw [p9] at fd fe;generalize (sZ jB (cN 0 0 2 0)).1=bq at *;obtain ⟨q1,h1⟩:∃q,q=ak (cN 1 0 0 0):=⟨_,rfl⟩
 obtain ⟨q2,h2⟩:∃q,q=ak (cN 0 0 2 0):=⟨_,rfl⟩
 obtain ⟨q3,h3⟩:∃q,q=ak (cN 1 0 2 0):=⟨_,rfl⟩
 obtain ⟨q4,h4⟩:∃q,q=ak (cN 1 0 0 1):=⟨_,rfl⟩
 obtain ⟨q5,h5⟩:∃q,q=ak (cN 1 0 2 1):=⟨_,rfl⟩
 rw [<- h1] at p1 fa fd fe la w1;rw [<- h2] at p2 fb mb;rw [<- h3] at p3 fc w3;rw [<- h4] at p4 sa w2;rw [<- h5] at p5 sc w4;have l1:q1.length=5:=by rw [h1];rfl
 have l2:q2.length=5:=by rw [h2];rfl
 have l3:q3.length=5:=by rw [h3];rfl
 have l4:q4.length=5:=by rw [h4];rfl
 have l5:q5.length=5:=by rw [h5];rfl
 have b1:∀n,(∀c ∈ q1,aN n c)=True:=λ n=>by rw [h1];simp [go_sem]
 have b2:∀n,(∀c ∈ q2,aN n c)=True:=λ n=>by rw [h2];simp [go_sem]
 have b3:∀n,(∀c ∈ q3,aN n c)=True:=λ n=>by rw [h3];simp [go_sem]
 have b4:∀n,(∀c ∈ q4,aN n c)=True:=λ n=>by rw [h4];simp [go_sem]
 have b5:∀n,(∀c ∈ q5,aN n c)=True:=λ n=>by rw [h5];simp [go_sem]
 clear h1 h2 h3 h4 h5;rw [e1] at fa fb fc sa sc la w3 w4 mb r1;rw [e2] at fd w1 w2 r2;rw [e3] at fe;have t73:r9 Tryz.prog 73=none:=Pi;have d73:Mp Tryz.prog 73=some [false,false,false]:=Pi;refine pF Tryz.func9 ?_;refine J0 ?_;refine zha [0,1] r1 ?_ no ?_
 ·(first|done|exact zJ)
 refine J0 ?_;refine zha [2,3,4] r2 ?_ no ?_
 ·(first|done|exact zJ)
 refine J0 ?_;refine zhc p1 Wn ?_;refine y7 l1 l2 l3 l4 l5 b1 b2 b3 b4 b5 ?_;refine zhc fa Wn ?_;refine y7 l1 l2 l3 l4 l5 b1 b2 b3 b4 b5 ?_;refine zhc p2 Wn ?_;refine y7 l1 l2 l3 l4 l5 b1 b2 b3 b4 b5 ?_;refine zhc fb Wn ?_;refine y7 l1 l2 l3 l4 l5 b1 b2 b3 b4 b5 ?_;refine zhc p3 Wn ?_;refine y7 l1 l2 l3 l4 l5 b1 b2 b3 b4 b5 ?_;refine zhc fc Wn ?_;refine y7 l1 l2 l3 l4 l5 b1 b2 b3 b4 b5 ?_;refine zhc p4 Wn ?_;refine y7 l1 l2 l3 l4 l5 b1 b2 b3 b4 b5 ?_;refine zhc sa Wn ?_;refine y7 l1 l2 l3 l4 l5 b1 b2 b3 b4 b5 ?_;refine zhc p5 Wn ?_;refine y7 l1 l2 l3 l4 l5 b1 b2 b3 b4 b5 ?_;refine zhc sc Wn ?_;refine y7 l1 l2 l3 l4 l5 b1 b2 b3 b4 b5 ?_;refine zhc p1 Wn ?_;refine y7 l1 l2 l3 l4 l5 b1 b2 b3 b4 b5 ?_;refine zhc la Wn ?_;refine y7 l1 l2 l3 l4 l5 b1 b2 b3 b4 b5 ?_;refine zg7 gA Wn ?_;refine y7 l1 l2 l3 l4 l5 b1 b2 b3 b4 b5 ?_;refine zhb _ (λ _=>gB) Wn ?_;refine y7 l1 l2 l3 l4 l5 b1 b2 b3 b4 b5 ?_;refine zhb _ (λ _=>gC) Wn ?_;refine y7 l1 l2 l3 l4 l5 b1 b2 b3 b4 b5 ?_;refine zhb _ (λ _=>tA) Wn ?_;refine y7 l1 l2 l3 l4 l5 b1 b2 b3 b4 b5 ?_;refine zhb _ (λ _=>tB) Wn ?_;refine y7 l1 l2 l3 l4 l5 b1 b2 b3 b4 b5 ?_;refine zhb _ (λ _=>kC) Wn ?_;refine y7 l1 l2 l3 l4 l5 b1 b2 b3 b4 b5 ?_;refine zhb _ (λ _=>tC) Wn ?_;refine y7 l1 l2 l3 l4 l5 b1 b2 b3 b4 b5 ?_;refine J12 t73 d73 l1 l2 l3 l4 l5 b1 b2 b3 b4 b5 ?_;have hSL:=FQ [[1], [2], []] [[], [], []] Wm Wm Wm Wm;try ((with_reducible refine wZ ?_);(try simp [go_sem]))
 refine zhI [.agg [aG [[1], [2], []],aG [[], [], []]], .agg [aG [[1], [2], []],aG [[], [], []]]] (.bool true) [44,45,46,47,48,49,50,51] (λ _=>hSL) (.v _) ?_ no ?_
 ·intro h₁ hS;have k1:=(hS 44 gt).symm;have k2:=(hS 45 gt).symm;have k3:=(hS 46 gt).symm;have k4:=(hS 47 gt).symm;have k5:=(hS 48 gt).symm;have k6:=(hS 49 gt).symm;have k7:=(hS 50 gt).symm;have k8:=(hS 51 gt).symm;clear hS;simp [aC] at k1 k2 k3 k4 k5 k6 k7 k8;have x1:aG [[1], [2], []]= .lst 1 [[.lst 1 [[.int 1]]], [.lst 1 [[.int 2]]], [.lst 1 []]]:=rfl;have x2:aG [[], [], []]= .lst 1 [[.lst 1 []], [.lst 1 []], [.lst 1 []]]:=rfl;refine .cons (.refl _) (.cons (.agg ?_) .nil);rw [x1,x2];(first|done|exact Qx8 k1 k2 k3 k4 k5 k6 k7 k8)
 refine y7 l1 l2 l3 l4 l5 b1 b2 b3 b4 b5 ?_;refine zg9 _ (λ _=>p1) Wn ?_;refine y7 l1 l2 l3 l4 l5 b1 b2 b3 b4 b5 ?_;refine zg9 _ (λ _=>fd) Wn ?_;refine y7 l1 l2 l3 l4 l5 b1 b2 b3 b4 b5 ?_;refine zhc p1 Wn ?_;refine y7 l1 l2 l3 l4 l5 b1 b2 b3 b4 b5 ?_;refine zhc w1 Wn ?_;refine y7 l1 l2 l3 l4 l5 b1 b2 b3 b4 b5 ?_;refine zg9 _ (λ _=>p4) Wn ?_;refine y7 l1 l2 l3 l4 l5 b1 b2 b3 b4 b5 ?_;refine zg9 _ (λ _=>w2) Wn ?_;refine y7 l1 l2 l3 l4 l5 b1 b2 b3 b4 b5 ?_;refine zg9 _ (λ _=>p3) Wn ?_;refine y7 l1 l2 l3 l4 l5 b1 b2 b3 b4 b5 ?_;refine zg9 _ (λ _=>w3) Wn ?_;refine y7 l1 l2 l3 l4 l5 b1 b2 b3 b4 b5 ?_;refine zg9 _ (λ _=>p5) Wn ?_;refine y7 l1 l2 l3 l4 l5 b1 b2 b3 b4 b5 ?_;refine zg9 _ (λ _=>w4) Wn ?_;refine y7 l1 l2 l3 l4 l5 b1 b2 b3 b4 b5 ?_;refine zg9 _ (λ _=>p2) Wn ?_;refine y7 l1 l2 l3 l4 l5 b1 b2 b3 b4 b5 ?_;refine zg9 _ (λ _=>mb) Wn ?_;refine y7 l1 l2 l3 l4 l5 b1 b2 b3 b4 b5 ?_;refine zg9 _ (λ _=>p1) Wn ?_;refine y7 l1 l2 l3 l4 l5 b1 b2 b3 b4 b5 ?_;refine zg9 _ (λ _=>fe) Wn ?_;exact K10 l1 l2 l3 l4 l5 b1 b2 b3 b4 b5
end Go.Av
end
section
open Go Go.Proofs
namespace Go.Av
variable {l:List UInt8} {caps first:Array Value} {e t:TypeId} {P:Program}
theorem zcY {fn:Fn} (hl:l≠ []) (h:funcToken P (t, .func fn first caps)=l):
  ∃f F,fn= .func f∧first= #[]∧caps= #[]∧P.funcs[f]? =some F∧P.funcNamed F.name=some f∧F.name.toUTF8.data.toList=l:=by
 unfold funcToken at h;cases fn with
 |func f=>
  simp only at h;split at h
  ·rename_i hc;simp only [Bool.and_eq_true,Array.isEmpty_iff] at hc;split at h
   ·rename_i F hF;split at h
    ·rename_i hn;exact ⟨f,F,rfl,hc.1,hc.2,hF,by simpa using hn,h⟩
    ·exact absurd h.symm hl
   ·exact absurd h.symm hl
  ·exact absurd h.symm hl
 | _=>exact absurd h.symm hl
variable {q:List MemPlace} {v:Value} {d:TypeDesc} {fuel:Nat} {sp:Nat->Bool} {W w:World}
theorem Mt  (hd:P.underlying e=some d) (hf:∃a b c,d= .func a b c) (h:DataW.trod (funcToken P) P w 0 sp true fuel e [v]=some (.held l,q)):
  ∃fn first caps,v= .func fn first caps∧funcToken P (e, .func fn first caps)=l:=by
 obtain ⟨a,b,c,rfl⟩:=hf;cases fuel with
 |zero=>simp [DataW.trod] at h
 |succ fuel=>
  simp only [DataW.trod,hd] at h;cases v<;>simp at h;exact ⟨_, _, _,rfl,h.1⟩
theorem zap  (hd:P.underlying e=some d) (hf:∃a b c,d= .func a b c) (h:DataW.trod (funcToken P) P w 0 sp true fuel e [v]=some (.nil,q)):v= .nilFunc:=by
 obtain ⟨a,b,c,rfl⟩:=hf;cases fuel with
 |zero=>simp [DataW.trod] at h
 |succ fuel=>
  simp only [DataW.trod,hd] at h;cases v<;>simp at h;rfl
theorem QH {a b:String} (h:a.toUTF8.data.toList=b.toUTF8.data.toList):a=b:=by
 have h1:a.toUTF8=b.toUTF8:=ByteArray.ext (Array.toList_inj.1 h);exact String.toByteArray_inj.1 h1
theorem GU {n:String}{k:FuncId}{fn:Fn} (hk:Tryz.prog.funcNamed n=some k) (hl:n.toUTF8.data.toList=l) (hne:l≠ []) (h:funcToken Tryz.prog (t, .func fn first caps)=l):fn= .func k∧first= #[]∧caps= #[]:=by
 obtain ⟨f,F,h1,h2,h3,h4,h5,h6⟩:=zcY hne h;have e:F.name=n:=QH (h6.trans hl.symm);rw [e,hk] at h5;cases h5;exact ⟨h1,h2,h3⟩
def xV:DataW Unit:= .agg [.nil, .iface "func" (.lit (.string [115,107,101,119,101,114,47,112,108,97,121,46,99,111,110,100,105,116,105,111,110,115,36,49])), .iface "func" (.lit (.string [115,107,101,119,101,114,47,112,108,97,121,46,99,111,110,100,105,116,105,111,110,115,36,50])), .iface "func" (.lit (.string [115,107,101,119,101,114,47,112,108,97,121,46,99,111,110,100,105,116,105,111,110,115,36,51]))]
theorem N1  (h:funcsAt Tryz.prog W "skewer/play.conditions" xV):
  ∃cs T fz,W.heap[0]? =some (.cells cs T fz)∧cs.toList= [.nilFunc, .func (.func 366) #[] #[], .func (.func 368) #[] #[], .func (.func 369) #[] #[]]:=by
 obtain ⟨g,t,cs,fuel,p,hg,ht,hcs,htr⟩:=h;obtain rfl:g=0:=(Option.some.inj ((show Tryz.prog.globalNamed "skewer/play.conditions" =some 0 by kernel_rfl).symm.trans hg)).symm;obtain rfl:t=308:=(Option.some.inj ((show (Tryz.prog.globals[0]?).map (·.type)=some 308 by kernel_rfl).symm.trans ht)).symm;have hu:Tryz.prog.underlying 308=some (.array 4 307):=Pi;have hc1:Tryz.prog.cellsOf 307=1:=Pi;have hc4:Tryz.prog.cellsOf 308=4:=Pi;have hheap:∃T fz,W.heap[0]? =some (.cells cs T fz):=by
  unfold World.var? at hcs;rw [show Tryz.prog.globalNamed "skewer/play.conditions" =some 0 by kernel_rfl] at hcs;simp only [Option.bind_some] at hcs;split at hcs
  ·rename_i c T fz hb;cases hcs;exact ⟨T,fz,hb⟩
  ·cases hcs
 obtain ⟨T,fz,hb⟩:=hheap;refine ⟨cs,T,fz,hb, ?_⟩;cases fuel with
 |zero=>simp [DataW.trod] at htr
 |succ fuel=>
  simp only [DataW.trod,hu,hc1,hc4,Nat.mul_one] at htr;split at htr
  ·rename_i hl;match hcl:cs.toList,hl with
   | [a,b,c,d], _=>
    rw [hcl] at htr;obtain ⟨xs,hm,hx⟩:=Option.map_eq_some_iff.1 htr;simp only [show List.range 4= [0,1,2,3] from rfl,List.mapM_cons,List.mapM_nil,List.drop_zero,List.drop_succ_cons,List.take_succ_cons,List.take_zero,Option.bind_eq_bind,Option.bind_eq_some_iff,Option.pure_def,Option.some.injEq] at hm;obtain ⟨⟨y0,q0⟩,h0,l1,⟨⟨y1,q1⟩,h1,l2,⟨⟨y2,q2⟩,h2,l3,⟨⟨y3,q3⟩,h3,l4,rfl,rfl⟩,rfl⟩,rfl⟩,rfl⟩:=hm;have hx1:=congrArg Prod.fst hx;simp only [xV,DataW.funcsOut,DataW.funcsOutAll,List.map_cons,List.map_nil,DataW.agg.injEq,List.cons.injEq,and_true] at hx1;simp at hx1;obtain ⟨rfl,rfl,rfl,rfl⟩:=hx1;have hd:Tryz.prog.underlying 307=some (.func #[41,44,154] #[4] false):=Pi;have hf:∃a b c,TypeDesc.func #[41,44,154] #[4] false= .func a b c:=⟨_, _, _,rfl⟩
    obtain rfl:=zap hd hf h0;obtain ⟨f1,i1,c1,rfl,t1⟩:=Mt hd hf h1;obtain ⟨f2,i2,c2,rfl,t2⟩:=Mt hd hf h2;obtain ⟨f3,i3,c3,rfl,t3⟩:=Mt hd hf h3;obtain ⟨rfl,rfl,rfl⟩:=GU (n:= "skewer/play.conditions$1") (k:=366) Pi XK gt t1;obtain ⟨rfl,rfl,rfl⟩:=GU (n:= "skewer/play.conditions$2") (k:=368) Pi XK gt t2;obtain ⟨rfl,rfl,rfl⟩:=GU (n:= "skewer/play.conditions$3") (k:=369) Pi XK gt t3;rfl
  ·cases htr
theorem o9  (h:funcsAt Tryz.prog W "skewer/play.conditions" xV):u9 W (λ _=>False):=by
 obtain ⟨cs,T,fz,hb,hcs⟩:=N1 h;have hsz:cs.size=4:=by rw [<- Array.length_toList,hcs];rfl
 intro q hq;have e:q=(0, [AV.v .nilFunc, .fn (.func 366) [] [], .fn (.func 368) [] [], .fn (.func 369) [] []]):=by simpa [zb2] using hq
 subst e;refine bY.fp (C:=cs) (T:=T) (fz:=fz) rfl (λ h=>h) hb (by simp [hsz]) ?_ ?_
 ·intro u hu;simp only [hcs,List.drop_zero] at hu;simp at hu;rcases hu with rfl|rfl|rfl|rfl<;>rfl
 ·simp only [hcs,List.drop_zero];exact .cons (.v _) (.cons (.fn .nil .nil) (.cons (.fn .nil .nil) (.cons (.fn .nil .nil) .nil)))
end Go.Av
end
section
open Go Go.Proofs Go.Av Go.ChangeShapes Go.RowKit
namespace Go.Proofs.YtgdfnfffibhkjaaGreatDoor
theorem xZ:ownKnob Tryz.prog.godebug=none:=Pi
theorem BH:laidOutB Tryz.prog=true:=Pi
abbrev zbG:List (String×DataW Unit):= [("math/bits.deBruijn32tab",Rows.laid_math_bits_deBruijn32tab),("math/bits.deBruijn64tab",Rows.laid_math_bits_deBruijn64tab),("internal/strconv.uint64pow10",Rows.laid_internal_strconv_uint64pow10),("skewer/play.conditions",Rows.laid_skewer_play_conditions)]
theorem xY (os:Os) (args:Array Value):laidMetH Tryz.prog zbG ((World.doorLaid Tryz.prog 29 os).forCall (λ _ _=>0) ⟨#[],args, []⟩).memory:=
 laidMetH_of_parts3 (fuel:=8) (laidMet_of_run' 8 Pi Pi) Pi Pi
theorem vu (os:Os) (args:Array Value):((World.doorLaid Tryz.prog 29 os).forCall (λ _ _=>0) ⟨#[],args, []⟩).variablesB Tryz.prog=true:=Pi
theorem vt (os:Os) (args:Array Value):(((World.doorLaid Tryz.prog 29 os).forCall (λ _ _=>0) ⟨#[],args, []⟩).heap.toList.drop Tryz.prog.globals.size).take ((begin Tryz.prog (λ _ _=>0) default).world.heap.size - Tryz.prog.globals.size)=
  (begin Tryz.prog (λ _ _=>0) default).world.heap.toList.drop Tryz.prog.globals.size:=Pi
end Go.Proofs.YtgdfnfffibhkjaaGreatDoor
end
section
/- Our library, part 14: arguments, as the statements read them, are values of the abstract domain. -/
namespace Go.Av
open Go

abbrev zdm:Nat->Prop:=λ _=>False

structure xh (B:Nat) (bk:∀ {H:Type},DataW H->Nat):Prop where
 len:∀ {H:Type} (l r:List (DataW H)),bk (.slice l r)<=B->l.length<=maxLen->l.length<=B
 elem:∀ {H:Type} (l r:List (DataW H)) d,d ∈ l->bk (.slice l r)<=B->bk d<=B
 part:∀ {H:Type} (l:List (DataW H)) d,d ∈ l->bk (.agg l)<=B->bk d<=B
 str:∀ {H:Type} (l:List UInt8),bk (DataW.lit (H:=H) (.string l))<=B->l.length<=maxLen->l.length<=B

theorem xh.any:xh maxLen (λ _=>0):=⟨λ _ _ _ h=>h,λ _ _ _ _ _=>Nat.zero_le _,λ _ _ _ _=>Nat.zero_le _,λ _ _ h=>h⟩

def nR (P:Program) (B:Nat) (bk:∀ {H:Type},DataW H->Nat){α:Type} (t:TypeId) (en:α->List AV) (Q:α->Prop):Prop:=
 ∀ {H:Type} (enc:TypeId×Value->H) (w:World) (fuel:Nat) (cs:List Value) (d:DataW H) (ps:List MemPlace),
  DataW.trod enc P w 0 (λ _=>true) true fuel t cs=some (d,ps)->bk d<=B->∃x,aU rT w zdm (en x) cs∧(∀c ∈ cs,gx c=true)∧cs.length=P.cellsOf t∧Q x

variable {before:List MemPlace} {args:Array Value} {again apart fresh handsOn:Bool} {s:ChangeSpec} {v:Value} {a:Addr} {W w:World} {t:TypeId}
section
variable {P:Program} {B:Nat} {bk:∀ {H:Type},DataW H->Nat}
theorem nR.int {t:TypeId}{k:IntKind} (ht:P.underlying t=some (.int k)) (hc:P.cellsOf t=1):nR P B bk t (λ n:Int=> [.v (.int k n)]) (λ n=>(Lit.int k n).wf=true):=by
 intro H enc w fuel cs d ps h _;obtain ⟨n,rfl, _,hw⟩:=DataW.trod_int ht h;exact ⟨n, .cons (.v _) .nil,Xg,Wy,hw⟩
theorem nR.bool {t:TypeId} (ht:P.underlying t=some .bool) (hc:P.cellsOf t=1):nR P B bk t (λ b:Bool=> [.v (.bool b)]) (λ _=>True):=by
 intro H enc w fuel cs d ps h _;obtain ⟨n,rfl, _⟩:=DataW.trod_bool ht h;exact ⟨n, .cons (.v _) .nil,Xg,Wy,trivial⟩
theorem nR.string {t:TypeId} (hB:xh B bk) (ht:P.underlying t=some .string) (hc:P.cellsOf t=1):nR P B bk t (λ s:ByteArray=> [.v (.string s)]) (λ s=>s.size<=B):=by
 intro H enc w fuel cs d ps h hb;obtain ⟨n,rfl,hx,hm⟩:=DataW.trod_string ht h;simp only [Prod.mk.injEq] at hx;obtain ⟨rfl, _⟩:=hx;refine ⟨n, .cons (.v _) .nil,Xg,Wy, ?_⟩;have:=hB.str _ hb (by simpa using hm);simpa using this
theorem nR.imp {α:Type}{en:α->List AV}{Q Q':α->Prop} (h:nR P B bk t en Q) (hq:∀x,Q x->Q' x):nR P B bk t en Q':=by
 intro H enc w fuel cs d ps h1 h2;obtain ⟨x,a,b,c,e⟩:=h enc w fuel cs d ps h1 h2;exact ⟨x,a,b,c,hq x e⟩
theorem nR.map {α β:Type}{en:α->List AV}{en':β->List AV}{Q:α->Prop}{Q':β->Prop} (h:nR P B bk t en Q) (f:α->β) (hq:∀x,Q x->Q' (f x)) (he:∀x,Q x->en' (f x)=en x):nR P B bk t en' Q':=by
 intro H enc w fuel cs d ps h1 h2;obtain ⟨x,a,b,c,e⟩:=h enc w fuel cs d ps h1 h2;exact ⟨f x,by rw [he x e];exact a,b,c,hq x e⟩
theorem Ax {n:Nat}{cs:List Value} (h:w.cells? 0 a n=some cs):cs.length=n∧∀i,i<n->w.cell? (a.add i)=cs[i]? :=by
 unfold World.cells? at h;rw [if_pos (Nat.zero_le _)] at h;exact ⟨by simpa using mapM_some_length h,λ i hi=>mapM_some_get h i i (by simp [hi])⟩
theorem D5  (h:w.cell? a=some v):∃C T fz,w.heap[a.block]? =some (.cells C T fz)∧a.spot=none∧C[a.off]? =some v:=by
 unfold World.cell? at h;split at h
 ·rename_i C T fz hb;split at h
  ·cases h
  ·rename_i hs;refine ⟨C,T,fz,hb, ?_,h⟩;cases hsp:a.spot with
   |none=>rfl
   |some x=>simp [hsp] at hs
 ·cases h
theorem C9 (a:Addr) (n:Nat):(a.add n).block=a.block:=by unfold Addr.add;split<;>rfl
theorem Ll (a:Addr) (n:Nat):(a.add n).off=a.off+n:=by
 unfold Addr.add;split
 ·rename_i h;subst h;rfl
 ·rfl
theorem CH {φ:aQ}{M:Nat->Prop}{rows:List (List AV)}{L:List Value}{sz:Nat} (hl:L.length=rows.length * sz)
  (h:∀i (hi:i<rows.length),aU φ w M rows[i] ((L.drop (i * sz)).take sz)):aU φ w M rows.flatten L:=by
 induction rows generalizing L with
 |nil=>simp at hl;subst hl;exact .nil
 |cons r rows ih=>
  have h0:=h 0 gt;simp only [List.getElem_cons_zero,Nat.zero_mul,List.drop_zero] at h0;rw [List.flatten_cons,<- List.take_append_drop sz L];refine aU.append h0 (ih (by simp at hl ⊢;rw [hl,Nat.add_mul];omega) λ i hi=> ?_);have:=h (i+1) Wv;simp only [List.getElem_cons_succ] at this;rw [List.drop_drop,show sz+i * sz=(i+1) * sz by rw [Nat.add_mul];omega];exact this
theorem Ef {α:Type} (n:Nat) (p:Nat->α->Prop) (h:∀i,i<n->∃x,p i x):∃l:List α,l.length=n∧∀i (hi:i<l.length),p i l[i]:=by
 induction n with
 |zero=>exact ⟨[],rfl,λ i hi=>by simp at hi⟩
 |succ n ih=>
  obtain ⟨l,hl,hp⟩:=ih λ i hi=>h i ge;obtain ⟨x,hx⟩:=h n ge;refine ⟨l++ [x],by simp [hl],λ i hi=> ?_⟩;rcases Nat.lt_or_ge i l.length with h1|h1
  ·rw [List.getElem_append_left h1];exact hp i h1
  ·have:i=n:=by simp at hi;omega
   subst this;simp [List.getElem_append_right,hl,hx]
theorem nR.slice {α:Type}{t e:TypeId}{en:α->List AV}{Q:α->Prop}{sz:Nat} (hB:xh B bk) (ht:P.underlying t=some (.slice e)) (hc:P.cellsOf t=1) (hz:P.cellsOf e=sz) (hp:0<sz)
  (he:nR P B bk e en Q):nR P B bk t (λ l:List α=> [.lst sz (l.map en)]) (λ l=>l.length<=B∧∀x ∈ l,Q x):=by
 intro H enc w fuel cs d ps h hb;rcases DataW.trod_slice ht h with ⟨rfl, _⟩|⟨a,len,cap,GD,rest,n,rfl,rfl,hx, _,hlen,hmax,hel,hget, _, _⟩
 ·exact ⟨[], .cons (.nil _ _ _) .nil,Xg,Wy,gt,gt⟩
 ·simp only [Prod.mk.injEq] at hx;obtain ⟨rfl, _⟩:=hx;rw [hz] at hget;have key:∀i (hi:i<len),∃x ci,w.cells? 0 (a.add (i * sz)) sz=some ci∧aU rT w zdm (en x) ci∧(∀c ∈ ci,gx c=true)∧Q x:=by
   intro i hi;have h1:=hget i hi;rw [List.getElem?_eq_getElem ge,Option.bind_eq_some_iff] at h1;obtain ⟨ci,h2,h3⟩:=h1;obtain ⟨x,a1,a2, _,a4⟩:=he enc w n ci GD[i].1 GD[i].2 h3 (hB.elem _ _ _ (List.mem_map.2 ⟨GD[i],List.getElem_mem _,rfl⟩) hb);exact ⟨x,ci,h2,a1,a2,a4⟩
  have hlb:len<=B:=by have:=hB.len _ _ hb WJ;simp at this;omega
  obtain ⟨l,hl,hx⟩:=Ef len _ key;refine ⟨l, ?_,Xg,Wy,ge,λ x hxm=> ?_⟩
  ·rcases Nat.eq_zero_or_pos len with h0|h0
   ·have:l= []:=List.eq_nil_of_length_eq_zero ge
    subst this;rw [h0];exact .cons (.nil _ _ _) .nil
   ·have cellI:∀i,i<len->∀j,j<sz->∃v,w.cell? (a.add (i * sz+j))=some v∧gx v=true:=by
     intro i hi j hj;obtain ⟨x,ci,h2,a1,a2,a3⟩:=key i hi;obtain ⟨hcl,hcg⟩:=Ax h2;refine ⟨ci[j], ?_,a2 _ (List.getElem_mem ge)⟩;have:=hcg j hj;rw [List.getElem?_eq_getElem ge] at this;rw [<- this];simp only [World.cell?,C9,Ll,Nat.add_assoc];by_cases hj0:j=0
     ·subst hj0;simp [Addr.add]
     ·simp [Addr.add,hj0]
    obtain ⟨v0,hv0, _⟩:=cellI 0 h0 0 hp;obtain ⟨C,T,fz,hC,hs, _⟩:=D5 hv0;simp only [Nat.zero_mul,Nat.zero_add,Addr.add,if_true] at hC hs;have cellC:∀k,k<len * sz->∃v,C[a.off+k]? =some v∧w.cell? (a.add k)=some v∧gx v=true:=by
     intro k hk;have hi:k / sz<len:=Nat.div_lt_of_lt_mul (by rw [Nat.mul_comm];exact hk);have hj:k % sz<sz:=Nat.mod_lt _ hp;obtain ⟨v,h1,h2⟩:=cellI _ hi _ hj;rw [show k / sz * sz+k % sz=k by rw [Nat.mul_comm];exact Nat.div_add_mod k sz] at h1;obtain ⟨C',T',fz',hC',hs',hv'⟩:=D5 h1;rw [C9,hC] at hC';simp only [Option.some.injEq,Obj.cells.injEq] at hC';obtain ⟨rfl, _, _⟩:=hC';rw [Ll] at hv';exact ⟨v,hv',h1,h2⟩
    have hsz:a.off+len * sz<=C.size:=by
     have hpos:0<len * sz:=Nat.mul_pos h0 hp;obtain ⟨v,h1, _⟩:=cellC (len * sz - 1) ge;have:=(Array.getElem?_eq_some_iff.1 h1).1;omega
    have hL:((C.toList.drop a.off).take (len * sz)).length=len * sz:=WJ;have hget:∀k,k<len * sz->((C.toList.drop a.off).take (len * sz))[k]? =C[a.off+k]? :=by
     intro k hk;rw [List.getElem?_take,if_pos hk,List.getElem?_drop];simp
    have hrl:∀i (hi:i<l.length),∃ci,w.cells? 0 (a.add (i * sz)) sz=some ci∧aU rT w zdm (en l[i]) ci:=λ i hi=>by
     obtain ⟨ci,h2,a1, _⟩:=hx i hi;exact ⟨ci,h2,a1⟩
    refine .cons (.lst (C:=C) (T:=T) (fz:=fz) hs (λ h=>h) hC (λ r hr=> ?_) WJ (by rw [List.length_map,hl];exact hsz) ge (λ u hu=> ?_) ?_) .nil
    ·obtain ⟨x,hxm,rfl⟩:=List.mem_map.1 hr;obtain ⟨i,hi,rfl⟩:=List.getElem_of_mem hxm;obtain ⟨ci,h2,a1⟩:=hrl i hi;rw [a1.length,(Ax h2).1]
    ·rw [List.length_map,hl] at hu;obtain ⟨k,hk,rfl⟩:=List.getElem_of_mem hu;rw [hL] at hk;obtain ⟨v,h1, _,h3⟩:=cellC k hk;have:=hget k hk;rw [List.getElem?_eq_getElem ge,h1] at this;simp only [Option.some.injEq] at this;rw [this];exact h3
    ·rw [List.length_map,hl];refine CH (sz:=sz) (by rw [hL,List.length_map,hl]) λ i hi=> ?_;rw [List.length_map] at hi;obtain ⟨ci,h2,a1⟩:=hrl i hi;rw [List.getElem_map];obtain ⟨hcl,hcg⟩:=Ax h2;have hle:(i+1) * sz<=len * sz:=Nat.mul_le_mul_right _ ge;rw [Nat.add_mul] at hle;have:ci=(((C.toList.drop a.off).take (len * sz)).drop (i * sz)).take sz:=by
      refine List.ext_getElem? λ j=> ?_;rcases Nat.lt_or_ge j sz with hj|hj
      ·rw [<- hcg j hj,List.getElem?_take,if_pos hj,List.getElem?_drop,hget _ ge];obtain ⟨v,h1,h3, _⟩:=cellC (i * sz+j) ge;rw [h1,<- h3];simp only [World.cell?,C9,Ll,Nat.add_assoc];by_cases hj0:j=0
       ·subst hj0;simp [Addr.add]
       ·simp [Addr.add,hj0]
      ·rw [List.getElem?_eq_none ge,List.getElem?_eq_none WJ]
     rw [<- this];exact a1
  ·obtain ⟨i,hi,rfl⟩:=List.getElem_of_mem hxm;obtain ⟨ci, _, _, _,a4⟩:=hx i hi;exact a4
theorem nR.array {α:Type}{t e:TypeId}{en:α->List AV}{Q:α->Prop}{n sz:Nat} (hB:xh B bk) (ht:P.underlying t=some (.array n e)) (hz:P.cellsOf e=sz) (hc:P.cellsOf t=n * sz)
  (he:nR P B bk e en Q):nR P B bk t (λ l:List α=>(l.map en).flatten) (λ l=>l.length=n∧∀x ∈ l,Q x):=by
 intro H enc w fuel cs d ps h hb;obtain ⟨xs,m, _,hx,hl,hxl,hget⟩:=DataW.trod_array ht h;simp only [Prod.mk.injEq] at hx;obtain ⟨rfl, _⟩:=hx;rw [hz] at hget;have key:∀i,i<n->∃x,aU rT w zdm (en x) ((cs.drop (i * sz)).take sz)∧(∀c ∈ (cs.drop (i * sz)).take sz,gx c=true)∧Q x:=by
  intro i hi;have h1:=hget i hi;rw [List.getElem?_eq_getElem ge] at h1;obtain ⟨x,a1,a2, _,a4⟩:=he enc w m _ xs[i].1 xs[i].2 h1 (hB.part _ _ (List.mem_map.2 ⟨xs[i],List.getElem_mem _,rfl⟩) hb);exact ⟨x,a1,a2,a4⟩
 obtain ⟨l,hll,hx⟩:=Ef n _ key;rw [hc] at hl;refine ⟨l,CH (sz:=sz) (by rw [List.length_map,hll];exact hl) (λ i hi=> ?_),λ c hcm=> ?_,by rw [hc];exact hl,hll,λ x hxm=> ?_⟩
 ·rw [List.length_map] at hi;rw [List.getElem_map];exact (hx i hi).1
 ·obtain ⟨k,hk,rfl⟩:=List.getElem_of_mem hcm;have hp:0<sz:=Nat.pos_of_ne_zero λ h0=>by subst h0;simp at hl;subst hl;simp at hk
  have hi:k / sz<n:=Nat.div_lt_of_lt_mul (by rw [Nat.mul_comm,<- hl];exact hk);have hj:k % sz<sz:=Nat.mod_lt _ hp;have e:k / sz * sz+k % sz=k:=by rw [Nat.mul_comm];exact Nat.div_add_mod k sz
  refine (hx (k / sz) ge).2.1 _ (List.mem_iff_getElem?.2 ⟨k % sz, ?_⟩);rw [List.getElem?_take,if_pos hj,List.getElem?_drop,e];exact List.getElem?_eq_getElem hk
 ·obtain ⟨i,hi,rfl⟩:=List.getElem_of_mem hxm;exact (hx i hi).2.2
def qO (P:Program) (B:Nat) (bk:∀ {H:Type},DataW H->Nat){α:Type} (ts:List TypeId) (en:α->List AV) (Q:α->Prop):Prop:=
 ∀ {H:Type} (enc:TypeId×Value->H) (w:World) (fuel:Nat) (cs:List Value),cs.length=(ts.map P.cellsOf).sum->
  (∀i (hi:i<ts.length),∃d ps,DataW.trod enc P w 0 (λ _=>true) true fuel ts[i] ((cs.drop ((ts.take i).map P.cellsOf).sum).take (P.cellsOf ts[i]))=some (d,ps)∧bk d<=B)->
  ∃x,aU rT w zdm (en x) cs∧(∀c ∈ cs,gx c=true)∧Q x
theorem qO.nil:qO P B bk [] (λ _:Unit=> []) (λ _=>True):=by
 intro H enc w fuel cs hl _;have:cs= []:=List.eq_nil_of_length_eq_zero (by simpa using hl)
 subst this;exact ⟨(), .nil,gt,trivial⟩
theorem qO.cons {α β:Type}{t:TypeId}{ts:List TypeId}{en:α->List AV}{Q:α->Prop}{en':β->List AV}{Q':β->Prop} (h:nR P B bk t en Q) (h':qO P B bk ts en' Q'):
  qO P B bk (t::ts) (λ x:α×β=>en x.1++en' x.2) (λ x=>Q x.1∧Q' x.2):=by
 intro H enc w fuel cs hl hd;obtain ⟨d,ps,h1,h2⟩:=hd 0 gt;simp only [List.getElem_cons_zero,List.take_zero,List.map_nil,List.sum_nil,List.drop_zero] at h1;obtain ⟨x,a1,a2,a3,a4⟩:=h enc w fuel _ d ps h1 h2;obtain ⟨y,b1,b2,b3⟩:=h' enc w fuel (cs.drop (P.cellsOf t)) (by simp at hl ⊢;omega) (λ i hi=>by
  obtain ⟨d,ps,k1,k2⟩:=hd (i+1) Wv;simp only [List.getElem_cons_succ,List.take_succ_cons,List.map_cons,List.sum_cons] at k1;exact ⟨d,ps,by rw [List.drop_drop];exact k1,k2⟩)
 refine ⟨(x,y), ?_,λ c hc=> ?_,a4,b3⟩
 ·rw [<- List.take_append_drop (P.cellsOf t) cs];exact aU.append a1 b1
 ·rw [<- List.take_append_drop (P.cellsOf t) cs] at hc;rcases List.mem_append.1 hc with hc|hc
  ·exact a2 c hc
  ·exact b2 c hc
def Oo (P:Program) (t:TypeId) (ts:List TypeId):Bool:=match P.underlying t with
 |some (.struct fs)=>decide (fs.toList.map (·.type)=ts) && decide (fs.toList.map (·.offset)=(List.range ts.length).map λ i=>((ts.take i).map P.cellsOf).sum) && decide (P.cellsOf t=(ts.map P.cellsOf).sum)
 | _=>false
theorem nR.struct {α:Type}{ts:List TypeId}{en:α->List AV}{Q:α->Prop} (hB:xh B bk) (ht:Oo P t ts=true) (h:qO P B bk ts en Q):nR P B bk t en Q:=by
 unfold Oo at ht;split at ht
 ·rename_i fs hfs;simp only [Bool.and_eq_true,decide_eq_true_eq] at ht;obtain ⟨⟨h1,h2⟩,h3⟩:=ht;intro H enc w fuel cs d ps hd hb;obtain ⟨xs,n, _,hx,hl,hxl,hget⟩:=DataW.trod_struct hfs hd;simp only [Prod.mk.injEq] at hx;obtain ⟨rfl, _⟩:=hx;have hlen:fs.size=ts.length:=by rw [<- h1];simp
  obtain ⟨x,a1,a2,a3⟩:=h enc w n cs (by rw [hl,h3]) (λ i hi=>by
   have hi':i<fs.size:=ge;have e1:fs[i].type=ts[i]:=by
    have:=congrArg (λ l=>l[i]?) h1;simp [hi',List.getElem?_eq_getElem hi] at this;exact this
   have e2:fs[i].offset=((ts.take i).map P.cellsOf).sum:=by
    have:=congrArg (λ l=>l[i]?) h2;simp [hi',hi] at this;rw [this,List.map_take]
   have:=hget i fs[i] (Array.getElem?_eq_getElem hi');rw [e1,e2,List.getElem?_eq_getElem ge] at this;exact ⟨xs[i].1,xs[i].2,this,hB.part _ _ (List.mem_map.2 ⟨xs[i],List.getElem_mem _,rfl⟩) hb⟩)
  exact ⟨x,a1,a2,hl,a3⟩
 ·cases ht
def ze4 (P:Program) (t:TypeId):Bool:=match P.underlying t with
 |some (.struct _)|some (.array _ _)=>true
 | _=>false
def zgk (agg:Bool) (cs:List AV):AV:=if agg then .agg cs else mZ cs 0
theorem zhn {α:Type}{en:α->List AV}{Q:α->Prop} (h:nR P B bk t en Q){ag:Bool} (ho:ze4 P t=ag) (h1:ag=false->P.cellsOf t=1){H:Type}{enc:TypeId×Value->H}{base:Nat}{r:Reach}{d:DataW H}{ps:List MemPlace}
  (hval:Value.okWide P W r base t v) (hd:DataW.Trod enc P W 0 (λ _=>true) true t v d ps) (hb:bk d<=B):∃x,bY rT W zdm (zgk ag (en x)) v∧Q x:=by
 obtain ⟨fuel,hd⟩:=hd;obtain ⟨x,a1,a2,a3,a4⟩:=h enc W fuel _ d ps hd hb;refine ⟨x, ?_,a4⟩;unfold ze4 at ho;unfold Value.okWide at hval;split at ho
 ·rename_i hu;subst ho;rw [hu] at hval;obtain ⟨cs,rfl, _, _⟩:=hval;exact .agg (vs:=cs.toList) a2 a1
 ·rename_i hu;subst ho;rw [hu] at hval;obtain ⟨cs,rfl, _, _⟩:=hval;exact .agg (vs:=cs.toList) a2 a1
 ·subst ho;rw [h1 rfl] at a3;have hv:v.cells.toList= [v]:=by
   unfold Value.cells at a3 a2 ⊢;split
   ·rename_i cs;exfalso;split at hval
    ·simp_all
    ·simp_all
    ·unfold Cell.okWide at hval;split at hval<;>simp_all [Cell.ok]
   ·rfl
  rw [hv] at a1;cases he:en x with
  |nil=>rw [he] at a1;cases a1
  |cons y ys=>
   rw [he] at a1;cases a1 with
   |cons a1 _=>exact a1

theorem Sk {f:Func}{H:Type}{enc:TypeId×Value->H}{W':World}{ds gs:List (DataW H)}
  (hlo:laidOutB P=true) (hts:f.params.toList.all (λ t=>P.readableRec t && decide (t<P.types.size))=true) (hv:s.vars= [])
  (hW:DataW.Whole enc P f.params.toList s.vars apart W args.toList ds gs before)
  (hres:∀ (b:Nat) (sp:Nat->Bool) (hd:Bool),DataW.TrodAll enc P W' b sp hd f.resultTypes.toList (v.resultList f.resultTypes.size) (s.fn H (ds++gs)).results [])
  (hargs:(s.fn H (ds++gs)).args=ds) (hvars:(s.fn H (ds++gs)).vars= [])
  (hfr:Fr W (λ _=>False) W')
  (hok:∀ (j:Nat) (t:TypeId) (r:Value),f.resultTypes[j]? =some t->(v.resultList f.resultTypes.size)[j]? =some r->Value.okWide P W' .any 0 t r):
  s.post enc P f apart fresh handsOn again W args v W':=by
 have hlt:∀p ∈ before,p.block<W.heap.size:=λ p hp=>hW.lt p hp;have hsame:∀p:MemPlace,p.block<W.heap.size->W.sameAt W' p:=λ p hp=>(Go.RowKit.Below.same ⟨hfr.os,hfr.tape,hfr.output,hfr.size,λ k hk=>hfr.block k hk (λ h=>h)⟩ hp)
 obtain ⟨p,q,hA,hV,hpq,hz,hn⟩:=id hW;rw [hv] at hV;have hq:q= []∧gs= []:=by
  cases gs with
  |nil=>exact ⟨hV,rfl⟩
  |cons g gs=>exact hV.elim
 obtain ⟨rfl,rfl⟩:=hq;rw [List.append_nil] at hpq;subst hpq;have key:∀ (sp:Nat->Bool) (ts:List TypeId) (vs:List Value) (ds:List (DataW H)) (ps:List MemPlace),ts.all (λ t=>P.readableRec t && decide (t<P.types.size))=true->(∀x ∈ ps,x.block<W.heap.size)->(∀x ∈ ps,sp x.block=true)->
   DataW.TrodAll enc P W 0 (λ _=>true) true ts vs ds ps->DataW.TrodAll enc P W' 0 sp true ts vs ds ps:=by
  intro sp ts;induction ts with
  |nil=>
   intro vs ds ps _ _ _ h;cases vs<;>cases ds<;>simp [DataW.TrodAll] at h ⊢;exact h
  |cons t ts ih=>
   intro vs ds ps ht hlt hsp h;obtain ⟨v,vs',d,ds',a,b,rfl,rfl,rfl,h1,h2⟩:=ChangeShapes.trodAll_cons h;simp only [List.all_cons,Bool.and_eq_true,decide_eq_true_eq] at ht;obtain ⟨⟨hr,hs⟩,hts⟩:=ht;exact ⟨a,b,WideElems.Trod_stays hlo hr hs h1 (λ x hx=>hsame x (hlt x (List.mem_append_left _ hx))) (λ x hx=>hsp x (List.mem_append_left _ hx)),
    ih _ _ _ (by simpa using hts) (λ x hx=>hlt x (List.mem_append_right _ hx)) (λ x hx=>hsp x (List.mem_append_right _ hx)) h2,rfl⟩
 have key':∀sp:Nat->Bool,(∀x ∈ before,sp x.block=true)->DataW.TrodAll enc P W' 0 sp true f.params.toList args.toList (s.fn H (ds++ [])).args before:=λ sp hsp=>by
  rw [hargs];exact key sp _ _ _ _ hts hlt hsp hA
 have kv:∀sp:Nat->Bool,DataW.TrodVars enc P W' sp s.vars (s.fn H (ds++ [])).vars []:=λ sp=>by rw [hv,hvars];rfl
 refine ⟨ds, [],before, [],before, [],hW,hres _ _ _,key' _ (λ x hx=>by simpa using hlt x hx),kv _, ?_,λ _=>⟨hok, _, _,([]++before)++ [],⟨[]++before, [],ChangeShapes.trodAll_append (key' _ λ _ _=>rfl) (hres _ _ _),kv _,rfl, ?_, ?_⟩, ?_⟩⟩
 ·refine ⟨hfr.os,hfr.output,λ i hi=> ?_⟩;rw [hfr.block i hi (λ h=>h)];cases h:W.heap[i]? with
  |none=>simp
  |some o=>cases o<;>simp
 ·intro b off hp;have hp':MemPlace.cell b off ∈ before:=by simpa using hp
  have hb:=hlt _ hp';have:=hz b off hp';unfold World.frozen? at this ⊢;simp only [MemPlace.block] at hb;rw [show W'.heap[b]? =W.heap[b]? from hfr.block b hb (λ h=>h)];exact this
 ·intro ha;simpa using hn ha
 ·intro x hx _;simpa using hx
theorem jQ {f:FuncId}{fn:Func}{tb:TypeId}{H:Type}{enc:TypeId×Value->H}{ds gs:List (DataW H)}
  (hlo:laidOutB P=true) (hts:fn.params.toList.all (λ t=>P.readableRec t && decide (t<P.types.size))=true) (hv:s.vars= []) (hrt:fn.resultTypes= #[tb]) (hb:P.underlying tb=some .bool)
  (hW:DataW.Whole enc P fn.params.toList s.vars apart W args.toList ds gs before)
  (hfn:gs= []->s.fn H (ds++gs)={ results:= [.lit (.bool true)],args:=ds}) {avs:List AV} (hp:aq P f avs (.v (.bool true))) (hr:aU rT W zdm avs args.toList) (hg:u9 W zdm:=by intro p hp;simp [zb2] at hp):
  Calls P f args W λ e W'=>∃v,e= .returned v∧s.post enc P fn apart fresh handsOn again W args v W':=by
 have hgs:gs= []:=by
  obtain ⟨p,q,hA,hV, _⟩:=hW;rw [hv] at hV;cases gs with
  |nil=>rfl
  |cons g gs=>exact hV.elim
 have:=hp.2 zdm W args.toList (λ k hk=>hk.elim) hg hr;rw [show (⟨args.toList⟩:Array Value)=args from rfl] at this;refine this.mono ?_;rintro e W' ⟨v,rfl,hv',hfr⟩;cases hv';refine ⟨_,rfl,Sk hlo hts hv hW (λ b sp hd=> ?_) (by rw [hfn hgs]) (by rw [hfn hgs]) hfr ?_⟩
 ·rw [hfn hgs,hrt];exact trodAll_cons_mk (RowKit.shut_bool hb _) ChangeShapes.trodAll_mk0
 ·exact RowKit.ok_one hrt rfl (RowKit.okWide_bool_mk hb true)
end
end Go.Av
end
section
open Go Go.Proofs
namespace Go.Av
open Go.Proofs.YtgdfnfffibhkjaaGreatDoor
theorem zc2 {H:Type} (d:DataW H):1<=Rows.uptoBulk d:=by
 cases d with
 |lit l=>cases l<;>simp [Rows.uptoBulk]
 | _=>simp [Rows.uptoBulk]
theorem DU {H:Type}{d:DataW H}{l:List (DataW H)} (h:d ∈ l):Rows.uptoBulk d<=Rows.uptoBulkAll l:=by
 induction l with
 |nil=>cases h
 |cons x r ih=>
  simp only [Rows.uptoBulkAll];rcases List.mem_cons.1 h with e|e
  ·subst e;omega
  ·have:=ih e;omega
theorem PT {H:Type} (l:List (DataW H)):l.length<=Rows.uptoBulkAll l:=by
 induction l with
 |nil=>simp [Rows.uptoBulkAll]
 |cons x r ih=>have:=zc2 x;simp only [Rows.uptoBulkAll,List.length_cons];omega
theorem xh.upto {B:Nat}:xh B (λ d=>Rows.uptoBulk d) where
 len:=λ l r h _=>by
  have:=PT l;simp only [Rows.uptoBulk] at h;omega
 elem:=λ l r d hd h=>by
  have:=DU hd;simp only [Rows.uptoBulk] at h;omega
 part:=λ l d hd h=>by
  have:=DU hd;simp only [Rows.uptoBulk] at h;omega
 str:=λ l h _=>by
  simp only [Rows.uptoBulk] at h;omega
theorem jF {H:Type}{l:List (DataW H)} (hk:Rows.uptoSmall H l=true){d:DataW H} (hd:d ∈ l):Rows.uptoBulk d<=1048576:=by
 have:=DU hd;have h:=of_decide_eq_true hk;omega
end Go.Av
end
section
open Go Go.Proofs Go.Av
namespace Go.Av
open Go.Proofs.YtgdfnfffibhkjaaGreatDoor
abbrev Is:{H:Type}->DataW H->Nat:=λ d=>Rows.uptoBulk d
abbrev G3T:=Int×Int×Int×List (List Int)×List (List Int)×List Int×Unit
def zbL (x:G3T):List AV:= [.v (.int .u8 x.1)]++([.v (.int .u8 x.2.1)]++([.v (.int .u8 x.2.2.1)]++((x.2.2.2.1.map λ l=> [AV.lst 1 (l.map λ n=> [.v (.int .u8 n)])]).flatten++
 ([AV.lst 3 (x.2.2.2.2.1.map λ l=>(l.map λ n=> [AV.v (.int .u8 n)]).flatten)]++((x.2.2.2.2.2.1.map λ n=> [AV.v (.int .u8 n)]).flatten++ [])))))
abbrev P4T:=List Int×List Int×List Int×Int×Int×Unit
def QW (x:P4T):List AV:=(x.1.map λ n=> [AV.v (.int .u8 n)]).flatten++((x.2.1.map λ n=> [AV.v (.int .u8 n)]).flatten++((x.2.2.1.map λ n=> [AV.v (.int .u8 n)]).flatten++([.v (.int .u8 x.2.2.2.1)]++([.v (.int .u8 x.2.2.2.2.1)]++ []))))
abbrev zP (n:Int):Prop:=(Lit.int .u8 n).wf=true
theorem uW:nR Tryz.prog 1048576 Is 5 (λ n:Int=> [.v (.int .u8 n)]) zP:=nR.int Tryz.underlying5 Pi
theorem TN:nR Tryz.prog 1048576 Is 22 (λ l:List Int=> [.lst 1 (l.map λ n=> [.v (.int .u8 n)])]) (λ l=>l.length<=1048576∧∀x ∈ l,zP x):=
 nR.slice (sz:=1) xh.upto Tryz.underlying22 Pi Pi Nat.one_pos uW
theorem zga:nR Tryz.prog 1048576 Is 27 lY (λ x=>Jj x∧x.k0.length<=1048576∧x.k1.length<=1048576∧x.c.length<=1048576):=by
 have hK:nR Tryz.prog 1048576 Is 23 (λ l:List (List Int)=>(l.map λ l=> [AV.lst 1 (l.map λ n=> [.v (.int .u8 n)])]).flatten) (λ l=>l.length=2∧∀x ∈ l,x.length<=1048576∧∀y ∈ x,zP y):=
  nR.array (sz:=1) (n:=2) xh.upto Tryz.underlying23 Pi Pi TN
 have h3:nR Tryz.prog 1048576 Is 152 (λ l:List Int=>(l.map λ n=> [AV.v (.int .u8 n)]).flatten) (λ l=>l.length=3∧∀x ∈ l,zP x):=
  nR.array (sz:=1) (n:=3) xh.upto Tryz.underlying152 Pi Pi uW
 have hC:nR Tryz.prog 1048576 Is 24 (λ l:List (List Int)=> [.lst 3 (l.map λ l=>(l.map λ n=> [AV.v (.int .u8 n)]).flatten)]) (λ l=>l.length<=1048576∧∀x ∈ l,x.length=3∧∀y ∈ x,zP y):=
  nR.slice (sz:=3) xh.upto Tryz.underlying24 Pi Pi Wm h3
 have hFF:nR Tryz.prog 1048576 Is 25 (λ l:List Int=>(l.map λ n=> [AV.v (.int .u8 n)]).flatten) (λ l=>l.length=6∧∀x ∈ l,zP x):=
  nR.array (sz:=1) (n:=6) xh.upto Tryz.underlying25 Pi Pi uW
 have hF:qO Tryz.prog 1048576 Is [5,5,5,23,24,25] zbL (λ x=>zP x.1∧zP x.2.1∧zP x.2.2.1∧(x.2.2.2.1.length=2∧∀z ∈ x.2.2.2.1,z.length<=1048576∧∀y ∈ z,zP y)∧
   (x.2.2.2.2.1.length<=1048576∧∀z ∈ x.2.2.2.2.1,z.length=3∧∀y ∈ z,zP y)∧(x.2.2.2.2.2.1.length=6∧∀y ∈ x.2.2.2.2.2.1,zP y)∧True):=
  qO.cons uW (qO.cons uW (qO.cons uW (qO.cons hK (qO.cons hC (qO.cons hFF qO.nil)))))
 have hT:nR Tryz.prog 1048576 Is 27 zbL (λ x=>zP x.1∧zP x.2.1∧zP x.2.2.1∧(x.2.2.2.1.length=2∧∀z ∈ x.2.2.2.1,z.length<=1048576∧∀y ∈ z,zP y)∧
   (x.2.2.2.2.1.length<=1048576∧∀z ∈ x.2.2.2.2.1,z.length=3∧∀y ∈ z,zP y)∧(x.2.2.2.2.2.1.length=6∧∀y ∈ x.2.2.2.2.2.1,zP y)∧True):=nR.struct xh.upto Pi hF
 intro H enc w fuel cs d ps k1 k2;obtain ⟨x,r1,r2,r3,hx⟩:=hT enc w fuel cs d ps k1 k2;obtain ⟨W,Hh,cut,K,C,F,⟨⟩⟩:=x;obtain ⟨h1,h2,h3',⟨h4,h4'⟩,⟨h5,h5'⟩,⟨h6,h6'⟩, _⟩:=hx;simp only at h1 h2 h3' h4 h4' h5 h5' h6 h6';match K,h4 with
 | [ka,kb], _=>
  match F,h6 with
  | [f0,f1,f2,f3,f4,f5], _=>
   have hCl:∀ (C:List (List Int)),(∀z ∈ C,z.length=3)->(C.map λ l=>(ac l 0,ac l 1,ac l 2)).map N8=C.map λ l=>(l.map λ n=> [AV.v (.int .u8 n)]).flatten:=by
    intro C hC;rw [List.map_map];refine List.map_congr_left λ l hl=> ?_;have:=hC l hl;match l,this with
    | [a,b,c], _=>rfl
   refine ⟨⟨W,Hh,cut,ka,kb,C.map λ l=>(ac l 0,ac l 1,ac l 2),f0,f1,f2,f3,f4,f5⟩, ?_,r2,r3,⟨bounds_u8 h1,bounds_u8 h2,bounds_u8 h3',λ n hn=>bounds_u8 ((h4' ka gt).2 n hn),λ n hn=>bounds_u8 ((h4' kb gt).2 n hn), ?_,
    bounds_u8 (h6' f0 gt),bounds_u8 (h6' f1 gt),bounds_u8 (h6' f2 gt),bounds_u8 (h6' f3 gt),bounds_u8 (h6' f4 gt),bounds_u8 (h6' f5 gt)⟩,(h4' ka gt).1,(h4' kb gt).1,by simpa using h5⟩
   ·unfold lY;simp only;rw [hCl C (λ z hz=>(h5' z hz).1)];exact r1
   ·intro t ht;obtain ⟨z,hz,rfl⟩:=List.mem_map.1 ht;obtain ⟨q1,q2⟩:=h5' z hz;match z,q1 with
    | [a,b,c], _=>exact ⟨bounds_u8 (q2 a gt),bounds_u8 (q2 b gt),bounds_u8 (q2 c gt)⟩
theorem zgb:nR Tryz.prog 1048576 Is 30 kK Ap:=by
 have hFF:nR Tryz.prog 1048576 Is 25 (λ l:List Int=>(l.map λ n=> [AV.v (.int .u8 n)]).flatten) (λ l=>l.length=6∧∀x ∈ l,zP x):=
  nR.array (sz:=1) (n:=6) xh.upto Tryz.underlying25 Pi Pi uW
 have h4:nR Tryz.prog 1048576 Is 28 (λ l:List Int=>(l.map λ n=> [AV.v (.int .u8 n)]).flatten) (λ l=>l.length=4∧∀x ∈ l,zP x):=
  nR.array (sz:=1) (n:=4) xh.upto Tryz.underlying28 Pi Pi uW
 have hF:qO Tryz.prog 1048576 Is [25,25,28,5,5] QW (λ x=>(x.1.length=6∧∀y ∈ x.1,zP y)∧(x.2.1.length=6∧∀y ∈ x.2.1,zP y)∧(x.2.2.1.length=4∧∀y ∈ x.2.2.1,zP y)∧zP x.2.2.2.1∧zP x.2.2.2.2.1∧True):=
  qO.cons hFF (qO.cons hFF (qO.cons h4 (qO.cons uW (qO.cons uW qO.nil))))
 have hT:nR Tryz.prog 1048576 Is 30 QW (λ x=>(x.1.length=6∧∀y ∈ x.1,zP y)∧(x.2.1.length=6∧∀y ∈ x.2.1,zP y)∧(x.2.2.1.length=4∧∀y ∈ x.2.2.1,zP y)∧zP x.2.2.2.1∧zP x.2.2.2.2.1∧True):=nR.struct xh.upto Pi hF;intro H enc w fuel cs d ps k1 k2;obtain ⟨x,r1,r2,r3,hx⟩:=hT enc w fuel cs d ps k1 k2;obtain ⟨c,k,h,r,s,⟨⟩⟩:=x;obtain ⟨⟨a1,a2⟩,⟨b1,b2⟩,⟨c1,c2⟩,d1,e1, _⟩:=hx;simp only at a1 a2 b1 b2 c1 c2 d1 e1;have hfl:∀l:List Int,(l.map λ n=> [AV.v (.int .u8 n)]).flatten=l.map λ n=>AV.v (.int .u8 n):=λ l=>by
  induction l with
  |nil=>rfl
  |cons x l ih=>simp only [List.map_cons,List.flatten_cons,ih];rfl
 refine ⟨⟨c,k,h,r,s⟩, ?_,r2,r3,⟨a1,b1,c1,λ n hn=>bounds_u8 (a2 n hn),λ n hn=>bounds_u8 (b2 n hn),λ n hn=>bounds_u8 (c2 n hn),bounds_u8 d1,bounds_u8 e1⟩⟩;unfold QW at r1;rw [hfl,hfl,hfl] at r1;exact r1
end Go.Av
end
section
open Go Go.Proofs Go.Av
namespace Go.Av
open Go.Proofs.YtgdfnfffibhkjaaGreatDoor
theorem yz:nR Tryz.prog 1048576 Is 32 dX pS:=by
 have hF:qO Tryz.prog 1048576 Is [27,30,22] (λ x:rM×uT×List Int×Unit=>lY x.1++(kK x.2.1++([.lst 1 (x.2.2.1.map λ n=> [.v (.int .u8 n)])]++ [])))
   (λ x=>(Jj x.1∧x.1.k0.length<=1048576∧x.1.k1.length<=1048576∧x.1.c.length<=1048576)∧Ap x.2.1∧(x.2.2.1.length<=1048576∧∀y ∈ x.2.2.1,zP y)∧True):=qO.cons zga (qO.cons zgb (qO.cons TN qO.nil))
 have hT:nR Tryz.prog 1048576 Is 32 (λ x:rM×uT×List Int×Unit=>lY x.1++(kK x.2.1++([.lst 1 (x.2.2.1.map λ n=> [.v (.int .u8 n)])]++ [])))
   (λ x=>(Jj x.1∧x.1.k0.length<=1048576∧x.1.k1.length<=1048576∧x.1.c.length<=1048576)∧Ap x.2.1∧(x.2.2.1.length<=1048576∧∀y ∈ x.2.2.1,zP y)∧True):=nR.struct xh.upto Pi hF
 intro H enc w fuel cs d ps k1 k2;obtain ⟨x,r1,r2,r3,hx⟩:=hT enc w fuel cs d ps k1 k2;obtain ⟨g,p,k,⟨⟩⟩:=x;obtain ⟨⟨a1,a2,a3,a4⟩,b1,⟨c1,c2⟩, _⟩:=hx;simp only at a1 a2 a3 a4 b1 c1 c2;exact ⟨⟨g,p,k⟩,r1,r2,r3,⟨a1,b1,λ n hn=>bounds_u8 (c2 n hn),WA,WA,WA,WA⟩⟩
end Go.Av
end
